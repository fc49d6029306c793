/- What Put of a pool does. -/
import Derived.Test.YtliakkpmmmgmhaaPool3
namespace Go.Proofs.Ytliakkpmmmgmhaa
open Go.RowKit

set_option maxRecDepth 100000 in
set_option maxHeartbeats 1000000 in
theorem put_none (n : Int) (A : Option Addr) (k c : Nat) (w : World) : Calls Try.prog 10 #[.pointer none, .int .i64 n, .slice A k c] w fun e w' => e = .returned (.int .i64 (-1)) ∧ w = w' := by
  go_enter Try.func10, Try.ntmps10
  go_wp2
  go_ret
  exact ⟨rfl, rfl⟩
set_option maxRecDepth 100000 in
set_option maxHeartbeats 1000000 in
theorem put_neg (a : Addr) (n : Int) (hn : n < 0) (A : Option Addr) (k c : Nat) (w : World) : Calls Try.prog 10 #[.pointer (some a), .int .i64 n, .slice A k c] w fun e w' => e = .returned (.int .i64 (-1)) ∧ w = w' := by
  go_enter Try.func10, Try.ntmps10
  go_wp2
  go_ret
  exact ⟨rfl, rfl⟩

theorem sweep_at {L L' : List Frm} {h a h' : Nat} (s : Sweep L h a L' h') : ∃ f, L'[a]? = some f := by
  induction s with
  | stop hf _ => exact ⟨_, hf⟩
  | go _ _ _ ih => exact ih
/-- Where a page goes: the frame, the page that goes for it; the frames, the hand, the map behind that. -/
def PutAt (G : PoolG) (n : Int) (a : Nat) (gone : Int) (L : List Frm) (h : Nat) (f : Frm) (m : List (Int × Value)) : Prop :=
  L[a]? = some f ∧
  ((mget G.m n = some (.int .i64 a) ∧ gone = -1 ∧ L = G.L ∧ h = G.hand ∧ m = G.m ∧ f.page = n) ∨
   (mget G.m n = none ∧ gone = f.page ∧ ((firstEmpty G.L = a ∧ L = G.L ∧ h = G.hand) ∨ (firstEmpty G.L = -1 ∧ Sweep G.L G.hand a L h)) ∧ (∀ k, mget m k = if k = n then some (.int .i64 a) else if 0 ≤ f.page ∧ k = f.page then none else mget G.m k)))
/-- The memory in which the frame is written next. -/
def PutReady (w : World) (G : PoolG) (n : Int) (a : Nat) (gone : Int) (wc : World) : Prop :=
  ∃ (L : List Frm) (C : Array Value) (h : Nat) (f : Frm) (m : List (Int × Value)) (w1 : World), PutAt G n a gone L h f m ∧ PoolRep w1 (G.swept L C h) ∧ Turned G.own w w1 ∧ IMap wc G.mb m ∧ Turned (fun k => k = G.mb) w1 wc
/-- What Put tells, and leaves. -/
def PutDone (w : World) (G : PoolG) (n : Int) (l : List UInt8) (e : Ending) (w' : World) : Prop :=
  ∃ (a : Nat) (gone : Int) (L : List Frm) (C : Array Value) (h : Nat) (f : Frm) (m : List (Int × Value)) (A : Option Addr) (k c : Nat),
    e = .returned (.int .i64 gone) ∧ PutAt G n a gone L h f m ∧ PoolRep w' ((G.swept L C h).frame a { page := n, mark := true, A := A, n := k, c := c, l := l } m) ∧ Turned G.own w w' ∧
    (∀ g o, A = some ⟨g, o, none⟩ → w.heap.size ≤ g)

set_option maxRecDepth 100000 in
set_option maxHeartbeats 4000000 in
theorem put_g {tb : TypeId} (G : PoolG) (n : Int) (A : Option Addr) (k c : Nat) (l : List UInt8) (w : World) (h : PoolRep w G) (hn0 : 0 ≤ n) (hn1 : n ≤ 9223372036854775807) (hb : ∀ w', Turned G.own w w' → Bs tb w' A k c l) (hk : k ≤ 1000) :
    Calls Try.prog 10 #[.pointer (some ⟨G.p, 0, none⟩), .int .i64 n, .slice A k c] w (PutDone w G n l) := by
  have c0 : w.cell? ⟨G.p, 0, none⟩ = some (.slice (some ⟨G.fb, 0, none⟩) G.L.length G.cap) := by rw [h.bp.cell]; rfl
  have c2 : w.cell? ⟨G.p, 2, none⟩ = some (.map (some G.mb)) := by rw [h.bp.cell]; rfl
  have hz : ∀ W, (zeroValue 3).run Try.prog W = .ok (.int .i64 0) W := fun _ => by kernel_rfl
  obtain ⟨iv, ok, hl, hcase⟩ : ∃ (iv : Int) (ok : Bool), (Instr.lookup 58 (.map (some G.mb)) (.int .i64 n) true).run Try.prog w = .ok (.tuple #[.int .i64 iv, .bool ok]) w ∧ Hid ((ok = true ∧ mget G.m n = some (.int .i64 iv)) ∨ (ok = false ∧ mget G.m n = none)) := by
    cases hg : mget G.m n with
    | some v =>
      obtain ⟨i, f, _, _, _, rfl⟩ := (h.idx n v).1 hg
      exact ⟨i, true, h.bm.lookup_yes Try.underlying58 Try.underlying3 hg, .inl ⟨rfl, rfl⟩⟩
    | none => exact ⟨0, false, h.bm.lookup_no Try.underlying58 Try.underlying3 (hz w) hg, .inr ⟨rfl, rfl⟩⟩
  have HH := Lib.hid h
  have HBB := Lib.hid hb
  clear h hb hz
  go_enter Try.func10, Try.ntmps10
  go_upto_if 26 with (fail)
  go_cut [7, 8, 9] (fun s7 _s8 s9 wc => ∃ (a : Nat) (gone : Int), s7 = .int .i64 a ∧ s9 = .int .i64 gone ∧ Hid (PutReady w G n a gone wc))
  case first =>
    rcases hcase.out with ⟨rfl, hg⟩ | ⟨rfl, hg⟩
    · go_wp2_with fail
      go_meet
      obtain ⟨i, f, hf, hfp, _, hv⟩ := (HH.out.idx n _).1 hg
      injection hv with _ hv
      refine ⟨i, -1, by rw [hv], rfl, G.L, G.C, G.hand, f, G.m, w, ⟨hf, .inl ⟨by rw [hg, hv], rfl, rfl, rfl, rfl, hfp⟩⟩, HH.out, Turned.refl _ _, HH.out.bm, Turned.refl _ _⟩
    · have HG := Lib.hid hg
      clear hg hcase
      go_wp2_with fail
      refine (place_c G _ HH.out).mono ?_
      rintro e w1 ⟨a, L, C, hd, rfl, hpl, hP, hT⟩
      obtain ⟨f, hf⟩ : ∃ f, L[a]? = some f := by
        rcases hpl with ⟨h1, h2, _⟩ | ⟨_, hs⟩
        · obtain ⟨i, f, h3, h4, _⟩ := firstEmpty_lt (L := G.L) (by omega)
          have : i = a := by omega
          subst this; exact ⟨f, by rw [h2]; exact h4⟩
        · exact sweep_at hs
      obtain ⟨r0, _, _⟩ := hP.row a f hf
      have b0 : w1.cell? ⟨G.p, 0, none⟩ = some (.slice (some ⟨G.fb, 0, none⟩) L.length G.cap) := hP.bp.cell 0
      have b2 : w1.cell? ⟨G.p, 2, none⟩ = some (.map (some G.mb)) := hP.bp.cell 2
      have b3 : w1.cell? ⟨G.fb, a * 3, none⟩ = some (.int .i64 f.page) := (hP.bf.cell _).trans r0
      have hlt : a < L.length := (List.getElem?_eq_some_iff.1 hf).1
      have hi0 : (0 : Int) ≤ a := by omega
      have hi1 : (a : Int) < L.length := by omega
      have HPL := Lib.hid hpl
      have HP := Lib.hid (And.intro hP (And.intro hT hf))
      clear hpl hP hT hf r0
      have hne1 : G.p ≠ G.mb := fun e => HH.out.mb_ne_p e.symm
      by_cases hgone : 0 ≤ f.page
      · go_wp2_with (first
          | (at_delete
             (refine wpList_mdel rfl (.tmp 42) (.tmp 43) 58 3 rfl Try.underlying58 Try.underlying3 rfl f.page rfl HP.out.1.bm ?_)
             intro w2 hm2 ht2 hs2
             have d2 : w2.cell? ⟨G.p, 2, none⟩ = some (.map (some G.mb)) := ht2.cell b2 hne1
             have HM2 := Lib.hid (And.intro hm2 ht2)
             clear hm2 ht2 hs2)
          | (at_mapUpdate
             (refine wpList_mput rfl (.tmp 47) (.tmp 48) (.tmp 49) 58 rfl Try.underlying58 Try.underlying3 rfl n rfl (.int .i64 a) rfl HM2.out.1 ?_)
             intro w3 hm3 ht3 hs3
             have HM3 := Lib.hid (And.intro hm3 (HM2.out.2.trans ht3 (fun _ _ h => h)))
             clear hm3 ht3 hs3))
        go_meet
        refine ⟨a, f.page, rfl, rfl, L, C, hd, f, _, w1, ⟨HP.out.2.2, .inr ⟨HG.out, rfl, HPL.out, ?_⟩⟩, HP.out.1, HP.out.2.1, HM3.out.1, HM3.out.2⟩
        intro k
        rw [mget_put]
        by_cases e : k = n
        · rw [if_pos e, if_pos e]
        · rw [if_neg e, if_neg e]
          show mget (mdel G.m f.page) k = _
          rw [mget_del]
          by_cases e2 : k = f.page
          · rw [if_pos e2, if_pos ⟨hgone, e2⟩]
          · rw [if_neg e2, if_neg (fun h => e2 h.2)]
      · go_wp2_with (
             at_mapUpdate
             (refine wpList_mput rfl (.tmp 47) (.tmp 48) (.tmp 49) 58 rfl Try.underlying58 Try.underlying3 rfl n rfl (.int .i64 a) rfl HP.out.1.bm ?_)
             intro w3 hm3 ht3 hs3
             have HM3 := Lib.hid (And.intro hm3 ht3)
             clear hm3 ht3 hs3)
        go_meet
        refine ⟨a, f.page, rfl, rfl, L, C, hd, f, _, w1, ⟨HP.out.2.2, .inr ⟨HG.out, rfl, HPL.out, ?_⟩⟩, HP.out.1, HP.out.2.1, HM3.out.1, HM3.out.2⟩
        intro k
        rw [mget_put]
        by_cases e : k = n
        · rw [if_pos e, if_pos e]
        · rw [if_neg e, if_neg e, if_neg (fun h => by have := h.1; omega)]
          rfl
  case rest =>
    obtain ⟨a, gone, rfl, rfl, hready⟩ := hcut
    obtain ⟨L, C, hd, f, m, w1, hat, hP, hT1, hM, hT2⟩ := hready.out
    clear hready hcase hl c0 c2
    have hlt : a < L.length := (List.getElem?_eq_some_iff.1 hat.1).1
    have hi0 : (0 : Int) ≤ a := by omega
    have hi1 : (a : Int) < L.length := by omega
    have hne1 : G.p ≠ G.mb := fun e => HH.out.mb_ne_p e.symm
    have hne2 : G.fb ≠ G.mb := fun e => HH.out.mb_ne_fb e.symm
    have hne3 : G.p ≠ G.fb := HH.out.p_ne_fb
    have hbp : Blk wc G.p 61 (G.swept L C hd).head := hP.bp.turned hT2 hne1
    have hbf : Blk wc G.fb 64 C := hP.bf.turned hT2 hne2
    have hTc : Turned G.own w wc := hT1.trans hT2 (fun k _ e => by subst e; exact Or.inr (Or.inr rfl))
    have hB := HBB.out _ hTc
    obtain ⟨r0, r1, r2⟩ := hP.row a f hat.1
    have c0 : wc.cell? ⟨G.p, 0, none⟩ = some (.slice (some ⟨G.fb, 0, none⟩) L.length G.cap) := hbp.cell 0
    have c3 : wc.cell? ⟨G.fb, a * 3, none⟩ = some (.int .i64 f.page) := (hbf.cell _).trans r0
    have c4 : wc.cell? ⟨G.fb, a * 3 + 1, none⟩ = some (.bool f.mark) := (hbf.cell _).trans r1
    have c5 : wc.cell? ⟨G.fb, a * 3 + 2, none⟩ = some (.slice f.A f.n f.c) := (hbf.cell _).trans r2
    have HR := Lib.hid (And.intro hat (And.intro hP (And.intro hT1 (And.intro hM (And.intro hT2 (And.intro hbp (And.intro hbf (And.intro hTc hB))))))))
    clear hat hP hT1 hM hT2 hbp hbf hTc hB r0 r1 r2
    go_wp2_with fail
    go_region_held3 (fun w' => w'.cell? ⟨G.p, 0, none⟩ = some (.slice (some ⟨G.fb, 0, none⟩) L.length G.cap))
      (first | go_keep | exact cell_far (cell_far (cell_far (by assumption) hne3) hne3) hne3)
      ((go_at_call 27
        (refine (clone_c A k c l _ (HR.out.2.2.2.2.2.2.2.2.drew) (by omega)).mono ?_)
        rintro e w2 ⟨v, rfl, hfr, hb⟩
        obtain ⟨A', k', c', rfl, hB', hf'⟩ := hfr
        have hbp2 := (HR.out.2.2.2.2.2.1.drew).below hb (Blk.lt (HR.out.2.2.2.2.2.1.drew))
        have hbf2 := (HR.out.2.2.2.2.2.2.1.drew).below hb (Blk.lt (HR.out.2.2.2.2.2.2.1.drew))
        obtain ⟨r0, r1, r2⟩ := HR.out.2.1.row a f HR.out.1.1
        have d0 : w2.cell? ⟨G.p, 0, none⟩ = some (.slice (some ⟨G.fb, 0, none⟩) L.length G.cap) := hbp2.cell 0
        have d3 : w2.cell? ⟨G.fb, a * 3, none⟩ = some (.int .i64 f.page) := (hbf2.cell _).trans r0
        have d4 : w2.cell? ⟨G.fb, a * 3 + 1, none⟩ = some (.bool f.mark) := (hbf2.cell _).trans r1
        have d5 : w2.cell? ⟨G.fb, a * 3 + 2, none⟩ = some (.slice f.A f.n f.c) := (hbf2.cell _).trans r2
        have g3 := hbf2.frozen (a * 3)
        have g4 := hbf2.frozen (a * 3 + 1)
        have g5 := hbf2.frozen (a * 3 + 2)
        have HC := Lib.hid (And.intro hb (And.intro hB' (And.intro hf' (And.intro hbp2 hbf2))))
        clear hb hB' hf' hbp2 hbf2 r0 r1 r2))
    go_wp2
    go_ret
    obtain ⟨hat, hP, hT1, hM, hT2, hbp, hbf, hTc, hB⟩ := HR.out
    obtain ⟨hb, hB', hf', hbp2, hbf2⟩ := HC.out
    have hbel : Below wc.heap.size wc w2 := ⟨hb.os, hb.tape, hb.output, hb.size, hb.block⟩
    have hTw2 : Turned G.own w w2 := hTc.trans (Turned.of_below (S := fun _ => False) hbel) (fun _ _ h => h.elim)
    have hM2 : IMap w2 G.mb m := hM.turned (Turned.of_below (S := fun _ => False) hbel) id
    let F : Frm := { page := n, mark := true, A := A', n := k', c := c', l := l }
    have hT3 : Turned G.own w2 (putW w2 G.fb a F) := putW_turned F (Or.inr (Or.inl rfl))
    have hT1c : Turned G.own w1 (putW w2 G.fb a F) := ((hT2.more (S' := G.own) (fun k _ e => by subst e; exact Or.inr (Or.inr rfl))).trans (Turned.of_below (S := G.own) hbel) (fun _ _ h => h)).trans hT3 (fun _ _ h => h)
    have h8 : ∀ j, G.own j → Not8 5 w2 j := by
      rintro j (rfl | rfl | rfl)
      · exact hbp2.not8 (by decide)
      · exact hbf2.not8 (by decide)
      · exact hM2.not8
    refine ⟨a, gone, L, C, hd, f, m, A', k', c', rfl, hat, ?_, hTw2.trans hT3 (fun _ _ h => h), ?_⟩
    · refine frame_ok (f' := F) hP hat.1 hT1c ?_ (putW_blk (i := a) hbf2 F) (putW_map (fb := G.fb) (i := a) hM2 F) (hB'.turned hT3 h8) ?_ ⟨by show -1 ≤ n; omega, hn1⟩ ?_ ?_
      · have := putW_far (fb := G.fb) (i := a) hbp2 F hne3
        have e : ((G.swept L C hd).frame a F m).head = (G.swept L C hd).head := by simp [PoolG.head, PoolG.frame, PoolG.swept]
        rw [e]; exact this
      · have h1 := hB'.len
        have h2 := hB.len
        show k' ≤ 1000; omega
      · intro _ j g hg hgp
        have hi := (hP.idx n (.int .i64 j)).2 ⟨j, g, hg, hgp, hn0, rfl⟩
        rcases hat.2 with ⟨h1, _⟩ | ⟨h1, _⟩
        · have h1' : mget (G.swept L C hd).m n = some (.int .i64 a) := h1
          rw [h1'] at hi; injection hi with hi; injection hi with _ hi; omega
        · have h1' : mget (G.swept L C hd).m n = none := h1
          rw [h1'] at hi; cases hi
      · intro j
        rcases hat.2 with ⟨h1, _, _, _, h2, h3⟩ | ⟨h1, _, _, h2⟩
        · subst h2
          by_cases e : j = n
          · rw [if_pos ⟨hn0, e⟩, e]; exact h1
          · rw [if_neg (show ¬ (0 ≤ F.page ∧ j = F.page) from fun h => e h.2), if_neg (show ¬ (0 ≤ f.page ∧ j = f.page) from fun h => e (h.2.trans h3))]; rfl
        · rw [h2 j]
          by_cases e : j = n
          · rw [if_pos e, if_pos ⟨hn0, e⟩]
          · rw [if_neg e, if_neg (show ¬ (0 ≤ F.page ∧ j = F.page) from fun h => e h.2)]; rfl
    · intro g o e
      have := hf' g o e
      have := hTc.size
      simp only [World.size_drew] at *
      omega
theorem put_c (G : PoolG) (n : Int) (A : Option Addr) (k c : Nat) (l : List UInt8) (w : World) (h : PoolRep w G) (hn0 : 0 ≤ n) (hn1 : n ≤ 9223372036854775807) (hb : Bs 5 w A k c l) (hk : k ≤ 1000) :
    Calls Try.prog 10 #[.pointer (some ⟨G.p, 0, none⟩), .int .i64 n, .slice A k c] w (PutDone w G n l) :=
  put_g G n A k c l w h hn0 hn1 (fun _ hT => hb.turned hT h.not8) hk
end Go.Proofs.Ytliakkpmmmgmhaa
