/- Parts of the proof, put together: Pool4, CatFrame, Pool5, Wire, Wire2, Wire3, Wire4, Wire5, Wire6, Crc, Disk0, Disk1, Disk2, Row, Disk3. -/
import Derived.Test.YtliakkpmmmgmhaaMRowPagerMost1
import Derived.Carry
import Derived.OneCell
import Derived.Laws.BitsAllLaws
import Derived.Laws.OwnMore
import Derived.Laws.CopyOwn
import Derived.Laws.CopyRow
import Derived.Great.BuildSlice
import Derived.Deep.RegionLaw
import Derived.ArgAppend
import Derived.Deep.RegionHeld3
/- What Put of a pool does. -/
namespace Go.Proofs.Ytliakkpmmmgmhaa
open Go.RowKit

set_option maxRecDepth 100000 in
set_option maxHeartbeats 1000000 in
theorem put_none (n : Int) (A : Option Addr) (k c : Nat) (w : World) : Calls Try.prog 10 #[.pointer none, .int .i64 n, .slice A k c] w fun e w' => e = .returned (.int .i64 (-1)) ∧ w = w' := by
  go_enter Try.func10, Try.ntmps10
  go_wp2
  go_ret
  exact ⟨rfl, rfl⟩
set_option maxRecDepth 100000 in
set_option maxHeartbeats 1000000 in
theorem put_neg (a : Addr) (n : Int) (hn : n < 0) (A : Option Addr) (k c : Nat) (w : World) : Calls Try.prog 10 #[.pointer (some a), .int .i64 n, .slice A k c] w fun e w' => e = .returned (.int .i64 (-1)) ∧ w = w' := by
  go_enter Try.func10, Try.ntmps10
  go_wp2
  go_ret
  exact ⟨rfl, rfl⟩

theorem sweep_at {L L' : List Frm} {h a h' : Nat} (s : Sweep L h a L' h') : ∃ f, L'[a]? = some f := by
  induction s with
  | stop hf _ => exact ⟨_, hf⟩
  | go _ _ _ ih => exact ih
/-- Where a page goes: the frame, the page that goes for it; the frames, the hand, the map behind that. -/
def PutAt (G : PoolG) (n : Int) (a : Nat) (gone : Int) (L : List Frm) (h : Nat) (f : Frm) (m : List (Int × Value)) : Prop :=
  L[a]? = some f ∧
  ((mget G.m n = some (.int .i64 a) ∧ gone = -1 ∧ L = G.L ∧ h = G.hand ∧ m = G.m ∧ f.page = n) ∨
   (mget G.m n = none ∧ gone = f.page ∧ ((firstEmpty G.L = a ∧ L = G.L ∧ h = G.hand) ∨ (firstEmpty G.L = -1 ∧ Sweep G.L G.hand a L h)) ∧ (∀ k, mget m k = if k = n then some (.int .i64 a) else if 0 ≤ f.page ∧ k = f.page then none else mget G.m k)))
/-- The memory in which the frame is written next. -/
def PutReady (w : World) (G : PoolG) (n : Int) (a : Nat) (gone : Int) (wc : World) : Prop :=
  ∃ (L : List Frm) (C : Array Value) (h : Nat) (f : Frm) (m : List (Int × Value)) (w1 : World), PutAt G n a gone L h f m ∧ PoolRep w1 (G.swept L C h) ∧ Turned G.own w w1 ∧ IMap wc G.mb m ∧ Turned (fun k => k = G.mb) w1 wc
/-- What Put tells, and leaves. -/
def PutDone (w : World) (G : PoolG) (n : Int) (l : List UInt8) (e : Ending) (w' : World) : Prop :=
  ∃ (a : Nat) (gone : Int) (L : List Frm) (C : Array Value) (h : Nat) (f : Frm) (m : List (Int × Value)) (A : Option Addr) (k c : Nat),
    e = .returned (.int .i64 gone) ∧ PutAt G n a gone L h f m ∧ PoolRep w' ((G.swept L C h).frame a { page := n, mark := true, A := A, n := k, c := c, l := l } m) ∧ Turned G.own w w' ∧
    (∀ g o, A = some ⟨g, o, none⟩ → w.heap.size ≤ g)

set_option maxRecDepth 100000 in
set_option maxHeartbeats 4000000 in
theorem put_g {tb : TypeId} (G : PoolG) (n : Int) (A : Option Addr) (k c : Nat) (l : List UInt8) (w : World) (h : PoolRep w G) (hn0 : 0 ≤ n) (hn1 : n ≤ 9223372036854775807) (hb : ∀ w', Turned G.own w w' → Bs tb w' A k c l) (hk : k ≤ 1000) :
    Calls Try.prog 10 #[.pointer (some ⟨G.p, 0, none⟩), .int .i64 n, .slice A k c] w (PutDone w G n l) := by
  have c0 : w.cell? ⟨G.p, 0, none⟩ = some (.slice (some ⟨G.fb, 0, none⟩) G.L.length G.cap) := by rw [h.bp.cell]; rfl
  have c2 : w.cell? ⟨G.p, 2, none⟩ = some (.map (some G.mb)) := by rw [h.bp.cell]; rfl
  have hz : ∀ W, (zeroValue 3).run Try.prog W = .ok (.int .i64 0) W := fun _ => by kernel_rfl
  obtain ⟨iv, ok, hl, hcase⟩ : ∃ (iv : Int) (ok : Bool), (Instr.lookup 58 (.map (some G.mb)) (.int .i64 n) true).run Try.prog w = .ok (.tuple #[.int .i64 iv, .bool ok]) w ∧ Hid ((ok = true ∧ mget G.m n = some (.int .i64 iv)) ∨ (ok = false ∧ mget G.m n = none)) := by
    cases hg : mget G.m n with
    | some v =>
      obtain ⟨i, f, _, _, _, rfl⟩ := (h.idx n v).1 hg
      exact ⟨i, true, h.bm.lookup_yes Try.underlying58 Try.underlying3 hg, .inl ⟨rfl, rfl⟩⟩
    | none => exact ⟨0, false, h.bm.lookup_no Try.underlying58 Try.underlying3 (hz w) hg, .inr ⟨rfl, rfl⟩⟩
  have HH := Lib.hid h
  have HBB := Lib.hid hb
  clear h hb hz
  go_enter Try.func10, Try.ntmps10
  go_upto_if 26 with (fail)
  go_cut [7, 8, 9] (fun s7 _s8 s9 wc => ∃ (a : Nat) (gone : Int), s7 = .int .i64 a ∧ s9 = .int .i64 gone ∧ Hid (PutReady w G n a gone wc))
  case first =>
    rcases hcase.out with ⟨rfl, hg⟩ | ⟨rfl, hg⟩
    · go_wp2_with fail
      go_meet
      obtain ⟨i, f, hf, hfp, _, hv⟩ := (HH.out.idx n _).1 hg
      injection hv with _ hv
      refine ⟨i, -1, by rw [hv], rfl, G.L, G.C, G.hand, f, G.m, w, ⟨hf, .inl ⟨by rw [hg, hv], rfl, rfl, rfl, rfl, hfp⟩⟩, HH.out, Turned.refl _ _, HH.out.bm, Turned.refl _ _⟩
    · have HG := Lib.hid hg
      clear hg hcase
      go_wp2_with fail
      refine (place_c G _ HH.out).mono ?_
      rintro e w1 ⟨a, L, C, hd, rfl, hpl, hP, hT⟩
      obtain ⟨f, hf⟩ : ∃ f, L[a]? = some f := by
        rcases hpl with ⟨h1, h2, _⟩ | ⟨_, hs⟩
        · obtain ⟨i, f, h3, h4, _⟩ := firstEmpty_lt (L := G.L) (by omega)
          have : i = a := by omega
          subst this; exact ⟨f, by rw [h2]; exact h4⟩
        · exact sweep_at hs
      obtain ⟨r0, _, _⟩ := hP.row a f hf
      have b0 : w1.cell? ⟨G.p, 0, none⟩ = some (.slice (some ⟨G.fb, 0, none⟩) L.length G.cap) := hP.bp.cell 0
      have b2 : w1.cell? ⟨G.p, 2, none⟩ = some (.map (some G.mb)) := hP.bp.cell 2
      have b3 : w1.cell? ⟨G.fb, a * 3, none⟩ = some (.int .i64 f.page) := (hP.bf.cell _).trans r0
      have hlt : a < L.length := (List.getElem?_eq_some_iff.1 hf).1
      have hi0 : (0 : Int) ≤ a := by omega
      have hi1 : (a : Int) < L.length := by omega
      have HPL := Lib.hid hpl
      have HP := Lib.hid (And.intro hP (And.intro hT hf))
      clear hpl hP hT hf r0
      have hne1 : G.p ≠ G.mb := fun e => HH.out.mb_ne_p e.symm
      by_cases hgone : 0 ≤ f.page
      · go_wp2_with (first
          | (at_delete
             (refine wpList_mdel rfl (.tmp 42) (.tmp 43) 58 3 rfl Try.underlying58 Try.underlying3 rfl f.page rfl HP.out.1.bm ?_)
             intro w2 hm2 ht2 hs2
             have d2 : w2.cell? ⟨G.p, 2, none⟩ = some (.map (some G.mb)) := ht2.cell b2 hne1
             have HM2 := Lib.hid (And.intro hm2 ht2)
             clear hm2 ht2 hs2)
          | (at_mapUpdate
             (refine wpList_mput rfl (.tmp 47) (.tmp 48) (.tmp 49) 58 rfl Try.underlying58 Try.underlying3 rfl n rfl (.int .i64 a) rfl HM2.out.1 ?_)
             intro w3 hm3 ht3 hs3
             have HM3 := Lib.hid (And.intro hm3 (HM2.out.2.trans ht3 (fun _ _ h => h)))
             clear hm3 ht3 hs3))
        go_meet
        refine ⟨a, f.page, rfl, rfl, L, C, hd, f, _, w1, ⟨HP.out.2.2, .inr ⟨HG.out, rfl, HPL.out, ?_⟩⟩, HP.out.1, HP.out.2.1, HM3.out.1, HM3.out.2⟩
        intro k
        rw [mget_put]
        by_cases e : k = n
        · rw [if_pos e, if_pos e]
        · rw [if_neg e, if_neg e]
          show mget (mdel G.m f.page) k = _
          rw [mget_del]
          by_cases e2 : k = f.page
          · rw [if_pos e2, if_pos ⟨hgone, e2⟩]
          · rw [if_neg e2, if_neg (fun h => e2 h.2)]
      · go_wp2_with (
             at_mapUpdate
             (refine wpList_mput rfl (.tmp 47) (.tmp 48) (.tmp 49) 58 rfl Try.underlying58 Try.underlying3 rfl n rfl (.int .i64 a) rfl HP.out.1.bm ?_)
             intro w3 hm3 ht3 hs3
             have HM3 := Lib.hid (And.intro hm3 ht3)
             clear hm3 ht3 hs3)
        go_meet
        refine ⟨a, f.page, rfl, rfl, L, C, hd, f, _, w1, ⟨HP.out.2.2, .inr ⟨HG.out, rfl, HPL.out, ?_⟩⟩, HP.out.1, HP.out.2.1, HM3.out.1, HM3.out.2⟩
        intro k
        rw [mget_put]
        by_cases e : k = n
        · rw [if_pos e, if_pos e]
        · rw [if_neg e, if_neg e, if_neg (fun h => by have := h.1; omega)]
          rfl
  case rest =>
    obtain ⟨a, gone, rfl, rfl, hready⟩ := hcut
    obtain ⟨L, C, hd, f, m, w1, hat, hP, hT1, hM, hT2⟩ := hready.out
    clear hready hcase hl c0 c2
    have hlt : a < L.length := (List.getElem?_eq_some_iff.1 hat.1).1
    have hi0 : (0 : Int) ≤ a := by omega
    have hi1 : (a : Int) < L.length := by omega
    have hne1 : G.p ≠ G.mb := fun e => HH.out.mb_ne_p e.symm
    have hne2 : G.fb ≠ G.mb := fun e => HH.out.mb_ne_fb e.symm
    have hne3 : G.p ≠ G.fb := HH.out.p_ne_fb
    have hbp : Blk wc G.p 61 (G.swept L C hd).head := hP.bp.turned hT2 hne1
    have hbf : Blk wc G.fb 64 C := hP.bf.turned hT2 hne2
    have hTc : Turned G.own w wc := hT1.trans hT2 (fun k _ e => by subst e; exact Or.inr (Or.inr rfl))
    have hB := HBB.out _ hTc
    obtain ⟨r0, r1, r2⟩ := hP.row a f hat.1
    have c0 : wc.cell? ⟨G.p, 0, none⟩ = some (.slice (some ⟨G.fb, 0, none⟩) L.length G.cap) := hbp.cell 0
    have c3 : wc.cell? ⟨G.fb, a * 3, none⟩ = some (.int .i64 f.page) := (hbf.cell _).trans r0
    have c4 : wc.cell? ⟨G.fb, a * 3 + 1, none⟩ = some (.bool f.mark) := (hbf.cell _).trans r1
    have c5 : wc.cell? ⟨G.fb, a * 3 + 2, none⟩ = some (.slice f.A f.n f.c) := (hbf.cell _).trans r2
    have HR := Lib.hid (And.intro hat (And.intro hP (And.intro hT1 (And.intro hM (And.intro hT2 (And.intro hbp (And.intro hbf (And.intro hTc hB))))))))
    clear hat hP hT1 hM hT2 hbp hbf hTc hB r0 r1 r2
    go_wp2_with fail
    go_region_held3 (fun w' => w'.cell? ⟨G.p, 0, none⟩ = some (.slice (some ⟨G.fb, 0, none⟩) L.length G.cap))
      (first | go_keep | exact cell_far (cell_far (cell_far (by assumption) hne3) hne3) hne3)
      ((go_at_call 27
        (refine (clone_c A k c l _ (HR.out.2.2.2.2.2.2.2.2.drew) (by omega)).mono ?_)
        rintro e w2 ⟨v, rfl, hfr, hb⟩
        obtain ⟨A', k', c', rfl, hB', hf'⟩ := hfr
        have hbp2 := (HR.out.2.2.2.2.2.1.drew).below hb (Blk.lt (HR.out.2.2.2.2.2.1.drew))
        have hbf2 := (HR.out.2.2.2.2.2.2.1.drew).below hb (Blk.lt (HR.out.2.2.2.2.2.2.1.drew))
        obtain ⟨r0, r1, r2⟩ := HR.out.2.1.row a f HR.out.1.1
        have d0 : w2.cell? ⟨G.p, 0, none⟩ = some (.slice (some ⟨G.fb, 0, none⟩) L.length G.cap) := hbp2.cell 0
        have d3 : w2.cell? ⟨G.fb, a * 3, none⟩ = some (.int .i64 f.page) := (hbf2.cell _).trans r0
        have d4 : w2.cell? ⟨G.fb, a * 3 + 1, none⟩ = some (.bool f.mark) := (hbf2.cell _).trans r1
        have d5 : w2.cell? ⟨G.fb, a * 3 + 2, none⟩ = some (.slice f.A f.n f.c) := (hbf2.cell _).trans r2
        have g3 := hbf2.frozen (a * 3)
        have g4 := hbf2.frozen (a * 3 + 1)
        have g5 := hbf2.frozen (a * 3 + 2)
        have HC := Lib.hid (And.intro hb (And.intro hB' (And.intro hf' (And.intro hbp2 hbf2))))
        clear hb hB' hf' hbp2 hbf2 r0 r1 r2))
    go_wp2
    go_ret
    obtain ⟨hat, hP, hT1, hM, hT2, hbp, hbf, hTc, hB⟩ := HR.out
    obtain ⟨hb, hB', hf', hbp2, hbf2⟩ := HC.out
    have hbel : Below wc.heap.size wc w2 := ⟨hb.os, hb.tape, hb.output, hb.size, hb.block⟩
    have hTw2 : Turned G.own w w2 := hTc.trans (Turned.of_below (S := fun _ => False) hbel) (fun _ _ h => h.elim)
    have hM2 : IMap w2 G.mb m := hM.turned (Turned.of_below (S := fun _ => False) hbel) id
    let F : Frm := { page := n, mark := true, A := A', n := k', c := c', l := l }
    have hT3 : Turned G.own w2 (putW w2 G.fb a F) := putW_turned F (Or.inr (Or.inl rfl))
    have hT1c : Turned G.own w1 (putW w2 G.fb a F) := ((hT2.more (S' := G.own) (fun k _ e => by subst e; exact Or.inr (Or.inr rfl))).trans (Turned.of_below (S := G.own) hbel) (fun _ _ h => h)).trans hT3 (fun _ _ h => h)
    have h8 : ∀ j, G.own j → Not8 5 w2 j := by
      rintro j (rfl | rfl | rfl)
      · exact hbp2.not8 (by decide)
      · exact hbf2.not8 (by decide)
      · exact hM2.not8
    refine ⟨a, gone, L, C, hd, f, m, A', k', c', rfl, hat, ?_, hTw2.trans hT3 (fun _ _ h => h), ?_⟩
    · refine frame_ok (f' := F) hP hat.1 hT1c ?_ (putW_blk (i := a) hbf2 F) (putW_map (fb := G.fb) (i := a) hM2 F) (hB'.turned hT3 h8) ?_ ⟨by show -1 ≤ n; omega, hn1⟩ ?_ ?_
      · have := putW_far (fb := G.fb) (i := a) hbp2 F hne3
        have e : ((G.swept L C hd).frame a F m).head = (G.swept L C hd).head := by simp [PoolG.head, PoolG.frame, PoolG.swept]
        rw [e]; exact this
      · have h1 := hB'.len
        have h2 := hB.len
        show k' ≤ 1000; omega
      · intro _ j g hg hgp
        have hi := (hP.idx n (.int .i64 j)).2 ⟨j, g, hg, hgp, hn0, rfl⟩
        rcases hat.2 with ⟨h1, _⟩ | ⟨h1, _⟩
        · have h1' : mget (G.swept L C hd).m n = some (.int .i64 a) := h1
          rw [h1'] at hi; injection hi with hi; injection hi with _ hi; omega
        · have h1' : mget (G.swept L C hd).m n = none := h1
          rw [h1'] at hi; cases hi
      · intro j
        rcases hat.2 with ⟨h1, _, _, _, h2, h3⟩ | ⟨h1, _, _, h2⟩
        · subst h2
          by_cases e : j = n
          · rw [if_pos ⟨hn0, e⟩, e]; exact h1
          · rw [if_neg (show ¬ (0 ≤ F.page ∧ j = F.page) from fun h => e h.2), if_neg (show ¬ (0 ≤ f.page ∧ j = f.page) from fun h => e (h.2.trans h3))]; rfl
        · rw [h2 j]
          by_cases e : j = n
          · rw [if_pos e, if_pos ⟨hn0, e⟩]
          · rw [if_neg e, if_neg (show ¬ (0 ≤ F.page ∧ j = F.page) from fun h => e h.2)]; rfl
    · intro g o e
      have := hf' g o e
      have := hTc.size
      simp only [World.size_drew] at *
      omega
theorem put_c (G : PoolG) (n : Int) (A : Option Addr) (k c : Nat) (l : List UInt8) (w : World) (h : PoolRep w G) (hn0 : 0 ≤ n) (hn1 : n ≤ 9223372036854775807) (hb : Bs 5 w A k c l) (hk : k ≤ 1000) :
    Calls Try.prog 10 #[.pointer (some ⟨G.p, 0, none⟩), .int .i64 n, .slice A k c] w (PutDone w G n l) :=
  put_g G n A k c l w h hn0 hn1 (fun _ hT => hb.turned hT h.not8) hk
end Go.Proofs.Ytliakkpmmmgmhaa
/- slices.Grow and slices.Concat at one element type. -/
namespace Go.Proofs.Ytliakkpmmmgmhaa.CatFrame
open Go.RowKit

theorem info : (Try.prog.info? 64).map (fun i => (i.zero, i.size, i.bytes)) = some (some (.agg #[.int .i64 0, .bool false, .slice none 0 0]), 3, 40) := by kernel_rfl
/-- Room for elements of one's own. -/
def Grown0 (w : World) (e : Ending) (w' : World) : Prop := ∃ A c, e = .returned (.slice A 0 c) ∧ w'.ownsRow w.heap.size 64 3 (.slice A 0 c) 0 [] ∧ Below w.heap.size w w'

set_option maxRecDepth 100000 in
set_option maxHeartbeats 1000000 in
theorem grow_c (n : Nat) (w : World) (hn : n ≤ 1000000) : Calls Try.prog 53 #[.slice none 0 0, .int .i64 n] w (Grown0 w) := by
  have HI := Lib.hid (info_parts info)
  rcases Nat.eq_zero_or_pos n with rfl | hpos
  · go_enter Try.func53, Try.ntmps53
    go_wp2
    go_ret
    exact ⟨none, 0, rfl, World.ownsRow_nil _ _ _ _, Below.refl _ _⟩
  · go_enter Try.func53, Try.ntmps53
    go_wp2_with (
      (refine at_dst 22 rfl ?_)
      obtain ⟨i0, hi, hz, hs, hb⟩ := HI.out
      (refine Lib.wpList_append_run _ rfl (.tmp 20) (.tmp 21) 59 3 rfl (.slice none 0 0) (.int .i64 n) rfl rfl _ _ (Lib.run_append_nil_zeros w 59 3 _ 64 i0 _ .i64 .i64 Try.underlying59 Try.underlying3 hi hz n hpos (by rw [hs]; decide) (by omega) (by rw [hb]; omega)) ?_)
      have hcap := grownCap_ge w n 0 64
      have hmax := grownCap_le_maxLen w n 0 64 (by simp only [maxLen]; omega)
      have hsz : (Builtin.zeroCells (.agg #[.int .i64 0, .bool false, .slice none 0 0] : Value).cells n ++ Builtin.zeroCells (.agg #[.int .i64 0, .bool false, .slice none 0 0] : Value).cells (grownCap w n 0 64 - n)).size = grownCap w n 0 64 * 3 := by
        rw [Array.size_append, size_zeroCells, size_zeroCells, ← Nat.add_mul]
        show (n + (grownCap w n 0 64 - n)) * 3 = _
        rw [show n + (grownCap w n 0 64 - n) = grownCap w n 0 64 by omega]
      generalize grownCap w n 0 64 = cap at *
      generalize Builtin.zeroCells (.agg #[.int .i64 0, .bool false, .slice none 0 0] : Value).cells n ++ Builtin.zeroCells (.agg #[.int .i64 0, .bool false, .slice none 0 0] : Value).cells (cap - n) = cells at *
      have HS := Lib.hid (And.intro hsz hmax)
      clear hsz hmax hi hz hs hb)
    go_ret
    exact ⟨_, _, rfl, World.ownsRow_made w.drew cells cap (Nat.le_refl _) HS.out.2 HS.out.1, ((Below.refl _ _).drew).alloc (Nat.le_refl _) _⟩

/-- What is put together, in a row of its own. -/
def Put (w : World) (n : Nat) (xs : List Value) (e : Ending) (w' : World) : Prop := ∃ A c, e = .returned (.slice A n c) ∧ w'.ownsRow w.heap.size 64 3 (.slice A n c) n xs ∧ Below w.heap.size w w'

set_option maxRecDepth 100000 in
set_option maxHeartbeats 2000000 in
theorem concat_c (pb cap : Nat) (C : Array Value) (ps : List Part) (w : World) (hb : Blk w pb 59 C) (hC : ∀ (j : Nat) (p : Part), ps[j]? = some p → C[j]? = some (partVal p)) (hr : ∀ p ∈ ps, Rd 64 3 w p.A p.n p.c p.xs) (h1 : ∀ p ∈ ps, ∀ u ∈ p.xs, u.oneCell' = true)
    (hk : ps.length ≤ 10) (hn : total ps ≤ 1000000) : Calls Try.prog 25 #[.slice (some ⟨pb, 0, none⟩) ps.length cap] w (Put w (total ps) (allXs ps)) := by
  have HI := Lib.hid (info_parts info)
  have HB := Lib.hid (And.intro hb (And.intro hC (And.intro hr h1)))
  have hlt := hb.lt
  clear hb hC hr h1
  go_enter Try.func25, Try.ntmps25
  go_wp2
  go_loop [3, 11] (fun s i => ∃ k : Nat, k ≤ ps.length ∧ i = .int .i64 k ∧ s = .int .i64 (total (ps.take k))) (fun _ i => ps.length - (intOf i).toNat)
  case atStart => exact ⟨0, Nat.zero_le _, rfl, rfl⟩
  case round =>
    obtain ⟨k, hk2, rfl, rfl⟩ := hrel
    have hle := total_take_le ps k
    by_cases hlk : k < ps.length
    · obtain ⟨p, hp⟩ : ∃ p, ps[k]? = some p := ⟨_, List.getElem?_eq_getElem hlk⟩
      have c0 : w.cell? ⟨pb, k, none⟩ = some (.slice p.A p.n p.c) := (HB.out.1.cell k).trans (HB.out.2.1 k p hp)
      have hnext := take_snoc' hp
      have hle2 := total_take_le ps (k + 1)
      rw [hnext, total_snoc] at hle2
      have HN := Lib.hid hnext
      clear hnext hp
      have hs0 : (0 : Int) ≤ (total (ps.take k) : Int) + p.n := by omega
      go_wp2_with fail
      go_round
      case rel => exact ⟨k + 1, by omega, by go_num, by rw [HN.out, total_snoc]; go_num⟩
      case measure => simp [intOf]; omega
    · obtain rfl : k = ps.length := by omega
      rw [List.take_length]
      go_wp2_with fail
      refine (grow_c _ _ (by omega)).mono ?_
      rintro e w1 ⟨A, c, rfl, hown, hbel⟩
      have H1 := Lib.hid (And.intro hown hbel)
      clear hown hbel hle
      go_wp2_with fail
      go_loopw [6, 27] (fun v i wr => ∃ k : Nat, k ≤ ps.length ∧ i = .int .i64 k ∧ Hid (wr.ownsRow w.heap.size 64 3 v (total (ps.take k)) (allXs (ps.take k))) ∧ Hid (Below w.heap.size w wr)) (fun _ i _ => ps.length - (intOf i).toNat)
      case atStart => exact ⟨0, Nat.zero_le _, rfl, H1.out.1, H1.out.2⟩
      case round =>
        clear H1
        obtain ⟨k, hk3, rfl, HO, HW⟩ := hrel
        have hle := total_take_le ps k
        by_cases hlk : k < ps.length
        · obtain ⟨p, hp⟩ : ∃ p, ps[k]? = some p := ⟨_, List.getElem?_eq_getElem hlk⟩
          obtain ⟨A1, c1, rfl, hfresh⟩ := own_form HO.out
          have hmem := List.mem_of_getElem? hp
          have c0 : wr.cell? ⟨pb, k, none⟩ = some (.slice p.A p.n p.c) := ((HB.out.1.below HW.out hlt).cell k).trans (HB.out.2.1 k p hp)
          have hnext := take_snoc' hp
          have hle2 := total_take_le ps (k + 1)
          rw [hnext, total_snoc] at hle2
          have hrd := (HB.out.2.2.1 p hmem).below HW.out
          have h1 := HB.out.2.2.2 p hmem
          have HN := Lib.hid (And.intro hnext (And.intro hrd (And.intro h1 hfresh)))
          clear hnext hp hrd h1 hmem hfresh
          go_wp2_with (
            (refine at_dst 33 rfl ?_)
            obtain ⟨i0, hi, hz, hs, hb⟩ := HI.out
            (refine wpList_append_rd rfl (.tmp 31) (.tmp 32) 59 rfl Try.underlying59 hi hz hs hb rfl (by decide) w.heap.size (.slice A1 (total (ps.take k)) c1) rfl HO.out rfl HN.out.2.1 HN.out.2.2.1 (by simp only [maxLen]; omega) (by omega) HW.out.size ?_)
            intro v2 w2 hown2 hgr2 _
            have HO2 := Lib.hid hown2
            have HW2 := Lib.hid (HW.out.grown hgr2 HW.out.size HN.out.2.2.2)
            clear hown2 hgr2 hi hz hs hb)
          go_roundw
          case rel => exact ⟨k + 1, by omega, by go_num, by rw [HN.out.1, total_snoc, allXs_snoc]; exact HO2.out, HW2⟩
          case measure => simp [intOf]; omega
        · obtain rfl : k = ps.length := by omega
          rw [List.take_length] at HO
          obtain ⟨A1, c1, rfl, _⟩ := own_form HO.out
          go_wp2_with fail
          go_ret
          exact ⟨A1, c1, rfl, HO.out, HW.out⟩
end Go.Proofs.Ytliakkpmmmgmhaa.CatFrame
/- A new pool; what Pages tells. -/
namespace Go.Proofs.Ytliakkpmmmgmhaa
open Go.RowKit

/-- A pool of so many empty frames. -/
def emptyG (p fb mb cap : Nat) (C : Array Value) (k : Nat) : PoolG := { p := p, fb := fb, mb := mb, cap := cap, C := C, L := List.replicate k noFrm, hand := 0, hits := 0, misses := 0, m := [] }
def NewPool (w : World) (k : Nat) (e : Ending) (w' : World) : Prop :=
  ∃ (p fb mb cap : Nat) (C : Array Value), e = .returned (.tuple #[.pointer (some ⟨p, 0, none⟩), .int .i64 0]) ∧ PoolRep w' (emptyG p fb mb cap C k) ∧ Below w.heap.size w w' ∧ w.heap.size ≤ p ∧ w.heap.size ≤ fb ∧ w.heap.size ≤ mb

theorem ownsRow_less {w : World} {b b' : Nat} {e : TypeId} {size n : Nat} {v : Value} {xs : List Value} (h : w.ownsRow b e size v n xs) (hle : b' ≤ b) : w.ownsRow b' e size v n xs := by
  obtain ⟨h1, h2⟩ := h
  exact ⟨h1, h2.imp id fun ⟨g, cap, cur, he, hb, hr⟩ => ⟨g, cap, cur, he, Nat.le_trans hle hb, hr⟩⟩
def noCells : List Value := [.int .i64 (-1), .bool false, .slice none 0 0]
def rep3 (k : Nat) : List Value := (List.replicate k noCells).flatten
theorem rep3_succ (k : Nat) : rep3 k ++ noCells = rep3 (k + 1) := by
  unfold rep3; rw [List.replicate_succ', List.flatten_append]; simp
theorem rep3_len (k : Nat) : (rep3 k).length = k * 3 := by
  induction k with
  | zero => rfl
  | succ k ih => rw [← rep3_succ, List.length_append, ih]; show k * 3 + 3 = _; omega
theorem rep3_at : ∀ (k i q : Nat), i < k → q < 3 → (rep3 k)[i * 3 + q]? = noCells[q]? := by
  intro k
  induction k with
  | zero => intro i q h; omega
  | succ k ih =>
    intro i q h hq
    rw [← rep3_succ]
    have hl := rep3_len k
    by_cases e : i < k
    · rw [List.getElem?_append_left (by omega)]; exact ih i q e hq
    · rw [List.getElem?_append_right (by omega), hl, show i * 3 + q - k * 3 = q by omega]
theorem rep3_one (k : Nat) : ∀ u ∈ rep3 k, u.oneCell' = true := by
  intro u hu
  unfold rep3 at hu
  obtain ⟨l, hl, hu⟩ := List.mem_flatten.1 hu
  rw [List.mem_replicate] at hl
  rw [hl.2] at hu
  simp [noCells] at hu
  rcases hu with rfl | rfl | rfl <;> rfl

/-- What is there while the frames are made. -/
def Making (w : World) (p mb : Nat) (k : Nat) (wr : World) : Prop :=
  ∃ v, Blk wr p 61 #[v, .int .i64 0, .map (some mb), .int .i64 0, .int .i64 0] ∧ IMap wr mb [] ∧ wr.ownsRow w.heap.size 64 3 v k (rep3 k) ∧ Below w.heap.size w wr ∧ w.heap.size ≤ p ∧ w.heap.size ≤ mb

set_option maxRecDepth 100000 in
set_option maxHeartbeats 1000000 in
theorem new_bad (k : Int) (w : World) (h : k < 1 ∨ 64 < k) : Calls Try.prog 9 #[.int .i64 k] w fun e w' => e = .returned (.tuple #[.pointer none, .int .i64 1]) ∧ w = w' := by
  rcases h with h | h
  · go_enter Try.func9, Try.ntmps9
    go_wp2
    go_ret2
    exact ⟨rfl, rfl⟩
  · have h' : ¬ k < 1 := by omega
    go_enter Try.func9, Try.ntmps9
    go_wp2
    go_ret2
    exact ⟨rfl, rfl⟩

set_option maxRecDepth 100000 in
set_option maxHeartbeats 4000000 in
theorem new_c (k : Nat) (w : World) (h0 : 1 ≤ k) (h1 : k ≤ 64) : Calls Try.prog 9 #[.int .i64 k] w (NewPool w k) := by
  have hmm := @run_makeMap Try.prog 58
  go_enter Try.func9, Try.ntmps9
  go_wp2_with fail
  have hM0 : Making w (w.heap.size + 1) w.heap.size 0 ((w.alloc (.map #[] 0)).alloc (.cells #[.slice none 0 0, .int .i64 0, .map (some w.heap.size), .int .i64 0, .int .i64 0] 61)) := by
    refine ⟨.slice none 0 0, ?_, (IMap.made w).alloc _, World.ownsRow_nil _ _ _ _, ((Below.refl _ _).alloc (Nat.le_refl _) _).alloc (by simp) _, by omega, Nat.le_refl _⟩
    have := Blk.new (w.alloc (.map #[] 0)) 61 #[.slice none 0 0, .int .i64 0, .map (some w.heap.size), .int .i64 0, .int .i64 0]
    simpa using this
  have HM0 := Lib.hid hM0
  clear hM0 hmm
  go_loopw [15] (fun i wr => ∃ j : Nat, j ≤ k ∧ i = .int .i64 j ∧ Hid (Making w (w.heap.size + 1) w.heap.size j wr)) (fun i _ => k - (intOf i).toNat)
  case atStart => exact ⟨0, Nat.zero_le _, rfl, HM0.out⟩
  case round =>
    clear HM0
    obtain ⟨j, hj, rfl, HM⟩ := hrel
    obtain ⟨v, hbp, hbm, hown, hbel, hp, hmb⟩ := HM.out
    obtain ⟨A, c, rfl, hfresh⟩ := own_form hown
    have c0 : wr.cell? ⟨w.heap.size + 1, 0, none⟩ = some (.slice A j c) := hbp.cell 0
    have hlt := hbp.lt
    have HR := Lib.hid (And.intro hbp (And.intro hbm (And.intro hown (And.intro hbel hfresh))))
    clear HM hbp hbm hown hbel hp hmb hfresh
    by_cases hjk : j < k
    · go_wp2_with fail
      have hA := HR.out.2.2.1
      have hBelow2 : Below wr.heap.size wr ((wr.alloc (.cells #[.int .i64 (-1), .bool false, .slice none 0 0] 64)).alloc (.cells #[.slice A j c, .slice (some ⟨wr.heap.size, 0, none⟩) 1 1] 59)) := ((Below.refl _ _).alloc (Nat.le_refl _) _).alloc (by simp) _
      have hb1 : Blk ((wr.alloc (.cells #[.int .i64 (-1), .bool false, .slice none 0 0] 64)).alloc (.cells #[.slice A j c, .slice (some ⟨wr.heap.size, 0, none⟩) 1 1] 59)) wr.heap.size 64 #[.int .i64 (-1), .bool false, .slice none 0 0] := (Blk.new wr _ _).alloc _
      have hb2 : Blk ((wr.alloc (.cells #[.int .i64 (-1), .bool false, .slice none 0 0] 64)).alloc (.cells #[.slice A j c, .slice (some ⟨wr.heap.size, 0, none⟩) 1 1] 59)) (wr.heap.size + 1) 59 #[.slice A j c, .slice (some ⟨wr.heap.size, 0, none⟩) 1 1] := by
        have := Blk.new (wr.alloc (.cells #[.int .i64 (-1), .bool false, .slice none 0 0] 64)) 59 #[.slice A j c, .slice (some ⟨wr.heap.size, 0, none⟩) 1 1]
        simpa using this
      have hrd1 := (Rd.of_own hA).below hBelow2
      have hrd2 := Rd.of_blk (n := 1) (c := 1) (sz := 3) hb1 (Nat.le_refl _) (by simp [maxLen]) (by simp)
      have hcall := CatFrame.concat_c (wr.heap.size + 1) 2 #[.slice A j c, .slice (some ⟨wr.heap.size, 0, none⟩) 1 1] [⟨A, j, c, rep3 j⟩, ⟨some ⟨wr.heap.size, 0, none⟩, 1, 1, noCells⟩] _ hb2
        (by intro i p hp; match i, hp with
            | 0, hp => simp at hp; subst hp; rfl
            | 1, hp => simp at hp; subst hp; rfl)
        (by intro p hp; simp at hp; rcases hp with rfl | rfl
            · exact hrd1
            · exact hrd2)
        (by intro p hp; simp at hp; rcases hp with rfl | rfl
            · exact rep3_one j
            · exact fun u hu => rep3_one 1 u (by simpa [rep3] using hu))
        (by simp) (by simp [total]; omega)
      refine hcall.mono ?_
      clear hcall hrd1 hrd2 hb1 hb2 hA
      rintro e w2 ⟨A2, c2, rfl, hown2, hbel2⟩
      have hbel3 : Below wr.heap.size wr w2 := hBelow2.trans (hbel2.mono (by simp; omega))
      have hbp2 := HR.out.1.below hbel3 hlt
      have d0 : w2.cell? ⟨w.heap.size + 1, 0, none⟩ = some (.slice A j c) := hbp2.cell 0
      have g0 := hbp2.frozen 0
      have hown3 : w2.ownsRow w.heap.size 64 3 (.slice A2 (j + 1) c2) (j + 1) (rep3 (j + 1)) := by
        have e1 : total [⟨A, j, c, rep3 j⟩, ⟨some ⟨wr.heap.size, 0, none⟩, 1, 1, noCells⟩] = j + 1 := by simp [total]
        have e2 : allXs [⟨A, j, c, rep3 j⟩, ⟨some ⟨wr.heap.size, 0, none⟩, 1, 1, noCells⟩] = rep3 (j + 1) := by rw [← rep3_succ]; simp [allXs]
        rw [e1, e2] at hown2
        exact ownsRow_less hown2 (by have := HR.out.2.2.2.1.size; simp; omega)
      have e1 : total [⟨A, j, c, rep3 j⟩, ⟨some ⟨wr.heap.size, 0, none⟩, 1, 1, noCells⟩] = j + 1 := by simp [total]
      rw [e1]
      have HN := Lib.hid (And.intro hbel3 (And.intro hbp2 hown3))
      clear e1 hBelow2 hown2 hbel2 hbel3 hbp2 hown3
      go_wp2_with fail
      go_roundw
      case rel =>
        refine ⟨j + 1, by omega, by go_num, .slice A2 (j + 1) c2, ?_, ?_, ?_, ?_, by omega, Nat.le_refl _⟩
        · exact HN.out.2.1.set_ 0 _
        · exact (HR.out.2.1.turned (Turned.of_below (S := fun _ => False) HN.out.1) id).setCell _ _
        · exact ownsRow_setCell_other HN.out.2.2 (by
            rcases HN.out.2.2.2 with ⟨he, _⟩ | ⟨g, cap, cur, he, _, hg, _⟩
            · rw [he]; simp [Value.ownBlock]
            · rw [he]; simp only [Value.ownBlock]
              intro e; injection e with e
              exact Blk.ne_ (t := 64) hg HN.out.2.1 (by decide) e) _
        · exact (HR.out.2.2.2.1.trans (HN.out.1.mono HR.out.2.2.2.1.size)).setCell (p := ⟨w.heap.size + 1, 0, none⟩) (by show _ ≤ _ + 1; omega) _
      case measure => simp [intOf]; omega
    · obtain rfl : j = k := by omega
      go_wp2_with fail
      go_ret2
      obtain ⟨hbp, hbm, hown, hbel, hfresh⟩ := HR.out
      rcases hown.2 with ⟨_, h0⟩ | ⟨g, cap, cur, he, hb, hg, hnc, hcm, hcs, htk⟩
      · omega
      · injection he with e1 _ e3
        subst e1; subst e3
        refine ⟨w.heap.size + 1, g, w.heap.size, c, cur, rfl, ?_, hbel, by omega, hb, Nat.le_refl _⟩
        have hat : ∀ (i : Nat) (f : Frm), (List.replicate j noFrm)[i]? = some f → i < j ∧ f = noFrm := by
          intro i f hf
          rw [List.getElem?_replicate] at hf
          split at hf
          · exact ⟨by assumption, (Option.some.inj hf).symm⟩
          · cases hf
        refine ⟨by simpa [PoolG.head, emptyG] using hbp, hg, hbm, ?_, hcs, by simpa [emptyG] using hnc, hcm, by simp [emptyG]; omega, by simpa [emptyG] using h1, by simp [emptyG]; omega, ?_, ?_, ?_, ?_, ?_⟩
        · intro i f hf
          obtain ⟨hi, rfl⟩ := hat i f hf
          have key : ∀ q, q < 3 → cur[i * 3 + q]? = noCells[q]? := by
            intro q hq
            have h1 : (cur.toList.take (j * 3))[i * 3 + q]? = (rep3 j)[i * 3 + q]? := by rw [htk]
            rw [List.getElem?_take_of_lt (by omega)] at h1
            rw [← Array.getElem?_toList, h1]
            exact rep3_at j i q hi hq
          exact ⟨key 0 (by omega), key 1 (by omega), key 2 (by omega)⟩
        · intro n v
          constructor
          · intro h; cases h
          · rintro ⟨i, f, hf, h2, h3, _⟩
            obtain ⟨_, rfl⟩ := hat i f hf
            have : (-1 : Int) = n := h2
            omega
        · intro f hf
          have := (List.mem_replicate.1 hf).2
          subst this; exact ⟨by decide, by decide⟩
        · intro a b f g hf hg h2 h3
          obtain ⟨_, rfl⟩ := hat a f hf
          exact absurd h3 (by decide)
        · intro f hf
          have := (List.mem_replicate.1 hf).2
          subst this; exact Bs.nil _ _
        · intro f hf
          have := (List.mem_replicate.1 hf).2
          subst this; exact Nat.zero_le _
end Go.Proofs.Ytliakkpmmmgmhaa
/- Numbers and texts as bytes. -/
namespace Go.Proofs.Ytliakkpmmmgmhaa
open Go.RowKit

/-- A number's bytes: seven bits a byte, the least first. -/
def numB (n : Nat) : List UInt8 := if n < 128 then [UInt8.ofNat n] else UInt8.ofNat (n % 128 + 128) :: numB (n / 128)
termination_by n
decreasing_by omega
theorem numB_small {n : Nat} (h : n < 128) : numB n = [UInt8.ofNat n] := by rw [numB, if_pos h]
theorem numB_big {n : Nat} (h : ¬ n < 128) : numB n = UInt8.ofNat (n % 128 + 128) :: numB (n / 128) := by rw [numB, if_neg h]
theorem numB_len : ∀ (k n : Nat), n < 128 ^ (k + 1) → (numB n).length ≤ k + 1 := by
  intro k
  induction k with
  | zero => intro n h; rw [numB_small (by simpa using h)]; simp
  | succ k ih =>
    intro n h
    by_cases hn : n < 128
    · rw [numB_small hn]; simp
    · rw [numB_big hn, List.length_cons]
      have : n / 128 < 128 ^ (k + 1) := by rw [Nat.pow_succ] at h; omega
      have := ih _ this
      omega
theorem numB_pos (n : Nat) : 1 ≤ (numB n).length := by
  by_cases hn : n < 128
  · rw [numB_small hn]; simp
  · rw [numB_big hn]; simp
theorem numB_ten {n : Nat} (h : n < 18446744073709551616) : (numB n).length ≤ 10 := numB_len 9 n (by omega)
/-- A call tells bytes that are its own, and turns nothing. -/
def GivesOwn (w : World) (l : List UInt8) (e : Ending) (w' : World) : Prop :=
  ∃ A c, e = .returned (.slice A l.length c) ∧ w'.ownsRow w.heap.size 5 1 (.slice A l.length c) l.length (u8s l) ∧ Below w.heap.size w w'
theorem u8_of {m : Nat} (h : m < 256) : ((UInt8.ofNat m).toNat : Int) = (m : Int) := by
  rw [UInt8.toNat_ofNat']; omega

set_option maxRecDepth 100000 in
/-- 'append(b, x)': one byte onto bytes of one's own. -/
theorem wpList_append_one {ops : Array Oper} {rest : List Oper} {o : Oper} {a : Act} {Q : Exit → Act → World → Prop} {w0 wr : World} {A : Option Addr} {c : Nat} {acc : List UInt8} (b : UInt8) {x : Int} (hb : (b.toNat : Int) = x) (hg : o.guard = none) (s y : Operand)
    (hop : o.op = .call { callee := .builtin .append, args := #[s, y], argTypes := #[31, 31] }) (hs : a.eval s = .slice A acc.length c) (hown : wr.ownsRow w0.heap.size 5 1 (.slice A acc.length c) acc.length (u8s acc))
    (hy : a.eval y = .slice (some ⟨wr.heap.size, 0, none⟩) 1 1) (hlen : acc.length + 1 ≤ 140737488351232) (hbel : Below w0.heap.size w0 wr)
    (next : ∀ v' w', w'.ownsRow w0.heap.size 5 1 v' (acc ++ [b]).length (u8s (acc ++ [b])) → Below w0.heap.size w0 w' → wpList Try.prog ops Q rest (a.put o.dst v') w') :
    wpList Try.prog ops Q (o :: rest) a (wr.alloc (.cells #[.int .u8 x] 5)) := by
  subst hb
  obtain ⟨i0, hi, hz, hs', hb'⟩ := info_parts info8
  obtain ⟨_, _, _, hfr⟩ := own_form hown
  have hsz := hbel.size
  have hB : Bs 5 (wr.alloc (.cells #[.int .u8 (b.toNat : Int)] 5)) (some ⟨wr.heap.size, 0, none⟩) 1 1 [b] := Bs.made 5 wr [b] #[.int .u8 (b.toNat : Int)] (0, 0) rfl (by simp [maxLen]) rfl
  refine wpList_append_bs hg s y 31 hop Try.underlying31 hi hz hs' hb' w0.heap.size (.slice A acc.length c) hs (hown.alloc _) hy hB hlen (by simp; omega) ?_
  intro v2 w2 hown2 hgr2 _
  refine next v2 w2 ?_ ((hbel.alloc hsz _).grown hgr2 (by simp; omega) hfr)
  rw [u8s_append, List.length_append]
  exact hown2

set_option maxRecDepth 100000 in
set_option maxHeartbeats 2000000 in
theorem num_c (n : Nat) (hn : n < 18446744073709551616) (w : World) : Calls Try.prog 45 #[.int .u64 (n : Int)] w (GivesOwn w (numB n)) := by
  have HT := Lib.hid (numB_ten hn)
  have HN := Lib.hid hn
  clear hn
  obtain ⟨i0, hi, hz, hs, hb⟩ := info_parts info8
  have HI := Lib.hid (And.intro hi (And.intro hz (And.intro hs hb)))
  clear hi hz hs hb
  go_enter Try.func45, Try.ntmps45
  go_wp2
  go_loopw [0, 3] (fun x v wr => ∃ (m : Nat) (acc : List UInt8), Hid (m < 18446744073709551616) ∧ x = .int .u64 (m : Int) ∧ Hid (acc ++ numB m = numB n ∧ wr.ownsRow w.heap.size 5 1 v acc.length (u8s acc)) ∧ Hid (Below w.heap.size w wr)) (fun x _ _ => (intOf x).toNat)
  case atStart => exact ⟨n, [], HN.out, rfl, ⟨rfl, World.ownsRow_nil _ _ _ _⟩, Below.refl _ _⟩
  case round =>
    obtain ⟨m, acc, hm, rfl, HO, HW⟩ := hrel
    obtain ⟨A, c, rfl, hfresh⟩ := own_form HO.out.2
    have hm0 : (0 : Int) ≤ m := by omega
    have hm1 : (m : Int) < 18446744073709551616 := by have := hm.out; omega
    have HF := Lib.hid hfresh
    clear hfresh
    have HL : Hid (acc.length + 1 ≤ 140737488351232) := by
      have h1 : (acc ++ numB m).length = (numB n).length := by rw [HO.out.1]
      have h2 := HT.out
      rw [List.length_append] at h1
      show _ ≤ _
      omega
    by_cases hsm : m < 128
    · have hsm' : ¬ (128 : Int) ≤ m := by omega
      have hx := u8_of (show m < 256 by omega)
      go_wp2_with (
        (refine at_dst 19 rfl ?_)
        (refine wpList_append_one (UInt8.ofNat m) hx rfl (.tmp 15) (.tmp 18) rfl rfl HO.out.2 rfl HL.out HW.out ?_)
        intro v2 w2 hown2 hbel2
        have HO2 := Lib.hid hown2
        have HW2 := Lib.hid hbel2
        clear hown2 hbel2)
      go_ret
      have e : numB n = acc ++ [UInt8.ofNat m] := by rw [← HO.out.1, numB_small hsm]
      obtain ⟨A2, c2, rfl, _⟩ := own_form HO2.out
      refine ⟨A2, c2, by rw [e]; rfl, ?_, HW2.out⟩
      rw [e]
      exact HO2.out
    · have hsm' : (128 : Int) ≤ m := by omega
      have hx : ((UInt8.ofNat (m % 128 + 128)).toNat : Int) = (m : Int) % 128 + 128 := (u8_of (show m % 128 + 128 < 256 by omega)).trans (by omega)
      go_wp2_with (
        (refine at_dst 12 rfl ?_)
        (refine wpList_append_one (UInt8.ofNat (m % 128 + 128)) hx rfl (.tmp 6) (.tmp 11) rfl rfl HO.out.2 rfl HL.out HW.out ?_)
        intro v2 w2 hown2 hbel2
        have HO2 := Lib.hid hown2
        have HW2 := Lib.hid hbel2
        clear hown2 hbel2)
      go_roundw
      case rel =>
        refine ⟨m / 128, acc ++ [UInt8.ofNat (m % 128 + 128)], ?_, by go_num, ⟨?_, HO2.out⟩, HW2.out⟩
        · have := hm.out
          show m / 128 < _
          omega
        · rw [← HO.out.1, numB_big hsm]; simp
      case measure => simp [intOf]; omega
end Go.Proofs.Ytliakkpmmmgmhaa
/- Texts as bytes; a reader of bytes. -/
namespace Go.Proofs.Ytliakkpmmmgmhaa
open Go.RowKit

set_option maxRecDepth 100000 in
/-- 'append(b, s...)': a string's bytes onto bytes of one's own. -/
theorem wpList_append_str {ops : Array Oper} {rest : List Oper} {o : Oper} {a : Act} {Q : Exit → Act → World → Prop} {w0 wr : World} {A : Option Addr} {c : Nat} {acc : List UInt8} {s : ByteArray} (hg : o.guard = none) (x y : Operand)
    (hop : o.op = .call { callee := .builtin .append, args := #[x, y], argTypes := #[31, 9] }) (hx : a.eval x = .slice A acc.length c) (hown : wr.ownsRow w0.heap.size 5 1 (.slice A acc.length c) acc.length (u8s acc))
    (hy : a.eval y = .string s) (hlen : acc.length + s.size ≤ 140737488351232) (hbel : Below w0.heap.size w0 wr)
    (next : ∀ v' w', w'.ownsRow w0.heap.size 5 1 v' (acc ++ s.data.toList).length (u8s (acc ++ s.data.toList)) → Below w0.heap.size w0 w' → wpList Try.prog ops Q rest (a.put o.dst v') w') :
    wpList Try.prog ops Q (o :: rest) a wr := by
  obtain ⟨i0, hi, hz, hs', hb'⟩ := info_parts info8
  obtain ⟨_, _, _, hfr⟩ := own_form hown
  obtain ⟨v', w', hrun, hown2, hgr, _⟩ := Lib.run_append_own_string (P := Try.prog) wr w0.heap.size 31 9 o.type 5 i0 Try.underlying31 Try.underlying9 hi hz hs' hb' (.slice A acc.length c) acc.length (u8s acc) hown s (by simp only [maxLen]; omega) (by omega) hbel.size
  refine wpList_value hg (w' := w') (v := v') ?_ (next v' w' ?_ (hbel.grown hgr hbel.size hfr))
  · simp [execOp, hop, resolve, invoke, builtin, hx, hy, hrun, Result.andThen]
  · rw [u8s_append, List.length_append, ← u8s_strCells, show s.data.toList.length = s.size from Array.length_toList]
    exact hown2

set_option maxRecDepth 100000 in
set_option maxHeartbeats 2000000 in
theorem text_c (s : ByteArray) (hs : s.size ≤ 1000000000) (w : World) : Calls Try.prog 47 #[.string s] w (GivesOwn w (numB s.size ++ s.data.toList)) := by
  have hs0 : (0 : Int) ≤ s.size := by omega
  have hs1 : (s.size : Int) ≤ 1000000000 := by omega
  have hnum := num_c s.size (by omega) w
  have HT := Lib.hid (numB_ten (n := s.size) (by omega))
  have HS := Lib.hid hs
  clear hs
  go_enter Try.func47, Try.ntmps47
  go_wp2_with fail
  refine hnum.mono ?_
  clear hnum
  rintro e w1 ⟨A, c, rfl, hown, hbel⟩
  have HO := Lib.hid hown
  have HB := Lib.hid hbel
  have HL : Hid ((numB s.size).length + s.size ≤ 140737488351232) := by
    have h1 := HT.out
    have h2 := HS.out
    show _ ≤ _
    omega
  clear hown hbel
  go_wp2_with (
    (refine at_dst 8 rfl ?_)
    (refine wpList_append_str rfl (.tmp 6) (.tmp 7) rfl rfl HO.out rfl HL.out HB.out ?_)
    intro v2 w2 hown2 hbel2
    have HO2 := Lib.hid hown2
    have HB2 := Lib.hid hbel2
    clear hown2 hbel2)
  go_ret
  obtain ⟨A2, c2, rfl, _⟩ := own_form HO2.out
  exact ⟨A2, c2, rfl, HO2.out, HB2.out⟩

/-- A reader in memory: what it has not taken yet, and its error. -/
structure RdrRep (w : World) (r : Nat) (l : List UInt8) (err : Int) (A : Option Addr) (c : Nat) : Prop where
  blk : Blk w r 133 #[.slice A l.length c, .int .i64 err]
  bs : Bs 5 w A l.length c l
set_option maxRecDepth 100000 in
set_option maxHeartbeats 1000000 in
theorem err_c (r : Nat) (l : List UInt8) (err : Int) (A : Option Addr) (c : Nat) (w : World) (h : RdrRep w r l err A c) : Calls Try.prog 67 #[.pointer (some ⟨r, 0, none⟩)] w fun e w' => e = .returned (.int .i64 err) ∧ w = w' := by
  have c1 : w.cell? ⟨r, 1, none⟩ = some (.int .i64 err) := h.blk.cell 1
  clear h
  go_enter Try.func67, Try.ntmps67
  go_wp2
  go_ret
  exact ⟨rfl, rfl⟩
set_option maxRecDepth 100000 in
set_option maxHeartbeats 1000000 in
theorem rfail_c (r : Nat) (l : List UInt8) (err n : Int) (A : Option Addr) (c : Nat) (w : World) (h : RdrRep w r l err A c) : Calls Try.prog 97 #[.pointer (some ⟨r, 0, none⟩), .int .i64 n] w fun e w' => e = .returned (.int .u64 0) ∧ RdrRep w' r l n A c ∧ Turned (fun k => k = r) w w' := by
  have c1 : w.cell? ⟨r, 1, none⟩ = some (.int .i64 err) := h.blk.cell 1
  have f1 := h.blk.frozen 1
  have HH := Lib.hid h
  clear h
  go_enter Try.func97, Try.ntmps97
  go_wp2
  go_ret
  have hT : Turned (fun k => k = r) w (w.setCell ⟨r, 1, none⟩ (.int .i64 n)) := Turned.setCell (S := fun k => k = r) (Turned.refl _ w) (p := ⟨r, 1, none⟩) (fun _ => rfl) _
  exact ⟨rfl, ⟨HH.out.blk.set_ 1 _, HH.out.bs.turned hT (fun k e => by subst e; exact HH.out.blk.not8 (by decide))⟩, hT⟩
end Go.Proofs.Ytliakkpmmmgmhaa
/- The next number of a reader. -/
namespace Go.Proofs.Ytliakkpmmmgmhaa
open Go.RowKit

theorem or_mul2 (a b i : Nat) (h : a < 2 ^ i) : a ||| (b * 2 ^ i) = b * 2 ^ i + a := by
  rw [Nat.or_comm, ← Nat.shiftLeft_eq, Nat.shiftLeft_add_eq_or_of_lt h]
theorem or_num (acc b i : Nat) (hacc : acc < 2 ^ (7 * i)) (hi : i < 10) (hb : b < 128) (h9 : i = 9 → b ≤ 1) :
    bits BinOp.or IntKind.u64 (acc : Int) (IntKind.u64.wrap ((b : Int) * 2 ^ (7 * i))) = ((acc + b * 2 ^ (7 * i) : Nat) : Int) ∧ acc + b * 2 ^ (7 * i) < 2 ^ (7 * (i + 1)) ∧ acc + b * 2 ^ (7 * i) < 18446744073709551616 := by
  have hlt : acc + b * 2 ^ (7 * i) < 18446744073709551616 := by
    rcases i with _ | _ | _ | _ | _ | _ | _ | _ | _ | _ | i <;> simp at * <;> omega
  have hup : acc + b * 2 ^ (7 * i) < 2 ^ (7 * (i + 1)) := by
    rw [show 7 * (i + 1) = 7 * i + 7 by omega, Nat.pow_add]
    have : b * 2 ^ (7 * i) ≤ 127 * 2 ^ (7 * i) := Nat.mul_le_mul_right _ (by omega)
    omega
  refine ⟨?_, hup, hlt⟩
  have e : ((b : Int) * 2 ^ (7 * i)) = ((b * 2 ^ (7 * i) : Nat) : Int) := by push_cast; rfl
  have ew : IntKind.u64.wrap ((b * 2 ^ (7 * i) : Nat) : Int) = ((b * 2 ^ (7 * i) : Nat) : Int) := by
    generalize b * 2 ^ (7 * i) = X at *
    simp only [IntKind.wrap, IntKind.signed, IntKind.bits]
    simp
    omega
  rw [e, ew, u64_or_nat acc (b * 2 ^ (7 * i)) (by omega) (by omega), or_mul2 _ _ _ hacc, Nat.add_comm]
/-- The number that stands at the front: it and how many bytes it has, or what is wrong. -/
def scanN (l : List UInt8) : (fuel i acc : Nat) → Nat × Nat ⊕ Int
  | 0, _, _ => .inr 7
  | fuel + 1, i, acc =>
    match l[i]? with
    | none => .inr 10
    | some c => if i = 9 ∧ 1 < c.toNat then .inr 7 else if 128 ≤ c.toNat then scanN l fuel (i + 1) (acc + (c.toNat % 128) * 2 ^ (7 * i)) else if c.toNat = 0 ∧ 0 < i then .inr 7 else .inl (acc + (c.toNat % 128) * 2 ^ (7 * i), i + 1)
def scan (l : List UInt8) : Nat × Nat ⊕ Int := scanN l 10 0 0

/-- What Num of a reader tells, and leaves. -/
def NumDone (w : World) (r : Nat) (l : List UInt8) (A : Option Addr) (c : Nat) (e : Ending) (w' : World) : Prop :=
  Turned (fun k => k = r) w w' ∧ match scan l with
  | .inl (n, k) => e = .returned (.int .u64 (n : Int)) ∧ k ≤ l.length ∧ RdrRep w' r (l.drop k) 0 (if c = k then A else A.map (·.add (k * 1))) (c - k)
  | .inr x => e = .returned (.int .u64 0) ∧ RdrRep w' r l x A c

theorem num_end {w : World} {r g o k c : Nat} {l : List UInt8} {V : Value} (h : RdrRep w r l 0 (some ⟨g, o, none⟩) c) (hk : k ≤ l.length) (hV : V = .slice (if c = k then some ⟨g, o, none⟩ else (some (⟨g, o, none⟩ : Addr)).map (·.add (k * 1))) (l.length - k) (c - k)) :
    Turned (fun k => k = r) w (w.setCell ⟨r, 0, none⟩ V) ∧ RdrRep (w.setCell ⟨r, 0, none⟩ V) r (l.drop k) 0 (if c = k then some ⟨g, o, none⟩ else (some (⟨g, o, none⟩ : Addr)).map (·.add (k * 1))) (c - k) := by
  subst hV
  have hT : Turned (fun k => k = r) w (w.setCell ⟨r, 0, none⟩ (.slice (if c = k then some ⟨g, o, none⟩ else (some (⟨g, o, none⟩ : Addr)).map (·.add (k * 1))) (l.length - k) (c - k))) := Turned.setCell (S := fun k => k = r) (Turned.refl _ w) (p := ⟨r, 0, none⟩) (fun _ => rfl) _
  have hcut := h.bs.cut (lo := k) (hi := l.length) hk (Nat.le_refl _)
  rw [List.take_of_length_le (by rw [List.length_drop]; exact Nat.le_refl _)] at hcut
  refine ⟨hT, ?_, ?_⟩
  · have := h.blk.set_ 0 (.slice (if c = k then some ⟨g, o, none⟩ else (some (⟨g, o, none⟩ : Addr)).map (·.add (k * 1))) (l.length - k) (c - k))
    rw [List.length_drop]
    exact this
  · rw [List.length_drop]
    exact hcut.turned hT (fun k e => by subst e; exact h.blk.not8 (by decide))
theorem or_nine {acc b : Nat} (hb : b ≤ 1) {X : Int} (h : bits BinOp.or IntKind.u64 (acc : Int) (IntKind.u64.wrap ((b : Int) % 128 * 2 ^ (7 * 9))) = X) : bits BinOp.or IntKind.u64 (acc : Int) ((b : Int) % 128 * 9223372036854775808) = X := by
  rw [← h]
  congr 1
  simp only [IntKind.wrap, IntKind.signed, IntKind.bits]
  simp
  omega

set_option maxRecDepth 100000 in
set_option maxHeartbeats 4000000 in
theorem rnum_c (r : Nat) (l : List UInt8) (A : Option Addr) (c : Nat) (w : World) (h : RdrRep w r l 0 A c) (hl : l.length ≤ 1000000000) : Calls Try.prog 81 #[.pointer (some ⟨r, 0, none⟩)] w (NumDone w r l A c) := by
  have c0 : w.cell? ⟨r, 0, none⟩ = some (.slice A l.length c) := h.blk.cell 0
  have f0 := h.blk.frozen 0
  have HH := Lib.hid h
  have hl' : (l.length : Int) ≤ 1000000000 := by omega
  have herr := err_c r l 0 A c w h
  have hfail := fun n => rfail_c r l 0 n A c w h
  have HFail := Lib.hid hfail
  clear h hl hfail
  go_enter Try.func81, Try.ntmps81
  go_wp2_with fail
  refine herr.mono ?_
  clear herr
  rintro e w1 ⟨rfl, rfl⟩
  go_wp2_with fail
  go_loop [3, 4, 10] (fun n s i => ∃ (i' acc : Nat), i' ≤ 10 ∧ i' ≤ l.length ∧ Hid (acc < 2 ^ (7 * i')) ∧ n = .int .u64 (acc : Int) ∧ s = .int .i64 ((7 * i' : Nat) : Int) ∧ i = .int .i64 (i' : Int) ∧ Hid (scanN l (10 - i') i' acc = scan l)) (fun _ _ i => 10 - (intOf i).toNat)
  case atStart => exact ⟨0, 0, by omega, by omega, by show 0 < 2 ^ 0; decide, rfl, rfl, rfl, rfl⟩
  case round =>
    obtain ⟨i, acc, hi, hile, hacc, rfl, rfl, rfl, HS⟩ := hrel
    by_cases hi10 : i < 10
    · by_cases hil : i = l.length
      · have hil' : (i : Int) = (l.length : Int) := by omega
        go_wp2_with fail
        refine (HFail.out 10).mono ?_
        rintro e w2 ⟨rfl, hR, hT⟩
        have HR := Lib.hid (And.intro hR hT)
        clear hR hT
        go_wp2_with fail
        go_ret
        have e : scan l = .inr 10 := by
          rw [← HS.out, show 10 - i = (9 - i) + 1 by omega]
          simp [scanN, hil]
        refine ⟨HR.out.2, ?_⟩
        rw [e]
        exact ⟨rfl, HR.out.1⟩
      · have hil' : ¬ (i : Int) = (l.length : Int) := by omega
        have hlt : i < l.length := by omega
        obtain ⟨g, o, b, hA, hb, hc⟩ := HH.out.bs.at_ hlt
        have hb0 : (0 : Int) ≤ (b.toNat : Int) := by omega
        have hb1 : (b.toNat : Int) < 256 := by have := b.toNat_lt; omega
        have hs : scan l = scanN l ((9 - i) + 1) i acc := by rw [← HS.out, show 10 - i = (9 - i) + 1 by omega]
        simp only [scanN, hb] at hs
        subst hA
        by_cases hbad : i = 9 ∧ 1 < b.toNat
        · rw [if_pos hbad] at hs
          have HQ := Lib.hid hs
          clear hs hb
          obtain ⟨rfl, h2⟩ := hbad
          have h2' : (1 : Int) < b.toNat := by omega
          go_wp2_with fail
          refine (HFail.out 7).mono ?_
          rintro e w2 ⟨rfl, hR, hT⟩
          have HR := Lib.hid (And.intro hR hT)
          clear hR hT
          go_wp2_with fail
          go_ret
          refine ⟨HR.out.2, ?_⟩
          rw [HQ.out]
          exact ⟨rfl, HR.out.1⟩
        · rw [if_neg hbad] at hs
          obtain ⟨hor, hup, h64⟩ := or_num acc (b.toNat % 128) i hacc.out hi10 (by omega) (fun e => by omega)
          have hor' : bits BinOp.or IntKind.u64 (acc : Int) (IntKind.u64.wrap ((b.toNat : Int) % 128 * 2 ^ (7 * i))) = ((acc + b.toNat % 128 * 2 ^ (7 * i) : Nat) : Int) := by
            rw [← hor]; norm_cast
          have HU := Lib.hid (And.intro hup h64)
          have HOR := Lib.hid hor'
          clear hor hup h64 hor' hb
          have hi9 : ((i : Int) = 9 ∧ ¬ (1 : Int) < b.toNat) ∨ ¬ (i : Int) = 9 := by omega
          by_cases hcont : 128 ≤ b.toNat
          · rw [if_pos hcont] at hs
            have HQ := Lib.hid hs
            clear hs
            have hcont' : (128 : Int) ≤ b.toNat := by omega
            have hi9' : ¬ (i : Int) = 9 := by omega
            clear hi9 hbad
            go_wp2_with fail
            go_round
            case rel => exact ⟨i + 1, acc + b.toNat % 128 * 2 ^ (7 * i), by omega, by omega, HU.out.1, by rw [HOR.out], by go_num, by go_num, by rw [HQ.out, show 10 - (i + 1) = 9 - i by omega]; exact rfl⟩
            case measure => simp [intOf]; omega
          · rw [if_neg hcont] at hs
            have hcont' : ¬ (128 : Int) ≤ b.toNat := by omega
            by_cases hz : b.toNat = 0 ∧ 0 < i
            · rw [if_pos hz] at hs
              have HQ := Lib.hid hs
              clear hs
              have hz1 : (b.toNat : Int) = 0 := by omega
              have hz2 : (0 : Int) < i := by omega
              have HE := Lib.hid hbad
              clear hbad hi9
              rw [hz1] at hc
              by_cases h9 : i = 9
              · subst h9
                go_wp2_with fail
                refine (HFail.out 7).mono ?_
                rintro e w2 ⟨rfl, hR, hT⟩
                have HR := Lib.hid (And.intro hR hT)
                clear hR hT
                go_wp2_with fail
                go_ret
                refine ⟨HR.out.2, ?_⟩
                rw [HQ.out]
                exact ⟨rfl, HR.out.1⟩
              · have h9' : ¬ (i : Int) = 9 := by omega
                go_wp2_with fail
                refine (HFail.out 7).mono ?_
                rintro e w2 ⟨rfl, hR, hT⟩
                have HR := Lib.hid (And.intro hR hT)
                clear hR hT
                go_wp2_with fail
                go_ret
                refine ⟨HR.out.2, ?_⟩
                rw [HQ.out]
                exact ⟨rfl, HR.out.1⟩
            · rw [if_neg hz] at hs
              have HQ := Lib.hid hs
              clear hs
              by_cases h9 : i = 9
              · subst h9
                have hz1 : ¬ (b.toNat : Int) = 0 := by omega
                have h2 : ¬ (1 : Int) < b.toNat := by omega
                have h9 := or_nine (by omega) HOR.out
                clear hz hbad hi9
                by_cases hce : c = 10
                · subst hce
                  go_wp2_with fail
                  go_ret
                  unfold NumDone
                  rw [HQ.out]
                  have hE := num_end (k := 10) HH.out (by omega) (by rw [if_pos rfl, Nat.sub_self])
                  refine ⟨hE.1, ?_, by omega, hE.2⟩
                  refine congrArg (fun z => Ending.returned (.int .u64 z)) ?_
                  first | rfl | (push_cast; rfl) | (simp; done) | omega
                · have hce' : ¬ (c : Int) = 10 := by omega
                  go_wp2_with fail
                  go_ret
                  unfold NumDone
                  rw [HQ.out]
                  have hE := num_end (k := 10) HH.out (by omega) (by rw [if_neg hce, Option.map_some, Addr.add_mid, Nat.mul_one])
                  refine ⟨hE.1, ?_, by omega, hE.2⟩
                  refine congrArg (fun z => Ending.returned (.int .u64 z)) ?_
                  first | rfl | (push_cast; rfl) | (simp; done) | omega
              · have h9' : ¬ (i : Int) = 9 := by omega
                have hz1 : ((i : Int) = 0 ∧ (b.toNat : Int) = 0) ∨ ¬ (b.toNat : Int) = 0 := by omega
                have hor := HOR.out
                clear hz hbad hi9
                rcases hz1 with ⟨hz1, hz2⟩ | hz1
                · obtain rfl : i = 0 := by omega
                  have hacc0 : acc = 0 := by have := hacc.out; simp at this; exact this
                  subst hacc0
                  rw [hz2, Nat.add_zero] at hc
                  have hb00 : b.toNat = 0 := by omega
                  rw [hb00] at HQ
                  have hor0 : bits BinOp.or IntKind.u64 0 0 = 0 := by decide
                  clear hor
                  by_cases hce : c = 1
                  · subst hce
                    go_wp2_with fail
                    go_ret
                    unfold NumDone
                    rw [HQ.out]
                    have hE := num_end (k := 1) HH.out (by omega) (by rw [if_pos rfl, Nat.sub_self])
                    refine ⟨hE.1, ?_, by omega, hE.2⟩
                    refine congrArg (fun z => Ending.returned (.int .u64 z)) ?_
                    first | rfl | (push_cast; rfl) | (simp; done) | omega
                  · have hce' : ¬ (c : Int) = 1 := by omega
                    go_wp2_with fail
                    go_ret
                    unfold NumDone
                    rw [HQ.out]
                    have hE := num_end (k := 1) HH.out (by omega) (by rw [if_neg hce, Option.map_some, Addr.add_mid, Nat.mul_one])
                    refine ⟨hE.1, ?_, by omega, hE.2⟩
                    refine congrArg (fun z => Ending.returned (.int .u64 z)) ?_
                    first | rfl | (push_cast; rfl) | (simp; done) | omega
                · skip
                  by_cases hce : c = (i + 1)
                  · subst hce
                    go_wp2_with fail
                    go_ret
                    unfold NumDone
                    rw [HQ.out]
                    have hE := num_end (k := (i + 1)) HH.out (by omega) (by rw [if_pos rfl, Nat.sub_self])
                    refine ⟨hE.1, ?_, by omega, hE.2⟩
                    refine congrArg (fun z => Ending.returned (.int .u64 z)) ?_
                    first | rfl | (push_cast; rfl) | (simp; done) | omega
                  · have hce' : ¬ (c : Int) = (i : Int) + 1 := by omega
                    go_wp2_with fail
                    go_ret
                    unfold NumDone
                    rw [HQ.out]
                    have hE := num_end (k := (i + 1)) HH.out (by omega) (by rw [if_neg hce, Option.map_some, Addr.add_mid, Nat.mul_one])
                    refine ⟨hE.1, ?_, by omega, hE.2⟩
                    refine congrArg (fun z => Ending.returned (.int .u64 z)) ?_
                    first | rfl | (push_cast; rfl) | (simp; done) | omega
    · obtain rfl : i = 10 := by omega
      go_wp2_with fail
      refine (HFail.out 7).mono ?_
      rintro e w2 ⟨rfl, hR, hT⟩
      have HR := Lib.hid (And.intro hR hT)
      clear hR hT
      go_wp2_with fail
      go_ret
      have e : scan l = .inr 7 := by rw [← HS.out]; rfl
      refine ⟨HR.out.2, ?_⟩
      rw [e]
      exact ⟨rfl, HR.out.1⟩
end Go.Proofs.Ytliakkpmmmgmhaa
/- What Count, Text and End of a reader tell. -/
namespace Go.Proofs.Ytliakkpmmmgmhaa
open Go.RowKit

/-- Count: the number, and the reader behind it (what it has, its error). -/
def countM (most : Nat) (l : List UInt8) (err : Int) : Nat × List UInt8 × Int :=
  if err = 0 then
    match scan l with
    | .inl (n, k) => if most < n then (0, l, 11) else (n, l.drop k, 0)
    | .inr x => (0, l, x)
  else (0, l, err)
def textM (most : Nat) (l : List UInt8) (err : Int) : List UInt8 × List UInt8 × Int :=
  if err = 0 then
    if (countM most l 0).2.2 = 0 then
      if (countM most l 0).2.1.length < (countM most l 0).1 then ([], l, 10) else ((countM most l 0).2.1.take (countM most l 0).1, (countM most l 0).2.1.drop (countM most l 0).1, 0)
    else ([], (countM most l 0).2.1, (countM most l 0).2.2)
  else ([], l, err)
def CountDone (w : World) (r : Nat) (o : Nat × List UInt8 × Int) (e : Ending) (w' : World) : Prop :=
  e = .returned (.int .i64 (o.1 : Int)) ∧ Turned (fun k => k = r) w w' ∧ ∃ A c, RdrRep w' r o.2.1 o.2.2 A c
theorem scan_err : ∀ (fuel i acc : Nat) (l : List UInt8) (x : Int), scanN l fuel i acc = .inr x → x = 7 ∨ x = 10 := by
  intro fuel
  induction fuel with
  | zero => intro i acc l x h; simp [scanN] at h; omega
  | succ f ih =>
    intro i acc l x h
    simp only [scanN] at h
    split at h
    · injection h with h; omega
    · split at h
      · injection h with h; omega
      · split at h
        · exact ih _ _ _ _ h
        · split at h
          · injection h with h; omega
          · cases h

set_option maxRecDepth 100000 in
set_option maxHeartbeats 4000000 in
theorem count_c (most : Nat) (hm : most ≤ 1000000000) (r : Nat) (l : List UInt8) (err : Int) (A : Option Addr) (c : Nat) (w : World) (h : RdrRep w r l err A c) (hl : l.length ≤ 1000000000) :
    Calls Try.prog 65 #[.pointer (some ⟨r, 0, none⟩), .int .i64 (most : Int)] w (CountDone w r (countM most l err)) := by
  have herr := err_c r l err A c w h
  have hm0 : (0 : Int) ≤ most := by omega
  have hm1 : (most : Int) ≤ 1000000000 := by omega
  have hm2 : ¬ (most : Int) < 0 := by omega
  have c0 : w.cell? ⟨r, 0, none⟩ = some (.slice A l.length c) := h.blk.cell 0
  by_cases he : err = 0
  · subst he
    have hnum := rnum_c r l A c w h hl
    have HH := Lib.hid h
    clear h
    go_enter Try.func65, Try.ntmps65
    go_wp2_with fail
    refine herr.mono ?_
    clear herr
    rintro e w1 ⟨rfl, rfl⟩
    go_wp2_with fail
    refine hnum.mono ?_
    clear hnum
    rintro e w2 ⟨hT, hcase⟩
    cases hs : scan l with
    | inr x =>
      rw [hs] at hcase
      obtain ⟨rfl, hR⟩ := hcase
      have hx : ¬ x = 0 := by have := scan_err _ _ _ _ _ hs; omega
      have c1 : w2.cell? ⟨r, 1, none⟩ = some (.int .i64 x) := hR.blk.cell 1
      have HR := Lib.hid (And.intro hT hR)
      clear hT hR
      go_wp2_with fail
      go_ret
      refine ⟨?_, HR.out.1, A, c, ?_⟩
      · simp [countM, hs]
      · simp only [countM, hs]; exact HR.out.2
    | inl p =>
      obtain ⟨n, k⟩ := p
      rw [hs] at hcase
      obtain ⟨rfl, hk, hR⟩ := hcase
      have c1 : w2.cell? ⟨r, 1, none⟩ = some (.int .i64 0) := hR.blk.cell 1
      have c2 : w2.cell? ⟨r, 0, none⟩ = some _ := hR.blk.cell 0
      have f0 := hR.blk.frozen 0
      have f1 := hR.blk.frozen 1
      have HR := Lib.hid (And.intro hT hR)
      clear hT hR
      by_cases hn : most < n
      · have hn' : (most : Int) < n := by omega
        go_wp2_with fail
        go_ret
        have hT2 : Turned (fun k => k = r) w2 ((w2.setCell ⟨r, 0, none⟩ (.slice A l.length c)).setCell ⟨r, 1, none⟩ (.int .i64 11)) :=
          Turned.setCell (S := fun k => k = r) (Turned.setCell (S := fun k => k = r) (Turned.refl _ w2) (p := ⟨r, 0, none⟩) (fun _ => rfl) _) (p := ⟨r, 1, none⟩) (fun _ => rfl) _
        have hT3 := HR.out.1.trans hT2 (fun k _ h => h)
        refine ⟨?_, hT3, A, c, ?_, ?_⟩
        · simp [countM, hs, hn]
        · simp only [countM, hs, if_pos hn, if_true]
          exact (HR.out.2.blk.set_ 0 (.slice A l.length c)).set_ 1 (.int .i64 11)
        · simp only [countM, hs, if_pos hn, if_true]
          exact HH.out.bs.turned hT3 (fun k e => by subst e; exact HH.out.blk.not8 (by decide))
      · have hn' : ¬ (most : Int) < n := by omega
        have hn1 : (n : Int) ≤ 1000000000 := by omega
        have hn0 : (0 : Int) ≤ n := by omega
        go_wp2_with fail
        go_ret
        refine ⟨?_, HR.out.1, (if c = k then A else A.map (·.add (k * 1))), c - k, ?_⟩
        · simp [countM, hs, hn]
        · simp only [countM, hs, if_neg hn, if_true]; exact HR.out.2
  · have HH := Lib.hid h
    clear h
    go_enter Try.func65, Try.ntmps65
    go_wp2_with fail
    refine herr.mono ?_
    clear herr
    rintro e w1 ⟨rfl, rfl⟩
    go_wp2_with fail
    go_ret
    refine ⟨by simp [countM, he], Turned.refl _ _, A, c, ?_⟩
    simp only [countM, if_neg he]
    exact HH.out

theorem Bs.take {t : TypeId} {w : World} {A : Option Addr} {n c k : Nat} {l : List UInt8} (h : Bs t w A n c l) (hk : k ≤ n) : Bs t w A k c (l.take k) := by
  have hl := h.len
  have hc := h.cap
  refine ⟨by rw [List.length_take]; omega, by omega, h.most, ?_⟩
  rcases h.row with h0 | ⟨g, o, cs, fr, hA, hg, hr⟩
  · exact .inl (by omega)
  · refine .inr ⟨g, o, cs, fr, hA, hg, fun j u hu => hr j u ?_⟩
    have hj : j < k := by
      have := (List.getElem?_eq_some_iff.1 hu).1
      rw [u8s_length, List.length_take] at this; omega
    rw [← hu]
    simp only [u8s, List.getElem?_map, List.getElem?_take_of_lt hj]
theorem rdr_cut {w : World} {r n c : Nat} {l : List UInt8} {A : Option Addr} {V : Value} (h : RdrRep w r l 0 A c) (hk : n ≤ l.length) (hV : V = .slice (if c = n then A else A.map (·.add n)) (l.length - n) (c - n)) :
    Turned (fun k => k = r) w (w.setCell ⟨r, 0, none⟩ V) ∧ RdrRep (w.setCell ⟨r, 0, none⟩ V) r (l.drop n) 0 (if c = n then A else A.map (·.add n)) (c - n) := by
  subst hV
  have hT : Turned (fun k => k = r) w (w.setCell ⟨r, 0, none⟩ (.slice (if c = n then A else A.map (·.add n)) (l.length - n) (c - n))) := Turned.setCell (S := fun k => k = r) (Turned.refl _ w) (p := ⟨r, 0, none⟩) (fun _ => rfl) _
  have hcut := h.bs.cut (lo := n) (hi := l.length) hk (Nat.le_refl _)
  rw [List.take_of_length_le (by rw [List.length_drop]; exact Nat.le_refl _), Nat.mul_one] at hcut
  refine ⟨hT, ?_, ?_⟩
  · have := h.blk.set_ 0 (.slice (if c = n then A else A.map (·.add n)) (l.length - n) (c - n))
    rw [List.length_drop]
    exact this
  · rw [List.length_drop]
    exact hcut.turned hT (fun k e => by subst e; exact h.blk.not8 (by decide))
/-- Text: the text, and the reader behind it. -/
def TextDone (w : World) (r : Nat) (o : List UInt8 × List UInt8 × Int) (e : Ending) (w' : World) : Prop :=
  e = .returned (.string ⟨o.1.toArray⟩) ∧ Turned (fun k => k = r) w w' ∧ ∃ A c, RdrRep w' r o.2.1 o.2.2 A c
theorem countM_len (most : Nat) (l : List UInt8) : (countM most l 0).2.1.length ≤ l.length := by
  unfold countM
  simp only [if_true]
  split
  · split
    · exact Nat.le_refl _
    · simp
  · exact Nat.le_refl _
theorem countM_le (most : Nat) (l : List UInt8) : (countM most l 0).1 ≤ most := by
  unfold countM
  simp only [if_true]
  split
  · split
    · exact Nat.zero_le _
    · simp; omega
  · exact Nat.zero_le _
set_option maxRecDepth 100000 in
set_option maxHeartbeats 4000000 in
theorem rtext_c (most : Nat) (hm : most ≤ 1000000000) (r : Nat) (l : List UInt8) (err : Int) (A : Option Addr) (c : Nat) (w : World) (h : RdrRep w r l err A c) (hl : l.length ≤ 1000000000) :
    Calls Try.prog 66 #[.pointer (some ⟨r, 0, none⟩), .int .i64 (most : Int)] w (TextDone w r (textM most l err)) := by
  have herr := err_c r l err A c w h
  have c0 : w.cell? ⟨r, 0, none⟩ = some (.slice A l.length c) := h.blk.cell 0
  by_cases he : err = 0
  · subst he
    have hcount := count_c most hm r l 0 A c w h hl
    have hlen := countM_len most l
    have hle := countM_le most l
    have htx : textM most l 0 = if (countM most l 0).2.2 = 0 then
      if (countM most l 0).2.1.length < (countM most l 0).1 then ([], l, 10) else ((countM most l 0).2.1.take (countM most l 0).1, (countM most l 0).2.1.drop (countM most l 0).1, 0)
      else ([], (countM most l 0).2.1, (countM most l 0).2.2) := by unfold textM; rw [if_pos rfl]
    generalize countM most l 0 = o at *
    obtain ⟨n, l1, e1⟩ := o
    simp only at htx hlen hle
    have HX := Lib.hid htx
    have HH := Lib.hid h
    clear h htx
    go_enter Try.func66, Try.ntmps66
    go_wp2_with fail
    refine herr.mono ?_
    clear herr
    rintro e w1 ⟨rfl, rfl⟩
    go_wp2_with fail
    refine hcount.mono ?_
    clear hcount
    rintro e w2 ⟨rfl, hT, A1, cc1, hR⟩
    simp only at hR
    have d0 : w2.cell? ⟨r, 0, none⟩ = some (.slice A1 l1.length cc1) := hR.blk.cell 0
    have d1 : w2.cell? ⟨r, 1, none⟩ = some (.int .i64 e1) := hR.blk.cell 1
    have f0 := hR.blk.frozen 0
    have f1 := hR.blk.frozen 1
    have hcap := hR.bs.cap
    have HR := Lib.hid (And.intro hT hR)
    clear hT hR
    by_cases h1 : e1 = 0
    · subst h1
      by_cases hn : l1.length < n
      · have hn' : (l1.length : Int) < n := by omega
        have htx : textM most l 0 = ([], l, 10) := by rw [HX.out, if_pos rfl, if_pos hn]
        have HX2 := Lib.hid htx
        clear htx HX
        go_wp2_with fail
        go_ret
        have hT2 : Turned (fun k => k = r) w2 ((w2.setCell ⟨r, 0, none⟩ (.slice A l.length c)).setCell ⟨r, 1, none⟩ (.int .i64 10)) :=
          Turned.setCell (S := fun k => k = r) (Turned.setCell (S := fun k => k = r) (Turned.refl _ w2) (p := ⟨r, 0, none⟩) (fun _ => rfl) _) (p := ⟨r, 1, none⟩) (fun _ => rfl) _
        have hT3 := HR.out.1.trans hT2 (fun k _ h => h)
        rw [HX2.out]
        exact ⟨rfl, hT3, A, c, (HR.out.2.blk.set_ 0 (.slice A l.length c)).set_ 1 (.int .i64 10), HH.out.bs.turned hT3 (fun k e => by subst e; exact HH.out.blk.not8 (by decide))⟩
      · have hn' : ¬ (l1.length : Int) < n := by omega
        have hn0 : (0 : Int) ≤ n := by omega
        have htx : textM most l 0 = (l1.take n, l1.drop n, 0) := by rw [HX.out, if_pos rfl, if_neg hn]
        have HX2 := Lib.hid htx
        have hstr := (HR.out.2.bs.take (k := n) (by omega)).toString (P := Try.prog) (src := 31) (dst := 9) Try.underlying31 Try.underlying5 Try.underlying9
        have hnc : (n : Int) ≤ cc1 := by omega
        have hnl : (n : Int) ≤ l1.length := by omega
        clear htx HX
        by_cases hce : cc1 = n
        · subst hce
          go_wp2_with fail
          go_ret
          rw [HX2.out]
          have hE := rdr_cut (V := .slice A1 0 0) (n := cc1) HR.out.2 (by omega) (by rw [if_pos rfl, Nat.sub_self, show l1.length - cc1 = 0 by omega])
          exact ⟨rfl, HR.out.1.trans hE.1 (fun k _ h => h), _, _, hE.2⟩
        · have hce' : ¬ (cc1 : Int) = n := by omega
          go_wp2_with fail
          go_ret
          rw [HX2.out]
          have hE := rdr_cut (n := n) HR.out.2 (by omega) (by rw [if_neg hce])
          exact ⟨rfl, HR.out.1.trans hE.1 (fun k _ h => h), _, _, hE.2⟩
    · have htx : textM most l 0 = ([], l1, e1) := by rw [HX.out, if_neg h1]
      have HX2 := Lib.hid htx
      clear htx HX
      go_wp2_with fail
      go_ret
      rw [HX2.out]
      exact ⟨rfl, HR.out.1, A1, cc1, HR.out.2⟩
  · have HH := Lib.hid h
    clear h
    go_enter Try.func66, Try.ntmps66
    go_wp2_with fail
    refine herr.mono ?_
    clear herr
    rintro e w1 ⟨rfl, rfl⟩
    go_wp2_with fail
    go_ret
    unfold textM
    rw [if_neg he]
    exact ⟨rfl, Turned.refl _ _, A, c, HH.out⟩

def endM (l : List UInt8) (err : Int) : Int := if err = 0 ∧ 0 < l.length then 12 else err
set_option maxRecDepth 100000 in
set_option maxHeartbeats 2000000 in
theorem end_c (r : Nat) (l : List UInt8) (err : Int) (A : Option Addr) (c : Nat) (w : World) (h : RdrRep w r l err A c) :
    Calls Try.prog 68 #[.pointer (some ⟨r, 0, none⟩)] w fun e w' => e = .returned (.int .i64 (endM l err)) ∧ Turned (fun k => k = r) w w' ∧ RdrRep w' r l (endM l err) A c := by
  have herr := err_c r l err A c w h
  have c0 : w.cell? ⟨r, 0, none⟩ = some (.slice A l.length c) := h.blk.cell 0
  have c1 : w.cell? ⟨r, 1, none⟩ = some (.int .i64 err) := h.blk.cell 1
  have f1 := h.blk.frozen 1
  by_cases he : err = 0
  · subst he
    by_cases hl : 0 < l.length
    · have hl' : (0 : Int) < l.length := by omega
      have hT : Turned (fun k => k = r) w (w.setCell ⟨r, 1, none⟩ (.int .i64 12)) := Turned.setCell (S := fun k => k = r) (Turned.refl _ w) (p := ⟨r, 1, none⟩) (fun _ => rfl) _
      have hR : RdrRep (w.setCell ⟨r, 1, none⟩ (.int .i64 12)) r l 12 A c := ⟨h.blk.set_ 1 _, h.bs.turned hT (fun k e => by subst e; exact h.blk.not8 (by decide))⟩
      have herr2 := err_c r l 12 A c _ hR
      have HR := Lib.hid (And.intro hT hR)
      have HM : Hid (endM l 0 = 12) := by show _ = _; unfold endM; rw [if_pos ⟨rfl, hl⟩]
      clear h hT hR
      go_enter Try.func68, Try.ntmps68
      go_wp2_with fail
      refine herr.mono ?_
      clear herr
      rintro e w1 ⟨rfl, rfl⟩
      go_wp2_with fail
      refine herr2.mono ?_
      clear herr2
      rintro e w1 ⟨rfl, rfl⟩
      go_wp2_with fail
      go_ret
      rw [HM.out]
      exact ⟨rfl, HR.out.1, HR.out.2⟩
    · have hl' : ¬ (0 : Int) < l.length := by omega
      have HM : Hid (endM l 0 = 0) := by show _ = _; unfold endM; rw [if_neg (fun h => hl h.2)]
      have HH := Lib.hid h
      have herr2 := herr
      clear h
      go_enter Try.func68, Try.ntmps68
      go_wp2_with fail
      refine herr.mono ?_
      clear herr
      rintro e w1 ⟨rfl, rfl⟩
      go_wp2_with fail
      refine herr2.mono ?_
      clear herr2
      rintro e w1 ⟨rfl, rfl⟩
      go_wp2_with fail
      go_ret
      rw [HM.out]
      exact ⟨rfl, Turned.refl _ _, HH.out⟩
  · have HM : Hid (endM l err = err) := by show _ = _; unfold endM; rw [if_neg (fun h => he h.1)]
    have HH := Lib.hid h
    have herr2 := herr
    clear h
    go_enter Try.func68, Try.ntmps68
    go_wp2_with fail
    refine herr.mono ?_
    clear herr
    rintro e w1 ⟨rfl, rfl⟩
    go_wp2_with fail
    refine herr2.mono ?_
    clear herr2
    rintro e w1 ⟨rfl, rfl⟩
    go_wp2_with fail
    go_ret
    rw [HM.out]
    exact ⟨rfl, Turned.refl _ _, HH.out⟩
end Go.Proofs.Ytliakkpmmmgmhaa
/- What is written is read again; a new reader. -/
namespace Go.Proofs.Ytliakkpmmmgmhaa
open Go.RowKit

theorem u8_nat {m : Nat} (h : m < 256) : (UInt8.ofNat m).toNat = m := by rw [UInt8.toNat_ofNat']; omega
theorem scanN_num : ∀ (fuel i acc m : Nat) (pre rest : List UInt8), pre.length = i → fuel + i = 10 → i < 10 → m * 2 ^ (7 * i) < 18446744073709551616 → (0 < m ∨ i = 0) →
    scanN (pre ++ (numB m ++ rest)) fuel i acc = .inl (acc + m * 2 ^ (7 * i), i + (numB m).length) := by
  intro fuel
  induction fuel with
  | zero => intro i acc m pre rest _ h1 h2; omega
  | succ f ih =>
    intro i acc m pre rest hpre hf hi hm h0
    by_cases hs : m < 128
    · rw [numB_small hs]
      have hat : (pre ++ ([UInt8.ofNat m] ++ rest))[i]? = some (UInt8.ofNat m) := by
        rw [List.getElem?_append_right (by omega)]; simp [hpre]
      simp only [scanN, hat, u8_nat (show m < 256 by omega)]
      have h9 : ¬ (i = 9 ∧ 1 < m) := by
        rintro ⟨rfl, h⟩
        simp at hm
        omega
      rw [if_neg h9, if_neg (by omega), if_neg (by omega), Nat.mod_eq_of_lt hs]
      simp
    · rw [numB_big hs]
      have hat : (pre ++ (UInt8.ofNat (m % 128 + 128) :: numB (m / 128) ++ rest))[i]? = some (UInt8.ofNat (m % 128 + 128)) := by
        rw [List.getElem?_append_right (by omega)]; simp [hpre]
      simp only [scanN, hat, u8_nat (show m % 128 + 128 < 256 by omega)]
      have h9 : i ≠ 9 := by
        rintro rfl
        simp at hm
        omega
      have hmul : m * 2 ^ (7 * i) = (m % 128) * 2 ^ (7 * i) + (m / 128) * 2 ^ (7 * (i + 1)) := by
        rw [show 7 * (i + 1) = 7 * i + 7 by omega, Nat.pow_add, Nat.mul_comm (2 ^ (7 * i)) (2 ^ 7), ← Nat.mul_assoc, ← Nat.add_mul]
        congr 1
        omega
      rw [if_neg (by omega), if_pos (by omega)]
      have := ih (i + 1) (acc + (m % 128 + 128) % 128 * 2 ^ (7 * i)) (m / 128) (pre ++ [UInt8.ofNat (m % 128 + 128)]) rest (by simp [hpre]) (by omega) (by omega) (by omega) (by left; omega)
      rw [List.append_assoc] at this
      have e : [UInt8.ofNat (m % 128 + 128)] ++ (numB (m / 128) ++ rest) = UInt8.ofNat (m % 128 + 128) :: numB (m / 128) ++ rest := by simp
      rw [e] at this
      rw [this, hmul]
      congr 2
      · rw [show (m % 128 + 128) % 128 = m % 128 by omega]; omega
      · rw [List.length_cons]; omega
theorem scan_num (n : Nat) (rest : List UInt8) (hn : n < 18446744073709551616) : scan (numB n ++ rest) = .inl (n, (numB n).length) := by
  have := scanN_num 10 0 0 n [] rest rfl rfl (by omega) (by simpa using hn) (.inr rfl)
  simpa [scan] using this
theorem countM_num (most n : Nat) (rest : List UInt8) (hn : n < 18446744073709551616) (hm : n ≤ most) : countM most (numB n ++ rest) 0 = (n, rest, 0) := by
  unfold countM
  rw [if_pos rfl, scan_num n rest hn]
  simp only
  rw [if_neg (by omega)]
  simp
theorem textM_text (most : Nat) (s rest : List UInt8) (hs : s.length < 18446744073709551616) (hm : s.length ≤ most) : textM most (numB s.length ++ (s ++ rest)) 0 = (s, rest, 0) := by
  unfold textM
  rw [countM_num most s.length (s ++ rest) hs hm]
  simp
end Go.Proofs.Ytliakkpmmmgmhaa
/- A new reader. -/
namespace Go.Proofs.Ytliakkpmmmgmhaa
open Go.RowKit

def NewRdr (w : World) (l : List UInt8) (e : Ending) (w' : World) : Prop :=
  ∃ (r : Nat) (A : Option Addr) (c : Nat), e = .returned (.pointer (some ⟨r, 0, none⟩)) ∧ RdrRep w' r l 0 A c ∧ w.heap.size ≤ r ∧ Below w.heap.size w w'
set_option maxRecDepth 100000 in
set_option maxHeartbeats 2000000 in
theorem read_c {tb : TypeId} (A : Option Addr) (n c : Nat) (l : List UInt8) (w : World) (h : Bs tb w A n c l) (hn : n ≤ 1000000000) : Calls Try.prog 64 #[.slice A n c] w (NewRdr w l) := by
  obtain ⟨i0, hi, hz, hs, hb⟩ := info_parts info8
  have hsz1 : (Try.prog.info? 5).map (·.size) = some 1 := by rw [hi]; simp [hs]
  obtain ⟨w1, hmk, hown, hgr⟩ := run_make_full (P := Try.prog) w w.heap.size 31 5 i0 (.int .u8 0) 1 Try.underlying31 hi hz hs .i64 .i64 n (by rw [hb]; omega) (by simp only [maxLen]; omega) (Nat.le_refl _)
  obtain ⟨hlen, ⟨he, _⟩ | ⟨g, cap, cur, he, hbg, hg, hnc, hcm, hcs, htk⟩⟩ := hown
  · cases he
  injection he with e1 _ e3
  injection e1 with e1; injection e1 with e1
  subst e1; subst e3
  have hbel1 : Below w.heap.size w w1 := ⟨hgr.os, hgr.tape, hgr.output, hgr.size, fun k hk => hgr.block k hk (by simp)⟩
  have hb1 := h.below hbel1
  have hll := h.len
  have HW := Lib.hid (And.intro hg (And.intro hbel1 (And.intro hb1 (And.intro hcs (And.intro hsz1 hll)))))
  have hn' : (n : Int) ≤ 1000000000 := by omega
  clear h hi hz hs hb hgr hlen hg hnc hcm hcs htk hbel1 hb1 hbg hsz1 hll
  by_cases h0 : n = 0
  · have H0 := Lib.hid h0
    clear h0
    go_enter Try.func64, Try.ntmps64
    go_wp2_with (
      (refine at_dst 9 rfl ?_)
      (refine wpList_copy_nothing rfl (.tmp 7) (.tmp 8) 31 31 rfl 5 Try.underlying31 HW.out.2.2.2.2.1 (some ⟨w.heap.size, 0, none⟩) A n n n c rfl rfl (by rw [H0.out]; rfl) ?_))
    go_ret
    have h0 := H0.out
    obtain ⟨hg, hbel, hbs, hcs, _, hl⟩ := HW.out
    obtain rfl : l = [] := List.eq_nil_of_length_eq_zero (by omega)
    have hsz := hbel.size
    refine ⟨w1.heap.size, some ⟨w.heap.size, 0, none⟩, n, rfl, ⟨?_, ?_⟩, hsz, hbel.alloc hsz _⟩
    · have := Blk.new w1 133 #[.slice (some ⟨w.heap.size, 0, none⟩) n n, .int .i64 0]
      rw [h0] at this ⊢
      exact this
    · exact Bs.empty _ _ _ (by rw [h0]; exact Nat.zero_le _)
  · obtain ⟨g, o, hA, _⟩ := HW.out.2.2.1.lt (by omega)
    subst hA
    have hcs : (u8s l).length = Nat.min n n := by rw [u8s_length, HW.out.2.2.2.2.2]; exact (Nat.min_self n).symm
    have HC := Lib.hid hcs
    clear hcs
    go_enter Try.func64, Try.ntmps64
    go_wp2_with (
      (refine at_dst 9 rfl ?_)
      (refine wpList_copy_own rfl (.tmp 7) (.tmp 8) 31 31 rfl 5 Try.underlying31 HW.out.2.2.2.2.1 w.heap.size 0 n n ⟨g, o, none⟩ n c rfl rfl cur 5 HW.out.1 (u8s l) HC.out (HW.out.2.2.1.news rfl) (by rw [u8s_length, HW.out.2.2.2.2.2, HW.out.2.2.2.1]; omega) (u8s_oneCell l) ?_))
    go_ret
    obtain ⟨hg, hbel, hbs, hcs, _, hl⟩ := HW.out
    have hsz := hbel.size
    have hrow : (u8s l ++ List.drop (u8s l).length cur.toList).toArray = (u8s l).toArray := by
      rw [List.drop_eq_nil_of_le (by rw [u8s_length, Array.length_toList]; omega), List.append_nil]
    rw [hrow]
    have hbel2 : Below w.heap.size w (w1.setRow w.heap.size (u8s l).toArray) := below_setRow hbel (Nat.le_refl _) _
    have hsz2 := hbel2.size
    have hhs : (w1.setRow w.heap.size (u8s l).toArray).heap.size = w1.heap.size := by simp [World.setRow]
    have hB := Blk.new (w1.setRow w.heap.size (u8s l).toArray) 133 #[.slice (some ⟨w.heap.size, 0, none⟩) n n, .int .i64 0]
    rw [hhs] at hB
    have hrowB : Bs 5 (w1.setRow w.heap.size (u8s l).toArray) (some ⟨w.heap.size, 0, none⟩) n n l :=
      ⟨hl, Nat.le_refl _, by simp only [maxLen]; omega, .inr ⟨w.heap.size, 0, (u8s l).toArray, (0, 0), rfl, setRow_heap w1 _ cur _ _ _ hg, fun j u hu => by simpa using hu⟩⟩
    refine ⟨w1.heap.size, some ⟨w.heap.size, 0, none⟩, n, rfl, ⟨?_, ?_⟩, hsz, hbel2.alloc hsz2 _⟩
    · rw [hl]; exact hB
    · rw [hl]; exact hrowB.alloc _
end Go.Proofs.Ytliakkpmmmgmhaa
/- The check sum: a function of the bytes. -/
namespace Go.Proofs.Ytliakkpmmmgmhaa
open Go.RowKit

/-- Parts in memory. -/
def PartsAt (w : World) (A : Option Addr) (ps : List (Option Addr × Nat × Nat × List UInt8 × TypeId)) : Prop :=
  ∀ i p, ps[i]? = some p → (∃ g o, A = some ⟨g, o, none⟩ ∧ w.cell? ⟨g, o + i, none⟩ = some (.slice p.1 p.2.1 p.2.2.1)) ∧ Bs p.2.2.2.2 w p.1 p.2.1 p.2.2.1 p.2.2.2.1

def rnd (x : Int) : Int := if bits BinOp.and IntKind.u32 x 1 = 1 then bits BinOp.xor IntKind.u32 (x / 2) 3988292384 else x / 2
def rnds : Nat → Int → Int
  | 0, x => x
  | n + 1, x => rnds n (rnd x)
def crcB (y : Int) (b : UInt8) : Int := rnds 8 (bits BinOp.xor IntKind.u32 y (b.toNat : Int))
def crcL (l : List UInt8) (y : Int) : Int := l.foldl crcB y
/-- The check sum of bytes. -/
def crcOf (l : List UInt8) : Int := bits BinOp.xor IntKind.u32 IntKind.u32.max (crcL l 4294967295)
theorem crcL_append (l k : List UInt8) (y : Int) : crcL (l ++ k) y = crcL k (crcL l y) := List.foldl_append
theorem u32_range (a : Int) : 0 ≤ IntKind.u32.wrap a ∧ IntKind.u32.wrap a < 4294967296 := by
  simp only [IntKind.wrap, IntKind.signed, IntKind.bits]
  simp
  omega
theorem xor_range (a b : Int) : 0 ≤ bits BinOp.xor IntKind.u32 a b ∧ bits BinOp.xor IntKind.u32 a b < 4294967296 := by
  show 0 ≤ IntKind.u32.wrap _ ∧ IntKind.u32.wrap _ < 4294967296
  exact u32_range _
theorem take_step {l : List UInt8} {j : Nat} {b : UInt8} (h : l[j]? = some b) (y : Int) : crcL (l.drop j) y = crcL (l.drop (j + 1)) (crcB y b) := by
  have hlt := (List.getElem?_eq_some_iff.1 h).1
  have hb := (List.getElem?_eq_some_iff.1 h).2
  rw [List.drop_eq_getElem_cons hlt, hb]; rfl
def allB (ps : List (Option Addr × Nat × Nat × List UInt8 × TypeId)) : List UInt8 := ps.flatMap (fun p => p.2.2.2.1)

set_option maxRecDepth 100000 in
set_option maxHeartbeats 4000000 in
theorem crc_c (A : Option Addr) (c : Nat) (ps : List (Option Addr × Nat × Nat × List UInt8 × TypeId)) (w : World) (h : PartsAt w A ps) (hk : ps.length ≤ 1000) :
    Calls Try.prog 93 #[.slice A ps.length c] w fun e w' => e = .returned (.int .u32 (crcOf (allB ps))) ∧ w = w' := by
  have HH := Lib.hid h
  have hk' : (ps.length : Int) ≤ 1000 := by omega
  obtain ⟨tgt, ht⟩ : ∃ tgt, tgt = crcL (allB ps) 4294967295 := ⟨_, rfl⟩
  have HT := Lib.hid ht
  have HC : Hid (crcOf (allB ps) = bits BinOp.xor IntKind.u32 IntKind.u32.max tgt) := by show _ = _; rw [ht]; rfl
  clear h ht
  go_enter Try.func93, Try.ntmps93
  go_wp2_with fail
  go_loop [3, 11] (fun s i => ∃ (i' : Nat) (z : Int), i' ≤ ps.length ∧ 0 ≤ z ∧ z < 4294967296 ∧ Hid (crcL (allB (ps.drop i')) z = tgt) ∧ s = .int .u32 z ∧ i = .int .i64 (i' : Int)) (fun _ i => ps.length - (intOf i).toNat)
  case atStart => exact ⟨0, _, by omega, by omega, by omega, HT.out.symm, rfl, rfl⟩
  case round =>
    obtain ⟨i, z, hi, hz0, hz1, HZ, rfl, rfl⟩ := hrel
    by_cases hil : i < ps.length
    · obtain ⟨p, hp⟩ : ∃ p, ps[i]? = some p := ⟨_, List.getElem?_eq_getElem hil⟩
      obtain ⟨⟨g, o, rfl, hc⟩, hb⟩ := HH.out i p hp
      have hstep : allB (ps.drop i) = p.2.2.2.1 ++ allB (ps.drop (i + 1)) := by
        rw [List.drop_eq_getElem_cons hil, (List.getElem?_eq_some_iff.1 hp).2]; rfl
      obtain ⟨pA, pn, pc, pl, ptb⟩ := p
      simp only at hc hb hstep
      have HY : Hid (crcL (allB (ps.drop (i + 1))) (crcL pl z) = tgt) := by show _ = _; rw [← crcL_append, ← hstep]; exact HZ.out
      have hbig : (pn : Int) ≤ 9223372036854775807 := by have := hb.cap; have := hb.most; simp only [maxLen] at this; omega
      have HB := Lib.hid hb
      clear hp hb hstep
      go_wp2_with fail
      go_loop [3, 17] (fun s j => ∃ (j' : Nat) (z' : Int), j' ≤ pn ∧ 0 ≤ z' ∧ z' < 4294967296 ∧ Hid (crcL (pl.drop j') z' = crcL pl z) ∧ s = .int .u32 z' ∧ j = .int .i64 (j' : Int)) (fun _ j => pn - (intOf j).toNat)
      case atStart => exact ⟨0, z, by omega, hz0, hz1, rfl, rfl, rfl⟩
      case round =>
        obtain ⟨j, y, hj, hy0, hy1, HJ, rfl, rfl⟩ := hrel
        by_cases hjn : j < pn
        · obtain ⟨g2, o2, b, rfl, hbl, hcb⟩ := HB.out.at_ hjn
          have hb0 : (0 : Int) ≤ (b.toNat : Int) := by omega
          have hb1 : (b.toNat : Int) < 256 := by have := b.toNat_lt; omega
          have HJ2 : Hid (crcL (pl.drop (j + 1)) (crcB y b) = crcL pl z) := by show _ = _; rw [← take_step hbl]; exact HJ.out
          clear hbl
          go_wp2_with fail
          go_loop [3, 25] (fun s q => ∃ (q' : Nat) (x : Int), q' ≤ 8 ∧ 0 ≤ x ∧ x < 4294967296 ∧ Hid (rnds (8 - q') x = crcB y b) ∧ s = .int .u32 x ∧ q = .int .i64 (q' : Int)) (fun _ q => 8 - (intOf q).toNat)
          case atStart => exact ⟨0, _, by omega, (xor_range _ _).1, (xor_range _ _).2, rfl, rfl, rfl⟩
          case round =>
            obtain ⟨q, x, hq, hx0, hx1, HX, rfl, rfl⟩ := hrel
            by_cases hq8 : q < 8
            · have HX2 : Hid (rnds (8 - (q + 1)) (rnd x) = crcB y b) := by
                show _ = _
                rw [← HX.out, show 8 - q = (8 - (q + 1)) + 1 by omega]; rfl
              by_cases hlow : bits BinOp.and IntKind.u32 x 1 = 1
              · have hr : rnd x = bits BinOp.xor IntKind.u32 (x / 2) 3988292384 := if_pos hlow
                rw [hr] at HX2
                clear hr
                go_wp2_with fail
                go_round
                case rel => exact ⟨q + 1, _, by omega, (xor_range _ _).1, (xor_range _ _).2, HX2, rfl, by go_num⟩
                case measure => simp [intOf]; omega
              · have hr : rnd x = x / 2 := if_neg hlow
                rw [hr] at HX2
                clear hr
                go_wp2_with fail
                go_round
                case rel => exact ⟨q + 1, _, by omega, by omega, by omega, HX2, rfl, by go_num⟩
                case measure => simp [intOf]; omega
            · obtain rfl : q = 8 := by omega
              have hx : x = crcB y b := HX.out
              rw [← hx] at HJ2
              clear hx
              go_wp2_with fail
              go_round
              case rel => exact ⟨j + 1, x, by omega, hx0, hx1, HJ2, rfl, by go_num⟩
              case measure => simp [intOf]; omega
        · obtain rfl : j = pn := by omega
          have hy : y = crcL pl z := by
            have := HJ.out
            rw [List.drop_eq_nil_of_le (by have := HB.out.len; omega)] at this
            exact this
          rw [← hy] at HY
          clear hy
          go_wp2_with fail
          go_round
          case rel => exact ⟨i + 1, y, by omega, hy0, hy1, HY, rfl, by go_num⟩
          case measure => simp [intOf]; omega
    · obtain rfl : i = ps.length := by omega
      have hz : z = tgt := by
        have := HZ.out
        rw [List.drop_length] at this
        exact this
      have HZ2 := Lib.hid hz
      clear hz
      go_wp2_with fail
      go_ret
      rw [HC.out, ← HZ2.out]
      exact ⟨rfl, rfl⟩
end Go.Proofs.Ytliakkpmmmgmhaa
/- The disk in memory; whether it is down, what can be had. -/
namespace Go.Proofs.Ytliakkpmmmgmhaa
open Go.RowKit

/-- A disk in memory. L: each block as it is now, and as it surely is. W: the writes that are not sure. -/
structure DiskG where
  d : Nat
  bb : Nat
  cap : Nat
  B : Array Value
  L : List (List UInt8 × List UInt8)
  pA : Option Addr
  pc : Nat
  W : List (Nat × List UInt8)
  fA : Option Addr
  fn : Nat
  fc : Nat
  changes : Int
  down : Bool
def DiskG.head (D : DiskG) : Array Value := #[.slice (some ⟨D.bb, 0, none⟩) D.L.length D.cap, .slice D.pA D.W.length D.pc, .slice D.fA D.fn D.fc, .int .i64 D.changes, .bool D.down]
def writeCells (x : Nat × List UInt8) : List Value := .int .i64 (x.1 : Int) :: u8s x.2
structure DiskRep (w : World) (D : DiskG) : Prop where
  bd : Blk w D.d 81 D.head
  bb : Blk w D.bb 116 D.B
  size : D.B.size = D.cap * 1024
  cap : D.L.length ≤ D.cap
  most : D.cap ≤ maxLen
  len : D.L.length ≤ 4096
  row : ∀ i x, D.L[i]? = some x → x.1.length = 512 ∧ x.2.length = 512 ∧ (∀ j u, (u8s x.1)[j]? = some u → D.B[i * 1024 + j]? = some u) ∧ (∀ j u, (u8s x.2)[j]? = some u → D.B[i * 1024 + 512 + j]? = some u)
  pend : Rd 113 513 w D.pA D.W.length D.pc (D.W.flatMap writeCells)
  pok : ∀ x ∈ D.W, x.1 < D.L.length ∧ x.2.length = 512

set_option maxRecDepth 100000 in
set_option maxHeartbeats 1000000 in
theorem down_c (D : DiskG) (w : World) (h : DiskRep w D) : Calls Try.prog 57 #[.pointer (some ⟨D.d, 0, none⟩)] w fun e w' => e = .returned (.bool D.down) ∧ w = w' := by
  have c4 : w.cell? ⟨D.d, 4, none⟩ = some (.bool D.down) := h.bd.cell 4
  clear h
  go_enter Try.func57, Try.ntmps57
  go_wp2
  go_ret
  exact ⟨rfl, rfl⟩
set_option maxRecDepth 100000 in
set_option maxHeartbeats 1000000 in
theorem down_none (w : World) : Calls Try.prog 57 #[.pointer none] w fun e w' => e = .returned (.bool true) ∧ w = w' := by
  go_enter Try.func57, Try.ntmps57
  go_wp2
  go_ret
  exact ⟨rfl, rfl⟩
set_option maxRecDepth 100000 in
set_option maxHeartbeats 1000000 in
theorem blocks_c (D : DiskG) (w : World) (h : DiskRep w D) : Calls Try.prog 34 #[.pointer (some ⟨D.d, 0, none⟩)] w fun e w' => e = .returned (.int .i64 (D.L.length : Int)) ∧ w = w' := by
  have c0 : w.cell? ⟨D.d, 0, none⟩ = some (.slice (some ⟨D.bb, 0, none⟩) D.L.length D.cap) := h.bd.cell 0
  have hl := h.len
  clear h
  go_enter Try.func34, Try.ntmps34
  go_wp2
  go_ret
  exact ⟨rfl, rfl⟩
/-- Why a block can't be had. -/
def hasM (D : DiskG) (i : Int) : Int := if D.down = true then 6 else if i < 0 ∨ (D.L.length : Int) ≤ i then 2 else 0
set_option maxRecDepth 100000 in
set_option maxHeartbeats 1000000 in
theorem dhas_c (D : DiskG) (i : Int) (w : World) (h : DiskRep w D) : Calls Try.prog 59 #[.pointer (some ⟨D.d, 0, none⟩), .int .i64 i] w fun e w' => e = .returned (.int .i64 (hasM D i)) ∧ w = w' := by
  have c0 : w.cell? ⟨D.d, 0, none⟩ = some (.slice (some ⟨D.bb, 0, none⟩) D.L.length D.cap) := h.bd.cell 0
  have hl := h.len
  have hdown := down_c D w h
  clear h
  cases hd : D.down with
  | true =>
    rw [hd] at hdown
    have HM : Hid (hasM D i = 6) := by show _ = _; unfold hasM; rw [if_pos hd]
    go_enter Try.func59, Try.ntmps59
    go_wp2_with fail
    refine hdown.mono ?_
    clear hdown
    rintro e w1 ⟨rfl, rfl⟩
    go_wp2_with fail
    go_ret
    exact ⟨by rw [HM.out]; rfl, rfl⟩
  | false =>
    rw [hd] at hdown
    by_cases h1 : i < 0
    · have HM : Hid (hasM D i = 2) := by show _ = _; unfold hasM; rw [if_neg (by rw [hd]; decide), if_pos (.inl h1)]
      go_enter Try.func59, Try.ntmps59
      go_wp2_with fail
      refine hdown.mono ?_
      clear hdown
      rintro e w1 ⟨rfl, rfl⟩
      go_wp2_with fail
      go_ret
      exact ⟨by rw [HM.out]; rfl, rfl⟩
    · by_cases h2 : (D.L.length : Int) ≤ i
      · have HM : Hid (hasM D i = 2) := by show _ = _; unfold hasM; rw [if_neg (by rw [hd]; decide), if_pos (.inr h2)]
        go_enter Try.func59, Try.ntmps59
        go_wp2_with fail
        refine hdown.mono ?_
        clear hdown
        rintro e w1 ⟨rfl, rfl⟩
        go_wp2_with fail
        go_ret
        exact ⟨by rw [HM.out]; rfl, rfl⟩
      · have HM : Hid (hasM D i = 0) := by show _ = _; unfold hasM; rw [if_neg (by rw [hd]; decide), if_neg (by omega)]
        go_enter Try.func59, Try.ntmps59
        go_wp2_with fail
        refine hdown.mono ?_
        clear hdown
        rintro e w1 ⟨rfl, rfl⟩
        go_wp2_with fail
        go_ret
        exact ⟨by rw [HM.out]; rfl, rfl⟩
end Go.Proofs.Ytliakkpmmmgmhaa
/- Power comes again; how many changes there were. -/
namespace Go.Proofs.Ytliakkpmmmgmhaa
open Go.RowKit

theorem DiskRep.turned {S : Nat → Prop} {w w' : World} {D : DiskG} (h : DiskRep w D) (k : Turned S w w') (h1 : ¬ S D.d) (h2 : ¬ S D.bb) (h3 : ∀ g o, D.pA = some ⟨g, o, none⟩ → ¬ S g) : DiskRep w' D :=
  { h with bd := h.bd.turned k h1, bb := h.bb.turned k h2, pend := h.pend.turned' k h3 }
theorem DiskRep.d_ne_bb {w : World} {D : DiskG} (h : DiskRep w D) : D.d ≠ D.bb := h.bd.ne_ h.bb (by decide)
def DiskG.up (D : DiskG) : DiskG := { D with down := false }
theorem DiskRep.setDown {w : World} {D : DiskG} (h : DiskRep w D) : DiskRep (w.setCell ⟨D.d, 4, none⟩ (.bool false)) D.up ∧ Turned (fun k => k = D.d) w (w.setCell ⟨D.d, 4, none⟩ (.bool false)) := by
  have hT : Turned (fun k => k = D.d) w (w.setCell ⟨D.d, 4, none⟩ (.bool false)) := Turned.setCell (S := fun k => k = D.d) (Turned.refl _ w) (p := ⟨D.d, 4, none⟩) (fun _ => rfl) _
  refine ⟨{ bd := ?_, bb := h.bb.turned hT (fun e => h.d_ne_bb e.symm), size := h.size, cap := h.cap, most := h.most, len := h.len, row := h.row, pend := h.pend.turned hT (fun k e => by subst e; exact h.bd.not8 (by decide)), pok := h.pok }, hT⟩
  exact h.bd.set_ 4 (.bool false)
set_option maxRecDepth 100000 in
set_option maxHeartbeats 1000000 in
theorem up_c (D : DiskG) (w : World) (h : DiskRep w D) : Calls Try.prog 31 #[.pointer (some ⟨D.d, 0, none⟩)] w fun e w' => e = .returned (.bool D.down) ∧ DiskRep w' D.up ∧ Turned (fun k => k = D.d) w w' := by
  have c4 : w.cell? ⟨D.d, 4, none⟩ = some (.bool D.down) := h.bd.cell 4
  have f4 := h.bd.frozen 4
  have HS := Lib.hid h.setDown
  have HH := Lib.hid h
  clear h
  cases hd : D.down with
  | true =>
    rw [hd] at c4
    go_enter Try.func31, Try.ntmps31
    go_wp2
    go_ret
    exact ⟨rfl, HS.out.1, HS.out.2⟩
  | false =>
    rw [hd] at c4
    go_enter Try.func31, Try.ntmps31
    go_wp2
    go_ret
    have e : D.up = D := by cases D; simp only [DiskG.up] at *; rw [hd]
    rw [e]
    exact ⟨rfl, HH.out, Turned.refl _ _⟩
end Go.Proofs.Ytliakkpmmmgmhaa
/- A block's bytes. -/
namespace Go.Proofs.Ytliakkpmmmgmhaa
open Go.RowKit
/-- What Read of a disk tells. -/
def GotBlock (w : World) (D : DiskG) (i : Int) (e : Ending) (w' : World) : Prop :=
  Below w.heap.size w w' ∧
  ((hasM D i ≠ 0 ∧ e = .returned (.tuple #[.slice none 0 0, .int .i64 (hasM D i)])) ∨
   (hasM D i = 0 ∧ ∃ v x, e = .returned (.tuple #[v, .int .i64 0]) ∧ D.L[i.toNat]? = some x ∧ Fresh w w' v x.1))
theorem hasM_ok {D : DiskG} {i : Int} (h : hasM D i = 0) : 0 ≤ i ∧ i < D.L.length := by
  unfold hasM at h
  split at h
  · omega
  · split at h
    · omega
    · omega
set_option maxRecDepth 100000 in
set_option maxHeartbeats 2000000 in
theorem dread_c (D : DiskG) (i : Int) (w : World) (h : DiskRep w D) : Calls Try.prog 35 #[.pointer (some ⟨D.d, 0, none⟩), .int .i64 i] w (GotBlock w D i) := by
  have c0 : w.cell? ⟨D.d, 0, none⟩ = some (.slice (some ⟨D.bb, 0, none⟩) D.L.length D.cap) := h.bd.cell 0
  have hl := h.len
  have hhas := dhas_c D i w h
  have HH := Lib.hid h
  clear h
  by_cases hm : hasM D i = 0
  · obtain ⟨h1, h2⟩ := hasM_ok hm
    obtain ⟨k, rfl⟩ : ∃ k : Nat, i = (k : Int) := ⟨i.toNat, by omega⟩
    rw [hm] at hhas
    have HM := Lib.hid hm
    clear hm
    obtain ⟨x, hx⟩ : ∃ x, D.L[k]? = some x := ⟨_, List.getElem?_eq_getElem (by omega)⟩
    obtain ⟨hx1, _, hx3, _⟩ := HH.out.row k x hx
    have hB : Bs 116 w (some ⟨D.bb, k * 1024, none⟩) 512 512 x.1 := ⟨hx1, Nat.le_refl _, by simp only [maxLen]; omega, .inr ⟨D.bb, k * 1024, D.B, (0, 0), rfl, HH.out.bb, hx3⟩⟩
    have hcl := clone_c (some ⟨D.bb, k * 1024, none⟩) 512 512 x.1 w hB (by omega)
    have HX := Lib.hid hx
    clear hx hx1 hx3 hB
    go_enter Try.func35, Try.ntmps35
    go_wp2_with fail
    refine hhas.mono ?_
    clear hhas
    rintro e w1 ⟨rfl, rfl⟩
    go_wp2_with fail
    refine hcl.mono ?_
    clear hcl
    rintro e w2 ⟨v, rfl, hf, hb⟩
    have HF := Lib.hid (And.intro hf hb)
    clear hf hb
    go_wp2_with fail
    go_ret2
    exact ⟨HF.out.2, .inr ⟨HM.out, _, x, rfl, by simpa using HX.out, HF.out.1⟩⟩
  · go_enter Try.func35, Try.ntmps35
    go_wp2_with fail
    refine hhas.mono ?_
    clear hhas
    rintro e w1 ⟨rfl, rfl⟩
    go_wp2_with fail
    go_ret2
    exact ⟨Below.refl _ _, .inl ⟨hm, rfl⟩⟩
end Go.Proofs.Ytliakkpmmmgmhaa
/- Many cells at once: stored into the middle of a block, loaded out of it. No program in it. -/
namespace Go.Proofs.Ytliakkpmmmgmhaa
open Go.RowKit

theorem Rd.none_len {t : TypeId} {sz : Nat} {w : World} {A : Option Addr} {n c : Nat} {xs : List Value} (h : Rd t sz w A n c xs) : A = none → n = 0 ∧ n = 0 := by
  rintro rfl
  rcases h.row with h0 | ⟨g, o, cs, fr, hA, _⟩
  · exact ⟨h0, h0⟩
  · cases hA
/-- The cells of a block with others laid over them. -/
def putCs (B : Array Value) (o : Nat) (vs : List Value) : Array Value := (B.toList.take o ++ vs ++ B.toList.drop (o + vs.length)).toArray
section
variable {B : Array Value} {o : Nat} {vs : List Value}
theorem putCs_size (h : o + vs.length ≤ B.size) : (putCs B o vs).size = B.size := by
  simp [putCs]; omega
theorem putCs_in (h : o + vs.length ≤ B.size) {j : Nat} (hj : j < vs.length) : (putCs B o vs)[o + j]? = vs[j]? := by
  unfold putCs
  rw [List.getElem?_toArray, List.append_assoc, List.getElem?_append_right (by simp; omega)]
  have : o + j - (B.toList.take o).length = j := by simp; omega
  rw [this, List.getElem?_append_left hj]
theorem putCs_out (h : o + vs.length ≤ B.size) {j : Nat} (hj : j < o ∨ o + vs.length ≤ j) : (putCs B o vs)[j]? = B[j]? := by
  unfold putCs
  rw [List.getElem?_toArray, List.append_assoc, ← Array.getElem?_toList]
  rcases hj with hj | hj
  · rw [List.getElem?_append_left (by simp; omega), List.getElem?_take_of_lt hj]
  · rw [List.getElem?_append_right (by simp; omega), List.getElem?_append_right (by simp; omega), List.getElem?_drop]
    congr 1
    simp; omega
end
section
variable {P : Program} {w : World} {b o : Nat} {t : TypeId} {B : Array Value}
theorem Blk.putRow (h : Blk w b t B) (vs : List Value) : Blk (w.setRow b (putCs B o vs)) b t (putCs B o vs) := setRow_heap w b B _ t (0, 0) h
theorem Turned.setRow {S : Nat → Prop} {w0 w : World} (h : Turned S w0 w) {b : Nat} (hb : b < w0.heap.size → S b) (cs : Array Value) : Turned S w0 (w.setRow b cs) :=
  h.trans (S' := fun k => k = b) ⟨rfl, rfl, rfl, by simp [World.setRow], fun k _ hne => setRow_other w b k cs hne⟩ (fun k hk e => by subst e; exact hb hk)
theorem Blk.rowFar (h : Blk w b t B) {g : Nat} (hne : b ≠ g) (cs : Array Value) : Blk (w.setRow g cs) b t B := (setRow_other w g b cs hne).trans h
theorem setRow_size (w : World) (b : Nat) (cs : Array Value) : (w.setRow b cs).heap.size = w.heap.size := by simp [World.setRow]
theorem run_storeVar_blk (ty : TypeId) (cells : Array Value) (hb : Blk w b t B) (hs : o + cells.size ≤ B.size) (hi : (P.info? ty).map (·.size) = some cells.size) (h1 : ∀ v ∈ cells, v.oneCell' = true) :
    (storeVar ty ⟨b, o, none⟩ (.agg cells)).run P w = .ok () (w.setRow b (putCs B o cells.toList)) := by
  have := run_storeCells_at P b o t cells.toList 0 B w hb (by simpa using hs) (fun v hv => h1 v (by simpa using hv))
  cases hq : P.info? ty with
  | none => simp [hq] at hi
  | some i =>
    have hs : cells.size = i.size := by simp [hq] at hi; omega
    simp only [Nat.add_zero] at this
    simp [storeVar, sizeOf, typeInfo, hq, Value.cells, hs, this, putCs]
variable {ops : Array Oper} {rest : List Oper} {op : Oper} {a : Act} {Q : Exit → Act → World → Prop}
theorem wpList_store_blk (hgd : op.guard = none) (ty : TypeId) (x y : Operand) (ho : op.op = .store ty x y)
    (cells : Array Value) (hx : a.eval x = .pointer (some ⟨b, o, none⟩)) (hy : a.eval y = .agg cells)
    (hb : Blk w b t B) (hs : o + cells.size ≤ B.size) (hi : (P.info? ty).map (·.size) = some cells.size) (h1 : ∀ v ∈ cells, v.oneCell' = true)
    (h : wpList P ops Q rest (a.put op.dst undef) (w.setRow b (putCs B o cells.toList))) : wpList P ops Q (op :: rest) a w := by
  refine wpList_plain hgd fun K hK => ?_
  unfold Oper.wp execOp
  simp only [ho, hx, hy, Instr.storeAt, Instr.sureAddr, Sem.run_bind, Sem.run_pure, Result.andThen_ok, run_storeVar_blk ty cells hb hs hi h1]
  exact hK _ _ h
theorem wpList_store_row (hgd : op.guard = none) (ty : TypeId) (x y : Operand) (ho : op.op = .store ty x y)
    (cells : Array Value) (hx : a.eval x = .pointer (some ⟨b, o, none⟩)) (hy : a.eval y = .agg cells)
    (hb : Blk w b t B) (hs : o + cells.size ≤ B.size) (hi : (P.info? ty).map (·.size) = some cells.size) (h1 : ∀ v ∈ cells, v.oneCell' = true)
    (next : ∀ w', Blk w' b t (putCs B o cells.toList) → Turned (fun k => k = b) w w' → w'.heap.size = w.heap.size → wpList P ops Q rest (a.put op.dst undef) w') : wpList P ops Q (op :: rest) a w :=
  wpList_store_blk hgd ty x y ho cells hx hy hb hs hi h1 (next _ (hb.putRow _) (Turned.setRow (S := fun k => k = b) (Turned.refl _ w) (fun _ => rfl) _) (setRow_size _ _ _))
theorem putCs_whole {B C : Array Value} (h : C.size = B.size) : putCs B 0 C.toList = C := by
  unfold putCs
  rw [List.take_zero, List.nil_append, Nat.zero_add, List.drop_eq_nil_of_le (by simp; omega)]
  simp
theorem wpList_load_blk (hgd : op.guard = none) (ty : TypeId) (x : Operand) (ho : op.op = .load ty x)
    (hx : a.eval x = .pointer (some ⟨b, o, none⟩)) (cs : List Value) (d : TypeDesc) (hb : Blk w b t B) (hc : ∀ j v, cs[j]? = some v → B[o + j]? = some v)
    (hu : P.underlying ty = some d) (hd : d.isRow = true) (hi : (P.info? ty).map (·.size) = some cs.length)
    (h : wpList P ops Q rest (a.put op.dst (.agg cs.toArray)) w) : wpList P ops Q (op :: rest) a w :=
  wpList_load_mid hgd ty x ho b o hx cs d (fun j v hv => (hb.cell (o + j)).trans (hc j v hv)) hu hd hi h
end
/-- A slice of one element that has many cells. -/
theorem run_build_one {P : Program} (w : World) (t e : TypeId) (v : Array Value) (n : Nat) (hu : P.underlying t = some (.slice e)) (hi : (P.info? e).map (fun i => (i.zero.isSome, i.size)) = some (true, n)) (hv : v.size = n) (hpos : 0 < n) (hn : n ≤ 16777216) :
    (Instr.buildSlice t 1 #[(0, .agg v)]).run P w = .ok (.slice (some ⟨w.heap.size, 0, none⟩) 1 1) (w.alloc (.cells v e)) := by
  cases hie : P.info? e with
  | none => simp [hie] at hi
  | some ie =>
    simp only [hie, Option.map_some, Option.some.injEq, Prod.mk.injEq] at hi
    obtain ⟨z, hz⟩ := Option.isSome_iff_exists.1 hi.1
    refine run_buildSlice w t e 1 _ v ie z hu hie hz (by rw [hi.2]; omega) (by rw [hi.2]; omega) ?_
    rw [hi.2]
    have := Great.fill_whole hpos [Value.agg v] ((Array.range (1 * n)).map (z.cells[· % z.cells.size]!)) (fun x hx => by
      simp at hx; subst hx; exact hv) (by simp)
    simpa [Value.cells] using this
/-- Any operation that runs, as a step of a region that draws its order. -/
theorem step_value {P : Program} {ops : Array Oper} {o : Oper} {a : Act} {w w' : World} {K : Act → World → Prop} {Q : Exit → Act → World → Prop} {E : Prop} {v : Value}
    (hw : Region.wanted o (yielded ops a.tmps) = true) (hrun : (execOp a.eval o).run P w = .ok (.value v) w') (h : K (a.put o.dst v) w') :
    if Region.wanted o (yielded ops a.tmps) = true then Oper.wp P o a w K Q else E := by
  rw [if_pos hw]
  unfold Oper.wp
  rw [hrun]
  exact h
end Go.Proofs.Ytliakkpmmmgmhaa
/- The disk: a change is counted; writes cut to their length; a new disk. -/
namespace Go.Proofs.Ytliakkpmmmgmhaa
open Go.RowKit

theorem setCells_eq {w : World} {b o : Nat} {t : TypeId} {B : Array Value} (hb : Blk w b t B) (vs : List Value) (hs : o + vs.length ≤ B.size) (h1 : ∀ v ∈ vs, v.oneCell' = true) : w.setCells b o vs = w.setRow b (putCs B o vs) := by
  have e1 := run_storeCells_at Try.prog b o t vs 0 B w hb (by simpa using hs) h1
  have e2 := run_storeCells_cells (P := Try.prog) b o vs 0 w (fun j hj => by
      rw [hb.cell]; rw [Array.getElem?_eq_getElem (by omega)]; rfl) (fun j hj => hb.frozen _) h1
  rw [e1] at e2
  injection e2 with _ e2
  simp only [Nat.add_zero] at e2
  exact e2.symm

def DiskG.now (D : DiskG) : List (List UInt8) := D.L.map (·.1)
def DiskG.sure (D : DiskG) : List (List UInt8) := D.L.map (·.2)
/-- What stands is what is sure, with the writes that are not sure laid over it. -/
def DiskG.pendOk (D : DiskG) : Prop := D.now = D.W.foldl (fun l x => l.set x.1 x.2) D.sure
/-- All is sure. -/
def DiskG.sync (D : DiskG) : Prop := D.W = [] ∧ D.now = D.sure
theorem DiskG.sync.pend {D : DiskG} (h : D.sync) : D.pendOk := by unfold DiskG.pendOk; rw [h.1, h.2]; rfl
/-- A disk that is up, for which no fall is planned. -/
structure DiskG.Live (D : DiskG) : Prop where
  fn : D.fn = 0
  up : D.down = false
  pend : D.pendOk
/-- One step of a disk. -/
structure DStep (w w' : World) (D D' : DiskG) : Prop where
  rep : DiskRep w' D'
  turned : Turned (fun k => k = D.d ∨ k = D.bb) w w'
  d : D'.d = D.d
  bb : D'.bb = D.bb
  len : D'.L.length = D.L.length
  live : D'.Live
theorem DStep.trans {w w1 w2 : World} {D D1 D2 : DiskG} (h : DStep w w1 D D1) (k : DStep w1 w2 D1 D2) : DStep w w2 D D2 :=
  ⟨k.rep, h.turned.trans k.turned (fun k _ e => by rw [h.d, h.bb] at e; exact e), k.d.trans h.d, k.bb.trans h.bb, k.len.trans h.len, k.live⟩
theorem DiskRep.below {w w' : World} {D : DiskG} (h : DiskRep w D) (k : Below w.heap.size w w') : DiskRep w' D := h.turned (S := fun _ => False) (Turned.of_below k) id id (fun _ _ _ h => h)
theorem DiskRep.alloc {w : World} {D : DiskG} (h : DiskRep w D) (o : Obj) : DiskRep (w.alloc o) D := h.turned (S := fun _ => False) ((Turned.refl _ _).alloc o) id id (fun _ _ _ h => h)
theorem DStep.more {w w1 w2 : World} {D D1 : DiskG} (h : DStep w w1 D D1) (k : Below w1.heap.size w1 w2) : DStep w w2 D D1 :=
  ⟨h.rep.below k, h.turned.trans (Turned.of_below (S := fun _ => False) k) (fun _ _ h => h.elim), h.d, h.bb, h.len, h.live⟩
theorem DStep.after {w w0 w1 : World} {D D1 : DiskG} (k : Below w.heap.size w w0) (h : DStep w0 w1 D D1) : DStep w w1 D D1 :=
  ⟨h.rep, (Turned.of_below (S := fun k => k = D.d ∨ k = D.bb) k).trans h.turned (fun _ _ h => h), h.d, h.bb, h.len, h.live⟩
theorem DiskG.now_len (D : DiskG) : D.now.length = D.L.length := by simp [DiskG.now]

def DiskG.counted (D : DiskG) : DiskG := { D with changes := wrap64 (D.changes + 1) }
theorem DiskRep.count {w : World} {D : DiskG} (h : DiskRep w D) : DiskRep (w.setCell ⟨D.d, 3, none⟩ (.int .i64 (wrap64 (D.changes + 1)))) D.counted ∧ Turned (fun k => k = D.d) w (w.setCell ⟨D.d, 3, none⟩ (.int .i64 (wrap64 (D.changes + 1)))) := by
  have hT : Turned (fun k => k = D.d) w (w.setCell ⟨D.d, 3, none⟩ (.int .i64 (wrap64 (D.changes + 1)))) := Turned.setCell (S := fun k => k = D.d) (Turned.refl _ w) (p := ⟨D.d, 3, none⟩) (fun _ => rfl) _
  refine ⟨{ bd := ?_, bb := h.bb.turned hT (fun e => h.d_ne_bb e.symm), size := h.size, cap := h.cap, most := h.most, len := h.len, row := h.row, pend := h.pend.turned hT (fun k e => by subst e; exact h.bd.not8 (by decide)), pok := h.pok }, hT⟩
  exact h.bd.set_ 3 _
/-- A change is counted; no fall is planned. -/
def Struck (w : World) (D : DiskG) (e : Ending) (w' : World) : Prop := e = .returned (.int .i64 0) ∧ DiskRep w' D.counted ∧ Turned (fun k => k = D.d) w w'
set_option maxRecDepth 100000 in
set_option maxHeartbeats 1000000 in
theorem strike_c (D : DiskG) (w : World) (h : DiskRep w D) (hf : D.fn = 0) : Calls Try.prog 77 #[.pointer (some ⟨D.d, 0, none⟩)] w (Struck w D) := by
  have c2 : w.cell? ⟨D.d, 2, none⟩ = some (.slice D.fA 0 D.fc) := (h.bd.cell 2).trans (by show some (Value.slice D.fA D.fn D.fc) = _; rw [hf])
  have c3 : w.cell? ⟨D.d, 3, none⟩ = some (.int .i64 D.changes) := h.bd.cell 3
  have f3 := h.bd.frozen 3
  have HC := Lib.hid h.count
  clear h hf
  go_enter Try.func77, Try.ntmps77
  go_wp2
  go_loop [22] (fun i => i = .int .i64 0) (fun _ => 0)
  case atStart => rfl
  case round =>
    subst hrel
    go_wp2
    go_ret
    exact ⟨rfl, HC.out.1, HC.out.2⟩
set_option maxRecDepth 100000 in
set_option maxHeartbeats 1000000 in
theorem clip_c (A : Option Addr) (n c : Nat) (xs : List Value) (w : World) (h : Rd 113 513 w A n c xs) : Calls Try.prog 76 #[.slice A n c] w fun e w' => e = .returned (.slice A n n) ∧ w = w' := by
  have hc := h.cap
  have hm := h.most
  have hbig : (c : Int) ≤ 9223372036854775807 := by simp only [maxLen] at hm; omega
  have hcn : (n : Int) ≤ c := by omega
  cases A with
  | none =>
    have h0 : n = 0 := by
      rcases h.row with h0 | ⟨g, o, cs, fr, hA, _⟩
      · exact h0
      · cases hA
    subst h0
    clear h
    go_enter Try.func76, Try.ntmps76
    go_wp2_with fail
    go_ret
    exact ⟨rfl, rfl⟩
  | some a =>
    clear h
    go_enter Try.func76, Try.ntmps76
    go_wp2_with fail
    go_ret
    exact ⟨rfl, rfl⟩
end Go.Proofs.Ytliakkpmmmgmhaa
