/- What Drop of a pool does. -/
import Derived.Test.YtliakkpmmmgmhaaPool1
namespace Go.Proofs.Ytliakkpmmmgmhaa
open Go.RowKit

/-- A frame's cells, written. -/
def putF (C : Array Value) (i : Nat) (f : Frm) : Array Value := ((C.setIfInBounds (i * 3) (.int .i64 f.page)).setIfInBounds (i * 3 + 1) (.bool f.mark)).setIfInBounds (i * 3 + 2) (.slice f.A f.n f.c)
/-- The pool with another frame at a place, another hand, other entries of its map. -/
def PoolG.frame (G : PoolG) (i : Nat) (f : Frm) (m : List (Int × Value)) : PoolG := { G with L := G.L.set i f, C := putF G.C i f, m := m }

theorem frame_ok {w w' : World} {G : PoolG} {i : Nat} {f f' : Frm} {m : List (Int × Value)} (h : PoolRep w G) (hf : G.L[i]? = some f) (k : Turned G.own w w')
    (hp : Blk w' G.p 61 (G.frame i f' m).head) (hb : Blk w' G.fb 64 (putF G.C i f')) (hm : IMap w' G.mb m)
    (hv : Bs 5 w' f'.A f'.n f'.c f'.l) (hfit : f'.n ≤ 1000) (hlow : -1 ≤ f'.page ∧ f'.page ≤ 9223372036854775807)
    (hnew : 0 ≤ f'.page → ∀ (j : Nat) (g : Frm), G.L[j]? = some g → g.page = f'.page → j = i)
    (hm' : ∀ n, mget m n = if 0 ≤ f'.page ∧ n = f'.page then some (.int .i64 i) else if 0 ≤ f.page ∧ n = f.page then none else mget G.m n) : PoolRep w' (G.frame i f' m) := by
  have hmem : f ∈ G.L := List.mem_of_getElem? hf
  have hlt := (List.getElem?_eq_some_iff.1 hf).1
  have hC : i * 3 + 2 < G.C.size := by have := h.size; have := h.cap; omega
  have hat : ∀ (j : Nat) (g : Frm), (G.L.set i f')[j]? = some g ↔ (j = i ∧ g = f') ∨ (j ≠ i ∧ G.L[j]? = some g) := by
    intro j g
    by_cases e : i = j
    · subst e; rw [List.getElem?_set]; simp [hlt]; exact ⟨fun h => h.symm, fun h => h.symm⟩
    · rw [List.getElem?_set_ne e]; simp [Ne.symm e]
  refine ⟨hp, hb, hm, ?_, by simpa [PoolG.frame, putF] using h.size, by simpa [PoolG.frame] using h.cap, h.most, by simpa [PoolG.frame] using h.pos, by simpa [PoolG.frame] using h.len, by simpa [PoolG.frame] using h.hand, ?_, ?_, ?_, ?_, ?_⟩
  · rcases h.row.set i f' with hr | hr
    · exact hr
    · exact absurd hC hr
  · intro n v
    show mget m n = some v ↔ _
    rw [hm' n]
    show _ ↔ ∃ (j : Nat) (g : Frm), (G.L.set i f')[j]? = some g ∧ _
    by_cases h1 : 0 ≤ f'.page ∧ n = f'.page
    · rw [if_pos h1]
      constructor
      · intro e; injection e with e
        exact ⟨i, f', (hat _ _).2 (.inl ⟨rfl, rfl⟩), h1.2.symm, by omega, e.symm⟩
      · rintro ⟨j, g, hg, hgp, h0, rfl⟩
        rcases (hat j g).1 hg with ⟨rfl, _⟩ | ⟨hne, hg⟩
        · rfl
        · exact absurd (hnew h1.1 j g hg (by omega)) hne
    · rw [if_neg h1]
      by_cases h2 : 0 ≤ f.page ∧ n = f.page
      · rw [if_pos h2]
        constructor
        · intro e; cases e
        · rintro ⟨j, g, hg, hgp, h0, rfl⟩
          rcases (hat j g).1 hg with ⟨rfl, rfl⟩ | ⟨hne, hg⟩
          · exact absurd ⟨by omega, hgp.symm⟩ h1
          · exact absurd (h.uniq j i g f hg hf (by omega) (by omega)) hne
      · rw [if_neg h2, h.idx n v]
        constructor
        · rintro ⟨j, g, hg, hgp, h0, e⟩
          refine ⟨j, g, (hat _ _).2 (.inr ⟨?_, hg⟩), hgp, h0, e⟩
          rintro rfl
          rw [hf] at hg; injection hg with hg; subst hg
          exact h2 ⟨by omega, hgp.symm⟩
        · rintro ⟨j, g, hg, hgp, h0, e⟩
          rcases (hat j g).1 hg with ⟨rfl, rfl⟩ | ⟨hne, hg⟩
          · exact absurd ⟨by omega, hgp.symm⟩ h1
          · exact ⟨j, g, hg, hgp, h0, e⟩
  · intro g hg
    rcases mem_set hg with rfl | hg
    · exact hlow
    · exact h.low g hg
  · intro a b x y hx hy hxy h0
    replace hx : (G.L.set i f')[a]? = some x := hx
    replace hy : (G.L.set i f')[b]? = some y := hy
    rcases (hat a x).1 hx with ⟨ha, hx2⟩ | ⟨ha, hx2⟩
    · rcases (hat b y).1 hy with ⟨hb, hy2⟩ | ⟨hb, hy2⟩
      · rw [ha, hb]
      · rw [hx2] at h0 hxy; rw [ha]; exact (hnew h0 b y hy2 hxy.symm).symm
    · rcases (hat b y).1 hy with ⟨hb, hy2⟩ | ⟨hb, hy2⟩
      · rw [hy2] at hxy; rw [hb]; exact hnew (by omega) a x hx2 hxy
      · exact h.uniq a b x y hx2 hy2 hxy h0
  · intro g hg
    rcases mem_set hg with rfl | hg
    · exact hv
    · exact (h.vals g hg).turned k h.not8
  · intro g hg
    rcases mem_set hg with rfl | hg
    · exact hfit
    · exact h.fits g hg

/-- A frame without a page. -/
def noFrm : Frm := { page := -1, mark := false, A := none, n := 0, c := 0, l := [] }
def PoolG.drop (G : PoolG) (i : Nat) (n : Int) : PoolG := G.frame i noFrm (mdel G.m n)

set_option maxRecDepth 100000 in
set_option maxHeartbeats 1000000 in
theorem drop_none (n : Int) (w : World) : Calls Try.prog 14 #[.pointer none, .int .i64 n] w fun e w' => e = .returned (.bool false) ∧ w = w' := by
  go_enter Try.func14, Try.ntmps14
  go_wp2
  go_ret
  exact ⟨rfl, rfl⟩
set_option maxRecDepth 100000 in
set_option maxHeartbeats 1000000 in
theorem drop_miss (G : PoolG) (n : Int) (w : World) (h : PoolRep w G) (hn : mget G.m n = none) :
    Calls Try.prog 14 #[.pointer (some ⟨G.p, 0, none⟩), .int .i64 n] w fun e w' => e = .returned (.bool false) ∧ w = w' := by
  have hz : ∀ W, (zeroValue 3).run Try.prog W = .ok (.int .i64 0) W := fun _ => by kernel_rfl
  have hl := h.bm.lookup_no Try.underlying58 Try.underlying3 (hz w) hn
  have c2 : w.cell? ⟨G.p, 2, none⟩ = some (.map (some G.mb)) := by rw [h.bp.cell]; rfl
  clear h hn hz
  go_enter Try.func14, Try.ntmps14
  go_wp2
  go_ret
  exact ⟨rfl, rfl⟩
def Dropped (w : World) (G : PoolG) (i : Nat) (n : Int) (e : Ending) (w' : World) : Prop := e = .returned (.bool true) ∧ PoolRep w' (G.drop i n) ∧ Turned G.own w w'
/-- The world in which a frame's cells are written. -/
def putW (w : World) (fb i : Nat) (f : Frm) : World := ((w.setCell ⟨fb, i * 3, none⟩ (.int .i64 f.page)).setCell ⟨fb, i * 3 + 1, none⟩ (.bool f.mark)).setCell ⟨fb, i * 3 + 2, none⟩ (.slice f.A f.n f.c)
theorem putW_blk {w : World} {fb i : Nat} {t : TypeId} {C : Array Value} (h : Blk w fb t C) (f : Frm) : Blk (putW w fb i f) fb t (putF C i f) := ((h.set_ _ _).set_ _ _).set_ _ _
theorem putW_far {w : World} {fb i g : Nat} {t : TypeId} {C : Array Value} (h : Blk w g t C) (f : Frm) (hne : g ≠ fb) : Blk (putW w fb i f) g t C :=
  ((h.far (p := ⟨fb, i * 3, none⟩) hne _).far (p := ⟨fb, i * 3 + 1, none⟩) hne _).far (p := ⟨fb, i * 3 + 2, none⟩) hne _
theorem putW_map {w : World} {fb i g : Nat} {m : List (Int × Value)} (h : IMap w g m) (f : Frm) : IMap (putW w fb i f) g m := ((h.setCell _ _).setCell _ _).setCell _ _
theorem putW_turned {S : Nat → Prop} {w : World} {fb i : Nat} (f : Frm) (hS : S fb) : Turned S w (putW w fb i f) :=
  (((Turned.refl S w).setCell (p := ⟨fb, i * 3, none⟩) (fun _ => hS) _).setCell (p := ⟨fb, i * 3 + 1, none⟩) (fun _ => hS) _).setCell (p := ⟨fb, i * 3 + 2, none⟩) (fun _ => hS) _
theorem putW_size (w : World) (fb i : Nat) (f : Frm) : (putW w fb i f).heap.size = w.heap.size := by simp [putW, World.setCell]

set_option maxRecDepth 100000 in
set_option maxHeartbeats 1000000 in
theorem drop_hit (G : PoolG) (n : Int) (i : Nat) (f : Frm) (w : World) (h : PoolRep w G) (hn : mget G.m n = some (.int .i64 i)) (hf : G.L[i]? = some f) (hpg : f.page = n) (h0 : 0 ≤ n) :
    Calls Try.prog 14 #[.pointer (some ⟨G.p, 0, none⟩), .int .i64 n] w (Dropped w G i n) := by
  have hl := h.bm.lookup_yes Try.underlying58 Try.underlying3 hn
  have c0 : w.cell? ⟨G.p, 0, none⟩ = some (.slice (some ⟨G.fb, 0, none⟩) G.L.length G.cap) := by rw [h.bp.cell]; rfl
  have c2 : w.cell? ⟨G.p, 2, none⟩ = some (.map (some G.mb)) := by rw [h.bp.cell]; rfl
  obtain ⟨r0, r1, r2⟩ := h.row i f hf
  have c4 : w.cell? ⟨G.fb, i * 3, none⟩ = some (.int .i64 f.page) := by rw [h.bf.cell]; exact r0
  have c5 : w.cell? ⟨G.fb, i * 3 + 1, none⟩ = some (.bool f.mark) := by rw [h.bf.cell]; exact r1
  have c6 : w.cell? ⟨G.fb, i * 3 + 2, none⟩ = some (.slice f.A f.n f.c) := by rw [h.bf.cell]; exact r2
  have f4 := h.bf.frozen (i * 3)
  have f5 := h.bf.frozen (i * 3 + 1)
  have f6 := h.bf.frozen (i * 3 + 2)
  have hlt : i < G.L.length := (List.getElem?_eq_some_iff.1 hf).1
  have hi0 : (0 : Int) ≤ i := by omega
  have hi1 : (i : Int) < G.L.length := by omega
  have hne := h.p_ne_fb
  have HH := Lib.hid h
  have HF := Lib.hid hf
  have HP := Lib.hid hpg
  clear h hn hf r0 r1 r2 hpg
  go_enter Try.func14, Try.ntmps14
  go_wp2_with (
    at_delete
    (refine wpList_mdel rfl (.tmp 29) (.tmp 30) 58 3 rfl Try.underlying58 Try.underlying3 rfl n rfl (putW_map (fb := G.fb) (i := i) HH.out.bm noFrm) ?_)
    intro w1 hm1 ht1 hs1
    have HM := Lib.hid hm1
    have HT := Lib.hid ht1
    clear hm1 ht1 hs1)
  go_ret
  have h := HH.out
  have hT : Turned G.own w w1 := (putW_turned noFrm (Or.inr (Or.inl rfl))).trans HT.out (fun k _ e => by subst e; exact Or.inr (Or.inr rfl))
  refine ⟨rfl, ?_, hT⟩
  refine frame_ok h HF.out hT ?_ ?_ HM.out (Bs.nil _ _) (by decide) ⟨by decide, by decide⟩ (fun h => absurd h (by decide)) ?_
  · have := (putW_far (fb := G.fb) (i := i) h.bp noFrm h.p_ne_fb).turned HT.out (fun e => h.mb_ne_p e.symm)
    simpa [PoolG.head, PoolG.frame] using this
  · exact (putW_blk (i := i) h.bf noFrm).turned HT.out (fun e => h.mb_ne_fb e.symm)
  · intro k
    rw [HP.out, if_neg (show ¬ (0 ≤ noFrm.page ∧ k = noFrm.page) from fun h => absurd h.1 (by decide)), mget_del]
    by_cases e : k = n
    · rw [if_pos e, if_pos ⟨h0, e⟩]
    · rw [if_neg e, if_neg (fun h => e h.2)]
end Go.Proofs.Ytliakkpmmmgmhaa
