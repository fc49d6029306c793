/- What Get of a pool does. -/
import Derived.Test.YtliakkpmmmgmhaaPool0
namespace Go.Proofs.Ytliakkpmmmgmhaa
open Go.RowKit

theorem ret_tuple2 {v v' u u' : Value} (h : v = v') (k : u = u') : Ending.returned (.tuple #[v, u]) = .returned (.tuple #[v', u']) := by rw [h, k]
/-- What Get tells of a page that is at hand. -/
def GotHit (w : World) (G : PoolG) (i : Nat) (f : Frm) (e : Ending) (w' : World) : Prop :=
  ∃ v, e = .returned (.tuple #[v, .bool true]) ∧ Fresh w w' v f.l ∧ PoolRep w' (G.hit i f) ∧ Turned G.own w w'
def GotMiss (w : World) (G : PoolG) (e : Ending) (w' : World) : Prop :=
  e = .returned (.tuple #[.slice none 0 0, .bool false]) ∧ PoolRep w' G.miss ∧ Turned G.own w w'

set_option maxRecDepth 100000 in
set_option maxHeartbeats 1000000 in
theorem get_none (n : Int) (w : World) : Calls Try.prog 11 #[.pointer none, .int .i64 n] w fun e w' => e = .returned (.tuple #[.slice none 0 0, .bool false]) ∧ w = w' := by
  go_enter Try.func11, Try.ntmps11
  go_wp2
  go_ret2
  exact ⟨rfl, rfl⟩

set_option maxRecDepth 100000 in
set_option maxHeartbeats 1000000 in
theorem get_miss (G : PoolG) (n : Int) (w : World) (h : PoolRep w G) (hn : mget G.m n = none) :
    Calls Try.prog 11 #[.pointer (some ⟨G.p, 0, none⟩), .int .i64 n] w (GotMiss w G) := by
  have hz : ∀ W, (zeroValue 3).run Try.prog W = .ok (.int .i64 0) W := fun _ => by kernel_rfl
  have hl := h.bm.lookup_no Try.underlying58 Try.underlying3 (hz w) hn
  have c2 : w.cell? ⟨G.p, 2, none⟩ = some (.map (some G.mb)) := by rw [h.bp.cell]; rfl
  have c4 : w.cell? ⟨G.p, 4, none⟩ = some (.int .i64 G.misses) := by rw [h.bp.cell]; rfl
  have f4 := h.bp.frozen 4
  have HH := Lib.hid h
  clear h hn hz
  go_enter Try.func11, Try.ntmps11
  go_wp2
  go_ret2
  refine ⟨rfl, HH.out.miss ?_ ?_, ?_⟩
  · have := HH.out.bp.set_ 4 (.int .i64 (wrap64 (G.misses + 1)))
    simpa [PoolG.head, PoolG.miss] using this
  · exact Turned.setCell (S := fun k => k = G.p) (Turned.refl _ w) (p := ⟨G.p, 4, none⟩) (fun _ => rfl) _
  · exact (Turned.refl _ w).setCell (p := ⟨G.p, 4, none⟩) (fun _ => Or.inl rfl) _

theorem hit_world {G : PoolG} {i : Nat} {f : Frm} {w : World} (h : PoolRep w G) (hf : G.L[i]? = some f) :
    PoolRep ((w.setCell ⟨G.p, 3, none⟩ (.int .i64 (wrap64 (G.hits + 1)))).setCell ⟨G.fb, i * 3 + 1, none⟩ (.bool true)) (G.hit i f) ∧
    Turned G.own w ((w.setCell ⟨G.p, 3, none⟩ (.int .i64 (wrap64 (G.hits + 1)))).setCell ⟨G.fb, i * 3 + 1, none⟩ (.bool true)) := by
  have hT : Turned G.own w ((w.setCell ⟨G.p, 3, none⟩ (.int .i64 (wrap64 (G.hits + 1)))).setCell ⟨G.fb, i * 3 + 1, none⟩ (.bool true)) :=
    ((Turned.refl _ w).setCell (p := ⟨G.p, 3, none⟩) (fun _ => Or.inl rfl) _).setCell (p := ⟨G.fb, i * 3 + 1, none⟩) (fun _ => Or.inr (Or.inl rfl)) _
  refine ⟨h.remark hf h.hand ?_ ?_ hT ((h.bm.setCell _ _).setCell _ _), hT⟩
  · have := (h.bp.set_ 3 (.int .i64 (wrap64 (G.hits + 1)))).far (p := ⟨G.fb, i * 3 + 1, none⟩) h.p_ne_fb (.bool true)
    simpa [PoolG.head, PoolG.remark] using this
  · exact (h.bf.far (p := ⟨G.p, 3, none⟩) (fun e => h.p_ne_fb e.symm) _).set_ (i * 3 + 1) (.bool true)

set_option maxRecDepth 100000 in
set_option maxHeartbeats 1000000 in
theorem get_hit (G : PoolG) (n : Int) (i : Nat) (f : Frm) (w : World) (h : PoolRep w G) (hn : mget G.m n = some (.int .i64 i)) (hf : G.L[i]? = some f) :
    Calls Try.prog 11 #[.pointer (some ⟨G.p, 0, none⟩), .int .i64 n] w (GotHit w G i f) := by
  have hl := h.bm.lookup_yes Try.underlying58 Try.underlying3 hn
  have c0 : w.cell? ⟨G.p, 0, none⟩ = some (.slice (some ⟨G.fb, 0, none⟩) G.L.length G.cap) := by rw [h.bp.cell]; rfl
  have c2 : w.cell? ⟨G.p, 2, none⟩ = some (.map (some G.mb)) := by rw [h.bp.cell]; rfl
  have c3 : w.cell? ⟨G.p, 3, none⟩ = some (.int .i64 G.hits) := by rw [h.bp.cell]; rfl
  have f3 := h.bp.frozen 3
  obtain ⟨r0, r1, r2⟩ := h.row i f hf
  have c5 : w.cell? ⟨G.fb, i * 3 + 1, none⟩ = some (.bool f.mark) := by rw [h.bf.cell]; exact r1
  have c6 : w.cell? ⟨G.fb, i * 3 + 2, none⟩ = some (.slice f.A f.n f.c) := by rw [h.bf.cell]; exact r2
  have f5 := h.bf.frozen (i * 3 + 1)
  have hlt : i < G.L.length := (List.getElem?_eq_some_iff.1 hf).1
  have hi0 : (0 : Int) ≤ i := by omega
  have hi1 : (i : Int) < G.L.length := by omega
  have hne := h.p_ne_fb
  have hmem : f ∈ G.L := List.mem_of_getElem? hf
  have hv := Lib.hid (h.vals f hmem)
  have hfit := Lib.hid (h.fits f hmem)
  have HH := Lib.hid h
  have HF := Lib.hid hf
  clear h hn hf r0 r1 r2 hmem
  go_enter Try.func11, Try.ntmps11
  go_wp2_with fail
  obtain ⟨hP, hT⟩ := hit_world HH.out HF.out
  refine (clone_c f.A f.n f.c f.l _ (hv.out.turned hT HH.out.not8) (by have := hfit.out; omega)).mono ?_
  rintro e w2 ⟨v, rfl, hfr, hb⟩
  have HP := Lib.hid (hP.below hb)
  have HT := Lib.hid (hT.trans (Turned.of_below (S := fun _ => False) hb) (fun _ _ h => h.elim))
  have HF2 := Lib.hid (hfr.older (w0 := w) (by simp [World.setCell]))
  clear hP hT hb hfr
  go_wp2
  go_ret2
  exact ⟨v, rfl, HF2.out, HP.out, HT.out⟩
end Go.Proofs.Ytliakkpmmmgmhaa
