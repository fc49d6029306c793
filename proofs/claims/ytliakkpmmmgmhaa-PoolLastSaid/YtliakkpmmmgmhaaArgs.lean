/- Arguments that are slices of whole numbers. -/
import Derived.Test.YtliakkpmmmgmhaaPoolLives
import Derived.OpenShut
namespace Go.Proofs.Ytliakkpmmmgmhaa
open Go.RowKit Go.ChangeShapes Go.WideShapes

set_option maxRecDepth 100000
/-- The slice (A, n) of whole numbers reads as z. -/
def RdI (w : World) (A : Option Addr) (n : Nat) (z : Nat → Int) : Prop :=
  ∀ i, i < n → (∃ b o, A = some ⟨b, o, none⟩ ∧ w.cell? ⟨b, o + i, none⟩ = some (.int .i64 (z i))) ∧ -9223372036854775808 ≤ z i ∧ z i ≤ 9223372036854775807
theorem RdI.below {w w' : World} {A : Option Addr} {n : Nat} {z : Nat → Int} (h : RdI w A n z) (k : Below w.heap.size w w') : RdI w' A n z := by
  intro i hi
  obtain ⟨⟨b, o, hA, hc⟩, hz⟩ := h i hi
  exact ⟨⟨b, o, hA, (k.cell (World.block_lt_of_cell? w _ hc)).trans hc⟩, hz⟩
theorem cells_int : Try.prog.cellsOf 3 = 1 := by kernel_rfl
theorem arg_ints {H : Type} {enc : TypeId × Value → H} {W : World} {b0 : Nat} {v : Value} {d : DataW H} {p : List MemPlace}
    (hv : Value.okWide Try.prog W .any b0 22 v) (h : DataW.Trod enc Try.prog W 0 (fun _ => true) true 22 v d p) : ∃ A n c z, v = .slice A n c ∧ RdI W A n z := by
  obtain ⟨A, n, c, rfl⟩ := okWide_slice Try.underlying22 hv
  obtain ⟨fuel, hf⟩ := h
  rcases open_ints Try.underlying22 Try.underlying3 cells_int hf with ⟨h1, _⟩ | ⟨a, len, cap, zs, h1, _, hl, _, hz, _, hc, hw⟩
  · simp [Value.cells] at h1
    obtain ⟨rfl, rfl, rfl⟩ := h1
    exact ⟨none, 0, 0, fun _ => 0, rfl, fun i hi => by omega⟩
  · simp [Value.cells] at h1
    obtain ⟨rfl, rfl, rfl⟩ := h1
    refine ⟨some a, n, c, fun i => zs.getD i 0, rfl, fun i hi => ?_⟩
    have hi' : i < zs.length := by rw [hz]; simp; omega
    have hmem : zs.getD i 0 ∈ zs := by rw [List.getD_eq_getElem?_getD, List.getElem?_eq_getElem hi']; exact List.getElem_mem hi'
    obtain ⟨b, o, rfl, hc2⟩ := ints_at hc (by omega)
    exact ⟨⟨b, o, rfl, hc2 i hi'⟩, bounds_i64 (hw _ hmem)⟩
end Go.Proofs.Ytliakkpmmmgmhaa
