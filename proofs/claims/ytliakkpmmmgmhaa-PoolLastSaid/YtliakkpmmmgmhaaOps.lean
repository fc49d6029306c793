/- Arguments that are scripts: slices of a struct of two whole numbers and a slice of bytes. -/
import Derived.Test.YtliakkpmmmgmhaaPoolMore
import Derived.Deep.Slices
import Derived.ChangeArms
namespace Go.Proofs.Ytliakkpmmmgmhaa
set_option maxRecDepth 100000
open Go.RowKit Go.ChangeShapes Go.WideShapes Go.Deep

/-- One thing that is done. -/
structure OpE where
  K : Int
  N : Int
  A : Option Addr
  n : Nat
  c : Nat
  l : List UInt8
  tb : TypeId
/-- The slice (A, n) of ops reads as z. -/
def RdOps (w : World) (A : Option Addr) (n : Nat) (z : Nat → OpE) : Prop :=
  ∀ i, i < n → (∃ b o, A = some ⟨b, o, none⟩ ∧ w.cell? ⟨b, o + i * 3, none⟩ = some (.int .i64 (z i).K) ∧ w.cell? ⟨b, o + i * 3 + 1, none⟩ = some (.int .i64 (z i).N) ∧ w.cell? ⟨b, o + i * 3 + 2, none⟩ = some (.slice (z i).A (z i).n (z i).c)) ∧
    Bs (z i).tb w (z i).A (z i).n (z i).c (z i).l
theorem cell_block {w : World} {b i : Nat} {v : Value} (h : w.cell? ⟨b, i, none⟩ = some v) : ∃ cs t fr, w.heap[b]? = some (.cells cs t fr) := by
  unfold World.cell? at h
  split at h
  · exact ⟨_, _, _, by assumption⟩
  · cases h
def w_at (w : World) (a : Addr) (i : Nat) (e : OpE) : Prop :=
  w.cell? ((a.add (i * 3)).add 0) = some (.int .i64 e.K) ∧ w.cell? ((a.add (i * 3)).add 1) = some (.int .i64 e.N) ∧ w.cell? ((a.add (i * 3)).add 2) = some (.slice e.A e.n e.c)
section
variable {H : Type} {enc : TypeId × Value → H} {W : World}
theorem bytes_open {fuel : Nat} {cs : List Value} {x : DataW H × List MemPlace} (h : DataW.trod enc Try.prog W 0 (fun _ => true) true fuel 31 cs = some x) :
    ∃ A n c l tb, cs = [.slice A n c] ∧ Bs tb W A n c l := by
  rcases open_ints Try.underlying31 Try.underlying5 (by kernel_rfl) h with ⟨rfl, _⟩ | ⟨a, len, cap, zs, rfl, _, hl, hm, hz, _, hc, hw⟩
  · exact ⟨none, 0, 0, [], 5, rfl, Bs.nil _ _⟩
  · have hz' : zs.length = cap := by simpa using hz
    by_cases h0 : len = 0
    · subst h0
      exact ⟨some a, 0, cap, [], 5, rfl, Bs.empty _ _ _ hm⟩
    · obtain ⟨b, o, rfl, hc2⟩ := ints_at hc (by omega)
      obtain ⟨rs, t, fr, hg⟩ := cell_block (hc2 0 (by omega))
      refine ⟨some ⟨b, o, none⟩, len, cap, (zs.take len).map (fun z => UInt8.ofNat z.toNat), t, rfl, ?_, hl, hm, .inr ⟨b, o, rs, fr, rfl, hg, ?_⟩⟩
      · simp; omega
      · intro j u hu
        have hj : j < len := by
          have := (List.getElem?_eq_some_iff.1 hu).1
          rw [u8s_length] at this
          simp at this; omega
        have h1 := hc2 j (by omega)
        rw [cell_of_row W b (o + j) rs t fr hg] at h1
        rw [h1, ← hu]
        have hmem : zs.getD j 0 ∈ zs := by rw [List.getD_eq_getElem?_getD, List.getElem?_eq_getElem (by omega)]; exact List.getElem_mem _
        have hb := bounds_u8 (hw _ hmem)
        have hjz : zs[j]? = some (zs.getD j 0) := by rw [List.getD_eq_getElem?_getD, List.getElem?_eq_getElem (by omega)]; rfl
        simp only [u8s, List.map_map, List.getElem?_map, List.getElem?_take_of_lt hj, hjz, Option.map_some, Function.comp]
        congr 2
        generalize zs.getD j 0 = q at hb
        have : (UInt8.ofNat q.toNat).toNat = q.toNat := by
          rw [UInt8.toNat_ofNat']; omega
        rw [this]; omega
set_option maxRecDepth 100000 in
theorem one_op {fuel : Nat} {cs : List Value} {x : DataW H × List MemPlace} (h : DataW.trod enc Try.prog W 0 (fun _ => true) true fuel 41 cs = some x) :
    ∃ e : OpE, cs = [.int .i64 e.K, .int .i64 e.N, .slice e.A e.n e.c] ∧ Bs e.tb W e.A e.n e.c e.l := by
  have h3 : Try.prog.cellsOf 41 = 3 := by kernel_rfl
  have hi : Try.prog.cellsOf 3 = 1 := by kernel_rfl
  have hs : Try.prog.cellsOf 31 = 1 := by kernel_rfl
  obtain ⟨ys, n, _, _, hlen, hyl, hf⟩ := DataW.trod_struct Try.underlying41 h
  rw [h3] at hlen
  match cs, hlen with
  | [c0, c1, c2], _ =>
    have e0 : DataW.trod enc Try.prog W 0 (fun _ => true) true n 3 (([c0, c1, c2].drop 0).take (Try.prog.cellsOf 3)) = ys[0]? := hf 0 _ rfl
    have e1 : DataW.trod enc Try.prog W 0 (fun _ => true) true n 3 (([c0, c1, c2].drop 1).take (Try.prog.cellsOf 3)) = ys[1]? := hf 1 _ rfl
    have e2 : DataW.trod enc Try.prog W 0 (fun _ => true) true n 31 (([c0, c1, c2].drop 2).take (Try.prog.cellsOf 31)) = ys[2]? := hf 2 _ rfl
    rw [hi] at e0 e1
    rw [hs] at e2
    simp at e0 e1 e2 hyl
    rw [List.getElem?_eq_getElem (by omega)] at e0 e1 e2
    obtain ⟨k, hk, _, _⟩ := DataW.trod_int Try.underlying3 e0
    obtain ⟨m, hm, _, _⟩ := DataW.trod_int Try.underlying3 e1
    obtain ⟨A, n', c, l, tb, hb, hB⟩ := bytes_open e2
    exact ⟨⟨k, m, A, n', c, l, tb⟩, by simp_all, hB⟩
set_option maxRecDepth 100000 in
theorem arg_ops {b0 : Nat} {v : Value} {d : DataW H} {p : List MemPlace}
    (hv : Value.okWide Try.prog W .any b0 36 v) (h : DataW.Trod enc Try.prog W 0 (fun _ => true) true 36 v d p) : ∃ A n c z, v = .slice A n c ∧ RdOps W A n z := by
  obtain ⟨A, n, c, rfl⟩ := okWide_slice Try.underlying36 hv
  obtain ⟨fuel, hf⟩ := h
  have h3 : Try.prog.cellsOf 41 = 3 := by kernel_rfl
  rcases open_slice Try.underlying36 hf with ⟨h1, _⟩ | ⟨a, len, cap, m, k, D, Pl, h1, _, hl, _, hm, _, hi⟩
  · simp [Value.cells] at h1
    obtain ⟨rfl, rfl, rfl⟩ := h1
    exact ⟨none, 0, 0, fun _ => ⟨0, 0, none, 0, 0, [], 0⟩, rfl, fun i hi => by omega⟩
  · simp [Value.cells] at h1
    obtain ⟨rfl, rfl, rfl⟩ := h1
    rw [h3] at hi
    have hm' : m = c := by simpa using hm
    have each : ∀ i, i < n → ∃ e : OpE, w_at W a i e ∧ Bs e.tb W e.A e.n e.c e.l := by
      intro i hin
      obtain ⟨cs', hc, ht⟩ := hi i (by omega)
      obtain ⟨e, rfl, hB⟩ := one_op ht
      obtain ⟨_, _, hat⟩ := World.cells?_some hc
      exact ⟨e, ⟨hat 0 (by omega), hat 1 (by omega), hat 2 (by omega)⟩, hB⟩
    refine ⟨some a, n, c, fun i => if h : i < n then (each i h).choose else ⟨0, 0, none, 0, 0, [], 0⟩, rfl, fun i hin => ?_⟩
    obtain ⟨⟨g0, g1, g2⟩, hB⟩ := (each i hin).choose_spec
    simp only [dif_pos hin]
    obtain ⟨b, o, sp⟩ := a
    have hsp : sp = none := by
      obtain ⟨e, ⟨q0, _, _⟩, _⟩ := each 0 (by omega)
      simpa [Addr.add] using World.cell?_spot q0
    subst hsp
    rw [Go.Deep.add_add, Go.WideShapes.add_plain] at g0 g1 g2
    exact ⟨⟨b, o, rfl, g0, g1, g2⟩, hB⟩
end
end Go.Proofs.Ytliakkpmmmgmhaa
