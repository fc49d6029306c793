/- What fits of a script tells. -/
import Derived.Test.YtliakkpmmmgmhaaOps
namespace Go.Proofs.Ytliakkpmmmgmhaa
open Go.RowKit
theorem RdOps.below {w w' : World} {A : Option Addr} {n : Nat} {z : Nat → OpE} (h : RdOps w A n z) (k : Below w.heap.size w w') : RdOps w' A n z := by
  intro i hi
  obtain ⟨⟨b, o, hA, h0, h1, h2⟩, hB⟩ := h i hi
  have hc : ∀ {j v}, w.cell? ⟨b, j, none⟩ = some v → w'.cell? ⟨b, j, none⟩ = some v := fun hv => (k.cell (World.block_lt_of_cell? w _ hv)).trans hv
  exact ⟨⟨b, o, hA, hc h0, hc h1, hc h2⟩, hB.below k⟩
set_option maxRecDepth 100000 in
set_option maxHeartbeats 4000000 in
theorem fits_c (A : Option Addr) (n c : Nat) (z : Nat → OpE) (w : World) (r : RdOps w A n z) :
    Calls Try.prog 13 #[.slice A n c] w fun e w' => ∃ b : Bool, e = .returned (.bool b) ∧ (b = true → n ≤ 300 ∧ ∀ i, i < n → (z i).n ≤ 100) ∧ Below w.heap.size w w' := by
  have HR := Lib.hid r
  clear r
  by_cases hn : 300 < n
  · have hn' : (300 : Int) < n := by omega
    go_enter Try.func13, Try.ntmps13
    go_wp2
    go_ret
    exact ⟨false, rfl, (fun h => by cases h), Below.refl _ _⟩
  · have hn' : ¬ (300 : Int) < n := by omega
    go_enter Try.func13, Try.ntmps13
    go_wp2_with fail
    go_loopw [10] (fun i wr => ∃ j : Nat, j ≤ n ∧ i = .int .i64 j ∧ Hid (∀ i, i < j → (z i).n ≤ 100) ∧ Hid (Below w.heap.size w wr)) (fun i _ => n - (intOf i).toNat)
    case atStart => exact ⟨0, Nat.zero_le _, rfl, fun i hi => absurd hi (by omega), Below.refl _ _⟩
    case round =>
      obtain ⟨j, hj, rfl, HF, HB⟩ := hrel
      by_cases hjn : j < n
      · obtain ⟨⟨b, o, hA, g0, g1, g2⟩, hb⟩ := HR.out.below HB.out j hjn
        have hlt : b < wr.heap.size := World.block_lt_of_cell? wr _ g0
        have hbn : b ≠ wr.heap.size := by omega
        generalize hz : z j = e at *
        subst hA
        have HH := Lib.hid hb
        clear hb
        by_cases hlen : 100 < e.n
        · have hlen' : (100 : Int) < e.n := by omega
          go_wp2_with fail
          go_ret
          exact ⟨false, rfl, (fun h => by cases h), HB.out.alloc HB.out.size _⟩
        · have hlen' : ¬ (100 : Int) < e.n := by omega
          go_wp2_with fail
          go_roundw
          case rel => exact ⟨j + 1, by omega, by go_num, fun i hi => by
            by_cases e2 : i < j
            · exact HF.out i e2
            · obtain rfl : i = j := by omega
              rw [hz]; omega, HB.out.alloc HB.out.size _⟩
          case measure => simp [intOf]; omega
      · obtain rfl : j = n := by omega
        go_wp2_with fail
        go_ret
        exact ⟨true, rfl, fun _ => ⟨by omega, HF.out⟩, HB.out⟩
end Go.Proofs.Ytliakkpmmmgmhaa
