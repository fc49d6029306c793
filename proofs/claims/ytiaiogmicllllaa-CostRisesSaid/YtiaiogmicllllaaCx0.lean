/- Contracts of the cost functions: what Fit and Mul answer. -/
import Derived.Test.YtiaiogmicllllaaPCostSumsx0
import Derived.Test.YtiaiogmicllllaaPlainC
import Derived.Lib.Hide
namespace Go.Proofs.Ytiaiogmicllllaa.Cx
open Go.RowKit Go.Proofs.YtiaiogmicllllaaW.PrintWords Go.Proofs.YtiaiogmicllllaaW.PrintLast Go.Proofs.YtiaiogmicllllaaW.PrintMore Go.Proofs.Ytiaiogmicllllaa.PlainC
attribute [local go_sem] max2_int min2_int max_two min_two max_three min_three max_four min_four   -- for this text's walks alone

theorem ret_int {k : IntKind} {a b : Int} (h : a = b) : Ending.returned (.int k a) = .returned (.int k b) := by rw [h]
/-- What a call that turns no old memory tells. -/
def Tells (w : World) (v : Value) (e : Ending) (w' : World) : Prop := e = .returned v ∧ Below w.heap.size w w'
theorem Tells.mk {w : World} {k : IntKind} {a b : Int} {w' : World} (h : a = b) (hb : Below w.heap.size w w') : Tells w (.int k b) (.returned (.int k a)) w' := ⟨by rw [h], hb⟩

theorem fit_mn (a : Int) : (if 0 < (if 4503599627370496 < a then 4503599627370496 else a) then (if 4503599627370496 < a then 4503599627370496 else a) else 0) = fit a := by
  unfold fit; repeat' split
  all_goals omega
set_option maxHeartbeats 400000 in
theorem fit_c (a : Int) (w : World) : Calls Try.prog 9 #[.int .i64 a] w (Tells w (.int .i64 (fit a))) := by
  have H := Lib.hid (fit_mn a)
  go_enter Try.func9, Try.ntmps9
  go_wp2
  all_goals
    go_ret
    refine Tells.mk ?_ (Below.refl _ _)
    have := H.out
    repeat' split at this
    all_goals omega

theorem mul_yes (x y : Int) (hx : 0 < x) (hx1 : x ≤ 4503599627370496) (h : 4503599627370496 / x < y) (hy : y ≤ 4503599627370496) : (4503599627370496 : Int) = fit (x * y) := by
  have := mul_prog x y
  have hq0 : 0 ≤ (4503599627370496 : Int) / x := Int.ediv_nonneg (by omega) (by omega)
  have hq1 : (4503599627370496 : Int) / x ≤ 4503599627370496 := by
    have := Int.ediv_le_self (b := x) (show 0 ≤ (4503599627370496 : Int) by omega); omega
  unfold mul at this
  rw [fit_id y (by omega) hy, fit_id x (by omega) hx1, if_pos hx, if_neg (by omega), wrap64_in _ (by omega) (by omega), if_pos h] at this
  exact Option.some.inj this
theorem mul_no (x y : Int) (hx : 0 ≤ x) (hx1 : x ≤ 4503599627370496) (hy0 : 0 ≤ y) (hy : y ≤ 4503599627370496) (h : 0 < x → y ≤ 4503599627370496 / x) : wrap64 (x * y) = fit (x * y) := by
  have := mul_prog x y
  unfold mul at this
  rw [fit_id y hy0 hy, fit_id x hx hx1] at this
  by_cases hp : x > 0
  · have hq0 : 0 ≤ (4503599627370496 : Int) / x := Int.ediv_nonneg (by omega) (by omega)
    have hq1 : (4503599627370496 : Int) / x ≤ 4503599627370496 := by
      have := Int.ediv_le_self (b := x) (show 0 ≤ (4503599627370496 : Int) by omega); omega
    rw [if_pos hp, if_neg (by omega), wrap64_in _ (by omega) (by omega), if_neg (Int.not_lt.mpr (h hp))] at this
    exact Option.some.inj this
  · rw [if_neg hp] at this
    exact Option.some.inj this

set_option maxHeartbeats 1000000 in
theorem mul_c (a b : Int) (w : World) : Calls Try.prog 13 #[.int .i64 a, .int .i64 b] w (Tells w (.int .i64 (mul a b))) := by
  have ha := fit_bd a
  have hb := fit_bd b
  have ca := fit_c a
  have cb := fit_c b
  unfold mul
  generalize fit a = x at *
  generalize fit b = y at *
  have CA := Lib.hid ca
  have CB := Lib.hid cb
  clear ca cb
  have HY := Lib.hid (mul_yes x y)
  have HN := Lib.hid (mul_no x y)
  by_cases hx : 0 < x
  · go_enter Try.func13, Try.ntmps13
    go_wp2_with fail
    refine (CA.out _).mono ?_; rintro e w1 ⟨rfl, h1⟩
    go_wp2_with fail
    refine (CB.out _).mono ?_; rintro e w2 ⟨rfl, h2⟩
    go_wp2
    · have hlt : 4503599627370496 / x < y := by assumption
      go_ret
      exact Tells.mk (HY.out hx ha.2 hlt hb.2) (below_step h1 h2)
    · have hlt : y ≤ 4503599627370496 / x := by assumption
      go_ret
      exact Tells.mk (HN.out ha.1 ha.2 hb.1 hb.2 (fun _ => hlt)) (below_step h1 h2)
  · go_enter Try.func13, Try.ntmps13
    go_wp2_with fail
    refine (CA.out _).mono ?_; rintro e w1 ⟨rfl, h1⟩
    go_wp2_with fail
    refine (CB.out _).mono ?_; rintro e w2 ⟨rfl, h2⟩
    go_wp2
    go_ret
    exact Tells.mk (HN.out ha.1 ha.2 hb.1 hb.2 (fun h => absurd h (Int.not_lt.mpr (by assumption)))) (below_step h1 h2)

end Go.Proofs.Ytiaiogmicllllaa.Cx
