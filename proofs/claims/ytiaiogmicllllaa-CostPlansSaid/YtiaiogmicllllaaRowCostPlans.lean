/- What each operator costs is the reference's, whatever the numbers. No condition. -/
import Derived.Test.YtiaiogmicllllaaRows
import Derived.Test.YtiaiogmicllllaaCx3
import Derived.WalkKit
import Derived.ProofKit
import Derived.OpenShut
import Derived.ShutString
import Derived.ChangeOld
import Derived.Below
import Derived.SizedLaws
namespace Go.Proofs.Ytiaiogmicllllaa.costPlans
open Go.ChangeShapes Go.WideShapes Go.ChangeAt Go.RowKit Go.Proofs.Ytiaiogmicllllaa.Cx Go.Proofs.Ytiaiogmicllllaa.PlainC
open Go.Proofs.YtiaiogmicllllaaW.PrintWords Go.Proofs.YtiaiogmicllllaaW.PrintMore
set_option linter.unusedVariables false
set_option maxRecDepth 100000 in
set_option maxHeartbeats 4000000 in
theorem walk (a b c : Int) (w : World) : Calls Try.prog 6 #[.int .i64 a, .int .i64 b, .int .i64 c] w (Tells w (.bool true)) := by
  go_enter Try.func6, Try.ntmps6
  go_wp2_with fail
  refine (lives_c _).mono ?_; rintro e w0 ⟨rfl, h0⟩
  have H0 := Lib.hid h0; clear h0
  go_wp2_with fail
  refine (loop_c _ _ _ _).mono ?_; rintro e w1 ⟨rfl, h1⟩
  have H1 := Lib.hid (below_step H0.out h1); clear h1 H0
  go_wp2_with fail
  refine (rloop_c _ _ _ _).mono ?_; rintro e w2 ⟨rfl, h2⟩
  have H2 := Lib.hid (below_step H1.out h2); clear h2 H1
  go_wp2_with fail
  refine (lookup_c _ _ _ _).mono ?_; rintro e w3 ⟨rfl, h3⟩
  have H3 := Lib.hid (below_step H2.out h3); clear h3 H2
  go_wp2_with fail
  refine (rlookup_c _ _ _ _).mono ?_; rintro e w4 ⟨rfl, h4⟩
  have H4 := Lib.hid (below_step H3.out h4); clear h4 H3
  go_wp2_with fail
  refine (sort_c _ _ _).mono ?_; rintro e w5 ⟨rfl, h5⟩
  have H5 := Lib.hid (below_step H4.out h5); clear h5 H4
  go_wp2_with fail
  refine (rsort_c _ _ _).mono ?_; rintro e w6 ⟨rfl, h6⟩
  have H6 := Lib.hid (below_step H5.out h6); clear h6 H5
  go_wp2_with fail
  refine (range_c _ _).mono ?_; rintro e w7 ⟨rfl, h7⟩
  have H7 := Lib.hid (below_step H6.out h7); clear h7 H6
  go_wp2_with fail
  refine (rrange_c _ _).mono ?_; rintro e w8 ⟨rfl, h8⟩
  have H8 := Lib.hid (below_step H7.out h8); clear h8 H7
  go_wp2
  go_ret
  exact ⟨rfl, H8.out⟩
theorem own : ownKnob Try.prog.godebug = none := by kernel_rfl
set_option maxRecDepth 100000 in
theorem lifted (os : Os) (started : os.Started) (H : Type) (enc : TypeId × Value → H) :
    ReturnsInHanded {} Try.checked os 6 .any (Rows.costPlansSpec.pre6 enc Try.prog Try.f6 Rows.costPlansRow.domain false) (Rows.costPlansSpec.post enc Try.prog Try.f6 false true false false) := by
  refine returnsInHanded_of_change_sized (C := Try.checked) own started (by kernel_rfl) Try.func6
    (ChangeSpec.witness6 (enc := enc) (C := Try.checked) false ⟨#[], #[.int .i64 0, .int .i64 0, .int .i64 0], []⟩ 8 (by kernel_rfl) (by kernel_rfl) (by kernel_rfl) (by kernel_rfl)) ?_
  intro W base args ds gs before hval0 hW hcnd hsz0 _
  have hval : ∀ (j : Nat) t v, Try.f6.params[j]? = some t → args[j]? = some v → Value.okWide Try.prog W .any base t v := hval0
  have hW' := hW
  obtain ⟨p, q, hA0, hV, rfl, hfz, hnd⟩ := hW
  have hA : DataW.TrodAll enc Try.prog W 0 (fun _ => true) true Try.f6.params.toList args.toList ds p := hA0
  rw [Try.params6] at hA hval
  obtain ⟨v0, vs0, d0, ds0, p0, q0, hargs, rfl, rfl, h0, r0⟩ := trodAll_cons hA
  obtain ⟨v1, vs1, d1, ds1, p1, q1, rfl, rfl, rfl, h1, r1⟩ := trodAll_cons r0
  obtain ⟨v2, vs2, d2, ds2, p2, q2, rfl, rfl, rfl, h2, r2⟩ := trodAll_cons r1
  obtain ⟨rfl, rfl, rfl⟩ := trodAll_nil r2
  obtain rfl : args = #[v0, v1, v2] := by cases args; simp_all
  obtain ⟨rfl, rfl⟩ := trodVars_none hV
  obtain ⟨a0, rfl, rfl, rfl, w0⟩ := open_int Try.underlying2 (hval 0 2 v0 rfl rfl) h0
  obtain ⟨a1, rfl, rfl, rfl, w1⟩ := open_int Try.underlying2 (hval 1 2 v1 rfl rfl) h1
  obtain ⟨a2, rfl, rfl, rfl, w2⟩ := open_int Try.underlying2 (hval 2 2 v2 rfl rfl) h2
  clear hA0 hval0 hsz0
  refine (walk a0 a1 a2 W).mono fun e W' ⟨he, bel⟩ => ?_
  subst he
  exact ⟨_, rfl, _, _, _, [], _, [], hW', trodAll_mk1 (shut_bool Try.underlying4 _), (trodAll_cons_mk (shut_int Try.underlying2 w0) (trodAll_cons_mk (shut_int Try.underlying2 w1) (trodAll_cons_mk (shut_int Try.underlying2 w2) trodAll_mk0))), rfl, bel.frame _, fun h => by cases h⟩
theorem over : Rows.costPlansRow.holds Try.pinned (OpenSpec.ofChange Rows.costPlansSpec) :=
  OpenClaim.holds_of_wide 6 Try.f6 rfl rfl rfl rfl rfl rfl rfl ⟨rfl, rfl, rfl, rfl, rfl⟩ rfl rfl rfl rfl rfl (by kernel_rfl) Try.func6 (by kernel_rfl)
    (of_decide_eq_true (by kernel_rfl)) (by unfold Func.isWrapper; first | (rw [if_pos (by decide +kernel)]; kernel_rfl) | (rw [if_neg (by decide +kernel)]; exact ⟨rfl, rfl⟩))
    (fun os started H enc _ => lifted os started H enc)
theorem proved : Rows.CostPlansSaid := over
#print axioms proved
end Go.Proofs.Ytiaiogmicllllaa.costPlans
namespace Go.Proofs.Ytiaiogmicllllaa
theorem costPlans_holds : Rows.CostPlansSaid := costPlans.proved
end Go.Proofs.Ytiaiogmicllllaa
