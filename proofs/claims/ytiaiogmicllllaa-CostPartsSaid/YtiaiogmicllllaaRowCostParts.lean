/- So many of a thousand, and binary digits, are the reference's, whatever the numbers. No condition. -/
import Derived.Test.YtiaiogmicllllaaRows
import Derived.Test.YtiaiogmicllllaaCx3
import Derived.WalkKit
import Derived.ProofKit
import Derived.OpenShut
import Derived.ShutString
import Derived.ChangeOld
import Derived.Below
import Derived.SizedLaws
namespace Go.Proofs.Ytiaiogmicllllaa.costParts
open Go.ChangeShapes Go.WideShapes Go.ChangeAt Go.RowKit Go.Proofs.Ytiaiogmicllllaa.Cx Go.Proofs.Ytiaiogmicllllaa.PlainC
open Go.Proofs.YtiaiogmicllllaaW.PrintWords Go.Proofs.YtiaiogmicllllaaW.PrintMore
set_option linter.unusedVariables false
set_option maxRecDepth 100000 in
set_option maxHeartbeats 4000000 in
theorem walk (n t : Int) (w : World) : Calls Try.prog 5 #[.int .i64 n, .int .i64 t] w (Tells w (.bool true)) := by
  go_enter Try.func5, Try.ntmps5
  go_wp2_with fail
  refine (lives_c _).mono ?_; rintro e w0 ⟨rfl, h0⟩
  have H0 := Lib.hid h0; clear h0
  go_wp2_with fail
  refine (part_c _ _ _).mono ?_; rintro e w1 ⟨rfl, h1⟩
  have H1 := Lib.hid (below_step H0.out h1); clear h1 H0
  go_wp2_with fail
  refine (rpart_c _ _ _).mono ?_; rintro e w2 ⟨rfl, h2⟩
  have H2 := Lib.hid (below_step H1.out h2); clear h2 H1
  go_wp2_with fail
  refine (bits_c _ _).mono ?_; rintro e w3 ⟨rfl, h3⟩
  have H3 := Lib.hid (below_step H2.out h3); clear h3 H2
  go_wp2_with fail
  refine (rbits_c _ _).mono ?_; rintro e w4 ⟨rfl, h4⟩
  have H4 := Lib.hid (below_step H3.out h4); clear h4 H3
  go_wp2
  go_ret
  exact ⟨rfl, H4.out⟩
theorem own : ownKnob Try.prog.godebug = none := by kernel_rfl
set_option maxRecDepth 100000 in
theorem lifted (os : Os) (started : os.Started) (H : Type) (enc : TypeId × Value → H) :
    ReturnsInHanded {} Try.checked os 5 .any (Rows.costPartsSpec.pre6 enc Try.prog Try.f5 Rows.costPartsRow.domain false) (Rows.costPartsSpec.post enc Try.prog Try.f5 false true false false) := by
  refine returnsInHanded_of_change_sized (C := Try.checked) own started (by kernel_rfl) Try.func5
    (ChangeSpec.witness6 (enc := enc) (C := Try.checked) false ⟨#[], #[.int .i64 0, .int .i64 0], []⟩ 8 (by kernel_rfl) (by kernel_rfl) (by kernel_rfl) (by kernel_rfl)) ?_
  intro W base args ds gs before hval0 hW hcnd hsz0 _
  have hval : ∀ (j : Nat) t v, Try.f5.params[j]? = some t → args[j]? = some v → Value.okWide Try.prog W .any base t v := hval0
  have hW' := hW
  obtain ⟨p, q, hA0, hV, rfl, hfz, hnd⟩ := hW
  have hA : DataW.TrodAll enc Try.prog W 0 (fun _ => true) true Try.f5.params.toList args.toList ds p := hA0
  rw [Try.params5] at hA hval
  obtain ⟨v0, vs0, d0, ds0, p0, q0, hargs, rfl, rfl, h0, r0⟩ := trodAll_cons hA
  obtain ⟨v1, vs1, d1, ds1, p1, q1, rfl, rfl, rfl, h1, r1⟩ := trodAll_cons r0
  obtain ⟨rfl, rfl, rfl⟩ := trodAll_nil r1
  obtain rfl : args = #[v0, v1] := by cases args; simp_all
  obtain ⟨rfl, rfl⟩ := trodVars_none hV
  obtain ⟨a0, rfl, rfl, rfl, w0⟩ := open_int Try.underlying2 (hval 0 2 v0 rfl rfl) h0
  obtain ⟨a1, rfl, rfl, rfl, w1⟩ := open_int Try.underlying2 (hval 1 2 v1 rfl rfl) h1
  clear hA0 hval0 hsz0
  refine (walk a0 a1 W).mono fun e W' ⟨he, bel⟩ => ?_
  subst he
  exact ⟨_, rfl, _, _, _, [], _, [], hW', trodAll_mk1 (shut_bool Try.underlying4 _), (trodAll_cons_mk (shut_int Try.underlying2 w0) (trodAll_cons_mk (shut_int Try.underlying2 w1) trodAll_mk0)), rfl, bel.frame _, fun h => by cases h⟩
theorem over : Rows.costPartsRow.holds Try.pinned (OpenSpec.ofChange Rows.costPartsSpec) :=
  OpenClaim.holds_of_wide 5 Try.f5 rfl rfl rfl rfl rfl rfl rfl ⟨rfl, rfl, rfl, rfl, rfl⟩ rfl rfl rfl rfl rfl (by kernel_rfl) Try.func5 (by kernel_rfl)
    (of_decide_eq_true (by kernel_rfl)) (by unfold Func.isWrapper; first | (rw [if_pos (by decide +kernel)]; kernel_rfl) | (rw [if_neg (by decide +kernel)]; exact ⟨rfl, rfl⟩))
    (fun os started H enc _ => lifted os started H enc)
theorem proved : Rows.CostPartsSaid := over
#print axioms proved
end Go.Proofs.Ytiaiogmicllllaa.costParts
namespace Go.Proofs.Ytiaiogmicllllaa
theorem costParts_holds : Rows.CostPartsSaid := costParts.proved
end Go.Proofs.Ytiaiogmicllllaa
