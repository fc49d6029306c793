/- All costs lie between 0 and 2^52, and none falls when a number rises, whatever the numbers. No condition. -/
import Derived.Test.YtiaiogmicllllaaRows
import Derived.Test.YtiaiogmicllllaaCx5
import Derived.WalkKit
import Derived.ProofKit
import Derived.OpenShut
import Derived.ShutString
import Derived.ChangeOld
import Derived.Below
import Derived.SizedLaws
import Derived.Carry
namespace Go.Proofs.Ytiaiogmicllllaa.costRises
open Go.ChangeShapes Go.WideShapes Go.ChangeAt Go.RowKit Go.Proofs.Ytiaiogmicllllaa.Cx Go.Proofs.Ytiaiogmicllllaa.PlainC
open Go.Proofs.YtiaiogmicllllaaW.PrintWords Go.Proofs.YtiaiogmicllllaaW.PrintMore
set_option linter.unusedVariables false

/-- An array of three numbers, opened. -/
theorem open_int3 {H : Type} {enc : TypeId × Value → H} {P : Program} {w : World} {base : Nat} {spare : Nat → Bool} {held : Bool} {r : Reach} {b0 : Nat} {t e : TypeId} {k : IntKind} {v : Value} {d : DataW H} {ps : List MemPlace}
    (ht : P.underlying t = some (.array 3 e)) (he : P.underlying e = some (.int k)) (hC : P.cellsOf t = 3) (hE : P.cellsOf e = 1) (hval : Value.okWide P w r b0 t v) (hd : DataW.Trod enc P w base spare held t v d ps) :
    ∃ a b c : Int, v = .agg #[.int k a, .int k b, .int k c] ∧ d = .agg [.lit (.int k a), .lit (.int k b), .lit (.int k c)] ∧ ps = [] ∧ (Lit.int k a).wf = true ∧ (Lit.int k b).wf = true ∧ (Lit.int k c).wf = true := by
  simp only [Value.okWide, ht] at hval
  obtain ⟨cs, rfl, hsz, _⟩ := hval
  obtain ⟨c0, c1, c2, rfl⟩ : ∃ c0 c1 c2, cs = #[c0, c1, c2] := by
    rw [hC] at hsz
    match cs, hsz with
    | ⟨[x, y, z]⟩, _ => exact ⟨x, y, z, rfl⟩
  obtain ⟨fuel, hf⟩ := hd
  obtain ⟨xs, m, _, hx, _, hl, hi⟩ := DataW.trod_array ht hf
  match xs, hl with
  | [y0, y1, y2], _ =>
    have h0 := hi 0 (by omega)
    have h1 := hi 1 (by omega)
    have h2 := hi 2 (by omega)
    rw [hE] at h0 h1 h2
    obtain ⟨a, e0, f0, w0⟩ := DataW.trod_int he h0
    obtain ⟨b, e1, f1, w1⟩ := DataW.trod_int he h1
    obtain ⟨c, e2, f2, w2⟩ := DataW.trod_int he h2
    simp [Value.cells] at e0 e1 e2
    subst e0; subst e1; subst e2; subst f0; subst f1; subst f2
    simp at hx
    exact ⟨a, b, c, rfl, hx.1, hx.2, w0, w1, w2⟩
/-- An array of three numbers, shut. -/
theorem shut_int3 {H : Type} {enc : TypeId × Value → H} {P : Program} {w : World} {base : Nat} {spare : Nat → Bool} {held : Bool} {t e : TypeId} {k : IntKind} {a b c : Int}
    (ht : P.underlying t = some (.array 3 e)) (he : P.underlying e = some (.int k)) (hC : P.cellsOf t = 3) (hE : P.cellsOf e = 1) (wa : (Lit.int k a).wf = true) (wb : (Lit.int k b).wf = true) (wc : (Lit.int k c).wf = true) :
    DataW.Trod enc P w base spare held t (.agg #[.int k a, .int k b, .int k c]) (.agg [.lit (.int k a), .lit (.int k b), .lit (.int k c)]) [] := by
  refine ⟨2, ?_⟩
  simp [DataW.trod, ht, hC, hE, Value.cells, List.range_succ]
  simp [he, wa, wb, wc]
theorem own : ownKnob Try.prog.godebug = none := by kernel_rfl
theorem cells31 : Try.prog.cellsOf 31 = 3 := by kernel_rfl
theorem cells33 : Try.prog.cellsOf 33 = 3 := by kernel_rfl
theorem cells2 : Try.prog.cellsOf 2 = 1 := by kernel_rfl
theorem cells32 : Try.prog.cellsOf 32 = 1 := by kernel_rfl
set_option maxRecDepth 100000 in
theorem lifted (os : Os) (started : os.Started) (H : Type) (enc : TypeId × Value → H) :
    ReturnsInHanded {} Try.checked os 7 .any (Rows.costRisesSpec.pre6 enc Try.prog Try.f7 Rows.costRisesRow.domain false) (Rows.costRisesSpec.post enc Try.prog Try.f7 false true false false) := by
  refine returnsInHanded_of_change_sized (C := Try.checked) own started (by kernel_rfl) Try.func7
    (ChangeSpec.witness6 (enc := enc) (C := Try.checked) false ⟨#[], #[.agg #[.int .i64 0, .int .i64 0, .int .i64 0], .agg #[.int .u32 0, .int .u32 0, .int .u32 0], .int .i64 0], []⟩ 8 (by kernel_rfl) (by kernel_rfl) (by kernel_rfl) (by kernel_rfl)) ?_
  intro W base args ds gs before hval0 hW hcnd hsz0 _
  have hval : ∀ (j : Nat) t v, Try.f7.params[j]? = some t → args[j]? = some v → Value.okWide Try.prog W .any base t v := hval0
  have hW' := hW
  obtain ⟨p, q, hA0, hV, rfl, hfz, hnd⟩ := hW
  have hA : DataW.TrodAll enc Try.prog W 0 (fun _ => true) true Try.f7.params.toList args.toList ds p := hA0
  rw [Try.params7] at hA hval
  obtain ⟨v0, vs0, d0, ds0, p0, q0, hargs, rfl, rfl, h0, r0⟩ := trodAll_cons hA
  obtain ⟨v1, vs1, d1, ds1, p1, q1, rfl, rfl, rfl, h1, r1⟩ := trodAll_cons r0
  obtain ⟨v2, vs2, d2, ds2, p2, q2, rfl, rfl, rfl, h2, r2⟩ := trodAll_cons r1
  obtain ⟨rfl, rfl, rfl⟩ := trodAll_nil r2
  obtain rfl : args = #[v0, v1, v2] := by cases args; simp_all
  obtain ⟨rfl, rfl⟩ := trodVars_none hV
  obtain ⟨x0, x1, x2, rfl, rfl, rfl, wx0, wx1, wx2⟩ := open_int3 Try.underlying31 Try.underlying2 cells31 cells2 (hval 0 31 v0 rfl rfl) h0
  obtain ⟨y0, y1, y2, rfl, rfl, rfl, wy0, wy1, wy2⟩ := open_int3 Try.underlying33 Try.underlying32 cells33 cells32 (hval 1 33 v1 rfl rfl) h1
  obtain ⟨c, rfl, rfl, rfl, wc⟩ := open_int Try.underlying3 (hval 2 3 v2 rfl rfl) h2
  clear hA0 hval0 hsz0
  have bx : ∀ x, x = x0 ∨ x = x1 ∨ x = x2 → -9223372036854775808 ≤ x ∧ x ≤ 9223372036854775807 := by
    rintro x (rfl | rfl | rfl)
    · exact bounds_i64 wx0
    · exact bounds_i64 wx1
    · exact bounds_i64 wx2
  have byy : ∀ x, x = y0 ∨ x = y1 ∨ x = y2 → 0 ≤ x ∧ x ≤ 4294967295 := by
    rintro x (rfl | rfl | rfl)
    · exact bounds_u32 wy0
    · exact bounds_u32 wy1
    · exact bounds_u32 wy2
  refine (rises_c x0 x1 x2 y0 y1 y2 c W bx byy).mono fun e W' ⟨he, bel⟩ => ?_
  subst he
  exact ⟨_, rfl, _, _, _, [], _, [], hW', trodAll_mk1 (shut_bool Try.underlying4 _), (trodAll_cons_mk (shut_int3 Try.underlying31 Try.underlying2 cells31 cells2 wx0 wx1 wx2) (trodAll_cons_mk (shut_int3 Try.underlying33 Try.underlying32 cells33 cells32 wy0 wy1 wy2) (trodAll_cons_mk (shut_int Try.underlying3 wc) trodAll_mk0))), rfl, bel.frame _, fun h => by cases h⟩
theorem over : Rows.costRisesRow.holds Try.pinned (OpenSpec.ofChange Rows.costRisesSpec) :=
  OpenClaim.holds_of_wide 7 Try.f7 rfl rfl rfl rfl rfl rfl rfl ⟨rfl, rfl, rfl, rfl, rfl⟩ rfl rfl rfl rfl rfl (by kernel_rfl) Try.func7 (by kernel_rfl)
    (of_decide_eq_true (by kernel_rfl)) (by unfold Func.isWrapper; first | (rw [if_pos (by decide +kernel)]; kernel_rfl) | (rw [if_neg (by decide +kernel)]; exact ⟨rfl, rfl⟩))
    (fun os started H enc _ => lifted os started H enc)
theorem proved : Rows.CostRisesSaid := over
#print axioms proved
end Go.Proofs.Ytiaiogmicllllaa.costRises
namespace Go.Proofs.Ytiaiogmicllllaa
theorem costRises_holds : Rows.CostRisesSaid := costRises.proved
end Go.Proofs.Ytiaiogmicllllaa
