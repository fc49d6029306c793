/-
  No cell of these rows narrows 'for every input' (looked for: loops, veiled, ifaces, maps, wideKeys, modest, calm, conditions, laid).
  DERIVED. THE GIVEN ROWS OF THIS SEAT. 5 by the template 'for every input the law returns true; each argument reads behind the call as it read before'; 0 by the template 'total and deterministic' (their statements: YtiaiogmicllllaaTotals.lean).
  GIVEN WITH THE SEED: the statements are not yours to turn. If you find one false, say at which input.
  Laid BY PROGRAM, IN A SANDBOX (cutbox-rows.mjs): the forced cells as the released guide's own fill.sh prints them over the translation c98513c45d1d6640… (all of the seat's roots in one cut). By AI agents, Wed Nov 11 2026. No macro, syntax, notation, axiom, sorry.
-/
import Derived.Test.YtiaiogmicllllaaChecked
import GoSem.Claim
import GoSem.ClaimJoined
import GoSem.ClaimMapViews
import Derived.JoinedTies
import Derived.KernelRfl
namespace Go.Proofs.Ytiaiogmicllllaa
/- THE CELL 'sum', in the pinned program and in every row, IS THE sha256 OF THE DUMP (.gsa) THAT YtiaiogmicllllaaProg.lean LOADS. Nothing in Lean hashes anything: it is a label: what it is worth is what the hold of that sum in a sandbox is worth. -/
noncomputable def Try.pinned : Pinned := { name := "ytiaiogmicllllaa", sum := "c98513c45d1d66406ebaff639a27f433cfb372a9444c6d6474b84c8f0851ce5e", checked := Try.checked }
namespace Rows
def none {H : Type} : Left H := { results := [], args := [] }

/-- 'dowserlaw16.CostSums': WHATEVER THE INPUT: true; the input reads as it did. -/
def costSumsSpec : ChangeSpec := { name := "costSums", fn := fun _ => fun
  | [d1, d2, d3] => { results := [.lit (.bool true)], args := [d1, d2, d3] }
  | _ => none }
def costSumsRow : OpenClaim := { program := "ytiaiogmicllllaa", sum := "c98513c45d1d66406ebaff639a27f433cfb372a9444c6d6474b84c8f0851ce5e", func := "dowser/dowserlaw16.CostSums", spec := "costSums", apart := false }
def CostSumsSaid : Prop := costSumsRow.holds Try.pinned (OpenSpec.ofChange costSumsSpec)

/-- ITS FALSE NEIGHBOUR: 'it returns false'. Refute it at one input. -/
def costSumsWrong : ChangeSpec := { name := "costSums", fn := fun _ => fun
  | [d1, d2, d3] => { results := [.lit (.bool false)], args := [d1, d2, d3] }
  | _ => none }
def CostSumsWrongFalsely : Prop := costSumsRow.holds Try.pinned (OpenSpec.ofChange costSumsWrong)

/-- 'dowserlaw16.CostTables': WHATEVER THE INPUT: true; the input reads as it did. -/
def costTablesSpec : ChangeSpec := { name := "costTables", fn := fun _ => fun
  | [d1, d2] => { results := [.lit (.bool true)], args := [d1, d2] }
  | _ => none }
def costTablesRow : OpenClaim := { program := "ytiaiogmicllllaa", sum := "c98513c45d1d66406ebaff639a27f433cfb372a9444c6d6474b84c8f0851ce5e", func := "dowser/dowserlaw16.CostTables", spec := "costTables", apart := false }
def CostTablesSaid : Prop := costTablesRow.holds Try.pinned (OpenSpec.ofChange costTablesSpec)

/-- ITS FALSE NEIGHBOUR: 'it returns false'. Refute it at one input. -/
def costTablesWrong : ChangeSpec := { name := "costTables", fn := fun _ => fun
  | [d1, d2] => { results := [.lit (.bool false)], args := [d1, d2] }
  | _ => none }
def CostTablesWrongFalsely : Prop := costTablesRow.holds Try.pinned (OpenSpec.ofChange costTablesWrong)

/-- 'dowserlaw16.CostParts': WHATEVER THE INPUT: true; the input reads as it did. -/
def costPartsSpec : ChangeSpec := { name := "costParts", fn := fun _ => fun
  | [d1, d2] => { results := [.lit (.bool true)], args := [d1, d2] }
  | _ => none }
def costPartsRow : OpenClaim := { program := "ytiaiogmicllllaa", sum := "c98513c45d1d66406ebaff639a27f433cfb372a9444c6d6474b84c8f0851ce5e", func := "dowser/dowserlaw16.CostParts", spec := "costParts", apart := false }
def CostPartsSaid : Prop := costPartsRow.holds Try.pinned (OpenSpec.ofChange costPartsSpec)

/-- ITS FALSE NEIGHBOUR: 'it returns false'. Refute it at one input. -/
def costPartsWrong : ChangeSpec := { name := "costParts", fn := fun _ => fun
  | [d1, d2] => { results := [.lit (.bool false)], args := [d1, d2] }
  | _ => none }
def CostPartsWrongFalsely : Prop := costPartsRow.holds Try.pinned (OpenSpec.ofChange costPartsWrong)

/-- 'dowserlaw16.CostPlans': WHATEVER THE INPUT: true; the input reads as it did. -/
def costPlansSpec : ChangeSpec := { name := "costPlans", fn := fun _ => fun
  | [d1, d2, d3] => { results := [.lit (.bool true)], args := [d1, d2, d3] }
  | _ => none }
def costPlansRow : OpenClaim := { program := "ytiaiogmicllllaa", sum := "c98513c45d1d66406ebaff639a27f433cfb372a9444c6d6474b84c8f0851ce5e", func := "dowser/dowserlaw16.CostPlans", spec := "costPlans", apart := false }
def CostPlansSaid : Prop := costPlansRow.holds Try.pinned (OpenSpec.ofChange costPlansSpec)

/-- ITS FALSE NEIGHBOUR: 'it returns false'. Refute it at one input. -/
def costPlansWrong : ChangeSpec := { name := "costPlans", fn := fun _ => fun
  | [d1, d2, d3] => { results := [.lit (.bool false)], args := [d1, d2, d3] }
  | _ => none }
def CostPlansWrongFalsely : Prop := costPlansRow.holds Try.pinned (OpenSpec.ofChange costPlansWrong)

/-- 'dowserlaw16.CostRises': WHATEVER THE INPUT: true; the input reads as it did. -/
def costRisesSpec : ChangeSpec := { name := "costRises", fn := fun _ => fun
  | [d1, d2, d3] => { results := [.lit (.bool true)], args := [d1, d2, d3] }
  | _ => none }
def costRisesRow : OpenClaim := { program := "ytiaiogmicllllaa", sum := "c98513c45d1d66406ebaff639a27f433cfb372a9444c6d6474b84c8f0851ce5e", func := "dowser/dowserlaw16.CostRises", spec := "costRises", unfollowed := true, recurses := true, apart := false }
def CostRisesSaid : Prop := costRisesRow.holds Try.pinned (OpenSpec.ofChange costRisesSpec)

/-- ITS FALSE NEIGHBOUR: 'it returns false'. Refute it at one input. -/
def costRisesWrong : ChangeSpec := { name := "costRises", fn := fun _ => fun
  | [d1, d2, d3] => { results := [.lit (.bool false)], args := [d1, d2, d3] }
  | _ => none }
def CostRisesWrongFalsely : Prop := costRisesRow.holds Try.pinned (OpenSpec.ofChange costRisesWrong)

/- THE SECOND FORM. 'bulk': how many values and letters a reading holds, each counted each time it is reached (what is shared counts as often as it is met; a slice's spare places count too). A statement '..UptoSaid' is the law's where the arguments, and the package variables that the reading takes, are together of bulk at most 1048576: NARROWER than '..Said'. Prove '..Said' where nothing that the law and all that it calls make is longer than what came in: it says more and counts as full. Else prove '..UptoSaid'. A law counts once. -/
mutual
def uptoBulk {H : Type} : DataW H → Nat
  | .lit (.string bytes) => bytes.length + 1
  | .lit _ => 1
  | .nil => 1
  | .ptr d => uptoBulk d + 1
  | .slice elems spare => uptoBulkAll elems + uptoBulkAll spare + 1
  | .agg parts => uptoBulkAll parts + 1
  | .iface _ d => uptoBulk d + 1
  | .map entries => uptoBulkEntries entries + 1
  | .held _ => 1
def uptoBulkAll {H : Type} : List (DataW H) → Nat
  | [] => 0
  | d :: r => uptoBulk d + uptoBulkAll r
def uptoBulkEntries {H : Type} : List (Lit × DataW H) → Nat
  | [] => 0
  | x :: r => uptoBulkEntry x + uptoBulkEntries r
def uptoBulkEntry {H : Type} : Lit × DataW H → Nat
  | (.string bytes, d) => bytes.length + uptoBulk d + 1
  | (_, d) => uptoBulk d + 1
 end
def uptoSmall : (H : Type) → List (DataW H) → Bool := fun _ ds => decide (uptoBulkAll ds ≤ 1048576)
def OpenSpec.upto (s : _root_.Go.ChangeSpec) : _root_.Go.OpenSpec := { _root_.Go.OpenSpec.ofChange s with cond := some uptoSmall }

/-- 'dowserlaw16.CostSums', WHERE WHAT IT READS IS OF BULK AT MOST 1048576: true; the input reads as it did. -/
def costSumsUptoRow : OpenClaim := { program := "ytiaiogmicllllaa", sum := "c98513c45d1d66406ebaff639a27f433cfb372a9444c6d6474b84c8f0851ce5e", func := "dowser/dowserlaw16.CostSums", spec := "costSums", apart := false, narrowed := true }
def CostSumsUptoSaid : Prop := costSumsUptoRow.holds Try.pinned (OpenSpec.upto costSumsSpec)

/-- 'dowserlaw16.CostTables', WHERE WHAT IT READS IS OF BULK AT MOST 1048576: true; the input reads as it did. -/
def costTablesUptoRow : OpenClaim := { program := "ytiaiogmicllllaa", sum := "c98513c45d1d66406ebaff639a27f433cfb372a9444c6d6474b84c8f0851ce5e", func := "dowser/dowserlaw16.CostTables", spec := "costTables", apart := false, narrowed := true }
def CostTablesUptoSaid : Prop := costTablesUptoRow.holds Try.pinned (OpenSpec.upto costTablesSpec)

/-- 'dowserlaw16.CostParts', WHERE WHAT IT READS IS OF BULK AT MOST 1048576: true; the input reads as it did. -/
def costPartsUptoRow : OpenClaim := { program := "ytiaiogmicllllaa", sum := "c98513c45d1d66406ebaff639a27f433cfb372a9444c6d6474b84c8f0851ce5e", func := "dowser/dowserlaw16.CostParts", spec := "costParts", apart := false, narrowed := true }
def CostPartsUptoSaid : Prop := costPartsUptoRow.holds Try.pinned (OpenSpec.upto costPartsSpec)

/-- 'dowserlaw16.CostPlans', WHERE WHAT IT READS IS OF BULK AT MOST 1048576: true; the input reads as it did. -/
def costPlansUptoRow : OpenClaim := { program := "ytiaiogmicllllaa", sum := "c98513c45d1d66406ebaff639a27f433cfb372a9444c6d6474b84c8f0851ce5e", func := "dowser/dowserlaw16.CostPlans", spec := "costPlans", apart := false, narrowed := true }
def CostPlansUptoSaid : Prop := costPlansUptoRow.holds Try.pinned (OpenSpec.upto costPlansSpec)

/-- 'dowserlaw16.CostRises', WHERE WHAT IT READS IS OF BULK AT MOST 1048576: true; the input reads as it did. -/
def costRisesUptoRow : OpenClaim := { program := "ytiaiogmicllllaa", sum := "c98513c45d1d66406ebaff639a27f433cfb372a9444c6d6474b84c8f0851ce5e", func := "dowser/dowserlaw16.CostRises", spec := "costRises", unfollowed := true, recurses := true, apart := false, narrowed := true }
def CostRisesUptoSaid : Prop := costRisesUptoRow.holds Try.pinned (OpenSpec.upto costRisesSpec)

end Rows
end Go.Proofs.Ytiaiogmicllllaa
