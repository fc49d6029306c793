/-
  No cell of these rows narrows 'for every input' (looked for: loops, veiled, ifaces, maps, wideKeys, modest, calm, conditions, laid).
  DERIVED. THE GIVEN ROWS OF THIS SEAT. 5 by the template 'for every input the law returns true; each argument reads behind the call as it read before'; 0 by the template 'total and deterministic' (their statements: YtliakkpmmmgmhaaTotals.lean).
  GIVEN WITH THE SEED: the statements are not yours to turn. If you find one false, say at which input.
  Laid BY PROGRAM, IN A SANDBOX (cutbox-rows.mjs): the forced cells as the released guide's own fill.sh prints them over the translation 87e4977bd9592668… (all of the seat's roots in one cut). By AI agents, Wed Nov 11 2026. No macro, syntax, notation, axiom, sorry.
-/
import Derived.Test.YtliakkpmmmgmhaaChecked
import GoSem.Claim
import GoSem.ClaimJoined
import GoSem.ClaimMapViews
import Derived.JoinedTies
import Derived.KernelRfl
namespace Go.Proofs.Ytliakkpmmmgmhaa
/- THE CELL 'sum', in the pinned program and in every row, IS THE sha256 OF THE DUMP (.gsa) THAT YtliakkpmmmgmhaaProg.lean LOADS. Nothing in Lean hashes anything: it is a label: what it is worth is what the hold of that sum in a sandbox is worth. -/
noncomputable def Try.pinned : Pinned := { name := "ytliakkpmmmgmhaa", sum := "87e4977bd959266851ec9743b34be1af5f68a5418ad854b76a02428f913941bf", checked := Try.checked }
namespace Rows
def none {H : Type} : Left H := { results := [], args := [] }

/-- 'dowserlaw05.PoolOrder': WHATEVER THE INPUT: true; the input reads as it did. -/
def poolOrderSpec : ChangeSpec := { name := "poolOrder", fn := fun _ => fun
  | [d1, d2] => { results := [.lit (.bool true)], args := [d1, d2] }
  | _ => none }
def poolOrderRow : OpenClaim := { program := "ytliakkpmmmgmhaa", sum := "87e4977bd959266851ec9743b34be1af5f68a5418ad854b76a02428f913941bf", func := "dowser/dowserlaw05.PoolOrder", spec := "poolOrder", unfollowed := true, recurses := true, apart := false }
def PoolOrderSaid : Prop := poolOrderRow.holds Try.pinned (OpenSpec.ofChange poolOrderSpec)

/-- ITS FALSE NEIGHBOUR: 'it returns false'. Refute it at one input. -/
def poolOrderWrong : ChangeSpec := { name := "poolOrder", fn := fun _ => fun
  | [d1, d2] => { results := [.lit (.bool false)], args := [d1, d2] }
  | _ => none }
def PoolOrderWrongFalsely : Prop := poolOrderRow.holds Try.pinned (OpenSpec.ofChange poolOrderWrong)

/-- 'dowserlaw05.PoolBounds': WHATEVER THE INPUT: true; the input reads as it did. -/
def poolBoundsSpec : ChangeSpec := { name := "poolBounds", fn := fun _ => fun
  | [d1, d2] => { results := [.lit (.bool true)], args := [d1, d2] }
  | _ => none }
def poolBoundsRow : OpenClaim := { program := "ytliakkpmmmgmhaa", sum := "87e4977bd959266851ec9743b34be1af5f68a5418ad854b76a02428f913941bf", func := "dowser/dowserlaw05.PoolBounds", spec := "poolBounds", unfollowed := true, recurses := true, apart := false }
def PoolBoundsSaid : Prop := poolBoundsRow.holds Try.pinned (OpenSpec.ofChange poolBoundsSpec)

/-- ITS FALSE NEIGHBOUR: 'it returns false'. Refute it at one input. -/
def poolBoundsWrong : ChangeSpec := { name := "poolBounds", fn := fun _ => fun
  | [d1, d2] => { results := [.lit (.bool false)], args := [d1, d2] }
  | _ => none }
def PoolBoundsWrongFalsely : Prop := poolBoundsRow.holds Try.pinned (OpenSpec.ofChange poolBoundsWrong)

/-- 'dowserlaw05.PoolLast': WHATEVER THE INPUT: true; the input reads as it did. -/
def poolLastSpec : ChangeSpec := { name := "poolLast", fn := fun _ => fun
  | [d1, d2] => { results := [.lit (.bool true)], args := [d1, d2] }
  | _ => none }
def poolLastRow : OpenClaim := { program := "ytliakkpmmmgmhaa", sum := "87e4977bd959266851ec9743b34be1af5f68a5418ad854b76a02428f913941bf", func := "dowser/dowserlaw05.PoolLast", spec := "poolLast", unfollowed := true, recurses := true, apart := false }
def PoolLastSaid : Prop := poolLastRow.holds Try.pinned (OpenSpec.ofChange poolLastSpec)

/-- ITS FALSE NEIGHBOUR: 'it returns false'. Refute it at one input. -/
def poolLastWrong : ChangeSpec := { name := "poolLast", fn := fun _ => fun
  | [d1, d2] => { results := [.lit (.bool false)], args := [d1, d2] }
  | _ => none }
def PoolLastWrongFalsely : Prop := poolLastRow.holds Try.pinned (OpenSpec.ofChange poolLastWrong)

/-- 'dowserlaw05.PoolNone': WHATEVER THE INPUT: true; the input reads as it did. -/
def poolNoneSpec : ChangeSpec := { name := "poolNone", fn := fun _ => fun
  | [d1, d2] => { results := [.lit (.bool true)], args := [d1, d2] }
  | _ => none }
def poolNoneRow : OpenClaim := { program := "ytliakkpmmmgmhaa", sum := "87e4977bd959266851ec9743b34be1af5f68a5418ad854b76a02428f913941bf", func := "dowser/dowserlaw05.PoolNone", spec := "poolNone", unfollowed := true, recurses := true, apart := false }
def PoolNoneSaid : Prop := poolNoneRow.holds Try.pinned (OpenSpec.ofChange poolNoneSpec)

/-- ITS FALSE NEIGHBOUR: 'it returns false'. Refute it at one input. -/
def poolNoneWrong : ChangeSpec := { name := "poolNone", fn := fun _ => fun
  | [d1, d2] => { results := [.lit (.bool false)], args := [d1, d2] }
  | _ => none }
def PoolNoneWrongFalsely : Prop := poolNoneRow.holds Try.pinned (OpenSpec.ofChange poolNoneWrong)

/-- 'dowserlaw06.PagerMost': WHATEVER THE INPUT: true; the input reads as it did. -/
def pagerMostSpec : ChangeSpec := { name := "pagerMost", fn := fun _ => fun
  | [d1, d2] => { results := [.lit (.bool true)], args := [d1, d2] }
  | _ => none }
def pagerMostRow : OpenClaim := { program := "ytliakkpmmmgmhaa", sum := "87e4977bd959266851ec9743b34be1af5f68a5418ad854b76a02428f913941bf", func := "dowser/dowserlaw06.PagerMost", spec := "pagerMost", unfollowed := true, recurses := true, apart := false }
def PagerMostSaid : Prop := pagerMostRow.holds Try.pinned (OpenSpec.ofChange pagerMostSpec)

/-- ITS FALSE NEIGHBOUR: 'it returns false'. Refute it at one input. -/
def pagerMostWrong : ChangeSpec := { name := "pagerMost", fn := fun _ => fun
  | [d1, d2] => { results := [.lit (.bool false)], args := [d1, d2] }
  | _ => none }
def PagerMostWrongFalsely : Prop := pagerMostRow.holds Try.pinned (OpenSpec.ofChange pagerMostWrong)

/- THE SECOND FORM. 'bulk': how many values and letters a reading holds, each counted each time it is reached (what is shared counts as often as it is met; a slice's spare places count too). A statement '..UptoSaid' is the law's where the arguments, and the package variables that the reading takes, are together of bulk at most 1048576: NARROWER than '..Said'. Prove '..Said' where nothing that the law and all that it calls make is longer than what came in: it says more and counts as full. Else prove '..UptoSaid'. A law counts once. -/
mutual
def uptoBulk {H : Type} : DataW H → Nat
  | .lit (.string bytes) => bytes.length + 1
  | .lit _ => 1
  | .nil => 1
  | .ptr d => uptoBulk d + 1
  | .slice elems spare => uptoBulkAll elems + uptoBulkAll spare + 1
  | .agg parts => uptoBulkAll parts + 1
  | .iface _ d => uptoBulk d + 1
  | .map entries => uptoBulkEntries entries + 1
  | .held _ => 1
def uptoBulkAll {H : Type} : List (DataW H) → Nat
  | [] => 0
  | d :: r => uptoBulk d + uptoBulkAll r
def uptoBulkEntries {H : Type} : List (Lit × DataW H) → Nat
  | [] => 0
  | x :: r => uptoBulkEntry x + uptoBulkEntries r
def uptoBulkEntry {H : Type} : Lit × DataW H → Nat
  | (.string bytes, d) => bytes.length + uptoBulk d + 1
  | (_, d) => uptoBulk d + 1
 end
def uptoSmall : (H : Type) → List (DataW H) → Bool := fun _ ds => decide (uptoBulkAll ds ≤ 1048576)
def OpenSpec.upto (s : _root_.Go.ChangeSpec) : _root_.Go.OpenSpec := { _root_.Go.OpenSpec.ofChange s with cond := some uptoSmall }

/-- 'dowserlaw05.PoolOrder', WHERE WHAT IT READS IS OF BULK AT MOST 1048576: true; the input reads as it did. -/
def poolOrderUptoRow : OpenClaim := { program := "ytliakkpmmmgmhaa", sum := "87e4977bd959266851ec9743b34be1af5f68a5418ad854b76a02428f913941bf", func := "dowser/dowserlaw05.PoolOrder", spec := "poolOrder", unfollowed := true, recurses := true, apart := false, narrowed := true }
def PoolOrderUptoSaid : Prop := poolOrderUptoRow.holds Try.pinned (OpenSpec.upto poolOrderSpec)

/-- 'dowserlaw05.PoolBounds', WHERE WHAT IT READS IS OF BULK AT MOST 1048576: true; the input reads as it did. -/
def poolBoundsUptoRow : OpenClaim := { program := "ytliakkpmmmgmhaa", sum := "87e4977bd959266851ec9743b34be1af5f68a5418ad854b76a02428f913941bf", func := "dowser/dowserlaw05.PoolBounds", spec := "poolBounds", unfollowed := true, recurses := true, apart := false, narrowed := true }
def PoolBoundsUptoSaid : Prop := poolBoundsUptoRow.holds Try.pinned (OpenSpec.upto poolBoundsSpec)

/-- 'dowserlaw05.PoolLast', WHERE WHAT IT READS IS OF BULK AT MOST 1048576: true; the input reads as it did. -/
def poolLastUptoRow : OpenClaim := { program := "ytliakkpmmmgmhaa", sum := "87e4977bd959266851ec9743b34be1af5f68a5418ad854b76a02428f913941bf", func := "dowser/dowserlaw05.PoolLast", spec := "poolLast", unfollowed := true, recurses := true, apart := false, narrowed := true }
def PoolLastUptoSaid : Prop := poolLastUptoRow.holds Try.pinned (OpenSpec.upto poolLastSpec)

/-- 'dowserlaw05.PoolNone', WHERE WHAT IT READS IS OF BULK AT MOST 1048576: true; the input reads as it did. -/
def poolNoneUptoRow : OpenClaim := { program := "ytliakkpmmmgmhaa", sum := "87e4977bd959266851ec9743b34be1af5f68a5418ad854b76a02428f913941bf", func := "dowser/dowserlaw05.PoolNone", spec := "poolNone", unfollowed := true, recurses := true, apart := false, narrowed := true }
def PoolNoneUptoSaid : Prop := poolNoneUptoRow.holds Try.pinned (OpenSpec.upto poolNoneSpec)

/-- 'dowserlaw06.PagerMost', WHERE WHAT IT READS IS OF BULK AT MOST 1048576: true; the input reads as it did. -/
def pagerMostUptoRow : OpenClaim := { program := "ytliakkpmmmgmhaa", sum := "87e4977bd959266851ec9743b34be1af5f68a5418ad854b76a02428f913941bf", func := "dowser/dowserlaw06.PagerMost", spec := "pagerMost", unfollowed := true, recurses := true, apart := false, narrowed := true }
def PagerMostUptoSaid : Prop := pagerMostUptoRow.holds Try.pinned (OpenSpec.upto pagerMostSpec)

end Rows
end Go.Proofs.Ytliakkpmmmgmhaa
