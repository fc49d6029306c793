-- PRINTED BY print.sh 35421559b90ae4d0a3588c463048766b98c2df88dd9212a6774a882060cdf62d: not written by this session
import Derived.Test.YtiaiogmicllllaaProg
import Derived.Below
import Derived.Deep.Draws
import Derived.Deep.AppendLies
import Derived.Maps.AppendAt
import Derived.OwnWalk
import Derived.Laws.BytesArg
import Derived.Laws.MakeOwn
import Derived.Laws.OwnMore
import Derived.Deep.OwnRows
import Derived.Tactics
import Derived.Lib.ConvBytes
import Derived.Laws.Slices
import Derived.WalkKit
import Derived.KernelRfl
import Derived.RowKit3
import Derived.Deep.LoopGhost
import Derived.Deep.QuietTactic
import Derived.BigQuiet
import Derived.WideLaws
import Derived.Deep.DeepCutAuto
import Derived.Deep.CutBlock
import Derived.Deep.RegionHeld3
import Derived.Laws.Rows
import Derived.Lib.AppendStr
import Derived.ArgAppend
import Derived.Laws.IdiomCopy
import Derived.OrdersHeld
import Derived.Laws.BitsLemmas
import Derived.RowKit
import Derived.Test.YtiaiogmicllllaaWWords
import Derived.Test.YtiaiogmicllllaaWLast
import Derived.Test.YtiaiogmicllllaaWTab
import Derived.Test.YtiaiogmicllllaaWFour
import Derived.Test.YtiaiogmicllllaaWQPut
import Derived.Test.YtiaiogmicllllaaWApart
import Derived.Test.YtiaiogmicllllaaWArr
import Derived.Test.YtiaiogmicllllaaWZeros
import Derived.Test.YtiaiogmicllllaaWFoot
import Derived.Test.YtiaiogmicllllaaWKept
import Derived.Test.YtiaiogmicllllaaWShare
import Derived.Test.YtiaiogmicllllaaWN
import Derived.Test.YtiaiogmicllllaaWFootNe
import Derived.Test.YtiaiogmicllllaaWAt
import Derived.Test.YtiaiogmicllllaaWEqStruct
import Derived.Test.YtiaiogmicllllaaWRepsOne
import Derived.Test.YtiaiogmicllllaaWInv
import Derived.Test.YtiaiogmicllllaaWInvWords
import Derived.Test.YtiaiogmicllllaaWGuard
import Derived.Test.YtiaiogmicllllaaWNEv
import Derived.Test.YtiaiogmicllllaaWMore
namespace Go.Proofs.Ytiaiogmicllllaa.PCostSums
open Go.RowKit Go.Proofs.YtiaiogmicllllaaW.PrintWords Go.Proofs.YtiaiogmicllllaaW.PrintLast Go.Proofs.YtiaiogmicllllaaW.PrintMore
attribute [local go_sem] max2_int min2_int max_two min_two max_three min_three max_four min_four   -- for this text's walks alone
set_option linter.unusedVariables false
set_option linter.unusedSimpArgs false



def errW : Option Int → Value
  | none => .nilIface
  | some c => .iface 0 (.int .i64 c)
theorem errW_none : errW none = .nilIface := rfl
theorem errW_some (c : Int) : errW (some c) = .iface 0 (.int .i64 c) := rfl

theorem info2 : (Try.prog.info? 2).map (fun i => (i.zero, i.size, i.bytes)) = some (some (.int .i64 0), 1, 8) := by kernel_rfl
-- the values' own types

end Go.Proofs.Ytiaiogmicllllaa.PCostSums
