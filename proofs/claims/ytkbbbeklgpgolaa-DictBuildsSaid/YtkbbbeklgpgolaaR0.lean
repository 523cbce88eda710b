/- Small functions of the program and of the references, and what they answer (printed by the kit's print.sh for this seat; turned in one arm). -/
import Derived.Test.YtkbbbeklgpgolaaProg
import Derived.Below
import Derived.Deep.Draws
import Derived.Deep.AppendLies
import Derived.Maps.AppendAt
import Derived.OwnWalk
import Derived.Laws.BytesArg
import Derived.Laws.MakeOwn
import Derived.Laws.OwnMore
import Derived.Deep.OwnRows
import Derived.Tactics
import Derived.Lib.ConvBytes
import Derived.Laws.Slices
import Derived.WalkKit
import Derived.KernelRfl
import Derived.RowKit3
import Derived.Deep.LoopGhost
import Derived.Deep.QuietTactic
import Derived.BigQuiet
import Derived.WideLaws
import Derived.Deep.DeepCutAuto
import Derived.Deep.CutBlock
import Derived.Deep.RegionHeld3
import Derived.Laws.Rows
import Derived.Lib.AppendStr
import Derived.ArgAppend
import Derived.Laws.IdiomCopy
import Derived.OrdersHeld
import Derived.Laws.BitsLemmas
import Derived.RowKit
import Derived.Test.YtkbbbeklgpgolaaWWords
import Derived.Test.YtkbbbeklgpgolaaWLast
import Derived.Test.YtkbbbeklgpgolaaWTab
import Derived.Test.YtkbbbeklgpgolaaWFour
import Derived.Test.YtkbbbeklgpgolaaWQPut
import Derived.Test.YtkbbbeklgpgolaaWApart
import Derived.Test.YtkbbbeklgpgolaaWArr
import Derived.Test.YtkbbbeklgpgolaaWZeros
import Derived.Test.YtkbbbeklgpgolaaWFoot
import Derived.Test.YtkbbbeklgpgolaaWKept
import Derived.Test.YtkbbbeklgpgolaaWShare
import Derived.Test.YtkbbbeklgpgolaaWN
import Derived.Test.YtkbbbeklgpgolaaWFootNe
import Derived.Test.YtkbbbeklgpgolaaWAt
import Derived.Test.YtkbbbeklgpgolaaWEqStruct
import Derived.Test.YtkbbbeklgpgolaaWRepsOne
import Derived.Test.YtkbbbeklgpgolaaWInv
import Derived.Test.YtkbbbeklgpgolaaWInvWords
import Derived.Test.YtkbbbeklgpgolaaWGuard
import Derived.Test.YtkbbbeklgpgolaaWNEv
import Derived.Test.YtkbbbeklgpgolaaWMore
namespace Go.Proofs.Ytkbbbeklgpgolaa.Pref
open Go.RowKit Go.Proofs.YtkbbbeklgpgolaaW.PrintWords Go.Proofs.YtkbbbeklgpgolaaW.PrintLast Go.Proofs.YtkbbbeklgpgolaaW.PrintMore
attribute [local go_sem] max2_int min2_int max_two min_two max_three min_three max_four min_four   -- for this text's walks alone
set_option linter.unusedVariables false
set_option linter.unusedSimpArgs false



def errW : Option Int → Value
  | none => .nilIface
  | some c => .iface 0 (.int .i64 c)
theorem errW_none : errW none = .nilIface := rfl
theorem errW_some (c : Int) : errW (some c) = .iface 0 (.int .i64 c) := rfl

theorem info5 : (Try.prog.info? 5).map (fun i => (i.zero, i.size, i.bytes)) = some (some (.int .u8 0), 1, 1) := by kernel_rfl
theorem info9 : (Try.prog.info? 9).map (fun i => (i.zero, i.size, i.bytes)) = some (some (.string ⟨#[]⟩), 1, 16) := by kernel_rfl
-- the values' own types

end Go.Proofs.Ytkbbbeklgpgolaa.Pref
