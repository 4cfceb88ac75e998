-- Written by a program of this session (pr.py) over the kit's print; Lean checks it.
import Derived.Test.YtnfeknaeikpdmaaDoorProg
import Derived.Below
import Derived.Deep.Draws
import Derived.Deep.AppendLies
import Derived.Maps.AppendAt
import Derived.OwnWalk
import Derived.Laws.BytesArg
import Derived.Laws.MakeOwn
import Derived.Laws.OwnMore
import Derived.Deep.OwnRows
import Derived.Tactics
import Derived.Lib.ConvBytes
import Derived.Laws.Slices
import Derived.WalkKit
import Derived.KernelRfl
import Derived.RowKit3
import Derived.Deep.LoopGhost
import Derived.Deep.QuietTactic
import Derived.BigQuiet
import Derived.WideLaws
import Derived.Deep.DeepCutAuto
import Derived.Deep.CutBlock
import Derived.Deep.RegionHeld3
import Derived.Laws.Rows
import Derived.Lib.AppendStr
import Derived.ArgAppend
import Derived.Laws.IdiomCopy
import Derived.OrdersHeld
import Derived.Laws.BitsLemmas
import Derived.RowKit
import Derived.Test.YtnfeknaeikpdmaaDoorHook
import Derived.Test.YtnfeknaeikpdmaaDoorWWords
import Derived.Test.YtnfeknaeikpdmaaDoorWLast
import Derived.Test.YtnfeknaeikpdmaaDoorWTab
import Derived.Test.YtnfeknaeikpdmaaDoorWFour
import Derived.Test.YtnfeknaeikpdmaaDoorWQPut
import Derived.Test.YtnfeknaeikpdmaaDoorWApart
import Derived.Test.YtnfeknaeikpdmaaDoorWArr
import Derived.Test.YtnfeknaeikpdmaaDoorWZeros
import Derived.Test.YtnfeknaeikpdmaaDoorWFoot
import Derived.Test.YtnfeknaeikpdmaaDoorWKept
import Derived.Test.YtnfeknaeikpdmaaDoorWShare
import Derived.Test.YtnfeknaeikpdmaaDoorWN
import Derived.Test.YtnfeknaeikpdmaaDoorWFootNe
import Derived.Test.YtnfeknaeikpdmaaDoorWAt
import Derived.Test.YtnfeknaeikpdmaaDoorWEqStruct
import Derived.Test.YtnfeknaeikpdmaaDoorWRepsOne
import Derived.Test.YtnfeknaeikpdmaaDoorWInv
import Derived.Test.YtnfeknaeikpdmaaDoorWInvWords
import Derived.Test.YtnfeknaeikpdmaaDoorWGuard
import Derived.Test.YtnfeknaeikpdmaaDoorWNEv
import Derived.Test.YtnfeknaeikpdmaaDoorWMore
namespace Go.Proofs.YtnfeknaeikpdmaaDoor.PR
open Go.RowKit Go.Proofs.YtnfeknaeikpdmaaDoorW.PrintWords Go.Proofs.YtnfeknaeikpdmaaDoorW.PrintLast Go.Proofs.YtnfeknaeikpdmaaDoorW.PrintMore
attribute [local go_sem] max2_int min2_int max_two min_two max_three min_three max_four min_four   -- for this text's walks alone
set_option linter.unusedVariables false
set_option linter.unusedSimpArgs false



def errW : Option Int → Value
  | none => .nilIface
  | some c => .iface 0 (.int .i64 c)
theorem errW_none : errW none = .nilIface := rfl
theorem errW_some (c : Int) : errW (some c) = .iface 0 (.int .i64 c) := rfl

theorem info5 : (Tryd.prog.info? 5).map (fun i => (i.zero, i.size, i.bytes)) = some (some (.int .u8 0), 1, 1) := by kernel_rfl
theorem info9 : (Tryd.prog.info? 9).map (fun i => (i.zero, i.size, i.bytes)) = some (some (.string ⟨#[]⟩), 1, 16) := by kernel_rfl
-- the values' own types

end Go.Proofs.YtnfeknaeikpdmaaDoor.PR
