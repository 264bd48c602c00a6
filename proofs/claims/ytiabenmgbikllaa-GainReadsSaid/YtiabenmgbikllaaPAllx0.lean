-- Written by the kit's print.py for several laws of this seat at once (this session's wip/printall.sh); Lean checks it.
import Derived.Test.YtiabenmgbikllaaProg
import Derived.Below
import Derived.Deep.Draws
import Derived.Deep.AppendLies
import Derived.Maps.AppendAt
import Derived.OwnWalk
import Derived.Laws.BytesArg
import Derived.Laws.MakeOwn
import Derived.Laws.OwnMore
import Derived.Deep.OwnRows
import Derived.Tactics
import Derived.Lib.ConvBytes
import Derived.Laws.Slices
import Derived.WalkKit
import Derived.KernelRfl
import Derived.RowKit3
import Derived.Deep.LoopGhost
import Derived.Deep.QuietTactic
import Derived.BigQuiet
import Derived.WideLaws
import Derived.Deep.DeepCutAuto
import Derived.Deep.CutBlock
import Derived.Deep.RegionHeld3
import Derived.Laws.Rows
import Derived.Lib.AppendStr
import Derived.ArgAppend
import Derived.Laws.IdiomCopy
import Derived.OrdersHeld
import Derived.Laws.BitsLemmas
import Derived.RowKit
import Derived.Test.YtiabenmgbikllaaWWords
import Derived.Test.YtiabenmgbikllaaWLast
import Derived.Test.YtiabenmgbikllaaWTab
import Derived.Test.YtiabenmgbikllaaWFour
import Derived.Test.YtiabenmgbikllaaWQPut
import Derived.Test.YtiabenmgbikllaaWApart
import Derived.Test.YtiabenmgbikllaaWArr
import Derived.Test.YtiabenmgbikllaaWZeros
import Derived.Test.YtiabenmgbikllaaWFoot
import Derived.Test.YtiabenmgbikllaaWKept
import Derived.Test.YtiabenmgbikllaaWShare
import Derived.Test.YtiabenmgbikllaaWN
import Derived.Test.YtiabenmgbikllaaWFootNe
import Derived.Test.YtiabenmgbikllaaWAt
import Derived.Test.YtiabenmgbikllaaWEqStruct
import Derived.Test.YtiabenmgbikllaaWRepsOne
import Derived.Test.YtiabenmgbikllaaWInv
import Derived.Test.YtiabenmgbikllaaWInvWords
import Derived.Test.YtiabenmgbikllaaWGuard
import Derived.Test.YtiabenmgbikllaaWNEv
import Derived.Test.YtiabenmgbikllaaWMore
namespace Go.Proofs.Ytiabenmgbikllaa.PAll
open Go.RowKit Go.Proofs.YtiabenmgbikllaaW.PrintWords Go.Proofs.YtiabenmgbikllaaW.PrintLast Go.Proofs.YtiabenmgbikllaaW.PrintMore
attribute [local go_sem] max2_int min2_int max_two min_two max_three min_three max_four min_four   -- for this text's walks alone
set_option linter.unusedVariables false
set_option linter.unusedSimpArgs false



def errW : Option Int → Value
  | none => .nilIface
  | some c => .iface 0 (.int .i64 c)
theorem errW_none : errW none = .nilIface := rfl
theorem errW_some (c : Int) : errW (some c) = .iface 0 (.int .i64 c) := rfl

theorem info2 : (Try.prog.info? 2).map (fun i => (i.zero, i.size, i.bytes)) = some (some (.int .i64 0), 1, 8) := by kernel_rfl
theorem info3 : (Try.prog.info? 3).map (fun i => (i.zero, i.size, i.bytes)) = some (some (.int .i64 0), 1, 8) := by kernel_rfl
-- the values' own types

end Go.Proofs.Ytiabenmgbikllaa.PAll
