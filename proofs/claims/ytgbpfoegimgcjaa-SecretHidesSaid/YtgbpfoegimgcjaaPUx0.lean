-- Written by a program of this session over the translation: walks of plain functions. Lean checks it.
import Derived.Test.YtgbpfoegimgcjaaProg
import Derived.Below
import Derived.Deep.Draws
import Derived.Deep.AppendLies
import Derived.Maps.AppendAt
import Derived.OwnWalk
import Derived.Laws.BytesArg
import Derived.Laws.MakeOwn
import Derived.Laws.OwnMore
import Derived.Deep.OwnRows
import Derived.Tactics
import Derived.Lib.ConvBytes
import Derived.Laws.Slices
import Derived.WalkKit
import Derived.KernelRfl
import Derived.RowKit3
import Derived.Deep.LoopGhost
import Derived.Deep.QuietTactic
import Derived.BigQuiet
import Derived.WideLaws
import Derived.Deep.DeepCutAuto
import Derived.Deep.CutBlock
import Derived.Deep.RegionHeld3
import Derived.Laws.Rows
import Derived.Lib.AppendStr
import Derived.ArgAppend
import Derived.Laws.IdiomCopy
import Derived.OrdersHeld
import Derived.Laws.BitsLemmas
import Derived.RowKit
import Derived.Test.YtgbpfoegimgcjaaWWords
import Derived.Test.YtgbpfoegimgcjaaWLast
import Derived.Test.YtgbpfoegimgcjaaWTab
import Derived.Test.YtgbpfoegimgcjaaWFour
import Derived.Test.YtgbpfoegimgcjaaWQPut
import Derived.Test.YtgbpfoegimgcjaaWApart
import Derived.Test.YtgbpfoegimgcjaaWArr
import Derived.Test.YtgbpfoegimgcjaaWZeros
import Derived.Test.YtgbpfoegimgcjaaWFoot
import Derived.Test.YtgbpfoegimgcjaaWKept
import Derived.Test.YtgbpfoegimgcjaaWShare
import Derived.Test.YtgbpfoegimgcjaaWN
import Derived.Test.YtgbpfoegimgcjaaWFootNe
import Derived.Test.YtgbpfoegimgcjaaWAt
import Derived.Test.YtgbpfoegimgcjaaWEqStruct
import Derived.Test.YtgbpfoegimgcjaaWRepsOne
import Derived.Test.YtgbpfoegimgcjaaWInv
import Derived.Test.YtgbpfoegimgcjaaWInvWords
import Derived.Test.YtgbpfoegimgcjaaWGuard
import Derived.Test.YtgbpfoegimgcjaaWNEv
import Derived.Test.YtgbpfoegimgcjaaWMore
import Derived.Test.YtgbpfoegimgcjaaX
namespace Go.Proofs.Ytgbpfoegimgcjaa.PU
open Go.RowKit Go.Proofs.YtgbpfoegimgcjaaW.PrintWords Go.Proofs.YtgbpfoegimgcjaaW.PrintLast Go.Proofs.YtgbpfoegimgcjaaW.PrintMore
attribute [local go_sem] max2_int min2_int max_two min_two max_three min_three max_four min_four   -- for this text's walks alone
set_option linter.unusedVariables false
set_option linter.unusedSimpArgs false



def errW : Option Int → Value
  | none => .nilIface
  | some c => .iface 0 (.int .i64 c)
theorem errW_none : errW none = .nilIface := rfl
theorem errW_some (c : Int) : errW (some c) = .iface 0 (.int .i64 c) := rfl

theorem info5 : (Try.prog.info? 5).map (fun i => (i.zero, i.size, i.bytes)) = some (some (.int .u8 0), 1, 1) := by kernel_rfl
-- the values' own types

end Go.Proofs.Ytgbpfoegimgcjaa.PU
