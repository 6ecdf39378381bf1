-- Written by a program of this session over the translation: walks of plain functions. Lean checks it.
import Derived.Test.YtpgdacaokgkdhaaDoorProg
import Derived.Below
import Derived.Deep.Draws
import Derived.Deep.AppendLies
import Derived.Maps.AppendAt
import Derived.OwnWalk
import Derived.Laws.BytesArg
import Derived.Laws.MakeOwn
import Derived.Laws.OwnMore
import Derived.Deep.OwnRows
import Derived.Tactics
import Derived.Lib.ConvBytes
import Derived.Laws.Slices
import Derived.WalkKit
import Derived.KernelRfl
import Derived.RowKit3
import Derived.Deep.LoopGhost
import Derived.Deep.QuietTactic
import Derived.BigQuiet
import Derived.WideLaws
import Derived.Deep.DeepCutAuto
import Derived.Deep.CutBlock
import Derived.Deep.RegionHeld3
import Derived.Laws.Rows
import Derived.Lib.AppendStr
import Derived.ArgAppend
import Derived.Laws.IdiomCopy
import Derived.OrdersHeld
import Derived.Laws.BitsLemmas
import Derived.RowKit
import Derived.Test.YtpgdacaokgkdhaaDoorWWords
import Derived.Test.YtpgdacaokgkdhaaDoorWLast
import Derived.Test.YtpgdacaokgkdhaaDoorWTab
import Derived.Test.YtpgdacaokgkdhaaDoorWFour
import Derived.Test.YtpgdacaokgkdhaaDoorWQPut
import Derived.Test.YtpgdacaokgkdhaaDoorWApart
import Derived.Test.YtpgdacaokgkdhaaDoorWArr
import Derived.Test.YtpgdacaokgkdhaaDoorWZeros
import Derived.Test.YtpgdacaokgkdhaaDoorWFoot
import Derived.Test.YtpgdacaokgkdhaaDoorWKept
import Derived.Test.YtpgdacaokgkdhaaDoorWShare
import Derived.Test.YtpgdacaokgkdhaaDoorWN
import Derived.Test.YtpgdacaokgkdhaaDoorWFootNe
import Derived.Test.YtpgdacaokgkdhaaDoorWAt
import Derived.Test.YtpgdacaokgkdhaaDoorWEqStruct
import Derived.Test.YtpgdacaokgkdhaaDoorWRepsOne
import Derived.Test.YtpgdacaokgkdhaaDoorWInv
import Derived.Test.YtpgdacaokgkdhaaDoorWInvWords
import Derived.Test.YtpgdacaokgkdhaaDoorWGuard
import Derived.Test.YtpgdacaokgkdhaaDoorWNEv
import Derived.Test.YtpgdacaokgkdhaaDoorWMore
import Derived.Test.YtpgdacaokgkdhaaDoorX
namespace Go.Proofs.YtpgdacaokgkdhaaDoor.PU
open Go.RowKit Go.Proofs.YtpgdacaokgkdhaaDoorW.PrintWords Go.Proofs.YtpgdacaokgkdhaaDoorW.PrintLast Go.Proofs.YtpgdacaokgkdhaaDoorW.PrintMore
attribute [local go_sem] max2_int min2_int max_two min_two max_three min_three max_four min_four   -- for this text's walks alone
set_option linter.unusedVariables false
set_option linter.unusedSimpArgs false



def errW : Option Int → Value
  | none => .nilIface
  | some c => .iface 0 (.int .i64 c)
theorem errW_none : errW none = .nilIface := rfl
theorem errW_some (c : Int) : errW (some c) = .iface 0 (.int .i64 c) := rfl

theorem info5 : (Tryd.prog.info? 5).map (fun i => (i.zero, i.size, i.bytes)) = some (some (.int .u8 0), 1, 1) := by kernel_rfl
-- the values' own types

end Go.Proofs.YtpgdacaokgkdhaaDoor.PU
