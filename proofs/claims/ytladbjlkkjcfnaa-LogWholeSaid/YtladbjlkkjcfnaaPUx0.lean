-- Written by a program of this session over the translation: walks of plain functions. Lean checks it.
import Derived.Test.YtladbjlkkjcfnaaProg
import Derived.Below
import Derived.Deep.Draws
import Derived.Deep.AppendLies
import Derived.Maps.AppendAt
import Derived.OwnWalk
import Derived.Laws.BytesArg
import Derived.Laws.MakeOwn
import Derived.Laws.OwnMore
import Derived.Deep.OwnRows
import Derived.Tactics
import Derived.Lib.ConvBytes
import Derived.Laws.Slices
import Derived.WalkKit
import Derived.KernelRfl
import Derived.RowKit3
import Derived.Deep.LoopGhost
import Derived.Deep.QuietTactic
import Derived.BigQuiet
import Derived.WideLaws
import Derived.Deep.DeepCutAuto
import Derived.Deep.CutBlock
import Derived.Deep.RegionHeld3
import Derived.Laws.Rows
import Derived.Lib.AppendStr
import Derived.ArgAppend
import Derived.Laws.IdiomCopy
import Derived.OrdersHeld
import Derived.Laws.BitsLemmas
import Derived.RowKit
import Derived.Test.YtladbjlkkjcfnaaWWords
import Derived.Test.YtladbjlkkjcfnaaWLast
import Derived.Test.YtladbjlkkjcfnaaWTab
import Derived.Test.YtladbjlkkjcfnaaWFour
import Derived.Test.YtladbjlkkjcfnaaWQPut
import Derived.Test.YtladbjlkkjcfnaaWApart
import Derived.Test.YtladbjlkkjcfnaaWArr
import Derived.Test.YtladbjlkkjcfnaaWZeros
import Derived.Test.YtladbjlkkjcfnaaWFoot
import Derived.Test.YtladbjlkkjcfnaaWKept
import Derived.Test.YtladbjlkkjcfnaaWShare
import Derived.Test.YtladbjlkkjcfnaaWN
import Derived.Test.YtladbjlkkjcfnaaWFootNe
import Derived.Test.YtladbjlkkjcfnaaWAt
import Derived.Test.YtladbjlkkjcfnaaWEqStruct
import Derived.Test.YtladbjlkkjcfnaaWRepsOne
import Derived.Test.YtladbjlkkjcfnaaWInv
import Derived.Test.YtladbjlkkjcfnaaWInvWords
import Derived.Test.YtladbjlkkjcfnaaWGuard
import Derived.Test.YtladbjlkkjcfnaaWNEv
import Derived.Test.YtladbjlkkjcfnaaWMore
import Derived.Test.YtladbjlkkjcfnaaX
namespace Go.Proofs.Ytladbjlkkjcfnaa.PU
open Go.RowKit Go.Proofs.YtladbjlkkjcfnaaW.PrintWords Go.Proofs.YtladbjlkkjcfnaaW.PrintLast Go.Proofs.YtladbjlkkjcfnaaW.PrintMore
attribute [local go_sem] max2_int min2_int max_two min_two max_three min_three max_four min_four   -- for this text's walks alone
set_option linter.unusedVariables false
set_option linter.unusedSimpArgs false



def errW : Option Int → Value
  | none => .nilIface
  | some c => .iface 0 (.int .i64 c)
theorem errW_none : errW none = .nilIface := rfl
theorem errW_some (c : Int) : errW (some c) = .iface 0 (.int .i64 c) := rfl

theorem info5 : (Try.prog.info? 5).map (fun i => (i.zero, i.size, i.bytes)) = some (some (.int .u8 0), 1, 1) := by kernel_rfl
theorem info9 : (Try.prog.info? 9).map (fun i => (i.zero, i.size, i.bytes)) = some (some (.string ⟨#[]⟩), 1, 16) := by kernel_rfl
-- the values' own types

end Go.Proofs.Ytladbjlkkjcfnaa.PU
