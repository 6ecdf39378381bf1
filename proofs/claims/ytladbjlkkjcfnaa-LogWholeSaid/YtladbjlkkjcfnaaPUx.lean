-- Written by a program of this session over the translation: walks of plain functions. Lean checks it.
import Derived.Test.YtladbjlkkjcfnaaPUx0
import Derived.Test.YtladbjlkkjcfnaaPUx1
import Derived.Test.YtladbjlkkjcfnaaPUx2
namespace Go.Proofs.Ytladbjlkkjcfnaa.PU
open Go.RowKit Go.Proofs.YtladbjlkkjcfnaaW.PrintWords Go.Proofs.YtladbjlkkjcfnaaW.PrintLast Go.Proofs.YtladbjlkkjcfnaaW.PrintMore
attribute [local go_sem] max2_int min2_int max_two min_two max_three min_three max_four min_four   -- for this text's walks alone
set_option linter.unusedVariables false
set_option linter.unusedSimpArgs false

end Go.Proofs.Ytladbjlkkjcfnaa.PU
