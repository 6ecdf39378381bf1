-- Written by a program of this session over the translation: walks of plain functions. Lean checks it.
import Derived.Test.YtgbpfoegimgcjaaPUx0
import Derived.Test.YtgbpfoegimgcjaaPUx1
import Derived.Test.YtgbpfoegimgcjaaPUx2
import Derived.Test.YtgbpfoegimgcjaaPUx3
import Derived.Test.YtgbpfoegimgcjaaPUx4
namespace Go.Proofs.Ytgbpfoegimgcjaa.PU
open Go.RowKit Go.Proofs.YtgbpfoegimgcjaaW.PrintWords Go.Proofs.YtgbpfoegimgcjaaW.PrintLast Go.Proofs.YtgbpfoegimgcjaaW.PrintMore
attribute [local go_sem] max2_int min2_int max_two min_two max_three min_three max_four min_four   -- for this text's walks alone
set_option linter.unusedVariables false
set_option linter.unusedSimpArgs false

end Go.Proofs.Ytgbpfoegimgcjaa.PU
