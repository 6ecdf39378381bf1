-- Written by a program of this session over the translation: walks of plain functions. Lean checks it.
import Derived.Test.YtpgdacaokgkdhaaDoorPUx0
import Derived.Test.YtpgdacaokgkdhaaDoorPUx1
import Derived.Test.YtpgdacaokgkdhaaDoorPUx2
import Derived.Test.YtpgdacaokgkdhaaDoorPUx3
import Derived.Test.YtpgdacaokgkdhaaDoorPUx4
import Derived.Test.YtpgdacaokgkdhaaDoorPUx5
import Derived.Test.YtpgdacaokgkdhaaDoorPUx6
import Derived.Test.YtpgdacaokgkdhaaDoorPUx7
namespace Go.Proofs.YtpgdacaokgkdhaaDoor.PU
open Go.RowKit Go.Proofs.YtpgdacaokgkdhaaDoorW.PrintWords Go.Proofs.YtpgdacaokgkdhaaDoorW.PrintLast Go.Proofs.YtpgdacaokgkdhaaDoorW.PrintMore
attribute [local go_sem] max2_int min2_int max_two min_two max_three min_three max_four min_four   -- for this text's walks alone
set_option linter.unusedVariables false
set_option linter.unusedSimpArgs false

end Go.Proofs.YtpgdacaokgkdhaaDoor.PU
