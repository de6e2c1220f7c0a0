/- stripSurvives_card, part 19: what the row's proof needs: words of the print, contracts of functions, the plain law. -/
import Derived.Test.YtcpmgkedmmiioaaDoorKb1
section
namespace Go.Proofs.YtcpmgkedmmiioaaDoor.P
open Go.RowKit Go.Proofs.YtcpmgkedmmiioaaDoorW.PrintWords Go.Proofs.YtcpmgkedmmiioaaDoorW.PrintLast Go.Proofs.YtcpmgkedmmiioaaDoorW.PrintMore
attribute [local go_sem] max2_int min2_int max_two min_two max_three min_three max_four min_four   -- for this text's walks alone
set_option linter.unusedVariables false
set_option linter.unusedSimpArgs false
end Go.Proofs.YtcpmgkedmmiioaaDoor.P
end
