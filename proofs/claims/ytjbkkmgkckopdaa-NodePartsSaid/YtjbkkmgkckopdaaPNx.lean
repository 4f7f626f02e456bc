/- Walks of the Go functions that the node statements reach: each Go function answers what the Lean function beside it answers, wherever that one answers at all. Written by a program of ours. -/
import Derived.Test.YtjbkkmgkckopdaaPNx0
import Derived.Test.YtjbkkmgkckopdaaPNx1
import Derived.Test.YtjbkkmgkckopdaaPNx2
import Derived.Test.YtjbkkmgkckopdaaPNx3
import Derived.Test.YtjbkkmgkckopdaaPNx4
import Derived.Test.YtjbkkmgkckopdaaPNx5
import Derived.Test.YtjbkkmgkckopdaaPNx6
namespace Go.Proofs.Ytjbkkmgkckopdaa.PN
open Go.RowKit Go.Proofs.YtjbkkmgkckopdaaW.PrintWords Go.Proofs.YtjbkkmgkckopdaaW.PrintLast Go.Proofs.YtjbkkmgkckopdaaW.PrintMore
attribute [local go_sem] max2_int min2_int max_two min_two max_three min_three max_four min_four   -- for this text's walks alone
set_option linter.unusedVariables false
set_option linter.unusedSimpArgs false

end Go.Proofs.Ytjbkkmgkckopdaa.PN
