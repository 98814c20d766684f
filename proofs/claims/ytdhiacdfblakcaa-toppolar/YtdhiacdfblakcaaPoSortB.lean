/- The sorts at 5 levels, of 0 to 17 bits. -/
import Derived.Test.YtdhiacdfblakcaaPoTab
namespace Go.Proofs.Ytdhiacdfblakcaa
open Go Go.Ab

theorem sort_5a : (List.range 18).all (chkSort 5) = true := by kernel_rfl

end Go.Proofs.Ytdhiacdfblakcaa
