/- The sorts at 5 levels, of 18 to 25 bits. -/
import Derived.Test.YtdhiacdfblakcaaPoTab
namespace Go.Proofs.Ytdhiacdfblakcaa
open Go Go.Ab

theorem sort_5b : (List.range 8).all (fun i => chkSort 5 (18 + i)) = true := by kernel_rfl

end Go.Proofs.Ytdhiacdfblakcaa
