/- The sorts at 5 levels, of 26 to 32 bits. -/
import Derived.Test.YtdhiacdfblakcaaPoTab
namespace Go.Proofs.Ytdhiacdfblakcaa
open Go Go.Ab

theorem sort_5c : (List.range 7).all (fun i => chkSort 5 (26 + i)) = true := by kernel_rfl

end Go.Proofs.Ytdhiacdfblakcaa
