/- The stable sorts at 0 to 5 levels, and the sorts at 0 to 4, as the kernel reckons them. -/
import Derived.Test.YtdhiacdfblakcaaPoTab
namespace Go.Proofs.Ytdhiacdfblakcaa
open Go Go.Ab

theorem stable_all : (List.range 6).all chkStable = true := by kernel_rfl

theorem sort_small : (List.range 5).all (fun m => (List.range (2 ^ m + 1)).all (chkSort m)) = true := by kernel_rfl

end Go.Proofs.Ytdhiacdfblakcaa
