import Derived.Test.YtfklihbkflblmaaGreatDoorSdSeat2
set_option linter.all false
open Go Go.Proofs
set_option maxRecDepth 100000
noncomputable section
namespace Sd
theorem alive_run : runsTo B t13 7 [] (.bool true) = true := by kernel_rfl
end Sd
