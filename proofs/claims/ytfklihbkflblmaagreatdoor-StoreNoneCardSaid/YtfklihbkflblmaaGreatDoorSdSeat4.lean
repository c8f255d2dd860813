import Derived.Test.YtfklihbkflblmaaGreatDoorSdSeat3
set_option linter.all false
open Go Go.Proofs
set_option maxRecDepth 100000
noncomputable section
namespace Sd
theorem hAlive : Facts B (⟨7, [], .bool true⟩ :: t13) := Facts.step baseOK h13 rfl alive_run
def tk (k : Nat) : Value := .chan (some k)
theorem none_run : runsTo B (⟨7, [], .bool true⟩ :: t13) 6 [.agg #[tk 1, tk 1, tk 1, tk 2, tk 1, tk 2, tk 3, tk 4]] (.bool true) = true := by kernel_rfl
end Sd
