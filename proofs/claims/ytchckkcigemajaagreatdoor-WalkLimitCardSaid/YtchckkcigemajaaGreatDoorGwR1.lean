/- The runs where n % 9 is 1. -/
import Derived.Test.YtchckkcigemajaaGreatDoorGwC0
namespace Go.Proofs.YtchckkcigemajaaGreatDoor
open Go.Ab
set_option maxRecDepth 100000
theorem run_K1 (n : Int) (b : UInt8) (bs : List UInt8) : outB (runW (hintK 1) n ⟨⟨b :: bs⟩⟩) = some (true, obsK 1 n b bs) := by kernel_rfl
theorem run_E1 (n : Int) : outB (runW (hintE 1) n ⟨⟨[]⟩⟩) = some (true, obsE 1 n) := by kernel_rfl
end Go.Proofs.YtchckkcigemajaaGreatDoor
