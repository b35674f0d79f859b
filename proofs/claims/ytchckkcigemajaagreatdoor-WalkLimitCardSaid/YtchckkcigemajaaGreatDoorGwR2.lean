/- The runs where n % 9 is 2. -/
import Derived.Test.YtchckkcigemajaaGreatDoorGwC0
namespace Go.Proofs.YtchckkcigemajaaGreatDoor
open Go.Ab
set_option maxRecDepth 100000
theorem run_K2 (n : Int) (b : UInt8) (bs : List UInt8) : outB (runW (hintK 2) n ⟨⟨b :: bs⟩⟩) = some (true, obsK 2 n b bs) := by kernel_rfl
theorem run_E2 (n : Int) : outB (runW (hintE 2) n ⟨⟨[]⟩⟩) = some (true, obsE 2 n) := by kernel_rfl
end Go.Proofs.YtchckkcigemajaaGreatDoor
