/- The runs where n % 9 is 6. -/
import Derived.Test.YtchckkcigemajaaGreatDoorGwC0
namespace Go.Proofs.YtchckkcigemajaaGreatDoor
open Go.Ab
set_option maxRecDepth 100000
theorem run_K6 (n : Int) (b : UInt8) (bs : List UInt8) : outB (runW (hintK 6) n ⟨⟨b :: bs⟩⟩) = some (true, obsK 6 n b bs) := by kernel_rfl
theorem run_E6 (n : Int) : outB (runW (hintE 6) n ⟨⟨[]⟩⟩) = some (true, obsE 6 n) := by kernel_rfl
end Go.Proofs.YtchckkcigemajaaGreatDoor
