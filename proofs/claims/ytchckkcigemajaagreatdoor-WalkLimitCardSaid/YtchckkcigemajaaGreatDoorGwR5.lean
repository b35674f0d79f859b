/- The runs where n % 9 is 5. -/
import Derived.Test.YtchckkcigemajaaGreatDoorGwC0
namespace Go.Proofs.YtchckkcigemajaaGreatDoor
open Go.Ab
set_option maxRecDepth 100000
theorem run_K5 (n : Int) (b : UInt8) (bs : List UInt8) : outB (runW (hintK 5) n ⟨⟨b :: bs⟩⟩) = some (true, obsK 5 n b bs) := by kernel_rfl
theorem run_E5 (n : Int) : outB (runW (hintE 5) n ⟨⟨[]⟩⟩) = some (true, obsE 5 n) := by kernel_rfl
end Go.Proofs.YtchckkcigemajaaGreatDoor
