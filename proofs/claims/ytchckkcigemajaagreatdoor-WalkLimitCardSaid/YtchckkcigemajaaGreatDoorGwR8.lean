/- The runs where n % 9 is 8. -/
import Derived.Test.YtchckkcigemajaaGreatDoorGwC0
namespace Go.Proofs.YtchckkcigemajaaGreatDoor
open Go.Ab
set_option maxRecDepth 100000
theorem run_K8 (n : Int) (b : UInt8) (bs : List UInt8) : outB (runW (hintK 8) n ⟨⟨b :: bs⟩⟩) = some (true, obsK 8 n b bs) := by kernel_rfl
theorem run_E8 (n : Int) : outB (runW (hintE 8) n ⟨⟨[]⟩⟩) = some (true, obsE 8 n) := by kernel_rfl
end Go.Proofs.YtchckkcigemajaaGreatDoor
