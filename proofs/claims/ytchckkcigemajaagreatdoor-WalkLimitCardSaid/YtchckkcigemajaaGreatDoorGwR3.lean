/- The runs where n % 9 is 3. -/
import Derived.Test.YtchckkcigemajaaGreatDoorGwC0
namespace Go.Proofs.YtchckkcigemajaaGreatDoor
open Go.Ab
set_option maxRecDepth 100000
theorem run_K3 (n : Int) (b : UInt8) (bs : List UInt8) : outB (runW (hintK 3) n ⟨⟨b :: bs⟩⟩) = some (true, obsK 3 n b bs) := by kernel_rfl
theorem run_E3 (n : Int) : outB (runW (hintE 3) n ⟨⟨[]⟩⟩) = some (true, obsE 3 n) := by kernel_rfl
end Go.Proofs.YtchckkcigemajaaGreatDoor
