/- The runs where n % 9 is 4. -/
import Derived.Test.YtchckkcigemajaaGreatDoorGwC0
namespace Go.Proofs.YtchckkcigemajaaGreatDoor
open Go.Ab
set_option maxRecDepth 100000
theorem run_K4 (n : Int) (b : UInt8) (bs : List UInt8) : outB (runW (hintK 4) n ⟨⟨b :: bs⟩⟩) = some (true, obsK 4 n b bs) := by kernel_rfl
theorem run_E4 (n : Int) : outB (runW (hintE 4) n ⟨⟨[]⟩⟩) = some (true, obsE 4 n) := by kernel_rfl
end Go.Proofs.YtchckkcigemajaaGreatDoor
