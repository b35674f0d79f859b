/- The runs where n % 9 is 7. -/
import Derived.Test.YtchckkcigemajaaGreatDoorGwC0
namespace Go.Proofs.YtchckkcigemajaaGreatDoor
open Go.Ab
set_option maxRecDepth 100000
theorem run_K7 (n : Int) (b : UInt8) (bs : List UInt8) : outB (runW (hintK 7) n ⟨⟨b :: bs⟩⟩) = some (true, obsK 7 n b bs) := by kernel_rfl
theorem run_E7 (n : Int) : outB (runW (hintE 7) n ⟨⟨[]⟩⟩) = some (true, obsE 7 n) := by kernel_rfl
end Go.Proofs.YtchckkcigemajaaGreatDoor
