/- The runs where n % 9 is 0. -/
import Derived.Test.YtchckkcigemajaaGreatDoorGwC0
namespace Go.Proofs.YtchckkcigemajaaGreatDoor
open Go.Ab
set_option maxRecDepth 100000
theorem run_K0 (n : Int) (b : UInt8) (bs : List UInt8) : outB (runW (hintK 0) n ⟨⟨b :: bs⟩⟩) = some (true, obsK 0 n b bs) := by kernel_rfl
theorem run_E0 (n : Int) : outB (runW (hintE 0) n ⟨⟨[]⟩⟩) = some (true, obsE 0 n) := by kernel_rfl
end Go.Proofs.YtchckkcigemajaaGreatDoor
