/- The law's own example, run once by the kernel. -/
import Derived.Test.YtgflhpfeghplpaaGreatDoorEv3
set_option maxRecDepth 1000000
namespace Go.Proofs.YtgflhpfeghplpaaGreatDoor
namespace Ev
theorem alive_run : isTrue (callF cfg 60 4 [] [] start0) = true := by kernel_rfl
end Ev
end Go.Proofs.YtgflhpfeghplpaaGreatDoor
