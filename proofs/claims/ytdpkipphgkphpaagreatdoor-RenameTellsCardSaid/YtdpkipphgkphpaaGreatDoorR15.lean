/- A piece of the abstract machine's run, by the kernel. No condition. -/
import Derived.Test.YtdpkipphgkphpaaGreatDoorSt
import Derived.KernelRfl
namespace Go.Absm.Ax
theorem piece15 : piece tb 7655 s15 s16 = true := by kernel_rfl
end Go.Absm.Ax
