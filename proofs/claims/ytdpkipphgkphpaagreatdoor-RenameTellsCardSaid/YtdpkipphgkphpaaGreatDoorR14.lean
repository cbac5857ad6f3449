/- A piece of the abstract machine's run, by the kernel. No condition. -/
import Derived.Test.YtdpkipphgkphpaaGreatDoorSt
import Derived.KernelRfl
namespace Go.Absm.Ax
theorem piece14 : piece tb 40000 s14 s15 = true := by kernel_rfl
end Go.Absm.Ax
