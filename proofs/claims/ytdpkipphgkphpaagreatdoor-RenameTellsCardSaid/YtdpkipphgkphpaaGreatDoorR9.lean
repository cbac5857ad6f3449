/- A piece of the abstract machine's run, by the kernel. No condition. -/
import Derived.Test.YtdpkipphgkphpaaGreatDoorSt
import Derived.KernelRfl
namespace Go.Absm.Ax
theorem piece9 : piece tb 40000 s9 s10 = true := by kernel_rfl
end Go.Absm.Ax
