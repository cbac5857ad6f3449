/- A piece of the abstract machine's run, by the kernel. No condition. -/
import Derived.Test.YtdpkipphgkphpaaGreatDoorSt
import Derived.KernelRfl
namespace Go.Absm.Ax
theorem piece7 : piece tb 40000 s7 s8 = true := by kernel_rfl
end Go.Absm.Ax
