/- A piece of the abstract machine's run, by the kernel. No condition. -/
import Derived.Test.YtdpkipphgkphpaaGreatDoorSt
import Derived.KernelRfl
namespace Go.Absm.Ax
theorem piece3 : piece tb 40000 s3 s4 = true := by kernel_rfl
end Go.Absm.Ax
