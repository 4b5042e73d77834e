/- Messages in one another, letters 109 and on: by the kernel. No program in sight. -/
import Derived.Test.YtfcpfbdlkanlpaaDoorDeepP
namespace Go.Proofs.YtfcpfbdlkanlpaaDoor
theorem deep_all109 : deepAll 109 4 = true := by kernel_rfl
theorem deep_all113 : deepAll 113 4 = true := by kernel_rfl
theorem deep_all117 : deepAll 117 4 = true := by kernel_rfl
end Go.Proofs.YtfcpfbdlkanlpaaDoor
