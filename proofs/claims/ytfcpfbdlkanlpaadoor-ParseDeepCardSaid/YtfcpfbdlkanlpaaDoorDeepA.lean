/- Messages in one another, letters 97 and on: by the kernel. No program in sight. -/
import Derived.Test.YtfcpfbdlkanlpaaDoorDeepP
namespace Go.Proofs.YtfcpfbdlkanlpaaDoor
theorem deep_all97 : deepAll 97 4 = true := by kernel_rfl
theorem deep_all101 : deepAll 101 4 = true := by kernel_rfl
theorem deep_all105 : deepAll 105 4 = true := by kernel_rfl
end Go.Proofs.YtfcpfbdlkanlpaaDoor
