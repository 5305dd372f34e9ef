/- Nothing is asked of package-level variables. -/
import Derived.Test.YthdpblbclgpnjaaDat
import Derived.Test.YthdpblbclgpnjaaProg
set_option linter.unusedVariables false
set_option linter.unusedSimpArgs false
set_option linter.unusedSectionVars false
namespace Tab
open Go

instance noGlobs : Globs := ⟨fun _ => .junk, fun _ _ _ _ _ _ _ => by simp only [VRel]⟩
theorem noGlobs_all (W : World) : GRel m₀ (fun cb => cb < W.heap.size) W := fun _ => by show VRel _ _ _ .junk _; simp only [VRel]

end Tab
