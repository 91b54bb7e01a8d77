/- The chapter's examples hold. No conditions. -/
import Derived.Test.YtkajafmphemedaaKQ
namespace Go.Proofs.Ytkajafmphemedaa
open Ev K
set_option maxRecDepth 100000
def D_none := DecL.tops 0
theorem head_run : callT1 P BKQ8 30 9 D_none dB () = some true := by kernel_rfl
noncomputable def BKJ1 : Tab := BKQ8.addCall 9 (callE D_none dB (fun _ => .ret true))
theorem tKJ1 : TabOk P BKJ1 := TabOk.addFn (d := 30) okP tKQ8 (fun a r h => by cases ret_some h; exact head_run)
end Go.Proofs.Ytkajafmphemedaa
