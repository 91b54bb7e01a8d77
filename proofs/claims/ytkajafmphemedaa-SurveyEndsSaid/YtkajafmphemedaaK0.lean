/- The program of this seat is one that the evaluator covers. No conditions. -/
import Derived.Test.YtkajafmphemedaaEvU
import Derived.Test.YtkajafmphemedaaProg
import Derived.KernelRfl
namespace Go.Proofs.Ytkajafmphemedaa
open Ev
noncomputable abbrev P : Program := Try.prog
theorem okP : okProg P = true := by kernel_rfl
def B0 : Tab := noTab 200
theorem t0 : TabOk P B0 := noTab_ok P 200
end Go.Proofs.Ytkajafmphemedaa
