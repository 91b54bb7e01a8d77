/- Parts of the proof, one behind the other: TZ1f. No conditions. -/
import Derived.Test.YtkpligkggnjcoaaGreatDoorTw14
import Derived.Test.YtkpligkggnjcoaaGreatDoorCards
import Derived.SevenTiedAt
/-! TZ1f -/
namespace Go.Proofs.YtkpligkggnjcoaaGreatDoor
open Ev K
open Go.ChangeShapes Go.WideShapes Go.RowKit
set_option maxRecDepth 100000
theorem tariffTraces_func : Tryz.pinned.checked.prog.funcNamed Rows.tariffTracesRow.func = some 8 := by kernel_rfl
set_option maxHeartbeats 8000000 in
theorem tariffTraces_joined : joinedFacts Tryz.pinned.checked.prog 8 Tryz.f8 Rows.tariffTracesSpec Rows.tariffTracesRow = true := by
  unfold joinedFacts
  simp only [Bool.and_eq_true]
  repeat' apply And.intro
  all_goals as_aux_lemma => kernel_rfl
theorem tariffTraces_wf : Rows.tariffTracesRow.wfByText (OpenSpec.ofChange Rows.tariffTracesSpec) = true := by kernel_rfl
theorem tariffTraces_goes : false = Rows.tariffTracesRow.goesBy Tryz.pinned.checked.prog := by kernel_rfl
end Go.Proofs.YtkpligkggnjcoaaGreatDoor
