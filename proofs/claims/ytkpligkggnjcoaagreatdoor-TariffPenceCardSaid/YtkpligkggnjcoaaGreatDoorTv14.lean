/- Parts of the proof, one behind the other: TZ2f. No conditions. -/
import Derived.Test.YtkpligkggnjcoaaGreatDoorTv13
import Derived.Test.YtkpligkggnjcoaaGreatDoorCards
import Derived.SevenTiedAt
/-! TZ2f -/
namespace Go.Proofs.YtkpligkggnjcoaaGreatDoor
open Ev K
open Go.ChangeShapes Go.WideShapes Go.RowKit
set_option maxRecDepth 100000
theorem tariffPence_func:Tryz.pinned.checked.prog.funcNamed Rows.tariffPenceRow.func=some 7:=by kernel_rfl
set_option maxHeartbeats 8000000 in
theorem tariffPence_joined:joinedFacts Tryz.pinned.checked.prog 7 Tryz.f7 Rows.tariffPenceSpec Rows.tariffPenceRow=true:=by
 unfold joinedFacts
 simp only [Bool.and_eq_true]
 repeat' apply And.intro
 all_goals as_aux_lemma=>kernel_rfl
theorem tariffPence_wf:Rows.tariffPenceRow.wfByText (OpenSpec.ofChange Rows.tariffPenceSpec)=true:=by kernel_rfl
theorem tariffPence_goes:false=Rows.tariffPenceRow.goesBy Tryz.pinned.checked.prog:=by kernel_rfl
end Go.Proofs.YtkpligkggnjcoaaGreatDoor
