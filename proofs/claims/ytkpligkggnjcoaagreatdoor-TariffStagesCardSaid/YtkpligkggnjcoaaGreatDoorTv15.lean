/- Parts of the proof, one behind the other: TZ4f. No conditions. -/
import Derived.Test.YtkpligkggnjcoaaGreatDoorTv14
import Derived.Test.YtkpligkggnjcoaaGreatDoorCards
import Derived.SevenTiedAt
/-! TZ4f -/
namespace Go.Proofs.YtkpligkggnjcoaaGreatDoor
open Ev K
open Go.ChangeShapes Go.WideShapes Go.RowKit
set_option maxRecDepth 100000
theorem tariffStages_func:Tryz.pinned.checked.prog.funcNamed Rows.tariffStagesRow.func=some 10:=by kernel_rfl
set_option maxHeartbeats 8000000 in
theorem tariffStages_joined:joinedFacts Tryz.pinned.checked.prog 10 Tryz.f10 Rows.tariffStagesSpec Rows.tariffStagesRow=true:=by
 unfold joinedFacts
 simp only [Bool.and_eq_true]
 repeat' apply And.intro
 all_goals as_aux_lemma=>kernel_rfl
theorem tariffStages_wf:Rows.tariffStagesRow.wfByText (OpenSpec.ofChange Rows.tariffStagesSpec)=true:=by kernel_rfl
theorem tariffStages_goes:false=Rows.tariffStagesRow.goesBy Tryz.pinned.checked.prog:=by kernel_rfl
end Go.Proofs.YtkpligkggnjcoaaGreatDoor
