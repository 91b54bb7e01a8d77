/- Parts of the proof, one behind the other: TZ3f. No conditions. -/
import Derived.Test.YtkpligkggnjcoaaGreatDoorTv13
import Derived.Test.YtkpligkggnjcoaaGreatDoorCards
import Derived.SevenTiedAt
/-! TZ3f -/
namespace Go.Proofs.YtkpligkggnjcoaaGreatDoor
open Ev K
open Go.ChangeShapes Go.WideShapes Go.RowKit
set_option maxRecDepth 100000
theorem tariffRuns_func:Tryz.pinned.checked.prog.funcNamed Rows.tariffRunsRow.func=some 11:=by kernel_rfl
set_option maxHeartbeats 8000000 in
theorem tariffRuns_joined:joinedFacts Tryz.pinned.checked.prog 11 Tryz.f11 Rows.tariffRunsSpec Rows.tariffRunsRow=true:=by
 unfold joinedFacts
 simp only [Bool.and_eq_true]
 repeat' apply And.intro
 all_goals as_aux_lemma=>kernel_rfl
theorem tariffRuns_wf:Rows.tariffRunsRow.wfByText (OpenSpec.ofChange Rows.tariffRunsSpec)=true:=by kernel_rfl
theorem tariffRuns_goes:false=Rows.tariffRunsRow.goesBy Tryz.pinned.checked.prog:=by kernel_rfl
end Go.Proofs.YtkpligkggnjcoaaGreatDoor
