/- Parts of the proof, one behind the other: TZ7f. No conditions. -/
import Derived.Test.YtkpligkggnjcoaaGreatDoorTv13
import Derived.Test.YtkpligkggnjcoaaGreatDoorCards
import Derived.SevenTiedAt
/-! TZ7f -/
namespace Go.Proofs.YtkpligkggnjcoaaGreatDoor
open Ev K
open Go.ChangeShapes Go.WideShapes Go.RowKit
set_option maxRecDepth 100000
theorem tariffDiffers_func:Tryz.pinned.checked.prog.funcNamed Rows.tariffDiffersRow.func=some 6:=by kernel_rfl
set_option maxHeartbeats 8000000 in
theorem tariffDiffers_joined:joinedFacts Tryz.pinned.checked.prog 6 Tryz.f6 Rows.tariffDiffersSpec Rows.tariffDiffersRow=true:=by
 unfold joinedFacts
 simp only [Bool.and_eq_true]
 repeat' apply And.intro
 all_goals as_aux_lemma=>kernel_rfl
theorem tariffDiffers_wf:Rows.tariffDiffersRow.wfByText (OpenSpec.ofChange Rows.tariffDiffersSpec)=true:=by kernel_rfl
theorem tariffDiffers_goes:false=Rows.tariffDiffersRow.goesBy Tryz.pinned.checked.prog:=by kernel_rfl
end Go.Proofs.YtkpligkggnjcoaaGreatDoor
