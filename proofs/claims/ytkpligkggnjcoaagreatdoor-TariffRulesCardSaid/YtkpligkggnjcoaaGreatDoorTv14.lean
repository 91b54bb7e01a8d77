/- Parts of the proof, one behind the other: TZ6f. No conditions. -/
import Derived.Test.YtkpligkggnjcoaaGreatDoorTv13
import Derived.Test.YtkpligkggnjcoaaGreatDoorCards
import Derived.SevenTiedAt
/-! TZ6f -/
namespace Go.Proofs.YtkpligkggnjcoaaGreatDoor
open Ev K
open Go.ChangeShapes Go.WideShapes Go.RowKit
set_option maxRecDepth 100000
theorem tariffRules_func:Tryz.pinned.checked.prog.funcNamed Rows.tariffRulesRow.func=some 9:=by kernel_rfl
set_option maxHeartbeats 8000000 in
theorem tariffRules_joined:joinedFacts Tryz.pinned.checked.prog 9 Tryz.f9 Rows.tariffRulesSpec Rows.tariffRulesRow=true:=by
 unfold joinedFacts
 simp only [Bool.and_eq_true]
 repeat' apply And.intro
 all_goals as_aux_lemma=>kernel_rfl
theorem tariffRules_wf:Rows.tariffRulesRow.wfByText (OpenSpec.ofChange Rows.tariffRulesSpec)=true:=by kernel_rfl
theorem tariffRules_goes:false=Rows.tariffRulesRow.goesBy Tryz.pinned.checked.prog:=by kernel_rfl
end Go.Proofs.YtkpligkggnjcoaaGreatDoor
