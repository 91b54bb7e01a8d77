/- Parts of the proof, one behind the other: TZ5f. No conditions. -/
import Derived.Test.YtkpligkggnjcoaaGreatDoorTv14
import Derived.Test.YtkpligkggnjcoaaGreatDoorCards
import Derived.SevenTiedAt
/-! TZ5f -/
namespace Go.Proofs.YtkpligkggnjcoaaGreatDoor
open Ev K
open Go.ChangeShapes Go.WideShapes Go.RowKit
set_option maxRecDepth 100000
theorem tariffBills_func:Tryz.pinned.checked.prog.funcNamed Rows.tariffBillsRow.func=some 4:=by kernel_rfl
set_option maxHeartbeats 8000000 in
theorem tariffBills_joined:joinedFacts Tryz.pinned.checked.prog 4 Tryz.f4 Rows.tariffBillsSpec Rows.tariffBillsRow=true:=by
 unfold joinedFacts
 simp only [Bool.and_eq_true]
 repeat' apply And.intro
 all_goals as_aux_lemma=>kernel_rfl
theorem tariffBills_wf:Rows.tariffBillsRow.wfByText (OpenSpec.ofChange Rows.tariffBillsSpec)=true:=by kernel_rfl
theorem tariffBills_goes:false=Rows.tariffBillsRow.goesBy Tryz.pinned.checked.prog:=by kernel_rfl
end Go.Proofs.YtkpligkggnjcoaaGreatDoor
