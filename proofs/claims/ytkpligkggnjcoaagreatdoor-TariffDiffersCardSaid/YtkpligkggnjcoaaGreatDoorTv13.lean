/- Parts of the proof, one behind the other: TZm. No conditions. -/
import Derived.Test.YtkpligkggnjcoaaGreatDoorTv12
import Derived.Test.YtkpligkggnjcoaaGreatDoorRows
import Derived.Test.YtkpligkggnjcoaaGreatDoorCards
import Derived.SevenTiedAt
/-! TZm -/
namespace Go.Proofs.YtkpligkggnjcoaaGreatDoor
theorem main_is:Tryz.pinned.checked.prog.mainIs=some (true,("fcbc0f06cfb0852765b5d314151e6a6b6fa20a409caa56c6c083d63a06688d16":String).toList):=by kernel_rfl
theorem looks_is:true=Tryz.pinned.checked.prog.looks []:=by kernel_rfl
end Go.Proofs.YtkpligkggnjcoaaGreatDoor
