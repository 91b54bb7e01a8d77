/- How the data of the port's layers read. No conditions. -/
import Derived.Test.YtkajafmphemedaaEvW
import Derived.Test.YtkajafmphemedaaKD
namespace Go.Proofs.Ytkajafmphemedaa
open Ev K
set_option maxRecDepth 100000
section
variable {H : Type} {enc : TypeId × Value → H} {w : World}
theorem fl_hydro : flat P 8 118 = some (List.replicate 3 (.int .i64)) := by kernel_rfl
theorem fl_glass : flat P 8 39 = some (List.replicate 5 (.int .i64)) := by kernel_rfl
theorem fl_knot : flat P 8 113 = some (List.replicate 2 (.int .i64)) := by kernel_rfl
theorem fl_hold : flat P 8 111 = some (List.replicate 4 (.int .i64)) := by kernel_rfl
theorem fl_survey : flat P 8 36 = some (List.replicate 18 (.int .i64)) := by kernel_rfl
theorem fl_bulbs : flat P 8 31 = some [.sl 118, .sl 39] := by kernel_rfl
theorem fl_ship : flat P 8 27 = some [.int .i64, .int .i64, .int .i64, .int .i64, .sl 111, .sl 113, .int .i64, .sl 113, .int .i64, .int .i64, .int .i64] := by kernel_rfl
theorem fl_six : flat P 8 64 = some (List.replicate 6 (.int .i64)) := by kernel_rfl
theorem fl_int : flat P 8 3 = some [.int .i64] := by kernel_rfl
theorem ag_bulbs : aggB P 31 = some true := by kernel_rfl
theorem ag_survey : aggB P 36 = some true := by kernel_rfl
theorem ag_ship : aggB P 27 = some true := by kernel_rfl
theorem ag_int : aggB P 3 = some false := by kernel_rfl
theorem ag_six : aggB P 64 = some true := by kernel_rfl
theorem rx_hydros {v : Value} (h : CellR enc P w (.sl 118) v) : RdV w xHydros v := rd_sl fl_hydro (by kernel_rfl) (by decide) (by decide) h
theorem rx_glasses {v : Value} (h : CellR enc P w (.sl 39) v) : RdV w xGlasses v := rd_sl fl_glass (by kernel_rfl) (by decide) (by decide) h
theorem rx_knots {v : Value} (h : CellR enc P w (.sl 113) v) : RdV w xKnots v := rd_sl fl_knot (by kernel_rfl) (by decide) (by decide) h
theorem rx_holds {v : Value} (h : CellR enc P w (.sl 111) v) : RdV w xHolds v := rd_sl fl_hold (by kernel_rfl) (by decide) (by decide) h
theorem rx_surveys {v : Value} (h : CellR enc P w (.sl 36) v) : RdV w xSurveys v := rd_sl fl_survey (by kernel_rfl) (by decide) (by decide) h
theorem rl_bulbs {cs : List Value} (h : Cells enc P w [.sl 118, .sl 39] cs) : RdL w lBulbs cs := by
  obtain ⟨v0, cs0, rfl, c0, h⟩ := cells_cons h
  obtain ⟨v1, cs1, rfl, c1, h⟩ := cells_cons h
  obtain rfl := cells_nil h
  exact rdL_iso (rdL_cons (rx_hydros c0) (rdL_last (rx_glasses c1)))
theorem rl_survey {cs : List Value} (h : Cells enc P w (List.replicate 18 (.int .i64)) cs) : RdL w lSurvey cs := by
  obtain ⟨v0, cs0, rfl, c0, h⟩ := cells_cons h
  obtain ⟨v1, cs1, rfl, c1, h⟩ := cells_cons h
  obtain ⟨v2, cs2, rfl, c2, h⟩ := cells_cons h
  obtain ⟨v3, cs3, rfl, c3, h⟩ := cells_cons h
  obtain ⟨v4, cs4, rfl, c4, h⟩ := cells_cons h
  obtain ⟨v5, cs5, rfl, c5, h⟩ := cells_cons h
  obtain ⟨v6, cs6, rfl, c6, h⟩ := cells_cons h
  obtain ⟨v7, cs7, rfl, c7, h⟩ := cells_cons h
  obtain ⟨v8, cs8, rfl, c8, h⟩ := cells_cons h
  obtain ⟨v9, cs9, rfl, c9, h⟩ := cells_cons h
  obtain ⟨v10, cs10, rfl, c10, h⟩ := cells_cons h
  obtain ⟨v11, cs11, rfl, c11, h⟩ := cells_cons h
  obtain ⟨v12, cs12, rfl, c12, h⟩ := cells_cons h
  obtain ⟨v13, cs13, rfl, c13, h⟩ := cells_cons h
  obtain ⟨v14, cs14, rfl, c14, h⟩ := cells_cons h
  obtain ⟨v15, cs15, rfl, c15, h⟩ := cells_cons h
  obtain ⟨v16, cs16, rfl, c16, h⟩ := cells_cons h
  obtain ⟨v17, cs17, rfl, c17, h⟩ := cells_cons h
  obtain rfl := cells_nil h
  exact rdL_iso (rdL_cons (rd_int c0) (rdL_cons (rd_int c1) (rdL_cons (rd_int c2) (rdL_cons (rd_int c3) (rdL_cons (rd_int c4) (rdL_cons (rd_int c5) (rdL_cons (rd_int c6) (rdL_cons (rd_int c7) (rdL_cons (rd_int c8) (rdL_cons (rd_int c9) (rdL_cons (rd_int c10) (rdL_cons (rd_int c11) (rdL_cons (rd_int c12) (rdL_cons (rd_int c13) (rdL_cons (rd_int c14) (rdL_cons (rd_int c15) (rdL_cons (rd_int c16) (rdL_last (rd_int c17)))))))))))))))))))
theorem rl_ship {cs : List Value} (h : Cells enc P w [.int .i64, .int .i64, .int .i64, .int .i64, .sl 111, .sl 113, .int .i64, .sl 113, .int .i64, .int .i64, .int .i64] cs) : RdL w lShip cs := by
  obtain ⟨v0, cs0, rfl, c0, h⟩ := cells_cons h
  obtain ⟨v1, cs1, rfl, c1, h⟩ := cells_cons h
  obtain ⟨v2, cs2, rfl, c2, h⟩ := cells_cons h
  obtain ⟨v3, cs3, rfl, c3, h⟩ := cells_cons h
  obtain ⟨v4, cs4, rfl, c4, h⟩ := cells_cons h
  obtain ⟨v5, cs5, rfl, c5, h⟩ := cells_cons h
  obtain ⟨v6, cs6, rfl, c6, h⟩ := cells_cons h
  obtain ⟨v7, cs7, rfl, c7, h⟩ := cells_cons h
  obtain ⟨v8, cs8, rfl, c8, h⟩ := cells_cons h
  obtain ⟨v9, cs9, rfl, c9, h⟩ := cells_cons h
  obtain ⟨v10, cs10, rfl, c10, h⟩ := cells_cons h
  obtain rfl := cells_nil h
  exact rdL_iso (rdL_cons (rd_int c0) (rdL_cons (rd_int c1) (rdL_cons (rd_int c2) (rdL_cons (rd_int c3) (rdL_cons (rx_holds c4) (rdL_cons (rx_knots c5) (rdL_cons (rd_int c6) (rdL_cons (rx_knots c7) (rdL_cons (rd_int c8) (rdL_cons (rd_int c9) (rdL_last (rd_int c10))))))))))))
variable {r : Reach} {b : Nat} {v : Value} {d : DataW H} {p : List MemPlace}
theorem rp_bulbs (hok : Value.okWide P w r b 31 v) (h : DataW.Trod enc P w 0 (fun _ => true) true 31 v d p) : RdV w dBulbs v := by
  obtain ⟨cs, rfl, hc⟩ := param_agg fl_bulbs ag_bulbs hok h
  exact rdV_agg (rl_bulbs hc)
theorem rp_survey (hok : Value.okWide P w r b 36 v) (h : DataW.Trod enc P w 0 (fun _ => true) true 36 v d p) : RdV w dSurvey v := by
  obtain ⟨cs, rfl, hc⟩ := param_agg fl_survey ag_survey hok h
  exact rdV_agg (rl_survey hc)
theorem rp_ship (hok : Value.okWide P w r b 27 v) (h : DataW.Trod enc P w 0 (fun _ => true) true 27 v d p) : RdV w dShip v := by
  obtain ⟨cs, rfl, hc⟩ := param_agg fl_ship ag_ship hok h
  exact rdV_agg (rl_ship hc)
theorem rp_int (hok : Value.okWide P w r b 3 v) (h : DataW.Trod enc P w 0 (fun _ => true) true 3 v d p) : RdV w (dI .i64) v := rd_int (param_cell fl_int ag_int hok h)
end
end Go.Proofs.Ytkajafmphemedaa
