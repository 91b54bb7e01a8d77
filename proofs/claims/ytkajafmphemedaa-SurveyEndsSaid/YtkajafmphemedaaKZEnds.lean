/- SurveyEnds: for every input the law returns true, and the input reads as it did. No conditions. -/
import Derived.Test.YtkajafmphemedaaKR
import Derived.Test.YtkajafmphemedaaKT2
import Derived.Test.YtkajafmphemedaaRows
namespace Go.Proofs.Ytkajafmphemedaa
open Ev K
open Go.ChangeShapes Go.WideShapes Go.RowKit
set_option maxRecDepth 100000
theorem lawEnds_pc (a) : PC P 6 (D_lends.enc a) (.bool true) := by
  have h := eq_lawEnds a
  rw [lawEnds_true] at h
  exact call_of okP tKJ1 h
theorem rl_six {H : Type} {enc : TypeId × Value → H} {w : World} {cs : List Value} (h : Cells enc P w (List.replicate 6 (.int .i64)) cs) : RdV w dSix (.agg cs.toArray) := by
  obtain ⟨v0, cs0, rfl, c0, h⟩ := cells_cons h
  obtain ⟨v1, cs1, rfl, c1, h⟩ := cells_cons h
  obtain ⟨v2, cs2, rfl, c2, h⟩ := cells_cons h
  obtain ⟨v3, cs3, rfl, c3, h⟩ := cells_cons h
  obtain ⟨v4, cs4, rfl, c4, h⟩ := cells_cons h
  obtain ⟨v5, cs5, rfl, c5, h⟩ := cells_cons h
  obtain rfl := cells_nil h
  exact rdV_agg (rdL_cons (rd_int c0) (rdL_cons (rd_int c1) (rdL_cons (rd_int c2) (rdL_cons (rd_int c3) (rdL_cons (rd_int c4) (rdL_last (rd_int c5)))))))
theorem ownP : ownKnob P.godebug = none := by kernel_rfl
theorem laidP : laidOutB P = true := by kernel_rfl
theorem ub : P.underlying 4 = some .bool := by kernel_rfl
theorem surveyEnds_lifted (os : Os) (started : os.Started) (H : Type) (enc : TypeId × Value → H) :
    ReturnsInHanded {} Try.checked os 6 .any (Rows.surveyEndsSpec.pre6 enc Try.prog Try.f6 Rows.surveyEndsRow.domain false) (Rows.surveyEndsSpec.post enc Try.prog Try.f6 false true false false) := by
  refine returnsInHanded_of_change (C := Try.checked) ownP started (by kernel_rfl) Try.func6
    (ChangeSpec.witness6 (enc := enc) (C := Try.checked) false ⟨#[], #[.agg #[.slice none 0 0, .slice none 0 0], .agg (Array.replicate 18 (.int .i64 0)), .agg (Array.replicate 6 (.int .i64 0))], []⟩ 8 (by kernel_rfl) (by kernel_rfl) (by kernel_rfl) (by kernel_rfl)) ?_
  intro W base args ds gs before hval hW _ _
  refine law_contract (P := Try.prog) D_lends laidP (by kernel_rfl) rfl (fun ds hd => ?_) (fun W' b sp hd => trodAll_mk1 (shut_bool ub true)) (fun W' => ok_one (by kernel_rfl) rfl (okWide_bool_mk ub true)) (fun W base args ds p hval hA => ?_) lawEnds_pc W base args ds gs before hval hW
  · rw [Try.params6] at hd
    match ds, hd with
    | [a, b, c], _ => rfl
  · rw [Try.params6] at hA hval
    obtain ⟨v0, vs0, d0, ds0, p0, q0, e0, _, _, h0, r0⟩ := trodAll_cons hA
    obtain ⟨v1, vs1, d1, ds1, p1, q1, e1, _, _, h1, r1⟩ := trodAll_cons r0
    obtain ⟨v2, vs2, d2, ds2, p2, q2, e2, _, _, h2, r2⟩ := trodAll_cons r1
    obtain ⟨e3, _, _⟩ := trodAll_nil r2
    subst e3; subst e2; subst e1
    have ha : args = #[v0, v1, v2] := by apply Array.ext'; exact e0
    subst ha
    have k2 : RdV W dSix v2 := by
      obtain ⟨cs, rfl, hc⟩ := param_agg fl_six ag_six (hval 2 _ v2 rfl rfl) h2
      exact rl_six hc
    exact rdL_cons (rp_bulbs (hval 0 _ v0 rfl rfl) h0) (rdL_cons (rp_survey (hval 1 _ v1 rfl rfl) h1) (rdL_last k2))
theorem surveyEnds_holds : Rows.SurveyEndsSaid :=
  OpenClaim.holds_of_wide 6 Try.f6 rfl rfl rfl rfl rfl rfl rfl ⟨rfl, rfl, rfl, rfl, rfl⟩ rfl rfl rfl rfl rfl (by kernel_rfl) Try.func6 (by kernel_rfl)
    (of_decide_eq_true (by kernel_rfl)) (by unfold Func.isWrapper; rw [if_neg (of_decide_eq_false (by kernel_rfl))]; exact ⟨rfl, rfl⟩)
    (fun os started H enc _ => surveyEnds_lifted os started H enc)
#print axioms surveyEnds_holds
end Go.Proofs.Ytkajafmphemedaa
