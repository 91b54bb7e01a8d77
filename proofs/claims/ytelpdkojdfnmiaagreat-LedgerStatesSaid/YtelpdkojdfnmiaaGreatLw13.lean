/- LedgerStates: for every input the law returns true, and the input reads as it did. No conditions. -/
import Derived.Test.YtelpdkojdfnmiaaGreatLw12
import Derived.Test.YtelpdkojdfnmiaaGreatRows
/-! LZb -/
namespace Go.Proofs.YtelpdkojdfnmiaaGreat
open Ev K
open Go.ChangeShapes Go.WideShapes Go.RowKit
set_option maxRecDepth 100000
theorem law_pc (a) : PC P 12 (D_lsts.enc a) (.bool true) := by
 have h := lwSs_eq a
 exact call_of okP tLAm2 h
theorem ownP : ownKnob P.godebug = none := by kernel_rfl
theorem laidP : laidOutB P = true := by kernel_rfl
theorem ub : P.underlying 4 = some .bool := by kernel_rfl
theorem ledgerStates_lifted (os : Os) (started : os.Started) (H : Type) (enc : TypeId × Value → H) :
  ReturnsInHanded {} Tryz.checked os 12 .any (Rows.ledgerStatesSpec.pre6 enc Tryz.prog Tryz.f12 Rows.ledgerStatesRow.domain false) (Rows.ledgerStatesSpec.post enc Tryz.prog Tryz.f12 false true false false) := by
 refine returnsInHanded_of_change (C := Tryz.checked) ownP started (by kernel_rfl) Tryz.func12
  (ChangeSpec.witness6 (enc := enc) (C := Tryz.checked) false ⟨#[], #[.slice none 0 0, .int .i64 0, .agg (Array.replicate 2 (.int .i64 0)), .int .i64 0, .agg #[.int .i64 0, .int .i64 0, .slice none 0 0], .int .u8 0], []⟩ 8 (by kernel_rfl) (by kernel_rfl) (by kernel_rfl) (by kernel_rfl)) ?_
 intro W base args ds gs before hval hW _ _
 refine law_contract (P := Tryz.prog) D_lsts laidP (by kernel_rfl) rfl (fun ds hd => ?_) (fun W' b sp hd => trodAll_mk1 (shut_bool ub true)) (fun W' => ok_one (by kernel_rfl) rfl (okWide_bool_mk ub true)) (fun W base args ds p hval hA => ?_) law_pc W base args ds gs before hval hW
 ·rw [Tryz.params12] at hd
  match ds, hd with
  | [a, b, c, d, e, f], _ => rfl
 ·rw [Tryz.params12] at hA hval
  obtain ⟨v0, vs0, d0, ds0, p0, q0, e0, _, _, h0, r0⟩ := trodAll_cons hA
  obtain ⟨v1, vs1, d1, ds1, p1, q1, e1, _, _, h1, r1⟩ := trodAll_cons r0
  obtain ⟨v2, vs2, d2, ds2, p2, q2, e2, _, _, h2, r2⟩ := trodAll_cons r1
  obtain ⟨v3, vs3, d3, ds3, p3, q3, e3, _, _, h3, r3⟩ := trodAll_cons r2
  obtain ⟨v4, vs4, d4, ds4, p4, q4, e4, _, _, h4, r4⟩ := trodAll_cons r3
  obtain ⟨v5, vs5, d5, ds5, p5, q5, e5, _, _, h5, r5⟩ := trodAll_cons r4
  obtain ⟨e6, _, _⟩ := trodAll_nil r5
  subst e6; subst e5; subst e4; subst e3; subst e2; subst e1
  have ha : args = #[v0, v1, v2, v3, v4, v5] := by apply Array.ext'; exact e0
  subst ha
  exact rdL_cons (rp_items (hval 0 _ v0 rfl rfl) h0) (rdL_cons (rp_int (hval 1 _ v1 rfl rfl) h1) (rdL_cons (rp_span (hval 2 _ v2 rfl rfl) h2) (rdL_cons (rp_int (hval 3 _ v3 rfl rfl) h3) (rdL_cons (rp_stm (hval 4 _ v4 rfl rfl) h4) (rdL_last (rp_u8 (hval 5 _ v5 rfl rfl) h5))))))
theorem ledgerStates_holds : Rows.LedgerStatesSaid :=
  OpenClaim.holds_of_wide 12 Tryz.f12 rfl rfl rfl rfl rfl rfl rfl ⟨rfl, rfl, rfl, rfl, rfl⟩ rfl rfl rfl rfl rfl (by kernel_rfl) Tryz.func12 (by kernel_rfl)
    (of_decide_eq_true (by kernel_rfl)) (by unfold Func.isWrapper; rw [if_neg (of_decide_eq_false (by kernel_rfl))]; exact ⟨rfl, rfl⟩)
    (fun os started H enc _ => ledgerStates_lifted os started H enc)
#print axioms ledgerStates_holds
end Go.Proofs.YtelpdkojdfnmiaaGreat
