/- Parts of the proof, one behind the other: KY1, KY2, KY3, KU0, KUa, KY4, KY5, KLo1, KLo2, KLo3, KLo4, KLp. No conditions. -/
import Derived.Test.YtjbhooodjmjdkaaGreatRe8
/-! KY1 -/
namespace Go.Proofs.YtjbhooodjmjdkaaGreat
open Ev K
set_option maxRecDepth 100000
def lList : DecL XS := DecL.last xSurveys 0
def D_li1 := DecL.cons dShip (.cons dBulbs (.last (dRow1 1 lList) 0))
def D_li2 := DecL.cons dShip (.cons dBulbs (.last (dRow2 1 lList) 0))
noncomputable def K.svyE (b : Bulbs) (x : XS) (i : Nat) : Option Int := if (check (b, svy x i) != 0) = true then some (check (b, svy x i)) else if decide ((find_lst1 (svy x i) x).2 < (i : Int)) = true then some 6 else none
def S_lia := DecS.mk0 (.skips 4 (.unit (dLp 0 0 0 0) (.skips 5 (.cons xSurveys (.skips 15 (.cons (dRow1 1 lList) (.unit (dIl 1) (.unit (dIl 0) (.skips 11 (.cons xSurveys (.cons (dI .i64) (.last (dI .i64) 21))))))))))))  (.flat 31 lBulbs .nil)
def X_lia := DecX.or (DecX.one .ret [6] (DecS.mk1 (.skips 6 (.last (dI .i64) 57)))) (DecX.one (.exit 3) [4, 26, 27, 28] (DecS.mk0 (.skips 4 (.unit (dLp 0 0 0 0) (.skips 21 (.cons (dRow1 1 lList) (.unit (dIl 1) (.unit (dIl 0) (.tops 35))))))) (.flat 31 lBulbs .nil)))
noncomputable def K.st_lia := loopT1 P BKN112 30 48 121 [42, 10, 4, 40, 26, 27, 28, 41] S_lia X_lia
theorem sl_lia : ∀ s, (K.st_lia) s = T.run (
  .br (decide (Prod.snd (Prod.snd (Prod.snd (Prod.snd (Prod.fst s)))) < Prod.fst (Prod.snd (Prod.snd (Prod.snd (Prod.fst s)))))) (
    .chk (decide ((0 : Int) ≤ Prod.snd (Prod.snd (Prod.snd (Prod.snd (Prod.fst s)))) ∧ Prod.snd (Prod.snd (Prod.snd (Prod.snd (Prod.fst s)))) < (↑(XS.len (Prod.fst (Prod.snd (Prod.snd (Prod.fst s))))) : Int))) <|
    .br (check (Prod.fst (Prod.snd s), svy (Prod.fst (Prod.snd (Prod.snd (Prod.fst s)))) (Int.toNat (Prod.snd (Prod.snd (Prod.snd (Prod.snd (Prod.fst s))))))) != (0 : Int)) (
      .ret (Sum.inr (Sum.inl (check (Prod.fst (Prod.snd s), svy (Prod.fst (Prod.snd (Prod.snd (Prod.fst s)))) (Int.toNat (Prod.snd (Prod.snd (Prod.snd (Prod.snd (Prod.fst s))))))))))) (
      .br (decide (Prod.snd (find_lst1 (svy (Prod.fst (Prod.snd (Prod.snd (Prod.fst s)))) (Int.toNat (Prod.snd (Prod.snd (Prod.snd (Prod.snd (Prod.fst s))))))) (Prod.fst (Prod.fst s))) < Prod.snd (Prod.snd (Prod.snd (Prod.snd (Prod.fst s)))))) (
        .ret (Sum.inr (Sum.inl (6 : Int)))) (
        .ret (Sum.inl ((Prod.fst (Prod.fst s), Prod.fst (Prod.snd (Prod.fst s)), Prod.fst (Prod.snd (Prod.snd (Prod.fst s))), Prod.fst (Prod.snd (Prod.snd (Prod.snd (Prod.fst s)))), IntKind.wrap IntKind.i64 (Prod.snd (Prod.snd (Prod.snd (Prod.snd (Prod.fst s)))) + (1 : Int))), Prod.fst (Prod.snd s), PUnit.unit))))) (
    .ret (Sum.inr (Sum.inr ((Prod.fst (Prod.snd (Prod.fst s)), PUnit.unit), Prod.fst (Prod.snd s), PUnit.unit))))) := fun s => by kernel_rfl
noncomputable def K.L_lia := lim K.st_lia
theorem K.L_lia_eq (x : XS) (d : XS) (b : Bulbs) : K.L_lia ((x, d, x, (len x : Int), 0), b, ()) = some (K.orr Sum.inl (.inr ((d, ()), b, ())) ((List.range (len x)).findSome? (svyE b x))) := by
  have e1 := K.len_le x; have e2 := K.len_le' x
  refine lim_err (fun i => ((x, d, x, (len x : Int), (i : Int)), b, ())) (len x) (svyE b x) Sum.inl (Sum.inr ((d, ()), b, ())) (fun i hi => ?_) ?_
  · rw [sl_lia]
    unfold svyE; simp only [orr_ite2]
    rw [T.run_br, if_pos (by simp only [decide_eq_true_eq]; omega)]
    refine chk_step (by simp only [decide_eq_true_eq]; omega) ?_
    refine br_step (fun _ => rfl) (fun _ => ?_)
    refine br_step (fun _ => rfl) (fun _ => ?_)
    rw [T.run_ret, w64_in (n := (i : Int) + 1) (by omega) (by omega)]; rfl
  · rw [sl_lia]
    simp only [T.run_br, T.run_chk, T.run_ret, decide_eq_true_eq]
    rw [if_neg (by omega)]
noncomputable def BKY11 : Tab := BKN112.addNode 48 121 (nodeE [42, 10, 4, 40, 26, 27, 28, 41] S_lia X_lia (fun s => .obs (K.L_lia s) .ret))
theorem tKY11 : TabOk P BKY11 := TabOk.addLoop (d := 30) okP tKN112 (by kernel_rfl) (by kernel_rfl) (fun s r h => obs_ret h)
def S_lib := DecS.mk0 (.skips 4 (.unit (dLp 0 0 0 0) (.skips 5 (.cons xSurveys (.skips 15 (.cons (dRow2 1 lList) (.unit (dIl 2) (.unit (dIl 0) (.skips 11 (.cons xSurveys (.cons (dI .i64) (.last (dI .i64) 21))))))))))))  (.flat 31 lBulbs .nil)
def X_lib := DecX.or (DecX.one .ret [6] (DecS.mk1 (.skips 6 (.last (dI .i64) 57)))) (DecX.one (.exit 3) [4, 26, 27, 28] (DecS.mk0 (.skips 4 (.unit (dLp 0 0 0 0) (.skips 21 (.cons (dRow2 1 lList) (.unit (dIl 2) (.unit (dIl 0) (.tops 35))))))) (.flat 31 lBulbs .nil)))
noncomputable def K.st_lib := loopT1 P BKY11 30 48 121 [42, 10, 4, 40, 26, 27, 28, 41] S_lib X_lib
theorem sl_lib : ∀ s, (K.st_lib) s = T.run (
  .br (decide (Prod.snd (Prod.snd (Prod.snd (Prod.snd (Prod.fst s)))) < Prod.fst (Prod.snd (Prod.snd (Prod.snd (Prod.fst s)))))) (
    .chk (decide ((0 : Int) ≤ Prod.snd (Prod.snd (Prod.snd (Prod.snd (Prod.fst s)))) ∧ Prod.snd (Prod.snd (Prod.snd (Prod.snd (Prod.fst s)))) < (↑(XS.len (Prod.fst (Prod.snd (Prod.snd (Prod.fst s))))) : Int))) <|
    .br (check (Prod.fst (Prod.snd s), svy (Prod.fst (Prod.snd (Prod.snd (Prod.fst s)))) (Int.toNat (Prod.snd (Prod.snd (Prod.snd (Prod.snd (Prod.fst s))))))) != (0 : Int)) (
      .ret (Sum.inr (Sum.inl (check (Prod.fst (Prod.snd s), svy (Prod.fst (Prod.snd (Prod.snd (Prod.fst s)))) (Int.toNat (Prod.snd (Prod.snd (Prod.snd (Prod.snd (Prod.fst s))))))))))) (
      .br (decide (Prod.snd (find_lst1 (svy (Prod.fst (Prod.snd (Prod.snd (Prod.fst s)))) (Int.toNat (Prod.snd (Prod.snd (Prod.snd (Prod.snd (Prod.fst s))))))) (Prod.fst (Prod.fst s))) < Prod.snd (Prod.snd (Prod.snd (Prod.snd (Prod.fst s)))))) (
        .ret (Sum.inr (Sum.inl (6 : Int)))) (
        .ret (Sum.inl ((Prod.fst (Prod.fst s), Prod.fst (Prod.snd (Prod.fst s)), Prod.fst (Prod.snd (Prod.snd (Prod.fst s))), Prod.fst (Prod.snd (Prod.snd (Prod.snd (Prod.fst s)))), IntKind.wrap IntKind.i64 (Prod.snd (Prod.snd (Prod.snd (Prod.snd (Prod.fst s)))) + (1 : Int))), Prod.fst (Prod.snd s), PUnit.unit))))) (
    .ret (Sum.inr (Sum.inr ((Prod.fst (Prod.snd (Prod.fst s)), PUnit.unit), Prod.fst (Prod.snd s), PUnit.unit))))) := fun s => by kernel_rfl
noncomputable def K.L_lib := lim K.st_lib
theorem K.L_lib_eq (x : XS) (d : XS × XS) (b : Bulbs) : K.L_lib ((x, d, x, (len x : Int), 0), b, ()) = some (K.orr Sum.inl (.inr ((d, ()), b, ())) ((List.range (len x)).findSome? (svyE b x))) := by
  have e1 := K.len_le x; have e2 := K.len_le' x
  refine lim_err (fun i => ((x, d, x, (len x : Int), (i : Int)), b, ())) (len x) (svyE b x) Sum.inl (Sum.inr ((d, ()), b, ())) (fun i hi => ?_) ?_
  · rw [sl_lib]
    unfold svyE; simp only [orr_ite2]
    rw [T.run_br, if_pos (by simp only [decide_eq_true_eq]; omega)]
    refine chk_step (by simp only [decide_eq_true_eq]; omega) ?_
    refine br_step (fun _ => rfl) (fun _ => ?_)
    refine br_step (fun _ => rfl) (fun _ => ?_)
    rw [T.run_ret, w64_in (n := (i : Int) + 1) (by omega) (by omega)]; rfl
  · rw [sl_lib]
    simp only [T.run_br, T.run_chk, T.run_ret, decide_eq_true_eq]
    rw [if_neg (by omega)]
noncomputable def BKY12 : Tab := BKY11.addNode 48 121 (nodeE [42, 10, 4, 40, 26, 27, 28, 41] S_lib X_lib (fun s => .obs (K.L_lib s) .ret))
theorem tKY12 : TabOk P BKY12 := TabOk.addLoop (d := 30) okP tKY11 (by kernel_rfl) (by kernel_rfl) (fun s r h => obs_ret h)
def S_lic := DecS.mk0 (.skips 4 (.unit (dLp 0 0 0 0) (.skips 5 (.cons xSurveys (.skips 15 (.cons (dRow2 1 lList) (.unit (dIl 2) (.unit (dIl 1) (.skips 11 (.cons xSurveys (.cons (dI .i64) (.last (dI .i64) 21))))))))))))  (.flat 31 lBulbs .nil)
def X_lic := DecX.or (DecX.one .ret [6] (DecS.mk1 (.skips 6 (.last (dI .i64) 57)))) (DecX.one (.exit 3) [4, 26, 27, 28] (DecS.mk0 (.skips 4 (.unit (dLp 0 0 0 0) (.skips 21 (.cons (dRow2 1 lList) (.unit (dIl 2) (.unit (dIl 1) (.tops 35))))))) (.flat 31 lBulbs .nil)))
noncomputable def K.st_lic := loopT1 P BKY12 30 48 121 [42, 10, 4, 40, 26, 27, 28, 41] S_lic X_lic
theorem sl_lic : ∀ s, (K.st_lic) s = T.run (
  .br (decide (Prod.snd (Prod.snd (Prod.snd (Prod.snd (Prod.fst s)))) < Prod.fst (Prod.snd (Prod.snd (Prod.snd (Prod.fst s)))))) (
    .chk (decide ((0 : Int) ≤ Prod.snd (Prod.snd (Prod.snd (Prod.snd (Prod.fst s)))) ∧ Prod.snd (Prod.snd (Prod.snd (Prod.snd (Prod.fst s)))) < (↑(XS.len (Prod.fst (Prod.snd (Prod.snd (Prod.fst s))))) : Int))) <|
    .br (check (Prod.fst (Prod.snd s), svy (Prod.fst (Prod.snd (Prod.snd (Prod.fst s)))) (Int.toNat (Prod.snd (Prod.snd (Prod.snd (Prod.snd (Prod.fst s))))))) != (0 : Int)) (
      .ret (Sum.inr (Sum.inl (check (Prod.fst (Prod.snd s), svy (Prod.fst (Prod.snd (Prod.snd (Prod.fst s)))) (Int.toNat (Prod.snd (Prod.snd (Prod.snd (Prod.snd (Prod.fst s))))))))))) (
      .br (decide (Prod.snd (find_lst1 (svy (Prod.fst (Prod.snd (Prod.snd (Prod.fst s)))) (Int.toNat (Prod.snd (Prod.snd (Prod.snd (Prod.snd (Prod.fst s))))))) (Prod.fst (Prod.fst s))) < Prod.snd (Prod.snd (Prod.snd (Prod.snd (Prod.fst s)))))) (
        .ret (Sum.inr (Sum.inl (6 : Int)))) (
        .ret (Sum.inl ((Prod.fst (Prod.fst s), Prod.fst (Prod.snd (Prod.fst s)), Prod.fst (Prod.snd (Prod.snd (Prod.fst s))), Prod.fst (Prod.snd (Prod.snd (Prod.snd (Prod.fst s)))), IntKind.wrap IntKind.i64 (Prod.snd (Prod.snd (Prod.snd (Prod.snd (Prod.fst s)))) + (1 : Int))), Prod.fst (Prod.snd s), PUnit.unit))))) (
    .ret (Sum.inr (Sum.inr ((Prod.fst (Prod.snd (Prod.fst s)), PUnit.unit), Prod.fst (Prod.snd s), PUnit.unit))))) := fun s => by kernel_rfl
noncomputable def K.L_lic := lim K.st_lic
theorem K.L_lic_eq (x : XS) (d : XS × XS) (b : Bulbs) : K.L_lic ((x, d, x, (len x : Int), 0), b, ()) = some (K.orr Sum.inl (.inr ((d, ()), b, ())) ((List.range (len x)).findSome? (svyE b x))) := by
  have e1 := K.len_le x; have e2 := K.len_le' x
  refine lim_err (fun i => ((x, d, x, (len x : Int), (i : Int)), b, ())) (len x) (svyE b x) Sum.inl (Sum.inr ((d, ()), b, ())) (fun i hi => ?_) ?_
  · rw [sl_lic]
    unfold svyE; simp only [orr_ite2]
    rw [T.run_br, if_pos (by simp only [decide_eq_true_eq]; omega)]
    refine chk_step (by simp only [decide_eq_true_eq]; omega) ?_
    refine br_step (fun _ => rfl) (fun _ => ?_)
    refine br_step (fun _ => rfl) (fun _ => ?_)
    rw [T.run_ret, w64_in (n := (i : Int) + 1) (by omega) (by omega)]; rfl
  · rw [sl_lic]
    simp only [T.run_br, T.run_chk, T.run_ret, decide_eq_true_eq]
    rw [if_neg (by omega)]
noncomputable def BKY13 : Tab := BKY12.addNode 48 121 (nodeE [42, 10, 4, 40, 26, 27, 28, 41] S_lic X_lic (fun s => .obs (K.L_lic s) .ret))
theorem tKY13 : TabOk P BKY13 := TabOk.addLoop (d := 30) okP tKY12 (by kernel_rfl) (by kernel_rfl) (fun s r h => obs_ret h)
theorem fn_li1 : ∀ a, (callT1 P BKY13 30 48 D_li1 R_i) a = T.run (
  .br (hullCheck (Prod.fst a) != (0 : Int)) (
    .ret (hullCheck (Prod.fst a))) (
    .br (CheckBulbs (Prod.fst (Prod.snd a)) != (0 : Int)) (
      .ret (CheckBulbs (Prod.fst (Prod.snd a)))) (
      .br ((↑(len (Prod.snd (Prod.snd a))) : Int) == (0 : Int)) (
        .ret ((5 : Int))) (
        .br (decide ((↑(len (Prod.snd (Prod.snd a))) : Int) > (12 : Int))) (
          .ret ((2 : Int))) (
          .obs (L_lia ((Prod.snd (Prod.snd a), Prod.snd (Prod.snd a), Prod.snd (Prod.snd a), (↑(len (Prod.snd (Prod.snd a))) : Int), (0 : Int)), Prod.fst (Prod.snd a), PUnit.unit)) fun x0 =>
            .sum (x0) (fun x1 =>
              .ret (x1)) (fun x1 =>
              .ret ((0 : Int)))))))) := fun a => by kernel_rfl
theorem fn_li2 : ∀ a, (callT1 P BKY13 30 48 D_li2 R_i) a = T.run (
  .br (hullCheck (Prod.fst a) != (0 : Int)) (
    .ret (hullCheck (Prod.fst a))) (
    .br (CheckBulbs (Prod.fst (Prod.snd a)) != (0 : Int)) (
      .ret (CheckBulbs (Prod.fst (Prod.snd a)))) (
      .br ((↑(len (Prod.fst (Prod.snd (Prod.snd a)))) : Int) == (0 : Int)) (
        .ret ((5 : Int))) (
        .br (decide ((↑(len (Prod.fst (Prod.snd (Prod.snd a)))) : Int) > (12 : Int))) (
          .ret ((2 : Int))) (
          .obs (L_lib ((Prod.fst (Prod.snd (Prod.snd a)), Prod.snd (Prod.snd a), Prod.fst (Prod.snd (Prod.snd a)), (↑(len (Prod.fst (Prod.snd (Prod.snd a)))) : Int), (0 : Int)), Prod.fst (Prod.snd a), PUnit.unit)) fun x0 =>
            .sum (x0) (fun x1 =>
              .ret (x1)) (fun x1 =>
              .br ((↑(len (Prod.snd (Prod.fst (Prod.fst x1)))) : Int) == (0 : Int)) (
                .ret ((5 : Int))) (
                .br (decide ((↑(len (Prod.snd (Prod.fst (Prod.fst x1)))) : Int) > (12 : Int))) (
                  .ret ((2 : Int))) (
                  .obs (L_lic ((Prod.snd (Prod.fst (Prod.fst x1)), Prod.fst (Prod.fst x1), Prod.snd (Prod.fst (Prod.fst x1)), (↑(len (Prod.snd (Prod.fst (Prod.fst x1)))) : Int), (0 : Int)), Prod.fst (Prod.snd x1), PUnit.unit)) fun x2 =>
                    .sum (x2) (fun x3 =>
                      .ret (x3)) (fun x3 =>
                      .ret ((0 : Int))))))))))) := fun a => by kernel_rfl
end Go.Proofs.YtjbhooodjmjdkaaGreat
/-! KY2 -/
namespace Go.Proofs.YtjbhooodjmjdkaaGreat
open Ev K
set_option maxRecDepth 100000
noncomputable def K.listO (b : Bulbs) (x : XS) : Option Int := if ((len x : Int) == 0) = true then some 5 else if decide ((len x : Int) > 12) = true then some 2 else (List.range (len x)).findSome? (svyE b x)
noncomputable def K.listed1 (a : Ship × Bulbs × XS) : Int := if (hullCheck a.1 != 0) = true then hullCheck a.1 else if (CheckBulbs a.2.1 != 0) = true then CheckBulbs a.2.1 else K.orr id 0 (listO a.2.1 a.2.2)
noncomputable def K.listed2 (a : Ship × Bulbs × XS × XS) : Int := if (hullCheck a.1 != 0) = true then hullCheck a.1 else if (CheckBulbs a.2.1 != 0) = true then CheckBulbs a.2.1 else K.orr id (K.orr id 0 (listO a.2.1 a.2.2.2)) (listO a.2.1 a.2.2.1)
theorem K.listed1_eq (a : Ship × Bulbs × XS) : callT1 P BKY13 30 48 D_li1 R_i a = some (listed1 a) := by
  rw [fn_li1]; unfold listed1 listO; simp only [orr_ite2]
  refine br_step (fun _ => rfl) (fun _ => ?_)
  refine br_step (fun _ => rfl) (fun _ => ?_)
  refine br_step (fun _ => rfl) (fun _ => ?_)
  refine br_step (fun _ => rfl) (fun _ => ?_)
  rw [L_lia_eq]
  cases (List.range (len a.2.2)).findSome? (svyE a.2.1 a.2.2) <;> rfl
theorem K.listed2_eq (a : Ship × Bulbs × XS × XS) : callT1 P BKY13 30 48 D_li2 R_i a = some (listed2 a) := by
  rw [fn_li2]; unfold listed2 listO; simp only [orr_ite2]
  refine br_step (fun _ => rfl) (fun _ => ?_)
  refine br_step (fun _ => rfl) (fun _ => ?_)
  refine br_step (fun _ => rfl) (fun _ => ?_)
  refine br_step (fun _ => rfl) (fun _ => ?_)
  rw [L_lib_eq]
  cases (List.range (len a.2.2.1)).findSome? (svyE a.2.1 a.2.2.1) with
  | some e => rfl
  | none =>
    simp only [K.orr, T.run_some, T.run_inr]
    refine br_step (fun _ => rfl) (fun _ => ?_)
    refine br_step (fun _ => rfl) (fun _ => ?_)
    rw [L_lic_eq]
    cases (List.range (len a.2.2.2)).findSome? (svyE a.2.1 a.2.2.2) <;> rfl
noncomputable def BKY21 : Tab := BKY13.addCall 48 (callE D_li1 R_i (fun a => .ret (listed1 a)))
theorem tKY21 : TabOk P BKY21 := TabOk.addPC tKY13 (fun a r h => by rw [← ret_some h]; exact call_of okP tKY13 (listed1_eq a))
noncomputable def BKY22 : Tab := BKY21.addCall 48 (callE D_li2 R_i (fun a => .ret (listed2 a)))
theorem tKY22 : TabOk P BKY22 := TabOk.addPC tKY21 (fun a r h => by rw [← ret_some h]; exact call_of okP tKY13 (listed2_eq a))
/-! masses -/
def V_mss : DecL (XS × Ship × Bulbs) := DecL.cons (dP 1 (.last xSurveys 0) 0) (.cons (dP 11 lShip 0) (.last (dP 2 lBulbs 0) 0))
def eMass (p : Int × Span) : List AV := [.int .i64 p.1, dSpan.enc p.2]
def S_mss := DecS.yld (.unit dYv (.skip (.cons (dP 11 lShip 0) (.cons (dP 2 lBulbs 0) (.skips 3 (.cons xSurveys (.cons (dI .i64) (.last (dI .i64) 13)))))))) .nil
def X_mss := DecX.or (DecX.one .ret [] (DecS.yld (.tops 23) .nil)) (DecX.one (.exit 0) [] (DecS.yld (.tops 23) .nil))
noncomputable def K.st_mss := loopT1 P BKY22 30 167 9 [9, 3, 2, 0, 7, 8] S_mss X_mss
theorem sl_mss : ∀ s, (K.st_mss) s = T.run (
  .br (decide (Prod.snd (Prod.snd (Prod.snd (Prod.snd (Prod.fst s)))) < Prod.fst (Prod.snd (Prod.snd (Prod.snd (Prod.fst s)))))) (
    .chk (decide ((0 : Int) ≤ Prod.snd (Prod.snd (Prod.snd (Prod.snd (Prod.fst s)))) ∧ Prod.snd (Prod.snd (Prod.snd (Prod.snd (Prod.fst s)))) < (↑(XS.len (Prod.fst (Prod.snd (Prod.snd (Prod.fst s))))) : Int))) <|
    .chk (massOk (Prod.fst (Prod.fst s)) (svy (Prod.fst (Prod.snd (Prod.snd (Prod.fst s)))) (Int.toNat (Prod.snd (Prod.snd (Prod.snd (Prod.snd (Prod.fst s)))))))) <|
    .br (!Prod.fst (Prod.snd (Prod.snd s)) (List.length (Prod.snd (Prod.snd (Prod.snd s))))) (
      .ret (Sum.inr (Sum.inl (PUnit.unit, PUnit.unit, Prod.fst (Prod.snd (Prod.snd s)), ([AV.int IntKind.i64 (XS.g (Prod.fst (Prod.snd (Prod.snd (Prod.fst s)))) (Int.toNat (Prod.snd (Prod.snd (Prod.snd (Prod.snd (Prod.fst s)))))) (0 : Nat)), AV.agg [AV.int IntKind.i64 (Span.lo (massOf (Prod.fst (Prod.fst s)) (Prod.fst (Prod.snd (Prod.fst s))) (svy (Prod.fst (Prod.snd (Prod.snd (Prod.fst s)))) (Int.toNat (Prod.snd (Prod.snd (Prod.snd (Prod.snd (Prod.fst s))))))))), AV.int IntKind.i64 (Span.hi (massOf (Prod.fst (Prod.fst s)) (Prod.fst (Prod.snd (Prod.fst s))) (svy (Prod.fst (Prod.snd (Prod.snd (Prod.fst s)))) (Int.toNat (Prod.snd (Prod.snd (Prod.snd (Prod.snd (Prod.fst s)))))))))]], Prod.fst (Prod.snd (Prod.snd s)) (List.length (Prod.snd (Prod.snd (Prod.snd s))))) :: Prod.snd (Prod.snd (Prod.snd s)))))) (
      .ret (Sum.inl ((Prod.fst (Prod.fst s), Prod.fst (Prod.snd (Prod.fst s)), Prod.fst (Prod.snd (Prod.snd (Prod.fst s))), Prod.fst (Prod.snd (Prod.snd (Prod.snd (Prod.fst s)))), IntKind.wrap IntKind.i64 (Prod.snd (Prod.snd (Prod.snd (Prod.snd (Prod.fst s)))) + (1 : Int))), PUnit.unit, Prod.fst (Prod.snd (Prod.snd s)), ([AV.int IntKind.i64 (XS.g (Prod.fst (Prod.snd (Prod.snd (Prod.fst s)))) (Int.toNat (Prod.snd (Prod.snd (Prod.snd (Prod.snd (Prod.fst s)))))) (0 : Nat)), AV.agg [AV.int IntKind.i64 (Span.lo (massOf (Prod.fst (Prod.fst s)) (Prod.fst (Prod.snd (Prod.fst s))) (svy (Prod.fst (Prod.snd (Prod.snd (Prod.fst s)))) (Int.toNat (Prod.snd (Prod.snd (Prod.snd (Prod.snd (Prod.fst s))))))))), AV.int IntKind.i64 (Span.hi (massOf (Prod.fst (Prod.fst s)) (Prod.fst (Prod.snd (Prod.fst s))) (svy (Prod.fst (Prod.snd (Prod.snd (Prod.fst s)))) (Int.toNat (Prod.snd (Prod.snd (Prod.snd (Prod.snd (Prod.fst s)))))))))]], Prod.fst (Prod.snd (Prod.snd s)) (List.length (Prod.snd (Prod.snd (Prod.snd s))))) :: Prod.snd (Prod.snd (Prod.snd s)))))) (
    .ret (Sum.inr (Sum.inr (PUnit.unit, PUnit.unit, Prod.snd (Prod.snd s)))))) := fun s => by kernel_rfl
noncomputable def K.L_mss := lim K.st_mss
noncomputable def BKY23 : Tab := BKY22.addNode 167 9 (nodeE [9, 3, 2, 0, 7, 8] S_mss X_mss (fun s => .obs (K.L_mss s) .ret))
theorem tKY23 : TabOk P BKY23 := TabOk.addLoop (d := 30) okP tKY22 (by kernel_rfl) (by kernel_rfl) (fun s r h => obs_ret h)
noncomputable def I_mss (a : XS × Ship × Bulbs) (bs : Nat → Bool) := iterT1 P BKY23 30 167 [] (V_mss.enc a) bs
theorem it_mss : ∀ a bs, (I_mss) a bs = T.run (
  .obs (L_mss ((Prod.fst (Prod.snd a), Prod.snd (Prod.snd a), Prod.fst a, (↑(len (Prod.fst a)) : Int), (0 : Int)), PUnit.unit, bs, [])) fun x0 =>
    .sum (x0) (fun x1 =>
      .ret (List.reverse (Prod.snd (Prod.snd (Prod.snd x1))))) (fun x1 =>
      .ret (List.reverse (Prod.snd (Prod.snd (Prod.snd x1)))))) := fun a bs => by kernel_rfl
end Go.Proofs.YtjbhooodjmjdkaaGreat
/-! KY3 -/
namespace Go.Proofs.YtjbhooodjmjdkaaGreat
open Ev K
set_option maxRecDepth 100000
noncomputable def K.massesL (s : Ship) (b : Bulbs) (x : XS) : List (Int × Span) := (List.range (len x)).map fun i => ((svy x i).id, massOf s b (svy x i))
noncomputable def K.massesOk (s : Ship) (x : XS) : Bool := (List.range (len x)).all fun i => massOk s (svy x i)
theorem K.massesOk_at {s : Ship} {x : XS} (h : massesOk s x = true) {i : Nat} (hi : i < len x) : massOk s (svy x i) = true := List.all_eq_true.1 h i (List.mem_range.2 hi)
section
variable (s : Ship) (b : Bulbs) (x : XS) {bs : Nat → Bool} (ok : massesOk s x = true)
abbrev K.Sm (s : Ship) (b : Bulbs) (x : XS) (bs : Nat → Bool) (i : Nat) (out : List (List AV × Bool)) := ((s, b, x, (len x : Int), (i : Int)), PUnit.unit, bs, out)
noncomputable abbrev K.em (s : Ship) (b : Bulbs) (x : XS) (i : Nat) : List AV := eMass ((svy x i).id, massOf s b (svy x i))
include ok
theorem mss_y (i : Nat) (hi : i < K.len x) (out : List (List AV × Bool)) (hb : bs out.length = true) : st_mss (Sm s b x bs i out) = some (.inl (Sm s b x bs (i + 1) ((em s b x i, true) :: out))) := by
  have e1 := K.len_le x; have e2 := K.len_le' x
  rw [sl_mss]
  refine Eq.trans (T.run_br _ _ _) ?_
  rw [if_pos (by simp only [decide_eq_true_eq]; omega)]
  refine chk_step (by simp only [decide_eq_true_eq]; omega) (chk_step (by rw [Int.toNat_natCast]; exact massesOk_at ok hi) ?_)
  simp only [T.run_br, T.run_ret, hb]
  rw [if_neg (by simp), w64_in (by omega) (by omega)]
  rfl
theorem mss_s (i : Nat) (hi : i < K.len x) (out : List (List AV × Bool)) (hb : bs out.length = false) : st_mss (Sm s b x bs i out) = some (.inr (.inl ((), (), bs, (em s b x i, false) :: out))) := by
  have e1 := K.len_le x; have e2 := K.len_le' x
  rw [sl_mss]
  refine Eq.trans (T.run_br _ _ _) ?_
  rw [if_pos (by simp only [decide_eq_true_eq]; omega)]
  refine chk_step (by simp only [decide_eq_true_eq]; omega) (chk_step (by rw [Int.toNat_natCast]; exact massesOk_at ok hi) ?_)
  simp only [T.run_br, T.run_ret, hb]
  rw [if_pos (by simp)]
  rfl
omit ok in
theorem mss_e (out) : st_mss (Sm s b x bs (K.len x) out) = some (.inr (.inr ((), (), bs, out))) := by
  rw [sl_mss]
  simp only [T.run_br, T.run_chk, T.run_ret, decide_eq_true_eq]
  rw [if_neg (by omega)]
theorem icl_mss : ICL P 167 [] (V_mss.enc (x, s, b)) ((massesL s b x).map eMass) := by
  refine iter_of okP tKY23  (d := 30) ?_ (fun m y hy => ?_)
  · show I_mss (x, s, b) _ = _
    rw [it_mss]
    show T.run (.obs (lim st_mss (Sm s b x _ 0 [])) _) = _
    rw [lim_yields_all (Sm s b x _) (n := K.len x) (fun _ => true) (em s b x) (fun o => Sum.inr ((), (), (fun _ => true), o)) (fun i hi out hp => by cases hp) (fun i hi out hp hb => mss_y s b x ok i hi out hb) (fun out => mss_e s b x out) (fun _ => rfl) (K.len x) 0 [] (by omega)]
    simp only [T.run_some, T.run_inr, T.run_ret, List.append_nil, List.reverse_reverse, massesL, List.map_map, ← List.range_eq_range', filter_all]
    rfl
  · show I_mss (x, s, b) _ = _
    rw [it_mss]
    show T.run (.obs (lim st_mss (Sm s b x _ 0 [])) _) = _
    have hy' : (((List.range' 0 (K.len x)).filter (fun _ => true)).map (em s b x))[m - ([] : List (List AV × Bool)).length]? = some y := by
      rw [← List.range_eq_range']; simpa [massesL, List.map_map, Function.comp_def, filter_all] using hy
    rw [lim_yields_stop (Sm s b x _) (n := K.len x) (fun _ => true) (em s b x) (fun o => Sum.inl ((), (), (fun k => !(Nat.beq k m)), o)) (fun i hi out hp => by cases hp) (fun i hi out hp hb => mss_y s b x ok i hi out hb) (fun i hi out hp hb => mss_s s b x ok i hi out hb) (fun _ => rfl) (K.len x) 0 [] (by omega) (by simp) hy']
    simp only [T.run_some, T.run_inl, T.run_ret, List.append_nil, List.reverse_cons, List.reverse_reverse, List.length_nil, Nat.sub_zero, ← List.range_eq_range', massesL, List.map_map, filter_all]
    rfl
end
def D_mss := DecL.cons (dShip) (.cons (dBulbs) (.last (dX 18 [.int .i64, .int .i64, .int .i64, .int .i64, .int .i64, .int .i64, .int .i64, .int .i64, .int .i64, .int .i64, .int .i64, .int .i64, .int .i64, .int .i64, .int .i64, .int .i64, .int .i64, .int .i64]) 0))
def R_mss := dFn 167 V_mss
theorem fn_mss : ∀ a, (callT1 P BKY23 30 118 D_mss R_mss) a = T.run (
  .ret ((Prod.snd (Prod.snd a), Prod.fst a, Prod.fst (Prod.snd a)))) := fun a => by kernel_rfl
noncomputable def BKY31 : Tab := BKY23.addCall 118 (callE D_mss R_mss (fun a => .ret (a.2.2, a.1, a.2.1)))
theorem tKY31 : TabOk P BKY31 := TabOk.addFn (d := 30) okP tKY23 (fun a r h => by rw [fn_mss]; exact h)
def S_tog := DecS.mk0 (.skips 6 (.unit (dLp 0 0 0 0) (.unit (dLp 1 0 0 0) (.skips 10 (.last R_mss 6))))) (.flat 39 lSpan (.flat 39 lSpan .nil))
noncomputable def K.st_tog := rangeT1 P BKY31 30 50 25 [18, 6, 7] S_tog DecX.no eMass
theorem rg_tog : ∀ s x, (K.st_tog) s x = T.run (
  .ret (Sum.inl (Prod.fst s, Prod.fst (Prod.snd s), meet (Prod.fst (Prod.snd (Prod.snd s))) (Prod.snd x), PUnit.unit))) := fun s x => by kernel_rfl
theorem st_tog_eq (s) (p : Int × Span) : st_tog s p = some (.inl (s.1, s.2.1, meet s.2.2.1 p.2, ())) := by
  rw [rg_tog]; rfl
theorem fold_tog (L : List (Int × Span)) (a : XS × Ship × Bulbs) (r c : Span) : L.foldl (fun (s : (XS × Ship × Bulbs) × Span × Span × Unit) p => (s.1, s.2.1, meet s.2.2.1 p.2, ())) (a, r, c, ()) = (a, r, L.foldl (fun c p => meet c p.2) c, ()) := by
  induction L generalizing c with
  | nil => rfl
  | cons x L ih => simp only [List.foldl_cons]; exact ih _
noncomputable def BKY32 : Tab := BKY31.addNode 50 25 (rangeE [18, 6, 7] S_tog DecX.no (fun s => .chk (massesOk s.1.2.1 s.1.1) (.ret (.inl (s.1, s.2.1, (massesL s.1.2.1 s.1.2.2 s.1.1).foldl (fun c p => meet c p.2) s.2.2.1, ())))))
theorem tKY32 : TabOk P BKY32 := TabOk.addRange (d := 30) (enc := eMass) (L := (fun s => massesL s.1.2.1 s.1.2.2 s.1.1)) okP tKY31 (by kernel_rfl) (by kernel_rfl) (fun s r h => ⟨_, _, _, (by kernel_rfl : _ = some (167, [], V_mss.enc s.1)), icl_mss s.1.2.1 s.1.2.2 s.1.1 (chk_ret h).1⟩) (fun s r h => by have e := (chk_ret h).2; subst e; rw [← fold_tog]; exact foldS_total st_tog_eq _ _)
def D_tog := D_mss
theorem fn_tog : ∀ a, (callT1 P BKY32 30 50 D_tog dSpan) a = T.run (
  .chk (massesOk (Prod.fst a) (Prod.snd (Prod.snd a))) <|
  .ret (List.foldl (fun c p => meet c (Prod.snd p)) (Span.mk (Ship.light (Prod.fst a)) (rooms (Prod.fst a))) (massesL (Prod.fst a) (Prod.fst (Prod.snd a)) (Prod.snd (Prod.snd a))))) := fun a => by kernel_rfl
noncomputable def K.togetherOf (s : Ship) (b : Bulbs) (x : XS) : Span := (massesL s b x).foldl (fun c p => meet c p.2) ⟨s.light, rooms s⟩
noncomputable def BKY33 : Tab := BKY32.addCall 50 (callE D_tog dSpan (fun a => .chk (massesOk a.1 a.2.2) (.ret (togetherOf a.1 a.2.1 a.2.2))))
theorem tKY33 : TabOk P BKY33 := TabOk.addFn (d := 30) okP tKY32 (fun a r h => by rw [fn_tog]; exact h)
theorem fn_Tog : ∀ a, (callT1 P BKY33 30 40 D_tog R_off) a = T.run (
  .br (listed1 a != (0 : Int)) (
    .ret ((Span.mk (0 : Int) (0 : Int), listed1 a))) (
    .chk (massesOk (Prod.fst a) (Prod.snd (Prod.snd a))) <|
    .br (void (togetherOf (Prod.fst a) (Prod.fst (Prod.snd a)) (Prod.snd (Prod.snd a)))) (
      .ret ((Span.mk (0 : Int) (0 : Int), (9 : Int)))) (
      .ret ((togetherOf (Prod.fst a) (Prod.fst (Prod.snd a)) (Prod.snd (Prod.snd a)), (0 : Int)))))) := fun a => by kernel_rfl
end Go.Proofs.YtjbhooodjmjdkaaGreat
/-! KU0 -/
namespace Go.Proofs.YtjbhooodjmjdkaaGreat
open Ev K
set_option maxRecDepth 100000
namespace K
theorem idx_lt {p : Nat → Bool} {n i : Nat} (hi : i < n) (hp : p i = true) : decide (idx p n < (i : Int)) = (first p i).isSome := by
  unfold idx
  cases hf : first p n with
  | none => have := first_none' hf i hi; rw [hp] at this; cases this
  | some j =>
    obtain ⟨h1, h2, h3⟩ := first_spec hf
    have hji : j ≤ i := by
      rcases Nat.lt_or_ge i j with h | h
      · have := h3 i h; rw [hp] at this; cases this
      · exact h
    rcases Nat.lt_or_eq_of_le hji with h | h
    · rw [first_some h h2 h3, decide_eq_true (show (j : Int) < i by omega)]; rfl
    · subst h
      rw [first_none h3, decide_eq_false (show ¬ (j : Int) < j by omega)]; rfl
theorem find_lst1_idx (x : XS) (i : Nat) : (find_lst1 (svy x i) x).2 = idx (fun j => x.g j 0 == x.g i 0) (len x) := by
  unfold find_lst1; rw [found_idx]; rfl
theorem svyE_ne (b : Bulbs) (x : XS) (i : Nat) (e : Int) (h : svyE b x i = some e) : e ≠ 0 := by
  unfold svyE at h
  split at h
  · rename_i hc; injection h with h; subst h; simpa using hc
  split at h
  · injection h with h; omega
  · cases h
structure ListOk (b : Bulbs) (x : XS) : Prop where
  pos : 0 < len x
  le : len x ≤ 12
  each : ∀ i, i < len x → check (b, svy x i) = 0
  apart : ∀ i j, i < len x → j < i → x.g j 0 ≠ x.g i 0
theorem listO_ne (b : Bulbs) (x : XS) (e : Int) (h : listO b x = some e) : e ≠ 0 := by
  unfold listO at h
  split at h
  · injection h with h; omega
  split at h
  · injection h with h; omega
  · exact findSome_ne (svyE_ne b x) e h
theorem listO_ok {b : Bulbs} {x : XS} (h : listO b x = none) : ListOk b x := by
  unfold listO at h
  split at h
  · cases h
  rename_i h1
  split at h
  · cases h
  rename_i h2
  have h1 : ¬ (len x : Int) = 0 := by simpa using h1
  have h2 : ¬ (len x : Int) > 12 := by simpa using h2
  have hn := none_all h
  have he : ∀ i, i < len x → check (b, svy x i) = 0 := fun i hi => by
    have := hn i hi
    unfold svyE at this
    split at this
    · cases this
    · rename_i hc; simpa using hc
  refine ⟨by omega, by omega, he, fun i j hi hj heq => ?_⟩
  have := hn i hi
  unfold svyE at this
  rw [he i hi] at this
  simp only [bne_self_eq_false, Bool.false_eq_true, if_false] at this
  split at this
  · cases this
  rename_i hc
  rw [find_lst1_idx, idx_lt hi (by simp)] at hc
  apply hc
  cases hf : first (fun j => x.g j 0 == x.g i 0) i with
  | some k => rfl
  | none => have := first_none' hf j hj; simp at this; exact absurd heq this
theorem orr_zero' {o : Option Int} (hne : ∀ x, o = some x → x ≠ 0) : K.orr id 0 o = 0 ↔ o = none := ⟨fun h => orr_zero h hne, fun h => by rw [h]; rfl⟩
theorem list_ok {s : Ship} {b : Bulbs} {x : XS} (h : listed1 (s, b, x) = 0) : ShipOk s ∧ CheckBulbs b = 0 ∧ ListOk b x := by
  unfold listed1 at h
  obtain ⟨h1, h⟩ := ite_err h
  obtain ⟨h2, h⟩ := ite_err h
  exact ⟨ship_ok h1, h2, listO_ok ((orr_zero' (listO_ne b x)).1 h)⟩
theorem list2_ok {s : Ship} {b : Bulbs} {x y : XS} (h : listed2 (s, b, x, y) = 0) : ShipOk s ∧ CheckBulbs b = 0 ∧ ListOk b x ∧ ListOk b y := by
  unfold listed2 at h
  obtain ⟨h1, h⟩ := ite_err h
  obtain ⟨h2, h⟩ := ite_err h
  cases hx : listO b x with
  | some e => rw [hx] at h; exact absurd h (listO_ne b x e hx)
  | none => rw [hx] at h; exact ⟨ship_ok h1, h2, listO_ok hx, listO_ok ((orr_zero' (listO_ne b y)).1 h)⟩
theorem svy_ok {b : Bulbs} {x : XS} (l : ListOk b x) {i : Nat} (hi : i < len x) : Good (svy x i) ∧ (density (b, svy x i)).2 = 0 ∧ (extremes (svy x i)).2 = true := check_ok (l.each i hi)
theorem massesOk_is {s : Ship} {b : Bulbs} {x : XS} (hs : ShipOk s) (l : ListOk b x) : massesOk s x = true := by
  unfold massesOk
  rw [List.all_eq_true]
  intro i hi
  obtain ⟨g, d, e⟩ := svy_ok l (List.mem_range.1 hi)
  exact (massOk_is hs g e).1
theorem foldl_same {α β : Type} {f g : β → α → β} : ∀ (l : List α) (a : β), (∀ a x, x ∈ l → f a x = g a x) → l.foldl f a = l.foldl g a
  | [], a, h => rfl
  | x :: l, a, h => by
    rw [List.foldl_cons, List.foldl_cons, h a x (by simp)]
    exact foldl_same l _ (fun a y hy => h a y (by simp [hy]))
def Alike (c d : Span) : Prop := c = d ∨ (void c = true ∧ void d = true)
theorem meet_void {c m : Span} (h : void c = true) : void (meet c m) = true := by
  have h := void_true.1 h
  apply void_true.2
  unfold meet; simp only
  split <;> split <;> omega
theorem fold_alike (ms : List Span) : ∀ {c d : Span}, Alike c d → Alike (ms.foldl meet c) (ms.foldl meet d) := by
  induction ms with
  | nil => intro c d h; exact h
  | cons m ms ih =>
    intro c d h
    simp only [List.foldl_cons]
    apply ih
    rcases h with h | ⟨h1, h2⟩
    · exact .inl (by rw [h])
    · exact .inr ⟨meet_void h1, meet_void h2⟩
theorem meet_again (z l : Span) : meet l (meet z l) = meet z l := by
  unfold meet
  apply Span.ext
  · simp only; split <;> split <;> omega
  · simp only; split <;> split <;> omega
end K
end Go.Proofs.YtjbhooodjmjdkaaGreat
/-! KUa -/
namespace Go.Proofs.YtjbhooodjmjdkaaGreat
open Ev K
set_option maxRecDepth 100000
noncomputable def K.sTog (a : Ship × Bulbs × XS) : Span × Int := if (listed1 a != 0) = true then (⟨0, 0⟩, listed1 a) else if void (togetherOf a.1 a.2.1 a.2.2) = true then (⟨0, 0⟩, 9) else (togetherOf a.1 a.2.1 a.2.2, 0)
theorem K.sTog_eq (a : Ship × Bulbs × XS) : callT1 P BKY33 30 40 D_tog R_off a = some (sTog a) := by
  obtain ⟨s, b, x⟩ := a
  rw [fn_Tog]; unfold sTog
  refine br_step (fun _ => rfl) (fun h => ?_)
  obtain ⟨hs, hb, l⟩ := list_ok (bne_zero h)
  exact chk_step (massesOk_is hs l) (br_step (fun _ => rfl) (fun _ => rfl))
noncomputable def BKUa1 : Tab := BKY33.addCall 40 (callE D_tog R_off (fun a => .ret (sTog a)))
theorem tKUa1 : TabOk P BKUa1 := TabOk.addPC tKY33 (fun a r h => by rw [← ret_some h]; exact call_of okP tKY33 (sTog_eq a))
namespace K
theorem sTog_ok {s : Ship} {b : Bulbs} {x : XS} (h : (sTog (s, b, x)).2 = 0) : ShipOk s ∧ CheckBulbs b = 0 ∧ ListOk b x ∧ void (togetherOf s b x) = false ∧ (sTog (s, b, x)).1 = togetherOf s b x := by
  unfold sTog at h ⊢
  by_cases h1 : (listed1 (s, b, x) != 0) = true
  · rw [if_pos h1] at h; have h : listed1 (s, b, x) = 0 := h; rw [h] at h1; exact absurd h1 (by decide)
  rw [if_neg h1] at h ⊢
  obtain ⟨hs, hb, l⟩ := list_ok (bne_zero h1)
  refine ⟨hs, hb, l, ?_⟩
  by_cases h2 : void (togetherOf s b x) = true
  · rw [if_pos h2] at h; cases h
  rw [if_neg h2]
  exact ⟨by simpa using h2, rfl⟩
end K
noncomputable def BKUa2 : Tab := BKUa1
theorem tKUa2 : TabOk P BKUa2 := tKUa1
def D_list := DecL.last xSurveys 0
theorem fn_list : ∀ a, (callT1 P BKUa2 30 11 D_list dB) a = T.run (
  .br (decide ((↑(len a) : Int) ≤ (5 : Int))) (
    .ret (true)) (
    .br (decide ((↑(len a) : Int) > (12 : Int))) (
      .ret (decide ((↑(len a) : Int) ≤ (20 : Int)))) (
      .ret (false)))) := fun a => by kernel_rfl
noncomputable def K.list (a : XS) : Bool := (if (decide ((↑(len a) : Int) ≤ (5 : Int))) = true then true else (if (decide ((↑(len a) : Int) > (12 : Int))) = true then decide ((↑(len a) : Int) ≤ (20 : Int)) else false))
theorem eq_list (a : XS) : (callT1 P BKUa2 30 11 D_list dB) a = some (K.list a) := (fn_list a).trans (T.br_some rfl (T.br_some rfl rfl))
noncomputable def BKUa3 : Tab := BKUa2.addCall 11 (callE D_list dB (fun a => .ret (K.list a)))
theorem tKUa3 : TabOk P BKUa3 := TabOk.addFn (d := 30) okP tKUa2 (fun a r h => by rw [eq_list]; exact congrArg some (ret_some h))
end Go.Proofs.YtjbhooodjmjdkaaGreat
/-! KY4 -/
namespace Go.Proofs.YtjbhooodjmjdkaaGreat
open Ev K
set_option maxRecDepth 100000
def D_rls := DecL.cons dBulbs (.last xSurveys 0)
def S_rlk := DecS.mk0 (.skip (.cons xSurveys (.unit (dLp 0 0 0 0) (.skips 2 (.cons (dI .i64) (.skip (.last (dI .i64) 37))))))) (.flat 31 lBulbs .nil)
def X_rlk := DecX.or (DecX.one .ret [4] (DecS.mk1 (.skips 4 (.last (dI .i64) 40)))) (DecX.one (.exit 2) [7, 5, 1, 2] S_rlk)
noncomputable def K.st_rlk := loopT1 P BKUa3 30 121 97 [7, 5, 1, 2] S_rlk X_rlk
theorem sl_rlk : ∀ s, (K.st_rlk) s = T.run (
  .br (decide (Prod.snd (Prod.snd (Prod.fst s)) < Prod.fst (Prod.snd (Prod.fst s)))) (
    .chk (decide ((0 : Int) ≤ Prod.snd (Prod.snd (Prod.fst s)) ∧ Prod.snd (Prod.snd (Prod.fst s)) < (↑(XS.len (Prod.fst (Prod.fst s))) : Int))) <|
    .chk (decide ((0 : Int) ≤ Prod.fst (Prod.snd (Prod.fst s)) ∧ Prod.fst (Prod.snd (Prod.fst s)) < (↑(XS.len (Prod.fst (Prod.fst s))) : Int))) <|
    .br (XS.g (Prod.fst (Prod.fst s)) (Int.toNat (Prod.snd (Prod.snd (Prod.fst s)))) (0 : Nat) == XS.g (Prod.fst (Prod.fst s)) (Int.toNat (Prod.fst (Prod.snd (Prod.fst s)))) (0 : Nat)) (
      .ret (Sum.inr (Sum.inl (6 : Int)))) (
      .ret (Sum.inl ((Prod.fst (Prod.fst s), Prod.fst (Prod.snd (Prod.fst s)), IntKind.wrap IntKind.i64 (Prod.snd (Prod.snd (Prod.fst s)) + (1 : Int))), Prod.fst (Prod.snd s), PUnit.unit)))) (
    .ret (Sum.inr (Sum.inr (Prod.fst s, Prod.fst (Prod.snd s), PUnit.unit))))) := fun s => by kernel_rfl
noncomputable def K.L_rlk := lim K.st_rlk
def K.p_rlk (x : XS) (i k : Nat) : Bool := x.g k 0 == x.g i 0
theorem K.L_rlk_eq (x : XS) (b : Bulbs) (i : Nat) (hi : i < len x) : K.L_rlk ((x, (i : Int), 0), b, ()) = some (match first (p_rlk x i) i with | some _ => Sum.inl 6 | none => Sum.inr ((x, (i : Int), (i : Int)), b, ())) := by
  have e1 := K.len_le x; have e2 := K.len_le' x
  refine lim_find (fun k => ((x, (i : Int), (k : Int)), b, ())) i (p_rlk x i) (fun _ => Sum.inl 6) (Sum.inr ((x, (i : Int), (i : Int)), b, ())) (fun k hk hp => ?_) (fun k hk hp => ?_) ?_
  · rw [sl_rlk]; unfold p_rlk at hp
    have c1 : (0 : Int) ≤ k ∧ (k : Int) < x.len := by omega
    have c2 : (0 : Int) ≤ i ∧ (i : Int) < x.len := by omega
    simp only [T.run_br, T.run_chk, T.run_ret, decide_eq_true_eq, Int.toNat_natCast, if_pos c1, if_pos c2]
    rw [if_pos (by omega), if_pos hp]
  · rw [sl_rlk]; unfold p_rlk at hp
    have c1 : (0 : Int) ≤ k ∧ (k : Int) < x.len := by omega
    have c2 : (0 : Int) ≤ i ∧ (i : Int) < x.len := by omega
    simp only [T.run_br, T.run_chk, T.run_ret, decide_eq_true_eq, Int.toNat_natCast, if_pos c1, if_pos c2]
    rw [if_pos (by omega), if_neg (by rw [hp]; decide), w64_in (by omega) (by omega)]; rfl
  · rw [sl_rlk]
    simp only [T.run_br, T.run_chk, T.run_ret, decide_eq_true_eq]
    rw [if_neg (by omega)]
noncomputable def BKY41 : Tab := BKUa3.addNode 121 97 (nodeE [7, 5, 1, 2] S_rlk X_rlk (fun s => .obs (K.L_rlk s) .ret))
theorem tKY41 : TabOk P BKY41 := TabOk.addLoop (d := 30) okP tKUa3 (by kernel_rfl) (by kernel_rfl) (fun s r h => obs_ret h)
def S_rls := DecS.mk0 (.skip (.cons xSurveys (.unit (dLp 0 0 0 0) (.skips 2 (.last (dI .i64) 39))))) (.flat 31 lBulbs .nil)
def X_rls := DecX.or (DecX.one .ret [4] (DecS.mk1 (.skips 4 (.last (dI .i64) 40)))) (DecX.one (.exit 0) [5, 1, 2] S_rls)
noncomputable def K.st_rls := loopT1 P BKY41 30 121 49 [5, 1, 2] S_rls X_rls
theorem sl_rls : ∀ s, (K.st_rls) s = T.run (
  .br (decide (Prod.snd (Prod.fst s) < (↑(len (Prod.fst (Prod.fst s))) : Int))) (
    .chk (decide ((0 : Int) ≤ Prod.snd (Prod.fst s) ∧ Prod.snd (Prod.fst s) < (↑(XS.len (Prod.fst (Prod.fst s))) : Int))) <|
    .br (r_check (Prod.fst (Prod.snd s)) (svy (Prod.fst (Prod.fst s)) (Int.toNat (Prod.snd (Prod.fst s)))) != (0 : Int)) (
      .ret (Sum.inr (Sum.inl (r_check (Prod.fst (Prod.snd s)) (svy (Prod.fst (Prod.fst s)) (Int.toNat (Prod.snd (Prod.fst s)))))))) (
      .obs (L_rlk ((Prod.fst (Prod.fst s), Prod.snd (Prod.fst s), (0 : Int)), Prod.fst (Prod.snd s), PUnit.unit)) fun x0 =>
        .sum (x0) (fun x1 =>
          .ret (Sum.inr (Sum.inl x1))) (fun x1 =>
          .ret (Sum.inl ((Prod.fst (Prod.fst x1), IntKind.wrap IntKind.i64 (Prod.fst (Prod.snd (Prod.fst x1)) + (1 : Int))), Prod.fst (Prod.snd x1), PUnit.unit))))) (
    .ret (Sum.inr (Sum.inr (Prod.fst s, Prod.fst (Prod.snd s), PUnit.unit))))) := fun s => by kernel_rfl
noncomputable def K.L_rls := lim K.st_rls
noncomputable def K.e_rls (b : Bulbs) (x : XS) (i : Nat) : Option Int := if (r_check b (svy x i) != 0) = true then some (r_check b (svy x i)) else if (first (p_rlk x i) i).isSome = true then some 6 else none
theorem K.L_rls_eq (x : XS) (b : Bulbs) : K.L_rls ((x, 0), b, ()) = some (K.orr Sum.inl (.inr ((x, (len x : Int)), b, ())) ((List.range (len x)).findSome? (e_rls b x))) := by
  have e1 := K.len_le x; have e2 := K.len_le' x
  refine lim_err (fun i => ((x, (i : Int)), b, ())) (len x) (e_rls b x) Sum.inl (Sum.inr ((x, (len x : Int)), b, ())) (fun i hi => ?_) ?_
  · rw [sl_rls]
    unfold e_rls; simp only [orr_ite2]
    rw [T.run_br, if_pos (by simp only [decide_eq_true_eq]; omega)]
    refine chk_step (by simp only [decide_eq_true_eq]; omega) ?_
    refine br_step (fun _ => rfl) (fun _ => ?_)
    show T.run (.obs (L_rlk ((x, (i : Int), 0), b, ())) _) = _
    rw [L_rlk_eq x b i hi]
    cases first (p_rlk x i) i with
    | some k => rfl
    | none =>
      simp only [T.run_some, T.run_inr, T.run_ret]
      rw [w64_in (n := (i : Int) + 1) (by omega) (by omega)]; rfl
  · rw [sl_rls]
    simp only [T.run_br, T.run_chk, T.run_ret, decide_eq_true_eq]
    rw [if_neg (by omega)]
noncomputable def BKY42 : Tab := BKY41.addNode 121 49 (nodeE [5, 1, 2] S_rls X_rls (fun s => .obs (K.L_rls s) .ret))
theorem tKY42 : TabOk P BKY42 := TabOk.addLoop (d := 30) okP tKY41 (by kernel_rfl) (by kernel_rfl) (fun s r h => obs_ret h)
theorem fn_rls : ∀ a, (callT1 P BKY42 30 121 D_rls R_i) a = T.run (
  .br ((↑(len (Prod.snd a)) : Int) == (0 : Int)) (
    .ret ((5 : Int))) (
    .br (decide ((↑(len (Prod.snd a)) : Int) > (12 : Int))) (
      .ret ((2 : Int))) (
      .obs (L_rls ((Prod.snd a, (0 : Int)), Prod.fst a, PUnit.unit)) fun x0 =>
        .sum (x0) (fun x1 =>
          .ret (x1)) (fun x1 =>
          .ret ((0 : Int)))))) := fun a => by kernel_rfl
noncomputable def K.r_listO (b : Bulbs) (x : XS) : Option Int := if ((len x : Int) == 0) = true then some 5 else if decide ((len x : Int) > 12) = true then some 2 else (List.range (len x)).findSome? (e_rls b x)
theorem K.r_listed_eq (a : Bulbs × XS) : callT1 P BKY42 30 121 D_rls R_i a = some (K.orr id 0 (r_listO a.1 a.2)) := by
  rw [fn_rls]; unfold r_listO; simp only [orr_ite2]
  refine br_step (fun _ => rfl) (fun _ => ?_)
  refine br_step (fun _ => rfl) (fun _ => ?_)
  rw [L_rls_eq]
  cases (List.range (len a.2)).findSome? (e_rls a.1 a.2) <;> rfl
noncomputable def BKY43 : Tab := BKY42.addCall 121 (callE D_rls R_i (fun a => .ret (K.orr id 0 (r_listO a.1 a.2))))
theorem tKY43 : TabOk P BKY43 := TabOk.addPC tKY42 (fun a r h => by rw [← ret_some h]; exact call_of okP tKY42 (r_listed_eq a))
theorem fn_r_asked : ∀ a, (callT1 P BKY43 30 56 D_mss R_i) a = T.run (
  .br (r_ship (Prod.fst a) != (0 : Int)) (
    .ret (r_ship (Prod.fst a))) (
    .br (r_bulbs (Prod.fst (Prod.snd a)) != (0 : Int)) (
      .ret (r_bulbs (Prod.fst (Prod.snd a)))) (
      .ret (orr (fun a => a) (0 : Int) (r_listO (Prod.fst (Prod.snd a)) (Prod.snd (Prod.snd a))))))) := fun a => by kernel_rfl
noncomputable def K.r_asked (a : Ship × Bulbs × XS) : Int := (if (r_ship (Prod.fst a) != (0 : Int)) = true then r_ship (Prod.fst a) else (if (r_bulbs (Prod.fst (Prod.snd a)) != (0 : Int)) = true then r_bulbs (Prod.fst (Prod.snd a)) else orr (fun a => a) (0 : Int) (r_listO (Prod.fst (Prod.snd a)) (Prod.snd (Prod.snd a)))))
theorem eq_r_asked (a : Ship × Bulbs × XS) : (callT1 P BKY43 30 56 D_mss R_i) a = some (K.r_asked a) := (fn_r_asked a).trans (T.br_some rfl (T.br_some rfl rfl))
noncomputable def BKY44 : Tab := BKY43.addCall 56 (callE D_mss R_i (fun a => .ret (K.r_asked a)))
theorem tKY44 : TabOk P BKY44 := TabOk.addFn (d := 30) okP tKY43 (fun a r h => by rw [eq_r_asked]; exact congrArg some (ret_some h))
/-! together -/
def S_rtg := DecS.mk0 (.skips 2 (.cons xSurveys (.unit (dLp 0 0 0 0) (.unit (dLp 1 0 0 0) (.skip (.unit (dLp 2 0 0 0) (.unit (dLp 3 0 0 0) (.last (dI .i64) 22)))))))) (.flat 27 lShip (.flat 31 lBulbs (.flat 39 lSpan (.flat 39 lSpan .nil))))
def X_rtg := DecX.one (.exit 0) [8, 7, 2, 4, 3, 6] S_rtg
noncomputable def K.st_rtg := loopT1 P BKY44 30 102 25 [8, 7, 2, 4, 3, 6] S_rtg X_rtg
theorem sl_rtg : ∀ s, (K.st_rtg) s = T.run (
  .br (decide (Prod.snd (Prod.fst s) < (↑(len (Prod.fst (Prod.fst s))) : Int))) (
    .chk (decide ((0 : Int) ≤ Prod.snd (Prod.fst s) ∧ Prod.snd (Prod.fst s) < (↑(XS.len (Prod.fst (Prod.fst s))) : Int))) <|
    .chk (r_massOk (Prod.fst (Prod.snd s)) (svy (Prod.fst (Prod.fst s)) (Int.toNat (Prod.snd (Prod.fst s))))) <|
    .ret (Sum.inl ((Prod.fst (Prod.fst s), IntKind.wrap IntKind.i64 (Prod.snd (Prod.fst s) + (1 : Int))), Prod.fst (Prod.snd s), Prod.fst (Prod.snd (Prod.snd s)), Prod.fst (Prod.snd (Prod.snd (Prod.snd s))), r_both (Prod.fst (Prod.snd (Prod.snd (Prod.snd (Prod.snd s)))), r_mass (Prod.fst (Prod.snd s)) (Prod.fst (Prod.snd (Prod.snd s))) (svy (Prod.fst (Prod.fst s)) (Int.toNat (Prod.snd (Prod.fst s))))), PUnit.unit))) (
    .ret (Sum.inr (Prod.fst s, Prod.fst (Prod.snd s), Prod.fst (Prod.snd (Prod.snd s)), Prod.fst (Prod.snd (Prod.snd (Prod.snd s))), Prod.fst (Prod.snd (Prod.snd (Prod.snd (Prod.snd s)))), PUnit.unit)))) := fun s => by kernel_rfl
noncomputable def K.L_rtg := lim K.st_rtg
noncomputable def BKY45 : Tab := BKY44.addNode 102 25 (nodeE [8, 7, 2, 4, 3, 6] S_rtg X_rtg (fun s => .obs (K.L_rtg s) .ret))
theorem tKY45 : TabOk P BKY45 := TabOk.addLoop (d := 30) okP tKY44 (by kernel_rfl) (by kernel_rfl) (fun s r h => obs_ret h)
theorem fn_rtg : ∀ a, (callT1 P BKY45 30 102 D_mss dSpan) a = T.run (
  .chk (decide ((0 : Int) ≤ (0 : Int) ∧ (0 : Int) < (↑(XS.len (Prod.snd (Prod.snd a))) : Int))) <|
  .chk (r_massOk (Prod.fst a) (svy (Prod.snd (Prod.snd a)) (nat_lit 0))) <|
  .obs (L_rtg ((Prod.snd (Prod.snd a), (1 : Int)), Prod.fst a, Prod.fst (Prod.snd a), Span.mk (0 : Int) (0 : Int), r_mass (Prod.fst a) (Prod.fst (Prod.snd a)) (svy (Prod.snd (Prod.snd a)) (nat_lit 0)), PUnit.unit)) fun x0 =>
    .ret (Prod.fst (Prod.snd (Prod.snd (Prod.snd (Prod.snd x0)))))) := fun a => by kernel_rfl
end Go.Proofs.YtjbhooodjmjdkaaGreat
/-! KY5 -/
namespace Go.Proofs.YtjbhooodjmjdkaaGreat
open Ev K
set_option maxRecDepth 100000
noncomputable def K.r_massesOk (s : Ship) (x : XS) : Bool := decide (0 < len x) && (List.range (len x)).all fun i => r_massOk s (svy x i)
noncomputable def K.r_tog (s : Ship) (b : Bulbs) (x : XS) : Span := (List.range (len x - 1)).foldl (fun o i => r_both (o, r_mass s b (svy x (i + 1)))) (r_mass s b (svy x 0))
theorem K.L_rtg_eq (s : Ship) (b : Bulbs) (x : XS) (r m : Span) (ok : r_massesOk s x = true) : K.L_rtg ((x, 1), s, b, r, m, ()) = some ((x, (len x : Int)), s, b, r, (List.range (len x - 1)).foldl (fun o i => r_both (o, r_mass s b (svy x (i + 1)))) m, ()) := by
  have e1 := K.len_le x; have e2 := K.len_le' x
  unfold r_massesOk at ok
  rw [Bool.and_eq_true, decide_eq_true_eq] at ok
  refine lim_fold (fun i m => ((x, ((i + 1 : Nat) : Int)), s, b, r, m, ())) (len x - 1) (fun o i => r_both (o, r_mass s b (svy x (i + 1)))) (fun m => ((x, (len x : Int)), s, b, r, m, ())) (fun i hi a => ?_) (fun a => ?_) m
  · rw [sl_rtg]
    refine Eq.trans (T.run_br _ _ _) ?_
    rw [if_pos (by simp only [decide_eq_true_eq]; omega)]
    refine chk_step (by simp only [decide_eq_true_eq]; omega) (chk_step (List.all_eq_true.1 ok.2 _ (List.mem_range.2 (by simp only [Int.toNat_natCast]; omega))) ?_)
    rw [T.run_ret, w64_in (n := ((i + 1 : Nat) : Int) + 1) (by omega) (by omega)]; rfl
  · rw [sl_rtg]
    simp only [T.run_br, T.run_chk, T.run_ret, decide_eq_true_eq]
    rw [if_neg (by omega), show ((len x - 1 + 1 : Nat) : Int) = (len x : Int) by omega]
theorem K.r_tog_eq (a : Ship × Bulbs × XS) (ok : r_massesOk a.1 a.2.2 = true) : callT1 P BKY45 30 102 D_mss dSpan a = some (r_tog a.1 a.2.1 a.2.2) := by
  have ok' := ok
  unfold r_massesOk at ok'
  rw [Bool.and_eq_true, decide_eq_true_eq] at ok'
  have e2 := K.len_le' a.2.2
  rw [fn_rtg]
  refine chk_step (by simp only [decide_eq_true_eq]; omega) (chk_step (List.all_eq_true.1 ok'.2 _ (List.mem_range.2 ok'.1)) ?_)
  rw [L_rtg_eq _ _ _ _ _ ok]; rfl
noncomputable def BKY51 : Tab := BKY45.addCall 102 (callE D_mss dSpan (fun a => .chk (r_massesOk a.1 a.2.2) (.ret (r_tog a.1 a.2.1 a.2.2))))
theorem tKY51 : TabOk P BKY51 := TabOk.addFn (d := 30) okP tKY45 (fun a r h => by obtain ⟨g, e⟩ := chk_ret h; subst e; exact K.r_tog_eq a g)
theorem fn_rTog : ∀ a, (callT1 P BKY51 30 42 D_mss R_off) a = T.run (
  .br (r_asked a != (0 : Int)) (
    .ret ((Span.mk (0 : Int) (0 : Int), r_asked a))) (
    .chk (r_massesOk (Prod.fst a) (Prod.snd (Prod.snd a))) <|
    .br (r_none (r_tog (Prod.fst a) (Prod.fst (Prod.snd a)) (Prod.snd (Prod.snd a)))) (
      .ret ((Span.mk (0 : Int) (0 : Int), (9 : Int)))) (
      .ret ((r_tog (Prod.fst a) (Prod.fst (Prod.snd a)) (Prod.snd (Prod.snd a)), (0 : Int)))))) := fun a => by kernel_rfl
end Go.Proofs.YtjbhooodjmjdkaaGreat
/-! KLo1 -/
namespace Go.Proofs.YtjbhooodjmjdkaaGreat
open Ev K
set_option maxRecDepth 100000
namespace K
structure LoadL where (holds : List Span) (all : Span)
end K
def lLoadL : DecL LoadL := (DecL.cons (dRows rSpan) (.cons (dI .i64) (.last (dI .i64) 0))).iso (fun p => ⟨p.1, p.2.1, p.2.2⟩) (fun s => (s.holds, s.all.lo, s.all.hi)) (fun _ => rfl)
def dLoadL : Dec LoadL := dAgg lLoadL
def D_int2 := DecL.cons (dI .i64) (.last (dI .i64) 0)
theorem fn_greater : ∀ a, (callT1 P BKY51 30 127 D_int2 (dI .i64)) a = T.run (
  .br (decide (Prod.snd a > Prod.fst a)) (
    .ret (Prod.snd a)) (
    .ret (Prod.fst a))) := fun a => by kernel_rfl
noncomputable def K.greater (a : Int × Int) : Int := (if (decide (Prod.snd a > Prod.fst a)) = true then Prod.snd a else Prod.fst a)
theorem eq_greater (a : Int × Int) : (callT1 P BKY51 30 127 D_int2 (dI .i64)) a = some (K.greater a) := (fn_greater a).trans (T.br_some rfl rfl)
noncomputable def BKLo11 : Tab := BKY51.addCall 127 (callE D_int2 (dI .i64) (fun a => .ret (K.greater a)))
theorem tKLo11 : TabOk P BKLo11 := TabOk.addFn (d := 30) okP tKY51 (fun a r h => by rw [eq_greater]; exact congrArg some (ret_some h))
namespace K
def vI (l : List Int) (i : Nat) : Int := numOf (encF rInt l i 0)
def vS (l : List Span) (i : Nat) : Span := ⟨numOf (encF rSpan l i 0), numOf (encF rSpan l i 1)⟩
theorem vI_get {l : List Int} {i : Nat} (h : i < l.length) : vI l i = l[i] := by unfold vI; rw [encF_at (List.getElem?_eq_getElem h)]; rfl
theorem vS_get {l : List Span} {i : Nat} (h : i < l.length) : vS l i = l[i] := by unfold vS; rw [encF_at (List.getElem?_eq_getElem h)]; rfl
def addL (l : List Int) : Int := (List.range l.length).foldl (fun a i => IntKind.i64.wrap (a + vI l i)) 0
def addS (l : List Span) : Span := (List.range l.length).foldl (fun a i => ⟨IntKind.i64.wrap (a.lo + (vS l i).lo), IntKind.i64.wrap (a.hi + (vS l i).hi)⟩) ⟨0, 0⟩
def valL (f x : List Int) : Int := (List.range f.length).foldl (fun a i => IntKind.i64.wrap (a + IntKind.i64.wrap (vI f i * vI x i))) 0
def colH (s : Ship) (k n : Nat) : List Int := (List.range n).map fun i => s.holds.g i k
theorem colH_length (s : Ship) (k n : Nat) : (colH s k n).length = n := by simp [colH]
theorem colH_succ (s : Ship) (k n : Nat) : colH s k (n + 1) = colH s k n ++ [s.holds.g n k] := by unfold colH; rw [List.range_succ, List.map_append]; rfl
end K
/-! sums -/
def S_sms := DecS.mk0 (.skips 2 (.unit (dLp 0 0 0 0) (.unit (dLp 1 0 0 0) (.skips 2 (.cons (dRows rSpan) (.cons (dI .i64) (.last (dI .i64) 17))))))) (.flat 39 lSpan (.flat 39 lSpan .nil))
def X_sms := DecX.one (.exit 0) [2, 3] (DecS.mk0 (.skips 2 (.unit (dLp 0 0 0 0) (.unit (dLp 1 0 0 0) (.tops 22)))) (.flat 39 lSpan (.flat 39 lSpan .nil)))
noncomputable def K.st_sms := loopT1 P BKLo11 30 150 25 [8, 3, 6, 2, 7] S_sms X_sms
theorem sl_sms : ∀ s, (K.st_sms) s = T.run (
  .br (decide (Prod.snd (Prod.snd (Prod.fst s)) < Prod.fst (Prod.snd (Prod.fst s)))) (
    .chk (decide ((0 : Int) ≤ Prod.snd (Prod.snd (Prod.fst s)) ∧ Prod.snd (Prod.snd (Prod.fst s)) < (↑(List.length (Prod.fst (Prod.fst s))) : Int))) <|
    .ret (Sum.inl ((decF rSpan (List.length (Prod.fst (Prod.fst s))) fun i => encF rSpan (Prod.fst (Prod.fst s)) ((0 : Nat) + i), Prod.fst (Prod.snd (Prod.fst s)), IntKind.wrap IntKind.i64 (Prod.snd (Prod.snd (Prod.fst s)) + (1 : Int))), Prod.fst (Prod.snd s), Span.mk (IntKind.wrap IntKind.i64 (Span.lo (Prod.fst (Prod.snd (Prod.snd s))) + numOf (encF rSpan (Prod.fst (Prod.fst s)) ((0 : Nat) + Int.toNat (Prod.snd (Prod.snd (Prod.fst s)))) (0 : Nat)))) (IntKind.wrap IntKind.i64 (Span.hi (Prod.fst (Prod.snd (Prod.snd s))) + numOf (encF rSpan (Prod.fst (Prod.fst s)) ((0 : Nat) + Int.toNat (Prod.snd (Prod.snd (Prod.fst s)))) (nat_lit 1)))), PUnit.unit))) (
    .ret (Sum.inr (PUnit.unit, Prod.fst (Prod.snd s), Prod.fst (Prod.snd (Prod.snd s)), PUnit.unit)))) := fun s => by kernel_rfl
noncomputable def K.L_sms := lim K.st_sms
noncomputable def BKLo12 : Tab := BKLo11.addNode 150 25 (nodeE [8, 3, 6, 2, 7] S_sms X_sms (fun s => .obs (K.L_sms s) .ret))
theorem tKLo12 : TabOk P BKLo12 := TabOk.addLoop (d := 30) okP tKLo11 (by kernel_rfl) (by kernel_rfl) (fun s r h => obs_ret h)
def D_sms := DecL.last (dRows rSpan) 0
theorem fn_sms : ∀ a, (callT1 P BKLo12 30 150 D_sms dSpan) a = T.run (
  .obs (L_sms ((decF rSpan (List.length a) fun i => encF rSpan a ((0 : Nat) + i), (↑(clampL (List.length a)) : Int), (0 : Int)), Span.mk (0 : Int) (0 : Int), Span.mk (0 : Int) (0 : Int), PUnit.unit)) fun x0 =>
    .ret (Prod.fst (Prod.snd (Prod.snd x0)))) := fun a => by kernel_rfl
/-! sum -/
def S_add := DecS.mk1 (.skips 3 (.cons (dI .i64) (.skips 2 (.cons (dRows rInt) (.cons (dI .i64) (.last (dI .i64) 8))))))
def X_add := DecX.one (.exit 0) [3] (DecS.mk1 (.skips 3 (.last (dI .i64) 13)))
noncomputable def K.st_add := loopT1 P BKLo12 30 63 25 [8, 3, 6, 7] S_add X_add
theorem sl_add : ∀ s, (K.st_add) s = T.run (
  .br (decide (Prod.snd (Prod.snd (Prod.snd s)) < Prod.fst (Prod.snd (Prod.snd s)))) (
    .chk (decide ((0 : Int) ≤ Prod.snd (Prod.snd (Prod.snd s)) ∧ Prod.snd (Prod.snd (Prod.snd s)) < (↑(List.length (Prod.fst (Prod.snd s))) : Int))) <|
    .ret (Sum.inl (IntKind.wrap IntKind.i64 (Prod.fst s + numOf (encF rInt (Prod.fst (Prod.snd s)) ((0 : Nat) + Int.toNat (Prod.snd (Prod.snd (Prod.snd s)))) (0 : Nat))), decF rInt (List.length (Prod.fst (Prod.snd s))) fun i => encF rInt (Prod.fst (Prod.snd s)) ((0 : Nat) + i), Prod.fst (Prod.snd (Prod.snd s)), IntKind.wrap IntKind.i64 (Prod.snd (Prod.snd (Prod.snd s)) + (1 : Int))))) (
    .ret (Sum.inr (Prod.fst s)))) := fun s => by kernel_rfl
noncomputable def K.L_add := lim K.st_add
noncomputable def BKLo13 : Tab := BKLo12.addNode 63 25 (nodeE [8, 3, 6, 7] S_add X_add (fun s => .obs (K.L_add s) .ret))
theorem tKLo13 : TabOk P BKLo13 := TabOk.addLoop (d := 30) okP tKLo12 (by kernel_rfl) (by kernel_rfl) (fun s r h => obs_ret h)
def D_add := DecL.last (dRows rInt) 0
theorem fn_add : ∀ a, (callT1 P BKLo13 30 63 D_add (dI .i64)) a = T.run (
  .obs (L_add ((0 : Int), decF rInt (List.length a) fun i => encF rInt a ((0 : Nat) + i), (↑(clampL (List.length a)) : Int), (0 : Int))) fun x0 =>
    .ret (x0)) := fun a => by kernel_rfl
/-! value -/
def S_vl := DecS.mk1 (.skip (.cons (dRows rInt) (.skips 3 (.cons (dI .i64) (.skips 2 (.cons (dRows rInt) (.cons (dI .i64) (.last (dI .i64) 14))))))))
def X_vl := DecX.one (.exit 0) [5] (DecS.mk1 (.skips 5 (.last (dI .i64) 19)))
noncomputable def K.st_vl := loopT1 P BKLo13 30 128 25 [10, 1, 5, 8, 9] S_vl X_vl
theorem sl_vl : ∀ s, (K.st_vl) s = T.run (
  .br (decide (Prod.snd (Prod.snd (Prod.snd (Prod.snd s))) < Prod.fst (Prod.snd (Prod.snd (Prod.snd s))))) (
    .chk (decide ((0 : Int) ≤ Prod.snd (Prod.snd (Prod.snd (Prod.snd s))) ∧ Prod.snd (Prod.snd (Prod.snd (Prod.snd s))) < (↑(List.length (Prod.fst (Prod.snd (Prod.snd s)))) : Int))) <|
    .chk (decide ((0 : Int) ≤ Prod.snd (Prod.snd (Prod.snd (Prod.snd s))) ∧ Prod.snd (Prod.snd (Prod.snd (Prod.snd s))) < (↑(List.length (Prod.fst s)) : Int))) <|
    .ret (Sum.inl (decF rInt (List.length (Prod.fst s)) fun i => encF rInt (Prod.fst s) ((0 : Nat) + i), IntKind.wrap IntKind.i64 (Prod.fst (Prod.snd s) + IntKind.wrap IntKind.i64 (numOf (encF rInt (Prod.fst (Prod.snd (Prod.snd s))) ((0 : Nat) + Int.toNat (Prod.snd (Prod.snd (Prod.snd (Prod.snd s))))) (0 : Nat)) * numOf (encF rInt (Prod.fst s) ((0 : Nat) + Int.toNat (Prod.snd (Prod.snd (Prod.snd (Prod.snd s))))) (0 : Nat)))), decF rInt (List.length (Prod.fst (Prod.snd (Prod.snd s)))) fun i => encF rInt (Prod.fst (Prod.snd (Prod.snd s))) ((0 : Nat) + i), Prod.fst (Prod.snd (Prod.snd (Prod.snd s))), IntKind.wrap IntKind.i64 (Prod.snd (Prod.snd (Prod.snd (Prod.snd s))) + (1 : Int))))) (
    .ret (Sum.inr (Prod.fst (Prod.snd s))))) := fun s => by kernel_rfl
noncomputable def K.L_vl := lim K.st_vl
noncomputable def BKLo14 : Tab := BKLo13.addNode 128 25 (nodeE [10, 1, 5, 8, 9] S_vl X_vl (fun s => .obs (K.L_vl s) .ret))
theorem tKLo14 : TabOk P BKLo14 := TabOk.addLoop (d := 30) okP tKLo13 (by kernel_rfl) (by kernel_rfl) (fun s r h => obs_ret h)
def D_vl := DecL.cons (dRows rInt) (.last (dRows rInt) 0)
theorem fn_vl : ∀ a, (callT1 P BKLo14 30 128 D_vl (dI .i64)) a = T.run (
  .obs (L_vl (decF rInt (List.length (Prod.snd a)) fun i => encF rInt (Prod.snd a) ((0 : Nat) + i), (0 : Int), decF rInt (List.length (Prod.fst a)) fun i => encF rInt (Prod.fst a) ((0 : Nat) + i), (↑(clampL (List.length (Prod.fst a))) : Int), (0 : Int))) fun x0 =>
    .ret (x0)) := fun a => by kernel_rfl
/-! heights, levers -/
def S_heights := DecS.ghost 3 3 1 [.int .i64] (DecS.mk0 (.skips 3 (.cons (dO 0) (.skips 3 (.cons xHolds (.cons (dI .i64) (.last (dI .i64) 10)))))) (.rows 3 rInt .nil))
def X_heights := DecX.one (.exit 0) [3] (DecS.mk0 (.skips 3 (.last (dO 0) 16)) (.rows 3 rInt .nil))
noncomputable def K.st_heights := loopT1 P BKLo14 30 129 25 [9, 3, 7, 8] S_heights X_heights
theorem sl_heights : ∀ s, (K.st_heights) s = T.run (
  .br (decide (Prod.snd (Prod.snd (Prod.snd (Prod.fst s))) < Prod.fst (Prod.snd (Prod.snd (Prod.fst s))))) (
    .chk (decide ((0 : Int) ≤ Prod.snd (Prod.snd (Prod.snd (Prod.fst s))) ∧ Prod.snd (Prod.snd (Prod.snd (Prod.fst s))) < (↑(XS.len (Prod.fst (Prod.snd (Prod.fst s)))) : Int))) <|
    .chk (decide ((List.length (Prod.fst (Prod.snd s)) + (1 : Nat)) * (8 : Nat) ≤ (140737488355328 : Nat) ∧ List.length (Prod.fst (Prod.snd s)) + (1 : Nat) ≤ nat_lit 9223372036854775807)) <|
    .ret (Sum.inl ((List.length (Prod.fst (Prod.snd s)) + (1 : Nat), Prod.fst (Prod.snd (Prod.fst s)), Prod.fst (Prod.snd (Prod.snd (Prod.fst s))), IntKind.wrap IntKind.i64 (Prod.snd (Prod.snd (Prod.snd (Prod.fst s))) + (1 : Int))), decF rInt (List.length (Prod.fst (Prod.snd s)) + (1 : Nat)) (appG (List.length (Prod.fst (Prod.snd s))) (encF rInt (Prod.fst (Prod.snd s))) fun i k => Option.getD [AV.int IntKind.i64 (XS.g (Prod.fst (Prod.snd (Prod.fst s))) (Int.toNat (Prod.snd (Prod.snd (Prod.snd (Prod.fst s))))) (3 : Nat))][((0 : Nat) + i) * (1 : Nat) + k]? AV.top), PUnit.unit))) (
    .ret (Sum.inr (Prod.fst (Prod.fst s), decF rInt (List.length (Prod.fst (Prod.snd s))) (encF rInt (Prod.fst (Prod.snd s))), PUnit.unit)))) := fun s => by kernel_rfl
noncomputable def K.L_heights := lim K.st_heights
noncomputable def BKLo15 : Tab := BKLo14.addNode 129 25 (nodeE [9, 3, 7, 8] S_heights X_heights (fun s => .obs (K.L_heights s) .ret))
theorem tKLo15 : TabOk P BKLo15 := TabOk.addLoop (d := 30) okP tKLo14 (by kernel_rfl) (by kernel_rfl) (fun s r h => obs_ret h)
theorem fn_heights : ∀ a, (callT1 P BKLo15 30 129 D_ship (dRows rInt)) a = T.run (
  .obs (L_heights (((0 : Nat), Ship.holds a, (↑(len (Ship.holds a)) : Int), (0 : Int)), decF rInt (0 : Nat) fun x x_1 => AV.top, PUnit.unit)) fun x0 =>
    .ret (decF rInt (List.length (Prod.fst (Prod.snd x0))) fun i => encF rInt (Prod.fst (Prod.snd x0)) ((0 : Nat) + i))) := fun a => by kernel_rfl
def S_levers := DecS.ghost 3 3 1 [.int .i64] (DecS.mk0 (.skips 3 (.cons (dO 0) (.skips 3 (.cons xHolds (.cons (dI .i64) (.last (dI .i64) 10)))))) (.rows 3 rInt .nil))
def X_levers := DecX.one (.exit 0) [3] (DecS.mk0 (.skips 3 (.last (dO 0) 16)) (.rows 3 rInt .nil))
noncomputable def K.st_levers := loopT1 P BKLo15 30 161 25 [9, 3, 7, 8] S_levers X_levers
theorem sl_levers : ∀ s, (K.st_levers) s = T.run (
  .br (decide (Prod.snd (Prod.snd (Prod.snd (Prod.fst s))) < Prod.fst (Prod.snd (Prod.snd (Prod.fst s))))) (
    .chk (decide ((0 : Int) ≤ Prod.snd (Prod.snd (Prod.snd (Prod.fst s))) ∧ Prod.snd (Prod.snd (Prod.snd (Prod.fst s))) < (↑(XS.len (Prod.fst (Prod.snd (Prod.fst s)))) : Int))) <|
    .chk (decide ((List.length (Prod.fst (Prod.snd s)) + (1 : Nat)) * (8 : Nat) ≤ (140737488355328 : Nat) ∧ List.length (Prod.fst (Prod.snd s)) + (1 : Nat) ≤ nat_lit 9223372036854775807)) <|
    .ret (Sum.inl ((List.length (Prod.fst (Prod.snd s)) + (1 : Nat), Prod.fst (Prod.snd (Prod.fst s)), Prod.fst (Prod.snd (Prod.snd (Prod.fst s))), IntKind.wrap IntKind.i64 (Prod.snd (Prod.snd (Prod.snd (Prod.fst s))) + (1 : Int))), decF rInt (List.length (Prod.fst (Prod.snd s)) + (1 : Nat)) (appG (List.length (Prod.fst (Prod.snd s))) (encF rInt (Prod.fst (Prod.snd s))) fun i k => Option.getD [AV.int IntKind.i64 (XS.g (Prod.fst (Prod.snd (Prod.fst s))) (Int.toNat (Prod.snd (Prod.snd (Prod.snd (Prod.fst s))))) (2 : Nat))][((0 : Nat) + i) * (1 : Nat) + k]? AV.top), PUnit.unit))) (
    .ret (Sum.inr (Prod.fst (Prod.fst s), decF rInt (List.length (Prod.fst (Prod.snd s))) (encF rInt (Prod.fst (Prod.snd s))), PUnit.unit)))) := fun s => by kernel_rfl
noncomputable def K.L_levers := lim K.st_levers
noncomputable def BKLo16 : Tab := BKLo15.addNode 161 25 (nodeE [9, 3, 7, 8] S_levers X_levers (fun s => .obs (K.L_levers s) .ret))
theorem tKLo16 : TabOk P BKLo16 := TabOk.addLoop (d := 30) okP tKLo15 (by kernel_rfl) (by kernel_rfl) (fun s r h => obs_ret h)
theorem fn_levers : ∀ a, (callT1 P BKLo16 30 161 D_ship (dRows rInt)) a = T.run (
  .obs (L_levers (((0 : Nat), Ship.holds a, (↑(len (Ship.holds a)) : Int), (0 : Int)), decF rInt (0 : Nat) fun x x_1 => AV.top, PUnit.unit)) fun x0 =>
    .ret (decF rInt (List.length (Prod.fst (Prod.snd x0))) fun i => encF rInt (Prod.fst (Prod.snd x0)) ((0 : Nat) + i))) := fun a => by kernel_rfl
end Go.Proofs.YtjbhooodjmjdkaaGreat
/-! KLo2 -/
namespace Go.Proofs.YtjbhooodjmjdkaaGreat
open Ev K
set_option maxRecDepth 100000
namespace K
theorem L_sms_eq (l : List Span) (h : l.length ≤ 1000000) : L_sms ((l, (l.length : Int), 0), ⟨0, 0⟩, ⟨0, 0⟩, ()) = some ((), ⟨0, 0⟩, addS l, ()) := by
  refine lim_fold (fun i a => ((l, (l.length : Int), (i : Int)), (⟨0, 0⟩ : Span), a, ())) l.length (fun a i => (⟨IntKind.i64.wrap (a.lo + (vS l i).lo), IntKind.i64.wrap (a.hi + (vS l i).hi)⟩ : Span)) (fun a => ((), (⟨0, 0⟩ : Span), a, ())) (fun i hi a => ?_) (fun a => ?_) ⟨0, 0⟩
  · rw [sl_sms]
    simp only [T.run_br, T.run_chk, T.run_ret, decide_eq_true_eq, Int.toNat_natCast, decF_encF, Nat.zero_add]
    rw [if_pos (by omega), if_pos (by omega), w64_in (n := (i : Int) + 1) (by omega) (by omega)]; rfl
  · rw [sl_sms]
    simp only [T.run_br, T.run_ret, decide_eq_true_eq]
    rw [if_neg (by omega)]
theorem sms_eq (l : List Span) (h : l.length ≤ 1000000) : callT1 P BKLo12 30 150 D_sms dSpan l = some (addS l) := by
  rw [fn_sms, decF_enc0, clampL_eq (by unfold maxL; omega)]
  rw [L_sms_eq l h]; rfl
theorem L_add_eq (l : List Int) (h : l.length ≤ 1000000) : L_add (0, l, (l.length : Int), 0) = some (addL l) := by
  refine lim_fold (fun i a => (a, l, (l.length : Int), (i : Int))) l.length (fun a i => IntKind.i64.wrap (a + vI l i)) id (fun i hi a => ?_) (fun a => ?_) 0
  · rw [sl_add]
    simp only [T.run_br, T.run_chk, T.run_ret, decide_eq_true_eq, Int.toNat_natCast, decF_encF, Nat.zero_add]
    rw [if_pos (by omega), if_pos (by omega), w64_in (n := (i : Int) + 1) (by omega) (by omega)]; rfl
  · rw [sl_add]
    simp only [T.run_br, T.run_ret, decide_eq_true_eq]
    rw [if_neg (by omega)]; rfl
theorem add_eq (l : List Int) (h : l.length ≤ 1000000) : callT1 P BKLo13 30 63 D_add (dI .i64) l = some (addL l) := by
  rw [fn_add, decF_enc0, clampL_eq (by unfold maxL; omega)]
  rw [L_add_eq l h]; rfl
theorem L_vl_eq (f x : List Int) (h : f.length ≤ 1000000) (hx : f.length ≤ x.length) : L_vl (x, 0, f, (f.length : Int), 0) = some (valL f x) := by
  refine lim_fold (fun i a => (x, a, f, (f.length : Int), (i : Int))) f.length (fun a i => IntKind.i64.wrap (a + IntKind.i64.wrap (vI f i * vI x i))) id (fun i hi a => ?_) (fun a => ?_) 0
  · rw [sl_vl]
    simp only [T.run_br, T.run_chk, T.run_ret, decide_eq_true_eq, Int.toNat_natCast, decF_encF, Nat.zero_add]
    rw [if_pos (by omega), if_pos (by omega), if_pos (by omega), w64_in (n := (i : Int) + 1) (by omega) (by omega)]; rfl
  · rw [sl_vl]
    simp only [T.run_br, T.run_ret, decide_eq_true_eq]
    rw [if_neg (by omega)]; rfl
theorem vl_eq (a : List Int × List Int) (h : a.1.length ≤ 1000000) (hx : a.1.length ≤ a.2.length) : callT1 P BKLo14 30 128 D_vl (dI .i64) a = some (valL a.1 a.2) := by
  rw [fn_vl, decF_enc0, decF_enc0, clampL_eq (by unfold maxL; omega)]
  rw [L_vl_eq a.1 a.2 h hx]; rfl
end K
theorem K.L_heights_eq (s : Ship) (h : len s.holds ≤ 1000000) : K.L_heights ((0, s.holds, (len s.holds : Int), 0), [], ()) = some (len s.holds, colH s 3 (len s.holds), ()) := by
  have e1 := K.len_le s.holds; have e2 := K.len_le' s.holds
  refine lim_all (fun i => ((i, s.holds, (len s.holds : Int), (i : Int)), colH s 3 i, ())) (len s.holds) (fun i hi => ?_) ?_
  · rw [sl_heights]
    simp only [T.run_br, T.run_chk, T.run_ret, decide_eq_true_eq, Int.toNat_natCast, colH_length]
    rw [if_pos (by omega), if_pos (by omega), if_pos (by omega), w64_in (n := (i : Int) + 1) (by omega) (by omega)]
    have := decF_push rInt (colH s 3 i) (fun i_1 k => Option.getD [AV.int IntKind.i64 (XS.g s.holds i 3)][((0 : Nat) + i_1) * (1 : Nat) + k]? AV.top)
    rw [colH_length] at this
    rw [this, colH_succ]; rfl
  · rw [sl_heights]
    simp only [T.run_br, T.run_ret, decide_eq_true_eq, colH_length]
    rw [if_neg (by omega)]
    have := decF_encF rInt (colH s 3 (len s.holds))
    rw [colH_length] at this
    rw [this]
theorem K.heights_eq (s : Ship) (h : len s.holds ≤ 1000000) : callT1 P BKLo15 30 129 D_ship (dRows rInt) s = some (colH s 3 (len s.holds)) := by
  rw [fn_heights]
  show T.run (.obs (L_heights ((0, s.holds, (len s.holds : Int), 0), [], ())) _) = _
  rw [L_heights_eq s h, T.run_some, T.run_ret, decF_enc0]
noncomputable def BKLo21 : Tab := BKLo16.addCall 129 (callE D_ship (dRows rInt) (fun s => .chk (decide (len s.holds ≤ 1000000)) (.ret (K.colH s 3 (len s.holds)))))
theorem tKLo21 : TabOk P BKLo21 := TabOk.addPC tKLo16 (fun a r h => by obtain ⟨g, e⟩ := chk_ret h; subst e; exact call_of okP tKLo15 (K.heights_eq a (by simpa using g)))
theorem K.L_levers_eq (s : Ship) (h : len s.holds ≤ 1000000) : K.L_levers ((0, s.holds, (len s.holds : Int), 0), [], ()) = some (len s.holds, colH s 2 (len s.holds), ()) := by
  have e1 := K.len_le s.holds; have e2 := K.len_le' s.holds
  refine lim_all (fun i => ((i, s.holds, (len s.holds : Int), (i : Int)), colH s 2 i, ())) (len s.holds) (fun i hi => ?_) ?_
  · rw [sl_levers]
    simp only [T.run_br, T.run_chk, T.run_ret, decide_eq_true_eq, Int.toNat_natCast, colH_length]
    rw [if_pos (by omega), if_pos (by omega), if_pos (by omega), w64_in (n := (i : Int) + 1) (by omega) (by omega)]
    have := decF_push rInt (colH s 2 i) (fun i_1 k => Option.getD [AV.int IntKind.i64 (XS.g s.holds i 2)][((0 : Nat) + i_1) * (1 : Nat) + k]? AV.top)
    rw [colH_length] at this
    rw [this, colH_succ]; rfl
  · rw [sl_levers]
    simp only [T.run_br, T.run_ret, decide_eq_true_eq, colH_length]
    rw [if_neg (by omega)]
    have := decF_encF rInt (colH s 2 (len s.holds))
    rw [colH_length] at this
    rw [this]
theorem K.levers_eq (s : Ship) (h : len s.holds ≤ 1000000) : callT1 P BKLo16 30 161 D_ship (dRows rInt) s = some (colH s 2 (len s.holds)) := by
  rw [fn_levers]
  show T.run (.obs (L_levers ((0, s.holds, (len s.holds : Int), 0), [], ())) _) = _
  rw [L_levers_eq s h, T.run_some, T.run_ret, decF_enc0]
noncomputable def BKLo22 : Tab := BKLo21.addCall 161 (callE D_ship (dRows rInt) (fun s => .chk (decide (len s.holds ≤ 1000000)) (.ret (K.colH s 2 (len s.holds)))))
theorem tKLo22 : TabOk P BKLo22 := TabOk.addPC tKLo21 (fun a r h => by obtain ⟨g, e⟩ := chk_ret h; subst e; exact call_of okP tKLo16 (K.levers_eq a (by simpa using g)))
noncomputable def BKLo23 : Tab := BKLo22.addCall 150 (callE D_sms dSpan (fun l => .chk (decide (l.length ≤ 1000000)) (.ret (K.addS l))))
theorem tKLo23 : TabOk P BKLo23 := TabOk.addPC tKLo22 (fun a r h => by obtain ⟨g, e⟩ := chk_ret h; subst e; exact call_of okP tKLo12 (K.sms_eq a (by simpa using g)))
noncomputable def BKLo24 : Tab := BKLo23.addCall 63 (callE D_add (dI .i64) (fun l => .chk (decide (l.length ≤ 1000000)) (.ret (K.addL l))))
theorem tKLo24 : TabOk P BKLo24 := TabOk.addPC tKLo23 (fun a r h => by obtain ⟨g, e⟩ := chk_ret h; subst e; exact call_of okP tKLo13 (K.add_eq a (by simpa using g)))
noncomputable def BKLo25 : Tab := BKLo24.addCall 128 (callE D_vl (dI .i64) (fun a => .chk (decide (a.1.length ≤ 1000000 ∧ a.1.length ≤ a.2.length)) (.ret (K.valL a.1 a.2))))
theorem tKLo25 : TabOk P BKLo25 := TabOk.addPC tKLo24 (fun a r h => by obtain ⟨g, e⟩ := chk_ret h; subst e; have g := of_decide_eq_true g; exact call_of okP tKLo14 (K.vl_eq a g.1 g.2))
def D_ld := DecL.last dLoadL 0
theorem fn_totals : ∀ a, (callT1 P BKLo25 30 101 D_ld dSpan) a = T.run (
  .chk (decide (List.length (decF rSpan (List.length (LoadL.holds a)) fun i => encF rSpan (LoadL.holds a) ((0 : Nat) + i)) ≤ (1000000 : Nat))) <|
  .ret (Span.mk (greater (Span.lo (addS (decF rSpan (List.length (LoadL.holds a)) fun i => encF rSpan (LoadL.holds a) ((0 : Nat) + i))), Span.lo (LoadL.all a))) (if Span.hi (LoadL.all a) < Span.hi (addS (decF rSpan (List.length (LoadL.holds a)) fun i => encF rSpan (LoadL.holds a) ((0 : Nat) + i))) then Span.hi (LoadL.all a) else Span.hi (addS (decF rSpan (List.length (LoadL.holds a)) fun i => encF rSpan (LoadL.holds a) ((0 : Nat) + i)))))) := fun a => by kernel_rfl
noncomputable def K.totals (a : LoadL) : Option (Span) := T.run (
  .chk (decide (List.length (decF rSpan (List.length (LoadL.holds a)) fun i => encF rSpan (LoadL.holds a) ((0 : Nat) + i)) ≤ (1000000 : Nat))) <|
  .ret (Span.mk (greater (Span.lo (addS (decF rSpan (List.length (LoadL.holds a)) fun i => encF rSpan (LoadL.holds a) ((0 : Nat) + i))), Span.lo (LoadL.all a))) (if Span.hi (LoadL.all a) < Span.hi (addS (decF rSpan (List.length (LoadL.holds a)) fun i => encF rSpan (LoadL.holds a) ((0 : Nat) + i))) then Span.hi (LoadL.all a) else Span.hi (addS (decF rSpan (List.length (LoadL.holds a)) fun i => encF rSpan (LoadL.holds a) ((0 : Nat) + i))))))
theorem eq_totals (a : LoadL) : (callT1 P BKLo25 30 101 D_ld dSpan) a = K.totals a := fn_totals a
noncomputable def BKLo26 : Tab := BKLo25.addCall 101 (callE D_ld dSpan (fun a => .obs (K.totals a) .ret))
theorem tKLo26 : TabOk P BKLo26 := TabOk.addFn (d := 30) okP tKLo25 (fun a r h => by rw [eq_totals]; exact obs_ret h)
/-! the value of a table -/
def S_tat := DecS.mk1 (.cons xKnots (.cons (cNum 126) (.skips 5 (.cons (dI .i64) (.last (dI .i64) 10)))))
def X_tat := DecX.or (DecX.one .ret [4] (DecS.mk1 (.skips 4 (.last (dI .i64) 14)))) (DecX.one (.exit 0) [] (DecS.mk1 (.tops 19)))
def K.p_tat (c : Int) (x : XS) (i : Nat) : Bool := decide (IntKind.i64.wrap (x.g i 0 * 40) ≥ c)
theorem sl_tat : ∀ s, (loopT1 P BKLo26 30 125 17 [8, 0, 1, 7] S_tat X_tat) s = T.run (
  .br (decide (Prod.snd (Prod.snd (Prod.snd s)) < Prod.fst (Prod.snd (Prod.snd s)))) (
    .chk (decide ((0 : Int) ≤ Prod.snd (Prod.snd (Prod.snd s)) ∧ Prod.snd (Prod.snd (Prod.snd s)) < (↑(XS.len (Prod.fst s)) : Int))) <|
    .br (decide (IntKind.wrap IntKind.i64 (XS.g (Prod.fst s) (Int.toNat (Prod.snd (Prod.snd (Prod.snd s)))) (0 : Nat) * (40 : Int)) ≥ Prod.fst (Prod.snd s))) (
      .ret (Sum.inr (Sum.inl (Prod.snd (Prod.snd (Prod.snd s)))))) (
      .ret (Sum.inl (Prod.fst s, Prod.fst (Prod.snd s), Prod.fst (Prod.snd (Prod.snd s)), IntKind.wrap IntKind.i64 (Prod.snd (Prod.snd (Prod.snd s)) + (1 : Int)))))) (
    .ret (Sum.inr (Sum.inr PUnit.unit)))) := fun s => by kernel_rfl
noncomputable def K.L_tat := lim (loopT1 P BKLo26 30 125 17 [8, 0, 1, 7] S_tat X_tat)
theorem K.L_tat_eq (x : XS) (c : Int) : K.L_tat (x, c, (K.len x : Int), 0) = some (match first (K.p_tat c x) (K.len x) with | some i => (Sum.inl (i : Int) : Int ⊕ Unit) | none => .inr ()) := by
  have e1 := K.len_le x; have e2 := K.len_le' x
  refine lim_find (fun i => (x, c, (K.len x : Int), (i : Int))) (K.len x) (K.p_tat c x) (fun i => (Sum.inl (i : Int) : Int ⊕ Unit)) (Sum.inr ()) (fun i hi hp => ?_) (fun i hi hp => ?_) ?_
  · rw [sl_tat]; unfold K.p_tat at hp
    simp only [T.run_br, T.run_chk, T.run_ret, decide_eq_true_eq, Int.toNat_natCast]
    rw [if_pos (by omega), if_pos (by omega)]
    rw [if_pos (of_decide_eq_true hp)]
  · rw [sl_tat]; unfold K.p_tat at hp
    simp only [T.run_br, T.run_chk, T.run_ret, decide_eq_true_eq, Int.toNat_natCast]
    rw [if_pos (by omega), if_pos (by omega)]
    rw [if_neg (of_decide_eq_false hp)]
    rw [w64_in (by omega) (by omega)]; simp
  · rw [sl_tat]
    simp only [T.run_br, T.run_chk, T.run_ret, decide_eq_true_eq]
    rw [if_neg (by omega)]
noncomputable def BKLo27 : Tab := BKLo26.addNode 125 17 (nodeE [8, 0, 1, 7] S_tat X_tat (fun s => .obs (K.L_tat s) .ret))
theorem tKLo27 : TabOk P BKLo27 := TabOk.addLoop (d := 30) okP tKLo26 (by kernel_rfl) (by kernel_rfl) (fun s r h => obs_ret h)
def D_tat := DecL.cons xKnots (.last (cNum 126) 0)
theorem fn_tat : ∀ a, (callT1 P BKLo27 30 125 D_tat (dI .i64)) a = T.run (
  .obs (L_tat (Prod.fst a, Prod.snd a, (↑(len (Prod.fst a)) : Int), (0 : Int))) fun x0 =>
    .sum (x0) (fun x1 =>
      .ret (x1)) (fun x1 =>
      .ret ((-1 : Int)))) := fun a => by kernel_rfl
theorem ix_tat (a : XS × Int) : callT1 P BKLo27 30 125 D_tat (dI .i64) a = some (idx (K.p_tat a.2 a.1) (K.len a.1)) := by
  rw [fn_tat]
  show T.run (.obs (K.L_tat (a.1, a.2, (K.len a.1 : Int), 0)) _) = _
  rw [K.L_tat_eq]; unfold idx
  cases first (K.p_tat a.2 a.1) (K.len a.1) <;> rfl
noncomputable def BKLo28 : Tab := BKLo27.addCall 125 (callE D_tat (dI .i64) (fun a => .ret (idx (K.p_tat a.2 a.1) (K.len a.1))))
theorem tKLo28 : TabOk P BKLo28 := TabOk.addFn (d := 30) okP tKLo27 (fun a r h => by rw [ix_tat]; exact congrArg some (ret_some h))
def D_at := DecL.cons dCurve (.last (dI .i64) 0)
theorem fn_tabAt : ∀ a, (callT1 P BKLo28 30 64 D_at (dTup D_int2)) a = T.run (
  .chk (decide ((0 : Int) ≤ idx (p_tat (Prod.snd a) (Curve.knots (Prod.fst a))) (len (Curve.knots (Prod.fst a))) ∧ idx (p_tat (Prod.snd a) (Curve.knots (Prod.fst a))) (len (Curve.knots (Prod.fst a))) < (↑(XS.len (Curve.knots (Prod.fst a))) : Int))) <|
  .br (IntKind.wrap IntKind.i64 (XS.g (Curve.knots (Prod.fst a)) (Int.toNat (idx (p_tat (Prod.snd a) (Curve.knots (Prod.fst a))) (len (Curve.knots (Prod.fst a))))) (0 : Nat) * (40 : Int)) == Prod.snd a) (
    .ret ((XS.g (Curve.knots (Prod.fst a)) (Int.toNat (idx (p_tat (Prod.snd a) (Curve.knots (Prod.fst a))) (len (Curve.knots (Prod.fst a))))) (1 : Nat), (1 : Int)))) (
    .chk (decide ((0 : Int) ≤ IntKind.wrap IntKind.i64 (idx (p_tat (Prod.snd a) (Curve.knots (Prod.fst a))) (len (Curve.knots (Prod.fst a))) - (1 : Int)) ∧ IntKind.wrap IntKind.i64 (idx (p_tat (Prod.snd a) (Curve.knots (Prod.fst a))) (len (Curve.knots (Prod.fst a))) - (1 : Int)) < (↑(XS.len (Curve.knots (Prod.fst a))) : Int))) <|
    .ret ((IntKind.wrap IntKind.i64 (IntKind.wrap IntKind.i64 (XS.g (Curve.knots (Prod.fst a)) (Int.toNat (IntKind.wrap IntKind.i64 (idx (p_tat (Prod.snd a) (Curve.knots (Prod.fst a))) (len (Curve.knots (Prod.fst a))) - (1 : Int)))) (1 : Nat) * IntKind.wrap IntKind.i64 (IntKind.wrap IntKind.i64 (XS.g (Curve.knots (Prod.fst a)) (Int.toNat (idx (p_tat (Prod.snd a) (Curve.knots (Prod.fst a))) (len (Curve.knots (Prod.fst a))))) (0 : Nat) - XS.g (Curve.knots (Prod.fst a)) (Int.toNat (IntKind.wrap IntKind.i64 (idx (p_tat (Prod.snd a) (Curve.knots (Prod.fst a))) (len (Curve.knots (Prod.fst a))) - (1 : Int)))) (0 : Nat)) * (40 : Int))) + IntKind.wrap IntKind.i64 (IntKind.wrap IntKind.i64 (XS.g (Curve.knots (Prod.fst a)) (Int.toNat (idx (p_tat (Prod.snd a) (Curve.knots (Prod.fst a))) (len (Curve.knots (Prod.fst a))))) (1 : Nat) - XS.g (Curve.knots (Prod.fst a)) (Int.toNat (IntKind.wrap IntKind.i64 (idx (p_tat (Prod.snd a) (Curve.knots (Prod.fst a))) (len (Curve.knots (Prod.fst a))) - (1 : Int)))) (1 : Nat)) * IntKind.wrap IntKind.i64 (Prod.snd a - IntKind.wrap IntKind.i64 (XS.g (Curve.knots (Prod.fst a)) (Int.toNat (IntKind.wrap IntKind.i64 (idx (p_tat (Prod.snd a) (Curve.knots (Prod.fst a))) (len (Curve.knots (Prod.fst a))) - (1 : Int)))) (0 : Nat) * (40 : Int))))), IntKind.wrap IntKind.i64 (IntKind.wrap IntKind.i64 (XS.g (Curve.knots (Prod.fst a)) (Int.toNat (idx (p_tat (Prod.snd a) (Curve.knots (Prod.fst a))) (len (Curve.knots (Prod.fst a))))) (0 : Nat) - XS.g (Curve.knots (Prod.fst a)) (Int.toNat (IntKind.wrap IntKind.i64 (idx (p_tat (Prod.snd a) (Curve.knots (Prod.fst a))) (len (Curve.knots (Prod.fst a))) - (1 : Int)))) (0 : Nat)) * (40 : Int)))))) := fun a => by kernel_rfl
noncomputable def K.tabAt (a : Curve × Int) : Option (Int × Int) := T.run (
  .chk (decide ((0 : Int) ≤ idx (p_tat (Prod.snd a) (Curve.knots (Prod.fst a))) (len (Curve.knots (Prod.fst a))) ∧ idx (p_tat (Prod.snd a) (Curve.knots (Prod.fst a))) (len (Curve.knots (Prod.fst a))) < (↑(XS.len (Curve.knots (Prod.fst a))) : Int))) <|
  .br (IntKind.wrap IntKind.i64 (XS.g (Curve.knots (Prod.fst a)) (Int.toNat (idx (p_tat (Prod.snd a) (Curve.knots (Prod.fst a))) (len (Curve.knots (Prod.fst a))))) (0 : Nat) * (40 : Int)) == Prod.snd a) (
    .ret ((XS.g (Curve.knots (Prod.fst a)) (Int.toNat (idx (p_tat (Prod.snd a) (Curve.knots (Prod.fst a))) (len (Curve.knots (Prod.fst a))))) (1 : Nat), (1 : Int)))) (
    .chk (decide ((0 : Int) ≤ IntKind.wrap IntKind.i64 (idx (p_tat (Prod.snd a) (Curve.knots (Prod.fst a))) (len (Curve.knots (Prod.fst a))) - (1 : Int)) ∧ IntKind.wrap IntKind.i64 (idx (p_tat (Prod.snd a) (Curve.knots (Prod.fst a))) (len (Curve.knots (Prod.fst a))) - (1 : Int)) < (↑(XS.len (Curve.knots (Prod.fst a))) : Int))) <|
    .ret ((IntKind.wrap IntKind.i64 (IntKind.wrap IntKind.i64 (XS.g (Curve.knots (Prod.fst a)) (Int.toNat (IntKind.wrap IntKind.i64 (idx (p_tat (Prod.snd a) (Curve.knots (Prod.fst a))) (len (Curve.knots (Prod.fst a))) - (1 : Int)))) (1 : Nat) * IntKind.wrap IntKind.i64 (IntKind.wrap IntKind.i64 (XS.g (Curve.knots (Prod.fst a)) (Int.toNat (idx (p_tat (Prod.snd a) (Curve.knots (Prod.fst a))) (len (Curve.knots (Prod.fst a))))) (0 : Nat) - XS.g (Curve.knots (Prod.fst a)) (Int.toNat (IntKind.wrap IntKind.i64 (idx (p_tat (Prod.snd a) (Curve.knots (Prod.fst a))) (len (Curve.knots (Prod.fst a))) - (1 : Int)))) (0 : Nat)) * (40 : Int))) + IntKind.wrap IntKind.i64 (IntKind.wrap IntKind.i64 (XS.g (Curve.knots (Prod.fst a)) (Int.toNat (idx (p_tat (Prod.snd a) (Curve.knots (Prod.fst a))) (len (Curve.knots (Prod.fst a))))) (1 : Nat) - XS.g (Curve.knots (Prod.fst a)) (Int.toNat (IntKind.wrap IntKind.i64 (idx (p_tat (Prod.snd a) (Curve.knots (Prod.fst a))) (len (Curve.knots (Prod.fst a))) - (1 : Int)))) (1 : Nat)) * IntKind.wrap IntKind.i64 (Prod.snd a - IntKind.wrap IntKind.i64 (XS.g (Curve.knots (Prod.fst a)) (Int.toNat (IntKind.wrap IntKind.i64 (idx (p_tat (Prod.snd a) (Curve.knots (Prod.fst a))) (len (Curve.knots (Prod.fst a))) - (1 : Int)))) (0 : Nat) * (40 : Int))))), IntKind.wrap IntKind.i64 (IntKind.wrap IntKind.i64 (XS.g (Curve.knots (Prod.fst a)) (Int.toNat (idx (p_tat (Prod.snd a) (Curve.knots (Prod.fst a))) (len (Curve.knots (Prod.fst a))))) (0 : Nat) - XS.g (Curve.knots (Prod.fst a)) (Int.toNat (IntKind.wrap IntKind.i64 (idx (p_tat (Prod.snd a) (Curve.knots (Prod.fst a))) (len (Curve.knots (Prod.fst a))) - (1 : Int)))) (0 : Nat)) * (40 : Int))))))
theorem eq_tabAt (a : Curve × Int) : (callT1 P BKLo28 30 64 D_at (dTup D_int2)) a = K.tabAt a := fn_tabAt a
noncomputable def BKLo29 : Tab := BKLo28.addCall 64 (callE D_at (dTup D_int2) (fun a => .obs (K.tabAt a) .ret))
theorem tKLo29 : TabOk P BKLo29 := TabOk.addFn (d := 30) okP tKLo28 (fun a r h => by rw [eq_tabAt]; exact obs_ret h)
def D_spare := DecL.cons dShip (.last (dI .i64) 0)
def D_sl := DecL.cons dShip (.last (dRows rInt) 0)
theorem fn_spare : ∀ a, (callT1 P BKLo29 30 202 D_spare (dTup D_int2)) a = T.run (
  .obs (tabAt (Ship.mc (Prod.fst a), IntKind.wrap IntKind.i64 (Ship.light (Prod.fst a) + Prod.snd a))) fun x0 =>
    .ret ((IntKind.wrap IntKind.i64 (IntKind.wrap IntKind.i64 (Prod.fst x0 - IntKind.wrap IntKind.i64 (IntKind.wrap IntKind.i64 (Curve.err (Ship.mc (Prod.fst a)) + Ship.least (Prod.fst a)) * Prod.snd x0)) * IntKind.wrap IntKind.i64 (Ship.light (Prod.fst a) + Prod.snd a)), Prod.snd x0))) := fun a => by kernel_rfl
noncomputable def K.spare (a : Ship × Int) : Option (Int × Int) := T.run (
  .obs (tabAt (Ship.mc (Prod.fst a), IntKind.wrap IntKind.i64 (Ship.light (Prod.fst a) + Prod.snd a))) fun x0 =>
    .ret ((IntKind.wrap IntKind.i64 (IntKind.wrap IntKind.i64 (Prod.fst x0 - IntKind.wrap IntKind.i64 (IntKind.wrap IntKind.i64 (Curve.err (Ship.mc (Prod.fst a)) + Ship.least (Prod.fst a)) * Prod.snd x0)) * IntKind.wrap IntKind.i64 (Ship.light (Prod.fst a) + Prod.snd a)), Prod.snd x0)))
theorem eq_spare (a : Ship × Int) : (callT1 P BKLo29 30 202 D_spare (dTup D_int2)) a = K.spare a := fn_spare a
noncomputable def BKLo210 : Tab := BKLo29.addCall 202 (callE D_spare (dTup D_int2) (fun a => .obs (K.spare a) .ret))
theorem tKLo210 : TabOk P BKLo210 := TabOk.addFn (d := 30) okP tKLo29 (fun a r h => by rw [eq_spare]; exact obs_ret h)
theorem fn_riseL : ∀ a, (callT1 P BKLo210 30 66 D_sl (dI .i64)) a = T.run (
  .chk (decide (len (Ship.holds (Prod.fst a)) ≤ (1000000 : Nat))) <|
  .chk (decide (List.length (decF rInt (List.length (colH (Prod.fst a) (3 : Nat) (len (Ship.holds (Prod.fst a))))) fun i => encF rInt (colH (Prod.fst a) (3 : Nat) (len (Ship.holds (Prod.fst a)))) ((0 : Nat) + i)) ≤ (1000000 : Nat) ∧ List.length (decF rInt (List.length (colH (Prod.fst a) (3 : Nat) (len (Ship.holds (Prod.fst a))))) fun i => encF rInt (colH (Prod.fst a) (3 : Nat) (len (Ship.holds (Prod.fst a)))) ((0 : Nat) + i)) ≤ List.length (decF rInt (List.length (Prod.snd a)) fun i => encF rInt (Prod.snd a) ((0 : Nat) + i)))) <|
  .ret (IntKind.wrap IntKind.i64 (IntKind.wrap IntKind.i64 (Ship.light (Prod.fst a) * Ship.height (Prod.fst a)) + valL (decF rInt (List.length (colH (Prod.fst a) (3 : Nat) (len (Ship.holds (Prod.fst a))))) fun i => encF rInt (colH (Prod.fst a) (3 : Nat) (len (Ship.holds (Prod.fst a)))) ((0 : Nat) + i)) (decF rInt (List.length (Prod.snd a)) fun i => encF rInt (Prod.snd a) ((0 : Nat) + i))))) := fun a => by kernel_rfl
noncomputable def K.riseL (a : Ship × List Int) : Option (Int) := T.run (
  .chk (decide (len (Ship.holds (Prod.fst a)) ≤ (1000000 : Nat))) <|
  .chk (decide (List.length (decF rInt (List.length (colH (Prod.fst a) (3 : Nat) (len (Ship.holds (Prod.fst a))))) fun i => encF rInt (colH (Prod.fst a) (3 : Nat) (len (Ship.holds (Prod.fst a)))) ((0 : Nat) + i)) ≤ (1000000 : Nat) ∧ List.length (decF rInt (List.length (colH (Prod.fst a) (3 : Nat) (len (Ship.holds (Prod.fst a))))) fun i => encF rInt (colH (Prod.fst a) (3 : Nat) (len (Ship.holds (Prod.fst a)))) ((0 : Nat) + i)) ≤ List.length (decF rInt (List.length (Prod.snd a)) fun i => encF rInt (Prod.snd a) ((0 : Nat) + i)))) <|
  .ret (IntKind.wrap IntKind.i64 (IntKind.wrap IntKind.i64 (Ship.light (Prod.fst a) * Ship.height (Prod.fst a)) + valL (decF rInt (List.length (colH (Prod.fst a) (3 : Nat) (len (Ship.holds (Prod.fst a))))) fun i => encF rInt (colH (Prod.fst a) (3 : Nat) (len (Ship.holds (Prod.fst a)))) ((0 : Nat) + i)) (decF rInt (List.length (Prod.snd a)) fun i => encF rInt (Prod.snd a) ((0 : Nat) + i)))))
theorem eq_riseL (a : Ship × List Int) : (callT1 P BKLo210 30 66 D_sl (dI .i64)) a = K.riseL a := fn_riseL a
noncomputable def BKLo211 : Tab := BKLo210.addCall 66 (callE D_sl (dI .i64) (fun a => .obs (K.riseL a) .ret))
theorem tKLo211 : TabOk P BKLo211 := TabOk.addFn (d := 30) okP tKLo210 (fun a r h => by rw [eq_riseL]; exact obs_ret h)
theorem fn_momentL : ∀ a, (callT1 P BKLo211 30 131 D_sl (dI .i64)) a = T.run (
  .chk (decide (len (Ship.holds (Prod.fst a)) ≤ (1000000 : Nat))) <|
  .chk (decide (List.length (decF rInt (List.length (colH (Prod.fst a) (2 : Nat) (len (Ship.holds (Prod.fst a))))) fun i => encF rInt (colH (Prod.fst a) (2 : Nat) (len (Ship.holds (Prod.fst a)))) ((0 : Nat) + i)) ≤ (1000000 : Nat) ∧ List.length (decF rInt (List.length (colH (Prod.fst a) (2 : Nat) (len (Ship.holds (Prod.fst a))))) fun i => encF rInt (colH (Prod.fst a) (2 : Nat) (len (Ship.holds (Prod.fst a)))) ((0 : Nat) + i)) ≤ List.length (decF rInt (List.length (Prod.snd a)) fun i => encF rInt (Prod.snd a) ((0 : Nat) + i)))) <|
  .ret (IntKind.wrap IntKind.i64 (IntKind.wrap IntKind.i64 (Ship.light (Prod.fst a) * Ship.lever (Prod.fst a)) + valL (decF rInt (List.length (colH (Prod.fst a) (2 : Nat) (len (Ship.holds (Prod.fst a))))) fun i => encF rInt (colH (Prod.fst a) (2 : Nat) (len (Ship.holds (Prod.fst a)))) ((0 : Nat) + i)) (decF rInt (List.length (Prod.snd a)) fun i => encF rInt (Prod.snd a) ((0 : Nat) + i))))) := fun a => by kernel_rfl
noncomputable def K.momentL (a : Ship × List Int) : Option (Int) := T.run (
  .chk (decide (len (Ship.holds (Prod.fst a)) ≤ (1000000 : Nat))) <|
  .chk (decide (List.length (decF rInt (List.length (colH (Prod.fst a) (2 : Nat) (len (Ship.holds (Prod.fst a))))) fun i => encF rInt (colH (Prod.fst a) (2 : Nat) (len (Ship.holds (Prod.fst a)))) ((0 : Nat) + i)) ≤ (1000000 : Nat) ∧ List.length (decF rInt (List.length (colH (Prod.fst a) (2 : Nat) (len (Ship.holds (Prod.fst a))))) fun i => encF rInt (colH (Prod.fst a) (2 : Nat) (len (Ship.holds (Prod.fst a)))) ((0 : Nat) + i)) ≤ List.length (decF rInt (List.length (Prod.snd a)) fun i => encF rInt (Prod.snd a) ((0 : Nat) + i)))) <|
  .ret (IntKind.wrap IntKind.i64 (IntKind.wrap IntKind.i64 (Ship.light (Prod.fst a) * Ship.lever (Prod.fst a)) + valL (decF rInt (List.length (colH (Prod.fst a) (2 : Nat) (len (Ship.holds (Prod.fst a))))) fun i => encF rInt (colH (Prod.fst a) (2 : Nat) (len (Ship.holds (Prod.fst a)))) ((0 : Nat) + i)) (decF rInt (List.length (Prod.snd a)) fun i => encF rInt (Prod.snd a) ((0 : Nat) + i)))))
theorem eq_momentL (a : Ship × List Int) : (callT1 P BKLo211 30 131 D_sl (dI .i64)) a = K.momentL a := fn_momentL a
noncomputable def BKLo212 : Tab := BKLo211.addCall 131 (callE D_sl (dI .i64) (fun a => .obs (K.momentL a) .ret))
theorem tKLo212 : TabOk P BKLo212 := TabOk.addFn (d := 30) okP tKLo211 (fun a r h => by rw [eq_momentL]; exact obs_ret h)
theorem fn_steadyL : ∀ a, (callT1 P BKLo212 30 160 D_sl dB) a = T.run (
  .chk (decide (List.length (decF rInt (List.length (Prod.snd a)) fun i => encF rInt (Prod.snd a) ((0 : Nat) + i)) ≤ (1000000 : Nat))) <|
  .obs (spare (Prod.fst a, K.addL (decF rInt (List.length (Prod.snd a)) fun i => encF rInt (Prod.snd a) ((0 : Nat) + i)))) fun x0 =>
    .obs (riseL (Prod.fst a, decF rInt (List.length (Prod.snd a)) fun i => encF rInt (Prod.snd a) ((0 : Nat) + i))) fun x1 =>
      .ret (decide (Prod.fst x0 ≥ IntKind.wrap IntKind.i64 (x1 * Prod.snd x0)))) := fun a => by kernel_rfl
noncomputable def K.steadyL (a : Ship × List Int) : Option (Bool) := T.run (
  .chk (decide (List.length (decF rInt (List.length (Prod.snd a)) fun i => encF rInt (Prod.snd a) ((0 : Nat) + i)) ≤ (1000000 : Nat))) <|
  .obs (spare (Prod.fst a, K.addL (decF rInt (List.length (Prod.snd a)) fun i => encF rInt (Prod.snd a) ((0 : Nat) + i)))) fun x0 =>
    .obs (riseL (Prod.fst a, decF rInt (List.length (Prod.snd a)) fun i => encF rInt (Prod.snd a) ((0 : Nat) + i))) fun x1 =>
      .ret (decide (Prod.fst x0 ≥ IntKind.wrap IntKind.i64 (x1 * Prod.snd x0))))
theorem eq_steadyL (a : Ship × List Int) : (callT1 P BKLo212 30 160 D_sl dB) a = K.steadyL a := fn_steadyL a
noncomputable def BKLo213 : Tab := BKLo212.addCall 160 (callE D_sl dB (fun a => .obs (K.steadyL a) .ret))
theorem tKLo213 : TabOk P BKLo213 := TabOk.addFn (d := 30) okP tKLo212 (fun a r h => by rw [eq_steadyL]; exact obs_ret h)
theorem fn_below : ∀ a, (callT1 P BKLo213 30 132 D_int2 (dI .i64)) a = T.run (
  .chk (!decide (Prod.snd a = (0 : Int))) <|
  .chk (!decide (Prod.snd a = (0 : Int))) <|
  .chk (!decide (Prod.snd a = (0 : Int))) <|
  .ret (IntKind.wrap IntKind.i64 (Int.tdiv (IntKind.wrap IntKind.i64 (Prod.fst a - Int.tmod (IntKind.wrap IntKind.i64 (Int.tmod (Prod.fst a) (Prod.snd a) + Prod.snd a)) (Prod.snd a))) (Prod.snd a)))) := fun a => by kernel_rfl
noncomputable def K.below (a : Int × Int) : Option (Int) := T.run (
  .chk (!decide (Prod.snd a = (0 : Int))) <|
  .chk (!decide (Prod.snd a = (0 : Int))) <|
  .chk (!decide (Prod.snd a = (0 : Int))) <|
  .ret (IntKind.wrap IntKind.i64 (Int.tdiv (IntKind.wrap IntKind.i64 (Prod.fst a - Int.tmod (IntKind.wrap IntKind.i64 (Int.tmod (Prod.fst a) (Prod.snd a) + Prod.snd a)) (Prod.snd a))) (Prod.snd a))))
theorem eq_below (a : Int × Int) : (callT1 P BKLo213 30 132 D_int2 (dI .i64)) a = K.below a := fn_below a
noncomputable def BKLo214 : Tab := BKLo213.addCall 132 (callE D_int2 (dI .i64) (fun a => .obs (K.below a) .ret))
theorem tKLo214 : TabOk P BKLo214 := TabOk.addFn (d := 30) okP tKLo213 (fun a r h => by rw [eq_below]; exact obs_ret h)
def dDraughts : Dec (Span × Span) := (dAgg (.cons (dI .i64) (.cons (dI .i64) (.cons (dI .i64) (.last (dI .i64) 0))))).iso (fun p => (⟨p.1, p.2.1⟩, ⟨p.2.2.1, p.2.2.2⟩)) (fun s => (s.1.lo, s.1.hi, s.2.lo, s.2.hi)) (fun _ => rfl)
theorem fn_afloat : ∀ a, (callT1 P BKLo214 30 67 D_sl dDraughts) a = T.run (
  .chk (decide (List.length (decF rInt (List.length (Prod.snd a)) fun i => encF rInt (Prod.snd a) ((0 : Nat) + i)) ≤ (1000000 : Nat))) <|
  .obs (tabAt (Ship.mean (Prod.fst a), IntKind.wrap IntKind.i64 (Ship.light (Prod.fst a) + K.addL (decF rInt (List.length (Prod.snd a)) fun i => encF rInt (Prod.snd a) ((0 : Nat) + i))))) fun x0 =>
    .obs (momentL (Prod.fst a, decF rInt (List.length (Prod.snd a)) fun i => encF rInt (Prod.snd a) ((0 : Nat) + i))) fun x1 =>
      .obs (below (IntKind.wrap IntKind.i64 (IntKind.wrap IntKind.i64 (IntKind.wrap IntKind.i64 (Prod.fst x0 * (2 : Int)) * Ship.turn (Prod.fst a)) + IntKind.wrap IntKind.i64 (IntKind.wrap IntKind.i64 ((1 : Int) * x1) * Prod.snd x0)), IntKind.wrap IntKind.i64 (IntKind.wrap IntKind.i64 (Prod.snd x0 * (2 : Int)) * Ship.turn (Prod.fst a)))) fun x2 =>
        .obs (below (IntKind.wrap IntKind.i64 ((0 : Int) - IntKind.wrap IntKind.i64 (IntKind.wrap IntKind.i64 (IntKind.wrap IntKind.i64 (Prod.fst x0 * (2 : Int)) * Ship.turn (Prod.fst a)) + IntKind.wrap IntKind.i64 (IntKind.wrap IntKind.i64 ((1 : Int) * x1) * Prod.snd x0))), IntKind.wrap IntKind.i64 (IntKind.wrap IntKind.i64 (Prod.snd x0 * (2 : Int)) * Ship.turn (Prod.fst a)))) fun x3 =>
          .obs (momentL (Prod.fst a, decF rInt (List.length (Prod.snd a)) fun i => encF rInt (Prod.snd a) ((0 : Nat) + i))) fun x4 =>
            .obs (below (IntKind.wrap IntKind.i64 (IntKind.wrap IntKind.i64 (IntKind.wrap IntKind.i64 (Prod.fst x0 * (2 : Int)) * Ship.turn (Prod.fst a)) + IntKind.wrap IntKind.i64 (IntKind.wrap IntKind.i64 ((-1 : Int) * x4) * Prod.snd x0)), IntKind.wrap IntKind.i64 (IntKind.wrap IntKind.i64 (Prod.snd x0 * (2 : Int)) * Ship.turn (Prod.fst a)))) fun x5 =>
              .obs (below (IntKind.wrap IntKind.i64 ((0 : Int) - IntKind.wrap IntKind.i64 (IntKind.wrap IntKind.i64 (IntKind.wrap IntKind.i64 (Prod.fst x0 * (2 : Int)) * Ship.turn (Prod.fst a)) + IntKind.wrap IntKind.i64 (IntKind.wrap IntKind.i64 ((-1 : Int) * x4) * Prod.snd x0))), IntKind.wrap IntKind.i64 (IntKind.wrap IntKind.i64 (Prod.snd x0 * (2 : Int)) * Ship.turn (Prod.fst a)))) fun x6 =>
                .ret ((Span.mk (IntKind.wrap IntKind.i64 (x2 - Curve.err (Ship.mean (Prod.fst a)))) (IntKind.wrap IntKind.i64 (IntKind.wrap IntKind.i64 ((0 : Int) - x3) + Curve.err (Ship.mean (Prod.fst a)))), Span.mk (IntKind.wrap IntKind.i64 (x5 - Curve.err (Ship.mean (Prod.fst a)))) (IntKind.wrap IntKind.i64 (IntKind.wrap IntKind.i64 ((0 : Int) - x6) + Curve.err (Ship.mean (Prod.fst a))))))) := fun a => by kernel_rfl
noncomputable def K.afloat (a : Ship × List Int) : Option (Span × Span) := T.run (
  .chk (decide (List.length (decF rInt (List.length (Prod.snd a)) fun i => encF rInt (Prod.snd a) ((0 : Nat) + i)) ≤ (1000000 : Nat))) <|
  .obs (tabAt (Ship.mean (Prod.fst a), IntKind.wrap IntKind.i64 (Ship.light (Prod.fst a) + K.addL (decF rInt (List.length (Prod.snd a)) fun i => encF rInt (Prod.snd a) ((0 : Nat) + i))))) fun x0 =>
    .obs (momentL (Prod.fst a, decF rInt (List.length (Prod.snd a)) fun i => encF rInt (Prod.snd a) ((0 : Nat) + i))) fun x1 =>
      .obs (below (IntKind.wrap IntKind.i64 (IntKind.wrap IntKind.i64 (IntKind.wrap IntKind.i64 (Prod.fst x0 * (2 : Int)) * Ship.turn (Prod.fst a)) + IntKind.wrap IntKind.i64 (IntKind.wrap IntKind.i64 ((1 : Int) * x1) * Prod.snd x0)), IntKind.wrap IntKind.i64 (IntKind.wrap IntKind.i64 (Prod.snd x0 * (2 : Int)) * Ship.turn (Prod.fst a)))) fun x2 =>
        .obs (below (IntKind.wrap IntKind.i64 ((0 : Int) - IntKind.wrap IntKind.i64 (IntKind.wrap IntKind.i64 (IntKind.wrap IntKind.i64 (Prod.fst x0 * (2 : Int)) * Ship.turn (Prod.fst a)) + IntKind.wrap IntKind.i64 (IntKind.wrap IntKind.i64 ((1 : Int) * x1) * Prod.snd x0))), IntKind.wrap IntKind.i64 (IntKind.wrap IntKind.i64 (Prod.snd x0 * (2 : Int)) * Ship.turn (Prod.fst a)))) fun x3 =>
          .obs (momentL (Prod.fst a, decF rInt (List.length (Prod.snd a)) fun i => encF rInt (Prod.snd a) ((0 : Nat) + i))) fun x4 =>
            .obs (below (IntKind.wrap IntKind.i64 (IntKind.wrap IntKind.i64 (IntKind.wrap IntKind.i64 (Prod.fst x0 * (2 : Int)) * Ship.turn (Prod.fst a)) + IntKind.wrap IntKind.i64 (IntKind.wrap IntKind.i64 ((-1 : Int) * x4) * Prod.snd x0)), IntKind.wrap IntKind.i64 (IntKind.wrap IntKind.i64 (Prod.snd x0 * (2 : Int)) * Ship.turn (Prod.fst a)))) fun x5 =>
              .obs (below (IntKind.wrap IntKind.i64 ((0 : Int) - IntKind.wrap IntKind.i64 (IntKind.wrap IntKind.i64 (IntKind.wrap IntKind.i64 (Prod.fst x0 * (2 : Int)) * Ship.turn (Prod.fst a)) + IntKind.wrap IntKind.i64 (IntKind.wrap IntKind.i64 ((-1 : Int) * x4) * Prod.snd x0))), IntKind.wrap IntKind.i64 (IntKind.wrap IntKind.i64 (Prod.snd x0 * (2 : Int)) * Ship.turn (Prod.fst a)))) fun x6 =>
                .ret ((Span.mk (IntKind.wrap IntKind.i64 (x2 - Curve.err (Ship.mean (Prod.fst a)))) (IntKind.wrap IntKind.i64 (IntKind.wrap IntKind.i64 ((0 : Int) - x3) + Curve.err (Ship.mean (Prod.fst a)))), Span.mk (IntKind.wrap IntKind.i64 (x5 - Curve.err (Ship.mean (Prod.fst a)))) (IntKind.wrap IntKind.i64 (IntKind.wrap IntKind.i64 ((0 : Int) - x6) + Curve.err (Ship.mean (Prod.fst a)))))))
theorem eq_afloat (a : Ship × List Int) : (callT1 P BKLo214 30 67 D_sl dDraughts) a = K.afloat a := fn_afloat a
noncomputable def BKLo215 : Tab := BKLo214.addCall 67 (callE D_sl dDraughts (fun a => .obs (K.afloat a) .ret))
theorem tKLo215 : TabOk P BKLo215 := TabOk.addFn (d := 30) okP tKLo214 (fun a r h => by rw [eq_afloat]; exact obs_ret h)
end Go.Proofs.YtjbhooodjmjdkaaGreat
/-! KLo3 -/
namespace Go.Proofs.YtjbhooodjmjdkaaGreat
open Ev K
set_option maxRecDepth 100000
def O_bst : DecB (LoadL × List Int × Nat × List Int × List Int × Unit) := .flat 41 lLoadL (.flat 49 (.last (dRows rInt) 0) (.flat 49 (.last (dO 3) 0) (.rows 3 rInt (.rows 3 rInt .nil))))
def S_bst1 := DecS.ghostC 7 3 1 [.int .i64] (DecS.ghost 8 3 1 [.int .i64] (DecS.mk0 (.skips 2 (.cons (dI .i64) (.unit (dLp 0 0 0 0) (.unit (dLp 1 0 0 0) (.skips 2 (.unit (dLp 2 0 0 0) (.cons (dO 4) (.skips 7 (.cons (dRows rSpan) (.cons (dI .i64) (.last (dI .i64) 33))))))))))) O_bst))
def X_bst1 := DecX.one (.exit 0) [2, 3, 4, 7, 8] (DecS.mk0 (.skips 2 (.cons (dI .i64) (.unit (dLp 0 0 0 0) (.unit (dLp 1 0 0 0) (.skips 2 (.unit (dLp 2 0 0 0) (.last (dO 4) 43))))))) O_bst)
noncomputable def K.st_bst1 := loopT1 P BKLo215 30 159 25 [18, 7, 8, 16, 3, 2, 4, 17] S_bst1 X_bst1
theorem sl_bst1 : ∀ s, (K.st_bst1) s = T.run (
  .br (decide (Prod.snd (Prod.snd (Prod.snd (Prod.snd (Prod.fst s)))) < Prod.fst (Prod.snd (Prod.snd (Prod.snd (Prod.fst s)))))) (
    .chk (decide ((0 : Int) ≤ Prod.snd (Prod.snd (Prod.snd (Prod.snd (Prod.fst s)))) ∧ Prod.snd (Prod.snd (Prod.snd (Prod.snd (Prod.fst s)))) < (↑(List.length (Prod.fst (Prod.snd (Prod.snd (Prod.fst s))))) : Int))) <|
    .chk (decide ((List.length (Prod.fst (Prod.snd (Prod.snd (Prod.snd (Prod.snd s))))) + (1 : Nat)) * (8 : Nat) ≤ (140737488355328 : Nat) ∧ List.length (Prod.fst (Prod.snd (Prod.snd (Prod.snd (Prod.snd s))))) + (1 : Nat) ≤ nat_lit 9223372036854775807)) <|
    .chk (decide ((List.length (Prod.fst (Prod.snd (Prod.snd (Prod.snd (Prod.snd (Prod.snd s)))))) + (1 : Nat)) * (8 : Nat) ≤ (140737488355328 : Nat) ∧ List.length (Prod.fst (Prod.snd (Prod.snd (Prod.snd (Prod.snd (Prod.snd s)))))) + (1 : Nat) ≤ nat_lit 9223372036854775807)) <|
    .ret (Sum.inl ((Prod.fst (Prod.fst s), List.length (Prod.fst (Prod.snd (Prod.snd (Prod.snd (Prod.snd (Prod.snd s)))))) + (1 : Nat), decF rSpan (List.length (Prod.fst (Prod.snd (Prod.snd (Prod.fst s))))) fun i => encF rSpan (Prod.fst (Prod.snd (Prod.snd (Prod.fst s)))) ((0 : Nat) + i), Prod.fst (Prod.snd (Prod.snd (Prod.snd (Prod.fst s)))), IntKind.wrap IntKind.i64 (Prod.snd (Prod.snd (Prod.snd (Prod.snd (Prod.fst s)))) + (1 : Int))), LoadL.mk (decF rSpan (List.length (LoadL.holds (Prod.fst (Prod.snd s)))) fun i => encF rSpan (LoadL.holds (Prod.fst (Prod.snd s))) ((0 : Nat) + i)) (LoadL.all (Prod.fst (Prod.snd s))), decF rInt (List.length (Prod.fst (Prod.snd (Prod.snd s)))) fun i => encF rInt (Prod.fst (Prod.snd (Prod.snd s))) ((0 : Nat) + i), List.length (Prod.fst (Prod.snd (Prod.snd (Prod.snd (Prod.snd s))))) + (1 : Nat), decF rInt (List.length (Prod.fst (Prod.snd (Prod.snd (Prod.snd (Prod.snd s))))) + (1 : Nat)) (appG (List.length (Prod.fst (Prod.snd (Prod.snd (Prod.snd (Prod.snd s)))))) (encF rInt (Prod.fst (Prod.snd (Prod.snd (Prod.snd (Prod.snd s)))))) fun i k => Option.getD [AV.int IntKind.i64 (numOf (encF rSpan (Prod.fst (Prod.snd (Prod.snd (Prod.fst s)))) ((0 : Nat) + Int.toNat (Prod.snd (Prod.snd (Prod.snd (Prod.snd (Prod.fst s)))))) (0 : Nat)))][((0 : Nat) + i) * (1 : Nat) + k]? AV.top), decF rInt (List.length (Prod.fst (Prod.snd (Prod.snd (Prod.snd (Prod.snd (Prod.snd s)))))) + (1 : Nat)) (appG (List.length (Prod.fst (Prod.snd (Prod.snd (Prod.snd (Prod.snd (Prod.snd s))))))) (encF rInt (Prod.fst (Prod.snd (Prod.snd (Prod.snd (Prod.snd (Prod.snd s))))))) fun i k => Option.getD [AV.int IntKind.i64 (Prod.snd (Prod.snd (Prod.snd (Prod.snd (Prod.fst s)))))][((0 : Nat) + i) * (1 : Nat) + k]? AV.top), PUnit.unit))) (
    .ret (Sum.inr ((Prod.fst (Prod.fst s), Prod.fst (Prod.snd (Prod.fst s))), LoadL.mk (decF rSpan (List.length (LoadL.holds (Prod.fst (Prod.snd s)))) fun i => encF rSpan (LoadL.holds (Prod.fst (Prod.snd s))) ((0 : Nat) + i)) (LoadL.all (Prod.fst (Prod.snd s))), decF rInt (List.length (Prod.fst (Prod.snd (Prod.snd s)))) fun i => encF rInt (Prod.fst (Prod.snd (Prod.snd s))) ((0 : Nat) + i), Prod.fst (Prod.snd (Prod.snd (Prod.snd s))), decF rInt (List.length (Prod.fst (Prod.snd (Prod.snd (Prod.snd (Prod.snd s)))))) (encF rInt (Prod.fst (Prod.snd (Prod.snd (Prod.snd (Prod.snd s)))))), decF rInt (List.length (Prod.fst (Prod.snd (Prod.snd (Prod.snd (Prod.snd (Prod.snd s))))))) (encF rInt (Prod.fst (Prod.snd (Prod.snd (Prod.snd (Prod.snd (Prod.snd s))))))), PUnit.unit)))) := fun s => by kernel_rfl
noncomputable def K.L_bst1 := lim K.st_bst1
noncomputable def BKLo31 : Tab := BKLo215.addNode 159 25 (nodeE [18, 7, 8, 16, 3, 2, 4, 17] S_bst1 X_bst1 (fun s => .obs (K.L_bst1 s) .ret))
theorem tKLo31 : TabOk P BKLo31 := TabOk.addLoop (d := 30) okP tKLo215 (by kernel_rfl) (by kernel_rfl) (fun s r h => obs_ret h)
def D_cmpi := DecL.cons (dI .i64) (.last (dI .i64) 0)
theorem fn_cmpI : ∀ a, (callT1 P BKLo31 30 136 D_cmpi (dI .i64)) a = T.run (
  .br (Prod.fst a != Prod.fst a) (
    .br (Prod.snd a != Prod.snd a) (
      .ret ((0 : Int))) (
      .ret ((-1 : Int)))) (
    .br (Prod.snd a != Prod.snd a) (
      .ret ((1 : Int))) (
      .br (decide (Prod.fst a < Prod.snd a)) (
        .ret ((-1 : Int))) (
        .br (decide (Prod.fst a > Prod.snd a)) (
          .ret ((1 : Int))) (
          .ret ((0 : Int))))))) := fun a => by kernel_rfl
noncomputable def K.cmpI (a : Int × Int) : Int := (if (Prod.fst a != Prod.fst a) = true then (if (Prod.snd a != Prod.snd a) = true then (0 : Int) else (-1 : Int)) else (if (Prod.snd a != Prod.snd a) = true then (1 : Int) else (if (decide (Prod.fst a < Prod.snd a)) = true then (-1 : Int) else (if (decide (Prod.fst a > Prod.snd a)) = true then (1 : Int) else (0 : Int)))))
theorem eq_cmpI (a : Int × Int) : (callT1 P BKLo31 30 136 D_cmpi (dI .i64)) a = some (K.cmpI a) := (fn_cmpI a).trans (T.br_some (T.br_some rfl rfl) (T.br_some rfl (T.br_some rfl (T.br_some rfl rfl))))
noncomputable def BKLo32 : Tab := BKLo31.addCall 136 (callE D_cmpi (dI .i64) (fun a => .ret (K.cmpI a)))
theorem tKLo32 : TabOk P BKLo32 := TabOk.addFn (d := 30) okP tKLo31 (fun a r h => by rw [eq_cmpI]; exact congrArg some (ret_some h))
def D_bc := DecL.cons (dI .i64) (.cons (dI .i64) (.last (dP 1 (.last (dRows rInt) 0) 0) 0))
theorem fn_bestCmp : ∀ a, (callT1 P BKLo32 30 200 D_bc (dI .i64)) a = T.run (
  .chk (decide ((0 : Int) ≤ Prod.fst (Prod.snd a) ∧ Prod.fst (Prod.snd a) < (↑(List.length (Prod.snd (Prod.snd a))) : Int))) <|
  .chk (decide ((0 : Int) ≤ Prod.fst a ∧ Prod.fst a < (↑(List.length (Prod.snd (Prod.snd a))) : Int))) <|
  .ret (cmpI (numOf (encF rInt (Prod.snd (Prod.snd a)) ((0 : Nat) + Int.toNat (Prod.fst (Prod.snd a))) (0 : Nat)), numOf (encF rInt (Prod.snd (Prod.snd a)) ((0 : Nat) + Int.toNat (Prod.fst a)) (0 : Nat))))) := fun a => by kernel_rfl
noncomputable def K.bestCmp (a : Int × Int × List Int) : Option (Int) := T.run (
  .chk (decide ((0 : Int) ≤ Prod.fst (Prod.snd a) ∧ Prod.fst (Prod.snd a) < (↑(List.length (Prod.snd (Prod.snd a))) : Int))) <|
  .chk (decide ((0 : Int) ≤ Prod.fst a ∧ Prod.fst a < (↑(List.length (Prod.snd (Prod.snd a))) : Int))) <|
  .ret (cmpI (numOf (encF rInt (Prod.snd (Prod.snd a)) ((0 : Nat) + Int.toNat (Prod.fst (Prod.snd a))) (0 : Nat)), numOf (encF rInt (Prod.snd (Prod.snd a)) ((0 : Nat) + Int.toNat (Prod.fst a)) (0 : Nat)))))
theorem eq_bestCmp (a : Int × Int × List Int) : (callT1 P BKLo32 30 200 D_bc (dI .i64)) a = K.bestCmp a := fn_bestCmp a
noncomputable def BKLo33 : Tab := BKLo32.addCall 200 (callE D_bc (dI .i64) (fun a => .obs (K.bestCmp a) .ret))
theorem tKLo33 : TabOk P BKLo33 := TabOk.addFn (d := 30) okP tKLo32 (fun a r h => by rw [eq_bestCmp]; exact obs_ret h)
noncomputable def BKLo34 : Tab := BKLo33.addInl 199
theorem tKLo34 : TabOk P BKLo34 := TabOk.addInl tKLo33
noncomputable def BKLo35 : Tab := BKLo34.addInl 218
theorem tKLo35 : TabOk P BKLo35 := TabOk.addInl tKLo34
end Go.Proofs.YtjbhooodjmjdkaaGreat
/-! KLo4 -/
namespace Go.Proofs.YtjbhooodjmjdkaaGreat
open Ev K
set_option maxRecDepth 100000
def O_srt : DecB (List Int × List Int × LoadL × Nat × List Int × Unit) := .rows 3 rInt (.flat 49 (.last (dRows rInt) 0) (.flat 41 lLoadL (.flat 49 (.last (dO 4) 0) (.rows 3 rInt .nil))))
def O_srt2 : DecB (LoadL × Nat × List Int × List Int × Unit) := .flat 41 lLoadL (.flat 49 (.last (dO 2) 0) (.rows 3 rInt (.rows 3 rInt .nil)))
def V_bst : DecL (Int × Nat) := .skips 2 (.cons (dI .i64) (.unit (dLp 2 0 0 0) (.skips 3 (.unit (dLp 3 0 0 0) (.last (dO 0) 43)))))
def V_bst2 : DecL (Int × Nat) := .skips 2 (.cons (dI .i64) (.unit (dLp 0 0 0 0) (.skips 3 (.unit (dLp 1 0 0 0) (.last (dO 3) 43)))))
def O_srt3 : DecB (List Int × LoadL × Nat × List Int × Unit) := .rows 3 rInt (.flat 41 lLoadL (.flat 49 (.last (dO 3) 0) (.rows 3 rInt .nil)))
def V_bst3 : DecL (Int × Nat) := .skips 2 (.cons (dI .i64) (.unit (dLp 1 0 0 0) (.skips 3 (.unit (dLp 2 0 0 0) (.last (dO 0) 43)))))
def F_cmp : Dec Unit := dFn 200 (.unit (dLp 1 0 0 0) (.tops 0))
def V_in : DecL (Nat × Int × Int × Int × Nat) := .cons (dO 0) (.cons (dI .i64) (.skips 4 (.cons (dI .i64) (.skips 65 V_bst))))
def V_in2 : DecL (Nat × Int × Int × Int × Nat) := .cons (dO 0) (.cons (dI .i64) (.skips 4 (.cons (dI .i64) (.skips 65 V_bst3))))
def S_st17 := DecS.rnd (.cons (dO 0) (.cons (dI .i64) (.unit F_cmp (.skips 3 (.cons (dI .i64) (.cons (dI .i64) (.last (dI .i64) 54))))))) O_srt (.skips 9 V_bst)
def X_st17 := DecX.one (.exit 0) [0, 1, 2, 6, 7] (DecS.rnd (.cons (dO 0) (.cons (dI .i64) (.unit F_cmp (.skips 3 (.cons (dI .i64) (.last (dI .i64) 55)))))) O_srt (.skips 9 V_bst))
noncomputable def K.st_st17 := loopT1 P BKLo35 30 218 17 [6, 8, 2, 7, 0, 1] S_st17 X_st17
theorem sl_st17 : ∀ s, (K.st_st17) s = T.run (
  .br (decide (Prod.snd (Prod.snd (Prod.snd (Prod.snd (Prod.fst s)))) ≤ Prod.fst (Prod.snd (Prod.fst s)))) (
    .fail) (
    .ret (Sum.inr ((Prod.fst (Prod.fst s), Prod.fst (Prod.snd (Prod.fst s)), Prod.fst (Prod.snd (Prod.snd (Prod.fst s))), Prod.fst (Prod.snd (Prod.snd (Prod.snd (Prod.fst s))))), (decF rInt (List.length (Prod.fst (Prod.fst (Prod.snd s)))) (encF rInt (Prod.fst (Prod.fst (Prod.snd s)))), decF rInt (List.length (Prod.fst (Prod.snd (Prod.fst (Prod.snd s))))) fun i => encF rInt (Prod.fst (Prod.snd (Prod.fst (Prod.snd s)))) ((0 : Nat) + i), LoadL.mk (decF rSpan (List.length (LoadL.holds (Prod.fst (Prod.snd (Prod.snd (Prod.fst (Prod.snd s))))))) fun i => encF rSpan (LoadL.holds (Prod.fst (Prod.snd (Prod.snd (Prod.fst (Prod.snd s)))))) ((0 : Nat) + i)) (LoadL.all (Prod.fst (Prod.snd (Prod.snd (Prod.fst (Prod.snd s)))))), Prod.fst (Prod.snd (Prod.snd (Prod.snd (Prod.fst (Prod.snd s))))), decF rInt (List.length (Prod.fst (Prod.snd (Prod.snd (Prod.snd (Prod.snd (Prod.fst (Prod.snd s)))))))) (encF rInt (Prod.fst (Prod.snd (Prod.snd (Prod.snd (Prod.snd (Prod.fst (Prod.snd s)))))))), PUnit.unit), Prod.snd (Prod.snd s))))) := fun s => by kernel_rfl
noncomputable def K.L_st17 := lim K.st_st17
noncomputable def BKLo41 : Tab := BKLo35.addNode 218 17 (nodeE [6, 8, 2, 7, 0, 1] S_st17 X_st17 (fun s => .obs (K.L_st17 s) .ret))
theorem tKLo41 : TabOk P BKLo41 := TabOk.addLoop (d := 30) okP tKLo35 (by kernel_rfl) (by kernel_rfl) (fun s r h => obs_ret h)
noncomputable def BKLo42 : Tab := BKLo41.addInl 227
theorem tKLo42 : TabOk P BKLo42 := TabOk.addInl tKLo41
def E_in9 : DecL (Nat × Int × Int × Int) := .cons (dO 0) (.cons (dI .i64) (.cons (dI .i64) (.unit F_cmp (.skips 4 (.last (dI .i64) 44)))))
def S_in33 := DecS.rnd (.cons (dO 0) (.cons (dI .i64) (.cons (dI .i64) (.unit F_cmp (.skips 4 (.cons (dI .i64) (.last (dI .i64) 43))))))) O_srt V_in
def X_in33 := DecX.one (.exit 2) [0, 8, 3, 1, 2] (DecS.rnd E_in9 O_srt V_in)
noncomputable def K.st_in33 := loopT1 P BKLo42 30 227 33 [9, 0, 3, 1, 2, 8] S_in33 X_in33
theorem sl_in33 : ∀ s, (K.st_in33) s = T.run (
  .br (decide (Prod.snd (Prod.snd (Prod.snd (Prod.snd (Prod.fst s)))) > Prod.fst (Prod.snd (Prod.fst s)))) (
    .chk (decide ((0 : Int) ≤ Prod.snd (Prod.snd (Prod.snd (Prod.snd (Prod.fst s)))) ∧ Prod.snd (Prod.snd (Prod.snd (Prod.snd (Prod.fst s)))) < (↑(Prod.fst (Prod.fst s)) : Int))) <|
    .chk (decide ((0 : Int) ≤ IntKind.wrap IntKind.i64 (Prod.snd (Prod.snd (Prod.snd (Prod.snd (Prod.fst s)))) - (1 : Int)) ∧ IntKind.wrap IntKind.i64 (Prod.snd (Prod.snd (Prod.snd (Prod.snd (Prod.fst s)))) - (1 : Int)) < (↑(Prod.fst (Prod.fst s)) : Int))) <|
    .obs (bestCmp (numOf (encF rInt (Prod.fst (Prod.fst (Prod.snd s))) (Int.toNat (Prod.snd (Prod.snd (Prod.snd (Prod.snd (Prod.fst s)))))) (0 : Nat)), numOf (encF rInt (Prod.fst (Prod.fst (Prod.snd s))) (Int.toNat (IntKind.wrap IntKind.i64 (Prod.snd (Prod.snd (Prod.snd (Prod.snd (Prod.fst s)))) - (1 : Int)))) (0 : Nat)), decF rInt (List.length (Prod.fst (Prod.snd (Prod.fst (Prod.snd s))))) fun i => encF rInt (Prod.fst (Prod.snd (Prod.fst (Prod.snd s)))) ((0 : Nat) + i))) fun x0 =>
      .br (decide (x0 < (0 : Int))) (
        .chk (decide ((0 : Int) ≤ IntKind.wrap IntKind.i64 (Prod.snd (Prod.snd (Prod.snd (Prod.snd (Prod.fst s)))) - (1 : Int)) ∧ IntKind.wrap IntKind.i64 (Prod.snd (Prod.snd (Prod.snd (Prod.snd (Prod.fst s)))) - (1 : Int)) < (↑(Prod.fst (Prod.fst s)) : Int))) <|
        .chk (decide ((0 : Int) ≤ Prod.snd (Prod.snd (Prod.snd (Prod.snd (Prod.fst s)))) ∧ Prod.snd (Prod.snd (Prod.snd (Prod.snd (Prod.fst s)))) < (↑(Prod.fst (Prod.fst s)) : Int))) <|
        .chk (decide ((0 : Int) ≤ Prod.snd (Prod.snd (Prod.snd (Prod.snd (Prod.fst s)))) ∧ Prod.snd (Prod.snd (Prod.snd (Prod.snd (Prod.fst s)))) < (↑(Prod.fst (Prod.fst s)) : Int))) <|
        .chk (decide ((0 : Int) ≤ IntKind.wrap IntKind.i64 (Prod.snd (Prod.snd (Prod.snd (Prod.snd (Prod.fst s)))) - (1 : Int)) ∧ IntKind.wrap IntKind.i64 (Prod.snd (Prod.snd (Prod.snd (Prod.snd (Prod.fst s)))) - (1 : Int)) < (↑(Prod.fst (Prod.fst s)) : Int))) <|
        .ret (Sum.inl ((Prod.fst (Prod.fst s), Prod.fst (Prod.snd (Prod.fst s)), Prod.fst (Prod.snd (Prod.snd (Prod.fst s))), Prod.fst (Prod.snd (Prod.snd (Prod.snd (Prod.fst s)))), IntKind.wrap IntKind.i64 (Prod.snd (Prod.snd (Prod.snd (Prod.snd (Prod.fst s)))) - (1 : Int))), (decF rInt (List.length (Prod.fst (Prod.fst (Prod.snd s)))) (setR (Int.toNat (IntKind.wrap IntKind.i64 (Prod.snd (Prod.snd (Prod.snd (Prod.snd (Prod.fst s)))) - (1 : Int)))) (0 : Nat) (nat_lit 1) [AV.int IntKind.i64 (numOf (encF rInt (Prod.fst (Prod.fst (Prod.snd s))) (Int.toNat (Prod.snd (Prod.snd (Prod.snd (Prod.snd (Prod.fst s)))))) (0 : Nat)))] (setR (Int.toNat (Prod.snd (Prod.snd (Prod.snd (Prod.snd (Prod.fst s)))))) (0 : Nat) (nat_lit 1) [AV.int IntKind.i64 (numOf (encF rInt (Prod.fst (Prod.fst (Prod.snd s))) (Int.toNat (IntKind.wrap IntKind.i64 (Prod.snd (Prod.snd (Prod.snd (Prod.snd (Prod.fst s)))) - (1 : Int)))) (0 : Nat)))] (encF rInt (Prod.fst (Prod.fst (Prod.snd s)))))), decF rInt (List.length (Prod.fst (Prod.snd (Prod.fst (Prod.snd s))))) fun i => encF rInt (Prod.fst (Prod.snd (Prod.fst (Prod.snd s)))) ((0 : Nat) + i), LoadL.mk (decF rSpan (List.length (LoadL.holds (Prod.fst (Prod.snd (Prod.snd (Prod.fst (Prod.snd s))))))) fun i => encF rSpan (LoadL.holds (Prod.fst (Prod.snd (Prod.snd (Prod.fst (Prod.snd s)))))) ((0 : Nat) + i)) (LoadL.all (Prod.fst (Prod.snd (Prod.snd (Prod.fst (Prod.snd s)))))), Prod.fst (Prod.snd (Prod.snd (Prod.snd (Prod.fst (Prod.snd s))))), decF rInt (List.length (Prod.fst (Prod.snd (Prod.snd (Prod.snd (Prod.snd (Prod.fst (Prod.snd s)))))))) (encF rInt (Prod.fst (Prod.snd (Prod.snd (Prod.snd (Prod.snd (Prod.fst (Prod.snd s)))))))), PUnit.unit), Prod.snd (Prod.snd s)))) (
        .ret (Sum.inr ((Prod.fst (Prod.fst s), Prod.fst (Prod.snd (Prod.fst s)), Prod.fst (Prod.snd (Prod.snd (Prod.fst s))), Prod.fst (Prod.snd (Prod.snd (Prod.snd (Prod.fst s))))), (decF rInt (List.length (Prod.fst (Prod.fst (Prod.snd s)))) (encF rInt (Prod.fst (Prod.fst (Prod.snd s)))), decF rInt (List.length (Prod.fst (Prod.snd (Prod.fst (Prod.snd s))))) fun i => encF rInt (Prod.fst (Prod.snd (Prod.fst (Prod.snd s)))) ((0 : Nat) + i), LoadL.mk (decF rSpan (List.length (LoadL.holds (Prod.fst (Prod.snd (Prod.snd (Prod.fst (Prod.snd s))))))) fun i => encF rSpan (LoadL.holds (Prod.fst (Prod.snd (Prod.snd (Prod.fst (Prod.snd s)))))) ((0 : Nat) + i)) (LoadL.all (Prod.fst (Prod.snd (Prod.snd (Prod.fst (Prod.snd s)))))), Prod.fst (Prod.snd (Prod.snd (Prod.snd (Prod.fst (Prod.snd s))))), decF rInt (List.length (Prod.fst (Prod.snd (Prod.snd (Prod.snd (Prod.snd (Prod.fst (Prod.snd s)))))))) (encF rInt (Prod.fst (Prod.snd (Prod.snd (Prod.snd (Prod.snd (Prod.fst (Prod.snd s)))))))), PUnit.unit), Prod.snd (Prod.snd s))))) (
    .ret (Sum.inr ((Prod.fst (Prod.fst s), Prod.fst (Prod.snd (Prod.fst s)), Prod.fst (Prod.snd (Prod.snd (Prod.fst s))), Prod.fst (Prod.snd (Prod.snd (Prod.snd (Prod.fst s))))), (decF rInt (List.length (Prod.fst (Prod.fst (Prod.snd s)))) (encF rInt (Prod.fst (Prod.fst (Prod.snd s)))), decF rInt (List.length (Prod.fst (Prod.snd (Prod.fst (Prod.snd s))))) fun i => encF rInt (Prod.fst (Prod.snd (Prod.fst (Prod.snd s)))) ((0 : Nat) + i), LoadL.mk (decF rSpan (List.length (LoadL.holds (Prod.fst (Prod.snd (Prod.snd (Prod.fst (Prod.snd s))))))) fun i => encF rSpan (LoadL.holds (Prod.fst (Prod.snd (Prod.snd (Prod.fst (Prod.snd s)))))) ((0 : Nat) + i)) (LoadL.all (Prod.fst (Prod.snd (Prod.snd (Prod.fst (Prod.snd s)))))), Prod.fst (Prod.snd (Prod.snd (Prod.snd (Prod.fst (Prod.snd s))))), decF rInt (List.length (Prod.fst (Prod.snd (Prod.snd (Prod.snd (Prod.snd (Prod.fst (Prod.snd s)))))))) (encF rInt (Prod.fst (Prod.snd (Prod.snd (Prod.snd (Prod.snd (Prod.fst (Prod.snd s)))))))), PUnit.unit), Prod.snd (Prod.snd s))))) := fun s => by kernel_rfl
noncomputable def K.L_in33 := lim K.st_in33
noncomputable def BKLo43 : Tab := BKLo42.addNode 227 33 (nodeE [9, 0, 3, 1, 2, 8] S_in33 X_in33 (fun s => .obs (K.L_in33 s) .ret))
theorem tKLo43 : TabOk P BKLo43 := TabOk.addLoop (d := 30) okP tKLo42 (by kernel_rfl) (by kernel_rfl) (fun s r h => obs_ret h)
def S_in9 := DecS.rnd E_in9 O_srt V_in
def X_in9 := DecX.one (.exit 0) [] (DecS.rnd (.tops 53) O_srt3 V_in2)
noncomputable def K.st_in9 := loopT1 P BKLo43 30 227 9 [0, 8, 3, 1, 2] S_in9 X_in9
theorem sl_in9 : ∀ s, (K.st_in9) s = T.run (
  .br (decide (Prod.snd (Prod.snd (Prod.snd (Prod.fst s))) < Prod.fst (Prod.snd (Prod.snd (Prod.fst s))))) (
    .obs (L_in33 ((Prod.fst (Prod.fst s), Prod.fst (Prod.snd (Prod.fst s)), Prod.fst (Prod.snd (Prod.snd (Prod.fst s))), Prod.snd (Prod.snd (Prod.snd (Prod.fst s))), Prod.snd (Prod.snd (Prod.snd (Prod.fst s)))), (decF rInt (List.length (Prod.fst (Prod.fst (Prod.snd s)))) (encF rInt (Prod.fst (Prod.fst (Prod.snd s)))), decF rInt (List.length (Prod.fst (Prod.snd (Prod.fst (Prod.snd s))))) fun i => encF rInt (Prod.fst (Prod.snd (Prod.fst (Prod.snd s)))) ((0 : Nat) + i), LoadL.mk (decF rSpan (List.length (LoadL.holds (Prod.fst (Prod.snd (Prod.snd (Prod.fst (Prod.snd s))))))) fun i => encF rSpan (LoadL.holds (Prod.fst (Prod.snd (Prod.snd (Prod.fst (Prod.snd s)))))) ((0 : Nat) + i)) (LoadL.all (Prod.fst (Prod.snd (Prod.snd (Prod.fst (Prod.snd s)))))), Prod.fst (Prod.snd (Prod.snd (Prod.snd (Prod.fst (Prod.snd s))))), decF rInt (List.length (Prod.fst (Prod.snd (Prod.snd (Prod.snd (Prod.snd (Prod.fst (Prod.snd s)))))))) (encF rInt (Prod.fst (Prod.snd (Prod.snd (Prod.snd (Prod.snd (Prod.fst (Prod.snd s)))))))), PUnit.unit), Prod.snd (Prod.snd s))) fun x0 =>
      .ret (Sum.inl ((Prod.fst (Prod.fst x0), Prod.fst (Prod.snd (Prod.fst x0)), Prod.fst (Prod.snd (Prod.snd (Prod.fst x0))), IntKind.wrap IntKind.i64 (Prod.snd (Prod.snd (Prod.snd (Prod.fst x0))) + (1 : Int))), (decF rInt (List.length (Prod.fst (Prod.fst (Prod.snd x0)))) (encF rInt (Prod.fst (Prod.fst (Prod.snd x0)))), decF rInt (List.length (Prod.fst (Prod.snd (Prod.fst (Prod.snd x0))))) fun i => encF rInt (Prod.fst (Prod.snd (Prod.fst (Prod.snd x0)))) ((0 : Nat) + i), LoadL.mk (decF rSpan (List.length (LoadL.holds (Prod.fst (Prod.snd (Prod.snd (Prod.fst (Prod.snd x0))))))) fun i => encF rSpan (LoadL.holds (Prod.fst (Prod.snd (Prod.snd (Prod.fst (Prod.snd x0)))))) ((0 : Nat) + i)) (LoadL.all (Prod.fst (Prod.snd (Prod.snd (Prod.fst (Prod.snd x0)))))), Prod.fst (Prod.snd (Prod.snd (Prod.snd (Prod.fst (Prod.snd x0))))), decF rInt (List.length (Prod.fst (Prod.snd (Prod.snd (Prod.snd (Prod.snd (Prod.fst (Prod.snd x0)))))))) (encF rInt (Prod.fst (Prod.snd (Prod.snd (Prod.snd (Prod.snd (Prod.fst (Prod.snd x0)))))))), PUnit.unit), Prod.snd (Prod.snd x0)))) (
    .ret (Sum.inr (PUnit.unit, (decF rInt (List.length (Prod.fst (Prod.fst (Prod.snd s)))) (encF rInt (Prod.fst (Prod.fst (Prod.snd s)))), LoadL.mk (decF rSpan (List.length (LoadL.holds (Prod.fst (Prod.snd (Prod.snd (Prod.fst (Prod.snd s))))))) fun i => encF rSpan (LoadL.holds (Prod.fst (Prod.snd (Prod.snd (Prod.fst (Prod.snd s)))))) ((0 : Nat) + i)) (LoadL.all (Prod.fst (Prod.snd (Prod.snd (Prod.fst (Prod.snd s)))))), Prod.fst (Prod.snd (Prod.snd (Prod.snd (Prod.fst (Prod.snd s))))), decF rInt (List.length (Prod.fst (Prod.snd (Prod.snd (Prod.snd (Prod.snd (Prod.fst (Prod.snd s)))))))) (encF rInt (Prod.fst (Prod.snd (Prod.snd (Prod.snd (Prod.snd (Prod.fst (Prod.snd s)))))))), PUnit.unit), Prod.snd (Prod.snd s))))) := fun s => by kernel_rfl
noncomputable def K.L_in9 := lim K.st_in9
noncomputable def BKLo44 : Tab := BKLo43.addNode 227 9 (nodeE [0, 8, 3, 1, 2] S_in9 X_in9 (fun s => .obs (K.L_in9 s) .ret))
theorem tKLo44 : TabOk P BKLo44 := TabOk.addLoop (d := 30) okP tKLo43 (by kernel_rfl) (by kernel_rfl) (fun s r h => obs_ret h)
def S_st57 := DecS.rnd (.cons (dO 0) (.cons (dI .i64) (.skips 4 (.last (dI .i64) 56)))) O_srt3 (.skips 9 V_bst3)
def X_st57 := DecX.one (.exit 2) [] (DecS.rnd (.tops 63) O_srt2 (.skips 9 V_bst2))
noncomputable def K.st_st57 := loopT1 P BKLo44 30 218 57 [6, 2, 0, 1] S_st57 X_st57
theorem sl_st57 : ∀ s, (K.st_st57) s = T.run (
  .br (decide (Prod.snd (Prod.snd (Prod.fst s)) < Prod.fst (Prod.snd (Prod.fst s)))) (
    .br (decide (IntKind.wrap IntKind.i64 ((2 : Int) * Prod.snd (Prod.snd (Prod.fst s))) ≤ Prod.fst (Prod.snd (Prod.fst s)))) (
      .fail) (
      .br (decide (IntKind.wrap IntKind.i64 ((0 : Int) + Prod.snd (Prod.snd (Prod.fst s))) < Prod.fst (Prod.snd (Prod.fst s)))) (
        .fail) (
        .ret (Sum.inl ((Prod.fst (Prod.fst s), Prod.fst (Prod.snd (Prod.fst s)), IntKind.wrap IntKind.i64 (Prod.snd (Prod.snd (Prod.fst s)) * (2 : Int))), (decF rInt (List.length (Prod.fst (Prod.fst (Prod.snd s)))) (encF rInt (Prod.fst (Prod.fst (Prod.snd s)))), LoadL.mk (decF rSpan (List.length (LoadL.holds (Prod.fst (Prod.snd (Prod.fst (Prod.snd s)))))) fun i => encF rSpan (LoadL.holds (Prod.fst (Prod.snd (Prod.fst (Prod.snd s))))) ((0 : Nat) + i)) (LoadL.all (Prod.fst (Prod.snd (Prod.fst (Prod.snd s))))), Prod.fst (Prod.snd (Prod.snd (Prod.fst (Prod.snd s)))), decF rInt (List.length (Prod.fst (Prod.snd (Prod.snd (Prod.snd (Prod.fst (Prod.snd s))))))) (encF rInt (Prod.fst (Prod.snd (Prod.snd (Prod.snd (Prod.fst (Prod.snd s))))))), PUnit.unit), Prod.snd (Prod.snd s)))))) (
    .ret (Sum.inr (PUnit.unit, (LoadL.mk (decF rSpan (List.length (LoadL.holds (Prod.fst (Prod.snd (Prod.fst (Prod.snd s)))))) fun i => encF rSpan (LoadL.holds (Prod.fst (Prod.snd (Prod.fst (Prod.snd s))))) ((0 : Nat) + i)) (LoadL.all (Prod.fst (Prod.snd (Prod.fst (Prod.snd s))))), Prod.fst (Prod.snd (Prod.snd (Prod.fst (Prod.snd s)))), decF rInt (List.length (Prod.fst (Prod.snd (Prod.snd (Prod.snd (Prod.fst (Prod.snd s))))))) (encF rInt (Prod.fst (Prod.snd (Prod.snd (Prod.snd (Prod.fst (Prod.snd s))))))), decF rInt (List.length (Prod.fst (Prod.fst (Prod.snd s)))) (encF rInt (Prod.fst (Prod.fst (Prod.snd s)))), PUnit.unit), Prod.snd (Prod.snd s))))) := fun s => by kernel_rfl
noncomputable def K.L_st57 := lim K.st_st57
noncomputable def BKLo45 : Tab := BKLo44.addNode 218 57 (nodeE [6, 2, 0, 1] S_st57 X_st57 (fun s => .obs (K.L_st57 s) .ret))
theorem tKLo45 : TabOk P BKLo45 := TabOk.addLoop (d := 30) okP tKLo44 (by kernel_rfl) (by kernel_rfl) (fun s r h => obs_ret h)
noncomputable def BKLo46 : Tab := BKLo45.addInl 201
theorem tKLo46 : TabOk P BKLo46 := TabOk.addInl tKLo45
end Go.Proofs.YtjbhooodjmjdkaaGreat
/-! KLp -/
namespace Go.Proofs.YtjbhooodjmjdkaaGreat
namespace Pl
section
variable (f : Int → Int)
def Bef (a b : Int) : Prop := f b < f a ∨ (f a = f b ∧ a < b)
theorem Bef.trans {a b c : Int} (h : Bef f a b) (g : Bef f b c) : Bef f a c := by unfold Bef at *; omega
theorem Bef.irr {a : Int} (h : Bef f a a) : False := by unfold Bef at h; omega
def insR (x : Int) : List Int → List Int → List Int
  | [], C => x :: C
  | b :: A, C => if f b < f x then insR x A (b :: C) else (b :: A).reverse ++ x :: C
theorem insR_perm (x : Int) : ∀ (A C : List Int), (insR f x A C).Perm (A.reverse ++ x :: C)
  | [], C => by simp [insR]
  | b :: A, C => by
    unfold insR
    split
    · refine (insR_perm x A (b :: C)).trans ?_
      simp only [List.reverse_cons, List.append_assoc]
      exact List.Perm.append_left _ (List.Perm.swap b x C)
    · exact List.Perm.refl _
theorem insR_sorted (x : Int) : ∀ (A C : List Int), (A.reverse ++ C).Pairwise (Bef f) → (∀ c ∈ C, Bef f x c) → (∀ a ∈ A, a < x) → (insR f x A C).Pairwise (Bef f)
  | [], C, h, hc, _ => by
    unfold insR
    rw [List.pairwise_cons]
    exact ⟨hc, by simpa using h⟩
  | b :: A, C, h, hc, ha => by
    unfold insR
    split
    · rename_i hb
      refine insR_sorted x A (b :: C) (by simpa [List.append_assoc] using h) (fun c hc' => ?_) (fun a h => ha a (List.mem_cons_of_mem _ h))
      rcases List.mem_cons.1 hc' with e | e
      · subst e; exact .inl hb
      · exact hc c e
    · rename_i hb
      rw [List.pairwise_append] at h ⊢
      obtain ⟨h1, h2, h3⟩ := h
      have hbx : Bef f b x := by
        have := ha b (List.mem_cons_self ..)
        unfold Bef; omega
      refine ⟨h1, ?_, fun a ha' c hc' => ?_⟩
      · rw [List.pairwise_cons]; exact ⟨hc, h2⟩
      · rcases List.mem_cons.1 hc' with e | e
        · subst e
          rw [List.reverse_cons, List.mem_append] at ha'
          rcases ha' with h | h
          · have : Bef f a b := by
              rw [List.reverse_cons, List.pairwise_append] at h1
              exact h1.2.2 a h b (by simp)
            exact this.trans f hbx
          · simp at h; subst h; exact hbx
        · exact h3 a ha' c e
end
def mn (a b : Int) : Int := if b < a then b else a
theorem mn_le {a b : Int} : mn a b ≤ a ∧ mn a b ≤ b ∧ (mn a b = a ∨ mn a b = b) := by unfold mn; split <;> omega
def fillL (c : Int → Int) : List Int → Int → List Int → List Int
  | [], _, x => x
  | i :: os, left, x => fillL c os (left - mn left (c i)) (x.set i.toNat (x.getD i.toNat 0 + mn left (c i)))
theorem fillL_length (c : Int → Int) : ∀ (os : List Int) (left : Int) (x : List Int), (fillL c os left x).length = x.length
  | [], _, _ => rfl
  | i :: os, left, x => by unfold fillL; rw [fillL_length, List.length_set]
theorem set_same {x : List Int} {i : Nat} : x.set i (x.getD i 0 + 0) = x := by
  apply List.ext_getElem?
  intro j
  rw [List.getElem?_set]
  split
  · rename_i h; subst h
    split
    · rename_i h; rw [List.getD_eq_getElem?_getD, List.getElem?_eq_getElem h]; simp
    · rename_i h; rw [List.getElem?_eq_none (by omega)]
  · rfl
theorem fillL_zero {c : Int → Int} : ∀ {os : List Int} {x : List Int}, (∀ i ∈ os, 0 ≤ c i) → fillL c os 0 x = x
  | [], _, _ => rfl
  | i :: os, x, h => by
    have hi := h i (List.mem_cons_self ..)
    have e : mn 0 (c i) = 0 := by unfold mn; split <;> omega
    unfold fillL
    rw [e, set_same]
    exact fillL_zero (fun i hi => h i (List.mem_cons_of_mem _ hi))
def pickL (f hi : Int → Int) (x : List Int) : Nat → Int
  | 0 => -1
  | n + 1 => if x.getD n 0 < hi n ∧ (pickL f hi x n < 0 ∨ f (pickL f hi x n) < f n) then n else pickL f hi x n
theorem pickL_spec (f hi : Int → Int) (x : List Int) : ∀ n : Nat, (pickL f hi x n = -1 ∧ ∀ k : Nat, k < n → hi k ≤ x.getD k 0) ∨
    (∃ b : Nat, pickL f hi x n = b ∧ b < n ∧ x.getD b 0 < hi b ∧ ∀ k : Nat, k < n → x.getD k 0 < hi k → k = b ∨ Bef f b k)
  | 0 => .inl ⟨rfl, fun k hk => by omega⟩
  | n + 1 => by
    unfold pickL
    rcases pickL_spec f hi x n with ⟨h1, h2⟩ | ⟨b, h1, h2, h3, h4⟩
    · split
      · rename_i h
        refine .inr ⟨n, rfl, by omega, h.1, fun k hk hx => ?_⟩
        by_cases e : k = n
        · exact .inl e
        · have := h2 k (by omega); omega
      · rename_i h
        refine .inl ⟨h1, fun k hk => ?_⟩
        by_cases e : k = n
        · subst e
          rw [h1] at h; omega
        · exact h2 k (by omega)
    · split
      · rename_i h
        refine .inr ⟨n, rfl, by omega, h.1, fun k hk hx => ?_⟩
        by_cases e : k = n
        · exact .inl e
        · right
          have hf : f b < f n := by have := h.2; rw [h1] at this; omega
          have hn : Bef f n b := .inl hf
          rcases h4 k (by omega) hx with e | e
          · subst e; exact hn
          · exact hn.trans f e
      · rename_i h
        refine .inr ⟨b, h1, by omega, h3, fun k hk hx => ?_⟩
        by_cases e : k = n
        · subst e
          right
          have hf : ¬ f b < f k := fun hf => h ⟨hx, .inr (by rw [h1]; exact hf)⟩
          unfold Bef; omega
        · exact h4 k (by omega) hx
end Pl
namespace Pl
inductive Run (f hi : Int → Int) (n : Nat) : List Int → Int → List Int → Prop
  | done {x : List Int} {left : Int} (h : left ≤ 0) : Run f hi n x left x
  | full {x : List Int} {left : Int} (h : 0 < left) (hp : pickL f hi x n < 0) : Run f hi n x left x
  | step {x r : List Int} {left : Int} {b : Nat} (h : 0 < left) (hb : b < n) (hp : pickL f hi x n = b) (h2 : Run f hi n (x.set b (x.getD b 0 + mn left (hi b - x.getD b 0))) (left - mn left (hi b - x.getD b 0)) r) : Run f hi n x left r
theorem getD_set {x : List Int} {i j : Nat} {v : Int} (hi : i < x.length) : (x.set i v).getD j 0 = if i = j then v else x.getD j 0 := by
  rw [List.getD_eq_getElem?_getD, List.getElem?_set]
  by_cases h : i = j
  · rw [if_pos h, if_pos hi, if_pos h]; rfl
  · rw [if_neg h, if_neg h, List.getD_eq_getElem?_getD]
theorem run_fill {f hi c : Int → Int} {n : Nat} : ∀ (os : List Int) (x : List Int) (left : Int), x.length = n → os.Pairwise (Bef f) → (∀ i ∈ os, 0 ≤ i ∧ i < n ∧ 0 ≤ c i ∧ x.getD i.toNat 0 = hi i - c i) →
    (∀ k : Nat, k < n → (k : Int) ∉ os → hi k ≤ x.getD k 0) → 0 ≤ left → Run f hi n x left (fillL c os left x)
  | [], x, left, _, _, _, hout, h0 => by
    unfold fillL
    by_cases hl : left = 0
    · exact .done (by omega)
    · refine .full (by omega) ?_
      rcases pickL_spec f hi x n with ⟨h1, _⟩ | ⟨b, h1, h2, h3, _⟩
      · omega
      · have := hout b h2 (by simp); omega
  | i :: os, x, left, hx, hs, hin, hout, h0 => by
    obtain ⟨i1, i2, i3, i4⟩ := hin i (List.mem_cons_self ..)
    rw [List.pairwise_cons] at hs
    have hnot : i ∉ os := fun h => (hs.1 i h).irr f
    obtain ⟨m, rfl⟩ : ∃ m : Nat, i = m := ⟨i.toNat, by omega⟩
    simp only [Int.toNat_natCast] at i4
    by_cases hl : left = 0
    · subst hl
      rw [fillL_zero (fun j hj => (hin j hj).2.2.1)]
      exact .done (Int.le_refl _)
    by_cases hc : c m = 0
    · have e : mn left (c m) = 0 := by unfold mn; split <;> omega
      unfold fillL
      simp only [Int.toNat_natCast, e, Int.sub_zero]
      rw [set_same]
      refine run_fill os x left hx hs.2 (fun j hj => hin j (List.mem_cons_of_mem _ hj)) (fun k hk hn => ?_) (by omega)
      by_cases e2 : k = m
      · subst e2; omega
      · exact hout k hk (by rw [List.mem_cons, not_or]; exact ⟨by omega, hn⟩)
    · have hp : pickL f hi x n = m := by
        rcases pickL_spec f hi x n with ⟨_, h2⟩ | ⟨b, h1, h2, h3, h4⟩
        · have := h2 m (by omega); omega
        · rcases h4 m (by omega) (by omega) with e | e
          · rw [h1, e]
          · exfalso
            have hb : (b : Int) ∈ (m : Int) :: os := Classical.byContradiction fun hn => by
              have := hout b h2 hn; omega
            rcases List.mem_cons.1 hb with e2 | e2
            · rw [e2] at e; exact e.irr f
            · exact ((hs.1 b e2).trans f e).irr f
      have hm : mn left (hi m - x.getD m 0) = mn left (c m) := by rw [i4]; congr 1; omega
      unfold fillL
      refine .step (by omega) (by omega) hp ?_
      rw [hm]
      simp only [Int.toNat_natCast]
      have ⟨g1, g2, g3⟩ := @mn_le left (c m)
      by_cases hz : left - mn left (c m) = 0
      · rw [hz, fillL_zero (fun j hj => (hin j (List.mem_cons_of_mem _ hj)).2.2.1)]
        exact .done (Int.le_refl _)
      have hfull : mn left (c m) = c m := by omega
      refine run_fill os _ _ (by rw [List.length_set]; exact hx) hs.2 (fun j hj => ?_) (fun k hk hn => ?_) (by omega)
      · obtain ⟨j1, j2, j3, j4⟩ := hin j (List.mem_cons_of_mem _ hj)
        refine ⟨j1, j2, j3, ?_⟩
        rw [getD_set (by omega), if_neg (fun e => hnot ?_)]
        · exact j4
        · have : (m : Int) = j := by omega
          rw [this]; exact hj
      · rw [getD_set (by omega)]
        by_cases e2 : m = k
        · subst e2; rw [if_pos rfl, hfull]; omega
        · rw [if_neg e2]
          exact hout k hk (by rw [List.mem_cons, not_or]; exact ⟨by omega, hn⟩)
end Pl
namespace Pl
def amt (c : Int → Int) : List Int → Int → Int → Int
  | [], _, _ => 0
  | i :: os, left, k => if k = i then mn left (c i) else amt c os (left - mn left (c i)) k
theorem amt_out {c : Int → Int} : ∀ {os : List Int} {left k : Int}, k ∉ os → amt c os left k = 0
  | [], _, _, _ => rfl
  | i :: os, left, k, h => by
    rw [List.mem_cons, not_or] at h
    unfold amt; rw [if_neg h.1]; exact amt_out h.2
theorem fillL_at {c : Int → Int} : ∀ {os : List Int} {left : Int} {x : List Int} {k : Nat}, os.Nodup → (∀ i ∈ os, 0 ≤ i ∧ i < x.length) → (fillL c os left x).getD k 0 = x.getD k 0 + amt c os left k
  | [], left, x, k, _, _ => by simp [fillL, amt]
  | i :: os, left, x, k, hn, hin => by
    rw [List.nodup_cons] at hn
    have hi := hin i (List.mem_cons_self ..)
    unfold fillL amt
    rw [fillL_at hn.2 (fun j hj => by rw [List.length_set]; exact hin j (List.mem_cons_of_mem _ hj)), getD_set (by omega)]
    by_cases e : (k : Int) = i
    · rw [if_pos (by omega), if_pos e, e, amt_out hn.1, show i.toNat = k by omega]; omega
    · rw [if_neg (by omega), if_neg e]
def S (g : Int → Int) : List Int → Int
  | [] => 0
  | i :: os => g i + S g os
theorem S_perm {g : Int → Int} {a b : List Int} (h : a.Perm b) : S g a = S g b := by
  induction h with
  | nil => rfl
  | cons x _ ih => simp only [S, ih]
  | swap x y l => simp only [S]; omega
  | trans _ _ h1 h2 => rw [h1, h2]
theorem S_congr {g h : Int → Int} : ∀ {os : List Int}, (∀ i ∈ os, g i = h i) → S g os = S h os
  | [], _ => rfl
  | i :: os, e => by simp only [S]; rw [e i (List.mem_cons_self ..), S_congr (fun j hj => e j (List.mem_cons_of_mem _ hj))]
theorem S_add {g h : Int → Int} : ∀ {os : List Int}, S (fun i => g i + h i) os = S g os + S h os
  | [] => rfl
  | i :: os => by simp only [S]; rw [S_add]; omega
theorem S_mul {g : Int → Int} {p : Int} : ∀ {os : List Int}, S (fun i => p * g i) os = p * S g os
  | [] => by simp [S]
  | i :: os => by simp only [S]; rw [S_mul, Int.mul_add]
theorem S_nonneg {g : Int → Int} : ∀ {os : List Int}, (∀ i ∈ os, 0 ≤ g i) → 0 ≤ S g os
  | [], _ => Int.le_refl _
  | i :: os, h => by
    simp only [S]
    have := h i (List.mem_cons_self ..); have := S_nonneg (fun j hj => h j (List.mem_cons_of_mem _ hj))
    omega
theorem amt_bound {c : Int → Int} : ∀ {os : List Int} {left k : Int}, 0 ≤ left → (∀ i ∈ os, 0 ≤ c i) → k ∈ os → 0 ≤ amt c os left k ∧ amt c os left k ≤ c k
  | i :: os, left, k, h0, hc, hk => by
    have ⟨g1, g2, g3⟩ := @mn_le left (c i)
    have hci := hc i (List.mem_cons_self ..)
    unfold amt
    by_cases e : k = i
    · rw [if_pos e, e]; omega
    · rw [if_neg e]
      exact amt_bound (by omega) (fun j hj => hc j (List.mem_cons_of_mem _ hj)) ((List.mem_cons.1 hk).resolve_left e)
theorem amt_sum {c : Int → Int} : ∀ {os : List Int} {left : Int}, os.Nodup → 0 ≤ left → left ≤ S c os → (∀ i ∈ os, 0 ≤ c i) → S (amt c os left) os = left
  | [], left, _, h0, hle, _ => by simp only [S] at *; omega
  | i :: os, left, hn, h0, hle, hc => by
    rw [List.nodup_cons] at hn
    have ⟨g1, g2, g3⟩ := @mn_le left (c i)
    have hci := hc i (List.mem_cons_self ..)
    simp only [S] at hle ⊢
    have hcs := S_nonneg (g := c) (fun j hj => hc j (List.mem_cons_of_mem i hj))
    rw [S_congr (h := amt c os (left - mn left (c i))) (fun j hj => by
      show (if j = i then _ else _) = _
      rw [if_neg (fun e => hn.1 (by rw [← e]; exact hj))])]
    rw [amt_sum hn.2 (by omega) (by omega) (fun j hj => hc j (List.mem_cons_of_mem _ hj))]
    unfold amt; rw [if_pos rfl]; omega
theorem price {f c : Int → Int} : ∀ {os : List Int} {left : Int}, os.Pairwise (Bef f) → 0 ≤ left → (∀ i ∈ os, 0 ≤ c i) →
    ∃ p, (∀ b, (∀ i ∈ os, f i ≤ b) → os ≠ [] → p ≤ b) ∧ ∀ i ∈ os, (p < f i → amt c os left i = c i) ∧ (f i < p → amt c os left i = 0)
  | [], _, _, _, _ => ⟨0, fun _ _ h => absurd rfl h, fun i hi => by simp at hi⟩
  | i :: os, left, hs, h0, hc => by
    have hs' := List.pairwise_cons.1 hs
    have hnot : i ∉ os := fun h => (hs'.1 i h).irr f
    have hle : ∀ j ∈ os, f j ≤ f i := fun j hj => by rcases hs'.1 j hj with h | h <;> omega
    have ⟨g1, g2, g3⟩ := @mn_le left (c i)
    have hci := hc i (List.mem_cons_self ..)
    have hat : ∀ j ∈ os, amt c (i :: os) left j = amt c os (left - mn left (c i)) j := fun j hj => by
      show (if j = i then _ else _) = _
      rw [if_neg (fun e => hnot (by rw [← e]; exact hj))]
    have hai : amt c (i :: os) left i = mn left (c i) := by show (if i = i then _ else _) = _; rw [if_pos rfl]
    by_cases hfull : mn left (c i) = c i ∧ os ≠ []
    · obtain ⟨p, hp1, hp2⟩ := price (os := os) (left := left - mn left (c i)) hs'.2 (by omega) (fun j hj => hc j (List.mem_cons_of_mem _ hj))
      have hpi := hp1 (f i) hle hfull.2
      refine ⟨p, fun b hb _ => hp1 b (fun j hj => hb j (List.mem_cons_of_mem _ hj)) hfull.2, fun j hj => ?_⟩
      rcases List.mem_cons.1 hj with e | e
      · subst e; rw [hai]; exact ⟨fun _ => hfull.1, fun h => by omega⟩
      · rw [hat j e]; exact hp2 j e
    · refine ⟨f i, fun b hb _ => hb i (List.mem_cons_self ..), fun j hj => ?_⟩
      rcases List.mem_cons.1 hj with e | e
      · subst e; exact ⟨fun h => by omega, fun h => by omega⟩
      · have hl : left - mn left (c i) = 0 := by
          have : mn left (c i) ≠ c i := fun h => hfull ⟨h, fun h2 => by rw [h2] at e; simp at e⟩
          omega
        refine ⟨fun h => by have := hle j e; omega, fun _ => ?_⟩
        rw [hat j e, hl]
        have := amt_bound (Int.le_refl 0) (fun k hk => hc k (List.mem_cons_of_mem i hk)) e
        have hz : ∀ {os : List Int}, (∀ k ∈ os, 0 ≤ c k) → ∀ k, amt c os 0 k = 0 := by
          intro os
          induction os with
          | nil => intros; rfl
          | cons a os ih =>
            intro h k
            have ha := h a (List.mem_cons_self ..)
            have e0 : mn 0 (c a) = 0 := by unfold mn; split <;> omega
            unfold amt; rw [e0]
            split
            · rfl
            · exact ih (fun k hk => h k (List.mem_cons_of_mem _ hk)) k
        exact hz (fun k hk => hc k (List.mem_cons_of_mem _ hk)) j
theorem amt_best {f c z : Int → Int} {os : List Int} {left : Int} (hs : os.Pairwise (Bef f)) (h0 : 0 ≤ left) (hc : ∀ i ∈ os, 0 ≤ c i) (hz : ∀ i ∈ os, 0 ≤ z i ∧ z i ≤ c i) (hsum : S z os = S (amt c os left) os) :
    S (fun i => f i * z i) os ≤ S (fun i => f i * amt c os left i) os := by
  obtain ⟨p, _, hp⟩ := price hs h0 hc
  have hterm : 0 ≤ S (fun i => (f i - p) * (amt c os left i - z i)) os := by
    refine S_nonneg (fun i hi => ?_)
    have ⟨b1, b2⟩ := amt_bound h0 hc hi
    have ⟨z1, z2⟩ := hz i hi
    obtain ⟨q1, q2⟩ := hp i hi
    rcases Int.lt_trichotomy (f i) p with h | h | h
    · have e := q2 h
      have : (f i - p) * (amt c os left i - z i) = (p - f i) * (z i - amt c os left i) := by
        rw [← Int.neg_sub p (f i), ← Int.neg_sub (z i), Int.neg_mul_neg]
      rw [this]
      exact Int.mul_nonneg (by omega) (by omega)
    · rw [show f i - p = 0 by omega, Int.zero_mul]; exact Int.le_refl _
    · have e := q1 h
      exact Int.mul_nonneg (by omega) (by omega)
  have e : S (fun i => f i * amt c os left i) os = S (fun i => (f i - p) * (amt c os left i - z i) + (p * (amt c os left i) + (f i * z i + (-p) * z i))) os := S_congr (fun i _ => by
    rw [Int.sub_mul, Int.mul_sub, Int.mul_sub, Int.neg_mul]; omega)
  rw [e, S_add, S_add, S_add, S_mul, S_mul, hsum, Int.neg_mul]
  omega
end Pl
end Go.Proofs.YtjbhooodjmjdkaaGreat
