/- Parts of the proof, one behind the other: KY1, KY2, KY3, KU0, KUa, KY4, KY5, KU1, Shelf, KSrt, KBl1, KBl2, KBl3, KBl4, EvX, KBl5. No conditions. -/
import Derived.Shelf.SlSortCmp.WholeK
import Derived.Shelf.Small.Bits
import Derived.Shelf.Small.Wraps
import Derived.Shelf.Strconv.Itoa0
import Derived.Shelf.Sort.Plain
import Derived.Shelf.Slices.In.SortNone
import Derived.Shelf.SlSortCmp.Insertion
import Derived.Shelf.SlSortCmp.InsertionK
import Derived.Shelf.SlSortCmp.SiftDownK
import Derived.Shelf.SlSortCmp.HeapSortK
import Derived.Shelf.SlSortCmp.MedianK
import Derived.Shelf.SlSortCmp.PivotK
import Derived.Shelf.SlSortCmp.ReverseRangeK
import Derived.Shelf.SlSortCmp.PartialInsertionK
import Derived.Shelf.SlSortCmp.PartitionEqualK
import Derived.Shelf.SlSortCmp.PartitionK
import Derived.Shelf.SlSortCmp.PdqK
import Derived.Shelf.SlSortCmp.Insertion1
import Derived.Shelf.SlSortCmp.NoneTotal
import Derived.Test.YtjbhooodjmjdkaaGreatProg
import Derived.Sort.OwnSortedInts
import Derived.Test.YtjbhooodjmjdkaaGreatCo8
/-! KY1 -/
namespace Go.Proofs.YtjbhooodjmjdkaaGreat
open Ev K
set_option maxRecDepth 100000
def lList : DecL XS := DecL.last xSurveys 0
def D_li1 := DecL.cons dShip (.cons dBulbs (.last (dRow1 1 lList) 0))
def D_li2 := DecL.cons dShip (.cons dBulbs (.last (dRow2 1 lList) 0))
/-- The error of a survey of a list. -/
noncomputable def K.svyE (b : Bulbs) (x : XS) (i : Nat) : Option Int := if (check (b, svy x i) != 0) = true then some (check (b, svy x i)) else if decide ((find_lst1 (svy x i) x).2 < (i : Int)) = true then some 6 else none
def S_lia := DecS.mk0 (.skips 4 (.unit (dLp 0 0 0 0) (.skips 5 (.cons xSurveys (.skips 15 (.cons (dRow1 1 lList) (.unit (dIl 1) (.unit (dIl 0) (.skips 11 (.cons xSurveys (.cons (dI .i64) (.last (dI .i64) 21))))))))))))  (.flat 31 lBulbs .nil)
def X_lia := DecX.or (DecX.one .ret [6] (DecS.mk1 (.skips 6 (.last (dI .i64) 57)))) (DecX.one (.exit 3) [4, 26, 27, 28] (DecS.mk0 (.skips 4 (.unit (dLp 0 0 0 0) (.skips 21 (.cons (dRow1 1 lList) (.unit (dIl 1) (.unit (dIl 0) (.tops 35))))))) (.flat 31 lBulbs .nil)))
noncomputable def K.st_lia := loopT1 P BKN112 30 48 121 [42, 10, 4, 40, 26, 27, 28, 41] S_lia X_lia
theorem sl_lia : ∀ s, (K.st_lia) s = T.run (
  .br (decide (Prod.snd (Prod.snd (Prod.snd (Prod.snd (Prod.fst s)))) < Prod.fst (Prod.snd (Prod.snd (Prod.snd (Prod.fst s)))))) (
    .chk (decide ((0 : Int) ≤ Prod.snd (Prod.snd (Prod.snd (Prod.snd (Prod.fst s)))) ∧ Prod.snd (Prod.snd (Prod.snd (Prod.snd (Prod.fst s)))) < (↑(XS.len (Prod.fst (Prod.snd (Prod.snd (Prod.fst s))))) : Int))) <|
    .br (check (Prod.fst (Prod.snd s), svy (Prod.fst (Prod.snd (Prod.snd (Prod.fst s)))) (Int.toNat (Prod.snd (Prod.snd (Prod.snd (Prod.snd (Prod.fst s))))))) != (0 : Int)) (
      .ret (Sum.inr (Sum.inl (check (Prod.fst (Prod.snd s), svy (Prod.fst (Prod.snd (Prod.snd (Prod.fst s)))) (Int.toNat (Prod.snd (Prod.snd (Prod.snd (Prod.snd (Prod.fst s))))))))))) (
      .br (decide (Prod.snd (find_lst1 (svy (Prod.fst (Prod.snd (Prod.snd (Prod.fst s)))) (Int.toNat (Prod.snd (Prod.snd (Prod.snd (Prod.snd (Prod.fst s))))))) (Prod.fst (Prod.fst s))) < Prod.snd (Prod.snd (Prod.snd (Prod.snd (Prod.fst s)))))) (
        .ret (Sum.inr (Sum.inl (6 : Int)))) (
        .ret (Sum.inl ((Prod.fst (Prod.fst s), Prod.fst (Prod.snd (Prod.fst s)), Prod.fst (Prod.snd (Prod.snd (Prod.fst s))), Prod.fst (Prod.snd (Prod.snd (Prod.snd (Prod.fst s)))), IntKind.wrap IntKind.i64 (Prod.snd (Prod.snd (Prod.snd (Prod.snd (Prod.fst s)))) + (1 : Int))), Prod.fst (Prod.snd s), PUnit.unit))))) (
    .ret (Sum.inr (Sum.inr ((Prod.fst (Prod.snd (Prod.fst s)), PUnit.unit), Prod.fst (Prod.snd s), PUnit.unit))))) := fun s => by kernel_rfl
noncomputable def K.L_lia := lim K.st_lia
theorem K.L_lia_eq (x : XS) (d : XS) (b : Bulbs) : K.L_lia ((x, d, x, (len x : Int), 0), b, ()) = some (K.orr Sum.inl (.inr ((d, ()), b, ())) ((List.range (len x)).findSome? (svyE b x))) := by
  have e1 := K.len_le x; have e2 := K.len_le' x
  refine lim_err (fun i => ((x, d, x, (len x : Int), (i : Int)), b, ())) (len x) (svyE b x) Sum.inl (Sum.inr ((d, ()), b, ())) (fun i hi => ?_) ?_
  · rw [sl_lia]
    unfold svyE; simp only [orr_ite2]
    rw [T.run_br, if_pos (by simp only [decide_eq_true_eq]; omega)]
    refine chk_step (by simp only [decide_eq_true_eq]; omega) ?_
    refine br_step (fun _ => rfl) (fun _ => ?_)
    refine br_step (fun _ => rfl) (fun _ => ?_)
    rw [T.run_ret, w64_in (n := (i : Int) + 1) (by omega) (by omega)]; rfl
  · rw [sl_lia]
    simp only [T.run_br, T.run_chk, T.run_ret, decide_eq_true_eq]
    rw [if_neg (by omega)]
noncomputable def BKY11 : Tab := BKN112.addNode 48 121 (nodeE [42, 10, 4, 40, 26, 27, 28, 41] S_lia X_lia (fun s => .obs (K.L_lia s) .ret))
theorem tKY11 : TabOk P BKY11 := TabOk.addLoop (d := 30) okP tKN112 (by kernel_rfl) (by kernel_rfl) (fun s r h => obs_ret h)

def S_lib := DecS.mk0 (.skips 4 (.unit (dLp 0 0 0 0) (.skips 5 (.cons xSurveys (.skips 15 (.cons (dRow2 1 lList) (.unit (dIl 2) (.unit (dIl 0) (.skips 11 (.cons xSurveys (.cons (dI .i64) (.last (dI .i64) 21))))))))))))  (.flat 31 lBulbs .nil)
def X_lib := DecX.or (DecX.one .ret [6] (DecS.mk1 (.skips 6 (.last (dI .i64) 57)))) (DecX.one (.exit 3) [4, 26, 27, 28] (DecS.mk0 (.skips 4 (.unit (dLp 0 0 0 0) (.skips 21 (.cons (dRow2 1 lList) (.unit (dIl 2) (.unit (dIl 0) (.tops 35))))))) (.flat 31 lBulbs .nil)))
noncomputable def K.st_lib := loopT1 P BKY11 30 48 121 [42, 10, 4, 40, 26, 27, 28, 41] S_lib X_lib
theorem sl_lib : ∀ s, (K.st_lib) s = T.run (
  .br (decide (Prod.snd (Prod.snd (Prod.snd (Prod.snd (Prod.fst s)))) < Prod.fst (Prod.snd (Prod.snd (Prod.snd (Prod.fst s)))))) (
    .chk (decide ((0 : Int) ≤ Prod.snd (Prod.snd (Prod.snd (Prod.snd (Prod.fst s)))) ∧ Prod.snd (Prod.snd (Prod.snd (Prod.snd (Prod.fst s)))) < (↑(XS.len (Prod.fst (Prod.snd (Prod.snd (Prod.fst s))))) : Int))) <|
    .br (check (Prod.fst (Prod.snd s), svy (Prod.fst (Prod.snd (Prod.snd (Prod.fst s)))) (Int.toNat (Prod.snd (Prod.snd (Prod.snd (Prod.snd (Prod.fst s))))))) != (0 : Int)) (
      .ret (Sum.inr (Sum.inl (check (Prod.fst (Prod.snd s), svy (Prod.fst (Prod.snd (Prod.snd (Prod.fst s)))) (Int.toNat (Prod.snd (Prod.snd (Prod.snd (Prod.snd (Prod.fst s))))))))))) (
      .br (decide (Prod.snd (find_lst1 (svy (Prod.fst (Prod.snd (Prod.snd (Prod.fst s)))) (Int.toNat (Prod.snd (Prod.snd (Prod.snd (Prod.snd (Prod.fst s))))))) (Prod.fst (Prod.fst s))) < Prod.snd (Prod.snd (Prod.snd (Prod.snd (Prod.fst s)))))) (
        .ret (Sum.inr (Sum.inl (6 : Int)))) (
        .ret (Sum.inl ((Prod.fst (Prod.fst s), Prod.fst (Prod.snd (Prod.fst s)), Prod.fst (Prod.snd (Prod.snd (Prod.fst s))), Prod.fst (Prod.snd (Prod.snd (Prod.snd (Prod.fst s)))), IntKind.wrap IntKind.i64 (Prod.snd (Prod.snd (Prod.snd (Prod.snd (Prod.fst s)))) + (1 : Int))), Prod.fst (Prod.snd s), PUnit.unit))))) (
    .ret (Sum.inr (Sum.inr ((Prod.fst (Prod.snd (Prod.fst s)), PUnit.unit), Prod.fst (Prod.snd s), PUnit.unit))))) := fun s => by kernel_rfl
noncomputable def K.L_lib := lim K.st_lib
theorem K.L_lib_eq (x : XS) (d : XS × XS) (b : Bulbs) : K.L_lib ((x, d, x, (len x : Int), 0), b, ()) = some (K.orr Sum.inl (.inr ((d, ()), b, ())) ((List.range (len x)).findSome? (svyE b x))) := by
  have e1 := K.len_le x; have e2 := K.len_le' x
  refine lim_err (fun i => ((x, d, x, (len x : Int), (i : Int)), b, ())) (len x) (svyE b x) Sum.inl (Sum.inr ((d, ()), b, ())) (fun i hi => ?_) ?_
  · rw [sl_lib]
    unfold svyE; simp only [orr_ite2]
    rw [T.run_br, if_pos (by simp only [decide_eq_true_eq]; omega)]
    refine chk_step (by simp only [decide_eq_true_eq]; omega) ?_
    refine br_step (fun _ => rfl) (fun _ => ?_)
    refine br_step (fun _ => rfl) (fun _ => ?_)
    rw [T.run_ret, w64_in (n := (i : Int) + 1) (by omega) (by omega)]; rfl
  · rw [sl_lib]
    simp only [T.run_br, T.run_chk, T.run_ret, decide_eq_true_eq]
    rw [if_neg (by omega)]
noncomputable def BKY12 : Tab := BKY11.addNode 48 121 (nodeE [42, 10, 4, 40, 26, 27, 28, 41] S_lib X_lib (fun s => .obs (K.L_lib s) .ret))
theorem tKY12 : TabOk P BKY12 := TabOk.addLoop (d := 30) okP tKY11 (by kernel_rfl) (by kernel_rfl) (fun s r h => obs_ret h)

def S_lic := DecS.mk0 (.skips 4 (.unit (dLp 0 0 0 0) (.skips 5 (.cons xSurveys (.skips 15 (.cons (dRow2 1 lList) (.unit (dIl 2) (.unit (dIl 1) (.skips 11 (.cons xSurveys (.cons (dI .i64) (.last (dI .i64) 21))))))))))))  (.flat 31 lBulbs .nil)
def X_lic := DecX.or (DecX.one .ret [6] (DecS.mk1 (.skips 6 (.last (dI .i64) 57)))) (DecX.one (.exit 3) [4, 26, 27, 28] (DecS.mk0 (.skips 4 (.unit (dLp 0 0 0 0) (.skips 21 (.cons (dRow2 1 lList) (.unit (dIl 2) (.unit (dIl 1) (.tops 35))))))) (.flat 31 lBulbs .nil)))
noncomputable def K.st_lic := loopT1 P BKY12 30 48 121 [42, 10, 4, 40, 26, 27, 28, 41] S_lic X_lic
theorem sl_lic : ∀ s, (K.st_lic) s = T.run (
  .br (decide (Prod.snd (Prod.snd (Prod.snd (Prod.snd (Prod.fst s)))) < Prod.fst (Prod.snd (Prod.snd (Prod.snd (Prod.fst s)))))) (
    .chk (decide ((0 : Int) ≤ Prod.snd (Prod.snd (Prod.snd (Prod.snd (Prod.fst s)))) ∧ Prod.snd (Prod.snd (Prod.snd (Prod.snd (Prod.fst s)))) < (↑(XS.len (Prod.fst (Prod.snd (Prod.snd (Prod.fst s))))) : Int))) <|
    .br (check (Prod.fst (Prod.snd s), svy (Prod.fst (Prod.snd (Prod.snd (Prod.fst s)))) (Int.toNat (Prod.snd (Prod.snd (Prod.snd (Prod.snd (Prod.fst s))))))) != (0 : Int)) (
      .ret (Sum.inr (Sum.inl (check (Prod.fst (Prod.snd s), svy (Prod.fst (Prod.snd (Prod.snd (Prod.fst s)))) (Int.toNat (Prod.snd (Prod.snd (Prod.snd (Prod.snd (Prod.fst s))))))))))) (
      .br (decide (Prod.snd (find_lst1 (svy (Prod.fst (Prod.snd (Prod.snd (Prod.fst s)))) (Int.toNat (Prod.snd (Prod.snd (Prod.snd (Prod.snd (Prod.fst s))))))) (Prod.fst (Prod.fst s))) < Prod.snd (Prod.snd (Prod.snd (Prod.snd (Prod.fst s)))))) (
        .ret (Sum.inr (Sum.inl (6 : Int)))) (
        .ret (Sum.inl ((Prod.fst (Prod.fst s), Prod.fst (Prod.snd (Prod.fst s)), Prod.fst (Prod.snd (Prod.snd (Prod.fst s))), Prod.fst (Prod.snd (Prod.snd (Prod.snd (Prod.fst s)))), IntKind.wrap IntKind.i64 (Prod.snd (Prod.snd (Prod.snd (Prod.snd (Prod.fst s)))) + (1 : Int))), Prod.fst (Prod.snd s), PUnit.unit))))) (
    .ret (Sum.inr (Sum.inr ((Prod.fst (Prod.snd (Prod.fst s)), PUnit.unit), Prod.fst (Prod.snd s), PUnit.unit))))) := fun s => by kernel_rfl
noncomputable def K.L_lic := lim K.st_lic
theorem K.L_lic_eq (x : XS) (d : XS × XS) (b : Bulbs) : K.L_lic ((x, d, x, (len x : Int), 0), b, ()) = some (K.orr Sum.inl (.inr ((d, ()), b, ())) ((List.range (len x)).findSome? (svyE b x))) := by
  have e1 := K.len_le x; have e2 := K.len_le' x
  refine lim_err (fun i => ((x, d, x, (len x : Int), (i : Int)), b, ())) (len x) (svyE b x) Sum.inl (Sum.inr ((d, ()), b, ())) (fun i hi => ?_) ?_
  · rw [sl_lic]
    unfold svyE; simp only [orr_ite2]
    rw [T.run_br, if_pos (by simp only [decide_eq_true_eq]; omega)]
    refine chk_step (by simp only [decide_eq_true_eq]; omega) ?_
    refine br_step (fun _ => rfl) (fun _ => ?_)
    refine br_step (fun _ => rfl) (fun _ => ?_)
    rw [T.run_ret, w64_in (n := (i : Int) + 1) (by omega) (by omega)]; rfl
  · rw [sl_lic]
    simp only [T.run_br, T.run_chk, T.run_ret, decide_eq_true_eq]
    rw [if_neg (by omega)]
noncomputable def BKY13 : Tab := BKY12.addNode 48 121 (nodeE [42, 10, 4, 40, 26, 27, 28, 41] S_lic X_lic (fun s => .obs (K.L_lic s) .ret))
theorem tKY13 : TabOk P BKY13 := TabOk.addLoop (d := 30) okP tKY12 (by kernel_rfl) (by kernel_rfl) (fun s r h => obs_ret h)

theorem fn_li1 : ∀ a, (callT1 P BKY13 30 48 D_li1 R_i) a = T.run (
  .br (hullCheck (Prod.fst a) != (0 : Int)) (
    .ret (hullCheck (Prod.fst a))) (
    .br (CheckBulbs (Prod.fst (Prod.snd a)) != (0 : Int)) (
      .ret (CheckBulbs (Prod.fst (Prod.snd a)))) (
      .br ((↑(len (Prod.snd (Prod.snd a))) : Int) == (0 : Int)) (
        .ret ((5 : Int))) (
        .br (decide ((↑(len (Prod.snd (Prod.snd a))) : Int) > (12 : Int))) (
          .ret ((2 : Int))) (
          .obs (L_lia ((Prod.snd (Prod.snd a), Prod.snd (Prod.snd a), Prod.snd (Prod.snd a), (↑(len (Prod.snd (Prod.snd a))) : Int), (0 : Int)), Prod.fst (Prod.snd a), PUnit.unit)) fun x0 =>
            .sum (x0) (fun x1 =>
              .ret (x1)) (fun x1 =>
              .ret ((0 : Int)))))))) := fun a => by kernel_rfl
theorem fn_li2 : ∀ a, (callT1 P BKY13 30 48 D_li2 R_i) a = T.run (
  .br (hullCheck (Prod.fst a) != (0 : Int)) (
    .ret (hullCheck (Prod.fst a))) (
    .br (CheckBulbs (Prod.fst (Prod.snd a)) != (0 : Int)) (
      .ret (CheckBulbs (Prod.fst (Prod.snd a)))) (
      .br ((↑(len (Prod.fst (Prod.snd (Prod.snd a)))) : Int) == (0 : Int)) (
        .ret ((5 : Int))) (
        .br (decide ((↑(len (Prod.fst (Prod.snd (Prod.snd a)))) : Int) > (12 : Int))) (
          .ret ((2 : Int))) (
          .obs (L_lib ((Prod.fst (Prod.snd (Prod.snd a)), Prod.snd (Prod.snd a), Prod.fst (Prod.snd (Prod.snd a)), (↑(len (Prod.fst (Prod.snd (Prod.snd a)))) : Int), (0 : Int)), Prod.fst (Prod.snd a), PUnit.unit)) fun x0 =>
            .sum (x0) (fun x1 =>
              .ret (x1)) (fun x1 =>
              .br ((↑(len (Prod.snd (Prod.fst (Prod.fst x1)))) : Int) == (0 : Int)) (
                .ret ((5 : Int))) (
                .br (decide ((↑(len (Prod.snd (Prod.fst (Prod.fst x1)))) : Int) > (12 : Int))) (
                  .ret ((2 : Int))) (
                  .obs (L_lic ((Prod.snd (Prod.fst (Prod.fst x1)), Prod.fst (Prod.fst x1), Prod.snd (Prod.fst (Prod.fst x1)), (↑(len (Prod.snd (Prod.fst (Prod.fst x1)))) : Int), (0 : Int)), Prod.fst (Prod.snd x1), PUnit.unit)) fun x2 =>
                    .sum (x2) (fun x3 =>
                      .ret (x3)) (fun x3 =>
                      .ret ((0 : Int))))))))))) := fun a => by kernel_rfl
end Go.Proofs.YtjbhooodjmjdkaaGreat
/-! KY2 -/
namespace Go.Proofs.YtjbhooodjmjdkaaGreat
open Ev K
set_option maxRecDepth 100000
/-- The error of a list. -/
noncomputable def K.listO (b : Bulbs) (x : XS) : Option Int := if ((len x : Int) == 0) = true then some 5 else if decide ((len x : Int) > 12) = true then some 2 else (List.range (len x)).findSome? (svyE b x)
noncomputable def K.listed1 (a : Ship × Bulbs × XS) : Int := if (hullCheck a.1 != 0) = true then hullCheck a.1 else if (CheckBulbs a.2.1 != 0) = true then CheckBulbs a.2.1 else K.orr id 0 (listO a.2.1 a.2.2)
noncomputable def K.listed2 (a : Ship × Bulbs × XS × XS) : Int := if (hullCheck a.1 != 0) = true then hullCheck a.1 else if (CheckBulbs a.2.1 != 0) = true then CheckBulbs a.2.1 else K.orr id (K.orr id 0 (listO a.2.1 a.2.2.2)) (listO a.2.1 a.2.2.1)
theorem K.listed1_eq (a : Ship × Bulbs × XS) : callT1 P BKY13 30 48 D_li1 R_i a = some (listed1 a) := by
  rw [fn_li1]; unfold listed1 listO; simp only [orr_ite2]
  refine br_step (fun _ => rfl) (fun _ => ?_)
  refine br_step (fun _ => rfl) (fun _ => ?_)
  refine br_step (fun _ => rfl) (fun _ => ?_)
  refine br_step (fun _ => rfl) (fun _ => ?_)
  rw [L_lia_eq]
  cases (List.range (len a.2.2)).findSome? (svyE a.2.1 a.2.2) <;> rfl
theorem K.listed2_eq (a : Ship × Bulbs × XS × XS) : callT1 P BKY13 30 48 D_li2 R_i a = some (listed2 a) := by
  rw [fn_li2]; unfold listed2 listO; simp only [orr_ite2]
  refine br_step (fun _ => rfl) (fun _ => ?_)
  refine br_step (fun _ => rfl) (fun _ => ?_)
  refine br_step (fun _ => rfl) (fun _ => ?_)
  refine br_step (fun _ => rfl) (fun _ => ?_)
  rw [L_lib_eq]
  cases (List.range (len a.2.2.1)).findSome? (svyE a.2.1 a.2.2.1) with
  | some e => rfl
  | none =>
    simp only [K.orr, T.run_some, T.run_inr]
    refine br_step (fun _ => rfl) (fun _ => ?_)
    refine br_step (fun _ => rfl) (fun _ => ?_)
    rw [L_lic_eq]
    cases (List.range (len a.2.2.2)).findSome? (svyE a.2.1 a.2.2.2) <;> rfl
noncomputable def BKY21 : Tab := BKY13.addCall 48 (callE D_li1 R_i (fun a => .ret (listed1 a)))
theorem tKY21 : TabOk P BKY21 := TabOk.addPC tKY13 (fun a r h => by rw [← ret_some h]; exact call_of okP tKY13 (listed1_eq a))
noncomputable def BKY22 : Tab := BKY21.addCall 48 (callE D_li2 R_i (fun a => .ret (listed2 a)))
theorem tKY22 : TabOk P BKY22 := TabOk.addPC tKY21 (fun a r h => by rw [← ret_some h]; exact call_of okP tKY13 (listed2_eq a))
/-! masses -/
def V_mss : DecL (XS × Ship × Bulbs) := DecL.cons (dP 1 (.last xSurveys 0) 0) (.cons (dP 11 lShip 0) (.last (dP 2 lBulbs 0) 0))
def eMass (p : Int × Span) : List AV := [.int .i64 p.1, dSpan.enc p.2]
def S_mss := DecS.yld (.unit dYv (.skip (.cons (dP 11 lShip 0) (.cons (dP 2 lBulbs 0) (.skips 3 (.cons xSurveys (.cons (dI .i64) (.last (dI .i64) 13)))))))) .nil
def X_mss := DecX.or (DecX.one .ret [] (DecS.yld (.tops 23) .nil)) (DecX.one (.exit 0) [] (DecS.yld (.tops 23) .nil))
noncomputable def K.st_mss := loopT1 P BKY22 30 167 9 [9, 3, 2, 0, 7, 8] S_mss X_mss
theorem sl_mss : ∀ s, (K.st_mss) s = T.run (
  .br (decide (Prod.snd (Prod.snd (Prod.snd (Prod.snd (Prod.fst s)))) < Prod.fst (Prod.snd (Prod.snd (Prod.snd (Prod.fst s)))))) (
    .chk (decide ((0 : Int) ≤ Prod.snd (Prod.snd (Prod.snd (Prod.snd (Prod.fst s)))) ∧ Prod.snd (Prod.snd (Prod.snd (Prod.snd (Prod.fst s)))) < (↑(XS.len (Prod.fst (Prod.snd (Prod.snd (Prod.fst s))))) : Int))) <|
    .chk (massOk (Prod.fst (Prod.fst s)) (svy (Prod.fst (Prod.snd (Prod.snd (Prod.fst s)))) (Int.toNat (Prod.snd (Prod.snd (Prod.snd (Prod.snd (Prod.fst s)))))))) <|
    .br (!Prod.fst (Prod.snd (Prod.snd s)) (List.length (Prod.snd (Prod.snd (Prod.snd s))))) (
      .ret (Sum.inr (Sum.inl (PUnit.unit, PUnit.unit, Prod.fst (Prod.snd (Prod.snd s)), ([AV.int IntKind.i64 (XS.g (Prod.fst (Prod.snd (Prod.snd (Prod.fst s)))) (Int.toNat (Prod.snd (Prod.snd (Prod.snd (Prod.snd (Prod.fst s)))))) (0 : Nat)), AV.agg [AV.int IntKind.i64 (Span.lo (massOf (Prod.fst (Prod.fst s)) (Prod.fst (Prod.snd (Prod.fst s))) (svy (Prod.fst (Prod.snd (Prod.snd (Prod.fst s)))) (Int.toNat (Prod.snd (Prod.snd (Prod.snd (Prod.snd (Prod.fst s))))))))), AV.int IntKind.i64 (Span.hi (massOf (Prod.fst (Prod.fst s)) (Prod.fst (Prod.snd (Prod.fst s))) (svy (Prod.fst (Prod.snd (Prod.snd (Prod.fst s)))) (Int.toNat (Prod.snd (Prod.snd (Prod.snd (Prod.snd (Prod.fst s)))))))))]], Prod.fst (Prod.snd (Prod.snd s)) (List.length (Prod.snd (Prod.snd (Prod.snd s))))) :: Prod.snd (Prod.snd (Prod.snd s)))))) (
      .ret (Sum.inl ((Prod.fst (Prod.fst s), Prod.fst (Prod.snd (Prod.fst s)), Prod.fst (Prod.snd (Prod.snd (Prod.fst s))), Prod.fst (Prod.snd (Prod.snd (Prod.snd (Prod.fst s)))), IntKind.wrap IntKind.i64 (Prod.snd (Prod.snd (Prod.snd (Prod.snd (Prod.fst s)))) + (1 : Int))), PUnit.unit, Prod.fst (Prod.snd (Prod.snd s)), ([AV.int IntKind.i64 (XS.g (Prod.fst (Prod.snd (Prod.snd (Prod.fst s)))) (Int.toNat (Prod.snd (Prod.snd (Prod.snd (Prod.snd (Prod.fst s)))))) (0 : Nat)), AV.agg [AV.int IntKind.i64 (Span.lo (massOf (Prod.fst (Prod.fst s)) (Prod.fst (Prod.snd (Prod.fst s))) (svy (Prod.fst (Prod.snd (Prod.snd (Prod.fst s)))) (Int.toNat (Prod.snd (Prod.snd (Prod.snd (Prod.snd (Prod.fst s))))))))), AV.int IntKind.i64 (Span.hi (massOf (Prod.fst (Prod.fst s)) (Prod.fst (Prod.snd (Prod.fst s))) (svy (Prod.fst (Prod.snd (Prod.snd (Prod.fst s)))) (Int.toNat (Prod.snd (Prod.snd (Prod.snd (Prod.snd (Prod.fst s)))))))))]], Prod.fst (Prod.snd (Prod.snd s)) (List.length (Prod.snd (Prod.snd (Prod.snd s))))) :: Prod.snd (Prod.snd (Prod.snd s)))))) (
    .ret (Sum.inr (Sum.inr (PUnit.unit, PUnit.unit, Prod.snd (Prod.snd s)))))) := fun s => by kernel_rfl
noncomputable def K.L_mss := lim K.st_mss
noncomputable def BKY23 : Tab := BKY22.addNode 167 9 (nodeE [9, 3, 2, 0, 7, 8] S_mss X_mss (fun s => .obs (K.L_mss s) .ret))
theorem tKY23 : TabOk P BKY23 := TabOk.addLoop (d := 30) okP tKY22 (by kernel_rfl) (by kernel_rfl) (fun s r h => obs_ret h)
noncomputable def I_mss (a : XS × Ship × Bulbs) (bs : Nat → Bool) := iterT1 P BKY23 30 167 [] (V_mss.enc a) bs
theorem it_mss : ∀ a bs, (I_mss) a bs = T.run (
  .obs (L_mss ((Prod.fst (Prod.snd a), Prod.snd (Prod.snd a), Prod.fst a, (↑(len (Prod.fst a)) : Int), (0 : Int)), PUnit.unit, bs, [])) fun x0 =>
    .sum (x0) (fun x1 =>
      .ret (List.reverse (Prod.snd (Prod.snd (Prod.snd x1))))) (fun x1 =>
      .ret (List.reverse (Prod.snd (Prod.snd (Prod.snd x1)))))) := fun a bs => by kernel_rfl
end Go.Proofs.YtjbhooodjmjdkaaGreat
/-! KY3 -/
namespace Go.Proofs.YtjbhooodjmjdkaaGreat
open Ev K
set_option maxRecDepth 100000
noncomputable def K.massesL (s : Ship) (b : Bulbs) (x : XS) : List (Int × Span) := (List.range (len x)).map fun i => ((svy x i).id, massOf s b (svy x i))
noncomputable def K.massesOk (s : Ship) (x : XS) : Bool := (List.range (len x)).all fun i => massOk s (svy x i)
theorem K.massesOk_at {s : Ship} {x : XS} (h : massesOk s x = true) {i : Nat} (hi : i < len x) : massOk s (svy x i) = true := List.all_eq_true.1 h i (List.mem_range.2 hi)
section
variable (s : Ship) (b : Bulbs) (x : XS) {bs : Nat → Bool} (ok : massesOk s x = true)
abbrev K.Sm (s : Ship) (b : Bulbs) (x : XS) (bs : Nat → Bool) (i : Nat) (out : List (List AV × Bool)) := ((s, b, x, (len x : Int), (i : Int)), PUnit.unit, bs, out)
noncomputable abbrev K.em (s : Ship) (b : Bulbs) (x : XS) (i : Nat) : List AV := eMass ((svy x i).id, massOf s b (svy x i))
include ok
theorem mss_y (i : Nat) (hi : i < K.len x) (out : List (List AV × Bool)) (hb : bs out.length = true) : st_mss (Sm s b x bs i out) = some (.inl (Sm s b x bs (i + 1) ((em s b x i, true) :: out))) := by
  have e1 := K.len_le x; have e2 := K.len_le' x
  rw [sl_mss]
  refine Eq.trans (T.run_br _ _ _) ?_
  rw [if_pos (by simp only [decide_eq_true_eq]; omega)]
  refine chk_step (by simp only [decide_eq_true_eq]; omega) (chk_step (by rw [Int.toNat_natCast]; exact massesOk_at ok hi) ?_)
  simp only [T.run_br, T.run_ret, hb]
  rw [if_neg (by simp), w64_in (by omega) (by omega)]
  rfl
theorem mss_s (i : Nat) (hi : i < K.len x) (out : List (List AV × Bool)) (hb : bs out.length = false) : st_mss (Sm s b x bs i out) = some (.inr (.inl ((), (), bs, (em s b x i, false) :: out))) := by
  have e1 := K.len_le x; have e2 := K.len_le' x
  rw [sl_mss]
  refine Eq.trans (T.run_br _ _ _) ?_
  rw [if_pos (by simp only [decide_eq_true_eq]; omega)]
  refine chk_step (by simp only [decide_eq_true_eq]; omega) (chk_step (by rw [Int.toNat_natCast]; exact massesOk_at ok hi) ?_)
  simp only [T.run_br, T.run_ret, hb]
  rw [if_pos (by simp)]
  rfl
omit ok in
theorem mss_e (out) : st_mss (Sm s b x bs (K.len x) out) = some (.inr (.inr ((), (), bs, out))) := by
  rw [sl_mss]
  simp only [T.run_br, T.run_chk, T.run_ret, decide_eq_true_eq]
  rw [if_neg (by omega)]
theorem icl_mss : ICL P 167 [] (V_mss.enc (x, s, b)) ((massesL s b x).map eMass) := by
  refine iter_of okP tKY23  (d := 30) ?_ (fun m y hy => ?_)
  · show I_mss (x, s, b) _ = _
    rw [it_mss]
    show T.run (.obs (lim st_mss (Sm s b x _ 0 [])) _) = _
    rw [lim_yields_all (Sm s b x _) (n := K.len x) (fun _ => true) (em s b x) (fun o => Sum.inr ((), (), (fun _ => true), o)) (fun i hi out hp => by cases hp) (fun i hi out hp hb => mss_y s b x ok i hi out hb) (fun out => mss_e s b x out) (fun _ => rfl) (K.len x) 0 [] (by omega)]
    simp only [T.run_some, T.run_inr, T.run_ret, List.append_nil, List.reverse_reverse, massesL, List.map_map, ← List.range_eq_range', filter_all]
    rfl
  · show I_mss (x, s, b) _ = _
    rw [it_mss]
    show T.run (.obs (lim st_mss (Sm s b x _ 0 [])) _) = _
    have hy' : (((List.range' 0 (K.len x)).filter (fun _ => true)).map (em s b x))[m - ([] : List (List AV × Bool)).length]? = some y := by
      rw [← List.range_eq_range']; simpa [massesL, List.map_map, Function.comp_def, filter_all] using hy
    rw [lim_yields_stop (Sm s b x _) (n := K.len x) (fun _ => true) (em s b x) (fun o => Sum.inl ((), (), (fun k => !(Nat.beq k m)), o)) (fun i hi out hp => by cases hp) (fun i hi out hp hb => mss_y s b x ok i hi out hb) (fun i hi out hp hb => mss_s s b x ok i hi out hb) (fun _ => rfl) (K.len x) 0 [] (by omega) (by simp) hy']
    simp only [T.run_some, T.run_inl, T.run_ret, List.append_nil, List.reverse_cons, List.reverse_reverse, List.length_nil, Nat.sub_zero, ← List.range_eq_range', massesL, List.map_map, filter_all]
    rfl
end
def D_mss := DecL.cons (dShip) (.cons (dBulbs) (.last (dX 18 [.int .i64, .int .i64, .int .i64, .int .i64, .int .i64, .int .i64, .int .i64, .int .i64, .int .i64, .int .i64, .int .i64, .int .i64, .int .i64, .int .i64, .int .i64, .int .i64, .int .i64, .int .i64]) 0))
def R_mss := dFn 167 V_mss
theorem fn_mss : ∀ a, (callT1 P BKY23 30 118 D_mss R_mss) a = T.run (
  .ret ((Prod.snd (Prod.snd a), Prod.fst a, Prod.fst (Prod.snd a)))) := fun a => by kernel_rfl
noncomputable def BKY31 : Tab := BKY23.addCall 118 (callE D_mss R_mss (fun a => .ret (a.2.2, a.1, a.2.1)))
theorem tKY31 : TabOk P BKY31 := TabOk.addFn (d := 30) okP tKY23 (fun a r h => by rw [fn_mss]; exact h)
def S_tog := DecS.mk0 (.skips 6 (.unit (dLp 0 0 0 0) (.unit (dLp 1 0 0 0) (.skips 10 (.last R_mss 6))))) (.flat 39 lSpan (.flat 39 lSpan .nil))
noncomputable def K.st_tog := rangeT1 P BKY31 30 50 25 [18, 6, 7] S_tog DecX.no eMass
theorem rg_tog : ∀ s x, (K.st_tog) s x = T.run (
  .ret (Sum.inl (Prod.fst s, Prod.fst (Prod.snd s), meet (Prod.fst (Prod.snd (Prod.snd s))) (Prod.snd x), PUnit.unit))) := fun s x => by kernel_rfl
theorem st_tog_eq (s) (p : Int × Span) : st_tog s p = some (.inl (s.1, s.2.1, meet s.2.2.1 p.2, ())) := by
  rw [rg_tog]; rfl
theorem fold_tog (L : List (Int × Span)) (a : XS × Ship × Bulbs) (r c : Span) : L.foldl (fun (s : (XS × Ship × Bulbs) × Span × Span × Unit) p => (s.1, s.2.1, meet s.2.2.1 p.2, ())) (a, r, c, ()) = (a, r, L.foldl (fun c p => meet c p.2) c, ()) := by
  induction L generalizing c with
  | nil => rfl
  | cons x L ih => simp only [List.foldl_cons]; exact ih _
noncomputable def BKY32 : Tab := BKY31.addNode 50 25 (rangeE [18, 6, 7] S_tog DecX.no (fun s => .chk (massesOk s.1.2.1 s.1.1) (.ret (.inl (s.1, s.2.1, (massesL s.1.2.1 s.1.2.2 s.1.1).foldl (fun c p => meet c p.2) s.2.2.1, ())))))
theorem tKY32 : TabOk P BKY32 := TabOk.addRange (d := 30) (enc := eMass) (L := (fun s => massesL s.1.2.1 s.1.2.2 s.1.1)) okP tKY31 (by kernel_rfl) (by kernel_rfl) (fun s r h => ⟨_, _, _, (by kernel_rfl : _ = some (167, [], V_mss.enc s.1)), icl_mss s.1.2.1 s.1.2.2 s.1.1 (chk_ret h).1⟩) (fun s r h => by have e := (chk_ret h).2; subst e; rw [← fold_tog]; exact foldS_total st_tog_eq _ _)
def D_tog := D_mss
theorem fn_tog : ∀ a, (callT1 P BKY32 30 50 D_tog dSpan) a = T.run (
  .chk (massesOk (Prod.fst a) (Prod.snd (Prod.snd a))) <|
  .ret (List.foldl (fun c p => meet c (Prod.snd p)) (Span.mk (Ship.light (Prod.fst a)) (rooms (Prod.fst a))) (massesL (Prod.fst a) (Prod.fst (Prod.snd a)) (Prod.snd (Prod.snd a))))) := fun a => by kernel_rfl
noncomputable def K.togetherOf (s : Ship) (b : Bulbs) (x : XS) : Span := (massesL s b x).foldl (fun c p => meet c p.2) ⟨s.light, rooms s⟩
noncomputable def BKY33 : Tab := BKY32.addCall 50 (callE D_tog dSpan (fun a => .chk (massesOk a.1 a.2.2) (.ret (togetherOf a.1 a.2.1 a.2.2))))
theorem tKY33 : TabOk P BKY33 := TabOk.addFn (d := 30) okP tKY32 (fun a r h => by rw [fn_tog]; exact h)
theorem fn_Tog : ∀ a, (callT1 P BKY33 30 40 D_tog R_off) a = T.run (
  .br (listed1 a != (0 : Int)) (
    .ret ((Span.mk (0 : Int) (0 : Int), listed1 a))) (
    .chk (massesOk (Prod.fst a) (Prod.snd (Prod.snd a))) <|
    .br (void (togetherOf (Prod.fst a) (Prod.fst (Prod.snd a)) (Prod.snd (Prod.snd a)))) (
      .ret ((Span.mk (0 : Int) (0 : Int), (9 : Int)))) (
      .ret ((togetherOf (Prod.fst a) (Prod.fst (Prod.snd a)) (Prod.snd (Prod.snd a)), (0 : Int)))))) := fun a => by kernel_rfl
end Go.Proofs.YtjbhooodjmjdkaaGreat
/-! KU0 -/
namespace Go.Proofs.YtjbhooodjmjdkaaGreat
open Ev K
set_option maxRecDepth 100000
namespace K
theorem idx_lt {p : Nat → Bool} {n i : Nat} (hi : i < n) (hp : p i = true) : decide (idx p n < (i : Int)) = (first p i).isSome := by
  unfold idx
  cases hf : first p n with
  | none => have := first_none' hf i hi; rw [hp] at this; cases this
  | some j =>
    obtain ⟨h1, h2, h3⟩ := first_spec hf
    have hji : j ≤ i := by
      rcases Nat.lt_or_ge i j with h | h
      · have := h3 i h; rw [hp] at this; cases this
      · exact h
    rcases Nat.lt_or_eq_of_le hji with h | h
    · rw [first_some h h2 h3, decide_eq_true (show (j : Int) < i by omega)]; rfl
    · subst h
      rw [first_none h3, decide_eq_false (show ¬ (j : Int) < j by omega)]; rfl
theorem find_lst1_idx (x : XS) (i : Nat) : (find_lst1 (svy x i) x).2 = idx (fun j => x.g j 0 == x.g i 0) (len x) := by
  unfold find_lst1; rw [found_idx]; rfl
theorem svyE_ne (b : Bulbs) (x : XS) (i : Nat) (e : Int) (h : svyE b x i = some e) : e ≠ 0 := by
  unfold svyE at h
  split at h
  · rename_i hc; injection h with h; subst h; simpa using hc
  split at h
  · injection h with h; omega
  · cases h
/-- What a list without an error is. -/
structure ListOk (b : Bulbs) (x : XS) : Prop where
  pos : 0 < len x
  le : len x ≤ 12
  each : ∀ i, i < len x → check (b, svy x i) = 0
  apart : ∀ i j, i < len x → j < i → x.g j 0 ≠ x.g i 0
theorem listO_ne (b : Bulbs) (x : XS) (e : Int) (h : listO b x = some e) : e ≠ 0 := by
  unfold listO at h
  split at h
  · injection h with h; omega
  split at h
  · injection h with h; omega
  · exact findSome_ne (svyE_ne b x) e h
theorem listO_ok {b : Bulbs} {x : XS} (h : listO b x = none) : ListOk b x := by
  unfold listO at h
  split at h
  · cases h
  rename_i h1
  split at h
  · cases h
  rename_i h2
  have h1 : ¬ (len x : Int) = 0 := by simpa using h1
  have h2 : ¬ (len x : Int) > 12 := by simpa using h2
  have hn := none_all h
  have he : ∀ i, i < len x → check (b, svy x i) = 0 := fun i hi => by
    have := hn i hi
    unfold svyE at this
    split at this
    · cases this
    · rename_i hc; simpa using hc
  refine ⟨by omega, by omega, he, fun i j hi hj heq => ?_⟩
  have := hn i hi
  unfold svyE at this
  rw [he i hi] at this
  simp only [bne_self_eq_false, Bool.false_eq_true, if_false] at this
  split at this
  · cases this
  rename_i hc
  rw [find_lst1_idx, idx_lt hi (by simp)] at hc
  apply hc
  cases hf : first (fun j => x.g j 0 == x.g i 0) i with
  | some k => rfl
  | none => have := first_none' hf j hj; simp at this; exact absurd heq this
theorem orr_zero' {o : Option Int} (hne : ∀ x, o = some x → x ≠ 0) : K.orr id 0 o = 0 ↔ o = none := ⟨fun h => orr_zero h hne, fun h => by rw [h]; rfl⟩
theorem list_ok {s : Ship} {b : Bulbs} {x : XS} (h : listed1 (s, b, x) = 0) : ShipOk s ∧ CheckBulbs b = 0 ∧ ListOk b x := by
  unfold listed1 at h
  obtain ⟨h1, h⟩ := ite_err h
  obtain ⟨h2, h⟩ := ite_err h
  exact ⟨ship_ok h1, h2, listO_ok ((orr_zero' (listO_ne b x)).1 h)⟩
theorem list2_ok {s : Ship} {b : Bulbs} {x y : XS} (h : listed2 (s, b, x, y) = 0) : ShipOk s ∧ CheckBulbs b = 0 ∧ ListOk b x ∧ ListOk b y := by
  unfold listed2 at h
  obtain ⟨h1, h⟩ := ite_err h
  obtain ⟨h2, h⟩ := ite_err h
  cases hx : listO b x with
  | some e => rw [hx] at h; exact absurd h (listO_ne b x e hx)
  | none => rw [hx] at h; exact ⟨ship_ok h1, h2, listO_ok hx, listO_ok ((orr_zero' (listO_ne b y)).1 h)⟩
theorem svy_ok {b : Bulbs} {x : XS} (l : ListOk b x) {i : Nat} (hi : i < len x) : Good (svy x i) ∧ (density (b, svy x i)).2 = 0 ∧ (extremes (svy x i)).2 = true := check_ok (l.each i hi)
theorem massesOk_is {s : Ship} {b : Bulbs} {x : XS} (hs : ShipOk s) (l : ListOk b x) : massesOk s x = true := by
  unfold massesOk
  rw [List.all_eq_true]
  intro i hi
  obtain ⟨g, d, e⟩ := svy_ok l (List.mem_range.1 hi)
  exact (massOk_is hs g e).1
theorem foldl_same {α β : Type} {f g : β → α → β} : ∀ (l : List α) (a : β), (∀ a x, x ∈ l → f a x = g a x) → l.foldl f a = l.foldl g a
  | [], a, h => rfl
  | x :: l, a, h => by
    rw [List.foldl_cons, List.foldl_cons, h a x (by simp)]
    exact foldl_same l _ (fun a y hy => h a y (by simp [hy]))
/-- Equal, or both empty. -/
def Alike (c d : Span) : Prop := c = d ∨ (void c = true ∧ void d = true)
theorem meet_void {c m : Span} (h : void c = true) : void (meet c m) = true := by
  have h := void_true.1 h
  apply void_true.2
  unfold meet; simp only
  split <;> split <;> omega
theorem fold_alike (ms : List Span) : ∀ {c d : Span}, Alike c d → Alike (ms.foldl meet c) (ms.foldl meet d) := by
  induction ms with
  | nil => intro c d h; exact h
  | cons m ms ih =>
    intro c d h
    simp only [List.foldl_cons]
    apply ih
    rcases h with h | ⟨h1, h2⟩
    · exact .inl (by rw [h])
    · exact .inr ⟨meet_void h1, meet_void h2⟩
theorem meet_again (z l : Span) : meet l (meet z l) = meet z l := by
  unfold meet
  apply Span.ext
  · simp only; split <;> split <;> omega
  · simp only; split <;> split <;> omega
end K
end Go.Proofs.YtjbhooodjmjdkaaGreat
/-! KUa -/
namespace Go.Proofs.YtjbhooodjmjdkaaGreat
open Ev K
set_option maxRecDepth 100000
noncomputable def K.sTog (a : Ship × Bulbs × XS) : Span × Int := if (listed1 a != 0) = true then (⟨0, 0⟩, listed1 a) else if void (togetherOf a.1 a.2.1 a.2.2) = true then (⟨0, 0⟩, 9) else (togetherOf a.1 a.2.1 a.2.2, 0)
theorem K.sTog_eq (a : Ship × Bulbs × XS) : callT1 P BKY33 30 40 D_tog R_off a = some (sTog a) := by
  obtain ⟨s, b, x⟩ := a
  rw [fn_Tog]; unfold sTog
  refine br_step (fun _ => rfl) (fun h => ?_)
  obtain ⟨hs, hb, l⟩ := list_ok (bne_zero h)
  exact chk_step (massesOk_is hs l) (br_step (fun _ => rfl) (fun _ => rfl))
noncomputable def BKUa1 : Tab := BKY33.addCall 40 (callE D_tog R_off (fun a => .ret (sTog a)))
theorem tKUa1 : TabOk P BKUa1 := TabOk.addPC tKY33 (fun a r h => by rw [← ret_some h]; exact call_of okP tKY33 (sTog_eq a))
namespace K
theorem sTog_ok {s : Ship} {b : Bulbs} {x : XS} (h : (sTog (s, b, x)).2 = 0) : ShipOk s ∧ CheckBulbs b = 0 ∧ ListOk b x ∧ void (togetherOf s b x) = false ∧ (sTog (s, b, x)).1 = togetherOf s b x := by
  unfold sTog at h ⊢
  by_cases h1 : (listed1 (s, b, x) != 0) = true
  · rw [if_pos h1] at h; have h : listed1 (s, b, x) = 0 := h; rw [h] at h1; exact absurd h1 (by decide)
  rw [if_neg h1] at h ⊢
  obtain ⟨hs, hb, l⟩ := list_ok (bne_zero h1)
  refine ⟨hs, hb, l, ?_⟩
  by_cases h2 : void (togetherOf s b x) = true
  · rw [if_pos h2] at h; cases h
  rw [if_neg h2]
  exact ⟨by simpa using h2, rfl⟩
end K
noncomputable def BKUa2 : Tab := BKUa1
theorem tKUa2 : TabOk P BKUa2 := tKUa1
def D_list := DecL.last xSurveys 0
theorem fn_list : ∀ a, (callT1 P BKUa2 30 11 D_list dB) a = T.run (
  .br (decide ((↑(len a) : Int) ≤ (5 : Int))) (
    .ret (true)) (
    .br (decide ((↑(len a) : Int) > (12 : Int))) (
      .ret (decide ((↑(len a) : Int) ≤ (20 : Int)))) (
      .ret (false)))) := fun a => by kernel_rfl
noncomputable def K.list (a : XS) : Bool := (if (decide ((↑(len a) : Int) ≤ (5 : Int))) = true then true else (if (decide ((↑(len a) : Int) > (12 : Int))) = true then decide ((↑(len a) : Int) ≤ (20 : Int)) else false))
theorem eq_list (a : XS) : (callT1 P BKUa2 30 11 D_list dB) a = some (K.list a) := (fn_list a).trans (T.br_some rfl (T.br_some rfl rfl))
noncomputable def BKUa3 : Tab := BKUa2.addCall 11 (callE D_list dB (fun a => .ret (K.list a)))
theorem tKUa3 : TabOk P BKUa3 := TabOk.addFn (d := 30) okP tKUa2 (fun a r h => by rw [eq_list]; exact congrArg some (ret_some h))
end Go.Proofs.YtjbhooodjmjdkaaGreat
/-! KY4 -/
namespace Go.Proofs.YtjbhooodjmjdkaaGreat
open Ev K
set_option maxRecDepth 100000
def D_rls := DecL.cons dBulbs (.last xSurveys 0)
def S_rlk := DecS.mk0 (.skip (.cons xSurveys (.unit (dLp 0 0 0 0) (.skips 2 (.cons (dI .i64) (.skip (.last (dI .i64) 37))))))) (.flat 31 lBulbs .nil)
def X_rlk := DecX.or (DecX.one .ret [4] (DecS.mk1 (.skips 4 (.last (dI .i64) 40)))) (DecX.one (.exit 2) [7, 5, 1, 2] S_rlk)
noncomputable def K.st_rlk := loopT1 P BKUa3 30 121 97 [7, 5, 1, 2] S_rlk X_rlk
theorem sl_rlk : ∀ s, (K.st_rlk) s = T.run (
  .br (decide (Prod.snd (Prod.snd (Prod.fst s)) < Prod.fst (Prod.snd (Prod.fst s)))) (
    .chk (decide ((0 : Int) ≤ Prod.snd (Prod.snd (Prod.fst s)) ∧ Prod.snd (Prod.snd (Prod.fst s)) < (↑(XS.len (Prod.fst (Prod.fst s))) : Int))) <|
    .chk (decide ((0 : Int) ≤ Prod.fst (Prod.snd (Prod.fst s)) ∧ Prod.fst (Prod.snd (Prod.fst s)) < (↑(XS.len (Prod.fst (Prod.fst s))) : Int))) <|
    .br (XS.g (Prod.fst (Prod.fst s)) (Int.toNat (Prod.snd (Prod.snd (Prod.fst s)))) (0 : Nat) == XS.g (Prod.fst (Prod.fst s)) (Int.toNat (Prod.fst (Prod.snd (Prod.fst s)))) (0 : Nat)) (
      .ret (Sum.inr (Sum.inl (6 : Int)))) (
      .ret (Sum.inl ((Prod.fst (Prod.fst s), Prod.fst (Prod.snd (Prod.fst s)), IntKind.wrap IntKind.i64 (Prod.snd (Prod.snd (Prod.fst s)) + (1 : Int))), Prod.fst (Prod.snd s), PUnit.unit)))) (
    .ret (Sum.inr (Sum.inr (Prod.fst s, Prod.fst (Prod.snd s), PUnit.unit))))) := fun s => by kernel_rfl
noncomputable def K.L_rlk := lim K.st_rlk
def K.p_rlk (x : XS) (i k : Nat) : Bool := x.g k 0 == x.g i 0
theorem K.L_rlk_eq (x : XS) (b : Bulbs) (i : Nat) (hi : i < len x) : K.L_rlk ((x, (i : Int), 0), b, ()) = some (match first (p_rlk x i) i with | some _ => Sum.inl 6 | none => Sum.inr ((x, (i : Int), (i : Int)), b, ())) := by
  have e1 := K.len_le x; have e2 := K.len_le' x
  refine lim_find (fun k => ((x, (i : Int), (k : Int)), b, ())) i (p_rlk x i) (fun _ => Sum.inl 6) (Sum.inr ((x, (i : Int), (i : Int)), b, ())) (fun k hk hp => ?_) (fun k hk hp => ?_) ?_
  · rw [sl_rlk]; unfold p_rlk at hp
    have c1 : (0 : Int) ≤ k ∧ (k : Int) < x.len := by omega
    have c2 : (0 : Int) ≤ i ∧ (i : Int) < x.len := by omega
    simp only [T.run_br, T.run_chk, T.run_ret, decide_eq_true_eq, Int.toNat_natCast, if_pos c1, if_pos c2]
    rw [if_pos (by omega), if_pos hp]
  · rw [sl_rlk]; unfold p_rlk at hp
    have c1 : (0 : Int) ≤ k ∧ (k : Int) < x.len := by omega
    have c2 : (0 : Int) ≤ i ∧ (i : Int) < x.len := by omega
    simp only [T.run_br, T.run_chk, T.run_ret, decide_eq_true_eq, Int.toNat_natCast, if_pos c1, if_pos c2]
    rw [if_pos (by omega), if_neg (by rw [hp]; decide), w64_in (by omega) (by omega)]; rfl
  · rw [sl_rlk]
    simp only [T.run_br, T.run_chk, T.run_ret, decide_eq_true_eq]
    rw [if_neg (by omega)]
noncomputable def BKY41 : Tab := BKUa3.addNode 121 97 (nodeE [7, 5, 1, 2] S_rlk X_rlk (fun s => .obs (K.L_rlk s) .ret))
theorem tKY41 : TabOk P BKY41 := TabOk.addLoop (d := 30) okP tKUa3 (by kernel_rfl) (by kernel_rfl) (fun s r h => obs_ret h)
def S_rls := DecS.mk0 (.skip (.cons xSurveys (.unit (dLp 0 0 0 0) (.skips 2 (.last (dI .i64) 39))))) (.flat 31 lBulbs .nil)
def X_rls := DecX.or (DecX.one .ret [4] (DecS.mk1 (.skips 4 (.last (dI .i64) 40)))) (DecX.one (.exit 0) [5, 1, 2] S_rls)
noncomputable def K.st_rls := loopT1 P BKY41 30 121 49 [5, 1, 2] S_rls X_rls
theorem sl_rls : ∀ s, (K.st_rls) s = T.run (
  .br (decide (Prod.snd (Prod.fst s) < (↑(len (Prod.fst (Prod.fst s))) : Int))) (
    .chk (decide ((0 : Int) ≤ Prod.snd (Prod.fst s) ∧ Prod.snd (Prod.fst s) < (↑(XS.len (Prod.fst (Prod.fst s))) : Int))) <|
    .br (r_check (Prod.fst (Prod.snd s)) (svy (Prod.fst (Prod.fst s)) (Int.toNat (Prod.snd (Prod.fst s)))) != (0 : Int)) (
      .ret (Sum.inr (Sum.inl (r_check (Prod.fst (Prod.snd s)) (svy (Prod.fst (Prod.fst s)) (Int.toNat (Prod.snd (Prod.fst s)))))))) (
      .obs (L_rlk ((Prod.fst (Prod.fst s), Prod.snd (Prod.fst s), (0 : Int)), Prod.fst (Prod.snd s), PUnit.unit)) fun x0 =>
        .sum (x0) (fun x1 =>
          .ret (Sum.inr (Sum.inl x1))) (fun x1 =>
          .ret (Sum.inl ((Prod.fst (Prod.fst x1), IntKind.wrap IntKind.i64 (Prod.fst (Prod.snd (Prod.fst x1)) + (1 : Int))), Prod.fst (Prod.snd x1), PUnit.unit))))) (
    .ret (Sum.inr (Sum.inr (Prod.fst s, Prod.fst (Prod.snd s), PUnit.unit))))) := fun s => by kernel_rfl
noncomputable def K.L_rls := lim K.st_rls
noncomputable def K.e_rls (b : Bulbs) (x : XS) (i : Nat) : Option Int := if (r_check b (svy x i) != 0) = true then some (r_check b (svy x i)) else if (first (p_rlk x i) i).isSome = true then some 6 else none
theorem K.L_rls_eq (x : XS) (b : Bulbs) : K.L_rls ((x, 0), b, ()) = some (K.orr Sum.inl (.inr ((x, (len x : Int)), b, ())) ((List.range (len x)).findSome? (e_rls b x))) := by
  have e1 := K.len_le x; have e2 := K.len_le' x
  refine lim_err (fun i => ((x, (i : Int)), b, ())) (len x) (e_rls b x) Sum.inl (Sum.inr ((x, (len x : Int)), b, ())) (fun i hi => ?_) ?_
  · rw [sl_rls]
    unfold e_rls; simp only [orr_ite2]
    rw [T.run_br, if_pos (by simp only [decide_eq_true_eq]; omega)]
    refine chk_step (by simp only [decide_eq_true_eq]; omega) ?_
    refine br_step (fun _ => rfl) (fun _ => ?_)
    show T.run (.obs (L_rlk ((x, (i : Int), 0), b, ())) _) = _
    rw [L_rlk_eq x b i hi]
    cases first (p_rlk x i) i with
    | some k => rfl
    | none =>
      simp only [T.run_some, T.run_inr, T.run_ret]
      rw [w64_in (n := (i : Int) + 1) (by omega) (by omega)]; rfl
  · rw [sl_rls]
    simp only [T.run_br, T.run_chk, T.run_ret, decide_eq_true_eq]
    rw [if_neg (by omega)]
noncomputable def BKY42 : Tab := BKY41.addNode 121 49 (nodeE [5, 1, 2] S_rls X_rls (fun s => .obs (K.L_rls s) .ret))
theorem tKY42 : TabOk P BKY42 := TabOk.addLoop (d := 30) okP tKY41 (by kernel_rfl) (by kernel_rfl) (fun s r h => obs_ret h)
theorem fn_rls : ∀ a, (callT1 P BKY42 30 121 D_rls R_i) a = T.run (
  .br ((↑(len (Prod.snd a)) : Int) == (0 : Int)) (
    .ret ((5 : Int))) (
    .br (decide ((↑(len (Prod.snd a)) : Int) > (12 : Int))) (
      .ret ((2 : Int))) (
      .obs (L_rls ((Prod.snd a, (0 : Int)), Prod.fst a, PUnit.unit)) fun x0 =>
        .sum (x0) (fun x1 =>
          .ret (x1)) (fun x1 =>
          .ret ((0 : Int)))))) := fun a => by kernel_rfl
noncomputable def K.r_listO (b : Bulbs) (x : XS) : Option Int := if ((len x : Int) == 0) = true then some 5 else if decide ((len x : Int) > 12) = true then some 2 else (List.range (len x)).findSome? (e_rls b x)
theorem K.r_listed_eq (a : Bulbs × XS) : callT1 P BKY42 30 121 D_rls R_i a = some (K.orr id 0 (r_listO a.1 a.2)) := by
  rw [fn_rls]; unfold r_listO; simp only [orr_ite2]
  refine br_step (fun _ => rfl) (fun _ => ?_)
  refine br_step (fun _ => rfl) (fun _ => ?_)
  rw [L_rls_eq]
  cases (List.range (len a.2)).findSome? (e_rls a.1 a.2) <;> rfl
noncomputable def BKY43 : Tab := BKY42.addCall 121 (callE D_rls R_i (fun a => .ret (K.orr id 0 (r_listO a.1 a.2))))
theorem tKY43 : TabOk P BKY43 := TabOk.addPC tKY42 (fun a r h => by rw [← ret_some h]; exact call_of okP tKY42 (r_listed_eq a))
theorem fn_r_asked : ∀ a, (callT1 P BKY43 30 56 D_mss R_i) a = T.run (
  .br (r_ship (Prod.fst a) != (0 : Int)) (
    .ret (r_ship (Prod.fst a))) (
    .br (r_bulbs (Prod.fst (Prod.snd a)) != (0 : Int)) (
      .ret (r_bulbs (Prod.fst (Prod.snd a)))) (
      .ret (orr (fun a => a) (0 : Int) (r_listO (Prod.fst (Prod.snd a)) (Prod.snd (Prod.snd a))))))) := fun a => by kernel_rfl
noncomputable def K.r_asked (a : Ship × Bulbs × XS) : Int := (if (r_ship (Prod.fst a) != (0 : Int)) = true then r_ship (Prod.fst a) else (if (r_bulbs (Prod.fst (Prod.snd a)) != (0 : Int)) = true then r_bulbs (Prod.fst (Prod.snd a)) else orr (fun a => a) (0 : Int) (r_listO (Prod.fst (Prod.snd a)) (Prod.snd (Prod.snd a)))))
theorem eq_r_asked (a : Ship × Bulbs × XS) : (callT1 P BKY43 30 56 D_mss R_i) a = some (K.r_asked a) := (fn_r_asked a).trans (T.br_some rfl (T.br_some rfl rfl))
noncomputable def BKY44 : Tab := BKY43.addCall 56 (callE D_mss R_i (fun a => .ret (K.r_asked a)))
theorem tKY44 : TabOk P BKY44 := TabOk.addFn (d := 30) okP tKY43 (fun a r h => by rw [eq_r_asked]; exact congrArg some (ret_some h))
/-! together -/
def S_rtg := DecS.mk0 (.skips 2 (.cons xSurveys (.unit (dLp 0 0 0 0) (.unit (dLp 1 0 0 0) (.skip (.unit (dLp 2 0 0 0) (.unit (dLp 3 0 0 0) (.last (dI .i64) 22)))))))) (.flat 27 lShip (.flat 31 lBulbs (.flat 39 lSpan (.flat 39 lSpan .nil))))
def X_rtg := DecX.one (.exit 0) [8, 7, 2, 4, 3, 6] S_rtg
noncomputable def K.st_rtg := loopT1 P BKY44 30 102 25 [8, 7, 2, 4, 3, 6] S_rtg X_rtg
theorem sl_rtg : ∀ s, (K.st_rtg) s = T.run (
  .br (decide (Prod.snd (Prod.fst s) < (↑(len (Prod.fst (Prod.fst s))) : Int))) (
    .chk (decide ((0 : Int) ≤ Prod.snd (Prod.fst s) ∧ Prod.snd (Prod.fst s) < (↑(XS.len (Prod.fst (Prod.fst s))) : Int))) <|
    .chk (r_massOk (Prod.fst (Prod.snd s)) (svy (Prod.fst (Prod.fst s)) (Int.toNat (Prod.snd (Prod.fst s))))) <|
    .ret (Sum.inl ((Prod.fst (Prod.fst s), IntKind.wrap IntKind.i64 (Prod.snd (Prod.fst s) + (1 : Int))), Prod.fst (Prod.snd s), Prod.fst (Prod.snd (Prod.snd s)), Prod.fst (Prod.snd (Prod.snd (Prod.snd s))), r_both (Prod.fst (Prod.snd (Prod.snd (Prod.snd (Prod.snd s)))), r_mass (Prod.fst (Prod.snd s)) (Prod.fst (Prod.snd (Prod.snd s))) (svy (Prod.fst (Prod.fst s)) (Int.toNat (Prod.snd (Prod.fst s))))), PUnit.unit))) (
    .ret (Sum.inr (Prod.fst s, Prod.fst (Prod.snd s), Prod.fst (Prod.snd (Prod.snd s)), Prod.fst (Prod.snd (Prod.snd (Prod.snd s))), Prod.fst (Prod.snd (Prod.snd (Prod.snd (Prod.snd s)))), PUnit.unit)))) := fun s => by kernel_rfl
noncomputable def K.L_rtg := lim K.st_rtg
noncomputable def BKY45 : Tab := BKY44.addNode 102 25 (nodeE [8, 7, 2, 4, 3, 6] S_rtg X_rtg (fun s => .obs (K.L_rtg s) .ret))
theorem tKY45 : TabOk P BKY45 := TabOk.addLoop (d := 30) okP tKY44 (by kernel_rfl) (by kernel_rfl) (fun s r h => obs_ret h)
theorem fn_rtg : ∀ a, (callT1 P BKY45 30 102 D_mss dSpan) a = T.run (
  .chk (decide ((0 : Int) ≤ (0 : Int) ∧ (0 : Int) < (↑(XS.len (Prod.snd (Prod.snd a))) : Int))) <|
  .chk (r_massOk (Prod.fst a) (svy (Prod.snd (Prod.snd a)) (nat_lit 0))) <|
  .obs (L_rtg ((Prod.snd (Prod.snd a), (1 : Int)), Prod.fst a, Prod.fst (Prod.snd a), Span.mk (0 : Int) (0 : Int), r_mass (Prod.fst a) (Prod.fst (Prod.snd a)) (svy (Prod.snd (Prod.snd a)) (nat_lit 0)), PUnit.unit)) fun x0 =>
    .ret (Prod.fst (Prod.snd (Prod.snd (Prod.snd (Prod.snd x0)))))) := fun a => by kernel_rfl
end Go.Proofs.YtjbhooodjmjdkaaGreat
/-! KY5 -/
namespace Go.Proofs.YtjbhooodjmjdkaaGreat
open Ev K
set_option maxRecDepth 100000
noncomputable def K.r_massesOk (s : Ship) (x : XS) : Bool := decide (0 < len x) && (List.range (len x)).all fun i => r_massOk s (svy x i)
noncomputable def K.r_tog (s : Ship) (b : Bulbs) (x : XS) : Span := (List.range (len x - 1)).foldl (fun o i => r_both (o, r_mass s b (svy x (i + 1)))) (r_mass s b (svy x 0))
theorem K.L_rtg_eq (s : Ship) (b : Bulbs) (x : XS) (r m : Span) (ok : r_massesOk s x = true) : K.L_rtg ((x, 1), s, b, r, m, ()) = some ((x, (len x : Int)), s, b, r, (List.range (len x - 1)).foldl (fun o i => r_both (o, r_mass s b (svy x (i + 1)))) m, ()) := by
  have e1 := K.len_le x; have e2 := K.len_le' x
  unfold r_massesOk at ok
  rw [Bool.and_eq_true, decide_eq_true_eq] at ok
  refine lim_fold (fun i m => ((x, ((i + 1 : Nat) : Int)), s, b, r, m, ())) (len x - 1) (fun o i => r_both (o, r_mass s b (svy x (i + 1)))) (fun m => ((x, (len x : Int)), s, b, r, m, ())) (fun i hi a => ?_) (fun a => ?_) m
  · rw [sl_rtg]
    refine Eq.trans (T.run_br _ _ _) ?_
    rw [if_pos (by simp only [decide_eq_true_eq]; omega)]
    refine chk_step (by simp only [decide_eq_true_eq]; omega) (chk_step (List.all_eq_true.1 ok.2 _ (List.mem_range.2 (by simp only [Int.toNat_natCast]; omega))) ?_)
    rw [T.run_ret, w64_in (n := ((i + 1 : Nat) : Int) + 1) (by omega) (by omega)]; rfl
  · rw [sl_rtg]
    simp only [T.run_br, T.run_chk, T.run_ret, decide_eq_true_eq]
    rw [if_neg (by omega), show ((len x - 1 + 1 : Nat) : Int) = (len x : Int) by omega]
theorem K.r_tog_eq (a : Ship × Bulbs × XS) (ok : r_massesOk a.1 a.2.2 = true) : callT1 P BKY45 30 102 D_mss dSpan a = some (r_tog a.1 a.2.1 a.2.2) := by
  have ok' := ok
  unfold r_massesOk at ok'
  rw [Bool.and_eq_true, decide_eq_true_eq] at ok'
  have e2 := K.len_le' a.2.2
  rw [fn_rtg]
  refine chk_step (by simp only [decide_eq_true_eq]; omega) (chk_step (List.all_eq_true.1 ok'.2 _ (List.mem_range.2 ok'.1)) ?_)
  rw [L_rtg_eq _ _ _ _ _ ok]; rfl
noncomputable def BKY51 : Tab := BKY45.addCall 102 (callE D_mss dSpan (fun a => .chk (r_massesOk a.1 a.2.2) (.ret (r_tog a.1 a.2.1 a.2.2))))
theorem tKY51 : TabOk P BKY51 := TabOk.addFn (d := 30) okP tKY45 (fun a r h => by obtain ⟨g, e⟩ := chk_ret h; subst e; exact K.r_tog_eq a g)
theorem fn_rTog : ∀ a, (callT1 P BKY51 30 42 D_mss R_off) a = T.run (
  .br (r_asked a != (0 : Int)) (
    .ret ((Span.mk (0 : Int) (0 : Int), r_asked a))) (
    .chk (r_massesOk (Prod.fst a) (Prod.snd (Prod.snd a))) <|
    .br (r_none (r_tog (Prod.fst a) (Prod.fst (Prod.snd a)) (Prod.snd (Prod.snd a)))) (
      .ret ((Span.mk (0 : Int) (0 : Int), (9 : Int)))) (
      .ret ((r_tog (Prod.fst a) (Prod.fst (Prod.snd a)) (Prod.snd (Prod.snd a)), (0 : Int)))))) := fun a => by kernel_rfl
end Go.Proofs.YtjbhooodjmjdkaaGreat
/-! KU1 -/
namespace Go.Proofs.YtjbhooodjmjdkaaGreat
open Ev K
set_option maxRecDepth 100000
namespace K
theorem e_rls_is {b : Bulbs} {x : XS} (hb : CheckBulbs b = 0) {i : Nat} (hi : i < len x) : e_rls b x i = svyE b x i := by
  unfold e_rls svyE
  rw [r_check_is, find_lst1_idx, idx_lt hi (by simp)]
  have : Check (b, svy x i) = check (b, svy x i) := by unfold Check; rw [hb]; rfl
  rw [this]; rfl
theorem findSome_congr {α : Type} (e f : Nat → Option α) (n : Nat) (h : ∀ i, i < n → e i = f i) : (List.range n).findSome? e = (List.range n).findSome? f := findSome_prefix e f n (fun i hi _ => h i hi)
theorem r_listO_is {b : Bulbs} (hb : CheckBulbs b = 0) (x : XS) : r_listO b x = listO b x := by
  unfold r_listO listO
  rw [findSome_congr _ _ _ (fun i hi => e_rls_is hb hi)]
theorem r_asked_is (a : Ship × Bulbs × XS) : r_asked a = listed1 a := by
  unfold r_asked listed1
  rw [r_ship_is, r_bulbs_is]
  by_cases hb : CheckBulbs a.2.1 = 0
  · rw [r_listO_is hb]; rfl
  · have b0 : (CheckBulbs a.2.1 != 0) = true := by simpa using hb
    simp only [b0, if_true]
theorem r_massesAll {s : Ship} {b : Bulbs} {x : XS} (hs : ShipOk s) (l : ListOk b x) : ((List.range (len x)).all fun i => r_massOk s (svy x i)) = true := by
  rw [List.all_eq_true]
  intro i hi
  obtain ⟨g, d, e⟩ := svy_ok l (List.mem_range.1 hi)
  exact (massOk_is hs g e).2
theorem tog_is {s : Ship} {b : Bulbs} {x : XS} (hs : ShipOk s) (hb : CheckBulbs b = 0) (l : ListOk b x) :
    Alike (togetherOf s b x) ((List.range (len x - 1)).foldl (fun o i => r_both (o, r_mass s b (svy x (i + 1)))) (r_mass s b (svy x 0))) := by
  have hr : ∀ i, i < len x → r_mass s b (svy x i) = massOf s b (svy x i) := fun i hi => by
    obtain ⟨g, d, e⟩ := svy_ok l hi
    exact mass_is hs hb g d e
  obtain ⟨n, hn⟩ : ∃ n, len x = n + 1 := ⟨len x - 1, by have := l.pos; omega⟩
  have e1 : togetherOf s b x = ((List.range n).map fun i => massOf s b (svy x (i + 1))).foldl meet (meet ⟨s.light, rooms s⟩ (massOf s b (svy x 0))) := by
    unfold togetherOf massesL
    rw [hn, List.range_succ_eq_map, List.map_cons, List.foldl_cons, List.map_map, List.foldl_map, List.foldl_map]
    rfl
  have e2 : (List.range (len x - 1)).foldl (fun o i => r_both (o, r_mass s b (svy x (i + 1)))) (r_mass s b (svy x 0)) = ((List.range n).map fun i => massOf s b (svy x (i + 1))).foldl meet (massOf s b (svy x 0)) := by
    rw [hn, Nat.add_sub_cancel, hr 0 (by omega), List.foldl_map]
    apply foldl_same
    intro o i hi
    rw [hr (i + 1) (by have := List.mem_range.1 hi; omega)]; rfl
  rw [e1, e2]
  apply fold_alike
  rw [massOf_form]
  by_cases hv : void (ySpan s (svy x 0)) = true
  · rw [if_pos hv]
    right
    refine ⟨?_, by decide⟩
    have := hs.light; have h2 := hs.room; have h3 := hs.room0
    apply void_true.2
    unfold meet; simp only; split <;> split <;> omega
  · rw [if_neg hv]
    left
    exact meet_again _ _
end K
end Go.Proofs.YtjbhooodjmjdkaaGreat
/-! Shelf -/
namespace Go.Proofs
open Go.Shelf
def Tryz.lays189_ren : Go.Shelf.Ren := ⟨fun | 189 => 60 | 125 => 124 | 257 => 123 | 128 => 178 | 129 => 179 | 294 => 169 | 295 => 170 | 296 => 171 | 297 => 172 | 298 => 173 | 299 => 174 | 216 => 175 | 300 => 176 | 301 => 177 | 328 => 207 | 329 => 208 | 330 => 209 | 331 => 210 | 332 => 211 | 215 => 188 | 343 => 223 | n => n, fun | 28 => 49 | 3 => 3 | 46 => 190 | 0 => 0 | 51 => 229 | 53 => 231 | 4 => 4 | 183 => 222 | 182 => 221 | 131 => 226 | 5 => 5 | 9 => 9 | 218 => 250 | 222 => 254 | 228 => 266 | 229 => 117 | n => n, fun | n => n⟩
theorem Tryz.lays189 : Go.Proofs.Lays.n189 Tryz.prog Tryz.lays189_ren := {
  mixed := by kernel_rfl
  f125 := Tryz.func124.trans (congrArg some (by kernel_rfl))
  f128 := Tryz.func178.trans (congrArg some (by kernel_rfl))
  f129 := Tryz.func179.trans (congrArg some (by kernel_rfl))
  f189 := Tryz.func60.trans (congrArg some (by kernel_rfl))
  f215 := Tryz.func188.trans (congrArg some (by kernel_rfl))
  f216 := Tryz.func175.trans (congrArg some (by kernel_rfl))
  f257 := Tryz.func123.trans (congrArg some (by kernel_rfl))
  f294 := Tryz.func169.trans (congrArg some (by kernel_rfl))
  f295 := Tryz.func170.trans (congrArg some (by kernel_rfl))
  f296 := Tryz.func171.trans (congrArg some (by kernel_rfl))
  f297 := Tryz.func172.trans (congrArg some (by kernel_rfl))
  f298 := Tryz.func173.trans (congrArg some (by kernel_rfl))
  f299 := Tryz.func174.trans (congrArg some (by kernel_rfl))
  f300 := Tryz.func176.trans (congrArg some (by kernel_rfl))
  f301 := Tryz.func177.trans (congrArg some (by kernel_rfl))
  f328 := Tryz.func207.trans (congrArg some (by kernel_rfl))
  f329 := Tryz.func208.trans (congrArg some (by kernel_rfl))
  f330 := Tryz.func209.trans (congrArg some (by kernel_rfl))
  f331 := Tryz.func210.trans (congrArg some (by kernel_rfl))
  f332 := Tryz.func211.trans (congrArg some (by kernel_rfl))
  f343 := Tryz.func223.trans (congrArg some (by kernel_rfl))
  t0 := Tryz.underlying0
  a0 := Tryz.isAgg0
  z0 := Tryz.sizeOf0
  v0 := Tryz.zeroValue0
  t3 := Tryz.underlying3
  a3 := Tryz.isAgg3
  z3 := Tryz.sizeOf3
  v3 := Tryz.zeroValue3
  t4 := Tryz.underlying4
  a4 := Tryz.isAgg4
  z4 := Tryz.sizeOf4
  v4 := Tryz.zeroValue4
  t5 := Tryz.underlying5
  a5 := Tryz.isAgg5
  z5 := Tryz.sizeOf5
  v5 := Tryz.zeroValue5
  t9 := Tryz.underlying9
  a9 := Tryz.isAgg9
  z9 := Tryz.sizeOf9
  v9 := Tryz.zeroValue9
  t28 := Tryz.underlying49
  a28 := Tryz.isAgg49
  z28 := Tryz.sizeOf49
  v28 := Tryz.zeroValue49
  t46 := Tryz.underlying190
  a46 := Tryz.isAgg190
  z46 := Tryz.sizeOf190
  v46 := Tryz.zeroValue190
  t51 := Tryz.underlying229
  a51 := Tryz.isAgg229
  z51 := Tryz.sizeOf229
  v51 := Tryz.zeroValue229
  t53 := Tryz.underlying231
  a53 := Tryz.isAgg231
  z53 := Tryz.sizeOf231
  v53 := Tryz.zeroValue231
  t131 := Tryz.underlying226
  a131 := Tryz.isAgg226
  z131 := Tryz.sizeOf226
  v131 := Tryz.zeroValue226
  t182 := Tryz.underlying221
  a182 := Tryz.isAgg221
  z182 := Tryz.sizeOf221
  v182 := Tryz.zeroValue221
  t183 := Tryz.underlying222
  a183 := Tryz.isAgg222
  z183 := Tryz.sizeOf222
  v183 := Tryz.zeroValue222
  t218 := Tryz.underlying250
  a218 := Tryz.isAgg250
  z218 := Tryz.sizeOf250
  v218 := Tryz.zeroValue250
  t222 := Tryz.underlying254
  a222 := Tryz.isAgg254
  z222 := Tryz.sizeOf254
  v222 := Tryz.zeroValue254
  t228 := Tryz.underlying266
  a228 := Tryz.isAgg266
  z228 := Tryz.sizeOf266
  v228 := Tryz.zeroValue266
  t229 := Tryz.underlying117
  a229 := Tryz.isAgg117
  z229 := Tryz.sizeOf117
  v229 := Tryz.zeroValue117 }
def Tryz.sortF75_ren : Go.Shelf.Ren := ⟨fun | 6 => 75 | 15 => 124 | 14 => 135 | 28 => 178 | 29 => 179 | 20 => 180 | 21 => 181 | 22 => 182 | 23 => 183 | 24 => 184 | 25 => 185 | 26 => 186 | 27 => 187 | 46 => 212 | 47 => 208 | 48 => 209 | 49 => 213 | 50 => 214 | 57 => 224 | n => n, fun | 22 => 69 | 24 => 75 | 25 => 138 | 3 => 3 | 39 => 190 | 0 => 0 | 53 => 229 | 55 => 231 | 4 => 4 | 46 => 222 | 45 => 221 | 50 => 226 | 5 => 5 | 9 => 9 | 66 => 250 | 70 => 254 | 76 => 266 | 77 => 117 | n => n, fun | n => n⟩
theorem Tryz.sortF75 : Go.Proofs.SlLaysF0.n6 Tryz.prog Tryz.sortF75_ren := {
  mixed := by kernel_rfl
  f6 := ⟨Tryz.f75.name, by decide, Tryz.func75.trans (congrArg some (by kernel_rfl))⟩
  f14 := ⟨Tryz.f135.name, by decide, Tryz.func135.trans (congrArg some (by kernel_rfl))⟩
  f15 := Tryz.func124.trans (congrArg some (by kernel_rfl))
  f20 := ⟨Tryz.f180.name, by decide, Tryz.func180.trans (congrArg some (by kernel_rfl))⟩
  f21 := ⟨Tryz.f181.name, by decide, Tryz.func181.trans (congrArg some (by kernel_rfl))⟩
  f22 := ⟨Tryz.f182.name, by decide, Tryz.func182.trans (congrArg some (by kernel_rfl))⟩
  f23 := ⟨Tryz.f183.name, by decide, Tryz.func183.trans (congrArg some (by kernel_rfl))⟩
  f24 := ⟨Tryz.f184.name, by decide, Tryz.func184.trans (congrArg some (by kernel_rfl))⟩
  f25 := ⟨Tryz.f185.name, by decide, Tryz.func185.trans (congrArg some (by kernel_rfl))⟩
  f26 := ⟨Tryz.f186.name, by decide, Tryz.func186.trans (congrArg some (by kernel_rfl))⟩
  f27 := ⟨Tryz.f187.name, by decide, Tryz.func187.trans (congrArg some (by kernel_rfl))⟩
  f28 := Tryz.func178.trans (congrArg some (by kernel_rfl))
  f29 := Tryz.func179.trans (congrArg some (by kernel_rfl))
  f46 := ⟨Tryz.f212.name, by decide, Tryz.func212.trans (congrArg some (by kernel_rfl))⟩
  f47 := Tryz.func208.trans (congrArg some (by kernel_rfl))
  f48 := Tryz.func209.trans (congrArg some (by kernel_rfl))
  f49 := ⟨Tryz.f213.name, by decide, Tryz.func213.trans (congrArg some (by kernel_rfl))⟩
  f50 := ⟨Tryz.f214.name, by decide, Tryz.func214.trans (congrArg some (by kernel_rfl))⟩
  f57 := ⟨Tryz.f224.name, by decide, Tryz.func224.trans (congrArg some (by kernel_rfl))⟩
  t0 := Tryz.underlying0
  a0 := Tryz.isAgg0
  z0 := Tryz.sizeOf0
  v0 := Tryz.zeroValue0
  t3 := Tryz.underlying3
  a3 := Tryz.isAgg3
  z3 := Tryz.sizeOf3
  v3 := Tryz.zeroValue3
  t4 := Tryz.underlying4
  a4 := Tryz.isAgg4
  z4 := Tryz.sizeOf4
  v4 := Tryz.zeroValue4
  t5 := Tryz.underlying5
  a5 := Tryz.isAgg5
  z5 := Tryz.sizeOf5
  v5 := Tryz.zeroValue5
  t9 := Tryz.underlying9
  a9 := Tryz.isAgg9
  z9 := Tryz.sizeOf9
  v9 := Tryz.zeroValue9
  t22 := Tryz.underlying69
  a22 := Tryz.isAgg69
  z22 := Tryz.sizeOf69
  v22 := Tryz.zeroValue69
  t25 := Tryz.underlying138
  a25 := Tryz.isAgg138
  z25 := Tryz.sizeOf138
  v25 := Tryz.zeroValue138
  t39 := Tryz.underlying190
  a39 := Tryz.isAgg190
  z39 := Tryz.sizeOf190
  v39 := Tryz.zeroValue190
  t45 := Tryz.underlying221
  a45 := Tryz.isAgg221
  z45 := Tryz.sizeOf221
  v45 := Tryz.zeroValue221
  t46 := Tryz.underlying222
  a46 := Tryz.isAgg222
  z46 := Tryz.sizeOf222
  v46 := Tryz.zeroValue222
  t50 := Tryz.underlying226
  a50 := Tryz.isAgg226
  z50 := Tryz.sizeOf226
  v50 := Tryz.zeroValue226
  t53 := Tryz.underlying229
  a53 := Tryz.isAgg229
  z53 := Tryz.sizeOf229
  v53 := Tryz.zeroValue229
  t55 := Tryz.underlying231
  a55 := Tryz.isAgg231
  z55 := Tryz.sizeOf231
  v55 := Tryz.zeroValue231
  t66 := Tryz.underlying250
  a66 := Tryz.isAgg250
  z66 := Tryz.sizeOf250
  v66 := Tryz.zeroValue250
  t70 := Tryz.underlying254
  a70 := Tryz.isAgg254
  z70 := Tryz.sizeOf254
  v70 := Tryz.zeroValue254
  t76 := Tryz.underlying266
  a76 := Tryz.isAgg266
  z76 := Tryz.sizeOf266
  v76 := Tryz.zeroValue266
  t77 := Tryz.underlying117
  a77 := Tryz.isAgg117
  z77 := Tryz.sizeOf117
  v77 := Tryz.zeroValue117 }
end Go.Proofs
/-! KSrt -/
namespace Go.Proofs.YtjbhooodjmjdkaaGreat
open Ev K
open Go.Sort Go.Proofs Go.Shelf
set_option maxRecDepth 100000
namespace K
def sortL (l : List Int) : List Int := l.mergeSort fun x y => decide (x ≤ y)
theorem sortL_length (l : List Int) : (sortL l).length = l.length := List.length_mergeSort l
theorem rows_int {w : World} {A : Nat → Prop} {g : Get AV} {n : Nat} {rows : List Value} (ht : g.tag = [.int .i64]) (hl : rows.length = n * 1) (h : RowsR w A g n 1 rows) : rows = (decF rInt n g.f).map (Value.int .i64) := by
  apply List.ext_getElem?
  intro i
  by_cases hi : i < n
  · obtain ⟨u, hu, hv⟩ := h i 0 hi (by decide)
    rw [Nat.mul_one, Nat.add_zero] at hu
    have hv : VR w A noR (.int .i64 (numOf (g.f i 0))) u := by
      have : g.cell i 0 = .int .i64 (numOf (g.f i 0)) := by simp only [Get.cell, ht, ckAt, conf]
      rw [← this]; exact hv
    cases hv
    rw [hu]
    simp [decF, hi, rInt]
  · rw [List.getElem?_eq_none (by omega), List.getElem?_eq_none (by simp [decF]; omega)]
theorem mc_sort {P : Program} {ρ : Ren} (L : Lays.n189 P ρ) {n : Nat} {g : Get AV} (ht : g.tag = [.int .i64]) (hn : n < 4611686018427387904) : MC P (ρ.f 189) 1 n g ⟨[.int .i64], encF rInt (sortL (decF rInt n g.f))⟩ [] := by
  intro ro m A w t e c rows us hA hob h0 hnc hwd hown hrows hus
  have hus0 : us = #[] := by have := hus.1; exact Array.eq_empty_of_size_eq_zero this.symm
  subst hus0
  apply callsIn_round
  rw [Array.append_empty]
  have hlen : (decF rInt n g.f).length = n := decF_length ..
  cases e with
  | zero =>
    obtain ⟨rfl, rfl⟩ := h0 rfl
    refine (callsIn_wide.2 (Any.slices_Sort_int_none L none 0 w)).mono ?_
    rintro en w' ⟨rfl, rfl⟩
    exact ⟨rfl, rows, ⟨⟨rfl, rfl, rfl, Nat.le_refl _, fun _ _ _ => rfl⟩, Nat.le_refl _⟩, hown, fun i k hi => absurd hi (Nat.not_lt_zero _)⟩
  | succ b =>
    have hr := rows_int ht hown.1 hrows
    obtain ⟨hl, hown⟩ := hown
    rcases hown with ⟨hv, _⟩ | ⟨g0, cap, cur, hv, hbase, hheap, hle, hmax, hsz, htake⟩
    · cases hv
    · cases hv
      have hH : Holds (Value.int .i64) w b 0 (decF rInt n g.f).toArray := holds_of_blockI hheap (by rw [hlen, ← hr, ← htake, Nat.mul_one])
      have hlt : b < w.heap.size := (Array.getElem?_eq_some_iff.1 hheap).1
      have hc := Any.slices_Sort_int L b 0 c (decF rInt n g.f) w hH hlt (by rw [hlen]; exact hn)
      rw [hlen] at hc
      refine (callsIn_wide.2 hc).mono ?_
      rintro en w' ⟨rfl, n', os, rfl⟩
      have ho := ownsRow_sortedI (w := w) (base := 0) (g := b) (cap := c) (n := n') (e := t) (os := os) (cur := cur) (ss := decF rInt n g.f) (ts := sortL (decF rInt n g.f)) (sortL_length _) (Nat.zero_le _) hheap (by rw [hlen]; exact hle) hmax hsz
      rw [hlen] at ho
      refine ⟨rfl, _, ⟨grownBy_sortedI _, Nat.le_add_right _ _⟩, ho, fun i k hi hk => ?_⟩
      have hk : k = 0 := by omega
      subst hk
      have hi' : i < (sortL (decF rInt n g.f)).length := by rw [sortL_length, hlen]; exact hi
      refine ⟨.int .i64 (sortL (decF rInt n g.f))[i], by simp [hi'], ?_⟩
      have : (⟨[.int .i64], encF rInt (sortL (decF rInt n g.f))⟩ : Get AV).cell i 0 = .int .i64 (sortL (decF rInt n g.f))[i] := by
        simp only [Get.cell, ckAt, conf]
        rw [encF_at (List.getElem?_eq_getElem hi')]; rfl
      rw [this]; exact .int
/-- What the sort of a list of numbers comes to. -/
def sortE : List AV → Option (T AV)
  | .osl _ _ _ :: .xsl wd n g _ _ _ :: [] => match Nat.beq wd 1 && ckLEq g.tag [.int .i64] with
    | true => some (.chk (decide (n < 4611686018427387904)) (.ret (.xsl 1 n ⟨[.int .i64], encF rInt (sortL (decF rInt n g.f))⟩ 0 n none)))
    | false => none
  | _ => none
theorem sortE_cc {P : Program} {f : FuncId} (h : ∀ n (g : Get AV), g.tag = [.int .i64] → n < 4611686018427387904 → MC P f 1 n g ⟨[.int .i64], encF rInt (sortL (decF rInt n g.f))⟩ []) (args : List AV) (t : T AV) (v : AV) (ht : sortE args = some t) (hr : t.run = some v) : CC P f args v := by
  unfold sortE at ht
  split at ht
  · rename_i j0 v0 n0 wd n g a b c
    split at ht
    · rename_i hc
      simp only [Bool.and_eq_true] at hc
      have e1 := Nat.eq_of_beq_eq_true hc.1; have e2 := ckLEq_eq hc.2; subst e1
      injection ht with ht; subst ht
      obtain ⟨g1, e⟩ := chk_ret hr
      subst e
      exact h n g e2 (of_decide_eq_true g1)
    · cases ht
  · cases ht
end K
noncomputable def BKSrt : Tab := BKJ1.addTurn 60 K.sortE
theorem tKSrt : TabOk P BKSrt := TabOk.addTurn tKJ1 (K.sortE_cc fun n g h1 h2 => K.mc_sort Tryz.lays189 h1 h2)
end Go.Proofs.YtjbhooodjmjdkaaGreat
/-! KBl1 -/
namespace Go.Proofs.YtjbhooodjmjdkaaGreat
open Ev K
set_option maxRecDepth 100000
noncomputable def BKBl10 : Tab := BKN43.addTurn 60 K.sortE
theorem tKBl10 : TabOk P BKBl10 := TabOk.addTurn tKN43 (K.sortE_cc fun n g h1 h2 => K.mc_sort Tryz.lays189 h1 h2)
def S_blm := DecS.ghostC 9 3 1 [.int .i64] (DecS.mk0 (.skips 2 (.unit (dLp 0 0 0 0) (.skips 4 (.unit (dLp 1 0 0 0) (.skip (.unit (dLp 2 0 0 0) (.skips 21 (.last R_gl 18)))))))) (.flat 31 lBulbs (.flat 127 lHydro (.flat 49 (.last (dO 3) 0) (.rows 3 rInt .nil)))))
noncomputable def K.st_blm := rangeT1 P BKBl10 30 29 89 [31, 9, 7, 2] S_blm DecX.no eTold
theorem rg_blm : ∀ s x, (K.st_blm) s x = T.run (
  .br (!void (errs (Prod.fst (Prod.snd s)) (Prod.fst (Prod.snd (Prod.snd s))) (Glass.id (GlassE.g x)))) (
    .chk (decide ((List.length (Prod.fst (Prod.snd (Prod.snd (Prod.snd (Prod.snd s))))) + (1 : Nat)) * (8 : Nat) ≤ (140737488355328 : Nat) ∧ List.length (Prod.fst (Prod.snd (Prod.snd (Prod.snd (Prod.snd s))))) + (1 : Nat) ≤ nat_lit 9223372036854775807)) <|
    .ret (Sum.inl (Prod.fst s, Prod.fst (Prod.snd s), Prod.fst (Prod.snd (Prod.snd s)), List.length (Prod.fst (Prod.snd (Prod.snd (Prod.snd (Prod.snd s))))) + (1 : Nat), decF rInt (List.length (Prod.fst (Prod.snd (Prod.snd (Prod.snd (Prod.snd s))))) + (1 : Nat)) (appG (List.length (Prod.fst (Prod.snd (Prod.snd (Prod.snd (Prod.snd s)))))) (encF rInt (Prod.fst (Prod.snd (Prod.snd (Prod.snd (Prod.snd s)))))) fun i k => Option.getD [AV.int IntKind.i64 (Glass.id (GlassE.g x))][((0 : Nat) + i) * (1 : Nat) + k]? AV.top), PUnit.unit))) (
    .ret (Sum.inl (Prod.fst s, Prod.fst (Prod.snd s), Prod.fst (Prod.snd (Prod.snd s)), Prod.fst (Prod.snd (Prod.snd (Prod.snd s))), decF rInt (List.length (Prod.fst (Prod.snd (Prod.snd (Prod.snd (Prod.snd s)))))) (encF rInt (Prod.fst (Prod.snd (Prod.snd (Prod.snd (Prod.snd s)))))), PUnit.unit)))) := fun s x => by kernel_rfl
/-- The glass is blamed. -/
noncomputable def K.blm1 (b : Bulbs) (h : Hydro) (x : GlassE) : List Int := if (!void (errs b h x.g.id)) = true then [x.g.id] else []
theorem K.st_blm_eq (a : Bulbs × Int) (b : Bulbs) (h : Hydro) (L : List Int) (x : GlassE) (hl : L.length ≤ 1000000) : st_blm (a, b, h, L.length, L, ()) x = some (.inl (a, b, h, (L ++ blm1 b h x).length, L ++ blm1 b h x, ())) := by
  rw [rg_blm]; unfold blm1
  simp only [T.run_br]
  by_cases hc : (!void (errs b h x.g.id)) = true
  · rw [if_pos hc, if_pos hc]
    refine chk_step (decide_eq_true (by omega)) ?_
    rw [T.run_ret, decF_push]
    simp only [List.length_append]
    rfl
  · rw [if_neg hc, if_neg hc, T.run_ret, decF_encF, List.append_nil]
theorem K.fold_blm (a : Bulbs × Int) (b : Bulbs) (h : Hydro) : ∀ (xs : List GlassE) (L : List Int), L.length + xs.length ≤ 1000000 → foldS st_blm xs (a, b, h, L.length, L, ()) = some (.inl (a, b, h, (L ++ xs.flatMap (blm1 b h)).length, L ++ xs.flatMap (blm1 b h), ()))
  | [], L, _ => by simp [foldS]
  | x :: xs, L, hl => by
    have h1 : (blm1 b h x).length ≤ 1 := by unfold blm1; split <;> simp
    simp only [List.length_cons] at hl
    rw [foldS, st_blm_eq a b h L x (by omega)]
    simp only
    rw [fold_blm a b h xs (L ++ blm1 b h x) (by rw [List.length_append]; omega), List.flatMap_cons, List.append_assoc]
/-- The blamed glasses, behind those of before. -/
noncomputable def K.blmApp (L : List Int) (a : Bulbs × Int) (b : Bulbs) (h : Hydro) : List Int := L ++ (glassesL a.1 a.2).flatMap (blm1 b h)
noncomputable def K.blmOk (n : Nat) (L : List Int) (a : Bulbs × Int) : Bool := decide (n = L.length ∧ L.length + (glassesL a.1 a.2).length ≤ 1000000)
noncomputable def BKBl11 : Tab := BKBl10.addNode 29 89 (rangeE [31, 9, 7, 2] S_blm DecX.no (fun s => .chk (K.blmOk s.2.2.2.1 s.2.2.2.2.1 s.1) (.ret (.inl (s.1, s.2.1, s.2.2.1, (K.blmApp s.2.2.2.2.1 s.1 s.2.1 s.2.2.1).length, K.blmApp s.2.2.2.2.1 s.1 s.2.1 s.2.2.1, ())))))
theorem tKBl11 : TabOk P BKBl11 := TabOk.addRange (d := 30) (enc := eTold) (L := (fun s => glassesL s.1.1 s.1.2)) okP tKBl10 (by kernel_rfl) (by kernel_rfl) (fun s r h => ⟨_, _, _, (by kernel_rfl : _ = some (134, [], V_gls.enc s.1)), icl_gls s.1.2 s.1.1⟩) (fun s r h => by obtain ⟨g, e⟩ := chk_ret h; subst e; obtain ⟨a, b, hh, n, L, _⟩ := s; obtain ⟨e1, e2⟩ := of_decide_eq_true g; simp only at e1 e2; subst e1; exact K.fold_blm a b hh _ L e2)
def R_ints := dTup (.cons (dRows rInt) (.last (dI .i64) 0))
theorem fn_blm : ∀ a, (callT1 P BKBl11 30 29 D_off R_ints) a = T.run (
  .br (CheckBulbs (Prod.fst a) != (0 : Int)) (
    .ret (([], CheckBulbs (Prod.fst a)))) (
    .br (!Prod.snd (hydro a)) (
      .ret (([], (5 : Int)))) (
      .br (!void (errs (Prod.fst a) (Prod.fst (hydro a)) (0 : Int))) (
        .ret (([], (0 : Int)))) (
        .chk (blmOk (0 : Nat) (decF rInt (0 : Nat) fun x x_1 => AV.top) a) <|
        .chk (decide (List.length (blmApp (decF rInt (0 : Nat) fun x x_1 => AV.top) a (Prod.fst a) (Prod.fst (hydro a))) < (4611686018427387904 : Nat))) <|
        .ret ((decF rInt (List.length (blmApp (decF rInt (0 : Nat) fun x x_1 => AV.top) a (Prod.fst a) (Prod.fst (hydro a)))) fun i => encF rInt (sortL (decF rInt (List.length (blmApp (decF rInt (0 : Nat) fun x x_1 => AV.top) a (Prod.fst a) (Prod.fst (hydro a)))) (encF rInt (blmApp (decF rInt (0 : Nat) fun x x_1 => AV.top) a (Prod.fst a) (Prod.fst (hydro a)))))) ((0 : Nat) + i), (0 : Int))))))) := fun a => by kernel_rfl
namespace K
theorem glassesL_length (b : Bulbs) (n : Int) : (glassesL b n).length ≤ len b.glasses := by
  unfold glassesL
  rw [List.length_map]
  exact Nat.le_trans (List.length_filter_le ..) (by simp)
theorem flatMap_le {α β : Type} {f : α → List β} (h : ∀ x, (f x).length ≤ 1) : ∀ (L : List α), (L.flatMap f).length ≤ L.length
  | [] => by simp
  | x :: L => by rw [List.flatMap_cons, List.length_append, List.length_cons]; have := h x; have := flatMap_le h L; omega
theorem bulbs_few {b : Bulbs} (h : CheckBulbs b = 0) : len b.hydros ≤ 8 ∧ len b.glasses ≤ 40 := by
  unfold CheckBulbs at h
  split at h
  · cases h
  split at h
  · cases h
  omega
noncomputable def blmL (a : Bulbs × Int) : List Int := (glassesL a.1 a.2).flatMap (blm1 a.1 (hydro a).1)
theorem blmL_length (a : Bulbs × Int) : (blmL a).length ≤ (glassesL a.1 a.2).length := flatMap_le (fun x => by unfold blm1; split <;> simp) _
noncomputable def blm (a : Bulbs × Int) : List Int × Int := if (CheckBulbs a.1 != 0) = true then ([], CheckBulbs a.1) else if (!(hydro a).2) = true then ([], 5) else if (!void (errs a.1 (hydro a).1 0)) = true then ([], 0) else (sortL (blmL a), 0)
theorem blm_eq (a : Bulbs × Int) : callT1 P BKBl11 30 29 D_off R_ints a = some (blm a) := by
  rw [fn_blm]; unfold blm
  refine br_step (fun _ => rfl) (fun h => br_step (fun _ => rfl) (fun _ => br_step (fun _ => rfl) (fun _ => ?_)))
  have hf := (bulbs_few (b := a.1) (by simpa using h)).2
  have h1 := glassesL_length a.1 a.2
  have h2 := blmL_length a
  have e0 : decF rInt 0 (fun _ _ => AV.top) = ([] : List Int) := rfl
  have e : blmApp (decF rInt 0 fun _ _ => AV.top) a a.1 (hydro a).1 = blmL a := by rw [e0]; exact List.nil_append _
  rw [e0] at e ⊢
  rw [e]
  refine chk_step (decide_eq_true ⟨rfl, by simp only [List.length_nil]; omega⟩) (chk_step (decide_eq_true (by omega)) ?_)
  rw [T.run_ret, decF_encF]
  have := decF_enc0 rInt (sortL (blmL a))
  rw [sortL_length] at this
  rw [this]
end K
noncomputable def BKBl12 : Tab := BKBl11.addCall 29 (callE D_off R_ints (fun a => .ret (K.blm a)))
theorem tKBl12 : TabOk P BKBl12 := TabOk.addPC tKBl11 (fun a r h => by rw [← ret_some h]; exact call_of okP tKBl11 (K.blm_eq a))
end Go.Proofs.YtjbhooodjmjdkaaGreat
/-! KBl2 -/
namespace Go.Proofs.YtjbhooodjmjdkaaGreat
open Ev K
set_option maxRecDepth 100000
/-- A number of a list. -/
def K.atI (l : List Int) (i : Nat) : Int := numOf (encF rInt l i 0)
theorem K.atI_get {l : List Int} {i : Nat} (h : i < l.length) : atI l i = l[i] := by unfold atI; rw [encF_at (List.getElem?_eq_getElem h)]; rfl
def S_rsgi := DecS.mk0 (.cons (dRows rInt) (.skips 2 (.cons (dO 0) (.cons (dI .i64) (.last (dI .i64) 43))))) (.rows 3 rInt .nil)
def X_rsgi := DecX.one (.exit 2) [0, 3, 4, 5] S_rsgi
noncomputable def K.st_rsgi := loopT1 P BKBl12 30 122 49 [5, 0, 4, 3] S_rsgi X_rsgi
theorem sl_rsgi : ∀ s, (K.st_rsgi) s = T.run (
  .br (decide (Prod.snd (Prod.snd (Prod.snd (Prod.fst s))) > (0 : Int))) (
    .chk (decide ((0 : Int) ≤ IntKind.wrap IntKind.i64 (Prod.snd (Prod.snd (Prod.snd (Prod.fst s))) - (1 : Int)) ∧ IntKind.wrap IntKind.i64 (Prod.snd (Prod.snd (Prod.snd (Prod.fst s))) - (1 : Int)) < (↑(Prod.fst (Prod.snd (Prod.fst s))) : Int))) <|
    .chk (decide ((0 : Int) ≤ Prod.fst (Prod.snd (Prod.snd (Prod.fst s))) ∧ Prod.fst (Prod.snd (Prod.snd (Prod.fst s))) < (↑(List.length (Prod.fst (Prod.fst s))) : Int))) <|
    .br (decide (numOf (encF rInt (Prod.fst (Prod.snd s)) (Int.toNat (IntKind.wrap IntKind.i64 (Prod.snd (Prod.snd (Prod.snd (Prod.fst s))) - (1 : Int)))) (0 : Nat)) > numOf (encF rInt (Prod.fst (Prod.fst s)) ((0 : Nat) + Int.toNat (Prod.fst (Prod.snd (Prod.snd (Prod.fst s))))) (0 : Nat)))) (
      .ret (Sum.inl ((decF rInt (List.length (Prod.fst (Prod.fst s))) fun i => encF rInt (Prod.fst (Prod.fst s)) ((0 : Nat) + i), Prod.fst (Prod.snd (Prod.fst s)), Prod.fst (Prod.snd (Prod.snd (Prod.fst s))), IntKind.wrap IntKind.i64 (Prod.snd (Prod.snd (Prod.snd (Prod.fst s))) - (1 : Int))), decF rInt (List.length (Prod.fst (Prod.snd s))) (encF rInt (Prod.fst (Prod.snd s))), PUnit.unit))) (
      .ret (Sum.inr ((decF rInt (List.length (Prod.fst (Prod.fst s))) fun i => encF rInt (Prod.fst (Prod.fst s)) ((0 : Nat) + i), Prod.snd (Prod.fst s)), decF rInt (List.length (Prod.fst (Prod.snd s))) (encF rInt (Prod.fst (Prod.snd s))), PUnit.unit)))) (
    .ret (Sum.inr ((decF rInt (List.length (Prod.fst (Prod.fst s))) fun i => encF rInt (Prod.fst (Prod.fst s)) ((0 : Nat) + i), Prod.snd (Prod.fst s)), decF rInt (List.length (Prod.fst (Prod.snd s))) (encF rInt (Prod.fst (Prod.snd s))), PUnit.unit)))) := fun s => by kernel_rfl
noncomputable def K.L_rsgi := lim K.st_rsgi
/-- Where a number goes in: behind the last one that is not greater. -/
def K.insP (L : List Int) (x : Int) (n : Nat) : Nat := match first (fun j => !decide (atI L (n - j - 1) > x)) n with
  | some j => n - j
  | none => 0
theorem K.L_rsgi_eq (l L : List Int) (i : Nat) (hi : i < l.length) (h : L.length ≤ 1000000) : L_rsgi ((l, L.length, (i : Int), (L.length : Int)), L, ()) = some ((l, L.length, (i : Int), (insP L (atI l i) L.length : Int)), L, ()) := by
  have := lim_find (step := st_rsgi) (fun j : Nat => ((l, L.length, (i : Int), ((L.length - j : Nat) : Int)), L, ())) L.length (fun j => !decide (atI L (L.length - j - 1) > atI l i)) (fun j => ((l, L.length, (i : Int), ((L.length - j : Nat) : Int)), L, ())) ((l, L.length, (i : Int), 0), L, ()) (fun j hj hp => ?_) (fun j hj hp => ?_) ?_
  · show L_rsgi ((l, L.length, (i : Int), ((L.length - 0 : Nat) : Int)), L, ()) = _
    rw [show L_rsgi = lim st_rsgi from rfl, this]
    unfold insP
    cases first (fun j => !decide (atI L (L.length - j - 1) > atI l i)) L.length <;> rfl
  · rw [sl_rsgi]
    have hp : ¬ atI L (L.length - j - 1) > atI l i := by simpa using hp
    simp only [T.run_br, T.run_chk, T.run_ret, decide_eq_true_eq, decF_encF, decF_enc0, Nat.zero_add]
    rw [if_pos (by omega), w64_in (n := ((L.length - j : Nat) : Int) - 1) (by omega) (by omega), if_pos (by omega), if_pos (by omega), show (((L.length - j : Nat) : Int) - 1).toNat = L.length - j - 1 by omega, Int.toNat_natCast]
    exact (if_neg hp).trans rfl
  · rw [sl_rsgi]
    have hp : atI L (L.length - j - 1) > atI l i := by simpa using hp
    simp only [T.run_br, T.run_chk, T.run_ret, decide_eq_true_eq, decF_encF, decF_enc0, Nat.zero_add]
    rw [if_pos (by omega), w64_in (n := ((L.length - j : Nat) : Int) - 1) (by omega) (by omega), if_pos (by omega), if_pos (by omega), show (((L.length - j : Nat) : Int) - 1).toNat = L.length - j - 1 by omega, Int.toNat_natCast]
    rw [show ((L.length - j : Nat) : Int) - 1 = ((L.length - (j + 1) : Nat) : Int) by omega]
    exact (if_pos hp).trans rfl
  · rw [sl_rsgi]
    simp only [T.run_br, T.run_ret, decide_eq_true_eq, decF_encF, decF_enc0]
    rw [if_neg (by omega), Nat.sub_self]; rfl
noncomputable def BKBl21 : Tab := BKBl12.addNode 122 49 (nodeE [5, 0, 4, 3] S_rsgi X_rsgi (fun s => .obs (K.L_rsgi s) .ret))
theorem tKBl21 : TabOk P BKBl21 := TabOk.addLoop (d := 30) okP tKBl12 (by kernel_rfl) (by kernel_rfl) (fun s r h => obs_ret h)
def S_rsg := DecS.ghost 3 3 1 [.int .i64] (DecS.mk0 (.cons (dRows rInt) (.skips 2 (.cons (dO 0) (.last (dI .i64) 44)))) (.rows 3 rInt .nil))
def X_rsg := DecX.one (.exit 0) [3] (DecS.mk0 (.skips 3 (.last (dO 0) 45)) (.rows 3 rInt .nil))
noncomputable def K.st_rsg := loopT1 P BKBl21 30 122 25 [4, 3, 0] S_rsg X_rsg
theorem sl_rsg : ∀ s, (K.st_rsg) s = T.run (
  .br (decide (Prod.snd (Prod.snd (Prod.fst s)) < (↑(clampL (List.length (Prod.fst (Prod.fst s)))) : Int))) (
    .obs (L_rsgi ((decF rInt (List.length (Prod.fst (Prod.fst s))) fun i => encF rInt (Prod.fst (Prod.fst s)) ((0 : Nat) + i), Prod.fst (Prod.snd (Prod.fst s)), Prod.snd (Prod.snd (Prod.fst s)), (↑(Prod.fst (Prod.snd (Prod.fst s))) : Int)), decF rInt (List.length (Prod.fst (Prod.snd s))) (encF rInt (Prod.fst (Prod.snd s))), PUnit.unit)) fun x0 =>
      .chk (decide ((0 : Int) ≤ Prod.snd (Prod.snd (Prod.snd (Prod.fst x0))) ∧ Prod.snd (Prod.snd (Prod.snd (Prod.fst x0))) ≤ (↑(Prod.fst (Prod.snd (Prod.fst x0))) : Int)) && true) <|
      .chk (decide (((0 : Nat) + (Int.toNat (Prod.snd (Prod.snd (Prod.snd (Prod.fst x0)))) - (0 : Nat))) * (8 : Nat) ≤ (140737488355328 : Nat) ∧ (0 : Nat) + (Int.toNat (Prod.snd (Prod.snd (Prod.snd (Prod.fst x0)))) - (0 : Nat)) ≤ nat_lit 9223372036854775807)) <|
      .chk (decide ((0 : Int) ≤ Prod.fst (Prod.snd (Prod.snd (Prod.fst x0))) ∧ Prod.fst (Prod.snd (Prod.snd (Prod.fst x0))) < (↑(List.length (Prod.fst (Prod.fst x0))) : Int))) <|
      .chk (decide (((0 : Nat) + (Int.toNat (Prod.snd (Prod.snd (Prod.snd (Prod.fst x0)))) - (0 : Nat)) + (1 : Nat)) * (8 : Nat) ≤ (140737488355328 : Nat) ∧ (0 : Nat) + (Int.toNat (Prod.snd (Prod.snd (Prod.snd (Prod.fst x0)))) - (0 : Nat)) + (1 : Nat) ≤ nat_lit 9223372036854775807)) <|
      .chk (true && decide ((0 : Int) ≤ Prod.snd (Prod.snd (Prod.snd (Prod.fst x0))) ∧ Prod.snd (Prod.snd (Prod.snd (Prod.fst x0))) ≤ (↑(Prod.fst (Prod.snd (Prod.fst x0))) : Int))) <|
      .chk (decide (((0 : Nat) + (Int.toNat (Prod.snd (Prod.snd (Prod.snd (Prod.fst x0)))) - (0 : Nat)) + (1 : Nat) + (Prod.fst (Prod.snd (Prod.fst x0)) - Int.toNat (Prod.snd (Prod.snd (Prod.snd (Prod.fst x0)))))) * (8 : Nat) ≤ (140737488355328 : Nat) ∧ (0 : Nat) + (Int.toNat (Prod.snd (Prod.snd (Prod.snd (Prod.fst x0)))) - (0 : Nat)) + (1 : Nat) + (Prod.fst (Prod.snd (Prod.fst x0)) - Int.toNat (Prod.snd (Prod.snd (Prod.snd (Prod.fst x0))))) ≤ nat_lit 9223372036854775807)) <|
      .ret (Sum.inl ((decF rInt (List.length (Prod.fst (Prod.fst x0))) fun i => encF rInt (Prod.fst (Prod.fst x0)) ((0 : Nat) + i), (0 : Nat) + (Int.toNat (Prod.snd (Prod.snd (Prod.snd (Prod.fst x0)))) - (0 : Nat)) + (1 : Nat) + (Prod.fst (Prod.snd (Prod.fst x0)) - Int.toNat (Prod.snd (Prod.snd (Prod.snd (Prod.fst x0))))), IntKind.wrap IntKind.i64 (Prod.fst (Prod.snd (Prod.snd (Prod.fst x0))) + (1 : Int))), decF rInt ((0 : Nat) + (Int.toNat (Prod.snd (Prod.snd (Prod.snd (Prod.fst x0)))) - (0 : Nat)) + (1 : Nat) + (Prod.fst (Prod.snd (Prod.fst x0)) - Int.toNat (Prod.snd (Prod.snd (Prod.snd (Prod.fst x0)))))) (appG ((0 : Nat) + (Int.toNat (Prod.snd (Prod.snd (Prod.snd (Prod.fst x0)))) - (0 : Nat)) + (1 : Nat)) (appG ((0 : Nat) + (Int.toNat (Prod.snd (Prod.snd (Prod.snd (Prod.fst x0)))) - (0 : Nat))) (appG (0 : Nat) (fun x x_1 => AV.top) fun i k => encF rInt (Prod.fst (Prod.snd x0)) ((0 : Nat) + i) k) fun i k => Option.getD [AV.int IntKind.i64 (numOf (encF rInt (Prod.fst (Prod.fst x0)) ((0 : Nat) + Int.toNat (Prod.fst (Prod.snd (Prod.snd (Prod.fst x0))))) (0 : Nat)))][((0 : Nat) + i) * (1 : Nat) + k]? AV.top) fun i k => encF rInt (Prod.fst (Prod.snd x0)) (Int.toNat (Prod.snd (Prod.snd (Prod.snd (Prod.fst x0)))) + i) k), PUnit.unit))) (
    .ret (Sum.inr (Prod.fst (Prod.snd (Prod.fst s)), decF rInt (List.length (Prod.fst (Prod.snd s))) (encF rInt (Prod.fst (Prod.snd s))), PUnit.unit)))) := fun s => by kernel_rfl
theorem Ev.decF_cat {ρ : Type} (R : RowD ρ) (n m : Nat) (f g : Nat → Nat → AV) : decF R (n + m) (appG n f g) = decF R n f ++ decF R m g := by
  unfold decF
  rw [List.range_add, List.map_append, List.map_map]
  congr 1
  · refine List.map_congr_left (fun i hi => ?_)
    have hi := List.mem_range.1 hi
    congr 1; funext k
    unfold appG
    have : Nat.ble n i = false := by rw [← Bool.not_eq_true, Nat.ble_eq]; omega
    rw [this]
  · refine List.map_congr_left (fun i _ => ?_)
    simp only [Function.comp]
    congr 1; funext k
    unfold appG
    have : Nat.ble n (n + i) = true := by rw [Nat.ble_eq]; omega
    rw [this, Nat.add_sub_cancel_left]
namespace K
theorem insP_le (L : List Int) (x : Int) (n : Nat) : insP L x n ≤ n := by
  unfold insP
  cases first (fun j => !decide (atI L (n - j - 1) > x)) n <;> simp
/-- A number goes in. -/
def insS (L : List Int) (x : Int) : List Int := L.take (insP L x L.length) ++ [x] ++ L.drop (insP L x L.length)
theorem insS_length (L : List Int) (x : Int) : (insS L x).length = L.length + 1 := by
  have := insP_le L x L.length
  unfold insS
  simp only [List.length_append, List.length_take, List.length_drop, List.length_cons, List.length_nil]; omega
theorem insS_dec (L : List Int) (x : Int) (k : Nat) (hk : k ≤ L.length) (lit : Nat → Nat → AV) (hl : rInt.rd (lit 0) = x) :
    decF rInt (0 + (k - 0) + 1 + (L.length - k)) (appG (0 + (k - 0) + 1) (appG (0 + (k - 0)) (appG 0 (fun _ _ => .top) fun i k => encF rInt L (0 + i) k) lit) fun i c => encF rInt L (k + i) c) = L.take k ++ [x] ++ L.drop k := by
  rw [decF_cat, decF_cat, decF_cat, decF_drop rInt L 0 (k - 0) (by omega), decF_drop rInt L k (L.length - k) (by omega)]
  rw [decF_one, hl]
  have e0 : decF rInt 0 (fun _ _ => AV.top) = ([] : List Int) := rfl
  rw [e0, List.nil_append, List.drop_zero, Nat.sub_zero, show (L.drop k).take (L.length - k) = L.drop k from List.take_of_length_le (by simp)]
def risR (l : List Int) (i : Nat) : List Int := (List.range i).foldl (fun L j => insS L (atI l j)) []
theorem risR_succ (l : List Int) (i : Nat) : risR l (i + 1) = insS (risR l i) (atI l i) := by unfold risR; rw [List.range_succ, List.foldl_append]; rfl
theorem risR_length (l : List Int) : ∀ i, (risR l i).length = i
  | 0 => rfl
  | i + 1 => by rw [risR_succ, insS_length, risR_length l i]
def risL (l : List Int) : List Int := risR l l.length
noncomputable def L_rsg := lim st_rsg
theorem L_rsg_eq (l : List Int) (h : l.length ≤ 1000000) : L_rsg ((l, 0, 0), [], ()) = some (l.length, risL l, ()) := by
  have hc : clampL l.length = l.length := clampL_eq (by unfold maxL; omega)
  refine lim_all (fun i => ((l, i, (i : Int)), risR l i, ())) l.length (fun i hi => ?_) ?_
  · rw [sl_rsg]
    have hR := risR_length l i
    have hk := insP_le (risR l i) (atI l i) (risR l i).length
    have hli := L_rsgi_eq l (risR l i) i hi (by omega)
    simp only [T.run_br, decide_eq_true_eq, hc]
    rw [if_pos (by omega), decF_enc0, decF_encF]
    rw [hR] at hli
    rw [hli, T.run_some]
    rw [hR] at hk
    generalize hkk : insP (risR l i) (atI l i) i = k at *
    simp only [Int.toNat_natCast]
    refine chk_step (by simp; omega) (chk_step (decide_eq_true (by omega)) (chk_step (by simp; omega) (chk_step (decide_eq_true (by omega)) (chk_step (by simp; omega) (chk_step (decide_eq_true (by omega)) ?_)))))
    rw [T.run_ret, decF_enc0, w64_in (n := (i : Int) + 1) (by omega) (by omega)]
    have hd := insS_dec (risR l i) (atI l i) k (by omega) (fun i_1 c => Option.getD [AV.int IntKind.i64 (numOf (encF rInt l (0 + i) 0))][(0 + i_1) * 1 + c]? AV.top) (by show numOf (encF rInt l (0 + i) 0) = atI l i; rw [Nat.zero_add]; rfl)
    rw [hR] at hd
    rw [hd, risR_succ]
    have : insS (risR l i) (atI l i) = (risR l i).take k ++ [atI l i] ++ (risR l i).drop k := by unfold insS; rw [hR, hkk]
    rw [this, show 0 + (k - 0) + 1 + (i - k) = i + 1 by omega]
    rfl
  · rw [sl_rsg]
    simp only [T.run_br, T.run_ret, decide_eq_true_eq, hc]
    rw [if_neg (by omega), decF_encF]; rfl
end K
noncomputable def BKBl22 : Tab := BKBl21.addNode 122 25 (nodeE [4, 3, 0] S_rsg X_rsg (fun s => .obs (K.L_rsg s) .ret))
theorem tKBl22 : TabOk P BKBl22 := TabOk.addLoop (d := 30) okP tKBl21 (by kernel_rfl) (by kernel_rfl) (fun s r h => obs_ret h)
def D_rsg := DecL.last (dRows rInt) 0
theorem fn_rsg : ∀ a, (freshT1 P BKBl22 30 122 3 D_rsg rInt) a = T.run (
  .obs (L_rsg ((decF rInt (List.length a) fun i => encF rInt a ((0 : Nat) + i), (0 : Nat), (0 : Int)), decF rInt (0 : Nat) fun x x_1 => AV.top, PUnit.unit)) fun x0 =>
    .ret (decF rInt (List.length (Prod.fst (Prod.snd x0))) fun i => encF rInt (Prod.fst (Prod.snd x0)) ((0 : Nat) + i))) := fun a => by kernel_rfl
theorem K.rsg_eq (l : List Int) (h : l.length ≤ 1000000) : freshT1 P BKBl22 30 122 3 D_rsg rInt l = some (risL l) := by
  rw [fn_rsg]
  simp only [decF_enc0]
  show T.run (.obs (L_rsg ((l, 0, 0), [], ())) _) = _
  rw [L_rsg_eq l h, T.run_some, T.run_ret]
noncomputable def BKBl23 : Tab := BKBl22.addTurn 122 (freshE 3 D_rsg rInt (fun l => .chk (decide (l.length ≤ 1000000)) (.ret (K.risL l))))
theorem tKBl23 : TabOk P BKBl23 := TabOk.addFresh (d := 30) okP tKBl22 (fun a r h => by obtain ⟨g, e⟩ := chk_ret h; subst e; exact K.rsg_eq a (by simpa using g))
end Go.Proofs.YtjbhooodjmjdkaaGreat
/-! KBl3 -/
namespace Go.Proofs.YtjbhooodjmjdkaaGreat
open Ev K
set_option maxRecDepth 100000
def S_min := DecS.ghost 5 3 1 [.int .i64] (DecS.mk0 (.skip (.cons (dI .i64) (.unit (dLp 0 0 0 0) (.skips 2 (.cons (dO 1) (.last (dI .i64) 26)))))) (.flat 31 lBulbs (.rows 3 rInt .nil)))
def X_min := DecX.one (.exit 0) [5] (DecS.mk0 (.skips 5 (.last (dO 0) 27)) (.rows 3 rInt .nil))
noncomputable def K.st_min := loopT1 P BKBl23 30 78 25 [6, 2, 5, 1] S_min X_min
theorem sl_min : ∀ s, (K.st_min) s = T.run (
  .br (decide (Prod.snd (Prod.snd (Prod.fst s)) < (↑(len (Bulbs.glasses (Prod.fst (Prod.snd s)))) : Int))) (
    .chk (decide ((0 : Int) ≤ Prod.snd (Prod.snd (Prod.fst s)) ∧ Prod.snd (Prod.snd (Prod.fst s)) < (↑(XS.len (Bulbs.glasses (Prod.fst (Prod.snd s)))) : Int))) <|
    .br (XS.g (Bulbs.glasses (Prod.fst (Prod.snd s))) (Int.toNat (Prod.snd (Prod.snd (Prod.fst s)))) (1 : Nat) == Prod.fst (Prod.fst s)) (
      .chk (decide ((0 : Int) ≤ Prod.snd (Prod.snd (Prod.fst s)) ∧ Prod.snd (Prod.snd (Prod.fst s)) < (↑(XS.len (Bulbs.glasses (Prod.fst (Prod.snd s)))) : Int))) <|
      .chk (decide ((List.length (Prod.fst (Prod.snd (Prod.snd s))) + (1 : Nat)) * (8 : Nat) ≤ (140737488355328 : Nat) ∧ List.length (Prod.fst (Prod.snd (Prod.snd s))) + (1 : Nat) ≤ nat_lit 9223372036854775807)) <|
      .ret (Sum.inl ((Prod.fst (Prod.fst s), List.length (Prod.fst (Prod.snd (Prod.snd s))) + (1 : Nat), IntKind.wrap IntKind.i64 (Prod.snd (Prod.snd (Prod.fst s)) + (1 : Int))), Prod.fst (Prod.snd s), decF rInt (List.length (Prod.fst (Prod.snd (Prod.snd s))) + (1 : Nat)) (appG (List.length (Prod.fst (Prod.snd (Prod.snd s)))) (encF rInt (Prod.fst (Prod.snd (Prod.snd s)))) fun i k => Option.getD [AV.int IntKind.i64 (XS.g (Bulbs.glasses (Prod.fst (Prod.snd s))) (Int.toNat (Prod.snd (Prod.snd (Prod.fst s)))) (0 : Nat))][((0 : Nat) + i) * (1 : Nat) + k]? AV.top), PUnit.unit))) (
      .ret (Sum.inl ((Prod.fst (Prod.fst s), Prod.fst (Prod.snd (Prod.fst s)), IntKind.wrap IntKind.i64 (Prod.snd (Prod.snd (Prod.fst s)) + (1 : Int))), Prod.fst (Prod.snd s), decF rInt (List.length (Prod.fst (Prod.snd (Prod.snd s)))) (encF rInt (Prod.fst (Prod.snd (Prod.snd s)))), PUnit.unit)))) (
    .ret (Sum.inr (Prod.fst (Prod.snd (Prod.fst s)), decF rInt (List.length (Prod.fst (Prod.snd (Prod.snd s)))) (encF rInt (Prod.fst (Prod.snd (Prod.snd s)))), PUnit.unit)))) := fun s => by kernel_rfl
namespace K
/-- The IDs of the first glasses that are of a hydrometer. -/
def mineR (b : Bulbs) (n : Int) (i : Nat) : List Int := ((List.range i).filter fun k => (gls b.glasses k).hydro == n).map fun k => (gls b.glasses k).id
theorem mineR_succ (b : Bulbs) (n : Int) (i : Nat) : mineR b n (i + 1) = if ((gls b.glasses i).hydro == n) = true then mineR b n i ++ [(gls b.glasses i).id] else mineR b n i := by
  unfold mineR
  rw [List.range_succ, List.filter_append, List.map_append]
  by_cases h : ((gls b.glasses i).hydro == n) = true
  · rw [if_pos h]; simp [h]
  · rw [if_neg h]; simp [h]
theorem mineR_le (b : Bulbs) (n : Int) (i : Nat) : (mineR b n i).length ≤ i := by
  unfold mineR; rw [List.length_map]; exact Nat.le_trans (List.length_filter_le ..) (by simp)
def mineU (b : Bulbs) (n : Int) : List Int := mineR b n (len b.glasses)
noncomputable def L_min := lim st_min
theorem L_min_eq (b : Bulbs) (n : Int) (h : len b.glasses ≤ 1000000) : L_min ((n, 0, 0), b, [], ()) = some ((mineU b n).length, mineU b n, ()) := by
  have e1 := K.len_le b.glasses; have e2 := K.len_le' b.glasses
  refine lim_all (fun i => ((n, (mineR b n i).length, (i : Int)), b, mineR b n i, ())) (len b.glasses) (fun i hi => ?_) ?_
  · rw [sl_min]
    have hl := mineR_le b n i
    simp only [T.run_br, T.run_chk, T.run_ret, decide_eq_true_eq, Int.toNat_natCast]
    rw [if_pos (by omega), if_pos (by omega)]
    have hg : (b.glasses.g i 1 == n) = ((gls b.glasses i).hydro == n) := rfl
    rw [hg, w64_in (n := (i : Int) + 1) (by omega) (by omega)]
    have hs := mineR_succ b n i
    by_cases hc : ((gls b.glasses i).hydro == n) = true
    · rw [if_pos hc] at hs ⊢
      rw [if_pos (by omega), if_pos (by omega), decF_push, hs]
      simp only [List.length_append]; rfl
    · rw [if_neg hc] at hs ⊢
      rw [decF_encF, hs]; rfl
  · rw [sl_min]
    simp only [T.run_br, T.run_ret, decide_eq_true_eq]
    rw [if_neg (by omega), decF_encF]; rfl
end K
noncomputable def BKBl31 : Tab := BKBl23.addNode 78 25 (nodeE [6, 2, 5, 1] S_min X_min (fun s => .obs (K.L_min s) .ret))
theorem tKBl31 : TabOk P BKBl31 := TabOk.addLoop (d := 30) okP tKBl23 (by kernel_rfl) (by kernel_rfl) (fun s r h => obs_ret h)
theorem fn_min : ∀ a, (callT1 P BKBl31 30 78 D_off (dRows rInt)) a = T.run (
  .obs (L_min ((Prod.snd a, (0 : Nat), (0 : Int)), Prod.fst a, decF rInt (0 : Nat) fun x x_1 => AV.top, PUnit.unit)) fun x0 =>
    .chk (decide (List.length (decF rInt (List.length (Prod.fst (Prod.snd x0))) fun i => encF rInt (Prod.fst (Prod.snd x0)) ((0 : Nat) + i)) ≤ (1000000 : Nat))) <|
    .ret (decF rInt (List.length (risL (decF rInt (List.length (Prod.fst (Prod.snd x0))) fun i => encF rInt (Prod.fst (Prod.snd x0)) ((0 : Nat) + i)))) fun i => encF rInt (risL (decF rInt (List.length (Prod.fst (Prod.snd x0))) fun i => encF rInt (Prod.fst (Prod.snd x0)) ((0 : Nat) + i))) ((0 : Nat) + i))) := fun a => by kernel_rfl
def K.r_mine (a : Bulbs × Int) : List Int := risL (mineU a.1 a.2)
theorem K.r_mine_eq (a : Bulbs × Int) (h : len a.1.glasses ≤ 1000000) : callT1 P BKBl31 30 78 D_off (dRows rInt) a = some (r_mine a) := by
  rw [fn_min]
  simp only [decF_enc0]
  show T.run (.obs (L_min ((a.2, 0, 0), a.1, [], ())) _) = _
  rw [L_min_eq a.1 a.2 h, T.run_some]
  have := mineR_le a.1 a.2 (len a.1.glasses)
  have e : (mineU a.1 a.2).length ≤ len a.1.glasses := this
  exact chk_step (decide_eq_true (by simp only; omega)) rfl
noncomputable def BKBl32 : Tab := BKBl31.addCall 78 (callE D_off (dRows rInt) (fun a => .chk (decide (len a.1.glasses ≤ 1000000)) (.ret (K.r_mine a))))
theorem tKBl32 : TabOk P BKBl32 := TabOk.addFn (d := 30) okP tKBl31 (fun a r h => by obtain ⟨g, e⟩ := chk_ret h; subst e; exact K.r_mine_eq a (by simpa using g))
end Go.Proofs.YtjbhooodjmjdkaaGreat
/-! KBl4 -/
namespace Go.Proofs.YtjbhooodjmjdkaaGreat
open Ev K
set_option maxRecDepth 100000
def S_rbl := DecS.ghost 8 3 1 [.int .i64] (DecS.mk0 (.skips 2 (.unit (dLp 0 0 0 0) (.skip (.unit (dLp 1 0 0 0) (.skip (.cons (dI .i64) (.cons (dRows rInt) (.cons (dO 2) (.last (dI .i64) 53))))))))) (.flat 31 lBulbs (.flat 53 (.tops 2) (.rows 3 rInt .nil))))
def X_rbl := DecX.one (.exit 0) [4, 8] (DecS.mk0 (.skips 4 (.unit (dLp 0 0 0 0) (.skips 3 (.last (dO 1) 54)))) (.flat 53 (.tops 2) (.rows 3 rInt .nil)))
noncomputable def K.st_rbl := loopT1 P BKBl32 30 30 97 [9, 7, 8, 6, 2, 4] S_rbl X_rbl
theorem sl_rbl : ∀ s, (K.st_rbl) s = T.run (
  .br (decide (Prod.snd (Prod.snd (Prod.snd (Prod.fst s))) < (↑(clampL (List.length (Prod.fst (Prod.snd (Prod.fst s))))) : Int))) (
    .chk (decide ((0 : Int) ≤ Prod.fst (Prod.fst s) ∧ Prod.fst (Prod.fst s) < (↑(XS.len (Bulbs.hydros (Prod.fst (Prod.snd s)))) : Int))) <|
    .chk (decide ((0 : Int) ≤ Prod.snd (Prod.snd (Prod.snd (Prod.fst s))) ∧ Prod.snd (Prod.snd (Prod.snd (Prod.fst s))) < (↑(List.length (Prod.fst (Prod.snd (Prod.fst s)))) : Int))) <|
    .br (!r_none (r_off (Prod.fst (Prod.snd s)) (hyd (Bulbs.hydros (Prod.fst (Prod.snd s))) (Int.toNat (Prod.fst (Prod.fst s)))) (numOf (encF rInt (Prod.fst (Prod.snd (Prod.fst s))) ((0 : Nat) + Int.toNat (Prod.snd (Prod.snd (Prod.snd (Prod.fst s))))) (0 : Nat))))) (
      .chk (decide ((0 : Int) ≤ Prod.snd (Prod.snd (Prod.snd (Prod.fst s))) ∧ Prod.snd (Prod.snd (Prod.snd (Prod.fst s))) < (↑(List.length (Prod.fst (Prod.snd (Prod.fst s)))) : Int))) <|
      .chk (decide ((List.length (Prod.fst (Prod.snd (Prod.snd (Prod.snd s)))) + (1 : Nat)) * (8 : Nat) ≤ (140737488355328 : Nat) ∧ List.length (Prod.fst (Prod.snd (Prod.snd (Prod.snd s)))) + (1 : Nat) ≤ nat_lit 9223372036854775807)) <|
      .ret (Sum.inl ((Prod.fst (Prod.fst s), decF rInt (List.length (Prod.fst (Prod.snd (Prod.fst s)))) fun i => encF rInt (Prod.fst (Prod.snd (Prod.fst s))) ((0 : Nat) + i), List.length (Prod.fst (Prod.snd (Prod.snd (Prod.snd s)))) + (1 : Nat), IntKind.wrap IntKind.i64 (Prod.snd (Prod.snd (Prod.snd (Prod.fst s))) + (1 : Int))), Prod.fst (Prod.snd s), PUnit.unit, decF rInt (List.length (Prod.fst (Prod.snd (Prod.snd (Prod.snd s)))) + (1 : Nat)) (appG (List.length (Prod.fst (Prod.snd (Prod.snd (Prod.snd s))))) (encF rInt (Prod.fst (Prod.snd (Prod.snd (Prod.snd s))))) fun i k => Option.getD [AV.int IntKind.i64 (numOf (encF rInt (Prod.fst (Prod.snd (Prod.fst s))) ((0 : Nat) + Int.toNat (Prod.snd (Prod.snd (Prod.snd (Prod.fst s))))) (0 : Nat)))][((0 : Nat) + i) * (1 : Nat) + k]? AV.top), PUnit.unit))) (
      .ret (Sum.inl ((Prod.fst (Prod.fst s), decF rInt (List.length (Prod.fst (Prod.snd (Prod.fst s)))) fun i => encF rInt (Prod.fst (Prod.snd (Prod.fst s))) ((0 : Nat) + i), Prod.fst (Prod.snd (Prod.snd (Prod.fst s))), IntKind.wrap IntKind.i64 (Prod.snd (Prod.snd (Prod.snd (Prod.fst s))) + (1 : Int))), Prod.fst (Prod.snd s), PUnit.unit, decF rInt (List.length (Prod.fst (Prod.snd (Prod.snd (Prod.snd s))))) (encF rInt (Prod.fst (Prod.snd (Prod.snd (Prod.snd s))))), PUnit.unit)))) (
    .ret (Sum.inr (Prod.fst (Prod.snd (Prod.snd (Prod.fst s))), PUnit.unit, decF rInt (List.length (Prod.fst (Prod.snd (Prod.snd (Prod.snd s))))) (encF rInt (Prod.fst (Prod.snd (Prod.snd (Prod.snd s))))), PUnit.unit)))) := fun s => by kernel_rfl
namespace K
/-- A glass without which a hydrometer could have an error. -/
noncomputable def rblP (b : Bulbs) (h : Nat) (x : Int) : Bool := !r_none (r_off b (hyd b.hydros h) x)
theorem take_filter_succ {l : List Int} {p : Int → Bool} {i : Nat} (h : i < l.length) : (l.take (i + 1)).filter p = if p (atI l i) = true then (l.take i).filter p ++ [atI l i] else (l.take i).filter p := by
  rw [List.take_add_one, List.getElem?_eq_getElem h, List.filter_append, atI_get h]
  by_cases hp : p l[i] = true
  · rw [if_pos hp]; simp [hp]
  · rw [if_neg hp]; simp [hp]
noncomputable def L_rbl := lim st_rbl
theorem L_rbl_eq (b : Bulbs) (h : Nat) (l : List Int) (hh : h < len b.hydros) (hl : l.length ≤ 1000000) : L_rbl (((h : Int), l, 0, 0), b, (), [], ()) = some ((l.filter (rblP b h)).length, (), l.filter (rblP b h), ()) := by
  have hc : clampL l.length = l.length := clampL_eq (by unfold maxL; omega)
  have e1 := K.len_le b.hydros; have e2 := K.len_le' b.hydros
  have := lim_all (step := st_rbl) (fun i => (((h : Int), l, ((l.take i).filter (rblP b h)).length, (i : Int)), b, (), (l.take i).filter (rblP b h), ())) l.length (r := ((l.filter (rblP b h)).length, (), l.filter (rblP b h), ())) (fun i hi => ?_) ?_
  · unfold L_rbl; simpa using this
  · rw [sl_rbl]
    have hlen : ((l.take i).filter (rblP b h)).length ≤ i := Nat.le_trans (List.length_filter_le ..) (by simp; omega)
    simp only [T.run_br, T.run_chk, T.run_ret, decide_eq_true_eq, Int.toNat_natCast, hc, Nat.zero_add]
    rw [if_pos (by omega), if_pos (by omega), if_pos (by omega), w64_in (n := (i : Int) + 1) (by omega) (by omega)]
    have hs := take_filter_succ (p := rblP b h) hi
    have hg : (!r_none (r_off b (hyd b.hydros h) (numOf (encF rInt l i 0)))) = rblP b h (atI l i) := rfl
    rw [hg]
    have e0 : (decF rInt l.length fun i => encF rInt l i) = l := decF_encF rInt l
    by_cases hp : rblP b h (atI l i) = true
    · rw [if_pos hp] at hs ⊢
      rw [if_pos (by omega), if_pos (by omega), decF_push, e0, hs]
      simp only [List.length_append]; rfl
    · rw [if_neg hp] at hs ⊢
      rw [e0, hs, decF_encF]; rfl
  · rw [sl_rbl]
    simp only [T.run_br, T.run_ret, decide_eq_true_eq, hc]
    rw [if_neg (by omega), decF_encF, List.take_of_length_le (Nat.le_refl _)]
end K
noncomputable def BKBl41 : Tab := BKBl32.addNode 30 97 (nodeE [9, 7, 8, 6, 2, 4] S_rbl X_rbl (fun s => .obs (K.L_rbl s) .ret))
theorem tKBl41 : TabOk P BKBl41 := TabOk.addLoop (d := 30) okP tKBl32 (by kernel_rfl) (by kernel_rfl) (fun s r h => obs_ret h)
def R_Ints := dAgg (.cons (dRows rInt) (.last (dI .i64) 0))
theorem fn_rbl : ∀ a, (callT1 P BKBl41 30 30 D_off R_Ints) a = T.run (
  .br (r_bulbs (Prod.fst a) != (0 : Int)) (
    .ret (([], r_bulbs (Prod.fst a)))) (
    .br (decide (i_rhydro (Prod.fst a) (Prod.snd a) < (0 : Int))) (
      .ret (([], (5 : Int)))) (
      .chk (decide ((0 : Int) ≤ i_rhydro (Prod.fst a) (Prod.snd a) ∧ i_rhydro (Prod.fst a) (Prod.snd a) < (↑(XS.len (Bulbs.hydros (Prod.fst a))) : Int))) <|
      .br (!r_none (r_off (Prod.fst a) (hyd (Bulbs.hydros (Prod.fst a)) (Int.toNat (i_rhydro (Prod.fst a) (Prod.snd a)))) (0 : Int))) (
        .ret (([], (0 : Int)))) (
        .chk (decide (len (Bulbs.glasses (Prod.fst a)) ≤ (1000000 : Nat))) <|
        .obs (L_rbl ((i_rhydro (Prod.fst a) (Prod.snd a), decF rInt (List.length (r_mine a)) fun i => encF rInt (r_mine a) ((0 : Nat) + i), (0 : Nat), (0 : Int)), Prod.fst a, PUnit.unit, decF rInt (0 : Nat) fun x x_1 => AV.top, PUnit.unit)) fun x0 =>
          .ret ((decF rInt (List.length (Prod.fst (Prod.snd (Prod.snd x0)))) fun i => encF rInt (Prod.fst (Prod.snd (Prod.snd x0))) ((0 : Nat) + i), (0 : Int))))))) := fun a => by kernel_rfl
noncomputable def K.r_blm (a : Bulbs × Int) : List Int × Int := if (r_bulbs a.1 != 0) = true then ([], r_bulbs a.1) else match first (p_rhydro a.1 a.2) (len a.1.hydros) with
  | none => ([], 5)
  | some i => if (!r_none (r_off a.1 (hyd a.1.hydros i) 0)) = true then ([], 0) else ((r_mine a).filter (rblP a.1 i), 0)
theorem K.risR_le (l : List Int) : (risL l).length = l.length := risR_length l _
theorem K.r_blm_eq (a : Bulbs × Int) (h : len a.1.glasses ≤ 1000000) : callT1 P BKBl41 30 30 D_off R_Ints a = some (r_blm a) := by
  rw [fn_rbl]; unfold r_blm
  refine br_step (fun _ => rfl) (fun _ => ?_)
  have e1 := K.len_le a.1.hydros; have e2 := K.len_le' a.1.hydros
  have hi : i_rhydro a.1 a.2 = idx (p_rhydro a.1 a.2) (len a.1.hydros) := rfl
  have e0 : (decF rInt (r_mine a).length fun i => encF rInt (r_mine a) (0 + i)) = r_mine a := decF_enc0 _ _
  have ez : (decF rInt 0 fun x x_1 => AV.top) = ([] : List Int) := rfl
  rw [e0, ez]
  have hm : (r_mine a).length ≤ 1000000 := by
    unfold r_mine; rw [risR_le]
    exact Nat.le_trans (mineR_le _ _ _) h
  cases hf : first (p_rhydro a.1 a.2) (len a.1.hydros) with
  | none =>
    rw [hi]; unfold idx; rw [hf]; rfl
  | some i =>
    have hlt := (first_spec hf).1
    rw [hi]; unfold idx; rw [hf]
    simp only [Int.toNat_natCast]
    rw [T.run_br, if_neg (by simp)]
    refine chk_step (by simp; omega) (br_step (fun _ => rfl) (fun _ => chk_step (decide_eq_true h) ?_))
    show T.run (.obs (L_rbl (((i : Int), r_mine a, 0, 0), a.1, (), [], ())) _) = _
    rw [L_rbl_eq a.1 i (r_mine a) hlt hm, T.run_some, T.run_ret, decF_enc0]
noncomputable def BKBl42 : Tab := BKBl41.addCall 30 (callE D_off R_Ints (fun a => .chk (decide (len a.1.glasses ≤ 1000000)) (.ret (K.r_blm a))))
theorem tKBl42 : TabOk P BKBl42 := TabOk.addFn (d := 30) okP tKBl41 (fun a r h => by obtain ⟨g, e⟩ := chk_ret h; subst e; exact K.r_blm_eq a (by simpa using g))
end Go.Proofs.YtjbhooodjmjdkaaGreat
/-! EvX -/
namespace Go.Proofs.YtjbhooodjmjdkaaGreat.Ev
open Go.RowKit Go.Sort Go.Proofs Go.Shelf

/-- A row's cells, as values of the evaluator. -/
def rowV {τ : Type} (R : RowD τ) (a : τ) : List AV := (List.range R.wd).map fun k => conf (ckAt R.tags k) (R.wr a k)
theorem bangA {α : Type} [Inhabited α] (F : Array α) (i : Nat) (h : i < F.size) : F[i]! = F[i] := getElem!_pos F i h
theorem bangL {α : Type} [Inhabited α] (F : List α) (i : Nat) (h : i < F.length) : F[i]! = F[i] := getElem!_pos F i h
def scalD (x : AV) : Value := match scal x with
  | some v => v
  | none => .nilFunc
/-- A row's cells. -/
def rowVal {τ : Type} (R : RowD τ) (a : τ) : List Value := (rowV R a).map scalD

theorem fullCK_sc {l : List CK} : ∀ {n k : Nat}, fullCK l n = true → k < n → ∀ x, scal (conf (ckAt l k) x) = some (scalD (conf (ckAt l k) x)) ∧ (scalD (conf (ckAt l k) x)).oneCell' = true
  | 0, k, _, h => absurd h (Nat.not_lt_zero _)
  | n + 1, k, h, hk => by
    simp only [fullCK, Bool.and_eq_true] at h
    by_cases e : k = n
    · subst e
      intro x
      cases hc : ckAt l k <;> rw [hc] at h <;> first | (exact absurd h.1 (by decide)) | exact ⟨rfl, rfl⟩
    · exact fullCK_sc h.2 (by omega)

section
variable {P : Program} {τ : Type} {R : RowD τ}

theorem rowV_length (R : RowD τ) (a : τ) : (rowV R a).length = R.wd := by simp [rowV]
theorem rowVal_length (R : RowD τ) (a : τ) : (rowVal R a).length = R.wd := by simp [rowVal, rowV]
theorem rowVal_get (R : RowD τ) (a : τ) {k : Nat} (hk : k < R.wd) : (rowVal R a)[k]? = some (scalD (conf (ckAt R.tags k) (R.wr a k))) := by simp [rowVal, rowV, hk]
theorem rowVal_one (hf : fullCK R.tags R.wd = true) (a : τ) : ∀ v ∈ rowVal R a, v.oneCell' = true := by
  intro v hv
  obtain ⟨k, hk⟩ := List.getElem?_of_mem hv
  have hlt : k < R.wd := by rw [← rowVal_length R a]; exact (List.getElem?_eq_some_iff.1 hk).1
  rw [rowVal_get R a hlt] at hk
  injection hk with hk; subst hk
  exact (fullCK_sc hf hlt _).2

theorem scalD_vr {w : World} {A : Nat → Prop} {r : Rr} {x : AV} {v : Value} (hs : scal x = some (scalD x)) (h : VR w A r x v) : v = scalD x := scal_eq hs h
theorem vr_scalD {w : World} {A : Nat → Prop} {r : Rr} {x : AV} (hs : scal x = some (scalD x)) : VR w A r x (scalD x) := by
  cases x <;> simp [scal] at hs <;> simp only [scalD, scal]
  all_goals constructor

theorem vrs_row {w : World} {A : Nat → Prop} {r : Rr} (hf : fullCK R.tags R.wd = true) (a : τ) : VR w A r (.agg (rowV R a)) (.agg (rowVal R a).toArray) := by
  refine .agg (by simp [rowVal]) (fun i x u hx hu => ?_)
  have hlt : i < R.wd := by rw [← rowV_length R a]; exact (List.getElem?_eq_some_iff.1 hx).1
  rw [List.getElem?_toArray, rowVal_get R a hlt] at hu
  injection hu with hu; subst hu
  have : (rowV R a)[i]? = some (conf (ckAt R.tags i) (R.wr a i)) := by simp [rowV, hlt]
  rw [this] at hx; injection hx with hx; subst hx
  exact vr_scalD (fullCK_sc hf hlt _).1

/-- What a function that compares two rows does, as the library's sort asks it. -/
theorem cmp_lays [Inhabited τ] (hf : fullCK R.tags R.wd = true) {g : FuncId} {cf : τ → τ → Int} (hc : ∀ x y, PC P g [.agg (rowV R x), .agg (rowV R y)] (.int .i64 (cf x y))) (blk off size : Nat) (w : World) : CmpLays P g #[] (rowVal R) R.wd cf blk off size w := by
  intro m os dk hs x y
  generalize sortWorldK (rowVal R) R.wd w blk off m dk os = W
  rw [Array.append_empty]
  have h := hc x y none 0 (fun _ => False) W #[.agg (rowVal R x).toArray, .agg (rowVal R y).toArray] (fun b hb => hb.elim)
    ⟨rfl, fun i x' u hx hu => by
      match i with
      | 0 => simp at hx hu; subst hx; subst hu; exact vrs_row hf x
      | 1 => simp at hx hu; subst hx; subst hu; exact vrs_row hf y
      | i + 2 => simp at hx⟩
  refine (callsIn_wide.1 h).mono ?_
  rintro en w' ⟨v, rfl, hv, hB⟩
  cases hv
  refine ⟨rfl, w'.drawn - W.drawn, w'.heap.extract W.heap.size, ?_⟩
  have e : w'.heap = W.heap ++ w'.heap.extract W.heap.size := by
    apply Array.ext_getElem?
    intro i
    by_cases hi : i < W.heap.size
    · rw [Array.getElem?_append_left hi]; exact hB.block i hi
    · rw [Array.getElem?_append_right (by omega)]
      by_cases hj : i < w'.heap.size
      · rw [Array.getElem?_eq_getElem hj, Array.getElem?_eq_getElem (by simp; omega)]
        simp [Array.getElem_extract, show W.heap.size + (i - W.heap.size) = i by omega]
      · rw [Array.getElem?_eq_none (by omega), Array.getElem?_eq_none (by simp; omega)]
  have h1 := hB.os; have h2 := hB.tape; have h3 := hB.output; have h4 := hB.drawn
  cases w' with
  | mk heap tape drawn os' output =>
    simp only at e h1 h2 h3 h4
    subst h1; subst h2; subst h3
    unfold grow World.drewN
    simp only
    congr 1
    omega

/-- The list, sorted. -/
def sortF [Inhabited τ] (cf : τ → τ → Int) (l : List τ) : List τ := (pdq (ltOf cf) l.toArray 0 l.length (Lib.bitLen l.length) true true).toList

theorem sortF_spec [Inhabited τ] {cf : τ → τ → Int} (hO : SWO (ltOf cf)) (l : List τ) : (sortF cf l).Perm l ∧ (sortF cf l).Pairwise fun x y => ltOf cf y x = false := by
  have h := pdq_sorts (ltOf cf) hO l.toArray 0 l.length (Lib.bitLen l.length) true true (Nat.zero_le _) (Nat.le_of_eq (by simp)) (Or.inl rfl)
  obtain ⟨⟨hs, _, hp⟩, ho⟩ := h
  unfold sortF
  generalize pdq (ltOf cf) l.toArray 0 l.length (Lib.bitLen l.length) true true = d at hs hp ho
  have hs : d.size = l.length := by simpa using hs
  have e1 : d.extract 0 l.length = d := by rw [← hs]; simp
  have e2 : l.toArray.extract 0 l.length = l.toArray := by simp
  rw [e1, e2] at hp
  refine ⟨by simpa using hp, ?_⟩
  rw [List.pairwise_iff_getElem]
  intro i j hi hj hij
  have := ho i j (Nat.zero_le _) hij (by simpa [← hs] using hj)
  rw [bangA d i (by simpa using hi), bangA d j (by simpa using hj)] at this
  simpa using this

theorem sortF_length [Inhabited τ] {cf : τ → τ → Int} (hO : SWO (ltOf cf)) (l : List τ) : (sortF cf l).length = l.length := (sortF_spec hO l).1.length_eq

/-- Where no two that are not one tie, there is one sorted list. -/
theorem sortF_unique [Inhabited τ] {cf : τ → τ → Int} (hO : SWO (ltOf cf)) {l l' : List τ} (hp : l'.Perm l) (hs : l'.Pairwise fun x y => ltOf cf y x = false) (ht : ∀ x ∈ l, ∀ y ∈ l, ltOf cf x y = false → ltOf cf y x = false → x = y) : sortF cf l = l' := by
  obtain ⟨h1, h2⟩ := sortF_spec hO l
  refine List.Perm.eq_of_pairwise (le := fun x y => ltOf cf y x = false) (fun a b ha hb h3 h4 => ?_) h2 hs (h1.trans hp.symm)
  exact ht a (h1.mem_iff.1 ha) b (hp.mem_iff.1 hb) h4 h3

theorem rows_flat [Inhabited τ] (hf : fullCK R.tags R.wd = true) (h0 : 0 < R.wd) {w : World} {A : Nat → Prop} {g : Get AV} {n : Nat} {rows : List Value} (ht : g.tag = R.tags) (hl : rows.length = n * R.wd) (h : RowsR w A g n R.wd rows) : rows = (Go.Sort.flatK (rowVal R) R.wd (decF R n g.f).toArray).toList := by
  apply List.ext_getElem?
  intro i
  have hdl : (decF R n g.f).length = n := decF_length ..
  by_cases hi : i < n * R.wd
  · have hr : i / R.wd < n := Nat.div_lt_of_lt_mul (by rw [Nat.mul_comm]; exact hi)
    have hm : i % R.wd < R.wd := Nat.mod_lt _ h0
    obtain ⟨u, hu, hv⟩ := h (i / R.wd) (i % R.wd) hr hm
    rw [Nat.div_add_mod'] at hu
    have hk := fullCK_sc hf hm (g.f (i / R.wd) (i % R.wd))
    have hu' := scalD_vr (x := g.cell (i / R.wd) (i % R.wd)) (by rw [Get.cell, ht]; exact hk.1) hv
    have hF : i < (Go.Sort.flatK (rowVal R) R.wd (decF R n g.f).toArray).size := by rw [Go.Sort.size_flatK]; simpa [hdl] using hi
    have hG := get_flatK (rowVal R) R.wd (decF R n g.f).toArray i (by simpa [hdl] using hi)
    rw [bangA _ i hF] at hG
    rw [hu, hu', Array.getElem?_toList, Array.getElem?_eq_getElem hF, hG]
    have e : (decF R n g.f).toArray[i / R.wd]! = R.rd (g.f (i / R.wd)) := by
      rw [bangA _ _ (by simpa [hdl] using hr)]; simp [decF]
    rw [e]
    have e2 := rowVal_get R (R.rd (g.f (i / R.wd))) hm
    have hlt : i % R.wd < (rowVal R (R.rd (g.f (i / R.wd)))).length := by rw [rowVal_length]; exact hm
    rw [bangL _ _ hlt]
    rw [List.getElem?_eq_getElem hlt] at e2
    injection e2 with e2
    rw [e2, R.ok _ _ hm, Get.cell, ht]
  · rw [List.getElem?_eq_none (by omega), List.getElem?_eq_none (by simp [hdl]; omega)]

theorem rowsR_flat [Inhabited τ] (hf : fullCK R.tags R.wd = true) (h0 : 0 < R.wd) {w : World} {A : Nat → Prop} (l : List τ) : RowsR w A ⟨R.tags, encF R l⟩ l.length R.wd (Go.Sort.flatK (rowVal R) R.wd l.toArray).toList := by
  intro i k hi hk
  have hlt : i * R.wd + k < l.length * R.wd := by
    have : (i + 1) * R.wd ≤ l.length * R.wd := Nat.mul_le_mul_right _ hi
    rw [Nat.add_mul, Nat.one_mul] at this; omega
  have hF : i * R.wd + k < (Go.Sort.flatK (rowVal R) R.wd l.toArray).size := by rw [Go.Sort.size_flatK]; simpa using hlt
  have hG := get_flatK (rowVal R) R.wd l.toArray (i * R.wd + k) (by simpa using hlt)
  rw [bangA _ _ hF] at hG
  have ed : (i * R.wd + k) / R.wd = i := by rw [Nat.mul_comm, Nat.mul_add_div h0, Nat.div_eq_of_lt hk, Nat.add_zero]
  have em : (i * R.wd + k) % R.wd = k := by rw [Nat.mul_comm, Nat.mul_add_mod, Nat.mod_eq_of_lt hk]
  rw [ed, em] at hG
  have e : l.toArray[i]! = l[i] := by rw [bangA _ _ (by simpa using hi)]; simp
  rw [e] at hG
  have hlt2 : k < (rowVal R l[i]).length := by rw [rowVal_length]; exact hk
  have e2 := rowVal_get R l[i] hk
  rw [List.getElem?_eq_getElem hlt2] at e2
  injection e2 with e2
  rw [bangL _ _ hlt2, e2] at hG
  refine ⟨_, by rw [Array.getElem?_toList, Array.getElem?_eq_getElem hF, hG], ?_⟩
  simp only [Get.cell, encF_at (List.getElem?_eq_getElem hi)]
  exact vr_scalD (fullCK_sc hf hk _).1

theorem holds_flat {w : World} {b : Nat} {cur : Array Value} {e : TypeId} {F : Array Value} (hb : w.heap[b]? = some (.cells cur e (0, 0))) (ht : cur.toList.take F.size = F.toList) : Holds id w b 0 F := by
  intro j hj
  refine ⟨?_, by simp [World.frozen?, hb]⟩
  have h1 : (cur.toList.take F.size)[j]? = F.toList[j]? := by rw [ht]
  rw [List.getElem?_take_of_lt hj] at h1
  simp only [World.cell?, hb, Nat.zero_add]
  simp only [Option.isSome_none, Bool.false_eq_true, if_false]
  rw [← Array.getElem?_toList, h1, Array.getElem?_toList, bangA _ _ hj, Array.getElem?_eq_getElem hj]; rfl

theorem heap_flat {w : World} {b n : Nat} {os : Array Obj} {cur : Array Value} {e : TypeId} {fr : Nat × Nat} (F : Array Value) (hb : w.heap[b]? = some (.cells cur e fr)) :
    (grow (putRow id (Sort.ahead w n) b 0 F) os).heap[b]? = some (.cells (putCells id 0 F cur) e fr) := by
  have hg : b < w.heap.size := (Array.getElem?_eq_some_iff.1 hb).1
  rw [heap_grow_old _ _ (by simpa using hg)]
  simp [putRow, mapBlock, Sort.ahead, Array.getElem?_modify, hb, onCells]

theorem grownBy_flat {w : World} {b n : Nat} {os : Array Obj} (F : Array Value) : w.grownBy (grow (putRow id (Sort.ahead w n) b 0 F) os) (some b) := by
  refine ⟨rfl, rfl, rfl, by simp, fun k hk hne => ?_⟩
  rw [heap_grow_old _ _ (by simpa using hk)]
  have : b ≠ k := fun e => hne (by rw [e])
  simp [putRow, mapBlock, Sort.ahead, Array.getElem?_modify, this]

theorem take_putFlat (cur F : Array Value) (h : F.size ≤ cur.size) : (putCells id 0 F cur).toList.take F.size = F.toList := by
  apply List.ext_getElem?
  intro j
  by_cases hj : j < F.size
  · rw [List.getElem?_take_of_lt hj, Array.getElem?_toList]
    simp [putCells, hj, show j < cur.size by omega]
  · rw [List.getElem?_take_eq_none (by omega), List.getElem?_eq_none (by simp; omega)]

/-- slices.SortFunc at rows that are structs or arrays. -/
theorem mc_sortF [Inhabited τ] {ρ : Ren} (L : SlLaysF0.n6 P ρ) (hf : fullCK R.tags R.wd = true) (h0 : 0 < R.wd) (aE : ∀ w, (isAgg (ρ.t 24)).run P w = .ok true w) (zE : ∀ w, (Go.sizeOf (ρ.t 24)).run P w = .ok R.wd w) {g : FuncId} {cf : τ → τ → Int} (hO : SWO (ltOf cf))
    (eg : ∀ args w, (callFunc g args).run P w = .ok (.enter g args) w) (hc : ∀ x y, PC P g [.agg (rowV R x), .agg (rowV R y)] (.int .i64 (cf x y))) {n : Nat} {G : Get AV} (ht : G.tag = R.tags) (hn : n < 4611686018427387904) :
    MC P (ρ.f 6) R.wd n G ⟨R.tags, encF R (sortF cf (decF R n G.f))⟩ [.fn (.func g) [] []] := by
  intro ro m A w t e c rows us hA hob hz hnc hwd hown hrows hus
  obtain ⟨hsz, hval⟩ := hus
  have hfn : us = #[.func (.func g) #[] #[]] := by
    have h1 : us.size = 1 := hsz.symm
    obtain ⟨u, hu⟩ : ∃ u, us = #[u] := Array.size_eq_one_iff.1 h1
    subst hu
    have := hval 0 _ u rfl rfl
    cases this with
    | fn hx hy h3 h4 =>
      rename_i us0 vs0
      have e1 : us0 = #[] := Array.eq_empty_of_size_eq_zero (by simpa using hx.symm)
      have e2 : vs0 = #[] := Array.eq_empty_of_size_eq_zero (by simpa using hy.symm)
      subst e1; subst e2; rfl
  subst hfn
  apply callsIn_round
  have hdl : (decF R n G.f).length = n := decF_length ..
  have hsl := sortF_length hO (decF R n G.f)
  cases e with
  | zero =>
    obtain ⟨rfl, rfl⟩ := hz rfl
    refine (callsIn_wide.2 (AnyF.slices_SortFunc_none L none 0 _ w)).mono ?_
    rintro en w' ⟨rfl, rfl⟩
    exact ⟨rfl, rows, ⟨⟨rfl, rfl, rfl, Nat.le_refl _, fun _ _ _ => rfl⟩, Nat.le_refl _⟩, hown, fun i k hi => absurd hi (Nat.not_lt_zero _)⟩
  | succ b =>
    have hr := rows_flat hf h0 ht hown.1 hrows
    obtain ⟨hl, hown⟩ := hown
    rcases hown with ⟨hv, _⟩ | ⟨g0, cap, cur, hv, hbase, hheap, hle, hmax, hsz, htake⟩
    · cases hv
    · cases hv
      generalize hd : decF R n G.f = d at *
      have hFs : (Go.Sort.flatK (rowVal R) R.wd d.toArray).size = n * R.wd := by rw [Go.Sort.size_flatK]; simp [hdl]
      have hH : HoldsK (rowVal R) R.wd w b 0 d.toArray := holds_flat hheap (by rw [hFs, ← hr, htake])
      have hlt : b < w.heap.size := (Array.getElem?_eq_some_iff.1 hheap).1
      have hcon := AnyQ.slices_SortFunc_eq L R.wd aE zE (rowVal R) (rowVal_length R) (rowVal_one hf) cf hO g #[] b 0 c d.toArray w eg (cmp_lays hf hc b 0 d.toArray.size w) hH hlt (by simpa [hdl] using hn)
      have es : d.toArray.size = n := by simpa using hdl
      rw [es] at hcon
      refine (callsIn_wide.2 hcon).mono ?_
      rintro en w' ⟨rfl, n', os, rfl⟩
      have hsd : (pdq (ltOf cf) d.toArray 0 n (Lib.bitLen n) true true).toList = sortF cf d := by unfold sortF; rw [hdl]
      generalize hp : pdq (ltOf cf) d.toArray 0 n (Lib.bitLen n) true true = q at *
      have hq : q = (sortF cf d).toArray := by rw [← hsd]
      subst hq
      have hqs : (Go.Sort.flatK (rowVal R) R.wd (sortF cf d).toArray).size = n * R.wd := by rw [Go.Sort.size_flatK]; simp [hsl, hdl]
      have hle2 : n * R.wd ≤ cur.size := by rw [hsz]; exact Nat.mul_le_mul_right _ hle
      refine ⟨rfl, (Go.Sort.flatK (rowVal R) R.wd (sortF cf d).toArray).toList, ⟨grownBy_flat _, Nat.le_add_right _ _⟩, ⟨by simpa using hqs, .inr ⟨b, c, _, rfl, hbase, heap_flat _ hheap, hle, hmax, by simp [putCells, hsz], ?_⟩⟩, ?_⟩
      · rw [← hqs]; exact take_putFlat _ _ (by rw [hqs]; exact hle2)
      · have := rowsR_flat (R := R) hf h0 (w := grow (putRow id (Sort.ahead w n') b 0 (Go.Sort.flatK (rowVal R) R.wd (sortF cf d).toArray)) os) (A := A) (sortF cf d)
        rw [hsl, hdl] at this
        exact this

/-- What the sort of a list of rows comes to. -/
def sortFE (R : RowD τ) (g : FuncId) (srt : List τ → List τ) : List AV → Option (T AV)
  | .osl _ _ _ :: .xsl wd n G _ _ _ :: .fn (.func f) [] [] :: [] => match Nat.beq f g && (Nat.beq wd R.wd && ckLEq G.tag R.tags) with
    | true => some (.chk (decide (n < 4611686018427387904)) (.ret (.xsl wd n ⟨R.tags, encF R (srt (decF R n G.f))⟩ 0 n none)))
    | false => none
  | _ => none

theorem sortFE_cc {f g : FuncId} {srt : List τ → List τ} (h : ∀ n (G : Get AV), G.tag = R.tags → n < 4611686018427387904 → MC P f R.wd n G ⟨R.tags, encF R (srt (decF R n G.f))⟩ [.fn (.func g) [] []]) (args : List AV) (t : T AV) (v : AV) (ht : sortFE R g srt args = some t) (hr : t.run = some v) : CC P f args v := by
  unfold sortFE at ht
  split at ht
  · rename_i j0 v0 n0 wd n G a b c f
    split at ht
    · rename_i hc
      simp only [Bool.and_eq_true] at hc
      have e1 := Nat.eq_of_beq_eq_true hc.1; have e2 := Nat.eq_of_beq_eq_true hc.2.1; have e3 := ckLEq_eq hc.2.2; subst e1; subst e2
      injection ht with ht; subst ht
      simp only [T.run] at hr
      split at hr
      · rename_i g1
        injection hr with hr; subst hr
        exact h n G e3 (of_decide_eq_true g1)
      · cases hr
    · cases ht
  · cases ht
end
end Go.Proofs.YtjbhooodjmjdkaaGreat.Ev
/-! KBl5 -/
namespace Go.Proofs.YtjbhooodjmjdkaaGreat
open Ev K
set_option maxRecDepth 100000
def V_co := DecL.skips 2 (.unit (dLp 0 0 0 0) (.unit (dLp 1 0 0 0) (.skips 3 (.unit (dLp 2 0 0 0) (.skip (.unit (dLp 3 0 0 0) (.skips 17 (.last R_gl 46))))))))
def S_ci := DecS.rnd (.skips 2 (.unit (dLp 0 0 0 0) (.unit (dLp 1 0 0 0) (.skips 3 (.unit (dLp 2 0 0 0) (.skip (.unit (dLp 3 0 0 0) (.unit (dLp 5 0 0 0) (.skips 16 (.cons R_gl (.skips 16 (.last R_gl 29)))))))))))) (.flat 31 lBulbs (.flat 3 (.last (dI .i64) 0) (.flat 127 lHydro (.flat 69 (.last (dO 4) 0) (.rows 75 rPair (.flat 134 lTold .nil)))))) V_co
noncomputable def K.st_ci := rangeT1 P BKBl42 30 27 105 [44, 9, 10, 2, 3, 7, 27] S_ci DecX.no eTold
theorem rg_ci : ∀ s x, (K.st_ci) s x = T.run (
  .br (decide (Glass.id (GlassE.g (Prod.fst (Prod.snd (Prod.snd (Prod.snd (Prod.snd (Prod.snd (Prod.fst (Prod.snd s))))))))) < Glass.id (GlassE.g x))) (
    .br (void (meet (GlassE.errors (Prod.fst (Prod.snd (Prod.snd (Prod.snd (Prod.snd (Prod.snd (Prod.fst (Prod.snd s))))))))) (GlassE.errors x))) (
      .chk (decide ((List.length (Prod.fst (Prod.snd (Prod.snd (Prod.snd (Prod.snd (Prod.fst (Prod.snd s))))))) + (1 : Nat)) * (16 : Nat) ≤ (140737488355328 : Nat) ∧ List.length (Prod.fst (Prod.snd (Prod.snd (Prod.snd (Prod.snd (Prod.fst (Prod.snd s))))))) + (1 : Nat) ≤ nat_lit 9223372036854775807)) <|
      .ret (Sum.inl (Prod.fst s, (Prod.fst (Prod.fst (Prod.snd s)), Prod.fst (Prod.snd (Prod.fst (Prod.snd s))), Prod.fst (Prod.snd (Prod.snd (Prod.fst (Prod.snd s)))), List.length (Prod.fst (Prod.snd (Prod.snd (Prod.snd (Prod.snd (Prod.fst (Prod.snd s))))))) + (1 : Nat), decF rPair (List.length (Prod.fst (Prod.snd (Prod.snd (Prod.snd (Prod.snd (Prod.fst (Prod.snd s))))))) + (1 : Nat)) (appG (List.length (Prod.fst (Prod.snd (Prod.snd (Prod.snd (Prod.snd (Prod.fst (Prod.snd s)))))))) (encF rPair (Prod.fst (Prod.snd (Prod.snd (Prod.snd (Prod.snd (Prod.fst (Prod.snd s)))))))) fun i k => Option.getD [AV.int IntKind.i64 (Glass.id (GlassE.g (Prod.fst (Prod.snd (Prod.snd (Prod.snd (Prod.snd (Prod.snd (Prod.fst (Prod.snd s)))))))))), AV.int IntKind.i64 (Glass.id (GlassE.g x))][((0 : Nat) + i) * (2 : Nat) + k]? AV.top), Prod.fst (Prod.snd (Prod.snd (Prod.snd (Prod.snd (Prod.snd (Prod.fst (Prod.snd s))))))), PUnit.unit), Prod.snd (Prod.snd s)))) (
      .ret (Sum.inl (Prod.fst s, (Prod.fst (Prod.fst (Prod.snd s)), Prod.fst (Prod.snd (Prod.fst (Prod.snd s))), Prod.fst (Prod.snd (Prod.snd (Prod.fst (Prod.snd s)))), Prod.fst (Prod.snd (Prod.snd (Prod.snd (Prod.fst (Prod.snd s))))), decF rPair (List.length (Prod.fst (Prod.snd (Prod.snd (Prod.snd (Prod.snd (Prod.fst (Prod.snd s)))))))) (encF rPair (Prod.fst (Prod.snd (Prod.snd (Prod.snd (Prod.snd (Prod.fst (Prod.snd s)))))))), Prod.fst (Prod.snd (Prod.snd (Prod.snd (Prod.snd (Prod.snd (Prod.fst (Prod.snd s))))))), PUnit.unit), Prod.snd (Prod.snd s))))) (
    .ret (Sum.inl (Prod.fst s, (Prod.fst (Prod.fst (Prod.snd s)), Prod.fst (Prod.snd (Prod.fst (Prod.snd s))), Prod.fst (Prod.snd (Prod.snd (Prod.fst (Prod.snd s)))), Prod.fst (Prod.snd (Prod.snd (Prod.snd (Prod.fst (Prod.snd s))))), decF rPair (List.length (Prod.fst (Prod.snd (Prod.snd (Prod.snd (Prod.snd (Prod.fst (Prod.snd s)))))))) (encF rPair (Prod.fst (Prod.snd (Prod.snd (Prod.snd (Prod.snd (Prod.fst (Prod.snd s)))))))), Prod.fst (Prod.snd (Prod.snd (Prod.snd (Prod.snd (Prod.snd (Prod.fst (Prod.snd s))))))), PUnit.unit), Prod.snd (Prod.snd s))))) := fun s x => by kernel_rfl
/-- A glass that contradicts another one. -/
def K.ciP (g x : GlassE) : Bool := decide (g.g.id < x.g.id) && void (meet g.errors x.errors)
def K.ci1 (g x : GlassE) : List (Int × Int) := if ciP g x = true then [(g.g.id, x.g.id)] else []
namespace K
theorem ci1_le (g x : GlassE) : (ci1 g x).length ≤ 1 := by unfold ci1; split <;> simp
theorem st_ci_eq (z a z' : Bulbs × Int) (b : Bulbs) (n : Int) (h : Hydro) (L : List (Int × Int)) (g x : GlassE) (hl : L.length ≤ 1000000) : st_ci ((z, a), (b, n, h, L.length, L, g, ()), z') x = some (.inl ((z, a), (b, n, h, (L ++ ci1 g x).length, L ++ ci1 g x, g, ()), z')) := by
  rw [rg_ci]; unfold ci1 ciP
  simp only [T.run_br]
  by_cases h1 : g.g.id < x.g.id
  · rw [decide_eq_true h1, if_pos rfl, Bool.true_and]
    by_cases h2 : void (meet g.errors x.errors) = true
    · rw [if_pos h2, if_pos h2]
      refine chk_step (decide_eq_true (by omega)) ?_
      rw [T.run_ret, decF_push]
      simp only [List.length_append]; rfl
    · rw [if_neg h2, if_neg h2, T.run_ret, decF_encF, List.append_nil]
  · rw [decide_eq_false h1, if_neg (by decide), Bool.false_and, if_neg (by decide), T.run_ret, decF_encF, List.append_nil]
theorem fold_ci (z a z' : Bulbs × Int) (b : Bulbs) (n : Int) (h : Hydro) (g : GlassE) : ∀ (xs : List GlassE) (L : List (Int × Int)), L.length + xs.length ≤ 1000000 → foldS st_ci xs ((z, a), (b, n, h, L.length, L, g, ()), z') = some (.inl ((z, a), (b, n, h, (L ++ xs.flatMap (ci1 g)).length, L ++ xs.flatMap (ci1 g), g, ()), z'))
  | [], L, _ => by simp [foldS]
  | x :: xs, L, hl => by
    have h1 := ci1_le g x
    simp only [List.length_cons] at hl
    rw [foldS, st_ci_eq z a z' b n h L g x (by omega)]
    simp only
    rw [fold_ci z a z' b n h g xs (L ++ ci1 g x) (by rw [List.length_append]; omega), List.flatMap_cons, List.append_assoc]
/-- What one glass contradicts, behind what was there. -/
def ciApp (L : List (Int × Int)) (a : Bulbs × Int) (g : GlassE) : List (Int × Int) := L ++ (glassesL a.1 a.2).flatMap (ci1 g)
def ciOk (n : Nat) (L : List (Int × Int)) (a : Bulbs × Int) : Bool := decide (n = L.length ∧ L.length + (glassesL a.1 a.2).length ≤ 1000000)
end K
noncomputable def BKBl51 : Tab := BKBl42.addNode 27 105 (rangeE [44, 9, 10, 2, 3, 7, 27] S_ci DecX.no (fun s => .chk (K.ciOk s.2.1.2.2.2.1 s.2.1.2.2.2.2.1 s.1.2) (.ret (.inl (s.1, (s.2.1.1, s.2.1.2.1, s.2.1.2.2.1, (K.ciApp s.2.1.2.2.2.2.1 s.1.2 s.2.1.2.2.2.2.2.1).length, K.ciApp s.2.1.2.2.2.2.1 s.1.2 s.2.1.2.2.2.2.2.1, s.2.1.2.2.2.2.2.1, ()), s.2.2)))))
theorem tKBl51 : TabOk P BKBl51 := TabOk.addRange (d := 30) (enc := eTold) (L := (fun s => glassesL s.1.2.1 s.1.2.2)) okP tKBl42 (by kernel_rfl) (by kernel_rfl) (fun s r h => ⟨_, _, _, (by kernel_rfl : _ = some (134, [], V_gls.enc s.1.2)), icl_gls s.1.2.2 s.1.2.1⟩) (fun s r h => by obtain ⟨gg, e⟩ := chk_ret h; subst e; obtain ⟨⟨z, a⟩, ⟨b, n, hh, c, L, g, _⟩, z'⟩ := s; obtain ⟨e1, e2⟩ := of_decide_eq_true gg; simp only at e1 e2; subst e1; exact K.fold_ci z a z' b n hh g _ L e2)
def S_co := DecS.ghostC 9 75 2 [.int .i64, .int .i64] (DecS.mk0 V_co (.flat 31 lBulbs (.flat 3 (.last (dI .i64) 0) (.flat 127 lHydro (.flat 69 (.last (dO 4) 0) (.rows 75 rPair .nil))))))
noncomputable def K.st_co := rangeT1 P BKBl51 30 27 73 [27, 9, 3, 2, 7] S_co DecX.no eTold
theorem rg_co : ∀ s x, (K.st_co) s x = T.run (
  .br (void (meet (GlassE.errors x) (Hydro.off (Prod.fst (Prod.snd (Prod.snd (Prod.snd s))))))) (
    .chk (decide ((List.length (Prod.fst (Prod.snd (Prod.snd (Prod.snd (Prod.snd (Prod.snd s)))))) + (1 : Nat)) * (16 : Nat) ≤ (140737488355328 : Nat) ∧ List.length (Prod.fst (Prod.snd (Prod.snd (Prod.snd (Prod.snd (Prod.snd s)))))) + (1 : Nat) ≤ nat_lit 9223372036854775807)) <|
    .chk (ciOk (List.length (Prod.fst (Prod.snd (Prod.snd (Prod.snd (Prod.snd (Prod.snd s)))))) + (1 : Nat)) (decF rPair (List.length (Prod.fst (Prod.snd (Prod.snd (Prod.snd (Prod.snd (Prod.snd s)))))) + (1 : Nat)) (appG (List.length (Prod.fst (Prod.snd (Prod.snd (Prod.snd (Prod.snd (Prod.snd s))))))) (encF rPair (Prod.fst (Prod.snd (Prod.snd (Prod.snd (Prod.snd (Prod.snd s))))))) fun i k => Option.getD [AV.int IntKind.i64 (0 : Int), AV.int IntKind.i64 (Glass.id (GlassE.g x))][((0 : Nat) + i) * (2 : Nat) + k]? AV.top)) (Prod.fst (Prod.snd s), Prod.fst (Prod.snd (Prod.snd s)))) <|
    .ret (Sum.inl (Prod.fst s, Prod.fst (Prod.snd s), Prod.fst (Prod.snd (Prod.snd s)), Prod.fst (Prod.snd (Prod.snd (Prod.snd s))), List.length (ciApp (decF rPair (List.length (Prod.fst (Prod.snd (Prod.snd (Prod.snd (Prod.snd (Prod.snd s)))))) + (1 : Nat)) (appG (List.length (Prod.fst (Prod.snd (Prod.snd (Prod.snd (Prod.snd (Prod.snd s))))))) (encF rPair (Prod.fst (Prod.snd (Prod.snd (Prod.snd (Prod.snd (Prod.snd s))))))) fun i k => Option.getD [AV.int IntKind.i64 (0 : Int), AV.int IntKind.i64 (Glass.id (GlassE.g x))][((0 : Nat) + i) * (2 : Nat) + k]? AV.top)) (Prod.fst (Prod.snd s), Prod.fst (Prod.snd (Prod.snd s))) x), decF rPair (List.length (ciApp (decF rPair (List.length (Prod.fst (Prod.snd (Prod.snd (Prod.snd (Prod.snd (Prod.snd s)))))) + (1 : Nat)) (appG (List.length (Prod.fst (Prod.snd (Prod.snd (Prod.snd (Prod.snd (Prod.snd s))))))) (encF rPair (Prod.fst (Prod.snd (Prod.snd (Prod.snd (Prod.snd (Prod.snd s))))))) fun i k => Option.getD [AV.int IntKind.i64 (0 : Int), AV.int IntKind.i64 (Glass.id (GlassE.g x))][((0 : Nat) + i) * (2 : Nat) + k]? AV.top)) (Prod.fst (Prod.snd s), Prod.fst (Prod.snd (Prod.snd s))) x)) (encF rPair (ciApp (decF rPair (List.length (Prod.fst (Prod.snd (Prod.snd (Prod.snd (Prod.snd (Prod.snd s)))))) + (1 : Nat)) (appG (List.length (Prod.fst (Prod.snd (Prod.snd (Prod.snd (Prod.snd (Prod.snd s))))))) (encF rPair (Prod.fst (Prod.snd (Prod.snd (Prod.snd (Prod.snd (Prod.snd s))))))) fun i k => Option.getD [AV.int IntKind.i64 (0 : Int), AV.int IntKind.i64 (Glass.id (GlassE.g x))][((0 : Nat) + i) * (2 : Nat) + k]? AV.top)) (Prod.fst (Prod.snd s), Prod.fst (Prod.snd (Prod.snd s))) x)), PUnit.unit))) (
    .chk (ciOk (Prod.fst (Prod.snd (Prod.snd (Prod.snd (Prod.snd s))))) (decF rPair (List.length (Prod.fst (Prod.snd (Prod.snd (Prod.snd (Prod.snd (Prod.snd s))))))) (encF rPair (Prod.fst (Prod.snd (Prod.snd (Prod.snd (Prod.snd (Prod.snd s)))))))) (Prod.fst (Prod.snd s), Prod.fst (Prod.snd (Prod.snd s)))) <|
    .ret (Sum.inl (Prod.fst s, Prod.fst (Prod.snd s), Prod.fst (Prod.snd (Prod.snd s)), Prod.fst (Prod.snd (Prod.snd (Prod.snd s))), List.length (ciApp (decF rPair (List.length (Prod.fst (Prod.snd (Prod.snd (Prod.snd (Prod.snd (Prod.snd s))))))) (encF rPair (Prod.fst (Prod.snd (Prod.snd (Prod.snd (Prod.snd (Prod.snd s)))))))) (Prod.fst (Prod.snd s), Prod.fst (Prod.snd (Prod.snd s))) x), decF rPair (List.length (ciApp (decF rPair (List.length (Prod.fst (Prod.snd (Prod.snd (Prod.snd (Prod.snd (Prod.snd s))))))) (encF rPair (Prod.fst (Prod.snd (Prod.snd (Prod.snd (Prod.snd (Prod.snd s)))))))) (Prod.fst (Prod.snd s), Prod.fst (Prod.snd (Prod.snd s))) x)) (encF rPair (ciApp (decF rPair (List.length (Prod.fst (Prod.snd (Prod.snd (Prod.snd (Prod.snd (Prod.snd s))))))) (encF rPair (Prod.fst (Prod.snd (Prod.snd (Prod.snd (Prod.snd (Prod.snd s)))))))) (Prod.fst (Prod.snd s), Prod.fst (Prod.snd (Prod.snd s))) x)), PUnit.unit)))) := fun s x => by kernel_rfl
namespace K
def co1 (b : Bulbs) (n : Int) (h : Hydro) (g : GlassE) : List (Int × Int) := (if void (meet g.errors h.off) = true then [(0, g.g.id)] else []) ++ (glassesL b n).flatMap (ci1 g)
theorem ciFlat_le (g : GlassE) (l : List GlassE) : (l.flatMap (ci1 g)).length ≤ l.length := flatMap_le (fun x => ci1_le g x) l
theorem co1_le (b : Bulbs) (n : Int) (h : Hydro) (g : GlassE) : (co1 b n h g).length ≤ 1 + (glassesL b n).length := by
  have := ciFlat_le g (glassesL b n)
  unfold co1
  rw [List.length_append]
  generalize (List.flatMap (ci1 g) (glassesL b n)).length = z at *
  split <;> simp only [List.length_cons, List.length_nil] <;> omega
theorem st_co_eq (a : Bulbs × Int) (b : Bulbs) (n : Int) (h : Hydro) (L : List (Int × Int)) (x : GlassE) (hl : L.length + 1 + (glassesL b n).length ≤ 1000000) : st_co (a, b, n, h, L.length, L, ()) x = some (.inl (a, b, n, h, (L ++ co1 b n h x).length, L ++ co1 b n h x, ())) := by
  rw [rg_co]; unfold co1
  simp only [T.run_br]
  by_cases h1 : void (meet x.errors h.off) = true
  · rw [if_pos h1, if_pos h1]
    have e : ∀ g : Nat → Nat → AV, rPair.rd (g 0) = (0, x.g.id) → decF rPair (L.length + 1) (appG L.length (encF rPair L) g) = L ++ [(0, x.g.id)] := fun g hg => by rw [decF_push, hg]
    refine chk_step (decide_eq_true (by omega)) (chk_step ?_ ?_)
    · unfold ciOk
      rw [e _ rfl]
      exact decide_eq_true ⟨by simp, by simp; omega⟩
    · rw [T.run_ret]
      rw [e _ rfl, decF_encF]
      unfold ciApp
      rw [List.append_assoc]
  · rw [if_neg h1, if_neg h1]
    refine chk_step ?_ ?_
    · unfold ciOk
      rw [decF_encF]
      exact decide_eq_true ⟨rfl, by simp; omega⟩
    · rw [T.run_ret, decF_encF, decF_encF]
      unfold ciApp
      rw [List.nil_append]
theorem fold_co (a : Bulbs × Int) (b : Bulbs) (n : Int) (h : Hydro) : ∀ (xs : List GlassE) (L : List (Int × Int)), L.length + xs.length * (1 + (glassesL b n).length) ≤ 1000000 → foldS st_co xs (a, b, n, h, L.length, L, ()) = some (.inl (a, b, n, h, (L ++ xs.flatMap (co1 b n h)).length, L ++ xs.flatMap (co1 b n h), ()))
  | [], L, _ => by simp [foldS]
  | x :: xs, L, hl => by
    have h1 := co1_le b n h x
    rw [List.length_cons, Nat.add_mul, Nat.one_mul] at hl
    rw [foldS, st_co_eq a b n h L x (by omega)]
    simp only
    rw [fold_co a b n h xs (L ++ co1 b n h x) (by rw [List.length_append]; omega), List.flatMap_cons, List.append_assoc]
/-- All that contradicts, behind what was there. -/
def coApp (L : List (Int × Int)) (a : Bulbs × Int) (b : Bulbs) (n : Int) (h : Hydro) : List (Int × Int) := L ++ (glassesL a.1 a.2).flatMap (co1 b n h)
def coOk (k : Nat) (L : List (Int × Int)) (a : Bulbs × Int) (b : Bulbs) (n : Int) : Bool := decide (k = L.length ∧ L.length + (glassesL a.1 a.2).length * (1 + (glassesL b n).length) ≤ 1000000)
end K
noncomputable def BKBl52 : Tab := BKBl51.addNode 27 73 (rangeE [27, 9, 3, 2, 7] S_co DecX.no (fun s => .chk (K.coOk s.2.2.2.2.1 s.2.2.2.2.2.1 s.1 s.2.1 s.2.2.1) (.ret (.inl (s.1, s.2.1, s.2.2.1, s.2.2.2.1, (K.coApp s.2.2.2.2.2.1 s.1 s.2.1 s.2.2.1 s.2.2.2.1).length, K.coApp s.2.2.2.2.2.1 s.1 s.2.1 s.2.2.1 s.2.2.2.1, ())))))
theorem tKBl52 : TabOk P BKBl52 := TabOk.addRange (d := 30) (enc := eTold) (L := (fun s => glassesL s.1.1 s.1.2)) okP tKBl51 (by kernel_rfl) (by kernel_rfl) (fun s r h => ⟨_, _, _, (by kernel_rfl : _ = some (134, [], V_gls.enc s.1)), icl_gls s.1.2 s.1.1⟩) (fun s r h => by obtain ⟨gg, e⟩ := chk_ret h; subst e; obtain ⟨a, b, n, hh, c, L, _⟩ := s; obtain ⟨e1, e2⟩ := of_decide_eq_true gg; simp only at e1 e2; subst e1; exact K.fold_co a b n hh _ L e2)
def D_cmpP := DecL.cons (dAgg (.cons (dI .i64) (.last (dI .i64) 0))) (.last (dAgg (.cons (dI .i64) (.last (dI .i64) 0))) 0)
def K.cmpP (x y : Int × Int) : Int := if x.1 < y.1 then -1 else if x.1 > y.1 then 1 else if x.2 < y.2 then -1 else if x.2 > y.2 then 1 else 0
theorem fn_cmpP : ∀ a, (callT1 P BKBl52 30 76 D_cmpP (dI .i64)) a = T.run (
  .br (Prod.fst (Prod.fst a) != Prod.fst (Prod.fst a)) (
    .br (Prod.fst (Prod.snd a) != Prod.fst (Prod.snd a)) (
      .br (Prod.snd (Prod.fst a) != Prod.snd (Prod.fst a)) (
        .br (Prod.snd (Prod.snd a) != Prod.snd (Prod.snd a)) (
          .ret ((0 : Int))) (
          .ret ((-1 : Int)))) (
        .br (Prod.snd (Prod.snd a) != Prod.snd (Prod.snd a)) (
          .ret ((1 : Int))) (
          .br (decide (Prod.snd (Prod.fst a) < Prod.snd (Prod.snd a))) (
            .ret ((-1 : Int))) (
            .br (decide (Prod.snd (Prod.fst a) > Prod.snd (Prod.snd a))) (
              .ret ((1 : Int))) (
              .ret ((0 : Int))))))) (
      .ret ((-1 : Int)))) (
    .br (Prod.fst (Prod.snd a) != Prod.fst (Prod.snd a)) (
      .ret ((1 : Int))) (
      .br (decide (Prod.fst (Prod.fst a) < Prod.fst (Prod.snd a))) (
        .ret ((-1 : Int))) (
        .br (decide (Prod.fst (Prod.fst a) > Prod.fst (Prod.snd a))) (
          .ret ((1 : Int))) (
          .br (Prod.snd (Prod.fst a) != Prod.snd (Prod.fst a)) (
            .br (Prod.snd (Prod.snd a) != Prod.snd (Prod.snd a)) (
              .ret ((0 : Int))) (
              .ret ((-1 : Int)))) (
            .br (Prod.snd (Prod.snd a) != Prod.snd (Prod.snd a)) (
              .ret ((1 : Int))) (
              .br (decide (Prod.snd (Prod.fst a) < Prod.snd (Prod.snd a))) (
                .ret ((-1 : Int))) (
                .br (decide (Prod.snd (Prod.fst a) > Prod.snd (Prod.snd a))) (
                  .ret ((1 : Int))) (
                  .ret ((0 : Int))))))))))) := fun a => by kernel_rfl
namespace K
theorem cmpP_eq (x y : Int × Int) : callT1 P BKBl52 30 76 D_cmpP (dI .i64) (x, y) = some (cmpP x y) := by
  have hn : ∀ n : Int, (n != n) = false := fun n => by simp
  rw [fn_cmpP]
  unfold cmpP
  simp only [T.run_br, T.run_ret, hn, Bool.false_eq_true, if_false, decide_eq_true_eq]
  split
  · rfl
  split
  · rfl
  split
  · rfl
  split <;> rfl
theorem cmpP_pc (x y : Int × Int) : PC P 76 [.agg (rowV rPair x), .agg (rowV rPair y)] (.int .i64 (cmpP x y)) := call_of okP tKBl52 (cmpP_eq x y)
theorem ltP (x y : Int × Int) : Go.Proofs.ltOf cmpP x y = decide (x.1 < y.1 ∨ x.1 = y.1 ∧ x.2 < y.2) := by
  unfold Go.Proofs.ltOf cmpP
  apply Bool.eq_iff_iff.2
  rw [decide_eq_true_eq, decide_eq_true_eq]
  split
  · omega
  split
  · omega
  split
  · omega
  split <;> omega
theorem swoP : Go.Sort.SWO (Go.Proofs.ltOf cmpP) where
  irrefl x := by rw [ltP]; simp
  trans x y z h1 h2 := by rw [ltP] at *; simp only [decide_eq_true_eq] at *; omega
  ntrans x y z h1 h2 := by rw [ltP] at *; simp only [decide_eq_false_iff_not] at *; omega
def sortP (l : List (Int × Int)) : List (Int × Int) := sortF cmpP l
theorem sortP_cc : ∀ (args : List AV) (t : T AV) (v : AV), sortFE rPair 76 sortP args = some t → t.run = some v → CC P 75 args v :=
  sortFE_cc fun n G h1 h2 => mc_sortF (R := rPair) Tryz.sortF75 (by kernel_rfl) (by decide) Tryz.isAgg75 Tryz.sizeOf75 swoP (enters_of Tryz.func76 (by kernel_rfl) rfl) cmpP_pc h1 h2
end K
noncomputable def BKBl5s : Tab := BKBl52.addTurn 75 (sortFE rPair 76 K.sortP)
theorem tKBl5s : TabOk P BKBl5s := TabOk.addTurn tKBl52 K.sortP_cc
def R_pairs := dTup (.cons (dRows rPair) (.last (dI .i64) 0))
theorem fn_cla : ∀ a, (callT1 P BKBl5s 30 27 D_off R_pairs) a = T.run (
  .br (CheckBulbs (Prod.fst a) != (0 : Int)) (
    .ret (([], CheckBulbs (Prod.fst a)))) (
    .br (!Prod.snd (hydro a)) (
      .ret (([], (5 : Int)))) (
      .chk (coOk (0 : Nat) (decF rPair (0 : Nat) fun x x_1 => AV.top) a (Prod.fst a) (Prod.snd a)) <|
      .chk (decide (List.length (coApp (decF rPair (0 : Nat) fun x x_1 => AV.top) a (Prod.fst a) (Prod.snd a) (Prod.fst (hydro a))) < (4611686018427387904 : Nat))) <|
      .ret ((decF rPair (List.length (coApp (decF rPair (0 : Nat) fun x x_1 => AV.top) a (Prod.fst a) (Prod.snd a) (Prod.fst (hydro a)))) fun i => encF rPair (sortP (decF rPair (List.length (coApp (decF rPair (0 : Nat) fun x x_1 => AV.top) a (Prod.fst a) (Prod.snd a) (Prod.fst (hydro a)))) (encF rPair (coApp (decF rPair (0 : Nat) fun x x_1 => AV.top) a (Prod.fst a) (Prod.snd a) (Prod.fst (hydro a)))))) ((0 : Nat) + i), (0 : Int)))))) := fun a => by kernel_rfl
end Go.Proofs.YtjbhooodjmjdkaaGreat
