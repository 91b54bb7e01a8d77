/- Parts of the proof, one behind the other: KB, KC, KE, KG, KH, KI, KL, KM, KF, KQ, KJ, Shelf. No conditions. -/
import Derived.Shelf.SlSortCmp.WholeK
import Derived.Shelf.Small.Bits
import Derived.Shelf.Small.Wraps
import Derived.Shelf.Strconv.Itoa0
import Derived.Shelf.Sort.Plain
import Derived.Shelf.Slices.SearchI
import Derived.Shelf.Slices.In.SortNone
import Derived.Shelf.SlSortCmp.Insertion
import Derived.Shelf.SlSortCmp.InsertionK
import Derived.Shelf.SlSortCmp.SiftDownK
import Derived.Shelf.SlSortCmp.HeapSortK
import Derived.Shelf.SlSortCmp.MedianK
import Derived.Shelf.SlSortCmp.PivotK
import Derived.Shelf.SlSortCmp.ReverseRangeK
import Derived.Shelf.SlSortCmp.PartialInsertionK
import Derived.Shelf.SlSortCmp.PartitionEqualK
import Derived.Shelf.SlSortCmp.PartitionK
import Derived.Shelf.SlSortCmp.PdqK
import Derived.Shelf.SlSortCmp.Insertion1
import Derived.Shelf.SlSortCmp.NoneTotal
import Derived.Test.YtjbhooodjmjdkaaGreatProg
import Derived.Test.YtjbhooodjmjdkaaGreatBu5
/-! KB -/
namespace Go.Proofs.YtjbhooodjmjdkaaGreat
open Ev K
/-- A closure that has caught a number; one that has caught a structure of w numbers. -/
def cNum (g : Nat) : Dec Int := dFn g (.last (dP 1 (.last (dI .i64) 0) 0) 0)
def S_hyd1 := DecS.mk1 (.cons xHydros (.cons (cNum 133) (.skips 5 (.cons (dI .i64) (.last (dI .i64) 10)))))
def X_hyd1 := DecX.or (DecX.one .ret [4] (DecS.mk1 (.skips 4 (.last (dI .i64) 14)))) (DecX.one (.exit 0) [] (DecS.mk1 (.tops 19)))
def K.p_hyd1 (c : Int) (x : XS) (i : Nat) : Bool := x.g i 0 == c
theorem sl_hyd1 : ∀ s, (loopT1 P BKA10 30 137 17 [8, 0, 1, 7] S_hyd1 X_hyd1) s = T.run (
  .br (decide (Prod.snd (Prod.snd (Prod.snd s)) < Prod.fst (Prod.snd (Prod.snd s)))) (
    .chk (decide ((0 : Int) ≤ Prod.snd (Prod.snd (Prod.snd s)) ∧ Prod.snd (Prod.snd (Prod.snd s)) < (↑(XS.len (Prod.fst s)) : Int))) <|
    .br (numOf (XS.f (Prod.fst s) (XS.row (Prod.fst s) + Int.toNat (Prod.snd (Prod.snd (Prod.snd s)))) (0 : Nat)) == Prod.fst (Prod.snd s)) (
      .ret (Sum.inr (Sum.inl (Prod.snd (Prod.snd (Prod.snd s)))))) (
      .ret (Sum.inl (Prod.fst s, Prod.fst (Prod.snd s), Prod.fst (Prod.snd (Prod.snd s)), IntKind.wrap IntKind.i64 (Prod.snd (Prod.snd (Prod.snd s)) + (1 : Int)))))) (
    .ret (Sum.inr (Sum.inr PUnit.unit)))) := fun s => by kernel_rfl
noncomputable def K.L_hyd1 := lim (loopT1 P BKA10 30 137 17 [8, 0, 1, 7] S_hyd1 X_hyd1)
theorem K.L_hyd1_eq (x : XS) (c : Int) : K.L_hyd1 (x, c, (K.len x : Int), 0) = some (match first (K.p_hyd1 c x) (K.len x) with | some i => (Sum.inl (i : Int) : Int ⊕ Unit) | none => .inr ()) := by
  have e1 := K.len_le x; have e2 := K.len_le' x
  refine lim_find (fun i => (x, c, (K.len x : Int), (i : Int))) (K.len x) (K.p_hyd1 c x) (fun i => (Sum.inl (i : Int) : Int ⊕ Unit)) (Sum.inr ()) (fun i hi hp => ?_) (fun i hi hp => ?_) ?_
  · rw [sl_hyd1]; unfold K.p_hyd1 at hp
    simp only [T.run_br, T.run_chk, T.run_ret, decide_eq_true_eq, Int.toNat_natCast]
    rw [if_pos (by omega), if_pos (by omega)]
    simp only [XS.g] at hp; rw [if_pos hp]
  · rw [sl_hyd1]; unfold K.p_hyd1 at hp
    simp only [T.run_br, T.run_chk, T.run_ret, decide_eq_true_eq, Int.toNat_natCast]
    rw [if_pos (by omega), if_pos (by omega)]
    simp only [XS.g] at hp; rw [if_neg (by simp [hp])]
    rw [w64_in (by omega) (by omega)]; simp
  · rw [sl_hyd1]
    simp only [T.run_br, T.run_chk, T.run_ret, decide_eq_true_eq]
    rw [if_neg (by omega)]
noncomputable def BKB1 : Tab := BKA10.addNode 137 17 (nodeE [8, 0, 1, 7] S_hyd1 X_hyd1 (fun s => .obs (K.L_hyd1 s) .ret))
theorem tKB1 : TabOk P BKB1 := TabOk.addLoop (d := 30) okP tKA10 (by kernel_rfl) (by kernel_rfl) (fun s r h => obs_ret h)
def D_hyd1 := DecL.cons xHydros (.last (cNum 133) 0)
theorem fn_hyd1 : ∀ a, (callT1 P BKB1 30 137 D_hyd1 (dI .i64)) a = T.run (
  .obs (L_hyd1 (Prod.fst a, Prod.snd a, (↑(clampL (XS.len (Prod.fst a))) : Int), (0 : Int))) fun x0 =>
    .sum (x0) (fun x1 =>
      .ret (x1)) (fun x1 =>
      .ret ((-1 : Int)))) := fun a => by kernel_rfl
theorem ix_hyd1 (a : XS × Int) : callT1 P BKB1 30 137 D_hyd1 (dI .i64) a = some (idx (K.p_hyd1 a.2 a.1) (K.len a.1)) := by
  rw [fn_hyd1]
  show T.run (.obs (K.L_hyd1 (a.1, a.2, (K.len a.1 : Int), 0)) _) = _
  rw [K.L_hyd1_eq]; unfold idx
  cases first (K.p_hyd1 a.2 a.1) (K.len a.1) <;> rfl
noncomputable def BKB2 : Tab := BKB1.addCall 137 (callE D_hyd1 (dI .i64) (fun a => .ret (idx (K.p_hyd1 a.2 a.1) (K.len a.1))))
theorem tKB2 : TabOk P BKB2 := TabOk.addFn (d := 30) okP tKB1 (fun a r h => by rw [ix_hyd1]; exact congrArg some (ret_some h))

def S_chk1 := DecS.mk1 (.cons xHydros (.cons (dFn 86 (.last (dP 3 lHydro 0) 0)) (.skips 5 (.cons (dI .i64) (.last (dI .i64) 10)))))
def X_chk1 := DecX.or (DecX.one .ret [4] (DecS.mk1 (.skips 4 (.last (dI .i64) 14)))) (DecX.one (.exit 0) [] (DecS.mk1 (.tops 19)))
def K.p_chk1 (c : Hydro) (x : XS) (i : Nat) : Bool := x.g i 0 == c.id
theorem sl_chk1 : ∀ s, (loopT1 P BKB2 30 137 17 [8, 0, 1, 7] S_chk1 X_chk1) s = T.run (
  .br (decide (Prod.snd (Prod.snd (Prod.snd s)) < Prod.fst (Prod.snd (Prod.snd s)))) (
    .chk (decide ((0 : Int) ≤ Prod.snd (Prod.snd (Prod.snd s)) ∧ Prod.snd (Prod.snd (Prod.snd s)) < (↑(XS.len (Prod.fst s)) : Int))) <|
    .br (numOf (XS.f (Prod.fst s) (XS.row (Prod.fst s) + Int.toNat (Prod.snd (Prod.snd (Prod.snd s)))) (0 : Nat)) == Hydro.id (Prod.fst (Prod.snd s))) (
      .ret (Sum.inr (Sum.inl (Prod.snd (Prod.snd (Prod.snd s)))))) (
      .ret (Sum.inl (Prod.fst s, Prod.fst (Prod.snd s), Prod.fst (Prod.snd (Prod.snd s)), IntKind.wrap IntKind.i64 (Prod.snd (Prod.snd (Prod.snd s)) + (1 : Int)))))) (
    .ret (Sum.inr (Sum.inr PUnit.unit)))) := fun s => by kernel_rfl
noncomputable def K.L_chk1 := lim (loopT1 P BKB2 30 137 17 [8, 0, 1, 7] S_chk1 X_chk1)
theorem K.L_chk1_eq (x : XS) (c : Hydro) : K.L_chk1 (x, c, (K.len x : Int), 0) = some (match first (K.p_chk1 c x) (K.len x) with | some i => (Sum.inl (i : Int) : Int ⊕ Unit) | none => .inr ()) := by
  have e1 := K.len_le x; have e2 := K.len_le' x
  refine lim_find (fun i => (x, c, (K.len x : Int), (i : Int))) (K.len x) (K.p_chk1 c x) (fun i => (Sum.inl (i : Int) : Int ⊕ Unit)) (Sum.inr ()) (fun i hi hp => ?_) (fun i hi hp => ?_) ?_
  · rw [sl_chk1]; unfold K.p_chk1 at hp
    simp only [T.run_br, T.run_chk, T.run_ret, decide_eq_true_eq, Int.toNat_natCast]
    rw [if_pos (by omega), if_pos (by omega)]
    simp only [XS.g] at hp; rw [if_pos hp]
  · rw [sl_chk1]; unfold K.p_chk1 at hp
    simp only [T.run_br, T.run_chk, T.run_ret, decide_eq_true_eq, Int.toNat_natCast]
    rw [if_pos (by omega), if_pos (by omega)]
    simp only [XS.g] at hp; rw [if_neg (by simp [hp])]
    rw [w64_in (by omega) (by omega)]; simp
  · rw [sl_chk1]
    simp only [T.run_br, T.run_chk, T.run_ret, decide_eq_true_eq]
    rw [if_neg (by omega)]
noncomputable def BKB3 : Tab := BKB2.addNode 137 17 (nodeE [8, 0, 1, 7] S_chk1 X_chk1 (fun s => .obs (K.L_chk1 s) .ret))
theorem tKB3 : TabOk P BKB3 := TabOk.addLoop (d := 30) okP tKB2 (by kernel_rfl) (by kernel_rfl) (fun s r h => obs_ret h)
def D_chk1 := DecL.cons xHydros (.last (dFn 86 (.last (dP 3 lHydro 0) 0)) 0)
theorem fn_chk1 : ∀ a, (callT1 P BKB3 30 137 D_chk1 (dI .i64)) a = T.run (
  .obs (L_chk1 (Prod.fst a, Prod.snd a, (↑(clampL (XS.len (Prod.fst a))) : Int), (0 : Int))) fun x0 =>
    .sum (x0) (fun x1 =>
      .ret (x1)) (fun x1 =>
      .ret ((-1 : Int)))) := fun a => by kernel_rfl
theorem ix_chk1 (a : XS × Hydro) : callT1 P BKB3 30 137 D_chk1 (dI .i64) a = some (idx (K.p_chk1 a.2 a.1) (K.len a.1)) := by
  rw [fn_chk1]
  show T.run (.obs (K.L_chk1 (a.1, a.2, (K.len a.1 : Int), 0)) _) = _
  rw [K.L_chk1_eq]; unfold idx
  cases first (K.p_chk1 a.2 a.1) (K.len a.1) <;> rfl
noncomputable def BKB4 : Tab := BKB3.addCall 137 (callE D_chk1 (dI .i64) (fun a => .ret (idx (K.p_chk1 a.2 a.1) (K.len a.1))))
theorem tKB4 : TabOk P BKB4 := TabOk.addFn (d := 30) okP tKB3 (fun a r h => by rw [ix_chk1]; exact congrArg some (ret_some h))

def S_chk2 := DecS.mk1 (.cons xHydros (.cons (dFn 87 (.last (dP 5 lGlass 0) 0)) (.skips 5 (.cons (dI .i64) (.last (dI .i64) 10)))))
def X_chk2 := DecX.or (DecX.one .ret [4] (DecS.mk1 (.skips 4 (.last (dI .i64) 14)))) (DecX.one (.exit 0) [] (DecS.mk1 (.tops 19)))
def K.p_chk2 (c : Glass) (x : XS) (i : Nat) : Bool := x.g i 0 == c.hydro
theorem sl_chk2 : ∀ s, (loopT1 P BKB4 30 137 17 [8, 0, 1, 7] S_chk2 X_chk2) s = T.run (
  .br (decide (Prod.snd (Prod.snd (Prod.snd s)) < Prod.fst (Prod.snd (Prod.snd s)))) (
    .chk (decide ((0 : Int) ≤ Prod.snd (Prod.snd (Prod.snd s)) ∧ Prod.snd (Prod.snd (Prod.snd s)) < (↑(XS.len (Prod.fst s)) : Int))) <|
    .br (numOf (XS.f (Prod.fst s) (XS.row (Prod.fst s) + Int.toNat (Prod.snd (Prod.snd (Prod.snd s)))) (0 : Nat)) == Glass.hydro (Prod.fst (Prod.snd s))) (
      .ret (Sum.inr (Sum.inl (Prod.snd (Prod.snd (Prod.snd s)))))) (
      .ret (Sum.inl (Prod.fst s, Prod.fst (Prod.snd s), Prod.fst (Prod.snd (Prod.snd s)), IntKind.wrap IntKind.i64 (Prod.snd (Prod.snd (Prod.snd s)) + (1 : Int)))))) (
    .ret (Sum.inr (Sum.inr PUnit.unit)))) := fun s => by kernel_rfl
noncomputable def K.L_chk2 := lim (loopT1 P BKB4 30 137 17 [8, 0, 1, 7] S_chk2 X_chk2)
theorem K.L_chk2_eq (x : XS) (c : Glass) : K.L_chk2 (x, c, (K.len x : Int), 0) = some (match first (K.p_chk2 c x) (K.len x) with | some i => (Sum.inl (i : Int) : Int ⊕ Unit) | none => .inr ()) := by
  have e1 := K.len_le x; have e2 := K.len_le' x
  refine lim_find (fun i => (x, c, (K.len x : Int), (i : Int))) (K.len x) (K.p_chk2 c x) (fun i => (Sum.inl (i : Int) : Int ⊕ Unit)) (Sum.inr ()) (fun i hi hp => ?_) (fun i hi hp => ?_) ?_
  · rw [sl_chk2]; unfold K.p_chk2 at hp
    simp only [T.run_br, T.run_chk, T.run_ret, decide_eq_true_eq, Int.toNat_natCast]
    rw [if_pos (by omega), if_pos (by omega)]
    simp only [XS.g] at hp; rw [if_pos hp]
  · rw [sl_chk2]; unfold K.p_chk2 at hp
    simp only [T.run_br, T.run_chk, T.run_ret, decide_eq_true_eq, Int.toNat_natCast]
    rw [if_pos (by omega), if_pos (by omega)]
    simp only [XS.g] at hp; rw [if_neg (by simp [hp])]
    rw [w64_in (by omega) (by omega)]; simp
  · rw [sl_chk2]
    simp only [T.run_br, T.run_chk, T.run_ret, decide_eq_true_eq]
    rw [if_neg (by omega)]
noncomputable def BKB5 : Tab := BKB4.addNode 137 17 (nodeE [8, 0, 1, 7] S_chk2 X_chk2 (fun s => .obs (K.L_chk2 s) .ret))
theorem tKB5 : TabOk P BKB5 := TabOk.addLoop (d := 30) okP tKB4 (by kernel_rfl) (by kernel_rfl) (fun s r h => obs_ret h)
def D_chk2 := DecL.cons xHydros (.last (dFn 87 (.last (dP 5 lGlass 0) 0)) 0)
theorem fn_chk2 : ∀ a, (callT1 P BKB5 30 137 D_chk2 (dI .i64)) a = T.run (
  .obs (L_chk2 (Prod.fst a, Prod.snd a, (↑(clampL (XS.len (Prod.fst a))) : Int), (0 : Int))) fun x0 =>
    .sum (x0) (fun x1 =>
      .ret (x1)) (fun x1 =>
      .ret ((-1 : Int)))) := fun a => by kernel_rfl
theorem ix_chk2 (a : XS × Glass) : callT1 P BKB5 30 137 D_chk2 (dI .i64) a = some (idx (K.p_chk2 a.2 a.1) (K.len a.1)) := by
  rw [fn_chk2]
  show T.run (.obs (K.L_chk2 (a.1, a.2, (K.len a.1 : Int), 0)) _) = _
  rw [K.L_chk2_eq]; unfold idx
  cases first (K.p_chk2 a.2 a.1) (K.len a.1) <;> rfl
noncomputable def BKB6 : Tab := BKB5.addCall 137 (callE D_chk2 (dI .i64) (fun a => .ret (idx (K.p_chk2 a.2 a.1) (K.len a.1))))
theorem tKB6 : TabOk P BKB6 := TabOk.addFn (d := 30) okP tKB5 (fun a r h => by rw [ix_chk2]; exact congrArg some (ret_some h))

def S_chk3 := DecS.mk1 (.cons xGlasses (.cons (dFn 89 (.last (dP 5 lGlass 0) 0)) (.skips 5 (.cons (dI .i64) (.last (dI .i64) 10)))))
def X_chk3 := DecX.or (DecX.one .ret [4] (DecS.mk1 (.skips 4 (.last (dI .i64) 14)))) (DecX.one (.exit 0) [] (DecS.mk1 (.tops 19)))
def K.p_chk3 (c : Glass) (x : XS) (i : Nat) : Bool := x.g i 0 == c.id
theorem sl_chk3 : ∀ s, (loopT1 P BKB6 30 138 17 [8, 0, 1, 7] S_chk3 X_chk3) s = T.run (
  .br (decide (Prod.snd (Prod.snd (Prod.snd s)) < Prod.fst (Prod.snd (Prod.snd s)))) (
    .chk (decide ((0 : Int) ≤ Prod.snd (Prod.snd (Prod.snd s)) ∧ Prod.snd (Prod.snd (Prod.snd s)) < (↑(XS.len (Prod.fst s)) : Int))) <|
    .br (numOf (XS.f (Prod.fst s) (XS.row (Prod.fst s) + Int.toNat (Prod.snd (Prod.snd (Prod.snd s)))) (0 : Nat)) == Glass.id (Prod.fst (Prod.snd s))) (
      .ret (Sum.inr (Sum.inl (Prod.snd (Prod.snd (Prod.snd s)))))) (
      .ret (Sum.inl (Prod.fst s, Prod.fst (Prod.snd s), Prod.fst (Prod.snd (Prod.snd s)), IntKind.wrap IntKind.i64 (Prod.snd (Prod.snd (Prod.snd s)) + (1 : Int)))))) (
    .ret (Sum.inr (Sum.inr PUnit.unit)))) := fun s => by kernel_rfl
noncomputable def K.L_chk3 := lim (loopT1 P BKB6 30 138 17 [8, 0, 1, 7] S_chk3 X_chk3)
theorem K.L_chk3_eq (x : XS) (c : Glass) : K.L_chk3 (x, c, (K.len x : Int), 0) = some (match first (K.p_chk3 c x) (K.len x) with | some i => (Sum.inl (i : Int) : Int ⊕ Unit) | none => .inr ()) := by
  have e1 := K.len_le x; have e2 := K.len_le' x
  refine lim_find (fun i => (x, c, (K.len x : Int), (i : Int))) (K.len x) (K.p_chk3 c x) (fun i => (Sum.inl (i : Int) : Int ⊕ Unit)) (Sum.inr ()) (fun i hi hp => ?_) (fun i hi hp => ?_) ?_
  · rw [sl_chk3]; unfold K.p_chk3 at hp
    simp only [T.run_br, T.run_chk, T.run_ret, decide_eq_true_eq, Int.toNat_natCast]
    rw [if_pos (by omega), if_pos (by omega)]
    simp only [XS.g] at hp; rw [if_pos hp]
  · rw [sl_chk3]; unfold K.p_chk3 at hp
    simp only [T.run_br, T.run_chk, T.run_ret, decide_eq_true_eq, Int.toNat_natCast]
    rw [if_pos (by omega), if_pos (by omega)]
    simp only [XS.g] at hp; rw [if_neg (by simp [hp])]
    rw [w64_in (by omega) (by omega)]; simp
  · rw [sl_chk3]
    simp only [T.run_br, T.run_chk, T.run_ret, decide_eq_true_eq]
    rw [if_neg (by omega)]
noncomputable def BKB7 : Tab := BKB6.addNode 138 17 (nodeE [8, 0, 1, 7] S_chk3 X_chk3 (fun s => .obs (K.L_chk3 s) .ret))
theorem tKB7 : TabOk P BKB7 := TabOk.addLoop (d := 30) okP tKB6 (by kernel_rfl) (by kernel_rfl) (fun s r h => obs_ret h)
def D_chk3 := DecL.cons xGlasses (.last (dFn 89 (.last (dP 5 lGlass 0) 0)) 0)
theorem fn_chk3 : ∀ a, (callT1 P BKB7 30 138 D_chk3 (dI .i64)) a = T.run (
  .obs (L_chk3 (Prod.fst a, Prod.snd a, (↑(clampL (XS.len (Prod.fst a))) : Int), (0 : Int))) fun x0 =>
    .sum (x0) (fun x1 =>
      .ret (x1)) (fun x1 =>
      .ret ((-1 : Int)))) := fun a => by kernel_rfl
theorem ix_chk3 (a : XS × Glass) : callT1 P BKB7 30 138 D_chk3 (dI .i64) a = some (idx (K.p_chk3 a.2 a.1) (K.len a.1)) := by
  rw [fn_chk3]
  show T.run (.obs (K.L_chk3 (a.1, a.2, (K.len a.1 : Int), 0)) _) = _
  rw [K.L_chk3_eq]; unfold idx
  cases first (K.p_chk3 a.2 a.1) (K.len a.1) <;> rfl
noncomputable def BKB8 : Tab := BKB7.addCall 138 (callE D_chk3 (dI .i64) (fun a => .ret (idx (K.p_chk3 a.2 a.1) (K.len a.1))))
theorem tKB8 : TabOk P BKB8 := TabOk.addFn (d := 30) okP tKB7 (fun a r h => by rw [ix_chk3]; exact congrArg some (ret_some h))

def S_lst1 := DecS.mk1 (.cons xSurveys (.cons (dFn 116 (.last (dP 18 lSurvey 0) 0)) (.skips 5 (.cons (dI .i64) (.last (dI .i64) 10)))))
def X_lst1 := DecX.or (DecX.one .ret [4] (DecS.mk1 (.skips 4 (.last (dI .i64) 14)))) (DecX.one (.exit 0) [] (DecS.mk1 (.tops 19)))
def K.p_lst1 (c : Survey) (x : XS) (i : Nat) : Bool := x.g i 0 == c.id
theorem sl_lst1 : ∀ s, (loopT1 P BKB8 30 119 17 [8, 0, 1, 7] S_lst1 X_lst1) s = T.run (
  .br (decide (Prod.snd (Prod.snd (Prod.snd s)) < Prod.fst (Prod.snd (Prod.snd s)))) (
    .chk (decide ((0 : Int) ≤ Prod.snd (Prod.snd (Prod.snd s)) ∧ Prod.snd (Prod.snd (Prod.snd s)) < (↑(XS.len (Prod.fst s)) : Int))) <|
    .br (numOf (XS.f (Prod.fst s) (XS.row (Prod.fst s) + Int.toNat (Prod.snd (Prod.snd (Prod.snd s)))) (0 : Nat)) == Survey.id (Prod.fst (Prod.snd s))) (
      .ret (Sum.inr (Sum.inl (Prod.snd (Prod.snd (Prod.snd s)))))) (
      .ret (Sum.inl (Prod.fst s, Prod.fst (Prod.snd s), Prod.fst (Prod.snd (Prod.snd s)), IntKind.wrap IntKind.i64 (Prod.snd (Prod.snd (Prod.snd s)) + (1 : Int)))))) (
    .ret (Sum.inr (Sum.inr PUnit.unit)))) := fun s => by kernel_rfl
noncomputable def K.L_lst1 := lim (loopT1 P BKB8 30 119 17 [8, 0, 1, 7] S_lst1 X_lst1)
theorem K.L_lst1_eq (x : XS) (c : Survey) : K.L_lst1 (x, c, (K.len x : Int), 0) = some (match first (K.p_lst1 c x) (K.len x) with | some i => (Sum.inl (i : Int) : Int ⊕ Unit) | none => .inr ()) := by
  have e1 := K.len_le x; have e2 := K.len_le' x
  refine lim_find (fun i => (x, c, (K.len x : Int), (i : Int))) (K.len x) (K.p_lst1 c x) (fun i => (Sum.inl (i : Int) : Int ⊕ Unit)) (Sum.inr ()) (fun i hi hp => ?_) (fun i hi hp => ?_) ?_
  · rw [sl_lst1]; unfold K.p_lst1 at hp
    simp only [T.run_br, T.run_chk, T.run_ret, decide_eq_true_eq, Int.toNat_natCast]
    rw [if_pos (by omega), if_pos (by omega)]
    simp only [XS.g] at hp; rw [if_pos hp]
  · rw [sl_lst1]; unfold K.p_lst1 at hp
    simp only [T.run_br, T.run_chk, T.run_ret, decide_eq_true_eq, Int.toNat_natCast]
    rw [if_pos (by omega), if_pos (by omega)]
    simp only [XS.g] at hp; rw [if_neg (by simp [hp])]
    rw [w64_in (by omega) (by omega)]; simp
  · rw [sl_lst1]
    simp only [T.run_br, T.run_chk, T.run_ret, decide_eq_true_eq]
    rw [if_neg (by omega)]
noncomputable def BKB9 : Tab := BKB8.addNode 119 17 (nodeE [8, 0, 1, 7] S_lst1 X_lst1 (fun s => .obs (K.L_lst1 s) .ret))
theorem tKB9 : TabOk P BKB9 := TabOk.addLoop (d := 30) okP tKB8 (by kernel_rfl) (by kernel_rfl) (fun s r h => obs_ret h)
def D_lst1 := DecL.cons xSurveys (.last (dFn 116 (.last (dP 18 lSurvey 0) 0)) 0)
theorem fn_lst1 : ∀ a, (callT1 P BKB9 30 119 D_lst1 (dI .i64)) a = T.run (
  .obs (L_lst1 (Prod.fst a, Prod.snd a, (↑(clampL (XS.len (Prod.fst a))) : Int), (0 : Int))) fun x0 =>
    .sum (x0) (fun x1 =>
      .ret (x1)) (fun x1 =>
      .ret ((-1 : Int)))) := fun a => by kernel_rfl
theorem ix_lst1 (a : XS × Survey) : callT1 P BKB9 30 119 D_lst1 (dI .i64) a = some (idx (K.p_lst1 a.2 a.1) (K.len a.1)) := by
  rw [fn_lst1]
  show T.run (.obs (K.L_lst1 (a.1, a.2, (K.len a.1 : Int), 0)) _) = _
  rw [K.L_lst1_eq]; unfold idx
  cases first (K.p_lst1 a.2 a.1) (K.len a.1) <;> rfl
noncomputable def BKB10 : Tab := BKB9.addCall 119 (callE D_lst1 (dI .i64) (fun a => .ret (idx (K.p_lst1 a.2 a.1) (K.len a.1))))
theorem tKB10 : TabOk P BKB10 := TabOk.addFn (d := 30) okP tKB9 (fun a r h => by rw [ix_lst1]; exact congrArg some (ret_some h))

def S_hul1 := DecS.mk1 (.cons xHolds (.cons (dFn 144 (.last (dP 4 lHold 0) 0)) (.skips 5 (.cons (dI .i64) (.last (dI .i64) 10)))))
def X_hul1 := DecX.or (DecX.one .ret [4] (DecS.mk1 (.skips 4 (.last (dI .i64) 14)))) (DecX.one (.exit 0) [] (DecS.mk1 (.tops 19)))
def K.p_hul1 (c : Hold) (x : XS) (i : Nat) : Bool := x.g i 0 == c.id
theorem sl_hul1 : ∀ s, (loopT1 P BKB10 30 189 17 [8, 0, 1, 7] S_hul1 X_hul1) s = T.run (
  .br (decide (Prod.snd (Prod.snd (Prod.snd s)) < Prod.fst (Prod.snd (Prod.snd s)))) (
    .chk (decide ((0 : Int) ≤ Prod.snd (Prod.snd (Prod.snd s)) ∧ Prod.snd (Prod.snd (Prod.snd s)) < (↑(XS.len (Prod.fst s)) : Int))) <|
    .br (numOf (XS.f (Prod.fst s) (XS.row (Prod.fst s) + Int.toNat (Prod.snd (Prod.snd (Prod.snd s)))) (0 : Nat)) == Hold.id (Prod.fst (Prod.snd s))) (
      .ret (Sum.inr (Sum.inl (Prod.snd (Prod.snd (Prod.snd s)))))) (
      .ret (Sum.inl (Prod.fst s, Prod.fst (Prod.snd s), Prod.fst (Prod.snd (Prod.snd s)), IntKind.wrap IntKind.i64 (Prod.snd (Prod.snd (Prod.snd s)) + (1 : Int)))))) (
    .ret (Sum.inr (Sum.inr PUnit.unit)))) := fun s => by kernel_rfl
noncomputable def K.L_hul1 := lim (loopT1 P BKB10 30 189 17 [8, 0, 1, 7] S_hul1 X_hul1)
theorem K.L_hul1_eq (x : XS) (c : Hold) : K.L_hul1 (x, c, (K.len x : Int), 0) = some (match first (K.p_hul1 c x) (K.len x) with | some i => (Sum.inl (i : Int) : Int ⊕ Unit) | none => .inr ()) := by
  have e1 := K.len_le x; have e2 := K.len_le' x
  refine lim_find (fun i => (x, c, (K.len x : Int), (i : Int))) (K.len x) (K.p_hul1 c x) (fun i => (Sum.inl (i : Int) : Int ⊕ Unit)) (Sum.inr ()) (fun i hi hp => ?_) (fun i hi hp => ?_) ?_
  · rw [sl_hul1]; unfold K.p_hul1 at hp
    simp only [T.run_br, T.run_chk, T.run_ret, decide_eq_true_eq, Int.toNat_natCast]
    rw [if_pos (by omega), if_pos (by omega)]
    simp only [XS.g] at hp; rw [if_pos hp]
  · rw [sl_hul1]; unfold K.p_hul1 at hp
    simp only [T.run_br, T.run_chk, T.run_ret, decide_eq_true_eq, Int.toNat_natCast]
    rw [if_pos (by omega), if_pos (by omega)]
    simp only [XS.g] at hp; rw [if_neg (by simp [hp])]
    rw [w64_in (by omega) (by omega)]; simp
  · rw [sl_hul1]
    simp only [T.run_br, T.run_chk, T.run_ret, decide_eq_true_eq]
    rw [if_neg (by omega)]
noncomputable def BKB11 : Tab := BKB10.addNode 189 17 (nodeE [8, 0, 1, 7] S_hul1 X_hul1 (fun s => .obs (K.L_hul1 s) .ret))
theorem tKB11 : TabOk P BKB11 := TabOk.addLoop (d := 30) okP tKB10 (by kernel_rfl) (by kernel_rfl) (fun s r h => obs_ret h)
def D_hul1 := DecL.cons xHolds (.last (dFn 144 (.last (dP 4 lHold 0) 0)) 0)
theorem fn_hul1 : ∀ a, (callT1 P BKB11 30 189 D_hul1 (dI .i64)) a = T.run (
  .obs (L_hul1 (Prod.fst a, Prod.snd a, (↑(clampL (XS.len (Prod.fst a))) : Int), (0 : Int))) fun x0 =>
    .sum (x0) (fun x1 =>
      .ret (x1)) (fun x1 =>
      .ret ((-1 : Int)))) := fun a => by kernel_rfl
theorem ix_hul1 (a : XS × Hold) : callT1 P BKB11 30 189 D_hul1 (dI .i64) a = some (idx (K.p_hul1 a.2 a.1) (K.len a.1)) := by
  rw [fn_hul1]
  show T.run (.obs (K.L_hul1 (a.1, a.2, (K.len a.1 : Int), 0)) _) = _
  rw [K.L_hul1_eq]; unfold idx
  cases first (K.p_hul1 a.2 a.1) (K.len a.1) <;> rfl
noncomputable def BKB12 : Tab := BKB11.addCall 189 (callE D_hul1 (dI .i64) (fun a => .ret (idx (K.p_hul1 a.2 a.1) (K.len a.1))))
theorem tKB12 : TabOk P BKB12 := TabOk.addFn (d := 30) okP tKB11 (fun a r h => by rw [ix_hul1]; exact congrArg some (ret_some h))

def S_tab1 := DecS.mk1 (.cons xKnots (.cons (dFn 194 (.tops 0)) (.skips 5 (.cons (dI .i64) (.last (dI .i64) 10)))))
def X_tab1 := DecX.or (DecX.one .ret [4] (DecS.mk1 (.skips 4 (.last (dI .i64) 14)))) (DecX.one (.exit 0) [] (DecS.mk1 (.tops 19)))
def K.p_tab1 (c : Unit) (x : XS) (i : Nat) : Bool := decide (x.g i 1 < 0)
theorem sl_tab1 : ∀ s, (loopT1 P BKB12 30 125 17 [8, 0, 1, 7] S_tab1 X_tab1) s = T.run (
  .br (decide (Prod.snd (Prod.snd (Prod.snd s)) < Prod.fst (Prod.snd (Prod.snd s)))) (
    .chk (decide ((0 : Int) ≤ Prod.snd (Prod.snd (Prod.snd s)) ∧ Prod.snd (Prod.snd (Prod.snd s)) < (↑(XS.len (Prod.fst s)) : Int))) <|
    .br (decide (numOf (XS.f (Prod.fst s) (XS.row (Prod.fst s) + Int.toNat (Prod.snd (Prod.snd (Prod.snd s)))) (nat_lit 1)) < (0 : Int))) (
      .ret (Sum.inr (Sum.inl (Prod.snd (Prod.snd (Prod.snd s)))))) (
      .ret (Sum.inl (Prod.fst s, PUnit.unit, Prod.fst (Prod.snd (Prod.snd s)), IntKind.wrap IntKind.i64 (Prod.snd (Prod.snd (Prod.snd s)) + (1 : Int)))))) (
    .ret (Sum.inr (Sum.inr PUnit.unit)))) := fun s => by kernel_rfl
noncomputable def K.L_tab1 := lim (loopT1 P BKB12 30 125 17 [8, 0, 1, 7] S_tab1 X_tab1)
theorem K.L_tab1_eq (x : XS) (c : Unit) : K.L_tab1 (x, c, (K.len x : Int), 0) = some (match first (K.p_tab1 c x) (K.len x) with | some i => (Sum.inl (i : Int) : Int ⊕ Unit) | none => .inr ()) := by
  have e1 := K.len_le x; have e2 := K.len_le' x
  refine lim_find (fun i => (x, c, (K.len x : Int), (i : Int))) (K.len x) (K.p_tab1 c x) (fun i => (Sum.inl (i : Int) : Int ⊕ Unit)) (Sum.inr ()) (fun i hi hp => ?_) (fun i hi hp => ?_) ?_
  · rw [sl_tab1]; unfold K.p_tab1 at hp
    simp only [T.run_br, T.run_chk, T.run_ret, decide_eq_true_eq, Int.toNat_natCast]
    rw [if_pos (by omega), if_pos (by omega)]
    rw [if_pos (show numOf (x.f (x.row + i) 1) < 0 from of_decide_eq_true hp)]
  · rw [sl_tab1]; unfold K.p_tab1 at hp
    simp only [T.run_br, T.run_chk, T.run_ret, decide_eq_true_eq, Int.toNat_natCast]
    rw [if_pos (by omega), if_pos (by omega)]
    rw [if_neg (show ¬ numOf (x.f (x.row + i) 1) < 0 from of_decide_eq_false hp)]
    rw [w64_in (by omega) (by omega)]; simp
  · rw [sl_tab1]
    simp only [T.run_br, T.run_chk, T.run_ret, decide_eq_true_eq]
    rw [if_neg (by omega)]
noncomputable def BKB13 : Tab := BKB12.addNode 125 17 (nodeE [8, 0, 1, 7] S_tab1 X_tab1 (fun s => .obs (K.L_tab1 s) .ret))
theorem tKB13 : TabOk P BKB13 := TabOk.addLoop (d := 30) okP tKB12 (by kernel_rfl) (by kernel_rfl) (fun s r h => obs_ret h)
def D_tab1 := DecL.cons xKnots (.last (dFn 194 (.tops 0)) 0)
theorem fn_tab1 : ∀ a, (callT1 P BKB13 30 125 D_tab1 (dI .i64)) a = T.run (
  .obs (L_tab1 (Prod.fst a, PUnit.unit, (↑(clampL (XS.len (Prod.fst a))) : Int), (0 : Int))) fun x0 =>
    .sum (x0) (fun x1 =>
      .ret (x1)) (fun x1 =>
      .ret ((-1 : Int)))) := fun a => by kernel_rfl
theorem ix_tab1 (a : XS × Unit) : callT1 P BKB13 30 125 D_tab1 (dI .i64) a = some (idx (K.p_tab1 a.2 a.1) (K.len a.1)) := by
  rw [fn_tab1]
  show T.run (.obs (K.L_tab1 (a.1, a.2, (K.len a.1 : Int), 0)) _) = _
  rw [K.L_tab1_eq]; unfold idx
  cases first (K.p_tab1 a.2 a.1) (K.len a.1) <;> rfl
noncomputable def BKB14 : Tab := BKB13.addCall 125 (callE D_tab1 (dI .i64) (fun a => .ret (idx (K.p_tab1 a.2 a.1) (K.len a.1))))
theorem tKB14 : TabOk P BKB14 := TabOk.addFn (d := 30) okP tKB13 (fun a r h => by rw [ix_tab1]; exact congrArg some (ret_some h))

def R_find_hyd1 := dTup (.cons dHydro (.last (dI .i64) 0))
theorem fd_hyd1 : ∀ a, (callT1 P BKB14 30 85 D_hyd1 R_find_hyd1) a = T.run (
  .br (decide (idx (p_hyd1 (Prod.snd a) (Prod.fst a)) (len (Prod.fst a)) < (0 : Int))) (
    .ret ((Hydro.mk (0 : Int) (Span.mk (0 : Int) (0 : Int)), (-1 : Int)))) (
    .chk (decide ((0 : Int) ≤ idx (p_hyd1 (Prod.snd a) (Prod.fst a)) (len (Prod.fst a)) ∧ idx (p_hyd1 (Prod.snd a) (Prod.fst a)) (len (Prod.fst a)) < (↑(XS.len (Prod.fst a)) : Int))) <|
    .ret ((Hydro.mk (numOf (XS.f (Prod.fst a) (XS.row (Prod.fst a) + Int.toNat (idx (p_hyd1 (Prod.snd a) (Prod.fst a)) (len (Prod.fst a)))) (0 : Nat))) (Span.mk (numOf (XS.f (Prod.fst a) (XS.row (Prod.fst a) + Int.toNat (idx (p_hyd1 (Prod.snd a) (Prod.fst a)) (len (Prod.fst a)))) (nat_lit 1))) (numOf (XS.f (Prod.fst a) (XS.row (Prod.fst a) + Int.toNat (idx (p_hyd1 (Prod.snd a) (Prod.fst a)) (len (Prod.fst a)))) (nat_lit 2)))), idx (p_hyd1 (Prod.snd a) (Prod.fst a)) (len (Prod.fst a)))))) := fun a => by kernel_rfl
def K.find_hyd1 (c : Int) (x : XS) : Hydro × Int := found (hyd x) ⟨0, ⟨0, 0⟩⟩ (K.p_hyd1 c x) (K.len x)
theorem K.find_hyd1_eq (a : XS × Int) : callT1 P BKB14 30 85 D_hyd1 R_find_hyd1 a = some (K.find_hyd1 a.2 a.1) := by
  rw [fd_hyd1]; unfold K.find_hyd1 found idx
  cases h : first (K.p_hyd1 a.2 a.1) (K.len a.1) with
  | none => rfl
  | some i =>
    have h1 := (first_spec h).1; have h2 := K.len_le' a.1
    simp only [T.run_br, T.run_chk, T.run_ret, decide_eq_true_eq]
    rw [if_neg (by omega), if_pos (by omega)]; rfl
noncomputable def BKB15 : Tab := BKB14.addCall 85 (callE D_hyd1 R_find_hyd1 (fun a => .ret (K.find_hyd1 a.2 a.1)))
theorem tKB15 : TabOk P BKB15 := TabOk.addFn (d := 30) okP tKB14 (fun a r h => by rw [K.find_hyd1_eq]; exact congrArg some (ret_some h))

def R_find_chk1 := dTup (.cons dHydro (.last (dI .i64) 0))
theorem fd_chk1 : ∀ a, (callT1 P BKB15 30 85 D_chk1 R_find_chk1) a = T.run (
  .br (decide (idx (p_chk1 (Prod.snd a) (Prod.fst a)) (len (Prod.fst a)) < (0 : Int))) (
    .ret ((Hydro.mk (0 : Int) (Span.mk (0 : Int) (0 : Int)), (-1 : Int)))) (
    .chk (decide ((0 : Int) ≤ idx (p_chk1 (Prod.snd a) (Prod.fst a)) (len (Prod.fst a)) ∧ idx (p_chk1 (Prod.snd a) (Prod.fst a)) (len (Prod.fst a)) < (↑(XS.len (Prod.fst a)) : Int))) <|
    .ret ((Hydro.mk (numOf (XS.f (Prod.fst a) (XS.row (Prod.fst a) + Int.toNat (idx (p_chk1 (Prod.snd a) (Prod.fst a)) (len (Prod.fst a)))) (0 : Nat))) (Span.mk (numOf (XS.f (Prod.fst a) (XS.row (Prod.fst a) + Int.toNat (idx (p_chk1 (Prod.snd a) (Prod.fst a)) (len (Prod.fst a)))) (nat_lit 1))) (numOf (XS.f (Prod.fst a) (XS.row (Prod.fst a) + Int.toNat (idx (p_chk1 (Prod.snd a) (Prod.fst a)) (len (Prod.fst a)))) (nat_lit 2)))), idx (p_chk1 (Prod.snd a) (Prod.fst a)) (len (Prod.fst a)))))) := fun a => by kernel_rfl
def K.find_chk1 (c : Hydro) (x : XS) : Hydro × Int := found (hyd x) ⟨0, ⟨0, 0⟩⟩ (K.p_chk1 c x) (K.len x)
theorem K.find_chk1_eq (a : XS × Hydro) : callT1 P BKB15 30 85 D_chk1 R_find_chk1 a = some (K.find_chk1 a.2 a.1) := by
  rw [fd_chk1]; unfold K.find_chk1 found idx
  cases h : first (K.p_chk1 a.2 a.1) (K.len a.1) with
  | none => rfl
  | some i =>
    have h1 := (first_spec h).1; have h2 := K.len_le' a.1
    simp only [T.run_br, T.run_chk, T.run_ret, decide_eq_true_eq]
    rw [if_neg (by omega), if_pos (by omega)]; rfl
noncomputable def BKB16 : Tab := BKB15.addCall 85 (callE D_chk1 R_find_chk1 (fun a => .ret (K.find_chk1 a.2 a.1)))
theorem tKB16 : TabOk P BKB16 := TabOk.addFn (d := 30) okP tKB15 (fun a r h => by rw [K.find_chk1_eq]; exact congrArg some (ret_some h))

def R_find_chk2 := dTup (.cons dHydro (.last (dI .i64) 0))
theorem fd_chk2 : ∀ a, (callT1 P BKB16 30 85 D_chk2 R_find_chk2) a = T.run (
  .br (decide (idx (p_chk2 (Prod.snd a) (Prod.fst a)) (len (Prod.fst a)) < (0 : Int))) (
    .ret ((Hydro.mk (0 : Int) (Span.mk (0 : Int) (0 : Int)), (-1 : Int)))) (
    .chk (decide ((0 : Int) ≤ idx (p_chk2 (Prod.snd a) (Prod.fst a)) (len (Prod.fst a)) ∧ idx (p_chk2 (Prod.snd a) (Prod.fst a)) (len (Prod.fst a)) < (↑(XS.len (Prod.fst a)) : Int))) <|
    .ret ((Hydro.mk (numOf (XS.f (Prod.fst a) (XS.row (Prod.fst a) + Int.toNat (idx (p_chk2 (Prod.snd a) (Prod.fst a)) (len (Prod.fst a)))) (0 : Nat))) (Span.mk (numOf (XS.f (Prod.fst a) (XS.row (Prod.fst a) + Int.toNat (idx (p_chk2 (Prod.snd a) (Prod.fst a)) (len (Prod.fst a)))) (nat_lit 1))) (numOf (XS.f (Prod.fst a) (XS.row (Prod.fst a) + Int.toNat (idx (p_chk2 (Prod.snd a) (Prod.fst a)) (len (Prod.fst a)))) (nat_lit 2)))), idx (p_chk2 (Prod.snd a) (Prod.fst a)) (len (Prod.fst a)))))) := fun a => by kernel_rfl
def K.find_chk2 (c : Glass) (x : XS) : Hydro × Int := found (hyd x) ⟨0, ⟨0, 0⟩⟩ (K.p_chk2 c x) (K.len x)
theorem K.find_chk2_eq (a : XS × Glass) : callT1 P BKB16 30 85 D_chk2 R_find_chk2 a = some (K.find_chk2 a.2 a.1) := by
  rw [fd_chk2]; unfold K.find_chk2 found idx
  cases h : first (K.p_chk2 a.2 a.1) (K.len a.1) with
  | none => rfl
  | some i =>
    have h1 := (first_spec h).1; have h2 := K.len_le' a.1
    simp only [T.run_br, T.run_chk, T.run_ret, decide_eq_true_eq]
    rw [if_neg (by omega), if_pos (by omega)]; rfl
noncomputable def BKB17 : Tab := BKB16.addCall 85 (callE D_chk2 R_find_chk2 (fun a => .ret (K.find_chk2 a.2 a.1)))
theorem tKB17 : TabOk P BKB17 := TabOk.addFn (d := 30) okP tKB16 (fun a r h => by rw [K.find_chk2_eq]; exact congrArg some (ret_some h))

def R_find_chk3 := dTup (.cons dGlass (.last (dI .i64) 0))
theorem fd_chk3 : ∀ a, (callT1 P BKB17 30 88 D_chk3 R_find_chk3) a = T.run (
  .br (decide (idx (p_chk3 (Prod.snd a) (Prod.fst a)) (len (Prod.fst a)) < (0 : Int))) (
    .ret ((Glass.mk (0 : Int) (0 : Int) (0 : Int) (Span.mk (0 : Int) (0 : Int)), (-1 : Int)))) (
    .chk (decide ((0 : Int) ≤ idx (p_chk3 (Prod.snd a) (Prod.fst a)) (len (Prod.fst a)) ∧ idx (p_chk3 (Prod.snd a) (Prod.fst a)) (len (Prod.fst a)) < (↑(XS.len (Prod.fst a)) : Int))) <|
    .ret ((Glass.mk (numOf (XS.f (Prod.fst a) (XS.row (Prod.fst a) + Int.toNat (idx (p_chk3 (Prod.snd a) (Prod.fst a)) (len (Prod.fst a)))) (0 : Nat))) (numOf (XS.f (Prod.fst a) (XS.row (Prod.fst a) + Int.toNat (idx (p_chk3 (Prod.snd a) (Prod.fst a)) (len (Prod.fst a)))) (nat_lit 1))) (numOf (XS.f (Prod.fst a) (XS.row (Prod.fst a) + Int.toNat (idx (p_chk3 (Prod.snd a) (Prod.fst a)) (len (Prod.fst a)))) (nat_lit 2))) (Span.mk (numOf (XS.f (Prod.fst a) (XS.row (Prod.fst a) + Int.toNat (idx (p_chk3 (Prod.snd a) (Prod.fst a)) (len (Prod.fst a)))) (nat_lit 3))) (numOf (XS.f (Prod.fst a) (XS.row (Prod.fst a) + Int.toNat (idx (p_chk3 (Prod.snd a) (Prod.fst a)) (len (Prod.fst a)))) (nat_lit 4)))), idx (p_chk3 (Prod.snd a) (Prod.fst a)) (len (Prod.fst a)))))) := fun a => by kernel_rfl
def K.find_chk3 (c : Glass) (x : XS) : Glass × Int := found (gls x) ⟨0, 0, 0, ⟨0, 0⟩⟩ (K.p_chk3 c x) (K.len x)
theorem K.find_chk3_eq (a : XS × Glass) : callT1 P BKB17 30 88 D_chk3 R_find_chk3 a = some (K.find_chk3 a.2 a.1) := by
  rw [fd_chk3]; unfold K.find_chk3 found idx
  cases h : first (K.p_chk3 a.2 a.1) (K.len a.1) with
  | none => rfl
  | some i =>
    have h1 := (first_spec h).1; have h2 := K.len_le' a.1
    simp only [T.run_br, T.run_chk, T.run_ret, decide_eq_true_eq]
    rw [if_neg (by omega), if_pos (by omega)]; rfl
noncomputable def BKB18 : Tab := BKB17.addCall 88 (callE D_chk3 R_find_chk3 (fun a => .ret (K.find_chk3 a.2 a.1)))
theorem tKB18 : TabOk P BKB18 := TabOk.addFn (d := 30) okP tKB17 (fun a r h => by rw [K.find_chk3_eq]; exact congrArg some (ret_some h))

def R_find_lst1 := dTup (.cons dSurvey (.last (dI .i64) 0))
theorem fd_lst1 : ∀ a, (callT1 P BKB18 30 53 D_lst1 R_find_lst1) a = T.run (
  .br (decide (idx (p_lst1 (Prod.snd a) (Prod.fst a)) (len (Prod.fst a)) < (0 : Int))) (
    .ret ((Survey.mk (0 : Int) (0 : Int) (Span.mk (0 : Int) (0 : Int)) (Span.mk (0 : Int) (0 : Int)) (Span.mk (0 : Int) (0 : Int)) (Span.mk (0 : Int) (0 : Int)) (Span.mk (0 : Int) (0 : Int)) (Span.mk (0 : Int) (0 : Int)) (0 : Int) (0 : Int) (Span.mk (0 : Int) (0 : Int)), (-1 : Int)))) (
    .chk (decide ((0 : Int) ≤ idx (p_lst1 (Prod.snd a) (Prod.fst a)) (len (Prod.fst a)) ∧ idx (p_lst1 (Prod.snd a) (Prod.fst a)) (len (Prod.fst a)) < (↑(XS.len (Prod.fst a)) : Int))) <|
    .ret ((Survey.mk (numOf (XS.f (Prod.fst a) (XS.row (Prod.fst a) + Int.toNat (idx (p_lst1 (Prod.snd a) (Prod.fst a)) (len (Prod.fst a)))) (0 : Nat))) (numOf (XS.f (Prod.fst a) (XS.row (Prod.fst a) + Int.toNat (idx (p_lst1 (Prod.snd a) (Prod.fst a)) (len (Prod.fst a)))) (nat_lit 1))) (Span.mk (numOf (XS.f (Prod.fst a) (XS.row (Prod.fst a) + Int.toNat (idx (p_lst1 (Prod.snd a) (Prod.fst a)) (len (Prod.fst a)))) (nat_lit 2))) (numOf (XS.f (Prod.fst a) (XS.row (Prod.fst a) + Int.toNat (idx (p_lst1 (Prod.snd a) (Prod.fst a)) (len (Prod.fst a)))) (nat_lit 3)))) (Span.mk (numOf (XS.f (Prod.fst a) (XS.row (Prod.fst a) + Int.toNat (idx (p_lst1 (Prod.snd a) (Prod.fst a)) (len (Prod.fst a)))) (nat_lit 4))) (numOf (XS.f (Prod.fst a) (XS.row (Prod.fst a) + Int.toNat (idx (p_lst1 (Prod.snd a) (Prod.fst a)) (len (Prod.fst a)))) (nat_lit 5)))) (Span.mk (numOf (XS.f (Prod.fst a) (XS.row (Prod.fst a) + Int.toNat (idx (p_lst1 (Prod.snd a) (Prod.fst a)) (len (Prod.fst a)))) (nat_lit 6))) (numOf (XS.f (Prod.fst a) (XS.row (Prod.fst a) + Int.toNat (idx (p_lst1 (Prod.snd a) (Prod.fst a)) (len (Prod.fst a)))) (nat_lit 7)))) (Span.mk (numOf (XS.f (Prod.fst a) (XS.row (Prod.fst a) + Int.toNat (idx (p_lst1 (Prod.snd a) (Prod.fst a)) (len (Prod.fst a)))) (nat_lit 8))) (numOf (XS.f (Prod.fst a) (XS.row (Prod.fst a) + Int.toNat (idx (p_lst1 (Prod.snd a) (Prod.fst a)) (len (Prod.fst a)))) (nat_lit 9)))) (Span.mk (numOf (XS.f (Prod.fst a) (XS.row (Prod.fst a) + Int.toNat (idx (p_lst1 (Prod.snd a) (Prod.fst a)) (len (Prod.fst a)))) (nat_lit 10))) (numOf (XS.f (Prod.fst a) (XS.row (Prod.fst a) + Int.toNat (idx (p_lst1 (Prod.snd a) (Prod.fst a)) (len (Prod.fst a)))) (nat_lit 11)))) (Span.mk (numOf (XS.f (Prod.fst a) (XS.row (Prod.fst a) + Int.toNat (idx (p_lst1 (Prod.snd a) (Prod.fst a)) (len (Prod.fst a)))) (nat_lit 12))) (numOf (XS.f (Prod.fst a) (XS.row (Prod.fst a) + Int.toNat (idx (p_lst1 (Prod.snd a) (Prod.fst a)) (len (Prod.fst a)))) (nat_lit 13)))) (numOf (XS.f (Prod.fst a) (XS.row (Prod.fst a) + Int.toNat (idx (p_lst1 (Prod.snd a) (Prod.fst a)) (len (Prod.fst a)))) (nat_lit 14))) (numOf (XS.f (Prod.fst a) (XS.row (Prod.fst a) + Int.toNat (idx (p_lst1 (Prod.snd a) (Prod.fst a)) (len (Prod.fst a)))) (nat_lit 15))) (Span.mk (numOf (XS.f (Prod.fst a) (XS.row (Prod.fst a) + Int.toNat (idx (p_lst1 (Prod.snd a) (Prod.fst a)) (len (Prod.fst a)))) (nat_lit 16))) (numOf (XS.f (Prod.fst a) (XS.row (Prod.fst a) + Int.toNat (idx (p_lst1 (Prod.snd a) (Prod.fst a)) (len (Prod.fst a)))) (nat_lit 17)))), idx (p_lst1 (Prod.snd a) (Prod.fst a)) (len (Prod.fst a)))))) := fun a => by kernel_rfl
def K.find_lst1 (c : Survey) (x : XS) : Survey × Int := found (svy x) ⟨0, 0, ⟨0, 0⟩, ⟨0, 0⟩, ⟨0, 0⟩, ⟨0, 0⟩, ⟨0, 0⟩, ⟨0, 0⟩, 0, 0, ⟨0, 0⟩⟩ (K.p_lst1 c x) (K.len x)
theorem K.find_lst1_eq (a : XS × Survey) : callT1 P BKB18 30 53 D_lst1 R_find_lst1 a = some (K.find_lst1 a.2 a.1) := by
  rw [fd_lst1]; unfold K.find_lst1 found idx
  cases h : first (K.p_lst1 a.2 a.1) (K.len a.1) with
  | none => rfl
  | some i =>
    have h1 := (first_spec h).1; have h2 := K.len_le' a.1
    simp only [T.run_br, T.run_chk, T.run_ret, decide_eq_true_eq]
    rw [if_neg (by omega), if_pos (by omega)]; rfl
noncomputable def BKB19 : Tab := BKB18.addCall 53 (callE D_lst1 R_find_lst1 (fun a => .ret (K.find_lst1 a.2 a.1)))
theorem tKB19 : TabOk P BKB19 := TabOk.addFn (d := 30) okP tKB18 (fun a r h => by rw [K.find_lst1_eq]; exact congrArg some (ret_some h))

theorem ct_hul1 : ∀ a, (callT1 P BKB19 30 143 D_hul1 dB) a = T.run (
  .ret (decide (idx (p_hul1 (Prod.snd a) (Prod.fst a)) (len (Prod.fst a)) ≥ (0 : Int)))) := fun a => by kernel_rfl
def K.has_hul1 (c : Hold) (x : XS) : Bool := (first (K.p_hul1 c x) (K.len x)).isSome
theorem K.has_hul1_eq (a : XS × Hold) : callT1 P BKB19 30 143 D_hul1 dB a = some (K.has_hul1 a.2 a.1) := by
  rw [ct_hul1]; unfold K.has_hul1 idx
  cases h : first (K.p_hul1 a.2 a.1) (K.len a.1) with
  | none => rfl
  | some i => simp [T.run_ret]
noncomputable def BKB20 : Tab := BKB19.addCall 143 (callE D_hul1 dB (fun a => .ret (K.has_hul1 a.2 a.1)))
theorem tKB20 : TabOk P BKB20 := TabOk.addFn (d := 30) okP tKB19 (fun a r h => by rw [K.has_hul1_eq]; exact congrArg some (ret_some h))

theorem ct_tab1 : ∀ a, (callT1 P BKB20 30 193 D_tab1 dB) a = T.run (
  .ret (decide (idx (p_tab1 PUnit.unit (Prod.fst a)) (len (Prod.fst a)) ≥ (0 : Int)))) := fun a => by kernel_rfl
def K.has_tab1 (c : Unit) (x : XS) : Bool := (first (K.p_tab1 c x) (K.len x)).isSome
theorem K.has_tab1_eq (a : XS × Unit) : callT1 P BKB20 30 193 D_tab1 dB a = some (K.has_tab1 a.2 a.1) := by
  rw [ct_tab1]; unfold K.has_tab1 idx
  cases h : first (K.p_tab1 a.2 a.1) (K.len a.1) with
  | none => rfl
  | some i => simp [T.run_ret]
noncomputable def BKB21 : Tab := BKB20.addCall 193 (callE D_tab1 dB (fun a => .ret (K.has_tab1 a.2 a.1)))
theorem tKB21 : TabOk P BKB21 := TabOk.addFn (d := 30) okP tKB20 (fun a r h => by rw [K.has_tab1_eq]; exact congrArg some (ret_some h))


end Go.Proofs.YtjbhooodjmjdkaaGreat
/-! KC -/
namespace Go.Proofs.YtjbhooodjmjdkaaGreat
open Ev K
set_option maxRecDepth 100000
/-! glasses -/
def S_gls := DecS.yld (.unit dYv (.skip (.cons (dP 1 (.last (dI .i64) 0) 0) (.skips 4 (.cons xGlasses (.cons (dI .i64) (.last (dI .i64) 28))))))) .nil
def X_gls := DecX.or (DecX.one .ret [] (DecS.yld (.tops 38) .nil)) (DecX.one (.exit 0) [] (DecS.yld (.tops 38) .nil))
noncomputable def K.st_gls := loopT1 P BKB21 30 134 9 [9, 0, 2, 7, 8] S_gls X_gls
theorem sl_gls : ∀ s, (K.st_gls) s = T.run (
  .br (decide (Prod.snd (Prod.snd (Prod.snd (Prod.fst s))) < Prod.fst (Prod.snd (Prod.snd (Prod.fst s))))) (
    .chk (decide ((0 : Int) ≤ Prod.snd (Prod.snd (Prod.snd (Prod.fst s))) ∧ Prod.snd (Prod.snd (Prod.snd (Prod.fst s))) < (↑(XS.len (Prod.fst (Prod.snd (Prod.fst s)))) : Int))) <|
    .br (numOf (XS.f (Prod.fst (Prod.snd (Prod.fst s))) (XS.row (Prod.fst (Prod.snd (Prod.fst s))) + Int.toNat (Prod.snd (Prod.snd (Prod.snd (Prod.fst s))))) (nat_lit 1)) == Prod.fst (Prod.fst s)) (
      .br (!Prod.fst (Prod.snd (Prod.snd s)) (List.length (Prod.snd (Prod.snd (Prod.snd s))))) (
        .ret (Sum.inr (Sum.inl (PUnit.unit, PUnit.unit, Prod.fst (Prod.snd (Prod.snd s)), ([AV.agg [AV.int IntKind.i64 (numOf (XS.f (Prod.fst (Prod.snd (Prod.fst s))) (XS.row (Prod.fst (Prod.snd (Prod.fst s))) + Int.toNat (Prod.snd (Prod.snd (Prod.snd (Prod.fst s))))) (0 : Nat))), AV.int IntKind.i64 (numOf (XS.f (Prod.fst (Prod.snd (Prod.fst s))) (XS.row (Prod.fst (Prod.snd (Prod.fst s))) + Int.toNat (Prod.snd (Prod.snd (Prod.snd (Prod.fst s))))) (nat_lit 1))), AV.int IntKind.i64 (numOf (XS.f (Prod.fst (Prod.snd (Prod.fst s))) (XS.row (Prod.fst (Prod.snd (Prod.fst s))) + Int.toNat (Prod.snd (Prod.snd (Prod.snd (Prod.fst s))))) (nat_lit 2))), AV.int IntKind.i64 (numOf (XS.f (Prod.fst (Prod.snd (Prod.fst s))) (XS.row (Prod.fst (Prod.snd (Prod.fst s))) + Int.toNat (Prod.snd (Prod.snd (Prod.snd (Prod.fst s))))) (nat_lit 3))), AV.int IntKind.i64 (numOf (XS.f (Prod.fst (Prod.snd (Prod.fst s))) (XS.row (Prod.fst (Prod.snd (Prod.fst s))) + Int.toNat (Prod.snd (Prod.snd (Prod.snd (Prod.fst s))))) (nat_lit 4))), AV.int IntKind.i64 (IntKind.wrap IntKind.i64 (numOf (XS.f (Prod.fst (Prod.snd (Prod.fst s))) (XS.row (Prod.fst (Prod.snd (Prod.fst s))) + Int.toNat (Prod.snd (Prod.snd (Prod.snd (Prod.fst s))))) (nat_lit 3)) - numOf (XS.f (Prod.fst (Prod.snd (Prod.fst s))) (XS.row (Prod.fst (Prod.snd (Prod.fst s))) + Int.toNat (Prod.snd (Prod.snd (Prod.snd (Prod.fst s))))) (nat_lit 2)))), AV.int IntKind.i64 (IntKind.wrap IntKind.i64 (numOf (XS.f (Prod.fst (Prod.snd (Prod.fst s))) (XS.row (Prod.fst (Prod.snd (Prod.fst s))) + Int.toNat (Prod.snd (Prod.snd (Prod.snd (Prod.fst s))))) (nat_lit 4)) - numOf (XS.f (Prod.fst (Prod.snd (Prod.fst s))) (XS.row (Prod.fst (Prod.snd (Prod.fst s))) + Int.toNat (Prod.snd (Prod.snd (Prod.snd (Prod.fst s))))) (nat_lit 2))))]], Prod.fst (Prod.snd (Prod.snd s)) (List.length (Prod.snd (Prod.snd (Prod.snd s))))) :: Prod.snd (Prod.snd (Prod.snd s)))))) (
        .ret (Sum.inl ((Prod.fst (Prod.fst s), Prod.fst (Prod.snd (Prod.fst s)), Prod.fst (Prod.snd (Prod.snd (Prod.fst s))), IntKind.wrap IntKind.i64 (Prod.snd (Prod.snd (Prod.snd (Prod.fst s))) + (1 : Int))), PUnit.unit, Prod.fst (Prod.snd (Prod.snd s)), ([AV.agg [AV.int IntKind.i64 (numOf (XS.f (Prod.fst (Prod.snd (Prod.fst s))) (XS.row (Prod.fst (Prod.snd (Prod.fst s))) + Int.toNat (Prod.snd (Prod.snd (Prod.snd (Prod.fst s))))) (0 : Nat))), AV.int IntKind.i64 (numOf (XS.f (Prod.fst (Prod.snd (Prod.fst s))) (XS.row (Prod.fst (Prod.snd (Prod.fst s))) + Int.toNat (Prod.snd (Prod.snd (Prod.snd (Prod.fst s))))) (nat_lit 1))), AV.int IntKind.i64 (numOf (XS.f (Prod.fst (Prod.snd (Prod.fst s))) (XS.row (Prod.fst (Prod.snd (Prod.fst s))) + Int.toNat (Prod.snd (Prod.snd (Prod.snd (Prod.fst s))))) (nat_lit 2))), AV.int IntKind.i64 (numOf (XS.f (Prod.fst (Prod.snd (Prod.fst s))) (XS.row (Prod.fst (Prod.snd (Prod.fst s))) + Int.toNat (Prod.snd (Prod.snd (Prod.snd (Prod.fst s))))) (nat_lit 3))), AV.int IntKind.i64 (numOf (XS.f (Prod.fst (Prod.snd (Prod.fst s))) (XS.row (Prod.fst (Prod.snd (Prod.fst s))) + Int.toNat (Prod.snd (Prod.snd (Prod.snd (Prod.fst s))))) (nat_lit 4))), AV.int IntKind.i64 (IntKind.wrap IntKind.i64 (numOf (XS.f (Prod.fst (Prod.snd (Prod.fst s))) (XS.row (Prod.fst (Prod.snd (Prod.fst s))) + Int.toNat (Prod.snd (Prod.snd (Prod.snd (Prod.fst s))))) (nat_lit 3)) - numOf (XS.f (Prod.fst (Prod.snd (Prod.fst s))) (XS.row (Prod.fst (Prod.snd (Prod.fst s))) + Int.toNat (Prod.snd (Prod.snd (Prod.snd (Prod.fst s))))) (nat_lit 2)))), AV.int IntKind.i64 (IntKind.wrap IntKind.i64 (numOf (XS.f (Prod.fst (Prod.snd (Prod.fst s))) (XS.row (Prod.fst (Prod.snd (Prod.fst s))) + Int.toNat (Prod.snd (Prod.snd (Prod.snd (Prod.fst s))))) (nat_lit 4)) - numOf (XS.f (Prod.fst (Prod.snd (Prod.fst s))) (XS.row (Prod.fst (Prod.snd (Prod.fst s))) + Int.toNat (Prod.snd (Prod.snd (Prod.snd (Prod.fst s))))) (nat_lit 2))))]], Prod.fst (Prod.snd (Prod.snd s)) (List.length (Prod.snd (Prod.snd (Prod.snd s))))) :: Prod.snd (Prod.snd (Prod.snd s)))))) (
      .ret (Sum.inl ((Prod.fst (Prod.fst s), Prod.fst (Prod.snd (Prod.fst s)), Prod.fst (Prod.snd (Prod.snd (Prod.fst s))), IntKind.wrap IntKind.i64 (Prod.snd (Prod.snd (Prod.snd (Prod.fst s))) + (1 : Int))), PUnit.unit, Prod.snd (Prod.snd s))))) (
    .ret (Sum.inr (Sum.inr (PUnit.unit, PUnit.unit, Prod.snd (Prod.snd s)))))) := fun s => by kernel_rfl
noncomputable def K.L_gls := lim K.st_gls
noncomputable def BKC1 : Tab := BKB21.addNode 134 9 (nodeE [9, 0, 2, 7, 8] S_gls X_gls (fun s => .obs (K.L_gls s) .ret))
theorem tKC1 : TabOk P BKC1 := TabOk.addLoop (d := 30) okP tKB21 (by kernel_rfl) (by kernel_rfl) (fun s r h => obs_ret h)
noncomputable def I_gls (a : Bulbs × Int) (bs : Nat → Bool) := iterT1 P BKC1 30 134 [] (V_gls.enc a) bs
theorem it_gls : ∀ a bs, (I_gls) a bs = T.run (
  .obs (L_gls ((Prod.snd a, Bulbs.glasses (Prod.fst a), (↑(clampL (XS.len (Bulbs.glasses (Prod.fst a)))) : Int), (0 : Int)), PUnit.unit, bs, [])) fun x0 =>
    .sum (x0) (fun x1 =>
      .ret (List.reverse (Prod.snd (Prod.snd (Prod.snd x1))))) (fun x1 =>
      .ret (List.reverse (Prod.snd (Prod.snd (Prod.snd x1)))))) := fun a bs => by kernel_rfl
section
variable (x : XS) (h : Int) {bs : Nat → Bool}
abbrev K.Sg (x : XS) (h : Int) (bs : Nat → Bool) (i : Nat) (out : List (List AV × Bool)) := ((h, x, (K.len x : Int), (i : Int)), PUnit.unit, bs, out)
abbrev K.pg (x : XS) (h : Int) (i : Nat) : Bool := (gls x i).hydro == h
abbrev K.eg (x : XS) (i : Nat) : List AV := eTold (toldOf (gls x i))
theorem gls_n (i : Nat) (hi : i < K.len x) (out) (hp : pg x h i = false) : st_gls (Sg x h bs i out) = some (.inl (Sg x h bs (i + 1) out)) := by
  have e1 := K.len_le x; have e2 := K.len_le' x
  rw [sl_gls]
  simp only [T.run_br, T.run_chk, T.run_ret, decide_eq_true_eq, Int.toNat_natCast]
  rw [if_pos (by omega), if_pos (by omega)]
  simp only [pg, gls, XS.g] at hp
  rw [if_neg (by simp [hp]), w64_in (by omega) (by omega)]; simp
theorem gls_y (i : Nat) (hi : i < K.len x) (out : List (List AV × Bool)) (hp : pg x h i = true) (hb : bs out.length = true) : st_gls (Sg x h bs i out) = some (.inl (Sg x h bs (i + 1) ((eg x i, true) :: out))) := by
  have e1 := K.len_le x; have e2 := K.len_le' x
  rw [sl_gls]
  simp only [T.run_br, T.run_chk, T.run_ret, decide_eq_true_eq, Int.toNat_natCast, hb]
  rw [if_pos (by omega), if_pos (by omega)]
  simp only [pg, gls, XS.g] at hp
  rw [if_pos hp, if_neg (by simp), w64_in (by omega) (by omega)]; simp; rfl
theorem gls_s (i : Nat) (hi : i < K.len x) (out : List (List AV × Bool)) (hp : pg x h i = true) (hb : bs out.length = false) : st_gls (Sg x h bs i out) = some (.inr (.inl ((), (), bs, (eg x i, false) :: out))) := by
  have e1 := K.len_le x; have e2 := K.len_le' x
  rw [sl_gls]
  simp only [T.run_br, T.run_chk, T.run_ret, decide_eq_true_eq, Int.toNat_natCast, hb]
  rw [if_pos (by omega), if_pos (by omega)]
  simp only [pg, gls, XS.g] at hp
  rw [if_pos hp, if_pos (by simp)]; rfl
theorem gls_e (out) : st_gls (Sg x h bs (K.len x) out) = some (.inr (.inr ((), (), bs, out))) := by
  rw [sl_gls]
  simp only [T.run_br, T.run_chk, T.run_ret, decide_eq_true_eq]
  rw [if_neg (by omega)]
theorem icl_gls (b : Bulbs) : ICL P 134 [] (V_gls.enc (b, h)) ((glassesL b h).map eTold) := by
  refine iter_of okP tKC1  (d := 30) ?_ (fun m y hy => ?_)
  · show I_gls (b, h) _ = _
    rw [it_gls]
    show T.run (.obs (lim st_gls (Sg b.glasses h _ 0 [])) _) = _
    rw [lim_yields_all (Sg b.glasses h _) (pg b.glasses h) (eg b.glasses) (fun o => Sum.inr ((), (), (fun _ => true), o)) (fun i hi out hp => gls_n b.glasses h i hi out hp) (fun i hi out hp hb => gls_y b.glasses h i hi out hp hb) (fun out => gls_e b.glasses h out) (fun _ => rfl) (K.len b.glasses) 0 [] (by omega)]
    simp only [T.run_some, T.run_inr, T.run_ret, List.append_nil, List.reverse_reverse, glassesL, List.map_map, ← List.range_eq_range']
    rfl
  · show I_gls (b, h) _ = _
    rw [it_gls]
    show T.run (.obs (lim st_gls (Sg b.glasses h _ 0 [])) _) = _
    have hy' : (((List.range' 0 (K.len b.glasses)).filter (pg b.glasses h)).map (eg b.glasses))[m - ([] : List (List AV × Bool)).length]? = some y := by
      rw [← List.range_eq_range']; simpa [glassesL, List.map_map, Function.comp_def] using hy
    rw [lim_yields_stop (Sg b.glasses h _) (pg b.glasses h) (eg b.glasses) (fun o => Sum.inl ((), (), (fun k => !(Nat.beq k m)), o)) (fun i hi out hp => gls_n b.glasses h i hi out hp) (fun i hi out hp hb => gls_y b.glasses h i hi out hp hb) (fun i hi out hp hb => gls_s b.glasses h i hi out hp hb) (fun _ => rfl) (K.len b.glasses) 0 [] (by omega) (by simp) hy']
    simp only [T.run_some, T.run_inl, T.run_ret, List.append_nil, List.reverse_cons, List.reverse_reverse, List.length_nil, Nat.sub_zero, ← List.range_eq_range', glassesL, List.map_map]
    rfl
end
/-! errors -/
def D_gl := DecL.cons (dBulbs) (.last (dI .i64) 0)
def R_gl := dFn 134 V_gls
theorem fn_gl : ∀ a, (callT1 P BKC1 30 73 D_gl R_gl) a = T.run (
  .ret ((Prod.fst a, numOf (AV.int IntKind.i64 (Prod.snd a))))) := fun a => by kernel_rfl
noncomputable def BKC2 : Tab := BKC1.addCall 73 (callE D_gl R_gl (fun a => .ret a))
theorem tKC2 : TabOk P BKC2 := TabOk.addFn (d := 30) okP tKC1 (fun a r h => by rw [fn_gl]; exact h)
def S_err := DecS.mk0 (.skips 5 (.unit (dLp 0 0 0 0) (.unit (dLp 1 0 0 0) (.unit (dLp 2 0 0 0) (.skips 6 (.last R_gl 11)))))) (.flat 3 (.last (dI .i64) 0) (.flat 39 lSpan (.flat 39 lSpan .nil)))
noncomputable def K.st_err := rangeT1 P BKC2 30 82 25 [14, 6, 7, 5] S_err DecX.no eTold
theorem rg_err : ∀ s x, (K.st_err) s x = T.run (
  .br (Glass.id (GlassE.g x) != Prod.fst (Prod.snd s)) (
    .ret (Sum.inl (Prod.fst s, Prod.fst (Prod.snd s), Prod.fst (Prod.snd (Prod.snd s)), meet (Prod.fst (Prod.snd (Prod.snd (Prod.snd s)))) (GlassE.errors x), PUnit.unit))) (
    .ret (Sum.inl (Prod.fst s, Prod.fst (Prod.snd s), Prod.fst (Prod.snd (Prod.snd s)), Prod.fst (Prod.snd (Prod.snd (Prod.snd s))), PUnit.unit)))) := fun s x => by kernel_rfl
theorem st_err_eq (s) (x : GlassE) : st_err s x = some (.inl (s.1, s.2.1, s.2.2.1, if x.g.id != s.2.1 then meet s.2.2.2.1 x.errors else s.2.2.2.1, ())) := by
  rw [rg_err]; simp only [T.run_br, T.run_ret]; cases (x.g.id != s.2.1) <;> rfl
theorem fold_err (L : List GlassE) (a : Bulbs × Int) (but : Int) (r c : Span) : L.foldl (fun (s : (Bulbs × Int) × Int × Span × Span × Unit) (x : GlassE) => (s.1, s.2.1, s.2.2.1, if x.g.id != s.2.1 then meet s.2.2.2.1 x.errors else s.2.2.2.1, ())) (a, but, r, c, ()) =
    (a, but, r, L.foldl (fun c g => if g.g.id != but then meet c g.errors else c) c, ()) := by
  induction L generalizing c with
  | nil => rfl
  | cons x L ih => simp only [List.foldl_cons]; exact ih _
noncomputable def BKC3 : Tab := BKC2.addNode 82 25 (rangeE [14, 6, 7, 5] S_err DecX.no (fun s => .ret (.inl (s.1, s.2.1, s.2.2.1, (glassesL s.1.1 s.1.2).foldl (fun c g => if g.g.id != s.2.1 then meet c g.errors else c) s.2.2.2.1, ()))))
theorem tKC3 : TabOk P BKC3 := TabOk.addRange (d := 30) (enc := eTold) (L := (fun s => glassesL s.1.1 s.1.2)) okP tKC2 (by kernel_rfl) (by kernel_rfl) (fun s r h => ⟨_, _, _, (by kernel_rfl : _ = some (134, [], V_gls.enc s.1)), icl_gls s.1.2 s.1.1⟩) (fun s r h => by have e := ret_some h; subst e; rw [← fold_err]; exact foldS_total st_err_eq _ _)
def D_errs := DecL.cons (dBulbs) (.cons (dHydro) (.last (dI .i64) 0))
theorem fn_errs : ∀ a, (callT1 P BKC3 30 82 D_errs dSpan) a = T.run (
  .ret (List.foldl (fun c g => if (Glass.id (GlassE.g g) != Prod.snd (Prod.snd a)) = true then meet c (GlassE.errors g) else c) (Hydro.off (Prod.fst (Prod.snd a))) (glassesL (Prod.fst a) (Hydro.id (Prod.fst (Prod.snd a)))))) := fun a => by kernel_rfl
noncomputable def BKC4 : Tab := BKC3.addCall 82 (callE D_errs dSpan (fun a => .ret (errs a.1 a.2.1 a.2.2)))
theorem tKC4 : TabOk P BKC4 := TabOk.addFn (d := 30) okP tKC3 (fun a r h => by rw [fn_errs]; exact h)
def D_hydro := DecL.cons (dBulbs) (.last (dI .i64) 0)
def R_hydro := dTup (.cons dHydro (.last dB 0))
theorem fn_hydro : ∀ a, (callT1 P BKC4 30 72 D_hydro R_hydro) a = T.run (
  .ret ((Prod.fst (find_hyd1 (numOf (AV.int IntKind.i64 (Prod.snd a))) (Bulbs.hydros (Prod.fst a))), decide (Prod.snd (find_hyd1 (numOf (AV.int IntKind.i64 (Prod.snd a))) (Bulbs.hydros (Prod.fst a))) ≥ (0 : Int))))) := fun a => by kernel_rfl
noncomputable def K.hydro (a : Bulbs × Int) : Hydro × Bool := (Prod.fst (find_hyd1 (numOf (AV.int IntKind.i64 (Prod.snd a))) (Bulbs.hydros (Prod.fst a))), decide (Prod.snd (find_hyd1 (numOf (AV.int IntKind.i64 (Prod.snd a))) (Bulbs.hydros (Prod.fst a))) ≥ (0 : Int)))
theorem eq_hydro (a : Bulbs × Int) : (callT1 P BKC4 30 72 D_hydro R_hydro) a = some (K.hydro a) := (fn_hydro a).trans rfl
noncomputable def BKC5 : Tab := BKC4.addCall 72 (callE D_hydro R_hydro (fun a => .ret (K.hydro a)))
theorem tKC5 : TabOk P BKC5 := TabOk.addFn (d := 30) okP tKC4 (fun a r h => by rw [eq_hydro]; exact congrArg some (ret_some h))
def D_off := DecL.cons (dBulbs) (.last (dI .i64) 0)
def R_off := dTup (.cons dSpan (.last (dI .i64) 0))
theorem fn_off : ∀ a, (callT1 P BKC5 30 68 D_off R_off) a = T.run (
  .br (!Prod.snd (hydro a)) (
    .ret ((Span.mk (0 : Int) (0 : Int), (5 : Int)))) (
    .br (void (errs (Prod.fst a) (Prod.fst (hydro a)) (0 : Int))) (
      .ret ((Span.mk (0 : Int) (0 : Int), (9 : Int)))) (
      .ret ((errs (Prod.fst a) (Prod.fst (hydro a)) (0 : Int), (0 : Int)))))) := fun a => by kernel_rfl
noncomputable def K.off (a : Bulbs × Int) : Span × Int := (if (!Prod.snd (hydro a)) = true then (Span.mk (0 : Int) (0 : Int), (5 : Int)) else (if (void (errs (Prod.fst a) (Prod.fst (hydro a)) (0 : Int))) = true then (Span.mk (0 : Int) (0 : Int), (9 : Int)) else (errs (Prod.fst a) (Prod.fst (hydro a)) (0 : Int), (0 : Int))))
theorem eq_off (a : Bulbs × Int) : (callT1 P BKC5 30 68 D_off R_off) a = some (K.off a) := (fn_off a).trans (T.br_some rfl (T.br_some rfl rfl))
noncomputable def BKC6 : Tab := BKC5.addCall 68 (callE D_off R_off (fun a => .ret (K.off a)))
theorem tKC6 : TabOk P BKC6 := TabOk.addFn (d := 30) okP tKC5 (fun a r h => by rw [eq_off]; exact congrArg some (ret_some h))
def D_dens := DecL.cons (dBulbs) (.last (dSurvey) 0)
theorem fn_density : ∀ a, (callT1 P BKC6 30 93 D_dens R_off) a = T.run (
  .br (Prod.snd (off (Prod.fst a, Survey.hydro (Prod.snd a))) != (0 : Int)) (
    .ret ((Span.mk (0 : Int) (0 : Int), Prod.snd (off (Prod.fst a, Survey.hydro (Prod.snd a)))))) (
    .br (void (meet (Span.mk (IntKind.wrap IntKind.i64 (Span.lo (Survey.shown (Prod.snd a)) - Span.hi (Prod.fst (off (Prod.fst a, Survey.hydro (Prod.snd a)))))) (IntKind.wrap IntKind.i64 (Span.hi (Survey.shown (Prod.snd a)) - Span.lo (Prod.fst (off (Prod.fst a, Survey.hydro (Prod.snd a))))))) (Span.mk (900 : Int) (1100 : Int)))) (
      .ret ((Span.mk (0 : Int) (0 : Int), (9 : Int)))) (
      .ret ((meet (Span.mk (IntKind.wrap IntKind.i64 (Span.lo (Survey.shown (Prod.snd a)) - Span.hi (Prod.fst (off (Prod.fst a, Survey.hydro (Prod.snd a)))))) (IntKind.wrap IntKind.i64 (Span.hi (Survey.shown (Prod.snd a)) - Span.lo (Prod.fst (off (Prod.fst a, Survey.hydro (Prod.snd a))))))) (Span.mk (900 : Int) (1100 : Int)), (0 : Int)))))) := fun a => by kernel_rfl
noncomputable def K.density (a : Bulbs × Survey) : Span × Int := (if (Prod.snd (off (Prod.fst a, Survey.hydro (Prod.snd a))) != (0 : Int)) = true then (Span.mk (0 : Int) (0 : Int), Prod.snd (off (Prod.fst a, Survey.hydro (Prod.snd a)))) else (if (void (meet (Span.mk (IntKind.wrap IntKind.i64 (Span.lo (Survey.shown (Prod.snd a)) - Span.hi (Prod.fst (off (Prod.fst a, Survey.hydro (Prod.snd a)))))) (IntKind.wrap IntKind.i64 (Span.hi (Survey.shown (Prod.snd a)) - Span.lo (Prod.fst (off (Prod.fst a, Survey.hydro (Prod.snd a))))))) (Span.mk (900 : Int) (1100 : Int)))) = true then (Span.mk (0 : Int) (0 : Int), (9 : Int)) else (meet (Span.mk (IntKind.wrap IntKind.i64 (Span.lo (Survey.shown (Prod.snd a)) - Span.hi (Prod.fst (off (Prod.fst a, Survey.hydro (Prod.snd a)))))) (IntKind.wrap IntKind.i64 (Span.hi (Survey.shown (Prod.snd a)) - Span.lo (Prod.fst (off (Prod.fst a, Survey.hydro (Prod.snd a))))))) (Span.mk (900 : Int) (1100 : Int)), (0 : Int))))
theorem eq_density (a : Bulbs × Survey) : (callT1 P BKC6 30 93 D_dens R_off) a = some (K.density a) := (fn_density a).trans (T.br_some rfl (T.br_some rfl rfl))
noncomputable def BKC7 : Tab := BKC6.addCall 93 (callE D_dens R_off (fun a => .ret (K.density a)))
theorem tKC7 : TabOk P BKC7 := TabOk.addFn (d := 30) okP tKC6 (fun a r h => by rw [eq_density]; exact congrArg some (ret_some h))
def D_extr := DecL.last (dSurvey) 0
def R_extr := (dTup (.cons (dAgg (.cons (dI .i64) (.cons (dI .i64) (.cons (dI .i64) (.last (dI .i64) 0))))) (.last dB 0))).iso (fun p => ((⟨p.1.1, p.1.2.1⟩, ⟨p.1.2.2.1, p.1.2.2.2⟩), p.2)) (fun (s : (Sums × Sums) × Bool) => ((s.1.1.ends, s.1.1.middle, s.1.2.ends, s.1.2.middle), s.2)) (fun _ => rfl)
theorem fn_extr : ∀ a, (callT1 P BKC7 30 94 D_extr R_extr) a = T.run (
  .br (void (meet (both (Survey.m2 a) (Survey.m3 a)) (Span.mk (IntKind.wrap IntKind.i64 ((0 : Int) - half (IntKind.wrap IntKind.i64 (IntKind.wrap IntKind.i64 ((4 : Int) * Survey.sag a) - Span.lo (both (both (Survey.m0 a) (Survey.m1 a)) (both (Survey.m4 a) (Survey.m5 a))))))) (half (IntKind.wrap IntKind.i64 (Span.hi (both (both (Survey.m0 a) (Survey.m1 a)) (both (Survey.m4 a) (Survey.m5 a))) + IntKind.wrap IntKind.i64 ((4 : Int) * Survey.sag a))))))) (
    .ret (((Sums.mk (0 : Int) (0 : Int), Sums.mk (0 : Int) (0 : Int)), false))) (
    .ret (((Sums.mk (if IntKind.wrap IntKind.i64 (IntKind.wrap IntKind.i64 ((2 : Int) * Span.lo (meet (both (Survey.m2 a) (Survey.m3 a)) (Span.mk (IntKind.wrap IntKind.i64 ((0 : Int) - half (IntKind.wrap IntKind.i64 (IntKind.wrap IntKind.i64 ((4 : Int) * Survey.sag a) - Span.lo (both (both (Survey.m0 a) (Survey.m1 a)) (both (Survey.m4 a) (Survey.m5 a))))))) (half (IntKind.wrap IntKind.i64 (Span.hi (both (both (Survey.m0 a) (Survey.m1 a)) (both (Survey.m4 a) (Survey.m5 a))) + IntKind.wrap IntKind.i64 ((4 : Int) * Survey.sag a))))))) - IntKind.wrap IntKind.i64 ((4 : Int) * Survey.sag a)) > Span.lo (both (both (Survey.m0 a) (Survey.m1 a)) (both (Survey.m4 a) (Survey.m5 a))) then IntKind.wrap IntKind.i64 (IntKind.wrap IntKind.i64 ((2 : Int) * Span.lo (meet (both (Survey.m2 a) (Survey.m3 a)) (Span.mk (IntKind.wrap IntKind.i64 ((0 : Int) - half (IntKind.wrap IntKind.i64 (IntKind.wrap IntKind.i64 ((4 : Int) * Survey.sag a) - Span.lo (both (both (Survey.m0 a) (Survey.m1 a)) (both (Survey.m4 a) (Survey.m5 a))))))) (half (IntKind.wrap IntKind.i64 (Span.hi (both (both (Survey.m0 a) (Survey.m1 a)) (both (Survey.m4 a) (Survey.m5 a))) + IntKind.wrap IntKind.i64 ((4 : Int) * Survey.sag a))))))) - IntKind.wrap IntKind.i64 ((4 : Int) * Survey.sag a)) else Span.lo (both (both (Survey.m0 a) (Survey.m1 a)) (both (Survey.m4 a) (Survey.m5 a)))) (Span.lo (meet (both (Survey.m2 a) (Survey.m3 a)) (Span.mk (IntKind.wrap IntKind.i64 ((0 : Int) - half (IntKind.wrap IntKind.i64 (IntKind.wrap IntKind.i64 ((4 : Int) * Survey.sag a) - Span.lo (both (both (Survey.m0 a) (Survey.m1 a)) (both (Survey.m4 a) (Survey.m5 a))))))) (half (IntKind.wrap IntKind.i64 (Span.hi (both (both (Survey.m0 a) (Survey.m1 a)) (both (Survey.m4 a) (Survey.m5 a))) + IntKind.wrap IntKind.i64 ((4 : Int) * Survey.sag a))))))), Sums.mk (if IntKind.wrap IntKind.i64 (IntKind.wrap IntKind.i64 ((2 : Int) * Span.hi (meet (both (Survey.m2 a) (Survey.m3 a)) (Span.mk (IntKind.wrap IntKind.i64 ((0 : Int) - half (IntKind.wrap IntKind.i64 (IntKind.wrap IntKind.i64 ((4 : Int) * Survey.sag a) - Span.lo (both (both (Survey.m0 a) (Survey.m1 a)) (both (Survey.m4 a) (Survey.m5 a))))))) (half (IntKind.wrap IntKind.i64 (Span.hi (both (both (Survey.m0 a) (Survey.m1 a)) (both (Survey.m4 a) (Survey.m5 a))) + IntKind.wrap IntKind.i64 ((4 : Int) * Survey.sag a))))))) + IntKind.wrap IntKind.i64 ((4 : Int) * Survey.sag a)) < Span.hi (both (both (Survey.m0 a) (Survey.m1 a)) (both (Survey.m4 a) (Survey.m5 a))) then IntKind.wrap IntKind.i64 (IntKind.wrap IntKind.i64 ((2 : Int) * Span.hi (meet (both (Survey.m2 a) (Survey.m3 a)) (Span.mk (IntKind.wrap IntKind.i64 ((0 : Int) - half (IntKind.wrap IntKind.i64 (IntKind.wrap IntKind.i64 ((4 : Int) * Survey.sag a) - Span.lo (both (both (Survey.m0 a) (Survey.m1 a)) (both (Survey.m4 a) (Survey.m5 a))))))) (half (IntKind.wrap IntKind.i64 (Span.hi (both (both (Survey.m0 a) (Survey.m1 a)) (both (Survey.m4 a) (Survey.m5 a))) + IntKind.wrap IntKind.i64 ((4 : Int) * Survey.sag a))))))) + IntKind.wrap IntKind.i64 ((4 : Int) * Survey.sag a)) else Span.hi (both (both (Survey.m0 a) (Survey.m1 a)) (both (Survey.m4 a) (Survey.m5 a)))) (Span.hi (meet (both (Survey.m2 a) (Survey.m3 a)) (Span.mk (IntKind.wrap IntKind.i64 ((0 : Int) - half (IntKind.wrap IntKind.i64 (IntKind.wrap IntKind.i64 ((4 : Int) * Survey.sag a) - Span.lo (both (both (Survey.m0 a) (Survey.m1 a)) (both (Survey.m4 a) (Survey.m5 a))))))) (half (IntKind.wrap IntKind.i64 (Span.hi (both (both (Survey.m0 a) (Survey.m1 a)) (both (Survey.m4 a) (Survey.m5 a))) + IntKind.wrap IntKind.i64 ((4 : Int) * Survey.sag a)))))))), true)))) := fun a => by kernel_rfl
/-- The ends' sums, and the middle's. -/
def K.endsOf (x : Survey) : Span := both (both x.m0 x.m1) (both x.m4 x.m5)
def K.bend (x : Survey) : Int := IntKind.i64.wrap (4 * x.sag)
def K.mids (x : Survey) : Span := meet (both x.m2 x.m3) ⟨IntKind.i64.wrap (0 - half (IntKind.i64.wrap (bend x - (endsOf x).lo))), half (IntKind.i64.wrap ((endsOf x).hi + bend x))⟩
def K.extremes (x : Survey) : (Sums × Sums) × Bool := if void (mids x) = true then ((⟨0, 0⟩, ⟨0, 0⟩), false) else
  ((⟨if IntKind.i64.wrap (IntKind.i64.wrap (2 * (mids x).lo) - bend x) > (endsOf x).lo then IntKind.i64.wrap (IntKind.i64.wrap (2 * (mids x).lo) - bend x) else (endsOf x).lo, (mids x).lo⟩,
    ⟨if IntKind.i64.wrap (IntKind.i64.wrap (2 * (mids x).hi) + bend x) < (endsOf x).hi then IntKind.i64.wrap (IntKind.i64.wrap (2 * (mids x).hi) + bend x) else (endsOf x).hi, (mids x).hi⟩), true)
noncomputable def BKC8 : Tab := BKC7.addCall 94 (callE D_extr R_extr (fun a => .ret (K.extremes a)))
theorem tKC8 : TabOk P BKC8 := TabOk.addFn (d := 30) okP tKC7 (fun a r h => by rw [fn_extr, ← ret_some h]; exact T.br_some rfl rfl)
end Go.Proofs.YtjbhooodjmjdkaaGreat
/-! KE -/
namespace Go.Proofs.YtjbhooodjmjdkaaGreat
open Ev K
set_option maxRecDepth 100000
def S_cb1 := DecS.mk0 (.skip (.unit (dLp 0 0 0 0) (.skips 22 (.cons xHydros (.cons (dI .i64) (.last (dI .i64) 69)))))) (.flat 31 lBulbs .nil)
def S_cbx := DecS.mk0 (.skip (.unit (dLp 0 0 0 0) (.tops 94))) (.flat 31 lBulbs .nil)
def X_cb1 := DecX.or (DecX.one .ret [2] (DecS.mk1 (.skips 2 (.last (dI .i64) 93)))) (DecX.one (.exit 0) [1] S_cbx)
noncomputable def K.st_cb1 := loopT1 P BKC8 30 31 33 [26, 1, 24, 25] S_cb1 X_cb1
theorem sl_cb1 : ∀ s, (K.st_cb1) s = T.run (
  .br (decide (Prod.snd (Prod.snd (Prod.fst s)) < Prod.fst (Prod.snd (Prod.fst s)))) (
    .chk (decide ((0 : Int) ≤ Prod.snd (Prod.snd (Prod.fst s)) ∧ Prod.snd (Prod.snd (Prod.fst s)) < (↑(XS.len (Prod.fst (Prod.fst s))) : Int))) <|
    .br (!within (XS.g (Prod.fst (Prod.fst s)) (Int.toNat (Prod.snd (Prod.snd (Prod.fst s)))) (0 : Nat)) (1 : Int) (1099511627776 : Int)) (
      .ret (Sum.inr (Sum.inl (1 : Int)))) (
      .br (!spans (Span.mk (XS.g (Prod.fst (Prod.fst s)) (Int.toNat (Prod.snd (Prod.snd (Prod.fst s)))) (1 : Nat)) (XS.g (Prod.fst (Prod.fst s)) (Int.toNat (Prod.snd (Prod.snd (Prod.fst s)))) (2 : Nat))) (-100 : Int) (100 : Int)) (
        .ret (Sum.inr (Sum.inl (1 : Int)))) (
        .br (decide (Prod.snd (find_chk1 (hyd (Prod.fst (Prod.fst s)) (Int.toNat (Prod.snd (Prod.snd (Prod.fst s))))) (Bulbs.hydros (Prod.fst (Prod.snd s)))) < Prod.snd (Prod.snd (Prod.fst s)))) (
          .ret (Sum.inr (Sum.inl (6 : Int)))) (
          .ret (Sum.inl ((Prod.fst (Prod.fst s), Prod.fst (Prod.snd (Prod.fst s)), IntKind.wrap IntKind.i64 (Prod.snd (Prod.snd (Prod.fst s)) + (1 : Int))), Prod.fst (Prod.snd s), PUnit.unit)))))) (
    .ret (Sum.inr (Sum.inr (PUnit.unit, Prod.fst (Prod.snd s), PUnit.unit))))) := fun s => by kernel_rfl
noncomputable def K.L_cb1 := lim K.st_cb1
noncomputable def BKE1 : Tab := BKC8.addNode 31 33 (nodeE [26, 1, 24, 25] S_cb1 X_cb1 (fun s => .obs (K.L_cb1 s) .ret))
theorem tKE1 : TabOk P BKE1 := TabOk.addLoop (d := 30) okP tKC8 (by kernel_rfl) (by kernel_rfl) (fun s r h => obs_ret h)
/-- The error of a hydrometer of a list. -/
def K.hydE (x y : XS) (i : Nat) : Option Int := if (!within (x.g i 0) 1 1099511627776) = true then some 1 else if (!spans ⟨x.g i 1, x.g i 2⟩ (-100) 100) = true then some 1 else
  if decide ((find_chk1 (hyd x i) y).2 < (i : Int)) = true then some 6 else none
abbrev K.Scb1 (x : XS) (b : Bulbs) (i : Nat) := ((x, (K.len x : Int), (i : Int)), b, ())
theorem K.cb1_step (x : XS) (b : Bulbs) (i : Nat) (hi : i < K.len x) : st_cb1 (Scb1 x b i) = some (K.orr (fun e => Sum.inr (.inl e)) (.inl (Scb1 x b (i + 1))) (hydE x b.hydros i)) := by
  have e1 := K.len_le x; have e2 := K.len_le' x
  rw [sl_cb1]
  simp only [T.run_br, T.run_chk, T.run_ret, decide_eq_true_eq, Int.toNat_natCast]
  rw [if_pos (by omega), if_pos (by omega), w64_in (by omega) (by omega)]
  simp only [hydE, K.orr, decide_eq_true_eq]
  split
  · simp_all
  split
  · simp_all
  split
  · simp_all
  simp_all
theorem K.cb1_end (x : XS) (b : Bulbs) : st_cb1 (Scb1 x b (K.len x)) = some (.inr (.inr ((), b, ()))) := by
  rw [sl_cb1]
  simp only [T.run_br, T.run_chk, T.run_ret, decide_eq_true_eq]
  rw [if_neg (by omega)]
theorem K.L_cb1_eq (x : XS) (b : Bulbs) : K.L_cb1 ((x, (K.len x : Int), 0), b, ()) = some (K.orr Sum.inl (.inr ((), b, ())) ((List.range (K.len x)).findSome? (hydE x b.hydros))) :=
  lim_err (Scb1 x b) (K.len x) (hydE x b.hydros) Sum.inl (Sum.inr ((), b, ())) (cb1_step x b) (cb1_end x b)
def S_cb2 := DecS.mk0 (.skip (.unit (dLp 0 0 0 0) (.skips 51 (.cons xGlasses (.cons (dI .i64) (.last (dI .i64) 40)))))) (.flat 31 lBulbs .nil)
def X_cb2 := DecX.or (DecX.one .ret [2] (DecS.mk1 (.skips 2 (.last (dI .i64) 93)))) (DecX.one (.exit 2) [] (DecS.mk1 (.tops 96)))
noncomputable def K.st_cb2 := loopT1 P BKE1 30 31 105 [55, 1, 53, 54] S_cb2 X_cb2
theorem sl_cb2 : ∀ s, (K.st_cb2) s = T.run (
  .br (decide (Prod.snd (Prod.snd (Prod.fst s)) < Prod.fst (Prod.snd (Prod.fst s)))) (
    .chk (decide ((0 : Int) ≤ Prod.snd (Prod.snd (Prod.fst s)) ∧ Prod.snd (Prod.snd (Prod.fst s)) < (↑(XS.len (Prod.fst (Prod.fst s))) : Int))) <|
    .br (!within (XS.g (Prod.fst (Prod.fst s)) (Int.toNat (Prod.snd (Prod.snd (Prod.fst s)))) (0 : Nat)) (1 : Int) (1099511627776 : Int)) (
      .ret (Sum.inr (Sum.inl (1 : Int)))) (
      .br (!within (XS.g (Prod.fst (Prod.fst s)) (Int.toNat (Prod.snd (Prod.snd (Prod.fst s)))) (2 : Nat)) (900 : Int) (1100 : Int)) (
        .ret (Sum.inr (Sum.inl (1 : Int)))) (
        .br (!spans (Span.mk (XS.g (Prod.fst (Prod.fst s)) (Int.toNat (Prod.snd (Prod.snd (Prod.fst s)))) (3 : Nat)) (XS.g (Prod.fst (Prod.fst s)) (Int.toNat (Prod.snd (Prod.snd (Prod.fst s)))) (4 : Nat))) (0 : Int) (2000 : Int)) (
          .ret (Sum.inr (Sum.inl (1 : Int)))) (
          .br (decide (Prod.snd (find_chk2 (gls (Prod.fst (Prod.fst s)) (Int.toNat (Prod.snd (Prod.snd (Prod.fst s))))) (Bulbs.hydros (Prod.fst (Prod.snd s)))) < (0 : Int))) (
            .ret (Sum.inr (Sum.inl (5 : Int)))) (
            .br (decide (Prod.snd (find_chk3 (gls (Prod.fst (Prod.fst s)) (Int.toNat (Prod.snd (Prod.snd (Prod.fst s))))) (Bulbs.glasses (Prod.fst (Prod.snd s)))) < Prod.snd (Prod.snd (Prod.fst s)))) (
              .ret (Sum.inr (Sum.inl (6 : Int)))) (
              .ret (Sum.inl ((Prod.fst (Prod.fst s), Prod.fst (Prod.snd (Prod.fst s)), IntKind.wrap IntKind.i64 (Prod.snd (Prod.snd (Prod.fst s)) + (1 : Int))), Prod.fst (Prod.snd s), PUnit.unit)))))))) (
    .ret (Sum.inr (Sum.inr PUnit.unit)))) := fun s => by kernel_rfl
noncomputable def K.L_cb2 := lim K.st_cb2
noncomputable def BKE2 : Tab := BKE1.addNode 31 105 (nodeE [55, 1, 53, 54] S_cb2 X_cb2 (fun s => .obs (K.L_cb2 s) .ret))
theorem tKE2 : TabOk P BKE2 := TabOk.addLoop (d := 30) okP tKE1 (by kernel_rfl) (by kernel_rfl) (fun s r h => obs_ret h)
/-- The error of a glass of a list. -/
def K.glsE (x h y : XS) (i : Nat) : Option Int := if (!within (x.g i 0) 1 1099511627776) = true then some 1 else if (!within (x.g i 2) 900 1100) = true then some 1 else if (!spans ⟨x.g i 3, x.g i 4⟩ 0 2000) = true then some 1 else
  if decide ((find_chk2 (gls x i) h).2 < 0) = true then some 5 else if decide ((find_chk3 (gls x i) y).2 < (i : Int)) = true then some 6 else none
abbrev K.Scb2 (x : XS) (b : Bulbs) (i : Nat) := ((x, (K.len x : Int), (i : Int)), b, ())
theorem K.cb2_step (x : XS) (b : Bulbs) (i : Nat) (hi : i < K.len x) : st_cb2 (Scb2 x b i) = some (K.orr (fun e => Sum.inr (.inl e)) (.inl (Scb2 x b (i + 1))) (glsE x b.hydros b.glasses i)) := by
  have e1 := K.len_le x; have e2 := K.len_le' x
  rw [sl_cb2]
  simp only [T.run_br, T.run_chk, T.run_ret, decide_eq_true_eq, Int.toNat_natCast]
  rw [if_pos (by omega), if_pos (by omega), w64_in (by omega) (by omega)]
  simp only [glsE, K.orr, decide_eq_true_eq]
  split
  · simp_all
  split
  · simp_all
  split
  · simp_all
  split
  · simp_all
  split
  · simp_all
  simp_all
theorem K.cb2_end (x : XS) (b : Bulbs) : st_cb2 (Scb2 x b (K.len x)) = some (.inr (.inr ())) := by
  rw [sl_cb2]
  simp only [T.run_br, T.run_chk, T.run_ret, decide_eq_true_eq]
  rw [if_neg (by omega)]
theorem K.L_cb2_eq (x : XS) (b : Bulbs) : K.L_cb2 ((x, (K.len x : Int), 0), b, ()) = some (K.orr Sum.inl (.inr ()) ((List.range (K.len x)).findSome? (glsE x b.hydros b.glasses))) :=
  lim_err (Scb2 x b) (K.len x) (glsE x b.hydros b.glasses) Sum.inl (Sum.inr ()) (cb2_step x b) (cb2_end x b)
def D_cb := DecL.last (dBulbs) 0
theorem fn_cb : ∀ a, (callT1 P BKE2 30 31 D_cb (dI .i64)) a = T.run (
  .br (decide ((↑(len (Bulbs.hydros a)) : Int) > (8 : Int))) (
    .ret ((2 : Int))) (
    .br (decide ((↑(len (Bulbs.glasses a)) : Int) > (40 : Int))) (
      .ret ((2 : Int))) (
      .obs (L_cb1 ((Bulbs.hydros a, (↑(len (Bulbs.hydros a)) : Int), (0 : Int)), a, PUnit.unit)) fun x0 =>
        .sum (x0) (fun x1 =>
          .ret (x1)) (fun x1 =>
          .obs (L_cb2 ((Bulbs.glasses (Prod.fst (Prod.snd x1)), (↑(len (Bulbs.glasses (Prod.fst (Prod.snd x1)))) : Int), (0 : Int)), Prod.fst (Prod.snd x1), PUnit.unit)) fun x2 =>
            .sum (x2) (fun x3 =>
              .ret (x3)) (fun x3 =>
              .ret ((0 : Int))))))) := fun a => by kernel_rfl
def K.CheckBulbs (b : Bulbs) : Int := if (K.len b.hydros : Int) > 8 then 2 else if (K.len b.glasses : Int) > 40 then 2 else
  K.orr id (K.orr id 0 ((List.range (K.len b.glasses)).findSome? (glsE b.glasses b.hydros b.glasses))) ((List.range (K.len b.hydros)).findSome? (hydE b.hydros b.hydros))
theorem K.CheckBulbs_eq (b : Bulbs) : callT1 P BKE2 30 31 D_cb (dI .i64) b = some (K.CheckBulbs b) := by
  rw [fn_cb]; unfold K.CheckBulbs
  simp only [T.run_br, decide_eq_true_eq, T.run_ret]
  split
  · rfl
  split
  · rfl
  rw [K.L_cb1_eq]
  cases (List.range (K.len b.hydros)).findSome? (hydE b.hydros b.hydros) with
  | some e => rfl
  | none =>
    simp only [K.orr, T.run_some, T.run_inr]
    rw [K.L_cb2_eq]
    cases (List.range (K.len b.glasses)).findSome? (glsE b.glasses b.hydros b.glasses) <;> rfl
noncomputable def BKE3 : Tab := BKE2.addCall 31 (callE D_cb (dI .i64) (fun b => .ret (K.CheckBulbs b)))
theorem tKE3 : TabOk P BKE3 := TabOk.addFn (d := 30) okP tKE2 (fun a r h => by rw [K.CheckBulbs_eq]; exact congrArg some (ret_some h))
end Go.Proofs.YtjbhooodjmjdkaaGreat
/-! KG -/
namespace Go.Proofs.YtjbhooodjmjdkaaGreat
open Ev K
set_option maxRecDepth 100000
/-! rooms -/
def S_rms := DecS.mk1 (.skips 3 (.cons (dI .i64) (.skips 5 (.cons xHolds (.cons (dI .i64) (.last (dI .i64) 9))))))
def X_rms := DecX.one (.exit 0) [3] (DecS.mk1 (.skips 3 (.last (dI .i64) 17)))
noncomputable def K.st_rms := loopT1 P BKE3 30 145 25 [11, 3, 9, 10] S_rms X_rms
theorem sl_rms : ∀ s, (K.st_rms) s = T.run (
  .br (decide (Prod.snd (Prod.snd (Prod.snd s)) < Prod.fst (Prod.snd (Prod.snd s)))) (
    .chk (decide ((0 : Int) ≤ Prod.snd (Prod.snd (Prod.snd s)) ∧ Prod.snd (Prod.snd (Prod.snd s)) < (↑(XS.len (Prod.fst (Prod.snd s))) : Int))) <|
    .ret (Sum.inl (IntKind.wrap IntKind.i64 (Prod.fst s + XS.g (Prod.fst (Prod.snd s)) (Int.toNat (Prod.snd (Prod.snd (Prod.snd s)))) (1 : Nat)), Prod.fst (Prod.snd s), Prod.fst (Prod.snd (Prod.snd s)), IntKind.wrap IntKind.i64 (Prod.snd (Prod.snd (Prod.snd s)) + (1 : Int))))) (
    .ret (Sum.inr (Prod.fst s)))) := fun s => by kernel_rfl
noncomputable def K.L_rms := lim K.st_rms
def K.sumRooms (x : XS) (a : Int) : Int := (List.range (len x)).foldl (fun a i => IntKind.i64.wrap (a + x.g i 1)) a
theorem K.L_rms_eq (x : XS) (a : Int) : K.L_rms (a, x, (len x : Int), 0) = some (sumRooms x a) := by
  have e1 := K.len_le x; have e2 := K.len_le' x
  refine lim_fold (fun i a => (a, x, (len x : Int), (i : Int))) (len x) (fun a i => IntKind.i64.wrap (a + x.g i 1)) id (fun i hi a => ?_) (fun a => ?_) a
  · rw [sl_rms]
    simp only [T.run_br, T.run_chk, T.run_ret, decide_eq_true_eq, Int.toNat_natCast]
    rw [if_pos (by omega), if_pos (by omega), w64_in (n := (i : Int) + 1) (by omega) (by omega)]; simp
  · rw [sl_rms]
    simp only [T.run_br, T.run_chk, T.run_ret, decide_eq_true_eq]
    rw [if_neg (by omega)]; rfl
noncomputable def BKG1 : Tab := BKE3.addNode 145 25 (nodeE [11, 3, 9, 10] S_rms X_rms (fun s => .obs (K.L_rms s) .ret))
theorem tKG1 : TabOk P BKG1 := TabOk.addLoop (d := 30) okP tKE3 (by kernel_rfl) (by kernel_rfl) (fun s r h => obs_ret h)
def D_ship := DecL.last dShip 0
theorem fn_rms : ∀ a, (callT1 P BKG1 30 145 D_ship (dI .i64)) a = T.run (
  .obs (L_rms (Ship.light a, Ship.holds a, (↑(len (Ship.holds a)) : Int), (0 : Int))) fun x0 =>
    .ret (x0)) := fun a => by kernel_rfl
def K.rooms (s : Ship) : Int := sumRooms s.holds s.light
noncomputable def BKG2 : Tab := BKG1.addCall 145 (callE D_ship (dI .i64) (fun s => .ret (K.rooms s)))
theorem tKG2 : TabOk P BKG2 := TabOk.addFn (d := 30) okP tKG1 (fun a r h => by rw [fn_rms, K.L_rms_eq, ← ret_some h]; rfl)
/-! placed -/
def D_pl := DecL.cons (dI .i64) (.last (dI .i64) 0)
theorem fn_placed : ∀ a, (callT1 P BKG2 30 142 D_pl dB) a = T.run (
  .br (within (Prod.fst a) (-20000 : Int) (20000 : Int)) (
    .ret (within (Prod.snd a) (0 : Int) (5000 : Int))) (
    .ret (false))) := fun a => by kernel_rfl
noncomputable def K.placed (a : Int × Int) : Bool := (if (within (Prod.fst a) (-20000 : Int) (20000 : Int)) = true then within (Prod.snd a) (0 : Int) (5000 : Int) else false)
theorem eq_placed (a : Int × Int) : (callT1 P BKG2 30 142 D_pl dB) a = some (K.placed a) := (fn_placed a).trans (T.br_some rfl rfl)
noncomputable def BKG3 : Tab := BKG2.addCall 142 (callE D_pl dB (fun a => .ret (K.placed a)))
theorem tKG3 : TabOk P BKG3 := TabOk.addFn (d := 30) okP tKG2 (fun a r h => by rw [eq_placed]; exact congrArg some (ret_some h))
/-! curve.Check -/
def S_cc := DecS.mk1 (.skips 3 (.cons (dI .i64) (.skips 19 (.cons xKnots (.cons (dI .i64) (.last (dI .i64) 18))))))
def X_cc := DecX.or (DecX.one .ret [2] (DecS.mk1 (.skips 2 (.last (dI .i64) 41)))) (DecX.one (.exit 1) [] (DecS.mk1 (.tops 44)))
noncomputable def K.st_cc := loopT1 P BKG3 30 146 57 [25, 3, 23, 24] S_cc X_cc
theorem sl_cc : ∀ s, (K.st_cc) s = T.run (
  .br (decide (Prod.snd (Prod.snd (Prod.snd s)) < Prod.fst (Prod.snd (Prod.snd s)))) (
    .chk (decide ((0 : Int) ≤ Prod.snd (Prod.snd (Prod.snd s)) ∧ Prod.snd (Prod.snd (Prod.snd s)) < (↑(XS.len (Prod.fst (Prod.snd s))) : Int))) <|
    .br (!within (XS.g (Prod.fst (Prod.snd s)) (Int.toNat (Prod.snd (Prod.snd (Prod.snd s)))) (0 : Nat)) (IntKind.wrap IntKind.i64 (Prod.fst s + (1 : Int))) (2000 : Int)) (
      .ret (Sum.inr (Sum.inl (1 : Int)))) (
      .br (!within (XS.g (Prod.fst (Prod.snd s)) (Int.toNat (Prod.snd (Prod.snd (Prod.snd s)))) (1 : Nat)) (-65536 : Int) (65536 : Int)) (
        .ret (Sum.inr (Sum.inl (1 : Int)))) (
        .ret (Sum.inl (XS.g (Prod.fst (Prod.snd s)) (Int.toNat (Prod.snd (Prod.snd (Prod.snd s)))) (0 : Nat), Prod.fst (Prod.snd s), Prod.fst (Prod.snd (Prod.snd s)), IntKind.wrap IntKind.i64 (Prod.snd (Prod.snd (Prod.snd s)) + (1 : Int))))))) (
    .ret (Sum.inr (Sum.inr PUnit.unit)))) := fun s => by kernel_rfl
noncomputable def K.L_cc := lim K.st_cc
def K.lastX (x : XS) (i : Nat) : Int := if i = 0 then -1 else x.g (i - 1) 0
def K.kntE (x : XS) (i : Nat) : Option Int := if (!within (x.g i 0) (IntKind.i64.wrap (lastX x i + 1)) 2000) = true then some 1 else if (!within (x.g i 1) (-65536) 65536) = true then some 1 else none
theorem K.L_cc_eq (x : XS) : K.L_cc (-1, x, (len x : Int), 0) = some (K.orr Sum.inl (.inr ()) ((List.range (len x)).findSome? (kntE x))) := by
  have e1 := K.len_le x; have e2 := K.len_le' x
  refine lim_err (fun i => (lastX x i, x, (len x : Int), (i : Int))) (len x) (kntE x) Sum.inl (Sum.inr ()) (fun i hi => ?_) ?_
  · rw [sl_cc]
    simp only [T.run_br, T.run_chk, T.run_ret, decide_eq_true_eq, Int.toNat_natCast]
    rw [if_pos (by omega), if_pos (by omega), w64_in (n := (i : Int) + 1) (by omega) (by omega)]
    simp only [kntE, K.orr]
    split
    · simp_all
    split
    · simp_all
    simp_all [lastX]
  · rw [sl_cc]
    simp only [T.run_br, T.run_chk, T.run_ret, decide_eq_true_eq]
    rw [if_neg (by omega)]
noncomputable def BKG4 : Tab := BKG3.addNode 146 57 (nodeE [25, 3, 23, 24] S_cc X_cc (fun s => .obs (K.L_cc s) .ret))
theorem tKG4 : TabOk P BKG4 := TabOk.addLoop (d := 30) okP tKG3 (by kernel_rfl) (by kernel_rfl) (fun s r h => obs_ret h)
def D_crv := DecL.last dCurve 0
theorem fn_cc : ∀ a, (callT1 P BKG4 30 146 D_crv (dI .i64)) a = T.run (
  .br (decide ((↑(len (Curve.knots a)) : Int) > (40 : Int))) (
    .ret ((2 : Int))) (
    .br ((↑(len (Curve.knots a)) : Int) == (0 : Int)) (
      .ret ((1 : Int))) (
      .br (!within (Curve.err a) (0 : Int) (4000 : Int)) (
        .ret ((1 : Int))) (
        .obs (L_cc ((-1 : Int), Curve.knots a, (↑(len (Curve.knots a)) : Int), (0 : Int))) fun x0 =>
          .sum (x0) (fun x1 =>
            .ret (x1)) (fun x1 =>
            .ret ((0 : Int))))))) := fun a => by kernel_rfl
def K.curveCheck (c : Curve) : Int := if (len c.knots : Int) > 40 then 2 else if ((len c.knots : Int) == 0) = true then 1 else if (!within c.err 0 4000) = true then 1 else K.orr id 0 ((List.range (len c.knots)).findSome? (kntE c.knots))
theorem K.curveCheck_eq (c : Curve) : callT1 P BKG4 30 146 D_crv (dI .i64) c = some (K.curveCheck c) := by
  rw [fn_cc]; unfold K.curveCheck
  simp only [T.run_br, decide_eq_true_eq, T.run_ret]
  split
  · rfl
  split
  · rfl
  split
  · rfl
  rw [K.L_cc_eq]
  cases (List.range (len c.knots)).findSome? (kntE c.knots) <;> rfl
noncomputable def BKG5 : Tab := BKG4.addCall 146 (callE D_crv (dI .i64) (fun c => .ret (K.curveCheck c)))
theorem tKG5 : TabOk P BKG5 := TabOk.addFn (d := 30) okP tKG4 (fun a r h => by rw [K.curveCheck_eq]; exact congrArg some (ret_some h))
/-! pieces -/
def S_pcs := DecS.yld (.unit dYv (.cons (dP 2 lCurve 0) (.skip (.last (dI .i64) 24)))) .nil
def X_pcs := DecX.or (DecX.one .ret [] (DecS.yld (.tops 28) .nil)) (DecX.one (.exit 0) [] (DecS.yld (.tops 28) .nil))
noncomputable def K.st_pcs := loopT1 P BKG5 30 225 9 [3, 1, 0] S_pcs X_pcs
theorem sl_pcs : ∀ s, (K.st_pcs) s = T.run (
  .br (decide (Prod.snd (Prod.fst s) < (↑(len (Curve.knots (Prod.fst (Prod.fst s)))) : Int))) (
    .chk (decide ((0 : Int) ≤ IntKind.wrap IntKind.i64 (Prod.snd (Prod.fst s) - (1 : Int)) ∧ IntKind.wrap IntKind.i64 (Prod.snd (Prod.fst s) - (1 : Int)) < (↑(XS.len (Curve.knots (Prod.fst (Prod.fst s)))) : Int))) <|
    .chk (decide ((0 : Int) ≤ Prod.snd (Prod.fst s) ∧ Prod.snd (Prod.fst s) < (↑(XS.len (Curve.knots (Prod.fst (Prod.fst s)))) : Int))) <|
    .br (!Prod.fst (Prod.snd (Prod.snd s)) (List.length (Prod.snd (Prod.snd (Prod.snd s))))) (
      .ret (Sum.inr (Sum.inl (PUnit.unit, PUnit.unit, Prod.fst (Prod.snd (Prod.snd s)), ([AV.int IntKind.i64 (IntKind.wrap IntKind.i64 (Prod.snd (Prod.fst s) - (1 : Int))), AV.agg [AV.int IntKind.i64 (XS.g (Curve.knots (Prod.fst (Prod.fst s))) (Int.toNat (IntKind.wrap IntKind.i64 (Prod.snd (Prod.fst s) - (1 : Int)))) (0 : Nat)), AV.int IntKind.i64 (XS.g (Curve.knots (Prod.fst (Prod.fst s))) (Int.toNat (IntKind.wrap IntKind.i64 (Prod.snd (Prod.fst s) - (1 : Int)))) (1 : Nat)), AV.int IntKind.i64 (XS.g (Curve.knots (Prod.fst (Prod.fst s))) (Int.toNat (Prod.snd (Prod.fst s))) (0 : Nat)), AV.int IntKind.i64 (XS.g (Curve.knots (Prod.fst (Prod.fst s))) (Int.toNat (Prod.snd (Prod.fst s))) (1 : Nat))]], Prod.fst (Prod.snd (Prod.snd s)) (List.length (Prod.snd (Prod.snd (Prod.snd s))))) :: Prod.snd (Prod.snd (Prod.snd s)))))) (
      .ret (Sum.inl ((Prod.fst (Prod.fst s), IntKind.wrap IntKind.i64 (Prod.snd (Prod.fst s) + (1 : Int))), PUnit.unit, Prod.fst (Prod.snd (Prod.snd s)), ([AV.int IntKind.i64 (IntKind.wrap IntKind.i64 (Prod.snd (Prod.fst s) - (1 : Int))), AV.agg [AV.int IntKind.i64 (XS.g (Curve.knots (Prod.fst (Prod.fst s))) (Int.toNat (IntKind.wrap IntKind.i64 (Prod.snd (Prod.fst s) - (1 : Int)))) (0 : Nat)), AV.int IntKind.i64 (XS.g (Curve.knots (Prod.fst (Prod.fst s))) (Int.toNat (IntKind.wrap IntKind.i64 (Prod.snd (Prod.fst s) - (1 : Int)))) (1 : Nat)), AV.int IntKind.i64 (XS.g (Curve.knots (Prod.fst (Prod.fst s))) (Int.toNat (Prod.snd (Prod.fst s))) (0 : Nat)), AV.int IntKind.i64 (XS.g (Curve.knots (Prod.fst (Prod.fst s))) (Int.toNat (Prod.snd (Prod.fst s))) (1 : Nat))]], Prod.fst (Prod.snd (Prod.snd s)) (List.length (Prod.snd (Prod.snd (Prod.snd s))))) :: Prod.snd (Prod.snd (Prod.snd s)))))) (
    .ret (Sum.inr (Sum.inr (PUnit.unit, PUnit.unit, Prod.snd (Prod.snd s)))))) := fun s => by kernel_rfl
noncomputable def K.L_pcs := lim K.st_pcs
noncomputable def BKG6 : Tab := BKG5.addNode 225 9 (nodeE [3, 1, 0] S_pcs X_pcs (fun s => .obs (K.L_pcs s) .ret))
theorem tKG6 : TabOk P BKG6 := TabOk.addLoop (d := 30) okP tKG5 (by kernel_rfl) (by kernel_rfl) (fun s r h => obs_ret h)
noncomputable def I_pcs (a : Curve) (bs : Nat → Bool) := iterT1 P BKG6 30 225 [] (V_pcs.enc a) bs
theorem it_pcs : ∀ a bs, (I_pcs) a bs = T.run (
  .obs (L_pcs ((a, (1 : Int)), PUnit.unit, bs, [])) fun x0 =>
    .sum (x0) (fun x1 =>
      .ret (List.reverse (Prod.snd (Prod.snd (Prod.snd x1))))) (fun x1 =>
      .ret (List.reverse (Prod.snd (Prod.snd (Prod.snd x1)))))) := fun a bs => by kernel_rfl
end Go.Proofs.YtjbhooodjmjdkaaGreat
/-! KH -/
namespace Go.Proofs.YtjbhooodjmjdkaaGreat
open Ev K
set_option maxRecDepth 100000
theorem filter_all {α : Type} (l : List α) : l.filter (fun _ => true) = l := by simp
section
variable (c : Curve) {bs : Nat → Bool}
abbrev K.Sp (c : Curve) (bs : Nat → Bool) (i : Nat) (out : List (List AV × Bool)) := ((c, ((i + 1 : Nat) : Int)), PUnit.unit, bs, out)
abbrev K.pieceAt (x : XS) (i : Nat) : Int × Piece := ((i : Int), ⟨knt x i, knt x (i + 1)⟩)
abbrev K.ep (c : Curve) (i : Nat) : List AV := ePiece (pieceAt c.knots i)
theorem pcs_y (i : Nat) (hi : i < K.len c.knots - 1) (out : List (List AV × Bool)) (hb : bs out.length = true) : st_pcs (Sp c bs i out) = some (.inl (Sp c bs (i + 1) ((ep c i, true) :: out))) := by
  have e1 := K.len_le c.knots; have e2 := K.len_le' c.knots
  rw [sl_pcs]
  simp only [T.run_br, T.run_chk, T.run_ret, decide_eq_true_eq, hb]
  rw [if_pos (by omega), w64_in (n := ((i + 1 : Nat) : Int) - 1) (by omega) (by omega), w64_in (n := ((i + 1 : Nat) : Int) + 1) (by omega) (by omega), if_pos (by omega), if_pos (by omega), if_neg (by simp)]
  rw [show ((i + 1 : Nat) : Int) - 1 = (i : Int) by omega, show ((i + 1 : Nat) : Int) + 1 = ((i + 1 + 1 : Nat) : Int) by omega]
  rfl
theorem pcs_s (i : Nat) (hi : i < K.len c.knots - 1) (out : List (List AV × Bool)) (hb : bs out.length = false) : st_pcs (Sp c bs i out) = some (.inr (.inl ((), (), bs, (ep c i, false) :: out))) := by
  have e1 := K.len_le c.knots; have e2 := K.len_le' c.knots
  rw [sl_pcs]
  simp only [T.run_br, T.run_chk, T.run_ret, decide_eq_true_eq, hb]
  rw [if_pos (by omega), w64_in (n := ((i + 1 : Nat) : Int) - 1) (by omega) (by omega), if_pos (by omega), if_pos (by omega), if_pos (by simp)]
  rw [show ((i + 1 : Nat) : Int) - 1 = (i : Int) by omega]
  rfl
theorem pcs_e (out) : st_pcs (Sp c bs (K.len c.knots - 1) out) = some (.inr (.inr ((), (), bs, out))) := by
  rw [sl_pcs]
  simp only [T.run_br, T.run_chk, T.run_ret, decide_eq_true_eq]
  rw [if_neg (by omega)]
theorem icl_pcs : ICL P 225 [] (V_pcs.enc c) ((piecesL c).map ePiece) := by
  refine iter_of okP tKG6  (d := 30) ?_ (fun m y hy => ?_)
  · show I_pcs c _ = _
    rw [it_pcs]
    show T.run (.obs (lim st_pcs (Sp c _ 0 [])) _) = _
    rw [lim_yields_all (Sp c _) (n := K.len c.knots - 1) (fun _ => true) (ep c) (fun o => Sum.inr ((), (), (fun _ => true), o)) (fun i hi out hp => by cases hp) (fun i hi out hp hb => pcs_y c i hi out hb) (fun out => pcs_e c out) (fun _ => rfl) (K.len c.knots - 1) 0 [] (by omega)]
    simp only [T.run_some, T.run_inr, T.run_ret, List.append_nil, List.reverse_reverse, piecesL, List.map_map, ← List.range_eq_range', filter_all]
    rfl
  · show I_pcs c _ = _
    rw [it_pcs]
    show T.run (.obs (lim st_pcs (Sp c _ 0 [])) _) = _
    have hy' : (((List.range' 0 (K.len c.knots - 1)).filter (fun _ => true)).map (ep c))[m - ([] : List (List AV × Bool)).length]? = some y := by
      rw [← List.range_eq_range']; simpa [piecesL, List.map_map, Function.comp_def, filter_all] using hy
    rw [lim_yields_stop (Sp c _) (n := K.len c.knots - 1) (fun _ => true) (ep c) (fun o => Sum.inl ((), (), (fun k => !(Nat.beq k m)), o)) (fun i hi out hp => by cases hp) (fun i hi out hp hb => pcs_y c i hi out hb) (fun i hi out hp hb => pcs_s c i hi out hb) (fun _ => rfl) (K.len c.knots - 1) 0 [] (by omega) (by simp) hy']
    simp only [T.run_some, T.run_inl, T.run_ret, List.append_nil, List.reverse_cons, List.reverse_reverse, List.length_nil, Nat.sub_zero, ← List.range_eq_range', piecesL, List.map_map, filter_all]
    rfl
end
def R_pcs := dFn 225 V_pcs
theorem fn_pcs : ∀ a, (callT1 P BKG6 30 215 D_crv R_pcs) a = T.run (
  .ret (a)) := fun a => by kernel_rfl
noncomputable def BKH1 : Tab := BKG6.addCall 215 (callE D_crv R_pcs (fun c => .ret c))
theorem tKH1 : TabOk P BKH1 := TabOk.addFn (d := 30) okP tKG6 (fun a r h => by rw [fn_pcs]; exact h)
/-! rising -/
def S_ris := DecS.mk0 (.skips 3 (.unit (dLp 0 0 0 0) (.unit (dLp 1 0 0 0) (.skips 3 (.last R_pcs 18))))) (.flat 4 (.last dB 0) (.flat 4 (.last dB 0) .nil))
noncomputable def K.st_ris := rangeT1 P BKH1 30 191 25 [8, 4, 3] S_ris DecX.no ePiece
theorem rg_ris : ∀ s x, (K.st_ris) s x = T.run (
  .br (Prod.fst (Prod.snd s)) (
    .br (Prod.fst (Prod.snd (Prod.snd s))) (
      .ret (Sum.inl (Prod.fst s, decide (rise (Prod.snd x) > (0 : Int)), decide (rise (Prod.snd x) < (0 : Int)), PUnit.unit))) (
      .ret (Sum.inl (Prod.fst s, decide (rise (Prod.snd x) > (0 : Int)), false, PUnit.unit)))) (
    .br (Prod.fst (Prod.snd (Prod.snd s))) (
      .ret (Sum.inl (Prod.fst s, false, decide (rise (Prod.snd x) < (0 : Int)), PUnit.unit))) (
      .ret (Sum.inl (Prod.fst s, false, false, PUnit.unit))))) := fun s x => by kernel_rfl
def K.upDown (L : List (Int × Piece)) (u d : Bool) : Bool × Bool := L.foldl (fun s p => (s.1 && decide (rise p.2 > 0), s.2 && decide (rise p.2 < 0))) (u, d)
theorem st_ris_eq (s) (x : Int × Piece) : st_ris s x = some (.inl (s.1, s.2.1 && decide (rise x.2 > 0), s.2.2.1 && decide (rise x.2 < 0), ())) := by
  rw [rg_ris]; simp only [T.run_br, T.run_ret]; cases s.2.1 <;> cases s.2.2.1 <;> rfl
theorem fold_ris (L : List (Int × Piece)) (c : Curve) (u d : Bool) : L.foldl (fun (s : Curve × Bool × Bool × Unit) x => (s.1, s.2.1 && decide (rise x.2 > 0), s.2.2.1 && decide (rise x.2 < 0), ())) (c, u, d, ()) = (c, (upDown L u d).1, (upDown L u d).2, ()) := by
  induction L generalizing u d with
  | nil => rfl
  | cons x L ih => simp only [List.foldl_cons, upDown]; exact ih _ _
noncomputable def BKH2 : Tab := BKH1.addNode 191 25 (rangeE [8, 4, 3] S_ris DecX.no (fun s => .ret (.inl (s.1, (upDown (piecesL s.1) s.2.1 s.2.2.1).1, (upDown (piecesL s.1) s.2.1 s.2.2.1).2, ()))))
theorem tKH2 : TabOk P BKH2 := TabOk.addRange (d := 30) (enc := ePiece) (L := (fun s => piecesL s.1)) okP tKH1 (by kernel_rfl) (by kernel_rfl) (fun s r h => ⟨_, _, _, (by kernel_rfl : _ = some (225, [], V_pcs.enc s.1)), icl_pcs s.1⟩) (fun s r h => by have e := ret_some h; subst e; rw [← fold_ris]; exact foldS_total st_ris_eq _ _)
theorem fn_rising : ∀ a, (callT1 P BKH2 30 191 D_crv (dI .i64)) a = T.run (
  .br (Prod.fst (upDown (piecesL a) true true)) (
    .ret ((1 : Int))) (
    .br (Prod.snd (upDown (piecesL a) true true)) (
      .ret ((-1 : Int))) (
      .ret ((0 : Int))))) := fun a => by kernel_rfl
noncomputable def K.rising (a : Curve) : Int := (if (Prod.fst (upDown (piecesL a) true true)) = true then (1 : Int) else (if (Prod.snd (upDown (piecesL a) true true)) = true then (-1 : Int) else (0 : Int)))
theorem eq_rising (a : Curve) : (callT1 P BKH2 30 191 D_crv (dI .i64)) a = some (K.rising a) := (fn_rising a).trans (T.br_some rfl (T.br_some rfl rfl))
noncomputable def BKH3 : Tab := BKH2.addCall 191 (callE D_crv (dI .i64) (fun a => .ret (K.rising a)))
theorem tKH3 : TabOk P BKH3 := TabOk.addFn (d := 30) okP tKH2 (fun a r h => by rw [eq_rising]; exact congrArg some (ret_some h))
def R_rsg := dTup (.cons (dI .i64) (.last (dI .i64) 0))
theorem fn_Rising : ∀ a, (callT1 P BKH3 30 147 D_crv R_rsg) a = T.run (
  .br (curveCheck a != (0 : Int)) (
    .ret (((0 : Int), curveCheck a))) (
    .ret ((rising a, (0 : Int))))) := fun a => by kernel_rfl
noncomputable def K.Rising (a : Curve) : Int × Int := (if (curveCheck a != (0 : Int)) = true then ((0 : Int), curveCheck a) else (rising a, (0 : Int)))
theorem eq_Rising (a : Curve) : (callT1 P BKH3 30 147 D_crv R_rsg) a = some (K.Rising a) := (fn_Rising a).trans (T.br_some rfl rfl)
noncomputable def BKH4 : Tab := BKH3.addCall 147 (callE D_crv R_rsg (fun a => .ret (K.Rising a)))
theorem tKH4 : TabOk P BKH4 := TabOk.addFn (d := 30) okP tKH3 (fun a r h => by rw [eq_Rising]; exact congrArg some (ret_some h))
theorem fn_tm : ∀ a, (callT1 P BKH4 30 192 D_crv dSpan) a = T.run (
  .chk (decide ((0 : Int) ≤ (0 : Int) ∧ (0 : Int) < (↑(XS.len (Curve.knots a)) : Int))) <|
  .chk (decide ((0 : Int) ≤ IntKind.wrap IntKind.i64 ((↑(len (Curve.knots a)) : Int) - (1 : Int)) ∧ IntKind.wrap IntKind.i64 ((↑(len (Curve.knots a)) : Int) - (1 : Int)) < (↑(XS.len (Curve.knots a)) : Int))) <|
  .ret (Span.mk (IntKind.wrap IntKind.i64 (XS.g (Curve.knots a) (nat_lit 0) (0 : Nat) * (40 : Int))) (IntKind.wrap IntKind.i64 (XS.g (Curve.knots a) (Int.toNat (IntKind.wrap IntKind.i64 ((↑(len (Curve.knots a)) : Int) - (1 : Int)))) (0 : Nat) * (40 : Int))))) := fun a => by kernel_rfl
def K.massesOf (c : Curve) : Span := ⟨IntKind.i64.wrap (c.knots.g 0 0 * 40), IntKind.i64.wrap (c.knots.g (len c.knots - 1) 0 * 40)⟩
theorem K.massesOf_eq (c : Curve) (h : 0 < len c.knots) : callT1 P BKH4 30 192 D_crv dSpan c = some (massesOf c) := by
  have e1 := K.len_le c.knots; have e2 := K.len_le' c.knots
  rw [fn_tm]
  simp only [T.run_br, T.run_chk, T.run_ret, decide_eq_true_eq]
  rw [w64_in (n := (len c.knots : Int) - 1) (by omega) (by omega), if_pos (by omega), if_pos (by omega)]
  rw [show ((len c.knots : Int) - 1).toNat = len c.knots - 1 by omega]; rfl
noncomputable def BKH5 : Tab := BKH4.addCall 192 (callE D_crv dSpan (fun c => .chk (decide (0 < len c.knots)) (.ret (massesOf c))))
theorem tKH5 : TabOk P BKH5 := TabOk.addFn (d := 30) okP tKH4 (fun a r h => by obtain ⟨g, e⟩ := chk_ret h; subst e; exact K.massesOf_eq a (by simpa using g))
def D_tbl := DecL.cons (dShip) (.last (dCurve) 0)
theorem fn_tbl : ∀ a, (callT1 P BKH5 30 149 D_tbl (dI .i64)) a = T.run (
  .chk (decide ((0 : Nat) < len (Curve.knots (Prod.snd a)))) <|
  .br (decide (Span.lo (massesOf (Prod.snd a)) > Ship.light (Prod.fst a))) (
    .ret ((1 : Int))) (
    .br (decide (Span.hi (massesOf (Prod.snd a)) < rooms (Prod.fst a))) (
      .ret ((1 : Int))) (
      .br (has_tab1 PUnit.unit (Curve.knots (Prod.snd a))) (
        .ret ((1 : Int))) (
        .ret ((0 : Int)))))) := fun a => by kernel_rfl
def K.tabled (s : Ship) (c : Curve) : Int := if (massesOf c).lo > s.light then 1 else if (massesOf c).hi < rooms s then 1 else if has_tab1 () c.knots = true then 1 else 0
theorem K.tabled_eq (a : Ship × Curve) (h : 0 < len a.2.knots) : callT1 P BKH5 30 149 D_tbl (dI .i64) a = some (tabled a.1 a.2) := by
  rw [fn_tbl]; unfold tabled
  simp only [T.run_br, T.run_chk, T.run_ret, decide_eq_true_eq, h, if_true]
  split
  · rfl
  split
  · rfl
  split <;> rfl
noncomputable def BKH6 : Tab := BKH5.addCall 149 (callE D_tbl (dI .i64) (fun a => .chk (decide (0 < len a.2.knots)) (.ret (tabled a.1 a.2))))
theorem tKH6 : TabOk P BKH6 := TabOk.addFn (d := 30) okP tKH5 (fun a r h => by obtain ⟨g, e⟩ := chk_ret h; subst e; exact K.tabled_eq a (by simpa using g))
end Go.Proofs.YtjbhooodjmjdkaaGreat
/-! KI -/
namespace Go.Proofs.YtjbhooodjmjdkaaGreat
open Ev K
set_option maxRecDepth 100000
def S_hc := DecS.mk0 (.skip (.unit (dLp 0 0 0 0) (.skips 43 (.cons xHolds (.cons (dI .i64) (.last (dI .i64) 66)))))) (.flat 27 lShip .nil)
def S_hcx := DecS.mk0 (.skip (.unit (dLp 0 0 0 0) (.tops 112))) (.flat 27 lShip .nil)
def X_hc := DecX.or (DecX.one .ret [2] (DecS.mk1 (.skips 2 (.last (dI .i64) 111)))) (DecX.one (.exit 0) [1] S_hcx)
noncomputable def K.st_hc := loopT1 P BKH6 30 100 49 [47, 1, 45, 46] S_hc X_hc
theorem sl_hc : ∀ s, (K.st_hc) s = T.run (
  .br (decide (Prod.snd (Prod.snd (Prod.fst s)) < Prod.fst (Prod.snd (Prod.fst s)))) (
    .chk (decide ((0 : Int) ≤ Prod.snd (Prod.snd (Prod.fst s)) ∧ Prod.snd (Prod.snd (Prod.fst s)) < (↑(XS.len (Prod.fst (Prod.fst s))) : Int))) <|
    .br (!within (XS.g (Prod.fst (Prod.fst s)) (Int.toNat (Prod.snd (Prod.snd (Prod.fst s)))) (0 : Nat)) (1 : Int) (1099511627776 : Int)) (
      .ret (Sum.inr (Sum.inl (1 : Int)))) (
      .br (!within (XS.g (Prod.fst (Prod.fst s)) (Int.toNat (Prod.snd (Prod.snd (Prod.fst s)))) (1 : Nat)) (0 : Int) (65536 : Int)) (
        .ret (Sum.inr (Sum.inl (1 : Int)))) (
        .br (!placed (XS.g (Prod.fst (Prod.fst s)) (Int.toNat (Prod.snd (Prod.snd (Prod.fst s)))) (2 : Nat), XS.g (Prod.fst (Prod.fst s)) (Int.toNat (Prod.snd (Prod.snd (Prod.fst s)))) (3 : Nat))) (
          .ret (Sum.inr (Sum.inl (1 : Int)))) (
          .chk (decide ((0 : Int) ≤ Prod.snd (Prod.snd (Prod.fst s)) ∧ Prod.snd (Prod.snd (Prod.fst s)) ≤ (↑(XS.len (Ship.holds (Prod.fst (Prod.snd s)))) : Int)) && true) <|
          .br (has_hul1 (hld (Prod.fst (Prod.fst s)) (Int.toNat (Prod.snd (Prod.snd (Prod.fst s))))) (XS.mk (XS.n (Ship.holds (Prod.fst (Prod.snd s)))) (XS.row (Ship.holds (Prod.fst (Prod.snd s))) + (0 : Nat)) (Int.toNat (Prod.snd (Prod.snd (Prod.fst s))) - (0 : Nat)) (Option.rec none (fun val => some (val - (0 : Nat))) (XS.cap (Ship.holds (Prod.fst (Prod.snd s))))) (XS.f (Ship.holds (Prod.fst (Prod.snd s)))))) (
            .ret (Sum.inr (Sum.inl (6 : Int)))) (
            .ret (Sum.inl ((Prod.fst (Prod.fst s), Prod.fst (Prod.snd (Prod.fst s)), IntKind.wrap IntKind.i64 (Prod.snd (Prod.snd (Prod.fst s)) + (1 : Int))), Prod.fst (Prod.snd s), PUnit.unit))))))) (
    .ret (Sum.inr (Sum.inr (PUnit.unit, Prod.fst (Prod.snd s), PUnit.unit))))) := fun s => by kernel_rfl
noncomputable def K.L_hc := lim K.st_hc
/-- A hold with the ID of an earlier one. -/
def K.twice (x : XS) (i : Nat) : Bool := (first (fun j => x.g j 0 == (hld x i).id) i).isSome
noncomputable def K.hldE (x : XS) (i : Nat) : Option Int := if (!within (x.g i 0) 1 1099511627776) = true then some 1 else if (!within (x.g i 1) 0 65536) = true then some 1 else if (!placed (x.g i 2, x.g i 3)) = true then some 1 else if twice x i = true then some 6 else none
theorem K.has_cut (x : XS) (c : Hold) (i : Nat) (cap : Option Nat) (hi : i ≤ 9223372036854775807) : has_hul1 c (XS.mk x.n (x.row + 0) (i - 0) cap x.f) = (first (fun j => x.g j 0 == c.id) i).isSome := by
  unfold has_hul1
  rw [show K.len (XS.mk x.n (x.row + 0) (i - 0) cap x.f) = i from clampL_eq (by show i - 0 ≤ maxL; unfold maxL; omega)]
  rfl
theorem K.L_hc_eq (s : Ship) : K.L_hc ((s.holds, (len s.holds : Int), 0), s, ()) = some (K.orr Sum.inl (.inr ((), s, ())) ((List.range (len s.holds)).findSome? (hldE s.holds))) := by
  have e1 := K.len_le s.holds; have e2 := K.len_le' s.holds
  refine lim_err (fun i => ((s.holds, (len s.holds : Int), (i : Int)), s, ())) (len s.holds) (hldE s.holds) Sum.inl (Sum.inr ((), s, ())) (fun i hi => ?_) ?_
  · rw [sl_hc]
    simp only [T.run_br, T.run_chk, T.run_ret, decide_eq_true_eq, Int.toNat_natCast]
    rw [if_pos (by omega), if_pos (by omega), w64_in (n := (i : Int) + 1) (by omega) (by omega)]
    rw [if_pos (show (decide ((0 : Int) ≤ i ∧ (i : Int) ≤ s.holds.len) && true) = true by simp; omega), K.has_cut s.holds _ i _ (by omega)]
    unfold K.hldE K.twice K.orr
    split
    · simp_all
    split
    · simp_all
    split
    · simp_all
    split
    · simp_all
    simp_all
  · rw [sl_hc]
    simp only [T.run_br, T.run_chk, T.run_ret, decide_eq_true_eq]
    rw [if_neg (by omega)]
noncomputable def BKI1 : Tab := BKH6.addNode 100 49 (nodeE [47, 1, 45, 46] S_hc X_hc (fun s => .obs (K.L_hc s) .ret))
theorem tKI1 : TabOk P BKI1 := TabOk.addLoop (d := 30) okP tKH6 (by kernel_rfl) (by kernel_rfl) (fun s r h => obs_ret h)
def R_i := dI .i64
theorem fn_hc : ∀ a, (callT1 P BKI1 30 100 D_ship R_i) a = T.run (
  .br (!within (Ship.id a) (1 : Int) (1099511627776 : Int)) (
    .ret ((1 : Int))) (
    .br (!within (Ship.light a) (1 : Int) (65536 : Int)) (
      .ret ((1 : Int))) (
      .br (!placed (Ship.lever a, Ship.height a)) (
        .ret ((1 : Int))) (
        .br (!within (Ship.turn a) (1 : Int) (1048576 : Int)) (
          .ret ((1 : Int))) (
          .br (!within (Ship.least a) (0 : Int) (5000 : Int)) (
            .ret ((1 : Int))) (
            .br (decide ((↑(len (Ship.holds a)) : Int) > (8 : Int))) (
              .ret ((2 : Int))) (
              .obs (L_hc ((Ship.holds a, (↑(len (Ship.holds a)) : Int), (0 : Int)), a, PUnit.unit)) fun x0 =>
                .sum (x0) (fun x1 =>
                  .ret (x1)) (fun x1 =>
                  .br (decide (rooms (Prod.fst (Prod.snd x1)) > (65536 : Int))) (
                    .ret ((1 : Int))) (
                    .br (curveCheck (Ship.mean (Prod.fst (Prod.snd x1))) != (0 : Int)) (
                      .ret (curveCheck (Ship.mean (Prod.fst (Prod.snd x1))))) (
                      .br (curveCheck (Ship.mc (Prod.fst (Prod.snd x1))) != (0 : Int)) (
                        .ret (curveCheck (Ship.mc (Prod.fst (Prod.snd x1))))) (
                        .br (Prod.fst (Rising (Ship.mean (Prod.fst (Prod.snd x1)))) != (1 : Int)) (
                          .ret ((1 : Int))) (
                          .chk (decide ((0 : Nat) < len (Curve.knots (Ship.mean (Prod.fst (Prod.snd x1)))))) <|
                          .chk (decide ((0 : Nat) < len (Curve.knots (Ship.mc (Prod.fst (Prod.snd x1)))))) <|
                          .br (tabled (Prod.fst (Prod.snd x1)) (Ship.mean (Prod.fst (Prod.snd x1))) != (0 : Int)) (
                            .ret (tabled (Prod.fst (Prod.snd x1)) (Ship.mean (Prod.fst (Prod.snd x1))))) (
                            .br (tabled (Prod.fst (Prod.snd x1)) (Ship.mc (Prod.fst (Prod.snd x1))) != (0 : Int)) (
                              .ret (tabled (Prod.fst (Prod.snd x1)) (Ship.mc (Prod.fst (Prod.snd x1))))) (
                              .ret ((0 : Int)))))))))))))))) := fun a => by kernel_rfl
noncomputable def K.hullCheck (s : Ship) : Int :=
  if (!within s.id 1 1099511627776) = true then 1 else if (!within s.light 1 65536) = true then 1 else if (!placed (s.lever, s.height)) = true then 1 else if (!within s.turn 1 1048576) = true then 1 else
  if (!within s.least 0 5000) = true then 1 else if decide ((len s.holds : Int) > 8) = true then 2 else
  K.orr id (if decide (rooms s > 65536) = true then 1 else if (curveCheck s.mean != 0) = true then curveCheck s.mean else if (curveCheck s.mc != 0) = true then curveCheck s.mc else if ((Rising s.mean).1 != 1) = true then 1 else
    if (tabled s s.mean != 0) = true then tabled s s.mean else if (tabled s s.mc != 0) = true then tabled s s.mc else 0) ((List.range (len s.holds)).findSome? (hldE s.holds))
theorem K.curve_pos {c : Curve} (h : ¬ (curveCheck c != 0) = true) : 0 < len c.knots := by
  rcases Nat.eq_zero_or_pos (len c.knots) with h0 | h0
  · exfalso; apply h; unfold curveCheck; rw [h0, if_neg (by decide), if_pos (by decide)]; decide
  · exact h0
theorem K.hullCheck_eq (s : Ship) : callT1 P BKI1 30 100 D_ship R_i s = some (hullCheck s) := by
  rw [fn_hc]; unfold hullCheck
  refine br_step (fun _ => rfl) (fun _ => ?_)
  refine br_step (fun _ => rfl) (fun _ => ?_)
  refine br_step (fun _ => rfl) (fun _ => ?_)
  refine br_step (fun _ => rfl) (fun _ => ?_)
  refine br_step (fun _ => rfl) (fun _ => ?_)
  refine br_step (fun _ => rfl) (fun _ => ?_)
  rw [K.L_hc_eq]
  cases (List.range (len s.holds)).findSome? (hldE s.holds) with
  | some e => rfl
  | none =>
    refine br_step (fun _ => rfl) (fun _ => ?_)
    refine br_step (fun _ => rfl) (fun h1 => ?_)
    refine br_step (fun _ => rfl) (fun h2 => ?_)
    refine br_step (fun _ => rfl) (fun _ => ?_)
    refine chk_step (by simpa using curve_pos h1) (chk_step (by simpa using curve_pos h2) ?_)
    exact br_step (fun _ => rfl) (fun _ => br_step (fun _ => rfl) (fun _ => rfl))
noncomputable def BKI2 : Tab := BKI1.addCall 100 (callE D_ship R_i (fun s => .ret (K.hullCheck s)))
theorem tKI2 : TabOk P BKI2 := TabOk.addFn (d := 30) okP tKI1 (fun a r h => by rw [K.hullCheck_eq]; exact congrArg some (ret_some h))
end Go.Proofs.YtjbhooodjmjdkaaGreat
/-! KL -/
namespace Go.Proofs.YtjbhooodjmjdkaaGreat
open Ev K
set_option maxRecDepth 100000
/-! where -/
def S_wh := DecS.mk0 (.skip (.cons (dI .i64) (.unit (dLp 0 0 0 0) (.skip (.unit (dLp 1 0 0 0) (.last (dI .i64) 59)))))) (.flat 25 lCurve (.flat 161 (.cons (dI .i64) (.last (dI .i64) 0)) .nil))
def S_whx := DecS.mk0 (.skips 2 (.unit (dLp 0 0 0 0) (.skip (.unit (dLp 1 0 0 0) (.tops 60))))) (.flat 25 lCurve (.flat 161 (.cons (dI .i64) (.last (dI .i64) 0)) .nil))
def S_whr := DecS.mk0 (.skips 4 (.unit (dLp 0 0 0 0) (.tops 60))) (.flat 161 (.cons (dI .i64) (.last (dI .i64) 0)) .nil)
def X_wh := DecX.or (DecX.one .ret [4] S_whr) (DecX.one (.exit 0) [4, 2] S_whx)
noncomputable def K.st_wh := loopT1 P BKI2 30 141 17 [4, 1, 5, 2] S_wh X_wh
theorem sl_wh : ∀ s, (K.st_wh) s = T.run (
  .br (decide (Prod.snd (Prod.fst s) < (↑(len (Curve.knots (Prod.fst (Prod.snd s)))) : Int))) (
    .chk (decide ((0 : Int) ≤ IntKind.wrap IntKind.i64 (Prod.snd (Prod.fst s) - (1 : Int)) ∧ IntKind.wrap IntKind.i64 (Prod.snd (Prod.fst s) - (1 : Int)) < (↑(XS.len (Curve.knots (Prod.fst (Prod.snd s)))) : Int))) <|
    .chk (decide ((0 : Int) ≤ Prod.snd (Prod.fst s) ∧ Prod.snd (Prod.fst s) < (↑(XS.len (Curve.knots (Prod.fst (Prod.snd s)))) : Int))) <|
    .br (within (Prod.fst (Prod.fst s)) (IntKind.wrap IntKind.i64 ((16 : Int) * XS.g (Curve.knots (Prod.fst (Prod.snd s))) (Int.toNat (IntKind.wrap IntKind.i64 (Prod.snd (Prod.fst s) - (1 : Int)))) (1 : Nat))) (IntKind.wrap IntKind.i64 ((16 : Int) * XS.g (Curve.knots (Prod.fst (Prod.snd s))) (Int.toNat (Prod.snd (Prod.fst s))) (1 : Nat)))) (
      .ret (Sum.inr (Sum.inl (PUnit.unit, (IntKind.wrap IntKind.i64 (IntKind.wrap IntKind.i64 (XS.g (Curve.knots (Prod.fst (Prod.snd s))) (Int.toNat (IntKind.wrap IntKind.i64 (Prod.snd (Prod.fst s) - (1 : Int)))) (0 : Nat) * IntKind.wrap IntKind.i64 ((16 : Int) * IntKind.wrap IntKind.i64 (XS.g (Curve.knots (Prod.fst (Prod.snd s))) (Int.toNat (Prod.snd (Prod.fst s))) (1 : Nat) - XS.g (Curve.knots (Prod.fst (Prod.snd s))) (Int.toNat (IntKind.wrap IntKind.i64 (Prod.snd (Prod.fst s) - (1 : Int)))) (1 : Nat)))) + IntKind.wrap IntKind.i64 (IntKind.wrap IntKind.i64 (Prod.fst (Prod.fst s) - IntKind.wrap IntKind.i64 ((16 : Int) * XS.g (Curve.knots (Prod.fst (Prod.snd s))) (Int.toNat (IntKind.wrap IntKind.i64 (Prod.snd (Prod.fst s) - (1 : Int)))) (1 : Nat))) * IntKind.wrap IntKind.i64 (XS.g (Curve.knots (Prod.fst (Prod.snd s))) (Int.toNat (Prod.snd (Prod.fst s))) (0 : Nat) - XS.g (Curve.knots (Prod.fst (Prod.snd s))) (Int.toNat (IntKind.wrap IntKind.i64 (Prod.snd (Prod.fst s) - (1 : Int)))) (0 : Nat)))), IntKind.wrap IntKind.i64 ((16 : Int) * IntKind.wrap IntKind.i64 (XS.g (Curve.knots (Prod.fst (Prod.snd s))) (Int.toNat (Prod.snd (Prod.fst s))) (1 : Nat) - XS.g (Curve.knots (Prod.fst (Prod.snd s))) (Int.toNat (IntKind.wrap IntKind.i64 (Prod.snd (Prod.fst s) - (1 : Int)))) (1 : Nat)))), PUnit.unit)))) (
      .ret (Sum.inl ((Prod.fst (Prod.fst s), IntKind.wrap IntKind.i64 (Prod.snd (Prod.fst s) + (1 : Int))), Prod.fst (Prod.snd s), Prod.fst (Prod.snd (Prod.snd s)), PUnit.unit)))) (
    .ret (Sum.inr (Sum.inr (PUnit.unit, Prod.fst (Prod.snd s), Prod.fst (Prod.snd (Prod.snd s)), PUnit.unit))))) := fun s => by kernel_rfl
noncomputable def K.L_wh := lim K.st_wh
noncomputable def BKL1 : Tab := BKI2.addNode 141 17 (nodeE [4, 1, 5, 2] S_wh X_wh (fun s => .obs (K.L_wh s) .ret))
theorem tKL1 : TabOk P BKL1 := TabOk.addLoop (d := 30) okP tKI2 (by kernel_rfl) (by kernel_rfl) (fun s r h => obs_ret h)
def D_wh := DecL.cons (dCurve) (.last (dI .i64) 0)
theorem fn_wh : ∀ a, (callT1 P BKL1 30 141 D_wh dRatio) a = T.run (
  .obs (L_wh ((Prod.snd a, (1 : Int)), Prod.fst a, ((0 : Int), (0 : Int)), PUnit.unit)) fun x0 =>
    .sum (x0) (fun x1 =>
      .ret (Frac.mk (Prod.fst (Prod.fst (Prod.snd x1))) (Prod.snd (Prod.fst (Prod.snd x1))))) (fun x1 =>
      .chk (decide ((0 : Int) ≤ (0 : Int) ∧ (0 : Int) < (↑(XS.len (Curve.knots (Prod.fst (Prod.snd x1)))) : Int))) <|
      .ret (Frac.mk (XS.g (Curve.knots (Prod.fst (Prod.snd x1))) (nat_lit 0) (0 : Nat)) (1 : Int)))) := fun a => by kernel_rfl
def K.inPiece (x : XS) (y : Int) (i : Nat) : Bool := within y (IntKind.i64.wrap (16 * x.g i 1)) (IntKind.i64.wrap (16 * x.g (i + 1) 1))
def K.riseAt (x : XS) (i : Nat) : Int := IntKind.i64.wrap (16 * IntKind.i64.wrap (x.g (i + 1) 1 - x.g i 1))
def K.ratioAt (x : XS) (y : Int) (i : Nat) : Frac := ⟨IntKind.i64.wrap (IntKind.i64.wrap (x.g i 0 * riseAt x i) + IntKind.i64.wrap (IntKind.i64.wrap (y - IntKind.i64.wrap (16 * x.g i 1)) * IntKind.i64.wrap (x.g (i + 1) 0 - x.g i 0))), riseAt x i⟩
def K.whereOf (c : Curve) (y : Int) : Frac := match first (inPiece c.knots y) (len c.knots - 1) with
  | some i => ratioAt c.knots y i
  | none => ⟨c.knots.g 0 0, 1⟩
abbrev K.Swh (c : Curve) (y : Int) (i : Nat) := ((y, ((i + 1 : Nat) : Int)), c, ((0 : Int), (0 : Int)), ())
theorem K.L_wh_eq (c : Curve) (y : Int) : K.L_wh ((y, 1), c, (0, 0), ()) = some (match first (inPiece c.knots y) (len c.knots - 1) with | some i => (Sum.inl ((), ((ratioAt c.knots y i).num, (ratioAt c.knots y i).den), ()) : (Unit × (Int × Int) × Unit) ⊕ (Unit × Curve × (Int × Int) × Unit)) | none => .inr ((), c, (0, 0), ())) := by
  have e1 := K.len_le c.knots; have e2 := K.len_le' c.knots
  refine lim_find (Swh c y) (len c.knots - 1) (inPiece c.knots y) (fun i => (Sum.inl ((), ((ratioAt c.knots y i).num, (ratioAt c.knots y i).den), ()) : (Unit × (Int × Int) × Unit) ⊕ (Unit × Curve × (Int × Int) × Unit))) (.inr ((), c, (0, 0), ())) (fun i hi hp => ?_) (fun i hi hp => ?_) ?_
  · rw [sl_wh]
    unfold inPiece at hp
    simp only [T.run_br, T.run_chk, T.run_ret, decide_eq_true_eq]
    rw [if_pos (by omega), w64_in (n := ((i + 1 : Nat) : Int) - 1) (by omega) (by omega), if_pos (by omega), if_pos (by omega)]
    rw [show ((i + 1 : Nat) : Int) - 1 = (i : Int) by omega, Int.toNat_natCast, Int.toNat_natCast, if_pos hp]; rfl
  · rw [sl_wh]
    unfold inPiece at hp
    simp only [T.run_br, T.run_chk, T.run_ret, decide_eq_true_eq]
    rw [if_pos (by omega), w64_in (n := ((i + 1 : Nat) : Int) - 1) (by omega) (by omega), if_pos (by omega), if_pos (by omega)]
    rw [show ((i + 1 : Nat) : Int) - 1 = (i : Int) by omega, Int.toNat_natCast, Int.toNat_natCast, if_neg (by simp [hp]), w64_in (by omega) (by omega)]; rfl
  · rw [sl_wh]
    simp only [T.run_br, T.run_chk, T.run_ret, decide_eq_true_eq]
    rw [if_neg (by omega)]
theorem K.whereOf_eq (a : Curve × Int) (h : 0 < len a.1.knots) : callT1 P BKL1 30 141 D_wh dRatio a = some (whereOf a.1 a.2) := by
  have e2 := K.len_le' a.1.knots
  rw [fn_wh, K.L_wh_eq]; unfold whereOf
  cases first (inPiece a.1.knots a.2) (len a.1.knots - 1) with
  | some i => rfl
  | none => exact chk_step (by simp; omega) rfl
noncomputable def BKL2 : Tab := BKL1.addCall 141 (callE D_wh dRatio (fun a => .chk (decide (0 < len a.1.knots)) (.ret (whereOf a.1 a.2))))
theorem tKL2 : TabOk P BKL2 := TabOk.addFn (d := 30) okP tKL1 (fun a r h => by obtain ⟨g, e⟩ := chk_ret h; subst e; exact K.whereOf_eq a (by simpa using g))
def S_hv := DecS.mk1 (.skips 3 (.cons (dI .i64) (.skips 5 (.cons xHolds (.cons (dI .i64) (.last (dI .i64) 9))))))
noncomputable def K.st_hv := loopT1 P BKL2 30 117 25 [11, 3, 9, 10] S_hv X_rms
theorem sl_hv : ∀ s, (K.st_hv) s = T.run (
  .br (decide (Prod.snd (Prod.snd (Prod.snd s)) < Prod.fst (Prod.snd (Prod.snd s)))) (
    .chk (decide ((0 : Int) ≤ Prod.snd (Prod.snd (Prod.snd s)) ∧ Prod.snd (Prod.snd (Prod.snd s)) < (↑(XS.len (Prod.fst (Prod.snd s))) : Int))) <|
    .ret (Sum.inl (IntKind.wrap IntKind.i64 (Prod.fst s + XS.g (Prod.fst (Prod.snd s)) (Int.toNat (Prod.snd (Prod.snd (Prod.snd s)))) (1 : Nat)), Prod.fst (Prod.snd s), Prod.fst (Prod.snd (Prod.snd s)), IntKind.wrap IntKind.i64 (Prod.snd (Prod.snd (Prod.snd s)) + (1 : Int))))) (
    .ret (Sum.inr (Prod.fst s)))) := fun s => by kernel_rfl
noncomputable def K.L_hv := lim K.st_hv
theorem K.L_hv_eq (x : XS) (a : Int) : K.L_hv (a, x, (len x : Int), 0) = some (sumRooms x a) := by
  have e1 := K.len_le x; have e2 := K.len_le' x
  refine lim_fold (fun i a => (a, x, (len x : Int), (i : Int))) (len x) (fun a i => IntKind.i64.wrap (a + x.g i 1)) id (fun i hi a => ?_) (fun a => ?_) a
  · rw [sl_hv]
    simp only [T.run_br, T.run_chk, T.run_ret, decide_eq_true_eq, Int.toNat_natCast]
    rw [if_pos (by omega), if_pos (by omega), w64_in (n := (i : Int) + 1) (by omega) (by omega)]; simp
  · rw [sl_hv]
    simp only [T.run_br, T.run_chk, T.run_ret, decide_eq_true_eq]
    rw [if_neg (by omega)]; rfl
noncomputable def BKL3 : Tab := BKL2.addNode 117 25 (nodeE [11, 3, 9, 10] S_hv X_rms (fun s => .obs (K.L_hv s) .ret))
theorem tKL3 : TabOk P BKL3 := TabOk.addLoop (d := 30) okP tKL2 (by kernel_rfl) (by kernel_rfl) (fun s r h => obs_ret h)
theorem fn_hv : ∀ a, (callT1 P BKL3 30 117 D_ship R_i) a = T.run (
  .obs (L_hv (Ship.light a, Ship.holds a, (↑(len (Ship.holds a)) : Int), (0 : Int))) fun x0 =>
    .ret (x0)) := fun a => by kernel_rfl
noncomputable def BKL4 : Tab := BKL3.addCall 117 (callE D_ship R_i (fun s => .ret (K.rooms s)))
theorem tKL4 : TabOk P BKL4 := TabOk.addFn (d := 30) okP tKL3 (fun a r h => by rw [fn_hv, K.L_hv_eq, ← ret_some h]; rfl)
def D_vol := DecL.cons (dShip) (.last (dSurvey) 0)
def R_vol : Dec ((Frac × Frac) × Bool) := (dTup (.cons (dAgg (.cons (dI .i64) (.cons (dI .i64) (.cons (dI .i64) (.last (dI .i64) 0))))) (.last dB 0))).iso (fun p => ((⟨p.1.1, p.1.2.1⟩, ⟨p.1.2.2.1, p.1.2.2.2⟩), p.2)) (fun s => ((s.1.1.num, s.1.1.den, s.1.2.num, s.1.2.den), s.2)) (fun _ => rfl)
theorem fn_vol : ∀ a, (callT1 P BKL4 30 97 D_vol R_vol) a = T.run (
  .chk (decide ((0 : Int) ≤ (0 : Int) ∧ (0 : Int) < (↑(XS.len (Curve.knots (Ship.mean (Prod.fst a)))) : Int))) <|
  .chk (decide ((0 : Int) ≤ IntKind.wrap IntKind.i64 ((↑(len (Curve.knots (Ship.mean (Prod.fst a)))) : Int) - (1 : Int)) ∧ IntKind.wrap IntKind.i64 ((↑(len (Curve.knots (Ship.mean (Prod.fst a)))) : Int) - (1 : Int)) < (↑(XS.len (Curve.knots (Ship.mean (Prod.fst a)))) : Int))) <|
  .br (void (meet (Span.mk (IntKind.wrap IntKind.i64 (sums16 (Prod.fst (Prod.fst (extremes (Prod.snd a)))) - IntKind.wrap IntKind.i64 ((16 : Int) * Curve.err (Ship.mean (Prod.fst a))))) (IntKind.wrap IntKind.i64 (sums16 (Prod.snd (Prod.fst (extremes (Prod.snd a)))) + IntKind.wrap IntKind.i64 ((16 : Int) * Curve.err (Ship.mean (Prod.fst a)))))) (Span.mk (IntKind.wrap IntKind.i64 ((16 : Int) * XS.g (Curve.knots (Ship.mean (Prod.fst a))) (nat_lit 0) (1 : Nat))) (IntKind.wrap IntKind.i64 ((16 : Int) * XS.g (Curve.knots (Ship.mean (Prod.fst a))) (Int.toNat (IntKind.wrap IntKind.i64 ((↑(len (Curve.knots (Ship.mean (Prod.fst a)))) : Int) - (1 : Int)))) (1 : Nat)))))) (
    .ret (((Frac.mk (0 : Int) (0 : Int), Frac.mk (0 : Int) (0 : Int)), false))) (
    .chk (decide ((0 : Nat) < len (Curve.knots (Ship.mean (Prod.fst a))))) <|
    .chk (decide ((0 : Nat) < len (Curve.knots (Ship.mean (Prod.fst a))))) <|
    .ret (((whereOf (Ship.mean (Prod.fst a)) (Span.lo (meet (Span.mk (IntKind.wrap IntKind.i64 (sums16 (Prod.fst (Prod.fst (extremes (Prod.snd a)))) - IntKind.wrap IntKind.i64 ((16 : Int) * Curve.err (Ship.mean (Prod.fst a))))) (IntKind.wrap IntKind.i64 (sums16 (Prod.snd (Prod.fst (extremes (Prod.snd a)))) + IntKind.wrap IntKind.i64 ((16 : Int) * Curve.err (Ship.mean (Prod.fst a)))))) (Span.mk (IntKind.wrap IntKind.i64 ((16 : Int) * XS.g (Curve.knots (Ship.mean (Prod.fst a))) (nat_lit 0) (1 : Nat))) (IntKind.wrap IntKind.i64 ((16 : Int) * XS.g (Curve.knots (Ship.mean (Prod.fst a))) (Int.toNat (IntKind.wrap IntKind.i64 ((↑(len (Curve.knots (Ship.mean (Prod.fst a)))) : Int) - (1 : Int)))) (1 : Nat)))))), whereOf (Ship.mean (Prod.fst a)) (Span.hi (meet (Span.mk (IntKind.wrap IntKind.i64 (sums16 (Prod.fst (Prod.fst (extremes (Prod.snd a)))) - IntKind.wrap IntKind.i64 ((16 : Int) * Curve.err (Ship.mean (Prod.fst a))))) (IntKind.wrap IntKind.i64 (sums16 (Prod.snd (Prod.fst (extremes (Prod.snd a)))) + IntKind.wrap IntKind.i64 ((16 : Int) * Curve.err (Ship.mean (Prod.fst a)))))) (Span.mk (IntKind.wrap IntKind.i64 ((16 : Int) * XS.g (Curve.knots (Ship.mean (Prod.fst a))) (nat_lit 0) (1 : Nat))) (IntKind.wrap IntKind.i64 ((16 : Int) * XS.g (Curve.knots (Ship.mean (Prod.fst a))) (Int.toNat (IntKind.wrap IntKind.i64 ((↑(len (Curve.knots (Ship.mean (Prod.fst a)))) : Int) - (1 : Int)))) (1 : Nat))))))), true)))) := fun a => by kernel_rfl
end Go.Proofs.YtjbhooodjmjdkaaGreat
/-! KM -/
namespace Go.Proofs.YtjbhooodjmjdkaaGreat
open Ev K
set_option maxRecDepth 100000
/-- Sixteen times the mean draught that the table knows. -/
def K.ySpan (s : Ship) (x : Survey) : Span := meet ⟨IntKind.i64.wrap (sums16 (extremes x).1.1 - IntKind.i64.wrap (16 * s.mean.err)), IntKind.i64.wrap (sums16 (extremes x).1.2 + IntKind.i64.wrap (16 * s.mean.err))⟩
  ⟨IntKind.i64.wrap (16 * s.mean.knots.g 0 1), IntKind.i64.wrap (16 * s.mean.knots.g (len s.mean.knots - 1) 1)⟩
def K.volumes (s : Ship) (x : Survey) : (Frac × Frac) × Bool := if void (ySpan s x) = true then ((⟨0, 0⟩, ⟨0, 0⟩), false) else ((whereOf s.mean (ySpan s x).lo, whereOf s.mean (ySpan s x).hi), true)
theorem K.volumes_eq (a : Ship × Survey) (h : 0 < len a.1.mean.knots) : callT1 P BKL4 30 97 D_vol R_vol a = some (volumes a.1 a.2) := by
  have e1 := K.len_le a.1.mean.knots; have e2 := K.len_le' a.1.mean.knots
  rw [fn_vol, w64_in (n := (len a.1.mean.knots : Int) - 1) (by omega) (by omega), show ((len a.1.mean.knots : Int) - 1).toNat = len a.1.mean.knots - 1 by omega]
  refine chk_step (by simp; omega) (chk_step (by simp; omega) ?_)
  exact br_step (fun _ => rfl) (fun _ => chk_step (by simpa using h) (chk_step (by simpa using h) rfl))
noncomputable def BKM1 : Tab := BKL4.addCall 97 (callE D_vol R_vol (fun a => .chk (decide (0 < len a.1.mean.knots)) (.ret (K.volumes a.1 a.2))))
theorem tKM1 : TabOk P BKM1 := TabOk.addFn (d := 30) okP tKL4 (fun a r h => by obtain ⟨g, e⟩ := chk_ret h; subst e; exact K.volumes_eq a (by simpa using g))
def D_mass := DecL.cons (dShip) (.cons (dBulbs) (.last (dSurvey) 0))
theorem fn_mass : ∀ a, (callT1 P BKM1 30 99 D_mass dSpan) a = T.run (
  .chk (decide ((0 : Nat) < len (Curve.knots (Ship.mean (Prod.fst a))))) <|
  .br (!Prod.snd (volumes (Prod.fst a) (Prod.snd (Prod.snd a)))) (
    .ret (Span.mk (1 : Int) (0 : Int))) (
    .chk (!decide (IntKind.wrap IntKind.i64 ((25 : Int) * Frac.den (Prod.fst (Prod.fst (volumes (Prod.fst a) (Prod.snd (Prod.snd a)))))) = (0 : Int))) <|
    .chk (!decide (IntKind.wrap IntKind.i64 ((25 : Int) * Frac.den (Prod.snd (Prod.fst (volumes (Prod.fst a) (Prod.snd (Prod.snd a)))))) = (0 : Int))) <|
    .ret (meet (Span.mk (IntKind.wrap IntKind.i64 (Int.tdiv (IntKind.wrap IntKind.i64 (IntKind.wrap IntKind.i64 (IntKind.wrap IntKind.i64 (Frac.num (Prod.fst (Prod.fst (volumes (Prod.fst a) (Prod.snd (Prod.snd a))))) * Span.lo (Prod.fst (density (Prod.snd a)))) + IntKind.wrap IntKind.i64 ((25 : Int) * Frac.den (Prod.fst (Prod.fst (volumes (Prod.fst a) (Prod.snd (Prod.snd a))))))) - (1 : Int))) (IntKind.wrap IntKind.i64 ((25 : Int) * Frac.den (Prod.fst (Prod.fst (volumes (Prod.fst a) (Prod.snd (Prod.snd a))))))))) (IntKind.wrap IntKind.i64 (Int.tdiv (IntKind.wrap IntKind.i64 (Frac.num (Prod.snd (Prod.fst (volumes (Prod.fst a) (Prod.snd (Prod.snd a))))) * Span.hi (Prod.fst (density (Prod.snd a))))) (IntKind.wrap IntKind.i64 ((25 : Int) * Frac.den (Prod.snd (Prod.fst (volumes (Prod.fst a) (Prod.snd (Prod.snd a)))))))))) (Span.mk (Ship.light (Prod.fst a)) (rooms (Prod.fst a)))))) := fun a => by kernel_rfl
def K.massOk (s : Ship) (x : Survey) : Bool := decide (0 < len s.mean.knots) && (!(volumes s x).2 || (!decide (IntKind.i64.wrap (25 * (volumes s x).1.1.den) = 0) && !decide (IntKind.i64.wrap (25 * (volumes s x).1.2.den) = 0)))
noncomputable def K.massOf (s : Ship) (b : Bulbs) (x : Survey) : Span := if (!(volumes s x).2) = true then ⟨1, 0⟩ else
  meet ⟨IntKind.i64.wrap (Int.tdiv (IntKind.i64.wrap (IntKind.i64.wrap (IntKind.i64.wrap ((volumes s x).1.1.num * (density (b, x)).1.lo) + IntKind.i64.wrap (25 * (volumes s x).1.1.den)) - 1)) (IntKind.i64.wrap (25 * (volumes s x).1.1.den))),
    IntKind.i64.wrap (Int.tdiv (IntKind.i64.wrap ((volumes s x).1.2.num * (density (b, x)).1.hi)) (IntKind.i64.wrap (25 * (volumes s x).1.2.den)))⟩ ⟨s.light, rooms s⟩
theorem K.massOf_eq (a : Ship × Bulbs × Survey) (h : massOk a.1 a.2.2 = true) : callT1 P BKM1 30 99 D_mass dSpan a = some (massOf a.1 a.2.1 a.2.2) := by
  unfold massOk at h
  rw [Bool.and_eq_true] at h
  rw [fn_mass]
  refine chk_step h.1 (br_step (fun _ => rfl) (fun hn => ?_))
  have h2 := h.2
  rw [Bool.or_eq_true] at h2
  rcases h2 with h2 | h2
  · exact absurd h2 hn
  · rw [Bool.and_eq_true] at h2
    exact chk_step h2.1 (chk_step h2.2 rfl)
noncomputable def BKM2 : Tab := BKM1.addCall 99 (callE D_mass dSpan (fun a => .chk (massOk a.1 a.2.2) (.ret (massOf a.1 a.2.1 a.2.2))))
theorem tKM2 : TabOk P BKM2 := TabOk.addFn (d := 30) okP tKM1 (fun a r h => by obtain ⟨g, e⟩ := chk_ret h; subst e; exact K.massOf_eq a g)
end Go.Proofs.YtjbhooodjmjdkaaGreat
/-! KF -/
namespace Go.Proofs.YtjbhooodjmjdkaaGreat
open Ev K
set_option maxRecDepth 100000
def D_chk := DecL.cons (dBulbs) (.last (dSurvey) 0)
theorem fn_check : ∀ a, (callT1 P BKM2 30 115 D_chk R_i) a = T.run (
  .br (within (Survey.id (Prod.snd a)) (1 : Int) (1099511627776 : Int)) (
    .br (within (Survey.tick (Prod.snd a)) (0 : Int) (1048576 : Int)) (
      .br (within (Survey.sag (Prod.snd a)) (0 : Int) (200 : Int)) (
        .br (spans (Survey.shown (Prod.snd a)) (0 : Int) (2000 : Int)) (
          .br (spans (Survey.m0 (Prod.snd a)) (0 : Int) (65536 : Int)) (
            .br (decide (IntKind.wrap IntKind.i64 (Span.hi (Survey.m0 (Prod.snd a)) - Span.lo (Survey.m0 (Prod.snd a))) < (400 : Int))) (
              .br (spans (Survey.m1 (Prod.snd a)) (0 : Int) (65536 : Int)) (
                .br (decide (IntKind.wrap IntKind.i64 (Span.hi (Survey.m1 (Prod.snd a)) - Span.lo (Survey.m1 (Prod.snd a))) < (400 : Int))) (
                  .br (spans (Survey.m2 (Prod.snd a)) (0 : Int) (65536 : Int)) (
                    .br (decide (IntKind.wrap IntKind.i64 (Span.hi (Survey.m2 (Prod.snd a)) - Span.lo (Survey.m2 (Prod.snd a))) < (400 : Int))) (
                      .br (spans (Survey.m3 (Prod.snd a)) (0 : Int) (65536 : Int)) (
                        .br (decide (IntKind.wrap IntKind.i64 (Span.hi (Survey.m3 (Prod.snd a)) - Span.lo (Survey.m3 (Prod.snd a))) < (400 : Int))) (
                          .br (spans (Survey.m4 (Prod.snd a)) (0 : Int) (65536 : Int)) (
                            .br (decide (IntKind.wrap IntKind.i64 (Span.hi (Survey.m4 (Prod.snd a)) - Span.lo (Survey.m4 (Prod.snd a))) < (400 : Int))) (
                              .br (spans (Survey.m5 (Prod.snd a)) (0 : Int) (65536 : Int)) (
                                .br (!decide (IntKind.wrap IntKind.i64 (Span.hi (Survey.m5 (Prod.snd a)) - Span.lo (Survey.m5 (Prod.snd a))) < (400 : Int))) (
                                  .ret ((1 : Int))) (
                                  .br (Prod.snd (density a) != (0 : Int)) (
                                    .ret (Prod.snd (density a))) (
                                    .br (!Prod.snd (extremes (Prod.snd a))) (
                                      .ret ((9 : Int))) (
                                      .ret ((0 : Int)))))) (
                                .ret ((1 : Int)))) (
                              .ret ((1 : Int)))) (
                            .ret ((1 : Int)))) (
                          .ret ((1 : Int)))) (
                        .ret ((1 : Int)))) (
                      .ret ((1 : Int)))) (
                    .ret ((1 : Int)))) (
                  .ret ((1 : Int)))) (
                .ret ((1 : Int)))) (
              .ret ((1 : Int)))) (
            .ret ((1 : Int)))) (
          .ret ((1 : Int)))) (
        .ret ((1 : Int)))) (
      .ret ((1 : Int)))) (
    .ret ((1 : Int)))) := fun a => by kernel_rfl
noncomputable def K.check (a : Bulbs × Survey) : Int := (if (within (Survey.id (Prod.snd a)) (1 : Int) (1099511627776 : Int)) = true then (if (within (Survey.tick (Prod.snd a)) (0 : Int) (1048576 : Int)) = true then (if (within (Survey.sag (Prod.snd a)) (0 : Int) (200 : Int)) = true then (if (spans (Survey.shown (Prod.snd a)) (0 : Int) (2000 : Int)) = true then (if (spans (Survey.m0 (Prod.snd a)) (0 : Int) (65536 : Int)) = true then (if (decide (IntKind.wrap IntKind.i64 (Span.hi (Survey.m0 (Prod.snd a)) - Span.lo (Survey.m0 (Prod.snd a))) < (400 : Int))) = true then (if (spans (Survey.m1 (Prod.snd a)) (0 : Int) (65536 : Int)) = true then (if (decide (IntKind.wrap IntKind.i64 (Span.hi (Survey.m1 (Prod.snd a)) - Span.lo (Survey.m1 (Prod.snd a))) < (400 : Int))) = true then (if (spans (Survey.m2 (Prod.snd a)) (0 : Int) (65536 : Int)) = true then (if (decide (IntKind.wrap IntKind.i64 (Span.hi (Survey.m2 (Prod.snd a)) - Span.lo (Survey.m2 (Prod.snd a))) < (400 : Int))) = true then (if (spans (Survey.m3 (Prod.snd a)) (0 : Int) (65536 : Int)) = true then (if (decide (IntKind.wrap IntKind.i64 (Span.hi (Survey.m3 (Prod.snd a)) - Span.lo (Survey.m3 (Prod.snd a))) < (400 : Int))) = true then (if (spans (Survey.m4 (Prod.snd a)) (0 : Int) (65536 : Int)) = true then (if (decide (IntKind.wrap IntKind.i64 (Span.hi (Survey.m4 (Prod.snd a)) - Span.lo (Survey.m4 (Prod.snd a))) < (400 : Int))) = true then (if (spans (Survey.m5 (Prod.snd a)) (0 : Int) (65536 : Int)) = true then (if (!decide (IntKind.wrap IntKind.i64 (Span.hi (Survey.m5 (Prod.snd a)) - Span.lo (Survey.m5 (Prod.snd a))) < (400 : Int))) = true then (1 : Int) else (if (Prod.snd (density a) != (0 : Int)) = true then Prod.snd (density a) else (if (!Prod.snd (extremes (Prod.snd a))) = true then (9 : Int) else (0 : Int)))) else (1 : Int)) else (1 : Int)) else (1 : Int)) else (1 : Int)) else (1 : Int)) else (1 : Int)) else (1 : Int)) else (1 : Int)) else (1 : Int)) else (1 : Int)) else (1 : Int)) else (1 : Int)) else (1 : Int)) else (1 : Int)) else (1 : Int))
theorem eq_check (a : Bulbs × Survey) : (callT1 P BKM2 30 115 D_chk R_i) a = some (K.check a) := (fn_check a).trans (T.br_some (T.br_some (T.br_some (T.br_some (T.br_some (T.br_some (T.br_some (T.br_some (T.br_some (T.br_some (T.br_some (T.br_some (T.br_some (T.br_some (T.br_some (T.br_some rfl (T.br_some rfl (T.br_some rfl rfl))) rfl) rfl) rfl) rfl) rfl) rfl) rfl) rfl) rfl) rfl) rfl) rfl) rfl) rfl) rfl)
noncomputable def BKF1 : Tab := BKM2.addCall 115 (callE D_chk R_i (fun a => .ret (K.check a)))
theorem tKF1 : TabOk P BKF1 := TabOk.addFn (d := 30) okP tKM2 (fun a r h => by rw [eq_check]; exact congrArg some (ret_some h))
theorem fn_Check : ∀ a, (callT1 P BKF1 30 92 D_chk R_i) a = T.run (
  .br (CheckBulbs (Prod.fst a) != (0 : Int)) (
    .ret (CheckBulbs (Prod.fst a))) (
    .ret (check a))) := fun a => by kernel_rfl
noncomputable def K.Check (a : Bulbs × Survey) : Int := (if (CheckBulbs (Prod.fst a) != (0 : Int)) = true then CheckBulbs (Prod.fst a) else check a)
theorem eq_Check (a : Bulbs × Survey) : (callT1 P BKF1 30 92 D_chk R_i) a = some (K.Check a) := (fn_Check a).trans (T.br_some rfl rfl)
noncomputable def BKF2 : Tab := BKF1.addCall 92 (callE D_chk R_i (fun a => .ret (K.Check a)))
theorem tKF2 : TabOk P BKF2 := TabOk.addFn (d := 30) okP tKF1 (fun a r h => by rw [eq_Check]; exact congrArg some (ret_some h))
end Go.Proofs.YtjbhooodjmjdkaaGreat
/-! KQ -/
namespace Go.Proofs.YtjbhooodjmjdkaaGreat
open Ev K
set_option maxRecDepth 100000
def dSix : Dec (Int × Int × Int × Int × Int × Int) := dAgg (.cons (dI .i64) (.cons (dI .i64) (.cons (dI .i64) (.cons (dI .i64) (.cons (dI .i64) (.last (dI .i64) 0))))))
theorem fn_Sixteen : ∀ a, (callT1 P BKF2 30 37 D_chk R_off) a = T.run (
  .br (Check a != (0 : Int)) (
    .ret ((Span.mk (0 : Int) (0 : Int), Check a))) (
    .ret ((Span.mk (sums16 (Prod.fst (Prod.fst (extremes (Prod.snd a))))) (sums16 (Prod.snd (Prod.fst (extremes (Prod.snd a))))), (0 : Int))))) := fun a => by kernel_rfl
noncomputable def K.Sixteen (a : Bulbs × Survey) : Span × Int := (if (Check a != (0 : Int)) = true then (Span.mk (0 : Int) (0 : Int), Check a) else (Span.mk (sums16 (Prod.fst (Prod.fst (extremes (Prod.snd a))))) (sums16 (Prod.snd (Prod.fst (extremes (Prod.snd a))))), (0 : Int)))
theorem eq_Sixteen (a : Bulbs × Survey) : (callT1 P BKF2 30 37 D_chk R_off) a = some (K.Sixteen a) := (fn_Sixteen a).trans (T.br_some rfl rfl)
noncomputable def BKQ1 : Tab := BKF2.addCall 37 (callE D_chk R_off (fun a => .ret (K.Sixteen a)))
theorem tKQ1 : TabOk P BKQ1 := TabOk.addFn (d := 30) okP tKF2 (fun a r h => by rw [eq_Sixteen]; exact congrArg some (ret_some h))
def D_bulbs := DecL.last dBulbs 0
theorem fn_few : ∀ a, (callT1 P BKQ1 30 10 D_bulbs dB) a = T.run (
  .br (decide ((↑(len (Bulbs.hydros a)) : Int) ≤ (12 : Int))) (
    .ret (decide ((↑(len (Bulbs.glasses a)) : Int) ≤ (60 : Int)))) (
    .ret (false))) := fun a => by kernel_rfl
noncomputable def K.few (a : Bulbs) : Bool := (if (decide ((↑(len (Bulbs.hydros a)) : Int) ≤ (12 : Int))) = true then decide ((↑(len (Bulbs.glasses a)) : Int) ≤ (60 : Int)) else false)
theorem eq_few (a : Bulbs) : (callT1 P BKQ1 30 10 D_bulbs dB) a = some (K.few a) := (fn_few a).trans (T.br_some rfl rfl)
noncomputable def BKQ2 : Tab := BKQ1.addCall 10 (callE D_bulbs dB (fun a => .ret (K.few a)))
theorem tKQ2 : TabOk P BKQ2 := TabOk.addFn (d := 30) okP tKQ1 (fun a r h => by rw [eq_few]; exact congrArg some (ret_some h))
theorem fn_ship : ∀ a, (callT1 P BKQ2 30 9 D_ship dB) a = T.run (
  .br (decide ((↑(len (Ship.holds a)) : Int) ≤ (12 : Int))) (
    .br (decide ((↑(len (Curve.knots (Ship.mean a))) : Int) ≤ (60 : Int))) (
      .ret (decide ((↑(len (Curve.knots (Ship.mc a))) : Int) ≤ (60 : Int)))) (
      .ret (false))) (
    .ret (false))) := fun a => by kernel_rfl
noncomputable def K.ship (a : Ship) : Bool := (if (decide ((↑(len (Ship.holds a)) : Int) ≤ (12 : Int))) = true then (if (decide ((↑(len (Curve.knots (Ship.mean a))) : Int) ≤ (60 : Int))) = true then decide ((↑(len (Curve.knots (Ship.mc a))) : Int) ≤ (60 : Int)) else false) else false)
theorem eq_ship (a : Ship) : (callT1 P BKQ2 30 9 D_ship dB) a = some (K.ship a) := (fn_ship a).trans (T.br_some (T.br_some rfl rfl) rfl)
noncomputable def BKQ3 : Tab := BKQ2.addCall 9 (callE D_ship dB (fun a => .ret (K.ship a)))
theorem tKQ3 : TabOk P BKQ3 := TabOk.addFn (d := 30) okP tKQ2 (fun a r h => by rw [eq_ship]; exact congrArg some (ret_some h))
end Go.Proofs.YtjbhooodjmjdkaaGreat
/-! KJ -/
namespace Go.Proofs.YtjbhooodjmjdkaaGreat
open Ev K
set_option maxRecDepth 100000
def D_none := DecL.tops 0
theorem head_run : callT1 P BKQ3 30 8 D_none dB () = some true := by kernel_rfl
noncomputable def BKJ1 : Tab := BKQ3.addCall 8 (callE D_none dB (fun _ => .ret true))
theorem tKJ1 : TabOk P BKJ1 := TabOk.addFn (d := 30) okP tKQ3 (fun a r h => by cases ret_some h; exact head_run)
end Go.Proofs.YtjbhooodjmjdkaaGreat
/-! Shelf -/
namespace Go.Proofs
open Go.Shelf
def Tryz.lays189_ren : Go.Shelf.Ren := ⟨fun | 189 => 60 | 125 => 124 | 257 => 123 | 128 => 178 | 129 => 179 | 294 => 169 | 295 => 170 | 296 => 171 | 297 => 172 | 298 => 173 | 299 => 174 | 216 => 175 | 300 => 176 | 301 => 177 | 328 => 207 | 329 => 208 | 330 => 209 | 331 => 210 | 332 => 211 | 215 => 188 | 343 => 223 | n => n, fun | 28 => 49 | 3 => 3 | 46 => 190 | 0 => 0 | 51 => 229 | 53 => 231 | 4 => 4 | 183 => 222 | 182 => 221 | 131 => 226 | 5 => 5 | 9 => 9 | 218 => 250 | 222 => 254 | 228 => 266 | 229 => 117 | n => n, fun | n => n⟩
theorem Tryz.lays189 : Go.Proofs.Lays.n189 Tryz.prog Tryz.lays189_ren := {
  mixed := by kernel_rfl
  f125 := Tryz.func124.trans (congrArg some (by kernel_rfl))
  f128 := Tryz.func178.trans (congrArg some (by kernel_rfl))
  f129 := Tryz.func179.trans (congrArg some (by kernel_rfl))
  f189 := Tryz.func60.trans (congrArg some (by kernel_rfl))
  f215 := Tryz.func188.trans (congrArg some (by kernel_rfl))
  f216 := Tryz.func175.trans (congrArg some (by kernel_rfl))
  f257 := Tryz.func123.trans (congrArg some (by kernel_rfl))
  f294 := Tryz.func169.trans (congrArg some (by kernel_rfl))
  f295 := Tryz.func170.trans (congrArg some (by kernel_rfl))
  f296 := Tryz.func171.trans (congrArg some (by kernel_rfl))
  f297 := Tryz.func172.trans (congrArg some (by kernel_rfl))
  f298 := Tryz.func173.trans (congrArg some (by kernel_rfl))
  f299 := Tryz.func174.trans (congrArg some (by kernel_rfl))
  f300 := Tryz.func176.trans (congrArg some (by kernel_rfl))
  f301 := Tryz.func177.trans (congrArg some (by kernel_rfl))
  f328 := Tryz.func207.trans (congrArg some (by kernel_rfl))
  f329 := Tryz.func208.trans (congrArg some (by kernel_rfl))
  f330 := Tryz.func209.trans (congrArg some (by kernel_rfl))
  f331 := Tryz.func210.trans (congrArg some (by kernel_rfl))
  f332 := Tryz.func211.trans (congrArg some (by kernel_rfl))
  f343 := Tryz.func223.trans (congrArg some (by kernel_rfl))
  t0 := Tryz.underlying0
  a0 := Tryz.isAgg0
  z0 := Tryz.sizeOf0
  v0 := Tryz.zeroValue0
  t3 := Tryz.underlying3
  a3 := Tryz.isAgg3
  z3 := Tryz.sizeOf3
  v3 := Tryz.zeroValue3
  t4 := Tryz.underlying4
  a4 := Tryz.isAgg4
  z4 := Tryz.sizeOf4
  v4 := Tryz.zeroValue4
  t5 := Tryz.underlying5
  a5 := Tryz.isAgg5
  z5 := Tryz.sizeOf5
  v5 := Tryz.zeroValue5
  t9 := Tryz.underlying9
  a9 := Tryz.isAgg9
  z9 := Tryz.sizeOf9
  v9 := Tryz.zeroValue9
  t28 := Tryz.underlying49
  a28 := Tryz.isAgg49
  z28 := Tryz.sizeOf49
  v28 := Tryz.zeroValue49
  t46 := Tryz.underlying190
  a46 := Tryz.isAgg190
  z46 := Tryz.sizeOf190
  v46 := Tryz.zeroValue190
  t51 := Tryz.underlying229
  a51 := Tryz.isAgg229
  z51 := Tryz.sizeOf229
  v51 := Tryz.zeroValue229
  t53 := Tryz.underlying231
  a53 := Tryz.isAgg231
  z53 := Tryz.sizeOf231
  v53 := Tryz.zeroValue231
  t131 := Tryz.underlying226
  a131 := Tryz.isAgg226
  z131 := Tryz.sizeOf226
  v131 := Tryz.zeroValue226
  t182 := Tryz.underlying221
  a182 := Tryz.isAgg221
  z182 := Tryz.sizeOf221
  v182 := Tryz.zeroValue221
  t183 := Tryz.underlying222
  a183 := Tryz.isAgg222
  z183 := Tryz.sizeOf222
  v183 := Tryz.zeroValue222
  t218 := Tryz.underlying250
  a218 := Tryz.isAgg250
  z218 := Tryz.sizeOf250
  v218 := Tryz.zeroValue250
  t222 := Tryz.underlying254
  a222 := Tryz.isAgg254
  z222 := Tryz.sizeOf254
  v222 := Tryz.zeroValue254
  t228 := Tryz.underlying266
  a228 := Tryz.isAgg266
  z228 := Tryz.sizeOf266
  v228 := Tryz.zeroValue266
  t229 := Tryz.underlying117
  a229 := Tryz.isAgg117
  z229 := Tryz.sizeOf117
  v229 := Tryz.zeroValue117 }
def Tryz.sortF75_ren : Go.Shelf.Ren := ⟨fun | 6 => 75 | 15 => 124 | 14 => 135 | 28 => 178 | 29 => 179 | 20 => 180 | 21 => 181 | 22 => 182 | 23 => 183 | 24 => 184 | 25 => 185 | 26 => 186 | 27 => 187 | 46 => 212 | 47 => 208 | 48 => 209 | 49 => 213 | 50 => 214 | 57 => 224 | n => n, fun | 22 => 69 | 24 => 75 | 25 => 138 | 3 => 3 | 39 => 190 | 0 => 0 | 53 => 229 | 55 => 231 | 4 => 4 | 46 => 222 | 45 => 221 | 50 => 226 | 5 => 5 | 9 => 9 | 66 => 250 | 70 => 254 | 76 => 266 | 77 => 117 | n => n, fun | n => n⟩
theorem Tryz.sortF75 : Go.Proofs.SlLaysF0.n6 Tryz.prog Tryz.sortF75_ren := {
  mixed := by kernel_rfl
  f6 := ⟨Tryz.f75.name, by decide, Tryz.func75.trans (congrArg some (by kernel_rfl))⟩
  f14 := ⟨Tryz.f135.name, by decide, Tryz.func135.trans (congrArg some (by kernel_rfl))⟩
  f15 := Tryz.func124.trans (congrArg some (by kernel_rfl))
  f20 := ⟨Tryz.f180.name, by decide, Tryz.func180.trans (congrArg some (by kernel_rfl))⟩
  f21 := ⟨Tryz.f181.name, by decide, Tryz.func181.trans (congrArg some (by kernel_rfl))⟩
  f22 := ⟨Tryz.f182.name, by decide, Tryz.func182.trans (congrArg some (by kernel_rfl))⟩
  f23 := ⟨Tryz.f183.name, by decide, Tryz.func183.trans (congrArg some (by kernel_rfl))⟩
  f24 := ⟨Tryz.f184.name, by decide, Tryz.func184.trans (congrArg some (by kernel_rfl))⟩
  f25 := ⟨Tryz.f185.name, by decide, Tryz.func185.trans (congrArg some (by kernel_rfl))⟩
  f26 := ⟨Tryz.f186.name, by decide, Tryz.func186.trans (congrArg some (by kernel_rfl))⟩
  f27 := ⟨Tryz.f187.name, by decide, Tryz.func187.trans (congrArg some (by kernel_rfl))⟩
  f28 := Tryz.func178.trans (congrArg some (by kernel_rfl))
  f29 := Tryz.func179.trans (congrArg some (by kernel_rfl))
  f46 := ⟨Tryz.f212.name, by decide, Tryz.func212.trans (congrArg some (by kernel_rfl))⟩
  f47 := Tryz.func208.trans (congrArg some (by kernel_rfl))
  f48 := Tryz.func209.trans (congrArg some (by kernel_rfl))
  f49 := ⟨Tryz.f213.name, by decide, Tryz.func213.trans (congrArg some (by kernel_rfl))⟩
  f50 := ⟨Tryz.f214.name, by decide, Tryz.func214.trans (congrArg some (by kernel_rfl))⟩
  f57 := ⟨Tryz.f224.name, by decide, Tryz.func224.trans (congrArg some (by kernel_rfl))⟩
  t0 := Tryz.underlying0
  a0 := Tryz.isAgg0
  z0 := Tryz.sizeOf0
  v0 := Tryz.zeroValue0
  t3 := Tryz.underlying3
  a3 := Tryz.isAgg3
  z3 := Tryz.sizeOf3
  v3 := Tryz.zeroValue3
  t4 := Tryz.underlying4
  a4 := Tryz.isAgg4
  z4 := Tryz.sizeOf4
  v4 := Tryz.zeroValue4
  t5 := Tryz.underlying5
  a5 := Tryz.isAgg5
  z5 := Tryz.sizeOf5
  v5 := Tryz.zeroValue5
  t9 := Tryz.underlying9
  a9 := Tryz.isAgg9
  z9 := Tryz.sizeOf9
  v9 := Tryz.zeroValue9
  t22 := Tryz.underlying69
  a22 := Tryz.isAgg69
  z22 := Tryz.sizeOf69
  v22 := Tryz.zeroValue69
  t25 := Tryz.underlying138
  a25 := Tryz.isAgg138
  z25 := Tryz.sizeOf138
  v25 := Tryz.zeroValue138
  t39 := Tryz.underlying190
  a39 := Tryz.isAgg190
  z39 := Tryz.sizeOf190
  v39 := Tryz.zeroValue190
  t45 := Tryz.underlying221
  a45 := Tryz.isAgg221
  z45 := Tryz.sizeOf221
  v45 := Tryz.zeroValue221
  t46 := Tryz.underlying222
  a46 := Tryz.isAgg222
  z46 := Tryz.sizeOf222
  v46 := Tryz.zeroValue222
  t50 := Tryz.underlying226
  a50 := Tryz.isAgg226
  z50 := Tryz.sizeOf226
  v50 := Tryz.zeroValue226
  t53 := Tryz.underlying229
  a53 := Tryz.isAgg229
  z53 := Tryz.sizeOf229
  v53 := Tryz.zeroValue229
  t55 := Tryz.underlying231
  a55 := Tryz.isAgg231
  z55 := Tryz.sizeOf231
  v55 := Tryz.zeroValue231
  t66 := Tryz.underlying250
  a66 := Tryz.isAgg250
  z66 := Tryz.sizeOf250
  v66 := Tryz.zeroValue250
  t70 := Tryz.underlying254
  a70 := Tryz.isAgg254
  z70 := Tryz.sizeOf254
  v70 := Tryz.zeroValue254
  t76 := Tryz.underlying266
  a76 := Tryz.isAgg266
  z76 := Tryz.sizeOf266
  v76 := Tryz.zeroValue266
  t77 := Tryz.underlying117
  a77 := Tryz.isAgg117
  z77 := Tryz.sizeOf117
  v77 := Tryz.zeroValue117 }
end Go.Proofs
