/- Searches: slices.IndexFunc and slices.ContainsFunc with the closures of the program. No conditions. -/
import Derived.Test.YtkajafmphemedaaKA
namespace Go.Proofs.Ytkajafmphemedaa
open Ev K
/-- A closure that has caught a number; one that has caught a structure of w numbers. -/
def cNum (g : Nat) : Dec Int := dFn g (.last (dP 1 (.last (dI .i64) 0) 0) 0)
def S_hyd1 := DecS.mk1 (.cons xHydros (.cons (cNum 118) (.skips 5 (.cons (dI .i64) (.last (dI .i64) 10)))))
def X_hyd1 := DecX.or (DecX.one .ret [4] (DecS.mk1 (.skips 4 (.last (dI .i64) 14)))) (DecX.one (.exit 0) [] (DecS.mk1 (.tops 19)))
def K.p_hyd1 (c : Int) (x : XS) (i : Nat) : Bool := x.g i 0 == c
theorem sl_hyd1 : ∀ s, (loopT1 P BKA10 30 116 17 [8, 0, 1, 7] S_hyd1 X_hyd1) s = T.run (
  .br (decide (Prod.snd (Prod.snd (Prod.snd s)) < Prod.fst (Prod.snd (Prod.snd s)))) (
    .chk (decide ((0 : Int) ≤ Prod.snd (Prod.snd (Prod.snd s)) ∧ Prod.snd (Prod.snd (Prod.snd s)) < (↑(XS.len (Prod.fst s)) : Int))) <|
    .br (numOf (XS.f (Prod.fst s) (XS.row (Prod.fst s) + Int.toNat (Prod.snd (Prod.snd (Prod.snd s)))) (0 : Nat)) == Prod.fst (Prod.snd s)) (
      .ret (Sum.inr (Sum.inl (Prod.snd (Prod.snd (Prod.snd s)))))) (
      .ret (Sum.inl (Prod.fst s, Prod.fst (Prod.snd s), Prod.fst (Prod.snd (Prod.snd s)), IntKind.wrap IntKind.i64 (Prod.snd (Prod.snd (Prod.snd s)) + (1 : Int)))))) (
    .ret (Sum.inr (Sum.inr PUnit.unit)))) := fun s => by kernel_rfl
noncomputable def K.L_hyd1 := lim (loopT1 P BKA10 30 116 17 [8, 0, 1, 7] S_hyd1 X_hyd1)
theorem K.L_hyd1_eq (x : XS) (c : Int) : K.L_hyd1 (x, c, (K.len x : Int), 0) = some (match first (K.p_hyd1 c x) (K.len x) with | some i => (Sum.inl (i : Int) : Int ⊕ Unit) | none => .inr ()) := by
  have e1 := K.len_le x; have e2 := K.len_le' x
  refine lim_find (fun i => (x, c, (K.len x : Int), (i : Int))) (K.len x) (K.p_hyd1 c x) (fun i => (Sum.inl (i : Int) : Int ⊕ Unit)) (Sum.inr ()) (fun i hi hp => ?_) (fun i hi hp => ?_) ?_
  · rw [sl_hyd1]; unfold K.p_hyd1 at hp
    simp only [T.run_br, T.run_chk, T.run_ret, decide_eq_true_eq, Int.toNat_natCast]
    rw [if_pos (by omega), if_pos (by omega)]
    simp only [XS.g] at hp; rw [if_pos hp]
  · rw [sl_hyd1]; unfold K.p_hyd1 at hp
    simp only [T.run_br, T.run_chk, T.run_ret, decide_eq_true_eq, Int.toNat_natCast]
    rw [if_pos (by omega), if_pos (by omega)]
    simp only [XS.g] at hp; rw [if_neg (by simp [hp])]
    rw [w64_in (by omega) (by omega)]; simp
  · rw [sl_hyd1]
    simp only [T.run_br, T.run_chk, T.run_ret, decide_eq_true_eq]
    rw [if_neg (by omega)]
noncomputable def BKB1 : Tab := BKA10.addNode 116 17 (nodeE [8, 0, 1, 7] S_hyd1 X_hyd1 (fun s => .obs (K.L_hyd1 s) .ret))
theorem tKB1 : TabOk P BKB1 := TabOk.addLoop (d := 30) okP tKA10 (by kernel_rfl) (by kernel_rfl) (fun s r h => obs_ret h)
def D_hyd1 := DecL.cons xHydros (.last (cNum 118) 0)
theorem fn_hyd1 : ∀ a, (callT1 P BKB1 30 116 D_hyd1 (dI .i64)) a = T.run (
  .obs (L_hyd1 (Prod.fst a, Prod.snd a, (↑(clampL (XS.len (Prod.fst a))) : Int), (0 : Int))) fun x0 =>
    .sum (x0) (fun x1 =>
      .ret (x1)) (fun x1 =>
      .ret ((-1 : Int)))) := fun a => by kernel_rfl
theorem ix_hyd1 (a : XS × Int) : callT1 P BKB1 30 116 D_hyd1 (dI .i64) a = some (idx (K.p_hyd1 a.2 a.1) (K.len a.1)) := by
  rw [fn_hyd1]
  show T.run (.obs (K.L_hyd1 (a.1, a.2, (K.len a.1 : Int), 0)) _) = _
  rw [K.L_hyd1_eq]; unfold idx
  cases first (K.p_hyd1 a.2 a.1) (K.len a.1) <;> rfl
noncomputable def BKB2 : Tab := BKB1.addCall 116 (callE D_hyd1 (dI .i64) (fun a => .ret (idx (K.p_hyd1 a.2 a.1) (K.len a.1))))
theorem tKB2 : TabOk P BKB2 := TabOk.addFn (d := 30) okP tKB1 (fun a r h => by rw [ix_hyd1]; exact congrArg some (ret_some h))

def S_chk1 := DecS.mk1 (.cons xHydros (.cons (dFn 90 (.last (dP 3 lHydro 0) 0)) (.skips 5 (.cons (dI .i64) (.last (dI .i64) 10)))))
def X_chk1 := DecX.or (DecX.one .ret [4] (DecS.mk1 (.skips 4 (.last (dI .i64) 14)))) (DecX.one (.exit 0) [] (DecS.mk1 (.tops 19)))
def K.p_chk1 (c : Hydro) (x : XS) (i : Nat) : Bool := x.g i 0 == c.id
theorem sl_chk1 : ∀ s, (loopT1 P BKB2 30 116 17 [8, 0, 1, 7] S_chk1 X_chk1) s = T.run (
  .br (decide (Prod.snd (Prod.snd (Prod.snd s)) < Prod.fst (Prod.snd (Prod.snd s)))) (
    .chk (decide ((0 : Int) ≤ Prod.snd (Prod.snd (Prod.snd s)) ∧ Prod.snd (Prod.snd (Prod.snd s)) < (↑(XS.len (Prod.fst s)) : Int))) <|
    .br (numOf (XS.f (Prod.fst s) (XS.row (Prod.fst s) + Int.toNat (Prod.snd (Prod.snd (Prod.snd s)))) (0 : Nat)) == Hydro.id (Prod.fst (Prod.snd s))) (
      .ret (Sum.inr (Sum.inl (Prod.snd (Prod.snd (Prod.snd s)))))) (
      .ret (Sum.inl (Prod.fst s, Prod.fst (Prod.snd s), Prod.fst (Prod.snd (Prod.snd s)), IntKind.wrap IntKind.i64 (Prod.snd (Prod.snd (Prod.snd s)) + (1 : Int)))))) (
    .ret (Sum.inr (Sum.inr PUnit.unit)))) := fun s => by kernel_rfl
noncomputable def K.L_chk1 := lim (loopT1 P BKB2 30 116 17 [8, 0, 1, 7] S_chk1 X_chk1)
theorem K.L_chk1_eq (x : XS) (c : Hydro) : K.L_chk1 (x, c, (K.len x : Int), 0) = some (match first (K.p_chk1 c x) (K.len x) with | some i => (Sum.inl (i : Int) : Int ⊕ Unit) | none => .inr ()) := by
  have e1 := K.len_le x; have e2 := K.len_le' x
  refine lim_find (fun i => (x, c, (K.len x : Int), (i : Int))) (K.len x) (K.p_chk1 c x) (fun i => (Sum.inl (i : Int) : Int ⊕ Unit)) (Sum.inr ()) (fun i hi hp => ?_) (fun i hi hp => ?_) ?_
  · rw [sl_chk1]; unfold K.p_chk1 at hp
    simp only [T.run_br, T.run_chk, T.run_ret, decide_eq_true_eq, Int.toNat_natCast]
    rw [if_pos (by omega), if_pos (by omega)]
    simp only [XS.g] at hp; rw [if_pos hp]
  · rw [sl_chk1]; unfold K.p_chk1 at hp
    simp only [T.run_br, T.run_chk, T.run_ret, decide_eq_true_eq, Int.toNat_natCast]
    rw [if_pos (by omega), if_pos (by omega)]
    simp only [XS.g] at hp; rw [if_neg (by simp [hp])]
    rw [w64_in (by omega) (by omega)]; simp
  · rw [sl_chk1]
    simp only [T.run_br, T.run_chk, T.run_ret, decide_eq_true_eq]
    rw [if_neg (by omega)]
noncomputable def BKB3 : Tab := BKB2.addNode 116 17 (nodeE [8, 0, 1, 7] S_chk1 X_chk1 (fun s => .obs (K.L_chk1 s) .ret))
theorem tKB3 : TabOk P BKB3 := TabOk.addLoop (d := 30) okP tKB2 (by kernel_rfl) (by kernel_rfl) (fun s r h => obs_ret h)
def D_chk1 := DecL.cons xHydros (.last (dFn 90 (.last (dP 3 lHydro 0) 0)) 0)
theorem fn_chk1 : ∀ a, (callT1 P BKB3 30 116 D_chk1 (dI .i64)) a = T.run (
  .obs (L_chk1 (Prod.fst a, Prod.snd a, (↑(clampL (XS.len (Prod.fst a))) : Int), (0 : Int))) fun x0 =>
    .sum (x0) (fun x1 =>
      .ret (x1)) (fun x1 =>
      .ret ((-1 : Int)))) := fun a => by kernel_rfl
theorem ix_chk1 (a : XS × Hydro) : callT1 P BKB3 30 116 D_chk1 (dI .i64) a = some (idx (K.p_chk1 a.2 a.1) (K.len a.1)) := by
  rw [fn_chk1]
  show T.run (.obs (K.L_chk1 (a.1, a.2, (K.len a.1 : Int), 0)) _) = _
  rw [K.L_chk1_eq]; unfold idx
  cases first (K.p_chk1 a.2 a.1) (K.len a.1) <;> rfl
noncomputable def BKB4 : Tab := BKB3.addCall 116 (callE D_chk1 (dI .i64) (fun a => .ret (idx (K.p_chk1 a.2 a.1) (K.len a.1))))
theorem tKB4 : TabOk P BKB4 := TabOk.addFn (d := 30) okP tKB3 (fun a r h => by rw [ix_chk1]; exact congrArg some (ret_some h))

def S_chk2 := DecS.mk1 (.cons xHydros (.cons (dFn 91 (.last (dP 5 lGlass 0) 0)) (.skips 5 (.cons (dI .i64) (.last (dI .i64) 10)))))
def X_chk2 := DecX.or (DecX.one .ret [4] (DecS.mk1 (.skips 4 (.last (dI .i64) 14)))) (DecX.one (.exit 0) [] (DecS.mk1 (.tops 19)))
def K.p_chk2 (c : Glass) (x : XS) (i : Nat) : Bool := x.g i 0 == c.hydro
theorem sl_chk2 : ∀ s, (loopT1 P BKB4 30 116 17 [8, 0, 1, 7] S_chk2 X_chk2) s = T.run (
  .br (decide (Prod.snd (Prod.snd (Prod.snd s)) < Prod.fst (Prod.snd (Prod.snd s)))) (
    .chk (decide ((0 : Int) ≤ Prod.snd (Prod.snd (Prod.snd s)) ∧ Prod.snd (Prod.snd (Prod.snd s)) < (↑(XS.len (Prod.fst s)) : Int))) <|
    .br (numOf (XS.f (Prod.fst s) (XS.row (Prod.fst s) + Int.toNat (Prod.snd (Prod.snd (Prod.snd s)))) (0 : Nat)) == Glass.hydro (Prod.fst (Prod.snd s))) (
      .ret (Sum.inr (Sum.inl (Prod.snd (Prod.snd (Prod.snd s)))))) (
      .ret (Sum.inl (Prod.fst s, Prod.fst (Prod.snd s), Prod.fst (Prod.snd (Prod.snd s)), IntKind.wrap IntKind.i64 (Prod.snd (Prod.snd (Prod.snd s)) + (1 : Int)))))) (
    .ret (Sum.inr (Sum.inr PUnit.unit)))) := fun s => by kernel_rfl
noncomputable def K.L_chk2 := lim (loopT1 P BKB4 30 116 17 [8, 0, 1, 7] S_chk2 X_chk2)
theorem K.L_chk2_eq (x : XS) (c : Glass) : K.L_chk2 (x, c, (K.len x : Int), 0) = some (match first (K.p_chk2 c x) (K.len x) with | some i => (Sum.inl (i : Int) : Int ⊕ Unit) | none => .inr ()) := by
  have e1 := K.len_le x; have e2 := K.len_le' x
  refine lim_find (fun i => (x, c, (K.len x : Int), (i : Int))) (K.len x) (K.p_chk2 c x) (fun i => (Sum.inl (i : Int) : Int ⊕ Unit)) (Sum.inr ()) (fun i hi hp => ?_) (fun i hi hp => ?_) ?_
  · rw [sl_chk2]; unfold K.p_chk2 at hp
    simp only [T.run_br, T.run_chk, T.run_ret, decide_eq_true_eq, Int.toNat_natCast]
    rw [if_pos (by omega), if_pos (by omega)]
    simp only [XS.g] at hp; rw [if_pos hp]
  · rw [sl_chk2]; unfold K.p_chk2 at hp
    simp only [T.run_br, T.run_chk, T.run_ret, decide_eq_true_eq, Int.toNat_natCast]
    rw [if_pos (by omega), if_pos (by omega)]
    simp only [XS.g] at hp; rw [if_neg (by simp [hp])]
    rw [w64_in (by omega) (by omega)]; simp
  · rw [sl_chk2]
    simp only [T.run_br, T.run_chk, T.run_ret, decide_eq_true_eq]
    rw [if_neg (by omega)]
noncomputable def BKB5 : Tab := BKB4.addNode 116 17 (nodeE [8, 0, 1, 7] S_chk2 X_chk2 (fun s => .obs (K.L_chk2 s) .ret))
theorem tKB5 : TabOk P BKB5 := TabOk.addLoop (d := 30) okP tKB4 (by kernel_rfl) (by kernel_rfl) (fun s r h => obs_ret h)
def D_chk2 := DecL.cons xHydros (.last (dFn 91 (.last (dP 5 lGlass 0) 0)) 0)
theorem fn_chk2 : ∀ a, (callT1 P BKB5 30 116 D_chk2 (dI .i64)) a = T.run (
  .obs (L_chk2 (Prod.fst a, Prod.snd a, (↑(clampL (XS.len (Prod.fst a))) : Int), (0 : Int))) fun x0 =>
    .sum (x0) (fun x1 =>
      .ret (x1)) (fun x1 =>
      .ret ((-1 : Int)))) := fun a => by kernel_rfl
theorem ix_chk2 (a : XS × Glass) : callT1 P BKB5 30 116 D_chk2 (dI .i64) a = some (idx (K.p_chk2 a.2 a.1) (K.len a.1)) := by
  rw [fn_chk2]
  show T.run (.obs (K.L_chk2 (a.1, a.2, (K.len a.1 : Int), 0)) _) = _
  rw [K.L_chk2_eq]; unfold idx
  cases first (K.p_chk2 a.2 a.1) (K.len a.1) <;> rfl
noncomputable def BKB6 : Tab := BKB5.addCall 116 (callE D_chk2 (dI .i64) (fun a => .ret (idx (K.p_chk2 a.2 a.1) (K.len a.1))))
theorem tKB6 : TabOk P BKB6 := TabOk.addFn (d := 30) okP tKB5 (fun a r h => by rw [ix_chk2]; exact congrArg some (ret_some h))

def S_chk3 := DecS.mk1 (.cons xGlasses (.cons (dFn 93 (.last (dP 5 lGlass 0) 0)) (.skips 5 (.cons (dI .i64) (.last (dI .i64) 10)))))
def X_chk3 := DecX.or (DecX.one .ret [4] (DecS.mk1 (.skips 4 (.last (dI .i64) 14)))) (DecX.one (.exit 0) [] (DecS.mk1 (.tops 19)))
def K.p_chk3 (c : Glass) (x : XS) (i : Nat) : Bool := x.g i 0 == c.id
theorem sl_chk3 : ∀ s, (loopT1 P BKB6 30 117 17 [8, 0, 1, 7] S_chk3 X_chk3) s = T.run (
  .br (decide (Prod.snd (Prod.snd (Prod.snd s)) < Prod.fst (Prod.snd (Prod.snd s)))) (
    .chk (decide ((0 : Int) ≤ Prod.snd (Prod.snd (Prod.snd s)) ∧ Prod.snd (Prod.snd (Prod.snd s)) < (↑(XS.len (Prod.fst s)) : Int))) <|
    .br (numOf (XS.f (Prod.fst s) (XS.row (Prod.fst s) + Int.toNat (Prod.snd (Prod.snd (Prod.snd s)))) (0 : Nat)) == Glass.id (Prod.fst (Prod.snd s))) (
      .ret (Sum.inr (Sum.inl (Prod.snd (Prod.snd (Prod.snd s)))))) (
      .ret (Sum.inl (Prod.fst s, Prod.fst (Prod.snd s), Prod.fst (Prod.snd (Prod.snd s)), IntKind.wrap IntKind.i64 (Prod.snd (Prod.snd (Prod.snd s)) + (1 : Int)))))) (
    .ret (Sum.inr (Sum.inr PUnit.unit)))) := fun s => by kernel_rfl
noncomputable def K.L_chk3 := lim (loopT1 P BKB6 30 117 17 [8, 0, 1, 7] S_chk3 X_chk3)
theorem K.L_chk3_eq (x : XS) (c : Glass) : K.L_chk3 (x, c, (K.len x : Int), 0) = some (match first (K.p_chk3 c x) (K.len x) with | some i => (Sum.inl (i : Int) : Int ⊕ Unit) | none => .inr ()) := by
  have e1 := K.len_le x; have e2 := K.len_le' x
  refine lim_find (fun i => (x, c, (K.len x : Int), (i : Int))) (K.len x) (K.p_chk3 c x) (fun i => (Sum.inl (i : Int) : Int ⊕ Unit)) (Sum.inr ()) (fun i hi hp => ?_) (fun i hi hp => ?_) ?_
  · rw [sl_chk3]; unfold K.p_chk3 at hp
    simp only [T.run_br, T.run_chk, T.run_ret, decide_eq_true_eq, Int.toNat_natCast]
    rw [if_pos (by omega), if_pos (by omega)]
    simp only [XS.g] at hp; rw [if_pos hp]
  · rw [sl_chk3]; unfold K.p_chk3 at hp
    simp only [T.run_br, T.run_chk, T.run_ret, decide_eq_true_eq, Int.toNat_natCast]
    rw [if_pos (by omega), if_pos (by omega)]
    simp only [XS.g] at hp; rw [if_neg (by simp [hp])]
    rw [w64_in (by omega) (by omega)]; simp
  · rw [sl_chk3]
    simp only [T.run_br, T.run_chk, T.run_ret, decide_eq_true_eq]
    rw [if_neg (by omega)]
noncomputable def BKB7 : Tab := BKB6.addNode 117 17 (nodeE [8, 0, 1, 7] S_chk3 X_chk3 (fun s => .obs (K.L_chk3 s) .ret))
theorem tKB7 : TabOk P BKB7 := TabOk.addLoop (d := 30) okP tKB6 (by kernel_rfl) (by kernel_rfl) (fun s r h => obs_ret h)
def D_chk3 := DecL.cons xGlasses (.last (dFn 93 (.last (dP 5 lGlass 0) 0)) 0)
theorem fn_chk3 : ∀ a, (callT1 P BKB7 30 117 D_chk3 (dI .i64)) a = T.run (
  .obs (L_chk3 (Prod.fst a, Prod.snd a, (↑(clampL (XS.len (Prod.fst a))) : Int), (0 : Int))) fun x0 =>
    .sum (x0) (fun x1 =>
      .ret (x1)) (fun x1 =>
      .ret ((-1 : Int)))) := fun a => by kernel_rfl
theorem ix_chk3 (a : XS × Glass) : callT1 P BKB7 30 117 D_chk3 (dI .i64) a = some (idx (K.p_chk3 a.2 a.1) (K.len a.1)) := by
  rw [fn_chk3]
  show T.run (.obs (K.L_chk3 (a.1, a.2, (K.len a.1 : Int), 0)) _) = _
  rw [K.L_chk3_eq]; unfold idx
  cases first (K.p_chk3 a.2 a.1) (K.len a.1) <;> rfl
noncomputable def BKB8 : Tab := BKB7.addCall 117 (callE D_chk3 (dI .i64) (fun a => .ret (idx (K.p_chk3 a.2 a.1) (K.len a.1))))
theorem tKB8 : TabOk P BKB8 := TabOk.addFn (d := 30) okP tKB7 (fun a r h => by rw [ix_chk3]; exact congrArg some (ret_some h))

def S_lst1 := DecS.mk1 (.cons xSurveys (.cons (dFn 78 (.last (dP 18 lSurvey 0) 0)) (.skips 5 (.cons (dI .i64) (.last (dI .i64) 10)))))
def X_lst1 := DecX.or (DecX.one .ret [4] (DecS.mk1 (.skips 4 (.last (dI .i64) 14)))) (DecX.one (.exit 0) [] (DecS.mk1 (.tops 19)))
def K.p_lst1 (c : Survey) (x : XS) (i : Nat) : Bool := x.g i 0 == c.id
theorem sl_lst1 : ∀ s, (loopT1 P BKB8 30 108 17 [8, 0, 1, 7] S_lst1 X_lst1) s = T.run (
  .br (decide (Prod.snd (Prod.snd (Prod.snd s)) < Prod.fst (Prod.snd (Prod.snd s)))) (
    .chk (decide ((0 : Int) ≤ Prod.snd (Prod.snd (Prod.snd s)) ∧ Prod.snd (Prod.snd (Prod.snd s)) < (↑(XS.len (Prod.fst s)) : Int))) <|
    .br (numOf (XS.f (Prod.fst s) (XS.row (Prod.fst s) + Int.toNat (Prod.snd (Prod.snd (Prod.snd s)))) (0 : Nat)) == Survey.id (Prod.fst (Prod.snd s))) (
      .ret (Sum.inr (Sum.inl (Prod.snd (Prod.snd (Prod.snd s)))))) (
      .ret (Sum.inl (Prod.fst s, Prod.fst (Prod.snd s), Prod.fst (Prod.snd (Prod.snd s)), IntKind.wrap IntKind.i64 (Prod.snd (Prod.snd (Prod.snd s)) + (1 : Int)))))) (
    .ret (Sum.inr (Sum.inr PUnit.unit)))) := fun s => by kernel_rfl
noncomputable def K.L_lst1 := lim (loopT1 P BKB8 30 108 17 [8, 0, 1, 7] S_lst1 X_lst1)
theorem K.L_lst1_eq (x : XS) (c : Survey) : K.L_lst1 (x, c, (K.len x : Int), 0) = some (match first (K.p_lst1 c x) (K.len x) with | some i => (Sum.inl (i : Int) : Int ⊕ Unit) | none => .inr ()) := by
  have e1 := K.len_le x; have e2 := K.len_le' x
  refine lim_find (fun i => (x, c, (K.len x : Int), (i : Int))) (K.len x) (K.p_lst1 c x) (fun i => (Sum.inl (i : Int) : Int ⊕ Unit)) (Sum.inr ()) (fun i hi hp => ?_) (fun i hi hp => ?_) ?_
  · rw [sl_lst1]; unfold K.p_lst1 at hp
    simp only [T.run_br, T.run_chk, T.run_ret, decide_eq_true_eq, Int.toNat_natCast]
    rw [if_pos (by omega), if_pos (by omega)]
    simp only [XS.g] at hp; rw [if_pos hp]
  · rw [sl_lst1]; unfold K.p_lst1 at hp
    simp only [T.run_br, T.run_chk, T.run_ret, decide_eq_true_eq, Int.toNat_natCast]
    rw [if_pos (by omega), if_pos (by omega)]
    simp only [XS.g] at hp; rw [if_neg (by simp [hp])]
    rw [w64_in (by omega) (by omega)]; simp
  · rw [sl_lst1]
    simp only [T.run_br, T.run_chk, T.run_ret, decide_eq_true_eq]
    rw [if_neg (by omega)]
noncomputable def BKB9 : Tab := BKB8.addNode 108 17 (nodeE [8, 0, 1, 7] S_lst1 X_lst1 (fun s => .obs (K.L_lst1 s) .ret))
theorem tKB9 : TabOk P BKB9 := TabOk.addLoop (d := 30) okP tKB8 (by kernel_rfl) (by kernel_rfl) (fun s r h => obs_ret h)
def D_lst1 := DecL.cons xSurveys (.last (dFn 78 (.last (dP 18 lSurvey 0) 0)) 0)
theorem fn_lst1 : ∀ a, (callT1 P BKB9 30 108 D_lst1 (dI .i64)) a = T.run (
  .obs (L_lst1 (Prod.fst a, Prod.snd a, (↑(clampL (XS.len (Prod.fst a))) : Int), (0 : Int))) fun x0 =>
    .sum (x0) (fun x1 =>
      .ret (x1)) (fun x1 =>
      .ret ((-1 : Int)))) := fun a => by kernel_rfl
theorem ix_lst1 (a : XS × Survey) : callT1 P BKB9 30 108 D_lst1 (dI .i64) a = some (idx (K.p_lst1 a.2 a.1) (K.len a.1)) := by
  rw [fn_lst1]
  show T.run (.obs (K.L_lst1 (a.1, a.2, (K.len a.1 : Int), 0)) _) = _
  rw [K.L_lst1_eq]; unfold idx
  cases first (K.p_lst1 a.2 a.1) (K.len a.1) <;> rfl
noncomputable def BKB10 : Tab := BKB9.addCall 108 (callE D_lst1 (dI .i64) (fun a => .ret (idx (K.p_lst1 a.2 a.1) (K.len a.1))))
theorem tKB10 : TabOk P BKB10 := TabOk.addFn (d := 30) okP tKB9 (fun a r h => by rw [ix_lst1]; exact congrArg some (ret_some h))

def S_hul1 := DecS.mk1 (.cons xHolds (.cons (dFn 82 (.last (dP 4 lHold 0) 0)) (.skips 5 (.cons (dI .i64) (.last (dI .i64) 10)))))
def X_hul1 := DecX.or (DecX.one .ret [4] (DecS.mk1 (.skips 4 (.last (dI .i64) 14)))) (DecX.one (.exit 0) [] (DecS.mk1 (.tops 19)))
def K.p_hul1 (c : Hold) (x : XS) (i : Nat) : Bool := x.g i 0 == c.id
theorem sl_hul1 : ∀ s, (loopT1 P BKB10 30 110 17 [8, 0, 1, 7] S_hul1 X_hul1) s = T.run (
  .br (decide (Prod.snd (Prod.snd (Prod.snd s)) < Prod.fst (Prod.snd (Prod.snd s)))) (
    .chk (decide ((0 : Int) ≤ Prod.snd (Prod.snd (Prod.snd s)) ∧ Prod.snd (Prod.snd (Prod.snd s)) < (↑(XS.len (Prod.fst s)) : Int))) <|
    .br (numOf (XS.f (Prod.fst s) (XS.row (Prod.fst s) + Int.toNat (Prod.snd (Prod.snd (Prod.snd s)))) (0 : Nat)) == Hold.id (Prod.fst (Prod.snd s))) (
      .ret (Sum.inr (Sum.inl (Prod.snd (Prod.snd (Prod.snd s)))))) (
      .ret (Sum.inl (Prod.fst s, Prod.fst (Prod.snd s), Prod.fst (Prod.snd (Prod.snd s)), IntKind.wrap IntKind.i64 (Prod.snd (Prod.snd (Prod.snd s)) + (1 : Int)))))) (
    .ret (Sum.inr (Sum.inr PUnit.unit)))) := fun s => by kernel_rfl
noncomputable def K.L_hul1 := lim (loopT1 P BKB10 30 110 17 [8, 0, 1, 7] S_hul1 X_hul1)
theorem K.L_hul1_eq (x : XS) (c : Hold) : K.L_hul1 (x, c, (K.len x : Int), 0) = some (match first (K.p_hul1 c x) (K.len x) with | some i => (Sum.inl (i : Int) : Int ⊕ Unit) | none => .inr ()) := by
  have e1 := K.len_le x; have e2 := K.len_le' x
  refine lim_find (fun i => (x, c, (K.len x : Int), (i : Int))) (K.len x) (K.p_hul1 c x) (fun i => (Sum.inl (i : Int) : Int ⊕ Unit)) (Sum.inr ()) (fun i hi hp => ?_) (fun i hi hp => ?_) ?_
  · rw [sl_hul1]; unfold K.p_hul1 at hp
    simp only [T.run_br, T.run_chk, T.run_ret, decide_eq_true_eq, Int.toNat_natCast]
    rw [if_pos (by omega), if_pos (by omega)]
    simp only [XS.g] at hp; rw [if_pos hp]
  · rw [sl_hul1]; unfold K.p_hul1 at hp
    simp only [T.run_br, T.run_chk, T.run_ret, decide_eq_true_eq, Int.toNat_natCast]
    rw [if_pos (by omega), if_pos (by omega)]
    simp only [XS.g] at hp; rw [if_neg (by simp [hp])]
    rw [w64_in (by omega) (by omega)]; simp
  · rw [sl_hul1]
    simp only [T.run_br, T.run_chk, T.run_ret, decide_eq_true_eq]
    rw [if_neg (by omega)]
noncomputable def BKB11 : Tab := BKB10.addNode 110 17 (nodeE [8, 0, 1, 7] S_hul1 X_hul1 (fun s => .obs (K.L_hul1 s) .ret))
theorem tKB11 : TabOk P BKB11 := TabOk.addLoop (d := 30) okP tKB10 (by kernel_rfl) (by kernel_rfl) (fun s r h => obs_ret h)
def D_hul1 := DecL.cons xHolds (.last (dFn 82 (.last (dP 4 lHold 0) 0)) 0)
theorem fn_hul1 : ∀ a, (callT1 P BKB11 30 110 D_hul1 (dI .i64)) a = T.run (
  .obs (L_hul1 (Prod.fst a, Prod.snd a, (↑(clampL (XS.len (Prod.fst a))) : Int), (0 : Int))) fun x0 =>
    .sum (x0) (fun x1 =>
      .ret (x1)) (fun x1 =>
      .ret ((-1 : Int)))) := fun a => by kernel_rfl
theorem ix_hul1 (a : XS × Hold) : callT1 P BKB11 30 110 D_hul1 (dI .i64) a = some (idx (K.p_hul1 a.2 a.1) (K.len a.1)) := by
  rw [fn_hul1]
  show T.run (.obs (K.L_hul1 (a.1, a.2, (K.len a.1 : Int), 0)) _) = _
  rw [K.L_hul1_eq]; unfold idx
  cases first (K.p_hul1 a.2 a.1) (K.len a.1) <;> rfl
noncomputable def BKB12 : Tab := BKB11.addCall 110 (callE D_hul1 (dI .i64) (fun a => .ret (idx (K.p_hul1 a.2 a.1) (K.len a.1))))
theorem tKB12 : TabOk P BKB12 := TabOk.addFn (d := 30) okP tKB11 (fun a r h => by rw [ix_hul1]; exact congrArg some (ret_some h))

def S_tab1 := DecS.mk1 (.cons xKnots (.cons (dFn 115 (.tops 0)) (.skips 5 (.cons (dI .i64) (.last (dI .i64) 10)))))
def X_tab1 := DecX.or (DecX.one .ret [4] (DecS.mk1 (.skips 4 (.last (dI .i64) 14)))) (DecX.one (.exit 0) [] (DecS.mk1 (.tops 19)))
def K.p_tab1 (c : Unit) (x : XS) (i : Nat) : Bool := decide (x.g i 1 < 0)
theorem sl_tab1 : ∀ s, (loopT1 P BKB12 30 126 17 [8, 0, 1, 7] S_tab1 X_tab1) s = T.run (
  .br (decide (Prod.snd (Prod.snd (Prod.snd s)) < Prod.fst (Prod.snd (Prod.snd s)))) (
    .chk (decide ((0 : Int) ≤ Prod.snd (Prod.snd (Prod.snd s)) ∧ Prod.snd (Prod.snd (Prod.snd s)) < (↑(XS.len (Prod.fst s)) : Int))) <|
    .br (decide (numOf (XS.f (Prod.fst s) (XS.row (Prod.fst s) + Int.toNat (Prod.snd (Prod.snd (Prod.snd s)))) (nat_lit 1)) < (0 : Int))) (
      .ret (Sum.inr (Sum.inl (Prod.snd (Prod.snd (Prod.snd s)))))) (
      .ret (Sum.inl (Prod.fst s, PUnit.unit, Prod.fst (Prod.snd (Prod.snd s)), IntKind.wrap IntKind.i64 (Prod.snd (Prod.snd (Prod.snd s)) + (1 : Int)))))) (
    .ret (Sum.inr (Sum.inr PUnit.unit)))) := fun s => by kernel_rfl
noncomputable def K.L_tab1 := lim (loopT1 P BKB12 30 126 17 [8, 0, 1, 7] S_tab1 X_tab1)
theorem K.L_tab1_eq (x : XS) (c : Unit) : K.L_tab1 (x, c, (K.len x : Int), 0) = some (match first (K.p_tab1 c x) (K.len x) with | some i => (Sum.inl (i : Int) : Int ⊕ Unit) | none => .inr ()) := by
  have e1 := K.len_le x; have e2 := K.len_le' x
  refine lim_find (fun i => (x, c, (K.len x : Int), (i : Int))) (K.len x) (K.p_tab1 c x) (fun i => (Sum.inl (i : Int) : Int ⊕ Unit)) (Sum.inr ()) (fun i hi hp => ?_) (fun i hi hp => ?_) ?_
  · rw [sl_tab1]; unfold K.p_tab1 at hp
    simp only [T.run_br, T.run_chk, T.run_ret, decide_eq_true_eq, Int.toNat_natCast]
    rw [if_pos (by omega), if_pos (by omega)]
    rw [if_pos (show numOf (x.f (x.row + i) 1) < 0 from of_decide_eq_true hp)]
  · rw [sl_tab1]; unfold K.p_tab1 at hp
    simp only [T.run_br, T.run_chk, T.run_ret, decide_eq_true_eq, Int.toNat_natCast]
    rw [if_pos (by omega), if_pos (by omega)]
    rw [if_neg (show ¬ numOf (x.f (x.row + i) 1) < 0 from of_decide_eq_false hp)]
    rw [w64_in (by omega) (by omega)]; simp
  · rw [sl_tab1]
    simp only [T.run_br, T.run_chk, T.run_ret, decide_eq_true_eq]
    rw [if_neg (by omega)]
noncomputable def BKB13 : Tab := BKB12.addNode 126 17 (nodeE [8, 0, 1, 7] S_tab1 X_tab1 (fun s => .obs (K.L_tab1 s) .ret))
theorem tKB13 : TabOk P BKB13 := TabOk.addLoop (d := 30) okP tKB12 (by kernel_rfl) (by kernel_rfl) (fun s r h => obs_ret h)
def D_tab1 := DecL.cons xKnots (.last (dFn 115 (.tops 0)) 0)
theorem fn_tab1 : ∀ a, (callT1 P BKB13 30 126 D_tab1 (dI .i64)) a = T.run (
  .obs (L_tab1 (Prod.fst a, PUnit.unit, (↑(clampL (XS.len (Prod.fst a))) : Int), (0 : Int))) fun x0 =>
    .sum (x0) (fun x1 =>
      .ret (x1)) (fun x1 =>
      .ret ((-1 : Int)))) := fun a => by kernel_rfl
theorem ix_tab1 (a : XS × Unit) : callT1 P BKB13 30 126 D_tab1 (dI .i64) a = some (idx (K.p_tab1 a.2 a.1) (K.len a.1)) := by
  rw [fn_tab1]
  show T.run (.obs (K.L_tab1 (a.1, a.2, (K.len a.1 : Int), 0)) _) = _
  rw [K.L_tab1_eq]; unfold idx
  cases first (K.p_tab1 a.2 a.1) (K.len a.1) <;> rfl
noncomputable def BKB14 : Tab := BKB13.addCall 126 (callE D_tab1 (dI .i64) (fun a => .ret (idx (K.p_tab1 a.2 a.1) (K.len a.1))))
theorem tKB14 : TabOk P BKB14 := TabOk.addFn (d := 30) okP tKB13 (fun a r h => by rw [ix_tab1]; exact congrArg some (ret_some h))

def R_find_hyd1 := dTup (.cons dHydro (.last (dI .i64) 0))
theorem fd_hyd1 : ∀ a, (callT1 P BKB14 30 89 D_hyd1 R_find_hyd1) a = T.run (
  .br (decide (idx (p_hyd1 (Prod.snd a) (Prod.fst a)) (len (Prod.fst a)) < (0 : Int))) (
    .ret ((Hydro.mk (0 : Int) (Span.mk (0 : Int) (0 : Int)), (-1 : Int)))) (
    .chk (decide ((0 : Int) ≤ idx (p_hyd1 (Prod.snd a) (Prod.fst a)) (len (Prod.fst a)) ∧ idx (p_hyd1 (Prod.snd a) (Prod.fst a)) (len (Prod.fst a)) < (↑(XS.len (Prod.fst a)) : Int))) <|
    .ret ((Hydro.mk (numOf (XS.f (Prod.fst a) (XS.row (Prod.fst a) + Int.toNat (idx (p_hyd1 (Prod.snd a) (Prod.fst a)) (len (Prod.fst a)))) (0 : Nat))) (Span.mk (numOf (XS.f (Prod.fst a) (XS.row (Prod.fst a) + Int.toNat (idx (p_hyd1 (Prod.snd a) (Prod.fst a)) (len (Prod.fst a)))) (nat_lit 1))) (numOf (XS.f (Prod.fst a) (XS.row (Prod.fst a) + Int.toNat (idx (p_hyd1 (Prod.snd a) (Prod.fst a)) (len (Prod.fst a)))) (nat_lit 2)))), idx (p_hyd1 (Prod.snd a) (Prod.fst a)) (len (Prod.fst a)))))) := fun a => by kernel_rfl
def K.find_hyd1 (c : Int) (x : XS) : Hydro × Int := found (hyd x) ⟨0, ⟨0, 0⟩⟩ (K.p_hyd1 c x) (K.len x)
theorem K.find_hyd1_eq (a : XS × Int) : callT1 P BKB14 30 89 D_hyd1 R_find_hyd1 a = some (K.find_hyd1 a.2 a.1) := by
  rw [fd_hyd1]; unfold K.find_hyd1 found idx
  cases h : first (K.p_hyd1 a.2 a.1) (K.len a.1) with
  | none => rfl
  | some i =>
    have h1 := (first_spec h).1; have h2 := K.len_le' a.1
    simp only [T.run_br, T.run_chk, T.run_ret, decide_eq_true_eq]
    rw [if_neg (by omega), if_pos (by omega)]; rfl
noncomputable def BKB15 : Tab := BKB14.addCall 89 (callE D_hyd1 R_find_hyd1 (fun a => .ret (K.find_hyd1 a.2 a.1)))
theorem tKB15 : TabOk P BKB15 := TabOk.addFn (d := 30) okP tKB14 (fun a r h => by rw [K.find_hyd1_eq]; exact congrArg some (ret_some h))

def R_find_chk1 := dTup (.cons dHydro (.last (dI .i64) 0))
theorem fd_chk1 : ∀ a, (callT1 P BKB15 30 89 D_chk1 R_find_chk1) a = T.run (
  .br (decide (idx (p_chk1 (Prod.snd a) (Prod.fst a)) (len (Prod.fst a)) < (0 : Int))) (
    .ret ((Hydro.mk (0 : Int) (Span.mk (0 : Int) (0 : Int)), (-1 : Int)))) (
    .chk (decide ((0 : Int) ≤ idx (p_chk1 (Prod.snd a) (Prod.fst a)) (len (Prod.fst a)) ∧ idx (p_chk1 (Prod.snd a) (Prod.fst a)) (len (Prod.fst a)) < (↑(XS.len (Prod.fst a)) : Int))) <|
    .ret ((Hydro.mk (numOf (XS.f (Prod.fst a) (XS.row (Prod.fst a) + Int.toNat (idx (p_chk1 (Prod.snd a) (Prod.fst a)) (len (Prod.fst a)))) (0 : Nat))) (Span.mk (numOf (XS.f (Prod.fst a) (XS.row (Prod.fst a) + Int.toNat (idx (p_chk1 (Prod.snd a) (Prod.fst a)) (len (Prod.fst a)))) (nat_lit 1))) (numOf (XS.f (Prod.fst a) (XS.row (Prod.fst a) + Int.toNat (idx (p_chk1 (Prod.snd a) (Prod.fst a)) (len (Prod.fst a)))) (nat_lit 2)))), idx (p_chk1 (Prod.snd a) (Prod.fst a)) (len (Prod.fst a)))))) := fun a => by kernel_rfl
def K.find_chk1 (c : Hydro) (x : XS) : Hydro × Int := found (hyd x) ⟨0, ⟨0, 0⟩⟩ (K.p_chk1 c x) (K.len x)
theorem K.find_chk1_eq (a : XS × Hydro) : callT1 P BKB15 30 89 D_chk1 R_find_chk1 a = some (K.find_chk1 a.2 a.1) := by
  rw [fd_chk1]; unfold K.find_chk1 found idx
  cases h : first (K.p_chk1 a.2 a.1) (K.len a.1) with
  | none => rfl
  | some i =>
    have h1 := (first_spec h).1; have h2 := K.len_le' a.1
    simp only [T.run_br, T.run_chk, T.run_ret, decide_eq_true_eq]
    rw [if_neg (by omega), if_pos (by omega)]; rfl
noncomputable def BKB16 : Tab := BKB15.addCall 89 (callE D_chk1 R_find_chk1 (fun a => .ret (K.find_chk1 a.2 a.1)))
theorem tKB16 : TabOk P BKB16 := TabOk.addFn (d := 30) okP tKB15 (fun a r h => by rw [K.find_chk1_eq]; exact congrArg some (ret_some h))

def R_find_chk2 := dTup (.cons dHydro (.last (dI .i64) 0))
theorem fd_chk2 : ∀ a, (callT1 P BKB16 30 89 D_chk2 R_find_chk2) a = T.run (
  .br (decide (idx (p_chk2 (Prod.snd a) (Prod.fst a)) (len (Prod.fst a)) < (0 : Int))) (
    .ret ((Hydro.mk (0 : Int) (Span.mk (0 : Int) (0 : Int)), (-1 : Int)))) (
    .chk (decide ((0 : Int) ≤ idx (p_chk2 (Prod.snd a) (Prod.fst a)) (len (Prod.fst a)) ∧ idx (p_chk2 (Prod.snd a) (Prod.fst a)) (len (Prod.fst a)) < (↑(XS.len (Prod.fst a)) : Int))) <|
    .ret ((Hydro.mk (numOf (XS.f (Prod.fst a) (XS.row (Prod.fst a) + Int.toNat (idx (p_chk2 (Prod.snd a) (Prod.fst a)) (len (Prod.fst a)))) (0 : Nat))) (Span.mk (numOf (XS.f (Prod.fst a) (XS.row (Prod.fst a) + Int.toNat (idx (p_chk2 (Prod.snd a) (Prod.fst a)) (len (Prod.fst a)))) (nat_lit 1))) (numOf (XS.f (Prod.fst a) (XS.row (Prod.fst a) + Int.toNat (idx (p_chk2 (Prod.snd a) (Prod.fst a)) (len (Prod.fst a)))) (nat_lit 2)))), idx (p_chk2 (Prod.snd a) (Prod.fst a)) (len (Prod.fst a)))))) := fun a => by kernel_rfl
def K.find_chk2 (c : Glass) (x : XS) : Hydro × Int := found (hyd x) ⟨0, ⟨0, 0⟩⟩ (K.p_chk2 c x) (K.len x)
theorem K.find_chk2_eq (a : XS × Glass) : callT1 P BKB16 30 89 D_chk2 R_find_chk2 a = some (K.find_chk2 a.2 a.1) := by
  rw [fd_chk2]; unfold K.find_chk2 found idx
  cases h : first (K.p_chk2 a.2 a.1) (K.len a.1) with
  | none => rfl
  | some i =>
    have h1 := (first_spec h).1; have h2 := K.len_le' a.1
    simp only [T.run_br, T.run_chk, T.run_ret, decide_eq_true_eq]
    rw [if_neg (by omega), if_pos (by omega)]; rfl
noncomputable def BKB17 : Tab := BKB16.addCall 89 (callE D_chk2 R_find_chk2 (fun a => .ret (K.find_chk2 a.2 a.1)))
theorem tKB17 : TabOk P BKB17 := TabOk.addFn (d := 30) okP tKB16 (fun a r h => by rw [K.find_chk2_eq]; exact congrArg some (ret_some h))

def R_find_chk3 := dTup (.cons dGlass (.last (dI .i64) 0))
theorem fd_chk3 : ∀ a, (callT1 P BKB17 30 92 D_chk3 R_find_chk3) a = T.run (
  .br (decide (idx (p_chk3 (Prod.snd a) (Prod.fst a)) (len (Prod.fst a)) < (0 : Int))) (
    .ret ((Glass.mk (0 : Int) (0 : Int) (0 : Int) (Span.mk (0 : Int) (0 : Int)), (-1 : Int)))) (
    .chk (decide ((0 : Int) ≤ idx (p_chk3 (Prod.snd a) (Prod.fst a)) (len (Prod.fst a)) ∧ idx (p_chk3 (Prod.snd a) (Prod.fst a)) (len (Prod.fst a)) < (↑(XS.len (Prod.fst a)) : Int))) <|
    .ret ((Glass.mk (numOf (XS.f (Prod.fst a) (XS.row (Prod.fst a) + Int.toNat (idx (p_chk3 (Prod.snd a) (Prod.fst a)) (len (Prod.fst a)))) (0 : Nat))) (numOf (XS.f (Prod.fst a) (XS.row (Prod.fst a) + Int.toNat (idx (p_chk3 (Prod.snd a) (Prod.fst a)) (len (Prod.fst a)))) (nat_lit 1))) (numOf (XS.f (Prod.fst a) (XS.row (Prod.fst a) + Int.toNat (idx (p_chk3 (Prod.snd a) (Prod.fst a)) (len (Prod.fst a)))) (nat_lit 2))) (Span.mk (numOf (XS.f (Prod.fst a) (XS.row (Prod.fst a) + Int.toNat (idx (p_chk3 (Prod.snd a) (Prod.fst a)) (len (Prod.fst a)))) (nat_lit 3))) (numOf (XS.f (Prod.fst a) (XS.row (Prod.fst a) + Int.toNat (idx (p_chk3 (Prod.snd a) (Prod.fst a)) (len (Prod.fst a)))) (nat_lit 4)))), idx (p_chk3 (Prod.snd a) (Prod.fst a)) (len (Prod.fst a)))))) := fun a => by kernel_rfl
def K.find_chk3 (c : Glass) (x : XS) : Glass × Int := found (gls x) ⟨0, 0, 0, ⟨0, 0⟩⟩ (K.p_chk3 c x) (K.len x)
theorem K.find_chk3_eq (a : XS × Glass) : callT1 P BKB17 30 92 D_chk3 R_find_chk3 a = some (K.find_chk3 a.2 a.1) := by
  rw [fd_chk3]; unfold K.find_chk3 found idx
  cases h : first (K.p_chk3 a.2 a.1) (K.len a.1) with
  | none => rfl
  | some i =>
    have h1 := (first_spec h).1; have h2 := K.len_le' a.1
    simp only [T.run_br, T.run_chk, T.run_ret, decide_eq_true_eq]
    rw [if_neg (by omega), if_pos (by omega)]; rfl
noncomputable def BKB18 : Tab := BKB17.addCall 92 (callE D_chk3 R_find_chk3 (fun a => .ret (K.find_chk3 a.2 a.1)))
theorem tKB18 : TabOk P BKB18 := TabOk.addFn (d := 30) okP tKB17 (fun a r h => by rw [K.find_chk3_eq]; exact congrArg some (ret_some h))

def R_find_lst1 := dTup (.cons dSurvey (.last (dI .i64) 0))
theorem fd_lst1 : ∀ a, (callT1 P BKB18 30 77 D_lst1 R_find_lst1) a = T.run (
  .br (decide (idx (p_lst1 (Prod.snd a) (Prod.fst a)) (len (Prod.fst a)) < (0 : Int))) (
    .ret ((Survey.mk (0 : Int) (0 : Int) (Span.mk (0 : Int) (0 : Int)) (Span.mk (0 : Int) (0 : Int)) (Span.mk (0 : Int) (0 : Int)) (Span.mk (0 : Int) (0 : Int)) (Span.mk (0 : Int) (0 : Int)) (Span.mk (0 : Int) (0 : Int)) (0 : Int) (0 : Int) (Span.mk (0 : Int) (0 : Int)), (-1 : Int)))) (
    .chk (decide ((0 : Int) ≤ idx (p_lst1 (Prod.snd a) (Prod.fst a)) (len (Prod.fst a)) ∧ idx (p_lst1 (Prod.snd a) (Prod.fst a)) (len (Prod.fst a)) < (↑(XS.len (Prod.fst a)) : Int))) <|
    .ret ((Survey.mk (numOf (XS.f (Prod.fst a) (XS.row (Prod.fst a) + Int.toNat (idx (p_lst1 (Prod.snd a) (Prod.fst a)) (len (Prod.fst a)))) (0 : Nat))) (numOf (XS.f (Prod.fst a) (XS.row (Prod.fst a) + Int.toNat (idx (p_lst1 (Prod.snd a) (Prod.fst a)) (len (Prod.fst a)))) (nat_lit 1))) (Span.mk (numOf (XS.f (Prod.fst a) (XS.row (Prod.fst a) + Int.toNat (idx (p_lst1 (Prod.snd a) (Prod.fst a)) (len (Prod.fst a)))) (nat_lit 2))) (numOf (XS.f (Prod.fst a) (XS.row (Prod.fst a) + Int.toNat (idx (p_lst1 (Prod.snd a) (Prod.fst a)) (len (Prod.fst a)))) (nat_lit 3)))) (Span.mk (numOf (XS.f (Prod.fst a) (XS.row (Prod.fst a) + Int.toNat (idx (p_lst1 (Prod.snd a) (Prod.fst a)) (len (Prod.fst a)))) (nat_lit 4))) (numOf (XS.f (Prod.fst a) (XS.row (Prod.fst a) + Int.toNat (idx (p_lst1 (Prod.snd a) (Prod.fst a)) (len (Prod.fst a)))) (nat_lit 5)))) (Span.mk (numOf (XS.f (Prod.fst a) (XS.row (Prod.fst a) + Int.toNat (idx (p_lst1 (Prod.snd a) (Prod.fst a)) (len (Prod.fst a)))) (nat_lit 6))) (numOf (XS.f (Prod.fst a) (XS.row (Prod.fst a) + Int.toNat (idx (p_lst1 (Prod.snd a) (Prod.fst a)) (len (Prod.fst a)))) (nat_lit 7)))) (Span.mk (numOf (XS.f (Prod.fst a) (XS.row (Prod.fst a) + Int.toNat (idx (p_lst1 (Prod.snd a) (Prod.fst a)) (len (Prod.fst a)))) (nat_lit 8))) (numOf (XS.f (Prod.fst a) (XS.row (Prod.fst a) + Int.toNat (idx (p_lst1 (Prod.snd a) (Prod.fst a)) (len (Prod.fst a)))) (nat_lit 9)))) (Span.mk (numOf (XS.f (Prod.fst a) (XS.row (Prod.fst a) + Int.toNat (idx (p_lst1 (Prod.snd a) (Prod.fst a)) (len (Prod.fst a)))) (nat_lit 10))) (numOf (XS.f (Prod.fst a) (XS.row (Prod.fst a) + Int.toNat (idx (p_lst1 (Prod.snd a) (Prod.fst a)) (len (Prod.fst a)))) (nat_lit 11)))) (Span.mk (numOf (XS.f (Prod.fst a) (XS.row (Prod.fst a) + Int.toNat (idx (p_lst1 (Prod.snd a) (Prod.fst a)) (len (Prod.fst a)))) (nat_lit 12))) (numOf (XS.f (Prod.fst a) (XS.row (Prod.fst a) + Int.toNat (idx (p_lst1 (Prod.snd a) (Prod.fst a)) (len (Prod.fst a)))) (nat_lit 13)))) (numOf (XS.f (Prod.fst a) (XS.row (Prod.fst a) + Int.toNat (idx (p_lst1 (Prod.snd a) (Prod.fst a)) (len (Prod.fst a)))) (nat_lit 14))) (numOf (XS.f (Prod.fst a) (XS.row (Prod.fst a) + Int.toNat (idx (p_lst1 (Prod.snd a) (Prod.fst a)) (len (Prod.fst a)))) (nat_lit 15))) (Span.mk (numOf (XS.f (Prod.fst a) (XS.row (Prod.fst a) + Int.toNat (idx (p_lst1 (Prod.snd a) (Prod.fst a)) (len (Prod.fst a)))) (nat_lit 16))) (numOf (XS.f (Prod.fst a) (XS.row (Prod.fst a) + Int.toNat (idx (p_lst1 (Prod.snd a) (Prod.fst a)) (len (Prod.fst a)))) (nat_lit 17)))), idx (p_lst1 (Prod.snd a) (Prod.fst a)) (len (Prod.fst a)))))) := fun a => by kernel_rfl
def K.find_lst1 (c : Survey) (x : XS) : Survey × Int := found (svy x) ⟨0, 0, ⟨0, 0⟩, ⟨0, 0⟩, ⟨0, 0⟩, ⟨0, 0⟩, ⟨0, 0⟩, ⟨0, 0⟩, 0, 0, ⟨0, 0⟩⟩ (K.p_lst1 c x) (K.len x)
theorem K.find_lst1_eq (a : XS × Survey) : callT1 P BKB18 30 77 D_lst1 R_find_lst1 a = some (K.find_lst1 a.2 a.1) := by
  rw [fd_lst1]; unfold K.find_lst1 found idx
  cases h : first (K.p_lst1 a.2 a.1) (K.len a.1) with
  | none => rfl
  | some i =>
    have h1 := (first_spec h).1; have h2 := K.len_le' a.1
    simp only [T.run_br, T.run_chk, T.run_ret, decide_eq_true_eq]
    rw [if_neg (by omega), if_pos (by omega)]; rfl
noncomputable def BKB19 : Tab := BKB18.addCall 77 (callE D_lst1 R_find_lst1 (fun a => .ret (K.find_lst1 a.2 a.1)))
theorem tKB19 : TabOk P BKB19 := TabOk.addFn (d := 30) okP tKB18 (fun a r h => by rw [K.find_lst1_eq]; exact congrArg some (ret_some h))

theorem ct_hul1 : ∀ a, (callT1 P BKB19 30 81 D_hul1 dB) a = T.run (
  .ret (decide (idx (p_hul1 (Prod.snd a) (Prod.fst a)) (len (Prod.fst a)) ≥ (0 : Int)))) := fun a => by kernel_rfl
def K.has_hul1 (c : Hold) (x : XS) : Bool := (first (K.p_hul1 c x) (K.len x)).isSome
theorem K.has_hul1_eq (a : XS × Hold) : callT1 P BKB19 30 81 D_hul1 dB a = some (K.has_hul1 a.2 a.1) := by
  rw [ct_hul1]; unfold K.has_hul1 idx
  cases h : first (K.p_hul1 a.2 a.1) (K.len a.1) with
  | none => rfl
  | some i => simp [T.run_ret]
noncomputable def BKB20 : Tab := BKB19.addCall 81 (callE D_hul1 dB (fun a => .ret (K.has_hul1 a.2 a.1)))
theorem tKB20 : TabOk P BKB20 := TabOk.addFn (d := 30) okP tKB19 (fun a r h => by rw [K.has_hul1_eq]; exact congrArg some (ret_some h))

theorem ct_tab1 : ∀ a, (callT1 P BKB20 30 114 D_tab1 dB) a = T.run (
  .ret (decide (idx (p_tab1 PUnit.unit (Prod.fst a)) (len (Prod.fst a)) ≥ (0 : Int)))) := fun a => by kernel_rfl
def K.has_tab1 (c : Unit) (x : XS) : Bool := (first (K.p_tab1 c x) (K.len x)).isSome
theorem K.has_tab1_eq (a : XS × Unit) : callT1 P BKB20 30 114 D_tab1 dB a = some (K.has_tab1 a.2 a.1) := by
  rw [ct_tab1]; unfold K.has_tab1 idx
  cases h : first (K.p_tab1 a.2 a.1) (K.len a.1) with
  | none => rfl
  | some i => simp [T.run_ret]
noncomputable def BKB21 : Tab := BKB20.addCall 114 (callE D_tab1 dB (fun a => .ret (K.has_tab1 a.2 a.1)))
theorem tKB21 : TabOk P BKB21 := TabOk.addFn (d := 30) okP tKB20 (fun a r h => by rw [K.has_tab1_eq]; exact congrArg some (ret_some h))


end Go.Proofs.Ytkajafmphemedaa
