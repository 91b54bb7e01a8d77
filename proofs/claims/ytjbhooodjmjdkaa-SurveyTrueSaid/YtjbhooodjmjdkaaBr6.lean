/- SurveyTrue: for every input the law returns true, and the input reads as it did. No conditions. -/
import Derived.Test.YtjbhooodjmjdkaaRows
import Derived.Test.YtjbhooodjmjdkaaBr5
/-! KQ -/
namespace Go.Proofs.Ytjbhooodjmjdkaa
open Ev K
set_option maxRecDepth 100000
def dSix : Dec (Int × Int × Int × Int × Int × Int) := dAgg (.cons (dI .i64) (.cons (dI .i64) (.cons (dI .i64) (.cons (dI .i64) (.cons (dI .i64) (.last (dI .i64) 0))))))
theorem fn_Sixteen : ∀ a, (callT1 P BKF2 30 21 D_chk R_off) a = T.run (
  .br (Check a != (0 : Int)) (
    .ret ((Span.mk (0 : Int) (0 : Int), Check a))) (
    .ret ((Span.mk (sums16 (Prod.fst (Prod.fst (extremes (Prod.snd a))))) (sums16 (Prod.snd (Prod.fst (extremes (Prod.snd a))))), (0 : Int))))) := fun a => by kernel_rfl
noncomputable def K.Sixteen (a : Bulbs × Survey) : Span × Int := (if (Check a != (0 : Int)) = true then (Span.mk (0 : Int) (0 : Int), Check a) else (Span.mk (sums16 (Prod.fst (Prod.fst (extremes (Prod.snd a))))) (sums16 (Prod.snd (Prod.fst (extremes (Prod.snd a))))), (0 : Int)))
theorem eq_Sixteen (a : Bulbs × Survey) : (callT1 P BKF2 30 21 D_chk R_off) a = some (K.Sixteen a) := (fn_Sixteen a).trans (T.br_some rfl rfl)
noncomputable def BKQ1 : Tab := BKF2.addCall 21 (callE D_chk R_off (fun a => .ret (K.Sixteen a)))
theorem tKQ1 : TabOk P BKQ1 := TabOk.addFn (d := 30) okP tKF2 (fun a r h => by rw [eq_Sixteen]; exact congrArg some (ret_some h))
def D_bulbs := DecL.last dBulbs 0
theorem fn_few : ∀ a, (callT1 P BKQ1 30 7 D_bulbs dB) a = T.run (
  .br (decide ((↑(len (Bulbs.hydros a)) : Int) ≤ (12 : Int))) (
    .ret (decide ((↑(len (Bulbs.glasses a)) : Int) ≤ (60 : Int)))) (
    .ret (false))) := fun a => by kernel_rfl
noncomputable def K.few (a : Bulbs) : Bool := (if (decide ((↑(len (Bulbs.hydros a)) : Int) ≤ (12 : Int))) = true then decide ((↑(len (Bulbs.glasses a)) : Int) ≤ (60 : Int)) else false)
theorem eq_few (a : Bulbs) : (callT1 P BKQ1 30 7 D_bulbs dB) a = some (K.few a) := (fn_few a).trans (T.br_some rfl rfl)
noncomputable def BKQ2 : Tab := BKQ1.addCall 7 (callE D_bulbs dB (fun a => .ret (K.few a)))
theorem tKQ2 : TabOk P BKQ2 := TabOk.addFn (d := 30) okP tKQ1 (fun a r h => by rw [eq_few]; exact congrArg some (ret_some h))
theorem fn_ship : ∀ a, (callT1 P BKQ2 30 6 D_ship dB) a = T.run (
  .br (decide ((↑(len (Ship.holds a)) : Int) ≤ (12 : Int))) (
    .br (decide ((↑(len (Curve.knots (Ship.mean a))) : Int) ≤ (60 : Int))) (
      .ret (decide ((↑(len (Curve.knots (Ship.mc a))) : Int) ≤ (60 : Int)))) (
      .ret (false))) (
    .ret (false))) := fun a => by kernel_rfl
noncomputable def K.ship (a : Ship) : Bool := (if (decide ((↑(len (Ship.holds a)) : Int) ≤ (12 : Int))) = true then (if (decide ((↑(len (Curve.knots (Ship.mean a))) : Int) ≤ (60 : Int))) = true then decide ((↑(len (Curve.knots (Ship.mc a))) : Int) ≤ (60 : Int)) else false) else false)
theorem eq_ship (a : Ship) : (callT1 P BKQ2 30 6 D_ship dB) a = some (K.ship a) := (fn_ship a).trans (T.br_some (T.br_some rfl rfl) rfl)
noncomputable def BKQ3 : Tab := BKQ2.addCall 6 (callE D_ship dB (fun a => .ret (K.ship a)))
theorem tKQ3 : TabOk P BKQ3 := TabOk.addFn (d := 30) okP tKQ2 (fun a r h => by rw [eq_ship]; exact congrArg some (ret_some h))
end Go.Proofs.Ytjbhooodjmjdkaa
/-! KJ -/
namespace Go.Proofs.Ytjbhooodjmjdkaa
open Ev K
set_option maxRecDepth 100000
def D_none := DecL.tops 0
theorem head_run : callT1 P BKQ3 30 5 D_none dB () = some true := by kernel_rfl
noncomputable def BKJ1 : Tab := BKQ3.addCall 5 (callE D_none dB (fun _ => .ret true))
theorem tKJ1 : TabOk P BKJ1 := TabOk.addFn (d := 30) okP tKQ3 (fun a r h => by cases ret_some h; exact head_run)
end Go.Proofs.Ytjbhooodjmjdkaa
/-! KO1 -/
namespace Go.Proofs.Ytjbhooodjmjdkaa
open Ev K
set_option maxRecDepth 100000
def S_rms2 := DecS.ghost 3 3 1 [.int .i64] (DecS.mk0 (.skip (.unit (dLp 0 0 0 0) (.skip (.cons (dO 1) (.last (dI .i64) 17))))) (.flat 27 lShip (.rows 3 rInt .nil)))
def X_rms2 := DecX.one (.exit 0) [1, 3] (DecS.mk0 (.skip (.unit (dLp 0 0 0 0) (.skip (.last (dO 1) 18)))) (.flat 27 lShip (.rows 3 rInt .nil)))
noncomputable def K.st_rms2 := loopT1 P BKJ1 30 13 25 [4, 1, 3] S_rms2 X_rms2
theorem sl_rms2 : ∀ s, (K.st_rms2) s = T.run (
  .br (decide (Prod.snd (Prod.fst s) < (↑(len (Ship.holds (Prod.fst (Prod.snd s)))) : Int))) (
    .chk (decide ((0 : Int) ≤ Prod.snd (Prod.fst s) ∧ Prod.snd (Prod.fst s) < (↑(XS.len (Ship.holds (Prod.fst (Prod.snd s)))) : Int))) <|
    .chk (decide ((List.length (Prod.fst (Prod.snd (Prod.snd s))) + (1 : Nat)) * (8 : Nat) ≤ (140737488355328 : Nat) ∧ List.length (Prod.fst (Prod.snd (Prod.snd s))) + (1 : Nat) ≤ nat_lit 9223372036854775807)) <|
    .ret (Sum.inl ((List.length (Prod.fst (Prod.snd (Prod.snd s))) + (1 : Nat), IntKind.wrap IntKind.i64 (Prod.snd (Prod.fst s) + (1 : Int))), Prod.fst (Prod.snd s), decF rInt (List.length (Prod.fst (Prod.snd (Prod.snd s))) + (1 : Nat)) (appG (List.length (Prod.fst (Prod.snd (Prod.snd s)))) (encF rInt (Prod.fst (Prod.snd (Prod.snd s)))) fun i k => Option.getD [AV.int IntKind.i64 (XS.g (Ship.holds (Prod.fst (Prod.snd s))) (Int.toNat (Prod.snd (Prod.fst s))) (1 : Nat))][((0 : Nat) + i) * (1 : Nat) + k]? AV.top), PUnit.unit))) (
    .ret (Sum.inr (Prod.fst (Prod.fst s), Prod.fst (Prod.snd s), decF rInt (List.length (Prod.fst (Prod.snd (Prod.snd s)))) (encF rInt (Prod.fst (Prod.snd (Prod.snd s)))), PUnit.unit)))) := fun s => by kernel_rfl
noncomputable def K.L_rms2 := lim K.st_rms2
noncomputable def BKO11 : Tab := BKJ1.addNode 13 25 (nodeE [4, 1, 3] S_rms2 X_rms2 (fun s => .obs (K.L_rms2 s) .ret))
theorem tKO11 : TabOk P BKO11 := TabOk.addLoop (d := 30) okP tKJ1 (by kernel_rfl) (by kernel_rfl) (fun s r h => obs_ret h)
def D_rms2 := DecL.last dShip 0
theorem fn_rms2 : ∀ a, (callT1 P BKO11 30 13 D_rms2 (dRows rInt)) a = T.run (
  .obs (L_rms2 (((0 : Nat), (0 : Int)), a, decF rInt (0 : Nat) fun x x_1 => AV.top, PUnit.unit)) fun x0 =>
    .ret (decF rInt (List.length (Prod.fst (Prod.snd (Prod.snd x0)))) fun i => encF rInt (Prod.fst (Prod.snd (Prod.snd x0))) ((0 : Nat) + i))) := fun a => by kernel_rfl
/-- The rooms of all holds. -/
def K.roomsL (s : Ship) (n : Nat) : List Int := (List.range n).map fun i => s.holds.g i 1
theorem K.roomsL_length (s : Ship) (n : Nat) : (roomsL s n).length = n := by simp [roomsL]
theorem K.roomsL_succ (s : Ship) (n : Nat) : roomsL s (n + 1) = roomsL s n ++ [s.holds.g n 1] := by unfold roomsL; rw [List.range_succ, List.map_append]; rfl
theorem K.L_rms2_eq (s : Ship) (h : len s.holds ≤ 1000) : K.L_rms2 ((0, 0), s, [], ()) = some (len s.holds, s, roomsL s (len s.holds), ()) := by
  have e1 := K.len_le s.holds; have e2 := K.len_le' s.holds
  refine lim_all (fun i => ((i, (i : Int)), s, roomsL s i, ())) (len s.holds) (fun i hi => ?_) ?_
  · rw [sl_rms2]
    simp only [T.run_br, T.run_chk, T.run_ret, decide_eq_true_eq, Int.toNat_natCast, roomsL_length]
    rw [if_pos (by omega), if_pos (by omega), if_pos (by omega), w64_in (n := (i : Int) + 1) (by omega) (by omega)]
    have := decF_push rInt (roomsL s i) (fun i_1 k => Option.getD [AV.int IntKind.i64 (XS.g s.holds i 1)][((0 : Nat) + i_1) * (1 : Nat) + k]? AV.top)
    rw [roomsL_length] at this
    rw [this, roomsL_succ]; rfl
  · rw [sl_rms2]
    simp only [T.run_br, T.run_ret, decide_eq_true_eq, roomsL_length]
    rw [if_neg (by omega)]
    have := decF_encF rInt (roomsL s (len s.holds))
    rw [roomsL_length] at this
    rw [this]
theorem K.rms2_eq (s : Ship) (h : len s.holds ≤ 1000) : callT1 P BKO11 30 13 D_rms2 (dRows rInt) s = some (roomsL s (len s.holds)) := by
  rw [fn_rms2]
  show T.run (.obs (L_rms2 ((0, 0), s, [], ())) _) = _
  rw [L_rms2_eq s h, T.run_some, T.run_ret, decF_enc0]
noncomputable def BKO12 : Tab := BKO11.addCall 13 (callE D_rms2 (dRows rInt) (fun s => .chk (decide (len s.holds ≤ 1000)) (.ret (K.roomsL s (len s.holds)))))
theorem tKO12 : TabOk P BKO12 := TabOk.addFn (d := 30) okP tKO11 (fun a r h => by obtain ⟨g, e⟩ := chk_ret h; subst e; exact K.rms2_eq a (by simpa using g))
/-! sum -/
def S_sum := DecS.mk1 (.skips 3 (.cons (dI .i64) (.skips 2 (.cons (dRows rInt) (.cons (dI .i64) (.last (dI .i64) 8))))))
def X_sum := DecX.one (.exit 0) [3] (DecS.mk1 (.skips 3 (.last (dI .i64) 13)))
noncomputable def K.st_sum := loopT1 P BKO12 30 30 25 [8, 3, 6, 7] S_sum X_sum
theorem sl_sum : ∀ s, (K.st_sum) s = T.run (
  .br (decide (Prod.snd (Prod.snd (Prod.snd s)) < Prod.fst (Prod.snd (Prod.snd s)))) (
    .chk (decide ((0 : Int) ≤ Prod.snd (Prod.snd (Prod.snd s)) ∧ Prod.snd (Prod.snd (Prod.snd s)) < (↑(List.length (Prod.fst (Prod.snd s))) : Int))) <|
    .ret (Sum.inl (IntKind.wrap IntKind.i64 (Prod.fst s + numOf (encF rInt (Prod.fst (Prod.snd s)) ((0 : Nat) + Int.toNat (Prod.snd (Prod.snd (Prod.snd s)))) (0 : Nat))), decF rInt (List.length (Prod.fst (Prod.snd s))) fun i => encF rInt (Prod.fst (Prod.snd s)) ((0 : Nat) + i), Prod.fst (Prod.snd (Prod.snd s)), IntKind.wrap IntKind.i64 (Prod.snd (Prod.snd (Prod.snd s)) + (1 : Int))))) (
    .ret (Sum.inr (Prod.fst s)))) := fun s => by kernel_rfl
noncomputable def K.L_sum := lim K.st_sum
noncomputable def BKO13 : Tab := BKO12.addNode 30 25 (nodeE [8, 3, 6, 7] S_sum X_sum (fun s => .obs (K.L_sum s) .ret))
theorem tKO13 : TabOk P BKO13 := TabOk.addLoop (d := 30) okP tKO12 (by kernel_rfl) (by kernel_rfl) (fun s r h => obs_ret h)
def D_sum := DecL.last (dRows rInt) 0
theorem fn_sum : ∀ a, (callT1 P BKO13 30 30 D_sum R_i) a = T.run (
  .obs (L_sum ((0 : Int), decF rInt (List.length a) fun i => encF rInt a ((0 : Nat) + i), (↑(clampL (List.length a)) : Int), (0 : Int))) fun x0 =>
    .ret (x0)) := fun a => by kernel_rfl
/-- A number of a list. -/
def K.atI (l : List Int) (i : Nat) : Int := numOf (encF rInt l i 0)
theorem K.atI_get {l : List Int} {i : Nat} (h : i < l.length) : atI l i = l[i] := by unfold atI; rw [encF_at (List.getElem?_eq_getElem h)]; rfl
def K.sumL (l : List Int) : Int := (List.range l.length).foldl (fun a i => IntKind.i64.wrap (a + atI l i)) 0
theorem K.L_sum_eq (l : List Int) (h : l.length ≤ 1000000) : K.L_sum (0, l, (l.length : Int), 0) = some (sumL l) := by
  refine lim_fold (fun i a => (a, l, (l.length : Int), (i : Int))) l.length (fun a i => IntKind.i64.wrap (a + atI l i)) id (fun i hi a => ?_) (fun a => ?_) 0
  · rw [sl_sum]
    simp only [T.run_br, T.run_chk, T.run_ret, decide_eq_true_eq, Int.toNat_natCast, decF_encF, Nat.zero_add]
    rw [if_pos (by omega), if_pos (by omega), w64_in (n := (i : Int) + 1) (by omega) (by omega)]; rfl
  · rw [sl_sum]
    simp only [T.run_br, T.run_ret, decide_eq_true_eq]
    rw [if_neg (by omega)]; rfl
theorem K.sum_eq (l : List Int) (h : l.length ≤ 1000000) : callT1 P BKO13 30 30 D_sum R_i l = some (sumL l) := by
  rw [fn_sum, decF_enc0, clampL_eq (by unfold maxL; omega)]
  show T.run (.obs (L_sum (0, l, (l.length : Int), 0)) _) = _
  rw [L_sum_eq l h]; rfl
noncomputable def BKO14 : Tab := BKO13.addCall 30 (callE D_sum R_i (fun l => .chk (decide (l.length ≤ 1000000)) (.ret (K.sumL l))))
theorem tKO14 : TabOk P BKO14 := TabOk.addFn (d := 30) okP tKO13 (fun a r h => by obtain ⟨g, e⟩ := chk_ret h; subst e; exact K.sum_eq a (by simpa using g))
/-! loaded -/
def lInts : DecL (List Int) := DecL.last (dRows rInt) 0
def D_ldd := DecL.cons dShip (.last (dRow1 1 lInts) 0)
def S_ldd := DecS.mk0 (.skips 2 (.unit (dLp 0 0 0 0) (.skips 12 (.cons (dRow1 1 lInts) (.unit (dIl 1) (.unit (dIl 0) (.skips 9 (.cons (dRows rInt) (.cons (dI .i64) (.last (dI .i64) 15)))))))))) (.flat 27 lShip .nil)
def X_ldd := DecX.or (DecX.one .ret [4] (DecS.mk1 (.skips 4 (.last (dI .i64) 40)))) (DecX.one (.exit 2) [2, 15, 16, 17] (DecS.mk0 (.skips 2 (.unit (dLp 0 0 0 0) (.skips 12 (.cons (dRow1 1 lInts) (.unit (dIl 1) (.unit (dIl 0) (.tops 27))))))) (.flat 27 lShip .nil)))
noncomputable def K.st_ldd := loopT1 P BKO14 30 29 81 [29, 2, 27, 15, 16, 17, 28] S_ldd X_ldd
theorem sl_ldd : ∀ s, (K.st_ldd) s = T.run (
  .br (decide (Prod.snd (Prod.snd (Prod.snd (Prod.fst s))) < Prod.fst (Prod.snd (Prod.snd (Prod.fst s))))) (
    .chk (decide ((0 : Int) ≤ Prod.snd (Prod.snd (Prod.snd (Prod.fst s))) ∧ Prod.snd (Prod.snd (Prod.snd (Prod.fst s))) < (↑(List.length (Prod.fst (Prod.snd (Prod.fst s)))) : Int))) <|
    .chk (decide ((0 : Int) ≤ Prod.snd (Prod.snd (Prod.snd (Prod.fst s))) ∧ Prod.snd (Prod.snd (Prod.snd (Prod.fst s))) < (↑(XS.len (Ship.holds (Prod.fst (Prod.snd s)))) : Int))) <|
    .br (!within (numOf (encF rInt (Prod.fst (Prod.snd (Prod.fst s))) ((0 : Nat) + Int.toNat (Prod.snd (Prod.snd (Prod.snd (Prod.fst s))))) (0 : Nat))) (0 : Int) (XS.g (Ship.holds (Prod.fst (Prod.snd s))) (Int.toNat (Prod.snd (Prod.snd (Prod.snd (Prod.fst s))))) (1 : Nat))) (
      .ret (Sum.inr (Sum.inl (1 : Int)))) (
      .ret (Sum.inl ((decF rInt (List.length (Prod.fst (Prod.fst s))) fun i => encF rInt (Prod.fst (Prod.fst s)) ((0 : Nat) + i), decF rInt (List.length (Prod.fst (Prod.snd (Prod.fst s)))) fun i => encF rInt (Prod.fst (Prod.snd (Prod.fst s))) ((0 : Nat) + i), Prod.fst (Prod.snd (Prod.snd (Prod.fst s))), IntKind.wrap IntKind.i64 (Prod.snd (Prod.snd (Prod.snd (Prod.fst s))) + (1 : Int))), Prod.fst (Prod.snd s), PUnit.unit)))) (
    .ret (Sum.inr (Sum.inr ((decF rInt (List.length (Prod.fst (Prod.fst s))) fun i => encF rInt (Prod.fst (Prod.fst s)) ((0 : Nat) + i), PUnit.unit), Prod.fst (Prod.snd s), PUnit.unit))))) := fun s => by kernel_rfl
noncomputable def K.L_ldd := lim K.st_ldd
noncomputable def BKO15 : Tab := BKO14.addNode 29 81 (nodeE [29, 2, 27, 15, 16, 17, 28] S_ldd X_ldd (fun s => .obs (K.L_ldd s) .ret))
theorem tKO15 : TabOk P BKO15 := TabOk.addLoop (d := 30) okP tKO14 (by kernel_rfl) (by kernel_rfl) (fun s r h => obs_ret h)
theorem fn_ldd : ∀ a, (callT1 P BKO15 30 29 D_ldd R_i) a = T.run (
  .br (hullCheck (Prod.fst a) != (0 : Int)) (
    .ret (hullCheck (Prod.fst a))) (
    .br ((↑(clampL (List.length (Prod.snd a))) : Int) != (↑(len (Ship.holds (Prod.fst a))) : Int)) (
      .ret ((1 : Int))) (
      .obs (L_ldd ((decF rInt (List.length (Prod.snd a)) fun i => encF rInt (Prod.snd a) ((0 : Nat) + i), decF rInt (List.length (Prod.snd a)) fun i => encF rInt (Prod.snd a) ((0 : Nat) + i), (↑(clampL (List.length (Prod.snd a))) : Int), (0 : Int)), Prod.fst a, PUnit.unit)) fun x0 =>
        .sum (x0) (fun x1 =>
          .ret (x1)) (fun x1 =>
          .ret ((0 : Int)))))) := fun a => by kernel_rfl
theorem K.bne_zero2 {a b : Int} (h : ¬ (a != b) = true) : a = b := by simpa using h
/-- The error of a mass of a loading. -/
def K.lddE (s : Ship) (l : List Int) (i : Nat) : Option Int := if (!within (atI l i) 0 (s.holds.g i 1)) = true then some 1 else none
theorem K.L_ldd_eq (s : Ship) (l : List Int) (h : l.length = len s.holds) (h2 : l.length ≤ 1000000) : K.L_ldd ((l, l, (l.length : Int), 0), s, ()) = some (K.orr Sum.inl (.inr ((l, ()), s, ())) ((List.range l.length).findSome? (lddE s l))) := by
  have e1 := K.len_le s.holds; have e2 := K.len_le' s.holds
  refine lim_err (fun i => ((l, l, (l.length : Int), (i : Int)), s, ())) l.length (lddE s l) Sum.inl _ (fun i hi => ?_) ?_
  · rw [sl_ldd]
    simp only [T.run_br, T.run_chk, T.run_ret, decide_eq_true_eq, Int.toNat_natCast, decF_encF, Nat.zero_add]
    rw [if_pos (by omega), if_pos (by omega), if_pos (by omega), w64_in (n := (i : Int) + 1) (by omega) (by omega)]
    show (if (!within (atI l i) 0 (s.holds.g i 1)) = true then _ else _) = _
    unfold lddE
    split <;> rfl
  · rw [sl_ldd]
    simp only [T.run_br, T.run_ret, decide_eq_true_eq, decF_enc0]
    rw [if_neg (by omega)]
noncomputable def K.loaded (a : Ship × List Int) : Int := if (hullCheck a.1 != 0) = true then hullCheck a.1 else if ((a.2.length : Int) != (len a.1.holds : Int)) = true then 1 else K.orr id 0 ((List.range a.2.length).findSome? (lddE a.1 a.2))
theorem K.loaded_eq (a : Ship × List Int) (h : a.2.length ≤ 1000000) : callT1 P BKO15 30 29 D_ldd R_i a = some (loaded a) := by
  obtain ⟨s, l⟩ := a
  rw [fn_ldd]; unfold loaded
  simp only [decF_enc0]
  have h : l.length ≤ 1000000 := h
  rw [clampL_eq (by unfold maxL; omega)]
  refine br_step (fun _ => rfl) (fun _ => br_step (fun _ => rfl) (fun hn => ?_))
  have hl : l.length = len s.holds := by
    have hn : ¬ ((l.length : Int) != (len s.holds : Int)) = true := hn
    have := bne_zero2 hn; omega
  show T.run (.obs (L_ldd ((l, l, (l.length : Int), 0), s, ())) _) = _
  rw [L_ldd_eq s l hl h]
  cases (List.range l.length).findSome? (lddE s l) <;> rfl
noncomputable def BKO16 : Tab := BKO15.addCall 29 (callE D_ldd R_i (fun a => .chk (decide (a.2.length ≤ 1000000)) (.ret (K.loaded a))))
theorem tKO16 : TabOk P BKO16 := TabOk.addFn (d := 30) okP tKO15 (fun a r h => by obtain ⟨g, e⟩ := chk_ret h; subst e; exact K.loaded_eq a (by simpa using g))
def D_dsp := DecL.cons dShip (.last (dRows rInt) 0)
def R_dsp := dTup (.cons (dI .i64) (.last (dI .i64) 0))
theorem fn_dsp : ∀ a, (callT1 P BKO16 30 12 D_dsp R_dsp) a = T.run (
  .chk (decide (List.length (decF rInt (List.length (Prod.snd a)) fun i => encF rInt (Prod.snd a) ((0 : Nat) + i)) ≤ (1000000 : Nat))) <|
  .br (loaded (Prod.fst a, decF rInt (List.length (Prod.snd a)) fun i => encF rInt (Prod.snd a) ((0 : Nat) + i)) != (0 : Int)) (
    .ret (((0 : Int), loaded (Prod.fst a, decF rInt (List.length (Prod.snd a)) fun i => encF rInt (Prod.snd a) ((0 : Nat) + i))))) (
    .chk (decide (List.length (decF rInt (List.length (Prod.snd a)) fun i => encF rInt (Prod.snd a) ((0 : Nat) + i)) ≤ (1000000 : Nat))) <|
    .ret ((IntKind.wrap IntKind.i64 (Ship.light (Prod.fst a) + sumL (decF rInt (List.length (Prod.snd a)) fun i => encF rInt (Prod.snd a) ((0 : Nat) + i))), (0 : Int))))) := fun a => by kernel_rfl
noncomputable def K.displ (a : Ship × List Int) : Int × Int := if (loaded a != 0) = true then (0, loaded a) else (IntKind.i64.wrap (a.1.light + sumL a.2), 0)
theorem K.displ_eq (a : Ship × List Int) (h : a.2.length ≤ 1000000) : callT1 P BKO16 30 12 D_dsp R_dsp a = some (displ a) := by
  rw [fn_dsp]; unfold displ
  simp only [decF_enc0]
  exact chk_step (by simpa using h) (br_step (fun _ => rfl) (fun _ => chk_step (by simpa using h) rfl))
noncomputable def BKO17 : Tab := BKO16.addCall 12 (callE D_dsp R_dsp (fun a => .chk (decide (a.2.length ≤ 1000000)) (.ret (K.displ a))))
theorem tKO17 : TabOk P BKO17 := TabOk.addFn (d := 30) okP tKO16 (fun a r h => by obtain ⟨g, e⟩ := chk_ret h; subst e; exact K.displ_eq a (by simpa using g))
end Go.Proofs.Ytjbhooodjmjdkaa
/-! KP -/
namespace Go.Proofs.Ytjbhooodjmjdkaa
open Ev K
set_option maxRecDepth 100000
namespace K
theorem ite_ok {c : Bool} {t u : Int} (hu : u ≠ 0) (h : (if c = true then t else u) = 0) : c = true ∧ t = 0 := by
  cases c with
  | true => exact ⟨rfl, h⟩
  | false => simp at h; exact absurd h hu
theorem ite_no {c : Bool} {t u : Int} (hu : u ≠ 0) (h : (if c = true then u else t) = 0) : c = false ∧ t = 0 := by
  cases c with
  | true => simp at h; exact absurd h hu
  | false => exact ⟨rfl, by simpa using h⟩
theorem ite_err {e t : Int} (h : (if (e != 0) = true then e else t) = 0) : e = 0 ∧ t = 0 := by
  by_cases h0 : e = 0
  · subst h0; simpa using h
  · simp [h0] at h
theorem within_iff {n lo hi : Int} : within n lo hi = true ↔ lo ≤ n ∧ n ≤ hi := by unfold within; simp
theorem spans_iff {s : Span} {lo hi : Int} : spans s lo hi = true ↔ lo ≤ s.lo ∧ s.lo ≤ s.hi ∧ s.hi ≤ hi := by unfold spans; simp
theorem void_false {s : Span} : void s = false ↔ s.lo ≤ s.hi := by unfold void; simp
theorem void_true {s : Span} : void s = true ↔ s.hi < s.lo := by unfold void; simp
structure MarkOk (s : Span) : Prop where
  lo : 0 ≤ s.lo
  le : s.lo ≤ s.hi
  hi : s.hi ≤ 65536
  w : s.hi - s.lo < 400
structure Good (x : Survey) : Prop where
  id : 1 ≤ x.id ∧ x.id ≤ 1099511627776
  tick : 0 ≤ x.tick ∧ x.tick ≤ 1048576
  sag : 0 ≤ x.sag ∧ x.sag ≤ 200
  shown : 0 ≤ x.shown.lo ∧ x.shown.lo ≤ x.shown.hi ∧ x.shown.hi ≤ 2000
  m0 : MarkOk x.m0
  m1 : MarkOk x.m1
  m2 : MarkOk x.m2
  m3 : MarkOk x.m3
  m4 : MarkOk x.m4
  m5 : MarkOk x.m5
theorem mark_ok {s : Span} (h1 : spans s 0 65536 = true) (h2 : IntKind.wrap IntKind.i64 (s.hi - s.lo) < 400) : MarkOk s := by
  obtain ⟨a, b, c⟩ := spans_iff.1 h1
  rw [w64_in (by omega) (by omega)] at h2
  exact ⟨a, b, c, h2⟩
/-- What a survey without an error is. -/
theorem check_ok {b : Bulbs} {x : Survey} (h : check (b, x) = 0) : Good x ∧ (density (b, x)).2 = 0 ∧ (extremes x).2 = true := by
  unfold check at h
  obtain ⟨h1, h⟩ := ite_ok (by decide) h
  obtain ⟨h2, h⟩ := ite_ok (by decide) h
  obtain ⟨h3, h⟩ := ite_ok (by decide) h
  obtain ⟨h4, h⟩ := ite_ok (by decide) h
  obtain ⟨a0, h⟩ := ite_ok (by decide) h
  obtain ⟨b0, h⟩ := ite_ok (by decide) h
  obtain ⟨a1, h⟩ := ite_ok (by decide) h
  obtain ⟨b1, h⟩ := ite_ok (by decide) h
  obtain ⟨a2, h⟩ := ite_ok (by decide) h
  obtain ⟨b2, h⟩ := ite_ok (by decide) h
  obtain ⟨a3, h⟩ := ite_ok (by decide) h
  obtain ⟨b3, h⟩ := ite_ok (by decide) h
  obtain ⟨a4, h⟩ := ite_ok (by decide) h
  obtain ⟨b4, h⟩ := ite_ok (by decide) h
  obtain ⟨a5, h⟩ := ite_ok (by decide) h
  obtain ⟨b5, h⟩ := ite_no (by decide) h
  obtain ⟨d, h⟩ := ite_err h
  obtain ⟨e, _⟩ := ite_no (by decide) h
  refine ⟨⟨within_iff.1 h1, within_iff.1 h2, within_iff.1 h3, spans_iff.1 h4, mark_ok a0 (by simpa using b0), mark_ok a1 (by simpa using b1), mark_ok a2 (by simpa using b2), mark_ok a3 (by simpa using b3), mark_ok a4 (by simpa using b4), mark_ok a5 (by simpa using b5)⟩, d, by simpa using e⟩
theorem Check_ok {b : Bulbs} {x : Survey} (h : Check (b, x) = 0) : CheckBulbs b = 0 ∧ Good x ∧ (density (b, x)).2 = 0 ∧ (extremes x).2 = true := by
  unfold Check at h
  obtain ⟨h1, h⟩ := ite_err h
  exact ⟨h1, check_ok h⟩
theorem tmod_two (n : Int) : Int.tmod n 2 = if 0 ≤ n then n % 2 else -((-n) % 2) := by
  split
  · rename_i h; rw [Int.tmod_eq_emod_of_nonneg h]
  · rename_i h
    have : n = -(-n) := by omega
    rw [this, Int.neg_tmod, Int.tmod_eq_emod_of_nonneg (by omega)]
    simp
theorem half_eq {n : Int} (h1 : -4611686018427387904 ≤ n) (h2 : n ≤ 4611686018427387904) : half n = n / 2 := by
  unfold half
  have ht := tmod_two n
  have hb : -1 ≤ Int.tmod n 2 ∧ Int.tmod n 2 ≤ 1 := by rw [ht]; split <;> omega
  rw [w64_in (n := Int.tmod n 2 + 2) (by omega) (by omega)]
  have e1 : Int.tmod (Int.tmod n 2 + 2) 2 = n % 2 := by
    rw [Int.tmod_eq_emod_of_nonneg (by omega), ht]; split <;> omega
  rw [e1, w64_in (n := n - n % 2) (by omega) (by omega)]
  have e2 : n - n % 2 = 2 * (n / 2) := by omega
  rw [e2, Int.mul_comm, Int.mul_tdiv_cancel _ (by decide), w64_in (by omega) (by omega)]
end K
end Go.Proofs.Ytjbhooodjmjdkaa
/-! KT -/
namespace Go.Proofs.Ytjbhooodjmjdkaa
open Ev K
set_option maxRecDepth 100000
namespace K
section
variable {x : Survey} (g : Good x)
include g
omit g in
theorem both_eq {a b : Span} (ha : -1000000 ≤ a.lo ∧ a.lo ≤ 1000000 ∧ -1000000 ≤ a.hi ∧ a.hi ≤ 1000000) (hb : -1000000 ≤ b.lo ∧ b.lo ≤ 1000000 ∧ -1000000 ≤ b.hi ∧ b.hi ≤ 1000000) : both a b = ⟨a.lo + b.lo, a.hi + b.hi⟩ := by
  unfold both; rw [w64_in (by omega) (by omega), w64_in (by omega) (by omega)]
theorem fore_eq : both x.m0 x.m1 = ⟨x.m0.lo + x.m1.lo, x.m0.hi + x.m1.hi⟩ := by
  obtain ⟨h1, h2, h3, h4⟩ := g.m0; obtain ⟨k1, k2, k3, k4⟩ := g.m1
  exact both_eq (by omega) (by omega)
theorem aft_eq : both x.m4 x.m5 = ⟨x.m4.lo + x.m5.lo, x.m4.hi + x.m5.hi⟩ := by
  obtain ⟨h1, h2, h3, h4⟩ := g.m4; obtain ⟨k1, k2, k3, k4⟩ := g.m5
  exact both_eq (by omega) (by omega)
theorem mid_eq : both x.m2 x.m3 = ⟨x.m2.lo + x.m3.lo, x.m2.hi + x.m3.hi⟩ := by
  obtain ⟨h1, h2, h3, h4⟩ := g.m2; obtain ⟨k1, k2, k3, k4⟩ := g.m3
  exact both_eq (by omega) (by omega)
theorem ends_eq : endsOf x = ⟨x.m0.lo + x.m1.lo + (x.m4.lo + x.m5.lo), x.m0.hi + x.m1.hi + (x.m4.hi + x.m5.hi)⟩ := by
  obtain ⟨h1, h2, h3, h4⟩ := g.m0; obtain ⟨k1, k2, k3, k4⟩ := g.m1
  obtain ⟨i1, i2, i3, i4⟩ := g.m4; obtain ⟨j1, j2, j3, j4⟩ := g.m5
  unfold endsOf; rw [fore_eq g, aft_eq g]
  exact both_eq (by simp only; omega) (by simp only; omega)
theorem bend_eq : bend x = 4 * x.sag := by
  obtain ⟨h1, h2⟩ := g.sag
  unfold bend; rw [w64_in (by omega) (by omega)]
theorem mids_eq : mids x = meet ⟨x.m2.lo + x.m3.lo, x.m2.hi + x.m3.hi⟩ ⟨-((4 * x.sag - (endsOf x).lo) / 2), ((endsOf x).hi + 4 * x.sag) / 2⟩ := by
  obtain ⟨h1, h2, h3, h4⟩ := g.m0; obtain ⟨k1, k2, k3, k4⟩ := g.m1
  obtain ⟨i1, i2, i3, i4⟩ := g.m4; obtain ⟨j1, j2, j3, j4⟩ := g.m5
  obtain ⟨s1, s2⟩ := g.sag
  have e := ends_eq g
  have e1 : (endsOf x).lo = x.m0.lo + x.m1.lo + (x.m4.lo + x.m5.lo) := by rw [e]
  have e2 : (endsOf x).hi = x.m0.hi + x.m1.hi + (x.m4.hi + x.m5.hi) := by rw [e]
  unfold mids
  rw [mid_eq g, bend_eq g, w64_in (n := 4 * x.sag - (endsOf x).lo) (by omega) (by omega), w64_in (n := (endsOf x).hi + 4 * x.sag) (by omega) (by omega), half_eq (by omega) (by omega), half_eq (by omega) (by omega), w64_in (by omega) (by omega)]
  rw [Int.zero_sub]
end
/-- The bounds of the middle, and of the ends' sums. -/
structure EndsOk (x : Survey) (l : Sums × Sums) : Prop where
  a0 : x.m2.lo + x.m3.lo ≤ l.1.middle ∧ l.1.middle ≤ x.m2.hi + x.m3.hi
  a1 : x.m2.lo + x.m3.lo ≤ l.2.middle ∧ l.2.middle ≤ x.m2.hi + x.m3.hi
  b0 : x.m0.lo + x.m1.lo + (x.m4.lo + x.m5.lo) ≤ l.1.ends ∧ l.1.ends ≤ x.m0.hi + x.m1.hi + (x.m4.hi + x.m5.hi)
  b1 : x.m0.lo + x.m1.lo + (x.m4.lo + x.m5.lo) ≤ l.2.ends ∧ l.2.ends ≤ x.m0.hi + x.m1.hi + (x.m4.hi + x.m5.hi)
  c0 : -(4 * x.sag) ≤ 2 * l.1.middle - l.1.ends ∧ 2 * l.1.middle - l.1.ends ≤ 4 * x.sag
  c1 : -(4 * x.sag) ≤ 2 * l.2.middle - l.2.ends ∧ 2 * l.2.middle - l.2.ends ≤ 4 * x.sag
  all : ∀ m n : Int, x.m2.lo + x.m3.lo ≤ m → m ≤ x.m2.hi + x.m3.hi → x.m0.lo + x.m1.lo + (x.m4.lo + x.m5.lo) ≤ n → n ≤ x.m0.hi + x.m1.hi + (x.m4.hi + x.m5.hi) → -(4 * x.sag) ≤ 2 * m - n → 2 * m - n ≤ 4 * x.sag →
    l.1.middle ≤ m ∧ m ≤ l.2.middle ∧ l.1.ends ≤ n ∧ n ≤ l.2.ends
theorem arith0 {a b e0 e1 s L U p q : Int} (hs : 0 ≤ s) (l1 : a ≤ L) (l2 : e0 - s ≤ 2 * L) (u1 : U ≤ b) (u2 : 2 * U ≤ e1 + s) (v : L ≤ U) (he : e0 ≤ e1) (hp : p = max (2 * L - s) e0) (hq : q = min (2 * U + s) e1) :
    (a ≤ L ∧ L ≤ b) ∧ (a ≤ U ∧ U ≤ b) ∧ (e0 ≤ p ∧ p ≤ e1) ∧ (e0 ≤ q ∧ q ≤ e1) ∧ (-s ≤ 2 * L - p ∧ 2 * L - p ≤ s) ∧ (-s ≤ 2 * U - q ∧ 2 * U - q ≤ s) := by
  refine ⟨⟨l1, ?_⟩, ⟨?_, u1⟩, ⟨?_, ?_⟩, ⟨?_, ?_⟩, ⟨?_, ?_⟩, ⟨?_, ?_⟩⟩ <;> omega
theorem arith1 {a b e0 e1 s L U p q m n : Int} (l3 : L = a ∨ 2 * L ≤ e0 - s + 1) (u3 : U = b ∨ e1 + s - 1 ≤ 2 * U) (hp : p = max (2 * L - s) e0) (hq : q = min (2 * U + s) e1)
    (t1 : a ≤ m) (t2 : m ≤ b) (t3 : e0 ≤ n) (t4 : n ≤ e1) (t5 : -s ≤ 2 * m - n) (t6 : 2 * m - n ≤ s) : L ≤ m ∧ m ≤ U ∧ p ≤ n ∧ n ≤ q := by
  have h1 : L ≤ m := by rcases l3 with h | h <;> omega
  have h2 : m ≤ U := by rcases u3 with h | h <;> omega
  refine ⟨h1, h2, ?_, ?_⟩ <;> omega
theorem low_arith {a e0 s L : Int} (h : L = if -((s - e0) / 2) > a then -((s - e0) / 2) else a) : a ≤ L ∧ e0 - s ≤ 2 * L ∧ (L = a ∨ 2 * L ≤ e0 - s + 1) := by
  split at h <;> refine ⟨?_, ?_, ?_⟩ <;> omega
theorem high_arith {b e1 s U : Int} (h : U = if (e1 + s) / 2 < b then (e1 + s) / 2 else b) : U ≤ b ∧ 2 * U ≤ e1 + s ∧ (U = b ∨ e1 + s - 1 ≤ 2 * U) := by
  split at h <;> refine ⟨?_, ?_, ?_⟩ <;> omega
theorem extremes_ok {x : Survey} (g : Good x) (h : (extremes x).2 = true) : EndsOk x (extremes x).1 := by
  have hv : void (mids x) = false := by
    cases hv : void (mids x) with
    | false => rfl
    | true => unfold extremes at h; rw [if_pos hv] at h; exact absurd h (by decide)
  obtain ⟨h1, h2, h3, h4⟩ := g.m0; obtain ⟨k1, k2, k3, k4⟩ := g.m1
  obtain ⟨p1, p2, p3, p4⟩ := g.m2; obtain ⟨q1, q2, q3, q4⟩ := g.m3
  obtain ⟨i1, i2, i3, i4⟩ := g.m4; obtain ⟨j1, j2, j3, j4⟩ := g.m5
  obtain ⟨s1, s2⟩ := g.sag
  have e := ends_eq g
  have e1 : (endsOf x).lo = x.m0.lo + x.m1.lo + (x.m4.lo + x.m5.lo) := by rw [e]
  have e2 : (endsOf x).hi = x.m0.hi + x.m1.hi + (x.m4.hi + x.m5.hi) := by rw [e]
  have hm := mids_eq g
  have v := void_false.1 hv
  have m1 : (mids x).lo = if -((4 * x.sag - (endsOf x).lo) / 2) > x.m2.lo + x.m3.lo then -((4 * x.sag - (endsOf x).lo) / 2) else x.m2.lo + x.m3.lo := by rw [hm]; rfl
  have m2 : (mids x).hi = if ((endsOf x).hi + 4 * x.sag) / 2 < x.m2.hi + x.m3.hi then ((endsOf x).hi + 4 * x.sag) / 2 else x.m2.hi + x.m3.hi := by rw [hm]; rfl
  obtain ⟨l1, l2, l3⟩ := low_arith m1
  obtain ⟨u1, u2, u3⟩ := high_arith m2
  have he : (extremes x).1 = (⟨if IntKind.i64.wrap (IntKind.i64.wrap (2 * (mids x).lo) - bend x) > (endsOf x).lo then IntKind.i64.wrap (IntKind.i64.wrap (2 * (mids x).lo) - bend x) else (endsOf x).lo, (mids x).lo⟩,
    ⟨if IntKind.i64.wrap (IntKind.i64.wrap (2 * (mids x).hi) + bend x) < (endsOf x).hi then IntKind.i64.wrap (IntKind.i64.wrap (2 * (mids x).hi) + bend x) else (endsOf x).hi, (mids x).hi⟩) := by
    unfold extremes; rw [if_neg (by rw [hv]; decide)]
  clear m1 m2 hm hv h e
  generalize (mids x).lo = L at *
  generalize (mids x).hi = U at *
  rw [bend_eq g, w64_in (n := 2 * L) (by omega) (by omega), w64_in (n := 2 * L - 4 * x.sag) (by omega) (by omega), w64_in (n := 2 * U) (by omega) (by omega), w64_in (n := 2 * U + 4 * x.sag) (by omega) (by omega)] at he
  have n1 : (if 2 * L - 4 * x.sag > (endsOf x).lo then 2 * L - 4 * x.sag else (endsOf x).lo) = max (2 * L - 4 * x.sag) (endsOf x).lo := by split <;> omega
  have n2 : (if 2 * U + 4 * x.sag < (endsOf x).hi then 2 * U + 4 * x.sag else (endsOf x).hi) = min (2 * U + 4 * x.sag) (endsOf x).hi := by split <;> omega
  rw [n1, n2] at he
  rw [he]
  rw [e1] at l2 l3
  rw [e2] at u2 u3
  rw [e1, e2]
  obtain ⟨r1, r2, r3, r4, r5, r6⟩ := arith0 (s := 4 * x.sag) (by omega) l1 l2 u1 u2 v (by omega) rfl rfl
  exact ⟨r1, r2, r3, r4, r5, r6, fun m n t1 t2 t3 t4 t5 t6 => by
    obtain ⟨w1, w2, w3, w4⟩ := arith1 l3 u3 rfl rfl t1 t2 t3 t4 t5 t6
    exact ⟨w1, w2, w3, w4⟩⟩
theorem sums16_eq {l : Sums} (h : -1000000 ≤ l.ends ∧ l.ends ≤ 1000000 ∧ -1000000 ≤ l.middle ∧ l.middle ≤ 1000000) : sums16 l = l.ends + 6 * l.middle := by
  unfold sums16; rw [w64_in (n := 6 * l.middle) (by omega) (by omega), w64_in (n := l.ends + 6 * l.middle) (by omega) (by omega)]
end K
end Go.Proofs.Ytjbhooodjmjdkaa
/-! KP2 -/
namespace Go.Proofs.Ytjbhooodjmjdkaa
open Ev K
set_option maxRecDepth 100000
namespace K
theorem kntE_some {x : XS} {i : Nat} (h : kntE x i = none) : x.g i 0 ≤ 2000 := by
  unfold kntE at h
  cases hw : within (x.g i 0) (IntKind.i64.wrap (lastX x i + 1)) 2000 with
  | true => exact (within_iff.1 hw).2
  | false => rw [hw] at h; simp at h
theorem kntE_pos {x : XS} : ∀ i, (∀ j, j ≤ i → kntE x j = none) → 0 ≤ x.g i 0 := by
  intro i
  induction i with
  | zero =>
    intro h
    have h0 := h 0 (by omega)
    unfold kntE at h0
    cases hw : within (x.g 0 0) (IntKind.i64.wrap (lastX x 0 + 1)) 2000 with
    | true =>
      have := (within_iff.1 hw).1
      rw [show IntKind.i64.wrap (lastX x 0 + 1) = 0 by rw [show lastX x 0 = -1 from rfl]; decide] at this
      exact this
    | false => rw [hw] at h0; simp at h0
  | succ i ih =>
    intro h
    have hp := ih (fun j hj => h j (by omega))
    have hq := kntE_some (h i (by omega))
    have h0 := h (i + 1) (by omega)
    unfold kntE at h0
    cases hw : within (x.g (i + 1) 0) (IntKind.i64.wrap (lastX x (i + 1) + 1)) 2000 with
    | true =>
      have := (within_iff.1 hw).1
      rw [show lastX x (i + 1) = x.g i 0 from rfl, w64_in (by omega) (by omega)] at this
      omega
    | false => rw [hw] at h0; simp at h0
def sumI (x : XS) (n : Nat) : Int := (List.range n).foldl (fun a i => a + x.g i 1) 0
theorem sumI_succ (x : XS) (n : Nat) : sumI x (n + 1) = sumI x n + x.g n 1 := by
  unfold sumI; rw [List.range_succ, List.foldl_append]; rfl
theorem fold_rooms (x : XS) (a : Int) (ha : 0 ≤ a ∧ a ≤ 1000000) : ∀ n, n ≤ 100 → (∀ i, i < n → 0 ≤ x.g i 1 ∧ x.g i 1 ≤ 65536) →
    (List.range n).foldl (fun a i => IntKind.i64.wrap (a + x.g i 1)) a = a + sumI x n ∧ 0 ≤ sumI x n ∧ sumI x n ≤ 65536 * (n : Int) := by
  intro n
  induction n with
  | zero => intro _ _; simp [sumI]
  | succ n ih =>
    intro hn h
    obtain ⟨h1, h2, h3⟩ := ih (by omega) (fun i hi => h i (by omega))
    have h4 := h n (by omega)
    rw [sumI_succ, List.range_succ, List.foldl_append, h1]
    refine ⟨?_, by omega, by omega⟩
    simp only [List.foldl_cons, List.foldl_nil]
    rw [w64_in (by omega) (by omega)]; omega
structure CurveOk (c : Curve) : Prop where
  pos : 0 < len c.knots
  le : len c.knots ≤ 40
  err : 0 ≤ c.err ∧ c.err ≤ 4000
  x : ∀ i, i < len c.knots → 0 ≤ c.knots.g i 0 ∧ c.knots.g i 0 ≤ 2000
  y : ∀ i, i < len c.knots → -65536 ≤ c.knots.g i 1 ∧ c.knots.g i 1 ≤ 65536
  inc : ∀ i, i + 1 < len c.knots → c.knots.g i 0 < c.knots.g (i + 1) 0
theorem orr_zero {o : Option Int} (h : K.orr id 0 o = 0) (hne : ∀ x, o = some x → x ≠ 0) : o = none := by
  cases o with
  | none => rfl
  | some x => exact absurd h (hne x rfl)
theorem findSome_ne {e : Nat → Option Int} {n : Nat} (h : ∀ i x, e i = some x → x ≠ 0) : ∀ x, (List.range n).findSome? e = some x → x ≠ 0 := by
  intro x hx
  obtain ⟨i, _, hi⟩ := List.exists_of_findSome?_eq_some hx
  exact h i x hi
theorem none_all {e : Nat → Option Int} {n : Nat} (h : (List.range n).findSome? e = none) : ∀ i, i < n → e i = none := fun i hi => List.findSome?_eq_none_iff.1 h i (List.mem_range.2 hi)
theorem kntE_ne (x : XS) (i : Nat) (e : Int) (h : kntE x i = some e) : e ≠ 0 := by
  unfold kntE at h
  split at h
  · injection h with h; omega
  split at h
  · injection h with h; omega
  · cases h
theorem curve_ok {c : Curve} (h : curveCheck c = 0) : CurveOk c := by
  have hpos : 0 < len c.knots := curve_pos (by rw [h]; decide)
  unfold curveCheck at h
  by_cases h1 : (len c.knots : Int) > 40
  · rw [if_pos h1] at h; cases h
  rw [if_neg h1] at h
  obtain ⟨_, h⟩ := ite_no (by decide) h
  obtain ⟨h2, h⟩ := ite_no (by decide) h
  have hn := none_all (orr_zero h (findSome_ne (kntE_ne c.knots)))
  have hp : ∀ i, i < len c.knots → 0 ≤ c.knots.g i 0 := fun i hi => kntE_pos i (fun j hj => hn j (by omega))
  refine ⟨hpos, by omega, within_iff.1 (by simpa using h2), fun i hi => ⟨hp i hi, kntE_some (hn i hi)⟩, fun i hi => ?_, fun i hi => ?_⟩
  · have := hn i hi
    unfold kntE at this
    cases hw : within (c.knots.g i 1) (-65536) 65536 with
    | true => exact within_iff.1 hw
    | false => rw [hw] at this; simp at this
  · have := hn (i + 1) hi
    have b := kntE_some (hn i (by omega)); have b2 := hp i (by omega)
    unfold kntE at this
    cases hw : within (c.knots.g (i + 1) 0) (IntKind.i64.wrap (lastX c.knots (i + 1) + 1)) 2000 with
    | true =>
      have := (within_iff.1 hw).1
      rw [show lastX c.knots (i + 1) = c.knots.g i 0 from rfl, w64_in (by omega) (by omega)] at this
      omega
    | false => rw [hw] at this; simp at this
theorem upDown_fst (L : List (Int × Piece)) : ∀ u d, (upDown L u d).1 = (u && L.all (fun p => decide (rise p.2 > 0))) := by
  induction L with
  | nil => intro u d; simp [upDown]
  | cons x L ih => intro u d; have := ih (u && decide (rise x.2 > 0)) (d && decide (rise x.2 < 0)); unfold upDown at this ⊢; rw [List.foldl_cons, this, List.all_cons, Bool.and_assoc]
def riseAll (c : Curve) : Prop := ∀ i, i + 1 < len c.knots → c.knots.g i 1 < c.knots.g (i + 1) 1
theorem up_iff {c : Curve} (o : CurveOk c) : (upDown (piecesL c) true true).1 = true ↔ riseAll c := by
  rw [upDown_fst, Bool.true_and, List.all_eq_true]
  have e : ∀ i, i + 1 < len c.knots → rise (⟨knt c.knots i, knt c.knots (i + 1)⟩ : Piece) = c.knots.g (i + 1) 1 - c.knots.g i 1 := by
    intro i hi
    have h1 := o.y i (by omega); have h2 := o.y (i + 1) hi
    exact w64_in (n := c.knots.g (i + 1) 1 - c.knots.g i 1) (by omega) (by omega)
  constructor
  · intro h i hi
    have := h ((i : Int), ⟨knt c.knots i, knt c.knots (i + 1)⟩) (by unfold piecesL; exact List.mem_map.2 ⟨i, List.mem_range.2 (by omega), rfl⟩)
    rw [decide_eq_true_eq, e i hi] at this; omega
  · intro h p hp
    unfold piecesL at hp
    obtain ⟨i, hi, rfl⟩ := List.mem_map.1 hp
    have hi := List.mem_range.1 hi
    rw [decide_eq_true_eq, e i (by omega)]
    have := h i (by omega); omega
theorem rising_one {c : Curve} (o : CurveOk c) : rising c = 1 ↔ riseAll c := by
  rw [← up_iff o]; unfold rising
  cases (upDown (piecesL c) true true).1 <;> cases (upDown (piecesL c) true true).2 <;> simp
theorem hldE_ok {x : XS} {i : Nat} (h : hldE x i = none) : (1 ≤ x.g i 0 ∧ x.g i 0 ≤ 1099511627776) ∧ (0 ≤ x.g i 1 ∧ x.g i 1 ≤ 65536) ∧ placed (x.g i 2, x.g i 3) = true ∧ twice x i = false := by
  unfold hldE at h
  cases h1 : within (x.g i 0) 1 1099511627776 with
  | false => rw [h1] at h; simp at h
  | true =>
    cases h2 : within (x.g i 1) 0 65536 with
    | false => rw [h1, h2] at h; simp at h
    | true =>
      cases h3 : placed (x.g i 2, x.g i 3) with
      | false => rw [h1, h2, h3] at h; simp at h
      | true =>
        cases h4 : twice x i with
        | true => rw [h1, h2, h3, h4] at h; simp at h
        | false => exact ⟨within_iff.1 h1, within_iff.1 h2, rfl, rfl⟩
theorem rooms_is {s : Ship} (hl : 1 ≤ s.light ∧ s.light ≤ 65536) (hh : len s.holds ≤ 8) (hr : ∀ i, i < len s.holds → 0 ≤ s.holds.g i 1 ∧ s.holds.g i 1 ≤ 65536) :
    rooms s = s.light + sumI s.holds (len s.holds) ∧ 0 ≤ sumI s.holds (len s.holds) ∧ sumI s.holds (len s.holds) ≤ 65536 * (len s.holds : Int) := by
  exact fold_rooms s.holds s.light (by omega) (len s.holds) (by omega) hr
/-- What a valid ship is. -/
structure ShipOk (s : Ship) : Prop where
  light : 1 ≤ s.light ∧ s.light ≤ 65536
  holds : len s.holds ≤ 8
  hold : ∀ i, i < len s.holds → hldE s.holds i = none
  room : rooms s = s.light + sumI s.holds (len s.holds)
  room0 : 0 ≤ sumI s.holds (len s.holds)
  most : rooms s ≤ 65536
  mean : CurveOk s.mean
  mc : CurveOk s.mc
  rises : riseAll s.mean
  low : s.mean.knots.g 0 0 * 40 ≤ s.light
  high : rooms s ≤ s.mean.knots.g (len s.mean.knots - 1) 0 * 40
  y0 : ∀ i, i < len s.mean.knots → 0 ≤ s.mean.knots.g i 1
  z0 : ∀ i, i < len s.mc.knots → 0 ≤ s.mc.knots.g i 1
  turn : 1 ≤ s.turn ∧ s.turn ≤ 1048576
  least : 0 ≤ s.least ∧ s.least ≤ 5000
  place : placed (s.lever, s.height) = true
  mlow : s.mc.knots.g 0 0 * 40 ≤ s.light
  mhigh : rooms s ≤ s.mc.knots.g (len s.mc.knots - 1) 0 * 40
theorem hldE_ne (x : XS) (i : Nat) (e : Int) (h : hldE x i = some e) : e ≠ 0 := by
  unfold hldE at h
  split at h
  · injection h with h; omega
  split at h
  · injection h with h; omega
  split at h
  · injection h with h; omega
  split at h
  · injection h with h; omega
  · cases h
theorem tabled_ok {s : Ship} {c : Curve} (o : CurveOk c) (h : tabled s c = 0) : c.knots.g 0 0 * 40 ≤ s.light ∧ rooms s ≤ c.knots.g (len c.knots - 1) 0 * 40 ∧ ∀ i, i < len c.knots → 0 ≤ c.knots.g i 1 := by
  unfold tabled at h
  have p := o.pos
  have x0 := o.x 0 p; have x1 := o.x (len c.knots - 1) (by omega)
  have e1 : (massesOf c).lo = c.knots.g 0 0 * 40 := w64_in (by omega) (by omega)
  have e2 : (massesOf c).hi = c.knots.g (len c.knots - 1) 0 * 40 := w64_in (by omega) (by omega)
  rw [e1, e2] at h
  split at h
  · cases h
  rename_i h1
  split at h
  · cases h
  rename_i h2
  split at h
  · cases h
  rename_i h3
  refine ⟨by omega, by omega, fun i hi => ?_⟩
  have h4 : first (p_tab1 () c.knots) (len c.knots) = none := by
    unfold has_tab1 at h3
    cases hf : first (p_tab1 () c.knots) (len c.knots) with
    | none => rfl
    | some j => rw [hf] at h3; simp at h3
  have h5 := first_none' h4 i hi
  have h6 : ¬ c.knots.g i 1 < 0 := of_decide_eq_false h5
  omega
theorem ship_ok {s : Ship} (h : hullCheck s = 0) : ShipOk s := by
  unfold hullCheck at h
  obtain ⟨h1, h⟩ := ite_no (by decide) h
  obtain ⟨h2, h⟩ := ite_no (by decide) h
  obtain ⟨h3, h⟩ := ite_no (by decide) h
  obtain ⟨h4, h⟩ := ite_no (by decide) h
  obtain ⟨h5, h⟩ := ite_no (by decide) h
  obtain ⟨h6, h⟩ := ite_no (by decide) h
  have h6 := of_decide_eq_false h6
  cases hh : (List.range (len s.holds)).findSome? (hldE s.holds) with
  | some e => rw [hh] at h; exact absurd h (findSome_ne (hldE_ne s.holds) e hh)
  | none =>
    rw [hh] at h
    simp only [K.orr] at h
    have hn := none_all hh
    have h2' := within_iff.1 (show within s.light 1 65536 = true by simpa using h2)
    obtain ⟨a1, a3, a4⟩ := rooms_is h2' (by omega) (fun i hi => (hldE_ok (hn i hi)).2.1)
    obtain ⟨h7, h⟩ := ite_no (by decide) h
    obtain ⟨h8, h⟩ := ite_err h
    obtain ⟨h9, h⟩ := ite_err h
    obtain ⟨h10, h⟩ := ite_no (by decide) h
    obtain ⟨h11, h⟩ := ite_err h
    obtain ⟨h12, _⟩ := ite_err h
    have o := curve_ok h8
    have o2 := curve_ok h9
    have hR : (Rising s.mean).1 = rising s.mean := by unfold Rising; rw [h8]; rfl
    have hr : rising s.mean = 1 := by rw [← hR]; simpa using h10
    obtain ⟨t1, t2, t3⟩ := tabled_ok o h11
    obtain ⟨u1, u2, u3⟩ := tabled_ok o2 h12
    exact ⟨h2', by omega, hn, a1, a3, by have := of_decide_eq_false h7; omega, o, o2, (rising_one o).1 hr, t1, t2, t3, u3, within_iff.1 (by simpa using h4), within_iff.1 (by simpa using h5), by simpa using h3, u1, u2⟩
theorem bne_zero {n : Int} (h : ¬ (n != 0) = true) : n = 0 := by simpa using h
structure RatioOk (f : Frac) : Prop where
  den : 0 < f.den
  den2 : f.den ≤ 2097152
  num : 0 ≤ f.num
  num2 : f.num ≤ 2000 * f.den
/-- The least mass of a volume, and the greatest. -/
def massLo (f : Frac) (d : Int) : Int := IntKind.i64.wrap (Int.tdiv (IntKind.i64.wrap (IntKind.i64.wrap (IntKind.i64.wrap (f.num * d) + IntKind.i64.wrap (25 * f.den)) - 1)) (IntKind.i64.wrap (25 * f.den)))
def massHi (f : Frac) (d : Int) : Int := IntKind.i64.wrap (Int.tdiv (IntKind.i64.wrap (f.num * d)) (IntKind.i64.wrap (25 * f.den)))
theorem prod_le {f : Frac} (h : RatioOk f) {d : Int} (h0 : 0 ≤ d) (h1 : d ≤ 1100) : 0 ≤ f.num * d ∧ f.num * d ≤ 4613734400000 := by
  obtain ⟨a1, a2, a3, a4⟩ := h
  refine ⟨Int.mul_nonneg a3 h0, ?_⟩
  have := Int.mul_le_mul (show f.num ≤ 4194304000 by omega) h1 h0 (by omega)
  exact this
theorem massLo_eq {f : Frac} (h : RatioOk f) {d : Int} (h0 : 0 ≤ d) (h1 : d ≤ 1100) : massLo f d = (f.num * d + 25 * f.den - 1) / (25 * f.den) := by
  obtain ⟨p0, p1⟩ := prod_le h h0 h1
  obtain ⟨a1, a2, a3, a4⟩ := h
  unfold massLo
  generalize f.num * d = p at *
  rw [w64_in (n := p) (by omega) (by omega), w64_in (n := 25 * f.den) (by omega) (by omega), w64_in (n := p + 25 * f.den) (by omega) (by omega), w64_in (n := p + 25 * f.den - 1) (by omega) (by omega), Int.tdiv_eq_ediv_of_nonneg (by omega)]
  have q1 := Int.ediv_nonneg (show 0 ≤ p + 25 * f.den - 1 by omega) (show 0 ≤ 25 * f.den by omega)
  have q2 := Int.ediv_le_self (25 * f.den) (show 0 ≤ p + 25 * f.den - 1 by omega)
  rw [w64_in (by omega) (by omega)]
theorem massHi_eq {f : Frac} (h : RatioOk f) {d : Int} (h0 : 0 ≤ d) (h1 : d ≤ 1100) : massHi f d = f.num * d / (25 * f.den) := by
  obtain ⟨p0, p1⟩ := prod_le h h0 h1
  obtain ⟨a1, a2, a3, a4⟩ := h
  unfold massHi
  generalize f.num * d = p at *
  rw [w64_in (n := p) (by omega) (by omega), w64_in (n := 25 * f.den) (by omega) (by omega), Int.tdiv_eq_ediv_of_nonneg (by omega)]
  have q1 := Int.ediv_nonneg (show 0 ≤ p by omega) (show 0 ≤ 25 * f.den by omega)
  have q2 := Int.ediv_le_self (25 * f.den) (show 0 ≤ p by omega)
  rw [w64_in (by omega) (by omega)]
theorem rise_lt {c : Curve} (r : riseAll c) : ∀ k i, i + k + 1 < len c.knots → c.knots.g i 1 < c.knots.g (i + k + 1) 1 := by
  intro k
  induction k with
  | zero => intro i h; exact r i h
  | succ k ih => intro i h; have := ih i (by omega); have h2 := r (i + k + 1) (by omega); exact Int.lt_trans this h2
theorem ratioAt_eq {c : Curve} (o : CurveOk c) (r : riseAll c) {y : Int} {i : Nat} (hi : i + 1 < len c.knots) (h0 : 16 * c.knots.g i 1 ≤ y) (h1 : y ≤ 16 * c.knots.g (i + 1) 1) :
    ratioAt c.knots y i = ⟨c.knots.g i 0 * (16 * (c.knots.g (i + 1) 1 - c.knots.g i 1)) + (y - 16 * c.knots.g i 1) * (c.knots.g (i + 1) 0 - c.knots.g i 0), 16 * (c.knots.g (i + 1) 1 - c.knots.g i 1)⟩ ∧ RatioOk (ratioAt c.knots y i) := by
  have a0 := o.x i (by omega); have a1 := o.x (i + 1) hi
  have b0 := o.y i (by omega); have b1 := o.y (i + 1) hi
  have hr := r i hi; have hx := o.inc i hi
  unfold ratioAt riseAt
  generalize c.knots.g i 0 = x0 at *; generalize c.knots.g (i + 1) 0 = x1 at *
  generalize c.knots.g i 1 = y0 at *; generalize c.knots.g (i + 1) 1 = y1 at *
  rw [w64_in (n := y1 - y0) (by omega) (by omega), w64_in (n := 16 * (y1 - y0)) (by omega) (by omega), w64_in (n := 16 * y0) (by omega) (by omega), w64_in (n := y - 16 * y0) (by omega) (by omega), w64_in (n := x1 - x0) (by omega) (by omega)]
  have hR : 0 < 16 * (y1 - y0) ∧ 16 * (y1 - y0) ≤ 2097152 := by omega
  have hd : 0 ≤ y - 16 * y0 ∧ y - 16 * y0 ≤ 16 * (y1 - y0) := by omega
  generalize 16 * (y1 - y0) = R at *
  generalize y - 16 * y0 = d at *
  have m1 : 0 ≤ x0 * R := Int.mul_nonneg a0.1 (by omega)
  have m2 : 0 ≤ d * (x1 - x0) := Int.mul_nonneg hd.1 (by omega)
  have m3 : d * (x1 - x0) ≤ R * (x1 - x0) := Int.mul_le_mul_of_nonneg_right hd.2 (by omega)
  have m4 : R * (x1 - x0) = x1 * R - x0 * R := by rw [Int.mul_sub, Int.mul_comm R, Int.mul_comm R]
  have m5 : x1 * R ≤ 2000 * R := Int.mul_le_mul_of_nonneg_right a1.2 (by omega)
  rw [w64_in (n := x0 * R) (by omega) (by omega), w64_in (n := d * (x1 - x0)) (by omega) (by omega), w64_in (by omega) (by omega)]
  exact ⟨rfl, ⟨hR.1, hR.2, by simp only; omega, by simp only; omega⟩⟩
theorem den25 {f : Frac} (h : RatioOk f) : (!decide (IntKind.i64.wrap (25 * f.den) = 0)) = true := by
  obtain ⟨h1, h2, h3, h4⟩ := h
  rw [w64_in (by omega) (by omega), Bool.not_eq_true', decide_eq_false_iff_not]; omega
theorem massOf_form {s : Ship} {b : Bulbs} {x : Survey} : massOf s b x = if void (ySpan s x) = true then ⟨1, 0⟩ else meet ⟨massLo (whereOf s.mean (ySpan s x).lo) (density (b, x)).1.lo, massHi (whereOf s.mean (ySpan s x).hi) (density (b, x)).1.hi⟩ ⟨s.light, rooms s⟩ := by
  unfold massOf volumes massLo massHi
  cases h : void (ySpan s x) with
  | true => rfl
  | false => rfl
theorem y_bounds {s : Ship} {x : Survey} (hs : ShipOk s) (h : void (ySpan s x) = false) : 16 * s.mean.knots.g 0 1 ≤ (ySpan s x).lo ∧ (ySpan s x).lo ≤ (ySpan s x).hi ∧ (ySpan s x).hi ≤ 16 * s.mean.knots.g (len s.mean.knots - 1) 1 := by
  have v := void_false.1 h
  have p := hs.mean.pos
  have a := hs.mean.y 0 p; have c := hs.mean.y (len s.mean.knots - 1) (by omega)
  refine ⟨?_, v, ?_⟩
  · unfold ySpan meet; simp only
    rw [w64_in (n := 16 * s.mean.knots.g 0 1) (by omega) (by omega)]; split <;> omega
  · unfold ySpan meet; simp only
    rw [w64_in (n := 16 * s.mean.knots.g (len s.mean.knots - 1) 1) (by omega) (by omega)]; split <;> omega

/-- Where a rising curve has a value: a point of one of its pieces. -/
structure At (c : Curve) (y : Int) (f : Frac) : Prop where
  ok : RatioOk f
  piece : (len c.knots = 1 ∧ f = ⟨c.knots.g 0 0, 1⟩ ∧ y = 16 * c.knots.g 0 1) ∨ ∃ i, i + 1 < len c.knots ∧ 16 * c.knots.g i 1 ≤ y ∧ y ≤ 16 * c.knots.g (i + 1) 1 ∧
    f = ⟨c.knots.g i 0 * (16 * (c.knots.g (i + 1) 1 - c.knots.g i 1)) + (y - 16 * c.knots.g i 1) * (c.knots.g (i + 1) 0 - c.knots.g i 0), 16 * (c.knots.g (i + 1) 1 - c.knots.g i 1)⟩
theorem piece_at {c : Curve} {y : Int} : ∀ n, n + 1 < len c.knots → 16 * c.knots.g 0 1 ≤ y → y ≤ 16 * c.knots.g (n + 1) 1 → ∃ i, i ≤ n ∧ 16 * c.knots.g i 1 ≤ y ∧ y ≤ 16 * c.knots.g (i + 1) 1 := by
  intro n
  induction n with
  | zero => intro _ h0 h1; exact ⟨0, Nat.le_refl _, h0, h1⟩
  | succ n ih =>
    intro hn h0 h1
    by_cases h : y ≤ 16 * c.knots.g (n + 1) 1
    · obtain ⟨i, a, b, d⟩ := ih (by omega) h0 h; exact ⟨i, by omega, b, d⟩
    · exact ⟨n + 1, Nat.le_refl _, by omega, h1⟩
theorem where_at {c : Curve} (o : CurveOk c) (r : riseAll c) {y : Int} (h0 : 16 * c.knots.g 0 1 ≤ y) (h1 : y ≤ 16 * c.knots.g (len c.knots - 1) 1) : At c y (whereOf c y) := by
  have hp := o.pos
  have e16 : ∀ i, i < len c.knots → IntKind.i64.wrap (16 * c.knots.g i 1) = 16 * c.knots.g i 1 := fun i hi => by have := o.y i hi; exact w64_in (by omega) (by omega)
  have hip : ∀ i, i + 1 < len c.knots → (inPiece c.knots y i = true ↔ 16 * c.knots.g i 1 ≤ y ∧ y ≤ 16 * c.knots.g (i + 1) 1) := by
    intro i hi
    unfold inPiece
    rw [e16 i (by omega), e16 (i + 1) hi, within_iff]
  unfold whereOf
  cases hf : first (inPiece c.knots y) (len c.knots - 1) with
  | some i =>
    obtain ⟨f1, f2, _⟩ := first_spec hf
    have hb := (hip i (by omega)).1 f2
    obtain ⟨q1, q2⟩ := ratioAt_eq o r (i := i) (by omega) hb.1 hb.2
    exact ⟨q2, .inr ⟨i, by omega, hb.1, hb.2, q1⟩⟩
  | none =>
    have hn := first_none' hf
    by_cases h : len c.knots = 1
    · have x0 := o.x 0 hp
      rw [h, show 1 - 1 = 0 from rfl] at h1
      exact ⟨⟨by simp only; omega, by simp only; omega, by simp only; omega, by simp only; omega⟩, .inl ⟨h, rfl, by omega⟩⟩
    · obtain ⟨n, hnn⟩ : ∃ n, len c.knots = n + 2 := ⟨len c.knots - 2, by omega⟩
      rw [hnn, show n + 2 - 1 = n + 1 by omega] at h1
      obtain ⟨i, a, b, d⟩ := piece_at n (by omega) h0 h1
      have := hn i (by omega)
      rw [(hip i (by omega)).2 ⟨b, d⟩] at this; cases this
section
variable {s : Ship} {b : Bulbs} {x : Survey} (hs : ShipOk s)
include hs
theorem wheres (h : void (ySpan s x) = false) : At s.mean (ySpan s x).lo (whereOf s.mean (ySpan s x).lo) ∧ At s.mean (ySpan s x).hi (whereOf s.mean (ySpan s x).hi) := by
  obtain ⟨a, b, c⟩ := y_bounds (x := x) hs h
  exact ⟨where_at hs.mean hs.rises a (by omega), where_at hs.mean hs.rises (by omega) c⟩
theorem massOk_is : massOk s x = true := by
  unfold massOk volumes
  rw [decide_eq_true hs.mean.pos]
  cases h : void (ySpan s x) with
  | true => rfl
  | false =>
    obtain ⟨a, b⟩ := wheres (x := x) hs h
    simp only [Bool.false_eq_true, if_false, Bool.not_true, Bool.false_or, Bool.true_and]
    rw [den25 a.ok, den25 b.ok]; rfl
end
end K
end Go.Proofs.Ytjbhooodjmjdkaa
/-! KO2 -/
namespace Go.Proofs.Ytjbhooodjmjdkaa
open Ev K
set_option maxRecDepth 100000
def D_sck := DecL.cons (dShip) (.cons (dBulbs) (.last (dSurvey) 0))
theorem fn_checked : ∀ a, (callT1 P BKO17 30 23 D_sck (dI .i64)) a = T.run (
  .br (hullCheck (Prod.fst a) != (0 : Int)) (
    .ret (hullCheck (Prod.fst a))) (
    .ret (Check (Prod.snd a)))) := fun a => by kernel_rfl
noncomputable def K.checked (a : Ship × Bulbs × Survey) : Int := (if (hullCheck (Prod.fst a) != (0 : Int)) = true then hullCheck (Prod.fst a) else Check (Prod.snd a))
theorem eq_checked (a : Ship × Bulbs × Survey) : (callT1 P BKO17 30 23 D_sck (dI .i64)) a = some (K.checked a) := (fn_checked a).trans (T.br_some rfl rfl)
noncomputable def BKO21 : Tab := BKO17.addCall 23 (callE D_sck (dI .i64) (fun a => .ret (K.checked a)))
theorem tKO21 : TabOk P BKO21 := TabOk.addFn (d := 30) okP tKO17 (fun a r h => by rw [eq_checked]; exact congrArg some (ret_some h))
def R_pos := dTup (.cons dB (.last (dI .i64) 0))
def D_pos := DecL.cons (dShip) (.cons (dBulbs) (.cons (dSurvey) (.last (dI .i64) 0)))
theorem fn_sMas : ∀ a, (callT1 P BKO21 30 8 D_sck R_off) a = T.run (
  .br (checked a != (0 : Int)) (
    .ret ((Span.mk (0 : Int) (0 : Int), checked a))) (
    .chk (massOk (Prod.fst a) (Prod.snd (Prod.snd a))) <|
    .br (void (massOf (Prod.fst a) (Prod.fst (Prod.snd a)) (Prod.snd (Prod.snd a)))) (
      .ret ((Span.mk (0 : Int) (0 : Int), (9 : Int)))) (
      .ret ((massOf (Prod.fst a) (Prod.fst (Prod.snd a)) (Prod.snd (Prod.snd a)), (0 : Int)))))) := fun a => by kernel_rfl
theorem fn_sPos : ∀ a, (callT1 P BKO21 30 10 D_pos R_pos) a = T.run (
  .br (checked (Prod.fst a, Prod.fst (Prod.snd a), Prod.fst (Prod.snd (Prod.snd a))) != (0 : Int)) (
    .ret ((false, checked (Prod.fst a, Prod.fst (Prod.snd a), Prod.fst (Prod.snd (Prod.snd a)))))) (
    .chk (massOk (Prod.fst a) (Prod.fst (Prod.snd (Prod.snd a)))) <|
    .ret ((within (Prod.snd (Prod.snd (Prod.snd a))) (Span.lo (massOf (Prod.fst a) (Prod.fst (Prod.snd a)) (Prod.fst (Prod.snd (Prod.snd a))))) (Span.hi (massOf (Prod.fst a) (Prod.fst (Prod.snd a)) (Prod.fst (Prod.snd (Prod.snd a))))), (0 : Int))))) := fun a => by kernel_rfl
theorem fn_Density : ∀ a, (callT1 P BKO21 30 11 D_chk R_off) a = T.run (
  .br (Check a != (0 : Int)) (
    .ret ((Span.mk (0 : Int) (0 : Int), Check a))) (
    .ret (density a))) := fun a => by kernel_rfl
noncomputable def K.Density (a : Bulbs × Survey) : Span × Int := (if (Check a != (0 : Int)) = true then (Span.mk (0 : Int) (0 : Int), Check a) else density a)
theorem eq_Density (a : Bulbs × Survey) : (callT1 P BKO21 30 11 D_chk R_off) a = some (K.Density a) := (fn_Density a).trans (T.br_some rfl rfl)
noncomputable def BKO22 : Tab := BKO21.addCall 11 (callE D_chk R_off (fun a => .ret (K.Density a)))
theorem tKO22 : TabOk P BKO22 := TabOk.addFn (d := 30) okP tKO21 (fun a r h => by rw [eq_Density]; exact congrArg some (ret_some h))
def D_Bends := DecL.cons dSurvey (.last dSix 0)
theorem fn_Bends : ∀ a, (callT1 P BKO22 30 14 D_Bends dB) a = T.run (
  .br (!within (Prod.fst (Prod.snd a)) (Span.lo (Survey.m0 (Prod.fst a))) (Span.hi (Survey.m0 (Prod.fst a)))) (
    .ret (false)) (
    .br (!within (Prod.fst (Prod.snd (Prod.snd a))) (Span.lo (Survey.m1 (Prod.fst a))) (Span.hi (Survey.m1 (Prod.fst a)))) (
      .ret (false)) (
      .br (!within (Prod.fst (Prod.snd (Prod.snd (Prod.snd a)))) (Span.lo (Survey.m2 (Prod.fst a))) (Span.hi (Survey.m2 (Prod.fst a)))) (
        .ret (false)) (
        .br (!within (Prod.fst (Prod.snd (Prod.snd (Prod.snd (Prod.snd a))))) (Span.lo (Survey.m3 (Prod.fst a))) (Span.hi (Survey.m3 (Prod.fst a)))) (
          .ret (false)) (
          .br (!within (Prod.fst (Prod.snd (Prod.snd (Prod.snd (Prod.snd (Prod.snd a)))))) (Span.lo (Survey.m4 (Prod.fst a))) (Span.hi (Survey.m4 (Prod.fst a)))) (
            .ret (false)) (
            .br (!within (Prod.snd (Prod.snd (Prod.snd (Prod.snd (Prod.snd (Prod.snd a)))))) (Span.lo (Survey.m5 (Prod.fst a))) (Span.hi (Survey.m5 (Prod.fst a)))) (
              .ret (false)) (
              .ret (within (IntKind.wrap IntKind.i64 (IntKind.wrap IntKind.i64 (IntKind.wrap IntKind.i64 (IntKind.wrap IntKind.i64 (IntKind.wrap IntKind.i64 ((2 : Int) * IntKind.wrap IntKind.i64 (Prod.fst (Prod.snd (Prod.snd (Prod.snd a))) + Prod.fst (Prod.snd (Prod.snd (Prod.snd (Prod.snd a)))))) - Prod.fst (Prod.snd a)) - Prod.fst (Prod.snd (Prod.snd a))) - Prod.fst (Prod.snd (Prod.snd (Prod.snd (Prod.snd (Prod.snd a)))))) - Prod.snd (Prod.snd (Prod.snd (Prod.snd (Prod.snd (Prod.snd a))))))) (IntKind.wrap IntKind.i64 ((-4 : Int) * Survey.sag (Prod.fst a))) (IntKind.wrap IntKind.i64 ((4 : Int) * Survey.sag (Prod.fst a))))))))))) := fun a => by kernel_rfl
noncomputable def K.Bends (a : Survey × Int × Int × Int × Int × Int × Int) : Bool := (if (!within (Prod.fst (Prod.snd a)) (Span.lo (Survey.m0 (Prod.fst a))) (Span.hi (Survey.m0 (Prod.fst a)))) = true then false else (if (!within (Prod.fst (Prod.snd (Prod.snd a))) (Span.lo (Survey.m1 (Prod.fst a))) (Span.hi (Survey.m1 (Prod.fst a)))) = true then false else (if (!within (Prod.fst (Prod.snd (Prod.snd (Prod.snd a)))) (Span.lo (Survey.m2 (Prod.fst a))) (Span.hi (Survey.m2 (Prod.fst a)))) = true then false else (if (!within (Prod.fst (Prod.snd (Prod.snd (Prod.snd (Prod.snd a))))) (Span.lo (Survey.m3 (Prod.fst a))) (Span.hi (Survey.m3 (Prod.fst a)))) = true then false else (if (!within (Prod.fst (Prod.snd (Prod.snd (Prod.snd (Prod.snd (Prod.snd a)))))) (Span.lo (Survey.m4 (Prod.fst a))) (Span.hi (Survey.m4 (Prod.fst a)))) = true then false else (if (!within (Prod.snd (Prod.snd (Prod.snd (Prod.snd (Prod.snd (Prod.snd a)))))) (Span.lo (Survey.m5 (Prod.fst a))) (Span.hi (Survey.m5 (Prod.fst a)))) = true then false else within (IntKind.wrap IntKind.i64 (IntKind.wrap IntKind.i64 (IntKind.wrap IntKind.i64 (IntKind.wrap IntKind.i64 (IntKind.wrap IntKind.i64 ((2 : Int) * IntKind.wrap IntKind.i64 (Prod.fst (Prod.snd (Prod.snd (Prod.snd a))) + Prod.fst (Prod.snd (Prod.snd (Prod.snd (Prod.snd a)))))) - Prod.fst (Prod.snd a)) - Prod.fst (Prod.snd (Prod.snd a))) - Prod.fst (Prod.snd (Prod.snd (Prod.snd (Prod.snd (Prod.snd a)))))) - Prod.snd (Prod.snd (Prod.snd (Prod.snd (Prod.snd (Prod.snd a))))))) (IntKind.wrap IntKind.i64 ((-4 : Int) * Survey.sag (Prod.fst a))) (IntKind.wrap IntKind.i64 ((4 : Int) * Survey.sag (Prod.fst a)))))))))
theorem eq_Bends (a : Survey × Int × Int × Int × Int × Int × Int) : (callT1 P BKO22 30 14 D_Bends dB) a = some (K.Bends a) := (fn_Bends a).trans (T.br_some rfl (T.br_some rfl (T.br_some rfl (T.br_some rfl (T.br_some rfl (T.br_some rfl rfl))))))
noncomputable def BKO23 : Tab := BKO22.addCall 14 (callE D_Bends dB (fun a => .ret (K.Bends a)))
theorem tKO23 : TabOk P BKO23 := TabOk.addFn (d := 30) okP tKO22 (fun a r h => by rw [eq_Bends]; exact congrArg some (ret_some h))
def D_six := DecL.last dSix 0
theorem fn_lsix : ∀ a, (callT1 P BKO23 30 16 D_six (dI .i64)) a = T.run (
  .ret (IntKind.wrap IntKind.i64 (IntKind.wrap IntKind.i64 (IntKind.wrap IntKind.i64 (IntKind.wrap IntKind.i64 (IntKind.wrap IntKind.i64 (Prod.fst a + Prod.fst (Prod.snd a)) + IntKind.wrap IntKind.i64 ((6 : Int) * Prod.fst (Prod.snd (Prod.snd a)))) + IntKind.wrap IntKind.i64 ((6 : Int) * Prod.fst (Prod.snd (Prod.snd (Prod.snd a))))) + Prod.fst (Prod.snd (Prod.snd (Prod.snd (Prod.snd a))))) + Prod.snd (Prod.snd (Prod.snd (Prod.snd (Prod.snd a))))))) := fun a => by kernel_rfl
noncomputable def K.lsix (a : Int × Int × Int × Int × Int × Int) : Int := IntKind.wrap IntKind.i64 (IntKind.wrap IntKind.i64 (IntKind.wrap IntKind.i64 (IntKind.wrap IntKind.i64 (IntKind.wrap IntKind.i64 (Prod.fst a + Prod.fst (Prod.snd a)) + IntKind.wrap IntKind.i64 ((6 : Int) * Prod.fst (Prod.snd (Prod.snd a)))) + IntKind.wrap IntKind.i64 ((6 : Int) * Prod.fst (Prod.snd (Prod.snd (Prod.snd a))))) + Prod.fst (Prod.snd (Prod.snd (Prod.snd (Prod.snd a))))) + Prod.snd (Prod.snd (Prod.snd (Prod.snd (Prod.snd a)))))
theorem eq_lsix (a : Int × Int × Int × Int × Int × Int) : (callT1 P BKO23 30 16 D_six (dI .i64)) a = some (K.lsix a) := (fn_lsix a).trans rfl
noncomputable def BKO24 : Tab := BKO23.addCall 16 (callE D_six (dI .i64) (fun a => .ret (K.lsix a)))
theorem tKO24 : TabOk P BKO24 := TabOk.addFn (d := 30) okP tKO23 (fun a r h => by rw [eq_lsix]; exact congrArg some (ret_some h))
def D_wth := DecL.cons dSpan (.last dSpan 0)
theorem fn_lwith : ∀ a, (callT1 P BKO24 30 9 D_wth dB) a = T.run (
  .br (decide (Span.lo (Prod.fst a) ≥ Span.lo (Prod.snd a))) (
    .ret (decide (Span.hi (Prod.fst a) ≤ Span.hi (Prod.snd a)))) (
    .ret (false))) := fun a => by kernel_rfl
noncomputable def K.lwith (a : Span × Span) : Bool := (if (decide (Span.lo (Prod.fst a) ≥ Span.lo (Prod.snd a))) = true then decide (Span.hi (Prod.fst a) ≤ Span.hi (Prod.snd a)) else false)
theorem eq_lwith (a : Span × Span) : (callT1 P BKO24 30 9 D_wth dB) a = some (K.lwith a) := (fn_lwith a).trans (T.br_some rfl rfl)
noncomputable def BKO25 : Tab := BKO24.addCall 9 (callE D_wth dB (fun a => .ret (K.lwith a)))
theorem tKO25 : TabOk P BKO25 := TabOk.addFn (d := 30) okP tKO24 (fun a r h => by rw [eq_lwith]; exact congrArg some (ret_some h))
/-! Fits -/
def D_fit := DecL.cons dShip (.cons (dI .i64) (.cons (dI .i64) (.last (dI .i64) 0)))
def S_fit := DecS.mk0 (.skip (.cons (dI .i64) (.cons (dI .i64) (.cons (dI .i64) (.unit (dLp 0 0 0 0) (.skips 4 (.cons xKnots (.last (dI .i64) 140)))))))) (.flat 27 lShip .nil)
def X_fit := DecX.one (.exit 0) [10, 4, 1, 3, 2, 9] S_fit
noncomputable def K.st_fit := loopT1 P BKO25 30 15 57 [10, 4, 1, 3, 2, 9] S_fit X_fit
theorem sl_fit : ∀ s, (K.st_fit) s = T.run (
  .br (decide (Prod.snd (Prod.snd (Prod.snd (Prod.snd (Prod.fst s)))) < IntKind.wrap IntKind.i64 ((↑(len (Prod.fst (Prod.snd (Prod.snd (Prod.snd (Prod.fst s)))))) : Int) - (1 : Int)))) (
    .chk (decide ((0 : Int) ≤ Prod.snd (Prod.snd (Prod.snd (Prod.snd (Prod.fst s)))) ∧ Prod.snd (Prod.snd (Prod.snd (Prod.snd (Prod.fst s)))) < (↑(XS.len (Prod.fst (Prod.snd (Prod.snd (Prod.snd (Prod.fst s)))))) : Int))) <|
    .br (decide (IntKind.wrap IntKind.i64 (XS.g (Prod.fst (Prod.snd (Prod.snd (Prod.snd (Prod.fst s))))) (Int.toNat (Prod.snd (Prod.snd (Prod.snd (Prod.snd (Prod.fst s)))))) (0 : Nat) * Prod.fst (Prod.snd (Prod.snd (Prod.fst s)))) < IntKind.wrap IntKind.i64 ((25 : Int) * Prod.fst (Prod.snd (Prod.fst s))))) (
      .ret (Sum.inl ((Prod.fst (Prod.fst s), Prod.fst (Prod.snd (Prod.fst s)), Prod.fst (Prod.snd (Prod.snd (Prod.fst s))), Prod.fst (Prod.snd (Prod.snd (Prod.snd (Prod.fst s)))), IntKind.wrap IntKind.i64 (Prod.snd (Prod.snd (Prod.snd (Prod.snd (Prod.fst s)))) + (1 : Int))), Prod.fst (Prod.snd s), PUnit.unit))) (
      .ret (Sum.inr (Prod.fst s, Prod.fst (Prod.snd s), PUnit.unit)))) (
    .ret (Sum.inr (Prod.fst s, Prod.fst (Prod.snd s), PUnit.unit)))) := fun s => by kernel_rfl
noncomputable def K.L_fit := lim K.st_fit
noncomputable def BKO26 : Tab := BKO25.addNode 15 57 (nodeE [10, 4, 1, 3, 2, 9] S_fit X_fit (fun s => .obs (K.L_fit s) .ret))
theorem tKO26 : TabOk P BKO26 := TabOk.addLoop (d := 30) okP tKO25 (by kernel_rfl) (by kernel_rfl) (fun s r h => obs_ret h)
theorem fn_fit : ∀ a, (callT1 P BKO26 30 15 D_fit dB) a = T.run (
  .chk (decide ((0 : Int) ≤ (0 : Int) ∧ (0 : Int) < (↑(XS.len (Curve.knots (Ship.mean (Prod.fst a)))) : Int))) <|
  .br (decide (IntKind.wrap IntKind.i64 ((25 : Int) * Prod.fst (Prod.snd (Prod.snd a))) < IntKind.wrap IntKind.i64 (XS.g (Curve.knots (Ship.mean (Prod.fst a))) (nat_lit 0) (0 : Nat) * Prod.snd (Prod.snd (Prod.snd a))))) (
    .ret (false)) (
    .chk (decide ((0 : Int) ≤ IntKind.wrap IntKind.i64 ((↑(len (Curve.knots (Ship.mean (Prod.fst a)))) : Int) - (1 : Int)) ∧ IntKind.wrap IntKind.i64 ((↑(len (Curve.knots (Ship.mean (Prod.fst a)))) : Int) - (1 : Int)) < (↑(XS.len (Curve.knots (Ship.mean (Prod.fst a)))) : Int))) <|
    .br (decide (IntKind.wrap IntKind.i64 ((25 : Int) * Prod.fst (Prod.snd (Prod.snd a))) > IntKind.wrap IntKind.i64 (XS.g (Curve.knots (Ship.mean (Prod.fst a))) (Int.toNat (IntKind.wrap IntKind.i64 ((↑(len (Curve.knots (Ship.mean (Prod.fst a)))) : Int) - (1 : Int)))) (0 : Nat) * Prod.snd (Prod.snd (Prod.snd a))))) (
      .ret (false)) (
      .br ((↑(len (Curve.knots (Ship.mean (Prod.fst a)))) : Int) == (1 : Int)) (
        .chk (decide ((0 : Int) ≤ (0 : Int) ∧ (0 : Int) < (↑(XS.len (Curve.knots (Ship.mean (Prod.fst a)))) : Int))) <|
        .br (decide (IntKind.wrap IntKind.i64 (Prod.fst (Prod.snd a) - IntKind.wrap IntKind.i64 ((16 : Int) * XS.g (Curve.knots (Ship.mean (Prod.fst a))) (nat_lit 0) (1 : Nat))) ≤ IntKind.wrap IntKind.i64 ((16 : Int) * Curve.err (Ship.mean (Prod.fst a))))) (
          .chk (decide ((0 : Int) ≤ (0 : Int) ∧ (0 : Int) < (↑(XS.len (Curve.knots (Ship.mean (Prod.fst a)))) : Int))) <|
          .ret (decide (IntKind.wrap IntKind.i64 (IntKind.wrap IntKind.i64 ((16 : Int) * XS.g (Curve.knots (Ship.mean (Prod.fst a))) (nat_lit 0) (1 : Nat)) - Prod.fst (Prod.snd a)) ≤ IntKind.wrap IntKind.i64 ((16 : Int) * Curve.err (Ship.mean (Prod.fst a)))))) (
          .ret (false))) (
        .obs (L_fit ((Prod.fst (Prod.snd a), Prod.fst (Prod.snd (Prod.snd a)), Prod.snd (Prod.snd (Prod.snd a)), Curve.knots (Ship.mean (Prod.fst a)), (1 : Int)), Prod.fst a, PUnit.unit)) fun x0 =>
          .chk (decide ((0 : Int) ≤ IntKind.wrap IntKind.i64 (Prod.snd (Prod.snd (Prod.snd (Prod.snd (Prod.fst x0)))) - (1 : Int)) ∧ IntKind.wrap IntKind.i64 (Prod.snd (Prod.snd (Prod.snd (Prod.snd (Prod.fst x0)))) - (1 : Int)) < (↑(XS.len (Prod.fst (Prod.snd (Prod.snd (Prod.snd (Prod.fst x0)))))) : Int))) <|
          .chk (decide ((0 : Int) ≤ Prod.snd (Prod.snd (Prod.snd (Prod.snd (Prod.fst x0)))) ∧ Prod.snd (Prod.snd (Prod.snd (Prod.snd (Prod.fst x0)))) < (↑(XS.len (Prod.fst (Prod.snd (Prod.snd (Prod.snd (Prod.fst x0)))))) : Int))) <|
          .br (decide (IntKind.wrap IntKind.i64 (IntKind.wrap IntKind.i64 (Prod.fst (Prod.fst x0) * IntKind.wrap IntKind.i64 (IntKind.wrap IntKind.i64 (XS.g (Prod.fst (Prod.snd (Prod.snd (Prod.snd (Prod.fst x0))))) (Int.toNat (Prod.snd (Prod.snd (Prod.snd (Prod.snd (Prod.fst x0)))))) (0 : Nat) - XS.g (Prod.fst (Prod.snd (Prod.snd (Prod.snd (Prod.fst x0))))) (Int.toNat (IntKind.wrap IntKind.i64 (Prod.snd (Prod.snd (Prod.snd (Prod.snd (Prod.fst x0)))) - (1 : Int)))) (0 : Nat)) * Prod.fst (Prod.snd (Prod.snd (Prod.fst x0))))) - IntKind.wrap IntKind.i64 ((16 : Int) * IntKind.wrap IntKind.i64 (IntKind.wrap IntKind.i64 (XS.g (Prod.fst (Prod.snd (Prod.snd (Prod.snd (Prod.fst x0))))) (Int.toNat (IntKind.wrap IntKind.i64 (Prod.snd (Prod.snd (Prod.snd (Prod.snd (Prod.fst x0)))) - (1 : Int)))) (1 : Nat) * IntKind.wrap IntKind.i64 (IntKind.wrap IntKind.i64 (XS.g (Prod.fst (Prod.snd (Prod.snd (Prod.snd (Prod.fst x0))))) (Int.toNat (Prod.snd (Prod.snd (Prod.snd (Prod.snd (Prod.fst x0)))))) (0 : Nat) - XS.g (Prod.fst (Prod.snd (Prod.snd (Prod.snd (Prod.fst x0))))) (Int.toNat (IntKind.wrap IntKind.i64 (Prod.snd (Prod.snd (Prod.snd (Prod.snd (Prod.fst x0)))) - (1 : Int)))) (0 : Nat)) * Prod.fst (Prod.snd (Prod.snd (Prod.fst x0))))) + IntKind.wrap IntKind.i64 (IntKind.wrap IntKind.i64 (XS.g (Prod.fst (Prod.snd (Prod.snd (Prod.snd (Prod.fst x0))))) (Int.toNat (Prod.snd (Prod.snd (Prod.snd (Prod.snd (Prod.fst x0)))))) (1 : Nat) - XS.g (Prod.fst (Prod.snd (Prod.snd (Prod.snd (Prod.fst x0))))) (Int.toNat (IntKind.wrap IntKind.i64 (Prod.snd (Prod.snd (Prod.snd (Prod.snd (Prod.fst x0)))) - (1 : Int)))) (1 : Nat)) * IntKind.wrap IntKind.i64 (IntKind.wrap IntKind.i64 ((25 : Int) * Prod.fst (Prod.snd (Prod.fst x0))) - IntKind.wrap IntKind.i64 (XS.g (Prod.fst (Prod.snd (Prod.snd (Prod.snd (Prod.fst x0))))) (Int.toNat (IntKind.wrap IntKind.i64 (Prod.snd (Prod.snd (Prod.snd (Prod.snd (Prod.fst x0)))) - (1 : Int)))) (0 : Nat) * Prod.fst (Prod.snd (Prod.snd (Prod.fst x0))))))))) ≤ IntKind.wrap IntKind.i64 (IntKind.wrap IntKind.i64 ((16 : Int) * Curve.err (Ship.mean (Prod.fst (Prod.snd x0)))) * IntKind.wrap IntKind.i64 (IntKind.wrap IntKind.i64 (XS.g (Prod.fst (Prod.snd (Prod.snd (Prod.snd (Prod.fst x0))))) (Int.toNat (Prod.snd (Prod.snd (Prod.snd (Prod.snd (Prod.fst x0)))))) (0 : Nat) - XS.g (Prod.fst (Prod.snd (Prod.snd (Prod.snd (Prod.fst x0))))) (Int.toNat (IntKind.wrap IntKind.i64 (Prod.snd (Prod.snd (Prod.snd (Prod.snd (Prod.fst x0)))) - (1 : Int)))) (0 : Nat)) * Prod.fst (Prod.snd (Prod.snd (Prod.fst x0))))))) (
            .ret (decide (IntKind.wrap IntKind.i64 (IntKind.wrap IntKind.i64 ((16 : Int) * IntKind.wrap IntKind.i64 (IntKind.wrap IntKind.i64 (XS.g (Prod.fst (Prod.snd (Prod.snd (Prod.snd (Prod.fst x0))))) (Int.toNat (IntKind.wrap IntKind.i64 (Prod.snd (Prod.snd (Prod.snd (Prod.snd (Prod.fst x0)))) - (1 : Int)))) (1 : Nat) * IntKind.wrap IntKind.i64 (IntKind.wrap IntKind.i64 (XS.g (Prod.fst (Prod.snd (Prod.snd (Prod.snd (Prod.fst x0))))) (Int.toNat (Prod.snd (Prod.snd (Prod.snd (Prod.snd (Prod.fst x0)))))) (0 : Nat) - XS.g (Prod.fst (Prod.snd (Prod.snd (Prod.snd (Prod.fst x0))))) (Int.toNat (IntKind.wrap IntKind.i64 (Prod.snd (Prod.snd (Prod.snd (Prod.snd (Prod.fst x0)))) - (1 : Int)))) (0 : Nat)) * Prod.fst (Prod.snd (Prod.snd (Prod.fst x0))))) + IntKind.wrap IntKind.i64 (IntKind.wrap IntKind.i64 (XS.g (Prod.fst (Prod.snd (Prod.snd (Prod.snd (Prod.fst x0))))) (Int.toNat (Prod.snd (Prod.snd (Prod.snd (Prod.snd (Prod.fst x0)))))) (1 : Nat) - XS.g (Prod.fst (Prod.snd (Prod.snd (Prod.snd (Prod.fst x0))))) (Int.toNat (IntKind.wrap IntKind.i64 (Prod.snd (Prod.snd (Prod.snd (Prod.snd (Prod.fst x0)))) - (1 : Int)))) (1 : Nat)) * IntKind.wrap IntKind.i64 (IntKind.wrap IntKind.i64 ((25 : Int) * Prod.fst (Prod.snd (Prod.fst x0))) - IntKind.wrap IntKind.i64 (XS.g (Prod.fst (Prod.snd (Prod.snd (Prod.snd (Prod.fst x0))))) (Int.toNat (IntKind.wrap IntKind.i64 (Prod.snd (Prod.snd (Prod.snd (Prod.snd (Prod.fst x0)))) - (1 : Int)))) (0 : Nat) * Prod.fst (Prod.snd (Prod.snd (Prod.fst x0)))))))) - IntKind.wrap IntKind.i64 (Prod.fst (Prod.fst x0) * IntKind.wrap IntKind.i64 (IntKind.wrap IntKind.i64 (XS.g (Prod.fst (Prod.snd (Prod.snd (Prod.snd (Prod.fst x0))))) (Int.toNat (Prod.snd (Prod.snd (Prod.snd (Prod.snd (Prod.fst x0)))))) (0 : Nat) - XS.g (Prod.fst (Prod.snd (Prod.snd (Prod.snd (Prod.fst x0))))) (Int.toNat (IntKind.wrap IntKind.i64 (Prod.snd (Prod.snd (Prod.snd (Prod.snd (Prod.fst x0)))) - (1 : Int)))) (0 : Nat)) * Prod.fst (Prod.snd (Prod.snd (Prod.fst x0)))))) ≤ IntKind.wrap IntKind.i64 (IntKind.wrap IntKind.i64 ((16 : Int) * Curve.err (Ship.mean (Prod.fst (Prod.snd x0)))) * IntKind.wrap IntKind.i64 (IntKind.wrap IntKind.i64 (XS.g (Prod.fst (Prod.snd (Prod.snd (Prod.snd (Prod.fst x0))))) (Int.toNat (Prod.snd (Prod.snd (Prod.snd (Prod.snd (Prod.fst x0)))))) (0 : Nat) - XS.g (Prod.fst (Prod.snd (Prod.snd (Prod.snd (Prod.fst x0))))) (Int.toNat (IntKind.wrap IntKind.i64 (Prod.snd (Prod.snd (Prod.snd (Prod.snd (Prod.fst x0)))) - (1 : Int)))) (0 : Nat)) * Prod.fst (Prod.snd (Prod.snd (Prod.fst x0)))))))) (
            .ret (false)))))) := fun a => by kernel_rfl
end Go.Proofs.Ytjbhooodjmjdkaa
/-! KO3 -/
namespace Go.Proofs.Ytjbhooodjmjdkaa
open Ev K
set_option maxRecDepth 100000
namespace K
theorem mul_bd {a b A B : Int} (ha : -A ≤ a ∧ a ≤ A) (hb : -B ≤ b ∧ b ≤ B) : -(A * B) ≤ a * b ∧ a * b ≤ A * B := by
  have h1 : a.natAbs ≤ A.toNat := by omega
  have h2 : b.natAbs ≤ B.toNat := by omega
  have h3 := Nat.mul_le_mul h1 h2
  rw [← Int.natAbs_mul] at h3
  have h4 : ((A.toNat * B.toNat : Nat) : Int) = A * B := by rw [Int.natCast_mul, Int.toNat_of_nonneg (by omega), Int.toNat_of_nonneg (by omega)]
  generalize a * b = p at *
  generalize A * B = q at *
  omega
/-- Which piece of a curve a mean draught is compared with. -/
def fitIdx (x : XS) (m d : Int) : Nat := match first (fun k => !decide (x.g (k + 1) 0 * d < 25 * m)) (len x - 2) with
  | some k => k
  | none => len x - 2
def fitDen (x : XS) (d : Int) (k : Nat) : Int := (x.g (k + 1) 0 - x.g k 0) * d
def fitVal (x : XS) (m d : Int) (k : Nat) : Int := x.g k 1 * fitDen x d k + (x.g (k + 1) 1 - x.g k 1) * (25 * m - x.g k 0 * d)
def fitPt (c : Curve) (n m d : Int) (k : Nat) : Bool := decide (n * fitDen c.knots d k - 16 * fitVal c.knots m d k ≤ 16 * c.err * fitDen c.knots d k) && decide (16 * fitVal c.knots m d k - n * fitDen c.knots d k ≤ 16 * c.err * fitDen c.knots d k)
def fitsB (c : Curve) (n m d : Int) : Bool := if 25 * m < c.knots.g 0 0 * d then false else if 25 * m > c.knots.g (len c.knots - 1) 0 * d then false else
  if len c.knots = 1 then decide (n - 16 * c.knots.g 0 1 ≤ 16 * c.err) && decide (16 * c.knots.g 0 1 - n ≤ 16 * c.err) else fitPt c n m d (fitIdx c.knots m d)
noncomputable def fitOk (a : Ship × Int × Int × Int) : Bool := (hullCheck a.1 == 0) && (within a.2.1 (-2000000) 2000000 && (within a.2.2.1 0 65536 && within a.2.2.2 0 1100))
section
variable {c : Curve} (o : CurveOk c) {n m d : Int} (hn : -2000000 ≤ n ∧ n ≤ 2000000) (hm : 0 ≤ m ∧ m ≤ 65536) (hd : 0 ≤ d ∧ d ≤ 1100)
include o hm hd in
theorem L_fit_eq (s : Ship) (h2 : 2 ≤ len c.knots) : L_fit ((n, m, d, c.knots, 1), s, ()) = some ((n, m, d, c.knots, (fitIdx c.knots m d : Int) + 1), s, ()) := by
  have e1 := K.len_le c.knots; have e2 := K.len_le' c.knots
  have hx : ∀ i, i < len c.knots → IntKind.i64.wrap (c.knots.g i 0 * d) = c.knots.g i 0 * d := fun i hi => by
    have h1 := o.x i hi
    have := mul_bd (a := c.knots.g i 0) (b := d) (A := 2000) (B := 1100) (by omega) (by omega)
    exact w64_in (by omega) (by omega)
  have := lim_find (step := st_fit) (fun k : Nat => ((n, m, d, c.knots, (k : Int) + 1), s, ())) (len c.knots - 2) (fun k => !decide (c.knots.g (k + 1) 0 * d < 25 * m)) (fun k => ((n, m, d, c.knots, (k : Int) + 1), s, ())) ((n, m, d, c.knots, ((len c.knots - 2 : Nat) : Int) + 1), s, ()) (fun i hi hp => ?_) (fun i hi hp => ?_) ?_
  · show L_fit ((n, m, d, c.knots, ((0 : Nat) : Int) + 1), s, ()) = _
    unfold fitIdx
    rw [show L_fit = lim st_fit from rfl, this]
    cases first (fun k => !decide (c.knots.g (k + 1) 0 * d < 25 * m)) (len c.knots - 2) <;> rfl
  · rw [sl_fit]
    have hp : ¬ c.knots.g (i + 1) 0 * d < 25 * m := by simpa using hp
    simp only [T.run_br, T.run_chk, T.run_ret, decide_eq_true_eq]
    rw [w64_in (n := (len c.knots : Int) - 1) (by omega) (by omega), if_pos (by omega), if_pos (by omega), show ((i : Int) + 1).toNat = i + 1 by omega, hx (i + 1) (by omega), w64_in (n := 25 * m) (by omega) (by omega), if_neg hp]
  · rw [sl_fit]
    have hp : c.knots.g (i + 1) 0 * d < 25 * m := by simpa using hp
    simp only [T.run_br, T.run_chk, T.run_ret, decide_eq_true_eq]
    rw [w64_in (n := (len c.knots : Int) - 1) (by omega) (by omega), if_pos (by omega), if_pos (by omega), show ((i : Int) + 1).toNat = i + 1 by omega, hx (i + 1) (by omega), w64_in (n := 25 * m) (by omega) (by omega), if_pos hp, w64_in (n := (i : Int) + 1 + 1) (by omega) (by omega)]
    simp
  · rw [sl_fit]
    simp only [T.run_br, T.run_ret, decide_eq_true_eq]
    rw [w64_in (n := (len c.knots : Int) - 1) (by omega) (by omega), if_neg (by omega)]
end
theorem fitIdx_lt {x : XS} {m d : Int} (h : 2 ≤ len x) : fitIdx x m d + 1 < len x := by
  unfold fitIdx
  cases hf : first (fun k => !decide (x.g (k + 1) 0 * d < 25 * m)) (len x - 2) with
  | none => simp only; omega
  | some k => have := (first_spec hf).1; simp only; omega
theorem fits_eq (a : Ship × Int × Int × Int) (h : fitOk a = true) : callT1 P BKO26 30 15 D_fit dB a = some (fitsB a.1.mean a.2.1 a.2.2.1 a.2.2.2) := by
  obtain ⟨s, n, m, d⟩ := a
  unfold fitOk at h
  rw [Bool.and_eq_true, Bool.and_eq_true, Bool.and_eq_true, within_iff, within_iff, within_iff] at h
  obtain ⟨h1, hn, hm, hd⟩ := h
  simp only at hn hm hd
  have hs := ship_ok (show hullCheck s = 0 by simpa using h1)
  have o := hs.mean
  have p := o.pos
  have e1 := K.len_le s.mean.knots; have e2 := K.len_le' s.mean.knots
  have hl := o.le
  have hx : ∀ i, i < len s.mean.knots → IntKind.i64.wrap (s.mean.knots.g i 0 * d) = s.mean.knots.g i 0 * d ∧ 0 ≤ s.mean.knots.g i 0 * d ∧ s.mean.knots.g i 0 * d ≤ 2200000 := fun i hi => by
    have h1 := o.x i hi
    have := mul_bd (a := s.mean.knots.g i 0) (b := d) (A := 2000) (B := 1100) (by omega) (by omega)
    exact ⟨w64_in (by omega) (by omega), Int.mul_nonneg h1.1 hd.1, this.2⟩
  have y0 := o.y 0 p
  have er := o.err
  rw [fn_fit]; unfold fitsB
  simp only
  refine chk_step (by simp; omega) ?_
  rw [w64_in (n := 25 * m) (by omega) (by omega), (hx 0 p).1]
  simp only [w64_in (n := (len s.mean.knots : Int) - 1) (by omega) (by omega), show ((len s.mean.knots : Int) - 1).toNat = len s.mean.knots - 1 by omega]
  rw [(hx (len s.mean.knots - 1) (by omega)).1]
  by_cases c1 : 25 * m < s.mean.knots.g 0 0 * d
  · rw [if_pos c1]; exact (T.run_br _ _ _).trans (if_pos (by simpa using c1))
  rw [if_neg c1]
  refine (T.run_br _ _ _).trans ((if_neg (by simpa using c1)).trans ?_)
  refine chk_step (by simp; omega) ?_
  by_cases c2 : 25 * m > s.mean.knots.g (len s.mean.knots - 1) 0 * d
  · rw [if_pos c2]; exact (T.run_br _ _ _).trans (if_pos (by simpa using c2))
  rw [if_neg c2]
  refine (T.run_br _ _ _).trans ((if_neg (by simpa using c2)).trans ?_)
  by_cases c3 : len s.mean.knots = 1
  · rw [if_pos c3]
    refine (T.run_br _ _ _).trans ((if_pos (by rw [c3]; rfl)).trans ?_)
    refine chk_step (by simp; omega) ?_
    rw [w64_in (n := 16 * s.mean.knots.g 0 1) (by omega) (by omega), w64_in (n := n - 16 * s.mean.knots.g 0 1) (by omega) (by omega), w64_in (n := 16 * s.mean.err) (by omega) (by omega), w64_in (n := 16 * s.mean.knots.g 0 1 - n) (by omega) (by omega)]
    by_cases c4 : n - 16 * s.mean.knots.g 0 1 ≤ 16 * s.mean.err
    · rw [decide_eq_true c4]
      refine (T.run_br _ _ _).trans ((if_pos rfl).trans ?_)
      exact chk_step (by simp; omega) (by simp [T.run_ret])
    · rw [decide_eq_false c4]; rfl
  rw [if_neg c3]
  refine (T.run_br _ _ _).trans ((if_neg (by simp; omega)).trans ?_)
  have hk := fitIdx_lt (x := s.mean.knots) (m := m) (d := d) (by omega)
  rw [L_fit_eq o hm hd s (by omega), T.run_some]
  generalize fitIdx s.mean.knots m d = k at hk
  simp only [show ((k : Int) + 1).toNat = k + 1 by omega, show (k : Int) + 1 - 1 = (k : Int) by omega, w64_in (n := (k : Int)) (by omega) (by omega), Int.toNat_natCast]
  refine chk_step (by simp; omega) (chk_step (by simp; omega) ?_)
  have xa := o.x k (by omega); have xb := o.x (k + 1) hk
  have ya := o.y k (by omega); have yb := o.y (k + 1) hk
  unfold fitPt fitVal fitDen
  rw [(hx k (by omega)).1]
  have q1 := (hx k (by omega)).2
  generalize s.mean.knots.g k 0 * d = xd at q1
  generalize s.mean.knots.g k 0 = xa' at *; generalize s.mean.knots.g (k + 1) 0 = xb' at *
  generalize s.mean.knots.g k 1 = ya' at *; generalize s.mean.knots.g (k + 1) 1 = yb' at *
  rw [w64_in (n := xb' - xa') (by omega) (by omega)]
  have b1 := mul_bd (a := xb' - xa') (b := d) (A := 2000) (B := 1100) (by omega) (by omega)
  rw [w64_in (n := (xb' - xa') * d) (by omega) (by omega)]
  generalize (xb' - xa') * d = den at b1
  have b2 := mul_bd (a := n) (b := den) (A := 2000000) (B := 2200000) (by omega) (by omega)
  have b3 := mul_bd (a := ya') (b := den) (A := 65536) (B := 2200000) (by omega) (by omega)
  have b4 := mul_bd (a := yb' - ya') (b := 25 * m - xd) (A := 131072) (B := 5000000) (by omega) (by omega)
  have b5 := mul_bd (a := 16 * s.mean.err) (b := den) (A := 64000) (B := 2200000) (by omega) (by omega)
  rw [w64_in (n := yb' - ya') (by omega) (by omega), w64_in (n := 25 * m) (by omega) (by omega), w64_in (n := 25 * m - xd) (by omega) (by omega), w64_in (n := n * den) (by omega) (by omega), w64_in (n := ya' * den) (by omega) (by omega), w64_in (n := (yb' - ya') * (25 * m - xd)) (by omega) (by omega), w64_in (n := 16 * s.mean.err) (by omega) (by omega), w64_in (n := 16 * s.mean.err * den) (by omega) (by omega)]
  generalize n * den = nd at *
  generalize 16 * s.mean.err * den = ed at *
  rw [w64_in (n := ya' * den + (yb' - ya') * (25 * m - xd)) (by omega) (by omega)]
  have b6 : -800000000000 ≤ ya' * den + (yb' - ya') * (25 * m - xd) ∧ ya' * den + (yb' - ya') * (25 * m - xd) ≤ 800000000000 := by omega
  generalize ya' * den + (yb' - ya') * (25 * m - xd) = v at *
  rw [w64_in (n := 16 * v) (by omega) (by omega), w64_in (n := nd - 16 * v) (by omega) (by omega), w64_in (n := 16 * v - nd) (by omega) (by omega)]
  by_cases c4 : nd - 16 * v ≤ ed
  · rw [decide_eq_true c4]; rfl
  · rw [decide_eq_false c4]; rfl
end K
noncomputable def BKO31 : Tab := BKO26.addCall 15 (callE D_fit dB (fun a => .chk (K.fitOk a) (.ret (K.fitsB a.1.mean a.2.1 a.2.2.1 a.2.2.2))))
theorem tKO31 : TabOk P BKO31 := TabOk.addFn (d := 30) okP tKO26 (fun a r h => by obtain ⟨g, e⟩ := chk_ret h; subst e; exact K.fits_eq a g)
noncomputable def K.sMass (a : Ship × Bulbs × Survey) : Span × Int := if (checked a != 0) = true then (⟨0, 0⟩, checked a) else if void (massOf a.1 a.2.1 a.2.2) = true then (⟨0, 0⟩, 9) else (massOf a.1 a.2.1 a.2.2, 0)
theorem K.checked_ok {s : Ship} {b : Bulbs} {x : Survey} (h : checked (s, b, x) = 0) : ShipOk s ∧ CheckBulbs b = 0 ∧ Good x ∧ (density (b, x)).2 = 0 ∧ (extremes x).2 = true := by
  unfold checked at h
  obtain ⟨h1, h2⟩ := ite_err h
  exact ⟨ship_ok h1, Check_ok h2⟩
theorem K.sMass_eq (a : Ship × Bulbs × Survey) : callT1 P BKO21 30 8 D_sck R_off a = some (sMass a) := by
  obtain ⟨s, b, x⟩ := a
  rw [fn_sMas]; unfold sMass
  refine br_step (fun _ => rfl) (fun h => ?_)
  obtain ⟨hs, hb, hg, hd, he⟩ := checked_ok (bne_zero h)
  exact chk_step (massOk_is hs) (br_step (fun _ => rfl) (fun _ => rfl))
noncomputable def K.sPossible (a : Ship × Bulbs × Survey × Int) : Bool × Int := if (checked (a.1, a.2.1, a.2.2.1) != 0) = true then (false, checked (a.1, a.2.1, a.2.2.1)) else
  (within a.2.2.2 (massOf a.1 a.2.1 a.2.2.1).lo (massOf a.1 a.2.1 a.2.2.1).hi, 0)
theorem K.sPossible_eq (a : Ship × Bulbs × Survey × Int) : callT1 P BKO21 30 10 D_pos R_pos a = some (sPossible a) := by
  obtain ⟨s, b, x, n⟩ := a
  rw [fn_sPos]; unfold sPossible
  refine br_step (fun _ => rfl) (fun h => ?_)
  obtain ⟨hs, hb, hg, hd, he⟩ := checked_ok (bne_zero h)
  exact chk_step (massOk_is hs) rfl
noncomputable def BKO32 : Tab := BKO31.addCall 8 (callE D_sck R_off (fun a => .ret (sMass a)))
theorem tKO32 : TabOk P BKO32 := TabOk.addPC tKO31 (fun a r h => by rw [← ret_some h]; exact call_of okP tKO21 (sMass_eq a))
noncomputable def BKO33 : Tab := BKO32.addCall 10 (callE D_pos R_pos (fun a => .ret (sPossible a)))
theorem tKO33 : TabOk P BKO33 := TabOk.addPC tKO32 (fun a r h => by rw [← ret_some h]; exact call_of okP tKO21 (sPossible_eq a))
end Go.Proofs.Ytjbhooodjmjdkaa
/-! KO4 -/
namespace Go.Proofs.Ytjbhooodjmjdkaa
open Ev K
set_option maxRecDepth 100000
def lSix : DecL (Int × Int × Int × Int × Int × Int) := .cons (dI .i64) (.cons (dI .i64) (.cons (dI .i64) (.cons (dI .i64) (.cons (dI .i64) (.last (dI .i64) 0)))))
def X_tru := DecX.one .ret [12] (DecS.mk1 (.skips 12 (.last dB 134)))
def D_t16 := DecS.mk0 (.skips 3 (.cons (dI .i64) (.cons (dI .i64) (.skip (.unit (dLp 0 0 0 0) (.skips 4 (.unit (dLp 1 0 0 0) (.skip (.cons dB (.last dB 132)))))))))) (.flat 27 lShip (.flat 48 lSix .nil))
theorem fn_t16 : ∀ s, (cutT1 P BKO33 30 4 128 D_t16 X_tru) s = T.run (
  .br (Prod.fst (Prod.snd (Prod.snd (Prod.fst s)))) (
    .chk (fitOk (Prod.fst (Prod.snd s), lsix (Prod.fst (Prod.snd (Prod.snd s))), Prod.fst (Prod.fst s), Prod.fst (Prod.snd (Prod.fst s)))) <|
    .br (!fitsB (Ship.mean (Prod.fst (Prod.snd s))) (lsix (Prod.fst (Prod.snd (Prod.snd s)))) (Prod.fst (Prod.fst s)) (Prod.fst (Prod.snd (Prod.fst s)))) (
      .ret (true)) (
      .ret (Prod.snd (Prod.snd (Prod.snd (Prod.fst s)))))) (
    .ret (false))) := fun s => by kernel_rfl
abbrev K.Six := Int × Int × Int × Int × Int × Int
noncomputable def K.tru16 (s : Ship) (x : Six) (m d : Int) (up is : Bool) : Bool := if up = true then (if (!fitsB s.mean (lsix x) m d) = true then true else is) else false
theorem K.tru16_eq (s : Ship) (x : Six) (m d : Int) (up is : Bool) (h : fitOk (s, lsix x, m, d) = true) : cutT1 P BKO33 30 4 128 D_t16 X_tru ((m, d, up, is), s, x, ()) = some (tru16 s x m d up is) := by
  rw [fn_t16]; unfold tru16
  exact br_step (fun _ => chk_step h (br_step (fun _ => rfl) (fun _ => rfl))) (fun _ => rfl)
noncomputable def BKO41 : Tab := (BKO33.addNode 4 128 (nodeE [3, 4, 6, 11, 13, 14] D_t16 X_tru (fun a => .chk (fitOk (a.2.1, lsix a.2.2.1, a.1.1, a.1.2.1)) (.ret (tru16 a.2.1 a.2.2.1 a.1.1 a.1.2.1 a.1.2.2.1 a.1.2.2.2))))).addCut 4 128
theorem tKO41 : TabOk P BKO41 := TabOk.addCut (d := 30) okP tKO33 (by kernel_rfl) (fun a r h => by obtain ⟨g, e⟩ := chk_ret h; subst e; obtain ⟨⟨m, d, up, is⟩, s, x, _⟩ := a; exact tru16_eq s x m d up is g)
def D_t14 := DecS.mk0 (.skips 3 (.cons (dI .i64) (.cons (dI .i64) (.skip (.unit (dLp 0 0 0 0) (.skip (.unit (dLp 1 0 0 0) (.skips 2 (.unit (dLp 2 0 0 0) (.skip (.cons dB (.cons dB (.skips 3 (.unit (dLp 3 0 0 0) (.skip (.cons (dI .i64) (.last (dI .i64) 125)))))))))))))))))
  (.flat 27 lShip (.flat 36 lSurvey (.flat 48 lSix (.flat 33 lSpan .nil))))
theorem fn_t14 : ∀ s, (cutT1 P BKO41 30 4 112 D_t14 X_tru) s = T.run (
  .br (Prod.snd (Prod.snd (Prod.snd (Prod.snd (Prod.snd (Prod.fst s))))) != (0 : Int)) (
    .br (Prod.fst (Prod.snd (Prod.snd (Prod.fst s)))) (
      .ret (Prod.snd (Prod.snd (Prod.snd (Prod.snd (Prod.snd (Prod.fst s))))) == (0 : Int))) (
      .ret (false))) (
    .br (decide (Prod.fst (Prod.snd (Prod.fst s)) < Span.lo (Prod.fst (Prod.snd (Prod.snd (Prod.snd (Prod.snd s))))))) (
      .br (Prod.fst (Prod.snd (Prod.snd (Prod.fst s)))) (
        .ret (Prod.snd (Prod.snd (Prod.snd (Prod.snd (Prod.snd (Prod.fst s))))) == (0 : Int))) (
        .ret (false))) (
      .br (decide (Prod.fst (Prod.snd (Prod.fst s)) > Span.hi (Prod.fst (Prod.snd (Prod.snd (Prod.snd (Prod.snd s))))))) (
        .br (Prod.fst (Prod.snd (Prod.snd (Prod.fst s)))) (
          .ret (Prod.snd (Prod.snd (Prod.snd (Prod.snd (Prod.snd (Prod.fst s))))) == (0 : Int))) (
          .ret (false))) (
        .br (decide (Prod.fst (Prod.fst s) < Ship.light (Prod.fst (Prod.snd s)))) (
          .br (Prod.fst (Prod.snd (Prod.snd (Prod.fst s)))) (
            .ret (Prod.snd (Prod.snd (Prod.snd (Prod.snd (Prod.snd (Prod.fst s))))) == (0 : Int))) (
            .ret (false))) (
          .br (decide (Prod.fst (Prod.fst s) > Prod.fst (Prod.snd (Prod.snd (Prod.snd (Prod.snd (Prod.fst s))))))) (
            .br (Prod.fst (Prod.snd (Prod.snd (Prod.fst s)))) (
              .ret (Prod.snd (Prod.snd (Prod.snd (Prod.snd (Prod.snd (Prod.fst s))))) == (0 : Int))) (
              .ret (false))) (
            .br (!Bends (Prod.fst (Prod.snd (Prod.snd s)), Prod.fst (Prod.snd (Prod.snd (Prod.snd s))))) (
              .br (Prod.fst (Prod.snd (Prod.snd (Prod.fst s)))) (
                .ret (Prod.snd (Prod.snd (Prod.snd (Prod.snd (Prod.snd (Prod.fst s))))) == (0 : Int))) (
                .ret (false))) (
              .chk (fitOk (Prod.fst (Prod.snd s), lsix (Prod.fst (Prod.snd (Prod.snd (Prod.snd s)))), Prod.fst (Prod.fst s), Prod.fst (Prod.snd (Prod.fst s)))) <|
              .ret (tru16 (Prod.fst (Prod.snd s)) (Prod.fst (Prod.snd (Prod.snd (Prod.snd s)))) (Prod.fst (Prod.fst s)) (Prod.fst (Prod.snd (Prod.fst s))) (Prod.fst (Prod.snd (Prod.snd (Prod.fst s)))) (Prod.fst (Prod.snd (Prod.snd (Prod.snd (Prod.fst s))))))))))))) := fun s => by kernel_rfl
def K.truE (up : Bool) (h : Int) : Bool := if up = true then (h == 0) else false
noncomputable def K.tru14B (s : Ship) (v : Survey) (x : Six) (p : Span) (m d full h : Int) : Bool := (h != 0) || (decide (d < p.lo) || (decide (d > p.hi) || (decide (m < s.light) || (decide (m > full) || !Bends (v, x)))))
noncomputable def K.tru14 (s : Ship) (v : Survey) (x : Six) (p : Span) (m d : Int) (up is : Bool) (full h : Int) : Bool := if tru14B s v x p m d full h = true then truE up h else tru16 s x m d up is
noncomputable def K.tru14G (s : Ship) (v : Survey) (x : Six) (p : Span) (m d full h : Int) : Bool := tru14B s v x p m d full h || fitOk (s, lsix x, m, d)
theorem K.tru14_eq (s : Ship) (v : Survey) (x : Six) (p : Span) (m d : Int) (up is : Bool) (full h : Int) (hG : tru14G s v x p m d full h = true) : cutT1 P BKO41 30 4 112 D_t14 X_tru ((m, d, up, is, full, h), s, v, x, p, ()) = some (tru14 s v x p m d up is full h) := by
  rw [fn_t14]; unfold tru14
  unfold tru14G at hG
  have tE : ∀ {t : T Bool}, t = T.br up (.ret (h == 0)) (.ret false) → T.run t = some (truE up h) := by
    intro t e; subst e; unfold truE; exact br_step (fun _ => rfl) (fun _ => rfl)
  unfold tru14B at hG ⊢
  refine (T.run_br _ _ _).trans ?_
  by_cases c1 : (h != 0) = true
  · rw [if_pos c1, c1]; exact tE rfl
  rw [if_neg c1]
  refine (T.run_br _ _ _).trans ?_
  by_cases c2 : decide (d < p.lo) = true
  · rw [if_pos c2]; simp only [c2, Bool.true_or, Bool.or_true, if_true]; exact tE rfl
  rw [if_neg c2]
  refine (T.run_br _ _ _).trans ?_
  by_cases c3 : decide (d > p.hi) = true
  · rw [if_pos c3]; simp only [c3, Bool.true_or, Bool.or_true, if_true]; exact tE rfl
  rw [if_neg c3]
  refine (T.run_br _ _ _).trans ?_
  by_cases c4 : decide (m < s.light) = true
  · rw [if_pos c4]; simp only [c4, Bool.true_or, Bool.or_true, if_true]; exact tE rfl
  rw [if_neg c4]
  refine (T.run_br _ _ _).trans ?_
  by_cases c5 : decide (m > full) = true
  · rw [if_pos c5]; simp only [c5, Bool.true_or, Bool.or_true, if_true]; exact tE rfl
  rw [if_neg c5]
  refine (T.run_br _ _ _).trans ?_
  by_cases c6 : (!Bends (v, x)) = true
  · rw [if_pos c6]; simp only [c6, Bool.or_true, if_true]; exact tE rfl
  rw [if_neg c6]
  rw [Bool.not_eq_true] at c1 c2 c3 c4 c5 c6
  simp only [c1, c2, c3, c4, c5, c6, Bool.false_or] at hG ⊢
  exact chk_step hG rfl
noncomputable def BKO42 : Tab := (BKO41.addNode 4 112 (nodeE [3, 4, 6, 8, 11, 13, 14, 18, 20, 21] D_t14 X_tru (fun a => .chk (tru14G a.2.1 a.2.2.1 a.2.2.2.1 a.2.2.2.2.1 a.1.1 a.1.2.1 a.1.2.2.2.2.1 a.1.2.2.2.2.2) (.ret (tru14 a.2.1 a.2.2.1 a.2.2.2.1 a.2.2.2.2.1 a.1.1 a.1.2.1 a.1.2.2.1 a.1.2.2.2.1 a.1.2.2.2.2.1 a.1.2.2.2.2.2))))).addCut 4 112
theorem tKO42 : TabOk P BKO42 := TabOk.addCut (d := 30) okP tKO41 (by kernel_rfl) (fun a r h => by obtain ⟨g, e⟩ := chk_ret h; subst e; obtain ⟨⟨m, d, up, is, full, h1⟩, s, v, x, p, _⟩ := a; exact tru14_eq s v x p m d up is full h1 g)
def D_t10 := DecS.mk0 (.skips 3 (.cons (dI .i64) (.cons (dI .i64) (.skip (.unit (dLp 0 0 0 0) (.unit (dLp 1 0 0 0) (.unit (dLp 2 0 0 0) (.skips 2 (.unit (dLp 3 0 0 0) (.skip (.cons dB (.last dB 132))))))))))))
  (.flat 27 lShip (.flat 31 lBulbs (.flat 36 lSurvey (.flat 48 lSix .nil))))
theorem fn_t10 : ∀ s, (cutT1 P BKO42 30 4 80 D_t10 X_tru) s = T.run (
  .br (Prod.snd (Density (Prod.fst (Prod.snd (Prod.snd s)), Prod.fst (Prod.snd (Prod.snd (Prod.snd s))))) != (0 : Int)) (
    .ret (false)) (
    .chk (decide (len (Ship.holds (Prod.fst (Prod.snd s))) ≤ (1000 : Nat))) <|
    .chk (decide (List.length (decF rInt (List.length (roomsL (Prod.fst (Prod.snd s)) (len (Ship.holds (Prod.fst (Prod.snd s)))))) fun i => encF rInt (roomsL (Prod.fst (Prod.snd s)) (len (Ship.holds (Prod.fst (Prod.snd s))))) ((0 : Nat) + i)) ≤ (1000000 : Nat))) <|
    .chk (tru14G (Prod.fst (Prod.snd s)) (Prod.fst (Prod.snd (Prod.snd (Prod.snd s)))) (Prod.fst (Prod.snd (Prod.snd (Prod.snd (Prod.snd s))))) (Prod.fst (Density (Prod.fst (Prod.snd (Prod.snd s)), Prod.fst (Prod.snd (Prod.snd (Prod.snd s)))))) (Prod.fst (Prod.fst s)) (Prod.fst (Prod.snd (Prod.fst s))) (Prod.fst (displ (Prod.fst (Prod.snd s), decF rInt (List.length (roomsL (Prod.fst (Prod.snd s)) (len (Ship.holds (Prod.fst (Prod.snd s)))))) fun i => encF rInt (roomsL (Prod.fst (Prod.snd s)) (len (Ship.holds (Prod.fst (Prod.snd s))))) ((0 : Nat) + i)))) (Prod.snd (displ (Prod.fst (Prod.snd s), decF rInt (List.length (roomsL (Prod.fst (Prod.snd s)) (len (Ship.holds (Prod.fst (Prod.snd s)))))) fun i => encF rInt (roomsL (Prod.fst (Prod.snd s)) (len (Ship.holds (Prod.fst (Prod.snd s))))) ((0 : Nat) + i))))) <|
    .ret (tru14 (Prod.fst (Prod.snd s)) (Prod.fst (Prod.snd (Prod.snd (Prod.snd s)))) (Prod.fst (Prod.snd (Prod.snd (Prod.snd (Prod.snd s))))) (Prod.fst (Density (Prod.fst (Prod.snd (Prod.snd s)), Prod.fst (Prod.snd (Prod.snd (Prod.snd s)))))) (Prod.fst (Prod.fst s)) (Prod.fst (Prod.snd (Prod.fst s))) (Prod.fst (Prod.snd (Prod.snd (Prod.fst s)))) (Prod.snd (Prod.snd (Prod.snd (Prod.fst s)))) (Prod.fst (displ (Prod.fst (Prod.snd s), decF rInt (List.length (roomsL (Prod.fst (Prod.snd s)) (len (Ship.holds (Prod.fst (Prod.snd s)))))) fun i => encF rInt (roomsL (Prod.fst (Prod.snd s)) (len (Ship.holds (Prod.fst (Prod.snd s))))) ((0 : Nat) + i)))) (Prod.snd (displ (Prod.fst (Prod.snd s), decF rInt (List.length (roomsL (Prod.fst (Prod.snd s)) (len (Ship.holds (Prod.fst (Prod.snd s)))))) fun i => encF rInt (roomsL (Prod.fst (Prod.snd s)) (len (Ship.holds (Prod.fst (Prod.snd s))))) ((0 : Nat) + i))))))) := fun s => by kernel_rfl
noncomputable def K.fullOf (s : Ship) : Int × Int := displ (s, roomsL s (len s.holds))
noncomputable def K.tru10 (s : Ship) (b : Bulbs) (v : Survey) (x : Six) (m d : Int) (up is : Bool) : Bool := if ((Density (b, v)).2 != 0) = true then false else tru14 s v x (Density (b, v)).1 m d up is (fullOf s).1 (fullOf s).2
noncomputable def K.tru10G (s : Ship) (b : Bulbs) (v : Survey) (x : Six) (m d : Int) : Bool := ((Density (b, v)).2 != 0) || (decide (len s.holds ≤ 1000) && tru14G s v x (Density (b, v)).1 m d (fullOf s).1 (fullOf s).2)
theorem K.tru10_eq (s : Ship) (b : Bulbs) (v : Survey) (x : Six) (m d : Int) (up is : Bool) (h : tru10G s b v x m d = true) : cutT1 P BKO42 30 4 80 D_t10 X_tru ((m, d, up, is), s, b, v, x, ()) = some (tru10 s b v x m d up is) := by
  rw [fn_t10]; unfold tru10
  unfold tru10G at h
  simp only [decF_enc0]
  refine br_step (fun _ => rfl) (fun c => ?_)
  have c : ((Density (b, v)).2 != 0) = false := by simpa using c
  rw [c, Bool.false_or, Bool.and_eq_true] at h
  refine chk_step h.1 (chk_step ?_ (chk_step h.2 rfl))
  have := of_decide_eq_true h.1
  simp only [roomsL_length, decide_eq_true_eq]; omega
noncomputable def BKO43 : Tab := (BKO42.addNode 4 80 (nodeE [3, 4, 6, 7, 8, 11, 13, 14] D_t10 X_tru (fun a => .chk (tru10G a.2.1 a.2.2.1 a.2.2.2.1 a.2.2.2.2.1 a.1.1 a.1.2.1) (.ret (tru10 a.2.1 a.2.2.1 a.2.2.2.1 a.2.2.2.2.1 a.1.1 a.1.2.1 a.1.2.2.1 a.1.2.2.2))))).addCut 4 80
theorem tKO43 : TabOk P BKO43 := TabOk.addCut (d := 30) okP tKO42 (by kernel_rfl) (fun a r h => by obtain ⟨g, e⟩ := chk_ret h; subst e; obtain ⟨⟨m, d, up, is⟩, s, b, v, x, _⟩ := a; exact tru10_eq s b v x m d up is g)
def D_ltru := DecL.cons (dShip) (.cons (dBulbs) (.cons (dSurvey) (.cons (dI .i64) (.cons (dI .i64) (.last (dAgg (.cons (dI .i64) (.cons (dI .i64) (.cons (dI .i64) (.cons (dI .i64) (.cons (dI .i64) (.last (dI .i64) 0))))))) 0)))))
theorem fn_ltru : ∀ a, (callT1 P BKO43 30 4 D_ltru dB) a = T.run (
  .br (!ship (Prod.fst a)) (
    .ret (true)) (
    .br (!few (Prod.fst (Prod.snd a))) (
      .ret (true)) (
      .br (Prod.snd (sPossible (Prod.fst a, Prod.fst (Prod.snd a), Prod.fst (Prod.snd (Prod.snd a)), Prod.fst (Prod.snd (Prod.snd (Prod.snd a))))) != (0 : Int)) (
        .br (Prod.snd (sMass (Prod.fst a, Prod.fst (Prod.snd a), Prod.fst (Prod.snd (Prod.snd a)))) == Prod.snd (sPossible (Prod.fst a, Prod.fst (Prod.snd a), Prod.fst (Prod.snd (Prod.snd a)), Prod.fst (Prod.snd (Prod.snd (Prod.snd a)))))) (
          .ret (!Prod.fst (sPossible (Prod.fst a, Prod.fst (Prod.snd a), Prod.fst (Prod.snd (Prod.snd a)), Prod.fst (Prod.snd (Prod.snd (Prod.snd a))))))) (
          .ret (false))) (
        .br (Prod.snd (sMass (Prod.fst a, Prod.fst (Prod.snd a), Prod.fst (Prod.snd (Prod.snd a)))) != (0 : Int)) (
          .br (Prod.snd (sMass (Prod.fst a, Prod.fst (Prod.snd a), Prod.fst (Prod.snd (Prod.snd a)))) != (9 : Int)) (
            .ret (false)) (
            .br (Prod.snd (sMass (Prod.fst a, Prod.fst (Prod.snd a), Prod.fst (Prod.snd (Prod.snd a)))) == (0 : Int)) (
              .br (decide (Prod.fst (Prod.snd (Prod.snd (Prod.snd a))) ≥ Span.lo (Prod.fst (sMass (Prod.fst a, Prod.fst (Prod.snd a), Prod.fst (Prod.snd (Prod.snd a))))))) (
                .br (!Prod.fst (sPossible (Prod.fst a, Prod.fst (Prod.snd a), Prod.fst (Prod.snd (Prod.snd a)), Prod.fst (Prod.snd (Prod.snd (Prod.snd a))))) == decide (Prod.fst (Prod.snd (Prod.snd (Prod.snd a))) ≤ Span.hi (Prod.fst (sMass (Prod.fst a, Prod.fst (Prod.snd a), Prod.fst (Prod.snd (Prod.snd a))))))) (
                  .ret (false)) (
                  .chk (tru10G (Prod.fst a) (Prod.fst (Prod.snd a)) (Prod.fst (Prod.snd (Prod.snd a))) (Prod.snd (Prod.snd (Prod.snd (Prod.snd (Prod.snd a))))) (Prod.fst (Prod.snd (Prod.snd (Prod.snd a)))) (Prod.fst (Prod.snd (Prod.snd (Prod.snd (Prod.snd a)))))) <|
                  .ret (tru10 (Prod.fst a) (Prod.fst (Prod.snd a)) (Prod.fst (Prod.snd (Prod.snd a))) (Prod.snd (Prod.snd (Prod.snd (Prod.snd (Prod.snd a))))) (Prod.fst (Prod.snd (Prod.snd (Prod.snd a)))) (Prod.fst (Prod.snd (Prod.snd (Prod.snd (Prod.snd a))))) true (Prod.fst (sPossible (Prod.fst a, Prod.fst (Prod.snd a), Prod.fst (Prod.snd (Prod.snd a)), Prod.fst (Prod.snd (Prod.snd (Prod.snd a))))))))) (
                .br (!Prod.fst (sPossible (Prod.fst a, Prod.fst (Prod.snd a), Prod.fst (Prod.snd (Prod.snd a)), Prod.fst (Prod.snd (Prod.snd (Prod.snd a))))) == false) (
                  .ret (false)) (
                  .chk (tru10G (Prod.fst a) (Prod.fst (Prod.snd a)) (Prod.fst (Prod.snd (Prod.snd a))) (Prod.snd (Prod.snd (Prod.snd (Prod.snd (Prod.snd a))))) (Prod.fst (Prod.snd (Prod.snd (Prod.snd a)))) (Prod.fst (Prod.snd (Prod.snd (Prod.snd (Prod.snd a)))))) <|
                  .ret (tru10 (Prod.fst a) (Prod.fst (Prod.snd a)) (Prod.fst (Prod.snd (Prod.snd a))) (Prod.snd (Prod.snd (Prod.snd (Prod.snd (Prod.snd a))))) (Prod.fst (Prod.snd (Prod.snd (Prod.snd a)))) (Prod.fst (Prod.snd (Prod.snd (Prod.snd (Prod.snd a))))) true (Prod.fst (sPossible (Prod.fst a, Prod.fst (Prod.snd a), Prod.fst (Prod.snd (Prod.snd a)), Prod.fst (Prod.snd (Prod.snd (Prod.snd a)))))))))) (
              .br (!Prod.fst (sPossible (Prod.fst a, Prod.fst (Prod.snd a), Prod.fst (Prod.snd (Prod.snd a)), Prod.fst (Prod.snd (Prod.snd (Prod.snd a))))) == false) (
                .ret (false)) (
                .chk (tru10G (Prod.fst a) (Prod.fst (Prod.snd a)) (Prod.fst (Prod.snd (Prod.snd a))) (Prod.snd (Prod.snd (Prod.snd (Prod.snd (Prod.snd a))))) (Prod.fst (Prod.snd (Prod.snd (Prod.snd a)))) (Prod.fst (Prod.snd (Prod.snd (Prod.snd (Prod.snd a)))))) <|
                .ret (tru10 (Prod.fst a) (Prod.fst (Prod.snd a)) (Prod.fst (Prod.snd (Prod.snd a))) (Prod.snd (Prod.snd (Prod.snd (Prod.snd (Prod.snd a))))) (Prod.fst (Prod.snd (Prod.snd (Prod.snd a)))) (Prod.fst (Prod.snd (Prod.snd (Prod.snd (Prod.snd a))))) true (Prod.fst (sPossible (Prod.fst a, Prod.fst (Prod.snd a), Prod.fst (Prod.snd (Prod.snd a)), Prod.fst (Prod.snd (Prod.snd (Prod.snd a))))))))))) (
          .br (Prod.snd (sMass (Prod.fst a, Prod.fst (Prod.snd a), Prod.fst (Prod.snd (Prod.snd a)))) == (0 : Int)) (
            .br (decide (Prod.fst (Prod.snd (Prod.snd (Prod.snd a))) ≥ Span.lo (Prod.fst (sMass (Prod.fst a, Prod.fst (Prod.snd a), Prod.fst (Prod.snd (Prod.snd a))))))) (
              .br (!Prod.fst (sPossible (Prod.fst a, Prod.fst (Prod.snd a), Prod.fst (Prod.snd (Prod.snd a)), Prod.fst (Prod.snd (Prod.snd (Prod.snd a))))) == decide (Prod.fst (Prod.snd (Prod.snd (Prod.snd a))) ≤ Span.hi (Prod.fst (sMass (Prod.fst a, Prod.fst (Prod.snd a), Prod.fst (Prod.snd (Prod.snd a))))))) (
                .ret (false)) (
                .chk (tru10G (Prod.fst a) (Prod.fst (Prod.snd a)) (Prod.fst (Prod.snd (Prod.snd a))) (Prod.snd (Prod.snd (Prod.snd (Prod.snd (Prod.snd a))))) (Prod.fst (Prod.snd (Prod.snd (Prod.snd a)))) (Prod.fst (Prod.snd (Prod.snd (Prod.snd (Prod.snd a)))))) <|
                .ret (tru10 (Prod.fst a) (Prod.fst (Prod.snd a)) (Prod.fst (Prod.snd (Prod.snd a))) (Prod.snd (Prod.snd (Prod.snd (Prod.snd (Prod.snd a))))) (Prod.fst (Prod.snd (Prod.snd (Prod.snd a)))) (Prod.fst (Prod.snd (Prod.snd (Prod.snd (Prod.snd a))))) true (Prod.fst (sPossible (Prod.fst a, Prod.fst (Prod.snd a), Prod.fst (Prod.snd (Prod.snd a)), Prod.fst (Prod.snd (Prod.snd (Prod.snd a))))))))) (
              .br (!Prod.fst (sPossible (Prod.fst a, Prod.fst (Prod.snd a), Prod.fst (Prod.snd (Prod.snd a)), Prod.fst (Prod.snd (Prod.snd (Prod.snd a))))) == false) (
                .ret (false)) (
                .chk (tru10G (Prod.fst a) (Prod.fst (Prod.snd a)) (Prod.fst (Prod.snd (Prod.snd a))) (Prod.snd (Prod.snd (Prod.snd (Prod.snd (Prod.snd a))))) (Prod.fst (Prod.snd (Prod.snd (Prod.snd a)))) (Prod.fst (Prod.snd (Prod.snd (Prod.snd (Prod.snd a)))))) <|
                .ret (tru10 (Prod.fst a) (Prod.fst (Prod.snd a)) (Prod.fst (Prod.snd (Prod.snd a))) (Prod.snd (Prod.snd (Prod.snd (Prod.snd (Prod.snd a))))) (Prod.fst (Prod.snd (Prod.snd (Prod.snd a)))) (Prod.fst (Prod.snd (Prod.snd (Prod.snd (Prod.snd a))))) true (Prod.fst (sPossible (Prod.fst a, Prod.fst (Prod.snd a), Prod.fst (Prod.snd (Prod.snd a)), Prod.fst (Prod.snd (Prod.snd (Prod.snd a)))))))))) (
            .br (!Prod.fst (sPossible (Prod.fst a, Prod.fst (Prod.snd a), Prod.fst (Prod.snd (Prod.snd a)), Prod.fst (Prod.snd (Prod.snd (Prod.snd a))))) == false) (
              .ret (false)) (
              .chk (tru10G (Prod.fst a) (Prod.fst (Prod.snd a)) (Prod.fst (Prod.snd (Prod.snd a))) (Prod.snd (Prod.snd (Prod.snd (Prod.snd (Prod.snd a))))) (Prod.fst (Prod.snd (Prod.snd (Prod.snd a)))) (Prod.fst (Prod.snd (Prod.snd (Prod.snd (Prod.snd a)))))) <|
              .ret (tru10 (Prod.fst a) (Prod.fst (Prod.snd a)) (Prod.fst (Prod.snd (Prod.snd a))) (Prod.snd (Prod.snd (Prod.snd (Prod.snd (Prod.snd a))))) (Prod.fst (Prod.snd (Prod.snd (Prod.snd a)))) (Prod.fst (Prod.snd (Prod.snd (Prod.snd (Prod.snd a))))) true (Prod.fst (sPossible (Prod.fst a, Prod.fst (Prod.snd a), Prod.fst (Prod.snd (Prod.snd a)), Prod.fst (Prod.snd (Prod.snd (Prod.snd a)))))))))))))) := fun a => by kernel_rfl
end Go.Proofs.Ytjbhooodjmjdkaa
/-! KTG -/
namespace Go.Proofs.Ytjbhooodjmjdkaa
open Ev K
set_option maxRecDepth 100000
namespace K
/-- Six numbers are draughts of a survey. -/
def Draughts (x : Survey) (n : Int × Int × Int × Int × Int × Int) : Prop :=
  (x.m0.lo ≤ n.1 ∧ n.1 ≤ x.m0.hi) ∧ (x.m1.lo ≤ n.2.1 ∧ n.2.1 ≤ x.m1.hi) ∧ (x.m2.lo ≤ n.2.2.1 ∧ n.2.2.1 ≤ x.m2.hi) ∧ (x.m3.lo ≤ n.2.2.2.1 ∧ n.2.2.2.1 ≤ x.m3.hi) ∧ (x.m4.lo ≤ n.2.2.2.2.1 ∧ n.2.2.2.2.1 ≤ x.m4.hi) ∧ (x.m5.lo ≤ n.2.2.2.2.2 ∧ n.2.2.2.2.2 ≤ x.m5.hi) ∧
  -(4 * x.sag) ≤ 2 * (n.2.2.1 + n.2.2.2.1) - n.1 - n.2.1 - n.2.2.2.2.1 - n.2.2.2.2.2 ∧ 2 * (n.2.2.1 + n.2.2.2.1) - n.1 - n.2.1 - n.2.2.2.2.1 - n.2.2.2.2.2 ≤ 4 * x.sag
theorem bends_iff {x : Survey} (g : Good x) (n : Int × Int × Int × Int × Int × Int) : Bends (x, n) = true ↔ Draughts x n := by
  obtain ⟨h1, h2, h3, h4⟩ := g.m0; obtain ⟨k1, k2, k3, k4⟩ := g.m1
  obtain ⟨p1, p2, p3, p4⟩ := g.m2; obtain ⟨q1, q2, q3, q4⟩ := g.m3
  obtain ⟨i1, i2, i3, i4⟩ := g.m4; obtain ⟨j1, j2, j3, j4⟩ := g.m5
  obtain ⟨s1, s2⟩ := g.sag
  obtain ⟨a, b, c, d, e, f⟩ := n
  unfold Bends Draughts
  simp only
  by_cases c0 : within a x.m0.lo x.m0.hi = true
  case neg => exact ⟨fun h => by simp [c0] at h, fun h => absurd (within_iff.2 h.1) c0⟩
  by_cases c1 : within b x.m1.lo x.m1.hi = true
  case neg => exact ⟨fun h => by simp [c0, c1] at h, fun h => absurd (within_iff.2 h.2.1) c1⟩
  by_cases c2 : within c x.m2.lo x.m2.hi = true
  case neg => exact ⟨fun h => by simp [c0, c1, c2] at h, fun h => absurd (within_iff.2 h.2.2.1) c2⟩
  by_cases c3 : within d x.m3.lo x.m3.hi = true
  case neg => exact ⟨fun h => by simp [c0, c1, c2, c3] at h, fun h => absurd (within_iff.2 h.2.2.2.1) c3⟩
  by_cases c4 : within e x.m4.lo x.m4.hi = true
  case neg => exact ⟨fun h => by simp [c0, c1, c2, c3, c4] at h, fun h => absurd (within_iff.2 h.2.2.2.2.1) c4⟩
  by_cases c5 : within f x.m5.lo x.m5.hi = true
  case neg => exact ⟨fun h => by simp [c0, c1, c2, c3, c4, c5] at h, fun h => absurd (within_iff.2 h.2.2.2.2.2.1) c5⟩
  simp only [c0, c1, c2, c3, c4, c5]
  have d0 := within_iff.1 c0; have d1 := within_iff.1 c1; have d2 := within_iff.1 c2; have d3 := within_iff.1 c3; have d4 := within_iff.1 c4; have d5 := within_iff.1 c5
  rw [w64_in (n := c + d) (by omega) (by omega), w64_in (n := 2 * (c + d)) (by omega) (by omega), w64_in (n := 2 * (c + d) - a) (by omega) (by omega), w64_in (n := 2 * (c + d) - a - b) (by omega) (by omega), w64_in (n := 2 * (c + d) - a - b - e) (by omega) (by omega), w64_in (n := 2 * (c + d) - a - b - e - f) (by omega) (by omega), w64_in (n := -4 * x.sag) (by omega) (by omega), w64_in (n := 4 * x.sag) (by omega) (by omega)]
  simp only [Bool.not_true, Bool.false_eq_true, if_false, within_iff]
  constructor
  · intro h; refine ⟨d0, d1, d2, d3, d4, d5, ?_, ?_⟩ <;> omega
  · rintro ⟨_, _, _, _, _, _, h1, h2⟩; omega
theorem lsix_eq {x : Survey} (g : Good x) {n : Int × Int × Int × Int × Int × Int} (h : Draughts x n) : lsix n = n.1 + n.2.1 + n.2.2.2.2.1 + n.2.2.2.2.2 + 6 * (n.2.2.1 + n.2.2.2.1) := by
  obtain ⟨h1, h2, h3, h4⟩ := g.m0; obtain ⟨k1, k2, k3, k4⟩ := g.m1
  obtain ⟨p1, p2, p3, p4⟩ := g.m2; obtain ⟨q1, q2, q3, q4⟩ := g.m3
  obtain ⟨i1, i2, i3, i4⟩ := g.m4; obtain ⟨j1, j2, j3, j4⟩ := g.m5
  obtain ⟨a, b, c, d, e, f⟩ := n
  obtain ⟨d0, d1, d2, d3, d4, d5, _, _⟩ := h
  simp only at d0 d1 d2 d3 d4 d5 ⊢
  unfold lsix
  simp only
  rw [w64_in (n := a + b) (by omega) (by omega), w64_in (n := 6 * c) (by omega) (by omega), w64_in (n := a + b + 6 * c) (by omega) (by omega), w64_in (n := 6 * d) (by omega) (by omega), w64_in (n := a + b + 6 * c + 6 * d) (by omega) (by omega), w64_in (n := a + b + 6 * c + 6 * d + e) (by omega) (by omega), w64_in (by omega) (by omega)]
  omega
theorem between {x : Survey} (g : Good x) {l : Sums × Sums} (eo : EndsOk x l) {n : Int × Int × Int × Int × Int × Int} (hd : Draughts x n) : sums16 l.1 ≤ lsix n ∧ lsix n ≤ sums16 l.2 := by
  have hl := lsix_eq g hd
  obtain ⟨l0, l1⟩ := l
  obtain ⟨a0, a1, b0, b1, c0, c1, al⟩ := eo
  obtain ⟨h1, h2, h3, h4⟩ := g.m0; obtain ⟨k1, k2, k3, k4⟩ := g.m1
  obtain ⟨p1, p2, p3, p4⟩ := g.m2; obtain ⟨q1, q2, q3, q4⟩ := g.m3
  obtain ⟨i1, i2, i3, i4⟩ := g.m4; obtain ⟨j1, j2, j3, j4⟩ := g.m5
  obtain ⟨t0, t1, t2, t3, t4, t5, t6, t7⟩ := hd
  simp only at a0 a1 b0 b1 al
  have al' := al (n.2.2.1 + n.2.2.2.1) (n.1 + n.2.1 + n.2.2.2.2.1 + n.2.2.2.2.2) (by omega) (by omega) (by omega) (by omega) (by omega) (by omega)
  rw [hl, sums16_eq (l := l0) (by omega), sums16_eq (l := l1) (by omega)]
  exact ⟨by omega, by omega⟩
end K
end Go.Proofs.Ytjbhooodjmjdkaa
/-! KP3 -/
namespace Go.Proofs.Ytjbhooodjmjdkaa
open Ev K
set_option maxRecDepth 100000
namespace K
theorem a_lt {xi D R t X d M : Int} (hR : 0 ≤ R) (ht : t ≤ R) (hD : 0 ≤ D) (hX : xi + D ≤ X) (hd : 0 ≤ d) (hM : X * d ≤ M) : (xi * R + t * D) * d ≤ M * R := by
  have a : t * D ≤ R * D := Int.mul_le_mul_of_nonneg_right ht hD
  have b : (xi + D) * R ≤ X * R := Int.mul_le_mul_of_nonneg_right hX hR
  have c : (xi + D) * R = xi * R + R * D := by rw [Int.add_mul, Int.mul_comm D]
  have e : (xi * R + t * D) * d ≤ X * R * d := Int.mul_le_mul_of_nonneg_right (by omega) hd
  have f : X * R * d = X * d * R := by rw [Int.mul_assoc, Int.mul_comm R d, ← Int.mul_assoc]
  have g : X * d * R ≤ M * R := Int.mul_le_mul_of_nonneg_right hM hR
  omega
theorem a_gt {xi D R t X d M : Int} (hR : 0 ≤ R) (ht : 0 ≤ t) (hD : 0 ≤ D) (hX : X ≤ xi) (hd : 0 ≤ d) (hM : M ≤ X * d) : M * R ≤ (xi * R + t * D) * d := by
  have a : 0 ≤ t * D := Int.mul_nonneg ht hD
  have b : X * R ≤ xi * R := Int.mul_le_mul_of_nonneg_right hX hR
  have e : X * R * d ≤ (xi * R + t * D) * d := Int.mul_le_mul_of_nonneg_right (by omega) hd
  have f : X * R * d = X * d * R := by rw [Int.mul_assoc, Int.mul_comm R d, ← Int.mul_assoc]
  have g : M * R ≤ X * d * R := Int.mul_le_mul_of_nonneg_right hM hR
  omega
theorem a_id {x0 D d y0 Dy M Y : Int} : M * (16 * Dy) - (x0 * (16 * Dy) + (Y - 16 * y0) * D) * d = 16 * (y0 * (D * d) + Dy * (M - x0 * d)) - Y * (D * d) := by
  grind
theorem xs_mono {c : Curve} (o : CurveOk c) : ∀ k i, i + k < len c.knots → c.knots.g i 0 ≤ c.knots.g (i + k) 0 := by
  intro k
  induction k with
  | zero => intro i _; exact Int.le_refl _
  | succ k ih => intro i h; have := ih i (by omega); have h2 := o.inc (i + k) h; rw [show i + (k + 1) = i + k + 1 by omega]; omega
theorem xs_le {c : Curve} (o : CurveOk c) {i j : Nat} (h : i ≤ j) (hj : j < len c.knots) : c.knots.g i 0 ≤ c.knots.g j 0 := by
  have := xs_mono o (j - i) i (by omega)
  rwa [show i + (j - i) = j by omega] at this
theorem ys_lt {c : Curve} (r : riseAll c) {i j : Nat} (h : i < j) (hj : j < len c.knots) : c.knots.g i 1 < c.knots.g j 1 := by
  have := rise_lt r (j - i - 1) i (by omega)
  rwa [show i + (j - i - 1) + 1 = j by omega] at this
theorem ys_le {c : Curve} (r : riseAll c) {i j : Nat} (h : i ≤ j) (hj : j < len c.knots) : c.knots.g i 1 ≤ c.knots.g j 1 := by
  rcases Nat.lt_or_eq_of_le h with h | h
  · exact Int.le_of_lt (ys_lt r h hj)
  · subst h; exact Int.le_refl _
section
variable {c : Curve} (o : CurveOk c) (r : riseAll c) {Y : Int} {f : Frac} (h : At c Y f) {k : Nat} (hk : k + 1 < len c.knots) {m d : Int} (hd : 0 < d) (h1 : c.knots.g k 0 * d ≤ 25 * m) (h2 : 25 * m ≤ c.knots.g (k + 1) 0 * d)
include o r h hk hd h1 h2
theorem at_low (hv : Y * fitDen c.knots d k ≤ 16 * fitVal c.knots m d k) : f.num * d ≤ 25 * m * f.den := by
  obtain ⟨_, hp⟩ := h
  rcases hp with ⟨hl, _⟩ | ⟨i, hi, hy0, hy1, rfl⟩
  · omega
  simp only
  have hDi := o.inc i hi; have hDk := o.inc k hk
  have hRi := r i hi; have hRk := r k hk
  rcases Nat.lt_trichotomy i k with hik | hik | hik
  · have hx := xs_le o (show i + 1 ≤ k by omega) (by omega)
    exact a_lt (X := c.knots.g k 0) (by omega) (by omega) (by omega) (by omega) (by omega) h1
  · subst hik
    unfold fitVal fitDen at hv
    have := a_id (x0 := c.knots.g i 0) (D := c.knots.g (i + 1) 0 - c.knots.g i 0) (d := d) (y0 := c.knots.g i 1) (Dy := c.knots.g (i + 1) 1 - c.knots.g i 1) (M := 25 * m) (Y := Y)
    omega
  · have hys := ys_le r (show k + 1 ≤ i by omega) (by omega)
    unfold fitVal fitDen at hv
    have hA : 0 < (c.knots.g (k + 1) 0 - c.knots.g k 0) * d := Int.mul_pos (by omega) hd
    have hAe : (c.knots.g (k + 1) 0 - c.knots.g k 0) * d = c.knots.g (k + 1) 0 * d - c.knots.g k 0 * d := Int.sub_mul _ _ _
    generalize hAd : (c.knots.g (k + 1) 0 - c.knots.g k 0) * d = A at *
    generalize hM : 25 * m - c.knots.g k 0 * d = u at *
    have hu : u ≤ A := by omega
    generalize hDy : c.knots.g (k + 1) 1 - c.knots.g k 1 = Dy at *
    have q1 : Dy * u ≤ Dy * A := Int.mul_le_mul_of_nonneg_left hu (by omega)
    have q2 : (16 * c.knots.g (k + 1) 1) * A = 16 * (c.knots.g k 1 * A) + 16 * (Dy * A) := by
      rw [show c.knots.g (k + 1) 1 = c.knots.g k 1 + Dy by omega]; grind
    have q3 : Y * A ≤ (16 * c.knots.g (k + 1) 1) * A := by omega
    have q4 : Y ≤ 16 * c.knots.g (k + 1) 1 := Int.le_of_mul_le_mul_right q3 hA
    have hYe : Y = 16 * c.knots.g (k + 1) 1 := by omega
    have hie : i = k + 1 := by
      rcases Nat.lt_or_eq_of_le (show k + 1 ≤ i by omega) with h | h
      · have := ys_lt r h (by omega); omega
      · exact h.symm
    subst hie
    rw [hYe, q2] at hv
    have q5 : Dy * A ≤ Dy * u := by omega
    have q6 : A ≤ u := Int.le_of_mul_le_mul_left q5 (by omega)
    have q7 : 25 * m = c.knots.g (k + 1) 0 * d := by omega
    rw [hYe, Int.sub_self, Int.zero_mul, Int.add_zero, q7]
    rw [Int.mul_assoc, Int.mul_comm _ d, ← Int.mul_assoc]; exact Int.le_refl _
theorem at_high (hv : 16 * fitVal c.knots m d k ≤ Y * fitDen c.knots d k) : 25 * m * f.den ≤ f.num * d := by
  obtain ⟨_, hp⟩ := h
  rcases hp with ⟨hl, _⟩ | ⟨i, hi, hy0, hy1, rfl⟩
  · omega
  simp only
  have hDi := o.inc i hi; have hDk := o.inc k hk
  have hRi := r i hi; have hRk := r k hk
  rcases Nat.lt_trichotomy i k with hik | hik | hik
  · have hys := ys_le r (show i + 1 ≤ k by omega) (by omega)
    unfold fitVal fitDen at hv
    have hA : 0 < (c.knots.g (k + 1) 0 - c.knots.g k 0) * d := Int.mul_pos (by omega) hd
    have hAe : (c.knots.g (k + 1) 0 - c.knots.g k 0) * d = c.knots.g (k + 1) 0 * d - c.knots.g k 0 * d := Int.sub_mul _ _ _
    generalize hAd : (c.knots.g (k + 1) 0 - c.knots.g k 0) * d = A at *
    generalize hM : 25 * m - c.knots.g k 0 * d = u at *
    have hu : 0 ≤ u := by omega
    generalize hDy : c.knots.g (k + 1) 1 - c.knots.g k 1 = Dy at *
    have q1 : 0 ≤ Dy * u := Int.mul_nonneg (by omega) hu
    have q2 : (16 * c.knots.g k 1) * A = 16 * (c.knots.g k 1 * A) := by rw [Int.mul_assoc]
    have q3 : (16 * c.knots.g k 1) * A ≤ Y * A := by omega
    have q4 : 16 * c.knots.g k 1 ≤ Y := Int.le_of_mul_le_mul_right q3 hA
    have hYe : Y = 16 * c.knots.g k 1 := by omega
    have hie : i + 1 = k := by
      rcases Nat.lt_or_eq_of_le (show i + 1 ≤ k by omega) with h | h
      · have := ys_lt r h (by omega); omega
      · exact h
    subst hie
    rw [hYe, q2] at hv
    have q5 : Dy * u ≤ Dy * 0 := by omega
    have q6 : u ≤ 0 := Int.le_of_mul_le_mul_left q5 (by omega)
    have q7 : 25 * m = c.knots.g (i + 1) 0 * d := by omega
    rw [hYe, q7]
    have q8 : c.knots.g i 0 * (16 * (c.knots.g (i + 1) 1 - c.knots.g i 1)) + (16 * c.knots.g (i + 1) 1 - 16 * c.knots.g i 1) * (c.knots.g (i + 1) 0 - c.knots.g i 0) = c.knots.g (i + 1) 0 * (16 * (c.knots.g (i + 1) 1 - c.knots.g i 1)) := by grind
    rw [q8, Int.mul_assoc, Int.mul_comm d, ← Int.mul_assoc]; exact Int.le_refl _
  · subst hik
    unfold fitVal fitDen at hv
    have := a_id (x0 := c.knots.g i 0) (D := c.knots.g (i + 1) 0 - c.knots.g i 0) (d := d) (y0 := c.knots.g i 1) (Dy := c.knots.g (i + 1) 1 - c.knots.g i 1) (M := 25 * m) (Y := Y)
    omega
  · have hx := xs_le o (show k + 1 ≤ i by omega) (by omega)
    exact a_gt (X := c.knots.g (k + 1) 0) (by omega) (by omega) (by omega) hx (by omega) h2
end
theorem massLo_le {f : Frac} (h : RatioOk f) {d m : Int} (h0 : 0 ≤ d) (h1 : d ≤ 1100) (hm : f.num * d ≤ 25 * m * f.den) : massLo f d ≤ m := by
  rw [massLo_eq h h0 h1]
  have hp := h.den
  have e : 25 * m * f.den = m * (25 * f.den) := by grind
  rw [e] at hm
  generalize f.num * d = p at *
  generalize hq : 25 * f.den = q at *
  have : p + q - 1 < (m + 1) * q := by rw [Int.add_mul, Int.one_mul]; omega
  have := Int.ediv_lt_of_lt_mul (by omega) this
  omega
theorem le_massHi {f : Frac} (h : RatioOk f) {d m : Int} (h0 : 0 ≤ d) (h1 : d ≤ 1100) (hm : 25 * m * f.den ≤ f.num * d) : m ≤ massHi f d := by
  rw [massHi_eq h h0 h1]
  have hp := h.den
  have e : 25 * m * f.den = m * (25 * f.den) := by grind
  rw [e] at hm
  exact (Int.le_ediv_iff_mul_le (by omega)).2 hm
theorem fitIdx_ok {c : Curve} (o : CurveOk c) {m d : Int} (h : 2 ≤ len c.knots) (h0 : c.knots.g 0 0 * d ≤ 25 * m) (h1 : 25 * m ≤ c.knots.g (len c.knots - 1) 0 * d) :
    c.knots.g (fitIdx c.knots m d) 0 * d ≤ 25 * m ∧ 25 * m ≤ c.knots.g (fitIdx c.knots m d + 1) 0 * d := by
  unfold fitIdx
  cases hf : first (fun k => !decide (c.knots.g (k + 1) 0 * d < 25 * m)) (len c.knots - 2) with
  | some k =>
    obtain ⟨f1, f2, f3⟩ := first_spec hf
    simp only
    refine ⟨?_, by simpa using f2⟩
    cases k with
    | zero => exact h0
    | succ k =>
      have := f3 k (by omega)
      simp only [Bool.not_eq_false', decide_eq_true_eq] at this; omega
  | none =>
    have hn := first_none' hf
    simp only
    rw [show len c.knots - 2 + 1 = len c.knots - 1 by omega]
    refine ⟨?_, h1⟩
    rcases Nat.lt_or_ge 2 (len c.knots) with h2 | h2
    · have := hn (len c.knots - 3) (by omega)
      rw [show len c.knots - 3 + 1 = len c.knots - 2 by omega] at this
      simp only [Bool.not_eq_false', decide_eq_true_eq] at this; omega
    · rw [show len c.knots - 2 = 0 by omega]; exact h0
theorem fits_spec {c : Curve} (o : CurveOk c) (r : riseAll c) {n m d : Int} (hd : 0 < d) (hf : fitsB c n m d = true) :
    ∃ V A : Int, 0 < A ∧ (16 * c.knots.g 0 1) * A ≤ V ∧ V ≤ (16 * c.knots.g (len c.knots - 1) 1) * A ∧ n * A - V ≤ 16 * c.err * A ∧ V - n * A ≤ 16 * c.err * A ∧
      ∀ Y f, At c Y f → (Y * A ≤ V → f.num * d ≤ 25 * m * f.den) ∧ (V ≤ Y * A → 25 * m * f.den ≤ f.num * d) := by
  have p := o.pos
  unfold fitsB at hf
  by_cases c1 : 25 * m < c.knots.g 0 0 * d
  · rw [if_pos c1] at hf; cases hf
  rw [if_neg c1] at hf
  by_cases c2 : 25 * m > c.knots.g (len c.knots - 1) 0 * d
  · rw [if_pos c2] at hf; cases hf
  rw [if_neg c2] at hf
  by_cases c3 : len c.knots = 1
  · rw [if_pos c3, Bool.and_eq_true, decide_eq_true_eq, decide_eq_true_eq] at hf
    rw [c3, show 1 - 1 = 0 from rfl] at c2 ⊢
    refine ⟨16 * c.knots.g 0 1, 1, by omega, by omega, by omega, by omega, by omega, fun Y f h => ?_⟩
    obtain ⟨_, hp⟩ := h
    rcases hp with ⟨_, rfl, _⟩ | ⟨i, hi, _⟩
    · simp only; exact ⟨fun _ => by omega, fun _ => by omega⟩
    · omega
  · rw [if_neg c3] at hf
    obtain ⟨k1, k2⟩ := fitIdx_ok o (m := m) (d := d) (by omega) (by omega) (by omega)
    have hk := fitIdx_lt (x := c.knots) (m := m) (d := d) (by omega)
    generalize fitIdx c.knots m d = k at *
    have hf2 := hf
    unfold fitPt at hf2
    rw [Bool.and_eq_true, decide_eq_true_eq, decide_eq_true_eq] at hf2
    have hDk := o.inc k hk
    have hRk := r k hk
    have hA : 0 < fitDen c.knots d k := Int.mul_pos (by omega) hd
    have hu : 0 ≤ 25 * m - c.knots.g k 0 * d ∧ 25 * m - c.knots.g k 0 * d ≤ fitDen c.knots d k := by
      have : fitDen c.knots d k = c.knots.g (k + 1) 0 * d - c.knots.g k 0 * d := Int.sub_mul _ _ _
      omega
    have e0 : c.knots.g 0 1 * fitDen c.knots d k ≤ c.knots.g k 1 * fitDen c.knots d k := Int.mul_le_mul_of_nonneg_right (ys_le r (Nat.zero_le k) (by omega)) (by omega)
    have e1 : c.knots.g (k + 1) 1 * fitDen c.knots d k ≤ c.knots.g (len c.knots - 1) 1 * fitDen c.knots d k := Int.mul_le_mul_of_nonneg_right (ys_le r (by omega) (by omega)) (by omega)
    have e2 : 0 ≤ (c.knots.g (k + 1) 1 - c.knots.g k 1) * (25 * m - c.knots.g k 0 * d) := Int.mul_nonneg (by omega) hu.1
    have e3 : (c.knots.g (k + 1) 1 - c.knots.g k 1) * (25 * m - c.knots.g k 0 * d) ≤ (c.knots.g (k + 1) 1 - c.knots.g k 1) * fitDen c.knots d k := Int.mul_le_mul_of_nonneg_left hu.2 (by omega)
    rw [Int.sub_mul (c.knots.g (k + 1) 1) (c.knots.g k 1) (fitDen c.knots d k)] at e3
    have ev : fitVal c.knots m d k = c.knots.g k 1 * fitDen c.knots d k + (c.knots.g (k + 1) 1 - c.knots.g k 1) * (25 * m - c.knots.g k 0 * d) := rfl
    refine ⟨16 * fitVal c.knots m d k, fitDen c.knots d k, hA, ?_, ?_, hf2.1, hf2.2, fun Y f h => ⟨at_low o r h hk hd k1 k2, at_high o r h hk hd k1 k2⟩⟩
    · rw [Int.mul_assoc]; omega
    · rw [Int.mul_assoc]; omega
theorem dens_bd {b : Bulbs} {x : Survey} (h : (density (b, x)).2 = 0) : 900 ≤ (density (b, x)).1.lo ∧ (density (b, x)).1.lo ≤ (density (b, x)).1.hi ∧ (density (b, x)).1.hi ≤ 1100 := by
  unfold density at h ⊢
  split at h
  · rename_i h1; simp only [bne_iff_ne] at h1; exact absurd h h1
  · rename_i h1
    rw [if_neg h1]
    split at h
    · cases h
    · rename_i h2
      rw [if_neg h2]
      have v := void_false.1 (by simpa using h2)
      refine ⟨?_, v, ?_⟩
      · unfold meet; simp only; split <;> omega
      · unfold meet; simp only; split <;> omega
theorem sums_bd {x : Survey} (g : Good x) (he : (extremes x).2 = true) : (0 ≤ sums16 (extremes x).1.1 ∧ sums16 (extremes x).1.1 ≤ 1100000) ∧ 0 ≤ sums16 (extremes x).1.2 ∧ sums16 (extremes x).1.2 ≤ 1100000 := by
  have eo := extremes_ok g he
  obtain ⟨a0, a1, b0, b1, c0, c1, al⟩ := eo
  obtain ⟨h1, h2, h3, h4⟩ := g.m0; obtain ⟨k1, k2, k3, k4⟩ := g.m1
  obtain ⟨p1, p2, p3, p4⟩ := g.m2; obtain ⟨q1, q2, q3, q4⟩ := g.m3
  obtain ⟨i1, i2, i3, i4⟩ := g.m4; obtain ⟨j1, j2, j3, j4⟩ := g.m5
  generalize (extremes x).1.1 = l0 at *
  generalize (extremes x).1.2 = l1 at *
  rw [sums16_eq (l := l0) (by omega), sums16_eq (l := l1) (by omega)]
  omega
theorem fits_possible {s : Ship} {b : Bulbs} {x : Survey} {n m d : Int} (hs : ShipOk s) (g : Good x) (hd : (density (b, x)).2 = 0) (he : (extremes x).2 = true) (hn : sums16 (extremes x).1.1 ≤ n ∧ n ≤ sums16 (extremes x).1.2)
    (hdd : (density (b, x)).1.lo ≤ d ∧ d ≤ (density (b, x)).1.hi) (hm : s.light ≤ m ∧ m ≤ rooms s) (hf : fitsB s.mean n m d = true) : (massOf s b x).lo ≤ m ∧ m ≤ (massOf s b x).hi := by
  have db := dens_bd hd
  have sb := sums_bd g he
  have er := hs.mean.err
  have p := hs.mean.pos
  have y0 := hs.mean.y 0 p; have yl := hs.mean.y (len s.mean.knots - 1) (by omega)
  obtain ⟨V, A, hA, v0, v1, v2, v3, hat⟩ := fits_spec hs.mean hs.rises (by omega) hf
  have ey : ySpan s x = meet ⟨sums16 (extremes x).1.1 - 16 * s.mean.err, sums16 (extremes x).1.2 + 16 * s.mean.err⟩ ⟨16 * s.mean.knots.g 0 1, 16 * s.mean.knots.g (len s.mean.knots - 1) 1⟩ := by
    unfold ySpan
    rw [w64_in (n := 16 * s.mean.err) (by omega) (by omega), w64_in (n := sums16 (extremes x).1.1 - 16 * s.mean.err) (by omega) (by omega), w64_in (n := sums16 (extremes x).1.2 + 16 * s.mean.err) (by omega) (by omega), w64_in (n := 16 * s.mean.knots.g 0 1) (by omega) (by omega), w64_in (n := 16 * s.mean.knots.g (len s.mean.knots - 1) 1) (by omega) (by omega)]
  generalize sums16 (extremes x).1.1 = S0 at *
  generalize sums16 (extremes x).1.2 = S1 at *
  have l1 : (S0 - 16 * s.mean.err) * A ≤ V := by
    have : S0 * A ≤ n * A := Int.mul_le_mul_of_nonneg_right hn.1 (by omega)
    rw [Int.sub_mul]; omega
  have l2 : V ≤ (S1 + 16 * s.mean.err) * A := by
    have : n * A ≤ S1 * A := Int.mul_le_mul_of_nonneg_right hn.2 (by omega)
    rw [Int.add_mul]; omega
  have lo : (ySpan s x).lo * A ≤ V := by
    rw [ey]; unfold meet; simp only; split <;> assumption
  have hi : V ≤ (ySpan s x).hi * A := by
    rw [ey]; unfold meet; simp only; split <;> assumption
  have hv : void (ySpan s x) = false := void_false.2 (Int.le_of_mul_le_mul_right (Int.le_trans lo hi) hA)
  obtain ⟨w1, w2⟩ := wheres (x := x) hs hv
  have q1 := (hat _ _ w1).1 lo
  have q2 := (hat _ _ w2).2 hi
  have n1 := w1.ok; have n2 := w2.ok
  rw [massOf_form, if_neg (by rw [hv]; decide)]
  generalize whereOf s.mean (ySpan s x).lo = f1 at *
  generalize whereOf s.mean (ySpan s x).hi = f2 at *
  generalize (density (b, x)).1 = D at *
  have q3 : f1.num * D.lo ≤ f1.num * d := Int.mul_le_mul_of_nonneg_left hdd.1 n1.num
  have q4 : f2.num * d ≤ f2.num * D.hi := Int.mul_le_mul_of_nonneg_left hdd.2 n2.num
  have r1 := massLo_le n1 (d := D.lo) (m := m) (by omega) (by omega) (by omega)
  have r2 := le_massHi n2 (d := D.hi) (m := m) (by omega) (by omega) (by omega)
  unfold meet; simp only
  exact ⟨by split <;> omega, by split <;> omega⟩
end K
end Go.Proofs.Ytjbhooodjmjdkaa
/-! KO5 -/
namespace Go.Proofs.Ytjbhooodjmjdkaa
open Ev K
set_option maxRecDepth 100000
namespace K
theorem foldl_eq {α β : Type} {f g : α → β → α} : ∀ (l : List β) (a : α), (∀ a b, b ∈ l → f a b = g a b) → l.foldl f a = l.foldl g a
  | [], _, _ => rfl
  | b :: l, a, h => by rw [List.foldl_cons, List.foldl_cons, h a b (List.mem_cons_self ..)]; exact foldl_eq l _ (fun a c hc => h a c (List.mem_cons_of_mem _ hc))
theorem sumL_rooms {s : Ship} (hs : ShipOk s) : sumL (roomsL s (len s.holds)) = sumI s.holds (len s.holds) := by
  have e := (fold_rooms s.holds 0 (by omega) (len s.holds) (by have := hs.holds; omega) (fun i hi => (hldE_ok (hs.hold i hi)).2.1)).1
  rw [Int.zero_add] at e
  rw [← e]
  unfold sumL
  rw [roomsL_length]
  refine foldl_eq _ _ (fun a i hi => ?_)
  have hi := List.mem_range.1 hi
  rw [atI_get (by rw [roomsL_length]; exact hi)]
  simp [roomsL]
theorem full_is {s : Ship} (hs : ShipOk s) (h0 : hullCheck s = 0) : fullOf s = (rooms s, 0) := by
  have hl : loaded (s, roomsL s (len s.holds)) = 0 := by
    have hn : (List.range (roomsL s (len s.holds)).length).findSome? (lddE s (roomsL s (len s.holds))) = none := by
      rw [List.findSome?_eq_none_iff, roomsL_length]
      intro i hi
      have hi := List.mem_range.1 hi
      have hh := (hldE_ok (hs.hold i hi)).2.1
      have e : atI (roomsL s (len s.holds)) i = s.holds.g i 1 := by
        rw [atI_get (by rw [roomsL_length]; exact hi)]; simp [roomsL]
      unfold lddE
      rw [e, within_iff.2 ⟨hh.1, Int.le_refl _⟩]; rfl
    unfold loaded
    simp only [h0, hn]
    simp [K.orr, roomsL_length]
  unfold fullOf displ
  simp only
  rw [if_neg (by rw [hl]; decide), sumL_rooms hs, hs.room]
  have a := hs.light; have b := hs.room0; have c := hs.most; have d := hs.room
  rw [w64_in (by omega) (by omega)]
theorem dens_is {s : Ship} {b : Bulbs} {x : Survey} (h : checked (s, b, x) = 0) : Density (b, x) = density (b, x) := by
  have hc : Check (b, x) = 0 := by
    unfold checked at h
    exact (ite_err h).2
  unfold Density
  rw [if_neg (by rw [hc]; decide)]
theorem tru14_ok {s : Ship} {b : Bulbs} {v : Survey} {x : Six} {m d : Int} (h0 : hullCheck s = 0) (hs : ShipOk s) (g : Good v) (hd : (density (b, v)).2 = 0) (he : (extremes v).2 = true) :
    tru14G s v x (density (b, v)).1 m d (rooms s) 0 = true ∧ tru14 s v x (density (b, v)).1 m d true (within m (massOf s b v).lo (massOf s b v).hi) (rooms s) 0 = true := by
  unfold tru14G tru14
  cases hB : tru14B s v x (density (b, v)).1 m d (rooms s) 0 with
  | true => exact ⟨rfl, rfl⟩
  | false =>
    unfold tru14B at hB
    simp only [Bool.or_eq_false_iff, decide_eq_false_iff_not, Bool.not_eq_false'] at hB
    obtain ⟨_, b1, b2, b3, b4, b5⟩ := hB
    have eo := extremes_ok g he
    have hbt := between g eo ((bends_iff g x).1 b5)
    have sb := sums_bd g he
    have db := dens_bd hd
    have hr := hs.most; have hl := hs.light
    have fo : fitOk (s, lsix x, m, d) = true := by
      unfold fitOk
      rw [Bool.and_eq_true, Bool.and_eq_true, Bool.and_eq_true, within_iff, within_iff, within_iff]
      simp only
      exact ⟨by rw [h0]; rfl, ⟨by omega, by omega⟩, ⟨by omega, by omega⟩, ⟨by omega, by omega⟩⟩
    refine ⟨by rw [fo]; rfl, ?_⟩
    rw [if_neg (by decide)]
    unfold tru16
    rw [if_pos rfl]
    cases hf : fitsB s.mean (lsix x) m d with
    | false => rfl
    | true =>
      have := fits_possible hs g hd he hbt ⟨by omega, by omega⟩ ⟨by omega, by omega⟩ hf
      rw [within_iff.2 this]; rfl
theorem tru10_ok {s : Ship} {b : Bulbs} {v : Survey} {x : Six} {m d : Int} (h : checked (s, b, v) = 0) :
    tru10G s b v x m d = true ∧ tru10 s b v x m d true (within m (massOf s b v).lo (massOf s b v).hi) = true := by
  obtain ⟨hs, hb, g, hd, he⟩ := checked_ok h
  have h0 : hullCheck s = 0 := by unfold checked at h; exact (ite_err h).1
  have e1 : ((density (b, v)).2 != 0) = false := by rw [hd]; rfl
  obtain ⟨t1, t2⟩ := tru14_ok (x := x) (m := m) (d := d) h0 hs g hd he
  unfold tru10G tru10
  rw [dens_is h, full_is hs h0, e1]
  have := hs.holds
  exact ⟨by rw [t1, decide_eq_true (show len s.holds ≤ 1000 by omega)]; rfl, t2⟩
def lawTrue (_ : Ship × Bulbs × Survey × Int × Int × Six) : Bool := true
theorem lawTrue_true (a) : lawTrue a = true := rfl
theorem br_all {ρ : Type} {b : Bool} {t e : T ρ} {r : Option ρ} (h1 : b = true → t.run = r) (h2 : b = false → e.run = r) : (T.br b t e).run = r := by
  rw [T.run_br]
  cases b with
  | true => exact h1 rfl
  | false => exact h2 rfl
theorem br_t {ρ : Type} {b : Bool} {t e : T ρ} {r : Option ρ} (h : b = true) (h1 : t.run = r) : (T.br b t e).run = r := by subst h; exact h1
theorem br_f {ρ : Type} {b : Bool} {t e : T ρ} {r : Option ρ} (h : b = false) (h1 : e.run = r) : (T.br b t e).run = r := by subst h; exact h1
theorem lawTrue_eq (a : Ship × Bulbs × Survey × Int × Int × Six) : callT1 P BKO43 30 4 D_ltru dB a = some (lawTrue a) := by
  obtain ⟨s, b, v, m, d, x⟩ := a
  show _ = some true
  rw [fn_ltru]
  refine br_all (fun _ => rfl) (fun _ => br_all (fun _ => rfl) (fun _ => ?_))
  simp only
  by_cases hc : checked (s, b, v) = 0
  · obtain ⟨t1, t2⟩ := tru10_ok (x := x) (m := m) (d := d) hc
    have eP : sPossible (s, b, v, m) = (within m (massOf s b v).lo (massOf s b v).hi, 0) := by unfold sPossible; simp only [hc]; rfl
    have eM : sMass (s, b, v) = if void (massOf s b v) = true then (⟨0, 0⟩, 9) else (massOf s b v, 0) := by unfold sMass; simp only [hc]; rfl
    have fin : ∀ {z : Bool}, z = within m (massOf s b v).lo (massOf s b v).hi → T.run (.chk (tru10G s b v x m d) (.ret (tru10 s b v x m d true z))) = some true := by
      intro z e; subst e; exact chk_step t1 (by rw [T.run_ret, t2])
    generalize hw : within m (massOf s b v).lo (massOf s b v).hi = w at *
    rw [eP, eM]
    refine br_f rfl ?_
    cases hv : void (massOf s b v) with
    | true =>
      have v := void_true.1 hv
      have hw : w = false := by
        cases w with
        | false => rfl
        | true => have := within_iff.1 hw; omega
      subst hw
      exact br_t rfl (br_f rfl (br_f rfl (br_f rfl (fin rfl))))
    | false =>
      refine br_f rfl (br_t rfl (br_all (fun c => ?_) (fun c => ?_)))
      · have c : m ≥ (massOf s b v).lo := of_decide_eq_true c
        have : w = decide (m ≤ (massOf s b v).hi) := by
          rw [← hw]; unfold within; rw [decide_eq_true (show (massOf s b v).lo ≤ m from c)]; rfl
        refine br_f ?_ (fin rfl)
        show (!(w == decide (m ≤ (massOf s b v).hi))) = false
        rw [this]; simp
      · have c : ¬ m ≥ (massOf s b v).lo := of_decide_eq_false c
        have : w = false := by
          cases w with
          | false => rfl
          | true => have := within_iff.1 hw; omega
        refine br_f ?_ (fin rfl)
        show (!(w == false)) = false
        rw [this]; rfl
  · have eP : sPossible (s, b, v, m) = (false, checked (s, b, v)) := by unfold sPossible; rw [if_pos (by simpa using hc)]
    have eM : sMass (s, b, v) = (⟨0, 0⟩, checked (s, b, v)) := by unfold sMass; rw [if_pos (by simpa using hc)]
    rw [eP, eM]
    exact br_t (by simpa using hc) (br_t (by simp) rfl)
end K
end Go.Proofs.Ytjbhooodjmjdkaa
/-! KZTrue -/
namespace Go.Proofs.Ytjbhooodjmjdkaa
open Ev K
open Go.ChangeShapes Go.WideShapes Go.RowKit
set_option maxRecDepth 100000
theorem fl_six : flat P 8 48 = some (List.replicate 6 (.int .i64)) := by kernel_rfl
theorem ag_six : aggB P 48 = some true := by kernel_rfl
section
variable {H : Type} {enc : TypeId × Value → H} {w : World}
theorem rl_six {cs : List Value} (h : Cells enc P w (List.replicate 6 (.int .i64)) cs) : RdV w dSix (.agg cs.toArray) := by
  obtain ⟨v0, cs0, rfl, c0, h⟩ := cells_cons h
  obtain ⟨v1, cs1, rfl, c1, h⟩ := cells_cons h
  obtain ⟨v2, cs2, rfl, c2, h⟩ := cells_cons h
  obtain ⟨v3, cs3, rfl, c3, h⟩ := cells_cons h
  obtain ⟨v4, cs4, rfl, c4, h⟩ := cells_cons h
  obtain ⟨v5, cs5, rfl, c5, h⟩ := cells_cons h
  obtain rfl := cells_nil h
  exact rdV_agg (rdL_cons (rd_int c0) (rdL_cons (rd_int c1) (rdL_cons (rd_int c2) (rdL_cons (rd_int c3) (rdL_cons (rd_int c4) (rdL_last (rd_int c5)))))))
variable {r : Reach} {b : Nat} {v : Value} {d : DataW H} {p : List MemPlace}
theorem rp_six (hok : Value.okWide P w r b 48 v) (h : DataW.Trod enc P w 0 (fun _ => true) true 48 v d p) : RdV w dSix v := by
  obtain ⟨cs, rfl, hc⟩ := param_agg fl_six ag_six hok h
  exact rl_six hc
end
theorem law_pc (a) : PC P 4 (D_ltru.enc a) (.bool true) := by
  have h := lawTrue_eq a
  rw [lawTrue_true] at h
  exact call_of okP tKO43 h
theorem ownP : ownKnob P.godebug = none := by kernel_rfl
theorem laidP : laidOutB P = true := by kernel_rfl
theorem ub : P.underlying 4 = some .bool := by kernel_rfl
theorem surveyTrue_lifted (os : Os) (started : os.Started) (H : Type) (enc : TypeId × Value → H) :
    ReturnsInHanded {} Try.checked os 4 .any (Rows.surveyTrueSpec.pre6 enc Try.prog Try.f4 Rows.surveyTrueRow.domain false) (Rows.surveyTrueSpec.post enc Try.prog Try.f4 false true false false) := by
  refine returnsInHanded_of_change (C := Try.checked) ownP started (by kernel_rfl) Try.func4
    (ChangeSpec.witness6 (enc := enc) (C := Try.checked) false ⟨#[], #[.agg #[.int .i64 0, .int .i64 0, .int .i64 0, .int .i64 0, .slice none 0 0, .slice none 0 0, .int .i64 0, .slice none 0 0, .int .i64 0, .int .i64 0, .int .i64 0], .agg #[.slice none 0 0, .slice none 0 0], .agg (Array.replicate 18 (.int .i64 0)), .int .i64 0, .int .i64 0, .agg (Array.replicate 6 (.int .i64 0))], []⟩ 8 (by kernel_rfl) (by kernel_rfl) (by kernel_rfl) (by kernel_rfl)) ?_
  intro W base args ds gs before hval hW _ _
  refine law_contract (P := Try.prog) D_ltru laidP (by kernel_rfl) rfl (fun ds hd => ?_) (fun W' b sp hd => trodAll_mk1 (shut_bool ub true)) (fun W' => ok_one (by kernel_rfl) rfl (okWide_bool_mk ub true)) (fun W base args ds p hval hA => ?_) law_pc W base args ds gs before hval hW
  · rw [Try.params4] at hd
    match ds, hd with
    | [a, b, c, d, e, f], _ => rfl
  · rw [Try.params4] at hA hval
    obtain ⟨v0, vs0, d0, ds0, p0, q0, e0, _, _, h0, r0⟩ := trodAll_cons hA
    obtain ⟨v1, vs1, d1, ds1, p1, q1, e1, _, _, h1, r1⟩ := trodAll_cons r0
    obtain ⟨v2, vs2, d2, ds2, p2, q2, e2, _, _, h2, r2⟩ := trodAll_cons r1
    obtain ⟨v3, vs3, d3, ds3, p3, q3, e3, _, _, h3, r3⟩ := trodAll_cons r2
    obtain ⟨v4, vs4, d4, ds4, p4, q4, e4, _, _, h4, r4⟩ := trodAll_cons r3
    obtain ⟨v5, vs5, d5, ds5, p5, q5, e5, _, _, h5, r5⟩ := trodAll_cons r4
    obtain ⟨e6, _, _⟩ := trodAll_nil r5
    subst e6; subst e5; subst e4; subst e3; subst e2; subst e1
    have ha : args = #[v0, v1, v2, v3, v4, v5] := by apply Array.ext'; exact e0
    subst ha
    exact rdL_cons (rp_ship (hval 0 _ v0 rfl rfl) h0) (rdL_cons (rp_bulbs (hval 1 _ v1 rfl rfl) h1) (rdL_cons (rp_survey (hval 2 _ v2 rfl rfl) h2) (rdL_cons (rp_int (hval 3 _ v3 rfl rfl) h3) (rdL_cons (rp_int (hval 4 _ v4 rfl rfl) h4) (rdL_last (rp_six (hval 5 _ v5 rfl rfl) h5))))))
theorem surveyTrue_holds : Rows.SurveyTrueSaid :=
  OpenClaim.holds_of_wide 4 Try.f4 rfl rfl rfl rfl rfl rfl rfl ⟨rfl, rfl, rfl, rfl, rfl⟩ rfl rfl rfl rfl rfl (by kernel_rfl) Try.func4 (by kernel_rfl)
    (of_decide_eq_true (by kernel_rfl)) (by unfold Func.isWrapper; rw [if_neg (of_decide_eq_false (by kernel_rfl))]; exact ⟨rfl, rfl⟩)
    (fun os started H enc _ => surveyTrue_lifted os started H enc)
#print axioms surveyTrue_holds
end Go.Proofs.Ytjbhooodjmjdkaa
