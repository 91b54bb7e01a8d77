/- SurveyNarrower: for every input the law returns true, and the input reads as it did. No conditions. -/
import Derived.Test.YtjbhooodjmjdkaaRows
import Derived.Test.YtjbhooodjmjdkaaBn5
/-! KQ -/
namespace Go.Proofs.Ytjbhooodjmjdkaa
open Ev K
set_option maxRecDepth 100000
def dSix : Dec (Int × Int × Int × Int × Int × Int) := dAgg (.cons (dI .i64) (.cons (dI .i64) (.cons (dI .i64) (.cons (dI .i64) (.cons (dI .i64) (.last (dI .i64) 0))))))
theorem fn_Sixteen : ∀ a, (callT1 P BKF2 30 21 D_chk R_off) a = T.run (
  .br (Check a != (0 : Int)) (
    .ret ((Span.mk (0 : Int) (0 : Int), Check a))) (
    .ret ((Span.mk (sums16 (Prod.fst (Prod.fst (extremes (Prod.snd a))))) (sums16 (Prod.snd (Prod.fst (extremes (Prod.snd a))))), (0 : Int))))) := fun a => by kernel_rfl
noncomputable def K.Sixteen (a : Bulbs × Survey) : Span × Int := (if (Check a != (0 : Int)) = true then (Span.mk (0 : Int) (0 : Int), Check a) else (Span.mk (sums16 (Prod.fst (Prod.fst (extremes (Prod.snd a))))) (sums16 (Prod.snd (Prod.fst (extremes (Prod.snd a))))), (0 : Int)))
theorem eq_Sixteen (a : Bulbs × Survey) : (callT1 P BKF2 30 21 D_chk R_off) a = some (K.Sixteen a) := (fn_Sixteen a).trans (T.br_some rfl rfl)
noncomputable def BKQ1 : Tab := BKF2.addCall 21 (callE D_chk R_off (fun a => .ret (K.Sixteen a)))
theorem tKQ1 : TabOk P BKQ1 := TabOk.addFn (d := 30) okP tKF2 (fun a r h => by rw [eq_Sixteen]; exact congrArg some (ret_some h))
def D_bulbs := DecL.last dBulbs 0
theorem fn_few : ∀ a, (callT1 P BKQ1 30 7 D_bulbs dB) a = T.run (
  .br (decide ((↑(len (Bulbs.hydros a)) : Int) ≤ (12 : Int))) (
    .ret (decide ((↑(len (Bulbs.glasses a)) : Int) ≤ (60 : Int)))) (
    .ret (false))) := fun a => by kernel_rfl
noncomputable def K.few (a : Bulbs) : Bool := (if (decide ((↑(len (Bulbs.hydros a)) : Int) ≤ (12 : Int))) = true then decide ((↑(len (Bulbs.glasses a)) : Int) ≤ (60 : Int)) else false)
theorem eq_few (a : Bulbs) : (callT1 P BKQ1 30 7 D_bulbs dB) a = some (K.few a) := (fn_few a).trans (T.br_some rfl rfl)
noncomputable def BKQ2 : Tab := BKQ1.addCall 7 (callE D_bulbs dB (fun a => .ret (K.few a)))
theorem tKQ2 : TabOk P BKQ2 := TabOk.addFn (d := 30) okP tKQ1 (fun a r h => by rw [eq_few]; exact congrArg some (ret_some h))
theorem fn_ship : ∀ a, (callT1 P BKQ2 30 6 D_ship dB) a = T.run (
  .br (decide ((↑(len (Ship.holds a)) : Int) ≤ (12 : Int))) (
    .br (decide ((↑(len (Curve.knots (Ship.mean a))) : Int) ≤ (60 : Int))) (
      .ret (decide ((↑(len (Curve.knots (Ship.mc a))) : Int) ≤ (60 : Int)))) (
      .ret (false))) (
    .ret (false))) := fun a => by kernel_rfl
noncomputable def K.ship (a : Ship) : Bool := (if (decide ((↑(len (Ship.holds a)) : Int) ≤ (12 : Int))) = true then (if (decide ((↑(len (Curve.knots (Ship.mean a))) : Int) ≤ (60 : Int))) = true then decide ((↑(len (Curve.knots (Ship.mc a))) : Int) ≤ (60 : Int)) else false) else false)
theorem eq_ship (a : Ship) : (callT1 P BKQ2 30 6 D_ship dB) a = some (K.ship a) := (fn_ship a).trans (T.br_some (T.br_some rfl rfl) rfl)
noncomputable def BKQ3 : Tab := BKQ2.addCall 6 (callE D_ship dB (fun a => .ret (K.ship a)))
theorem tKQ3 : TabOk P BKQ3 := TabOk.addFn (d := 30) okP tKQ2 (fun a r h => by rw [eq_ship]; exact congrArg some (ret_some h))
end Go.Proofs.Ytjbhooodjmjdkaa
/-! KJ -/
namespace Go.Proofs.Ytjbhooodjmjdkaa
open Ev K
set_option maxRecDepth 100000
def D_none := DecL.tops 0
theorem head_run : callT1 P BKQ3 30 5 D_none dB () = some true := by kernel_rfl
noncomputable def BKJ1 : Tab := BKQ3.addCall 5 (callE D_none dB (fun _ => .ret true))
theorem tKJ1 : TabOk P BKJ1 := TabOk.addFn (d := 30) okP tKQ3 (fun a r h => by cases ret_some h; exact head_run)
end Go.Proofs.Ytjbhooodjmjdkaa
/-! KO1 -/
namespace Go.Proofs.Ytjbhooodjmjdkaa
open Ev K
set_option maxRecDepth 100000
def S_rms2 := DecS.ghost 3 3 1 [.int .i64] (DecS.mk0 (.skip (.unit (dLp 0 0 0 0) (.skip (.cons (dO 1) (.last (dI .i64) 17))))) (.flat 27 lShip (.rows 3 rInt .nil)))
def X_rms2 := DecX.one (.exit 0) [1, 3] (DecS.mk0 (.skip (.unit (dLp 0 0 0 0) (.skip (.last (dO 1) 18)))) (.flat 27 lShip (.rows 3 rInt .nil)))
noncomputable def K.st_rms2 := loopT1 P BKJ1 30 13 25 [4, 1, 3] S_rms2 X_rms2
theorem sl_rms2 : ∀ s, (K.st_rms2) s = T.run (
  .br (decide (Prod.snd (Prod.fst s) < (↑(len (Ship.holds (Prod.fst (Prod.snd s)))) : Int))) (
    .chk (decide ((0 : Int) ≤ Prod.snd (Prod.fst s) ∧ Prod.snd (Prod.fst s) < (↑(XS.len (Ship.holds (Prod.fst (Prod.snd s)))) : Int))) <|
    .chk (decide ((List.length (Prod.fst (Prod.snd (Prod.snd s))) + (1 : Nat)) * (8 : Nat) ≤ (140737488355328 : Nat) ∧ List.length (Prod.fst (Prod.snd (Prod.snd s))) + (1 : Nat) ≤ nat_lit 9223372036854775807)) <|
    .ret (Sum.inl ((List.length (Prod.fst (Prod.snd (Prod.snd s))) + (1 : Nat), IntKind.wrap IntKind.i64 (Prod.snd (Prod.fst s) + (1 : Int))), Prod.fst (Prod.snd s), decF rInt (List.length (Prod.fst (Prod.snd (Prod.snd s))) + (1 : Nat)) (appG (List.length (Prod.fst (Prod.snd (Prod.snd s)))) (encF rInt (Prod.fst (Prod.snd (Prod.snd s)))) fun i k => Option.getD [AV.int IntKind.i64 (XS.g (Ship.holds (Prod.fst (Prod.snd s))) (Int.toNat (Prod.snd (Prod.fst s))) (1 : Nat))][((0 : Nat) + i) * (1 : Nat) + k]? AV.top), PUnit.unit))) (
    .ret (Sum.inr (Prod.fst (Prod.fst s), Prod.fst (Prod.snd s), decF rInt (List.length (Prod.fst (Prod.snd (Prod.snd s)))) (encF rInt (Prod.fst (Prod.snd (Prod.snd s)))), PUnit.unit)))) := fun s => by kernel_rfl
noncomputable def K.L_rms2 := lim K.st_rms2
noncomputable def BKO11 : Tab := BKJ1.addNode 13 25 (nodeE [4, 1, 3] S_rms2 X_rms2 (fun s => .obs (K.L_rms2 s) .ret))
theorem tKO11 : TabOk P BKO11 := TabOk.addLoop (d := 30) okP tKJ1 (by kernel_rfl) (by kernel_rfl) (fun s r h => obs_ret h)
def D_rms2 := DecL.last dShip 0
theorem fn_rms2 : ∀ a, (callT1 P BKO11 30 13 D_rms2 (dRows rInt)) a = T.run (
  .obs (L_rms2 (((0 : Nat), (0 : Int)), a, decF rInt (0 : Nat) fun x x_1 => AV.top, PUnit.unit)) fun x0 =>
    .ret (decF rInt (List.length (Prod.fst (Prod.snd (Prod.snd x0)))) fun i => encF rInt (Prod.fst (Prod.snd (Prod.snd x0))) ((0 : Nat) + i))) := fun a => by kernel_rfl
/-- The rooms of all holds. -/
def K.roomsL (s : Ship) (n : Nat) : List Int := (List.range n).map fun i => s.holds.g i 1
theorem K.roomsL_length (s : Ship) (n : Nat) : (roomsL s n).length = n := by simp [roomsL]
theorem K.roomsL_succ (s : Ship) (n : Nat) : roomsL s (n + 1) = roomsL s n ++ [s.holds.g n 1] := by unfold roomsL; rw [List.range_succ, List.map_append]; rfl
theorem K.L_rms2_eq (s : Ship) (h : len s.holds ≤ 1000) : K.L_rms2 ((0, 0), s, [], ()) = some (len s.holds, s, roomsL s (len s.holds), ()) := by
  have e1 := K.len_le s.holds; have e2 := K.len_le' s.holds
  refine lim_all (fun i => ((i, (i : Int)), s, roomsL s i, ())) (len s.holds) (fun i hi => ?_) ?_
  · rw [sl_rms2]
    simp only [T.run_br, T.run_chk, T.run_ret, decide_eq_true_eq, Int.toNat_natCast, roomsL_length]
    rw [if_pos (by omega), if_pos (by omega), if_pos (by omega), w64_in (n := (i : Int) + 1) (by omega) (by omega)]
    have := decF_push rInt (roomsL s i) (fun i_1 k => Option.getD [AV.int IntKind.i64 (XS.g s.holds i 1)][((0 : Nat) + i_1) * (1 : Nat) + k]? AV.top)
    rw [roomsL_length] at this
    rw [this, roomsL_succ]; rfl
  · rw [sl_rms2]
    simp only [T.run_br, T.run_ret, decide_eq_true_eq, roomsL_length]
    rw [if_neg (by omega)]
    have := decF_encF rInt (roomsL s (len s.holds))
    rw [roomsL_length] at this
    rw [this]
theorem K.rms2_eq (s : Ship) (h : len s.holds ≤ 1000) : callT1 P BKO11 30 13 D_rms2 (dRows rInt) s = some (roomsL s (len s.holds)) := by
  rw [fn_rms2]
  show T.run (.obs (L_rms2 ((0, 0), s, [], ())) _) = _
  rw [L_rms2_eq s h, T.run_some, T.run_ret, decF_enc0]
noncomputable def BKO12 : Tab := BKO11.addCall 13 (callE D_rms2 (dRows rInt) (fun s => .chk (decide (len s.holds ≤ 1000)) (.ret (K.roomsL s (len s.holds)))))
theorem tKO12 : TabOk P BKO12 := TabOk.addFn (d := 30) okP tKO11 (fun a r h => by obtain ⟨g, e⟩ := chk_ret h; subst e; exact K.rms2_eq a (by simpa using g))
/-! sum -/
def S_sum := DecS.mk1 (.skips 3 (.cons (dI .i64) (.skips 2 (.cons (dRows rInt) (.cons (dI .i64) (.last (dI .i64) 8))))))
def X_sum := DecX.one (.exit 0) [3] (DecS.mk1 (.skips 3 (.last (dI .i64) 13)))
noncomputable def K.st_sum := loopT1 P BKO12 30 30 25 [8, 3, 6, 7] S_sum X_sum
theorem sl_sum : ∀ s, (K.st_sum) s = T.run (
  .br (decide (Prod.snd (Prod.snd (Prod.snd s)) < Prod.fst (Prod.snd (Prod.snd s)))) (
    .chk (decide ((0 : Int) ≤ Prod.snd (Prod.snd (Prod.snd s)) ∧ Prod.snd (Prod.snd (Prod.snd s)) < (↑(List.length (Prod.fst (Prod.snd s))) : Int))) <|
    .ret (Sum.inl (IntKind.wrap IntKind.i64 (Prod.fst s + numOf (encF rInt (Prod.fst (Prod.snd s)) ((0 : Nat) + Int.toNat (Prod.snd (Prod.snd (Prod.snd s)))) (0 : Nat))), decF rInt (List.length (Prod.fst (Prod.snd s))) fun i => encF rInt (Prod.fst (Prod.snd s)) ((0 : Nat) + i), Prod.fst (Prod.snd (Prod.snd s)), IntKind.wrap IntKind.i64 (Prod.snd (Prod.snd (Prod.snd s)) + (1 : Int))))) (
    .ret (Sum.inr (Prod.fst s)))) := fun s => by kernel_rfl
noncomputable def K.L_sum := lim K.st_sum
noncomputable def BKO13 : Tab := BKO12.addNode 30 25 (nodeE [8, 3, 6, 7] S_sum X_sum (fun s => .obs (K.L_sum s) .ret))
theorem tKO13 : TabOk P BKO13 := TabOk.addLoop (d := 30) okP tKO12 (by kernel_rfl) (by kernel_rfl) (fun s r h => obs_ret h)
def D_sum := DecL.last (dRows rInt) 0
theorem fn_sum : ∀ a, (callT1 P BKO13 30 30 D_sum R_i) a = T.run (
  .obs (L_sum ((0 : Int), decF rInt (List.length a) fun i => encF rInt a ((0 : Nat) + i), (↑(clampL (List.length a)) : Int), (0 : Int))) fun x0 =>
    .ret (x0)) := fun a => by kernel_rfl
/-- A number of a list. -/
def K.atI (l : List Int) (i : Nat) : Int := numOf (encF rInt l i 0)
theorem K.atI_get {l : List Int} {i : Nat} (h : i < l.length) : atI l i = l[i] := by unfold atI; rw [encF_at (List.getElem?_eq_getElem h)]; rfl
def K.sumL (l : List Int) : Int := (List.range l.length).foldl (fun a i => IntKind.i64.wrap (a + atI l i)) 0
theorem K.L_sum_eq (l : List Int) (h : l.length ≤ 1000000) : K.L_sum (0, l, (l.length : Int), 0) = some (sumL l) := by
  refine lim_fold (fun i a => (a, l, (l.length : Int), (i : Int))) l.length (fun a i => IntKind.i64.wrap (a + atI l i)) id (fun i hi a => ?_) (fun a => ?_) 0
  · rw [sl_sum]
    simp only [T.run_br, T.run_chk, T.run_ret, decide_eq_true_eq, Int.toNat_natCast, decF_encF, Nat.zero_add]
    rw [if_pos (by omega), if_pos (by omega), w64_in (n := (i : Int) + 1) (by omega) (by omega)]; rfl
  · rw [sl_sum]
    simp only [T.run_br, T.run_ret, decide_eq_true_eq]
    rw [if_neg (by omega)]; rfl
theorem K.sum_eq (l : List Int) (h : l.length ≤ 1000000) : callT1 P BKO13 30 30 D_sum R_i l = some (sumL l) := by
  rw [fn_sum, decF_enc0, clampL_eq (by unfold maxL; omega)]
  show T.run (.obs (L_sum (0, l, (l.length : Int), 0)) _) = _
  rw [L_sum_eq l h]; rfl
noncomputable def BKO14 : Tab := BKO13.addCall 30 (callE D_sum R_i (fun l => .chk (decide (l.length ≤ 1000000)) (.ret (K.sumL l))))
theorem tKO14 : TabOk P BKO14 := TabOk.addFn (d := 30) okP tKO13 (fun a r h => by obtain ⟨g, e⟩ := chk_ret h; subst e; exact K.sum_eq a (by simpa using g))
/-! loaded -/
def lInts : DecL (List Int) := DecL.last (dRows rInt) 0
def D_ldd := DecL.cons dShip (.last (dRow1 1 lInts) 0)
def S_ldd := DecS.mk0 (.skips 2 (.unit (dLp 0 0 0 0) (.skips 12 (.cons (dRow1 1 lInts) (.unit (dIl 1) (.unit (dIl 0) (.skips 9 (.cons (dRows rInt) (.cons (dI .i64) (.last (dI .i64) 15)))))))))) (.flat 27 lShip .nil)
def X_ldd := DecX.or (DecX.one .ret [4] (DecS.mk1 (.skips 4 (.last (dI .i64) 40)))) (DecX.one (.exit 2) [2, 15, 16, 17] (DecS.mk0 (.skips 2 (.unit (dLp 0 0 0 0) (.skips 12 (.cons (dRow1 1 lInts) (.unit (dIl 1) (.unit (dIl 0) (.tops 27))))))) (.flat 27 lShip .nil)))
noncomputable def K.st_ldd := loopT1 P BKO14 30 29 81 [29, 2, 27, 15, 16, 17, 28] S_ldd X_ldd
theorem sl_ldd : ∀ s, (K.st_ldd) s = T.run (
  .br (decide (Prod.snd (Prod.snd (Prod.snd (Prod.fst s))) < Prod.fst (Prod.snd (Prod.snd (Prod.fst s))))) (
    .chk (decide ((0 : Int) ≤ Prod.snd (Prod.snd (Prod.snd (Prod.fst s))) ∧ Prod.snd (Prod.snd (Prod.snd (Prod.fst s))) < (↑(List.length (Prod.fst (Prod.snd (Prod.fst s)))) : Int))) <|
    .chk (decide ((0 : Int) ≤ Prod.snd (Prod.snd (Prod.snd (Prod.fst s))) ∧ Prod.snd (Prod.snd (Prod.snd (Prod.fst s))) < (↑(XS.len (Ship.holds (Prod.fst (Prod.snd s)))) : Int))) <|
    .br (!within (numOf (encF rInt (Prod.fst (Prod.snd (Prod.fst s))) ((0 : Nat) + Int.toNat (Prod.snd (Prod.snd (Prod.snd (Prod.fst s))))) (0 : Nat))) (0 : Int) (XS.g (Ship.holds (Prod.fst (Prod.snd s))) (Int.toNat (Prod.snd (Prod.snd (Prod.snd (Prod.fst s))))) (1 : Nat))) (
      .ret (Sum.inr (Sum.inl (1 : Int)))) (
      .ret (Sum.inl ((decF rInt (List.length (Prod.fst (Prod.fst s))) fun i => encF rInt (Prod.fst (Prod.fst s)) ((0 : Nat) + i), decF rInt (List.length (Prod.fst (Prod.snd (Prod.fst s)))) fun i => encF rInt (Prod.fst (Prod.snd (Prod.fst s))) ((0 : Nat) + i), Prod.fst (Prod.snd (Prod.snd (Prod.fst s))), IntKind.wrap IntKind.i64 (Prod.snd (Prod.snd (Prod.snd (Prod.fst s))) + (1 : Int))), Prod.fst (Prod.snd s), PUnit.unit)))) (
    .ret (Sum.inr (Sum.inr ((decF rInt (List.length (Prod.fst (Prod.fst s))) fun i => encF rInt (Prod.fst (Prod.fst s)) ((0 : Nat) + i), PUnit.unit), Prod.fst (Prod.snd s), PUnit.unit))))) := fun s => by kernel_rfl
noncomputable def K.L_ldd := lim K.st_ldd
noncomputable def BKO15 : Tab := BKO14.addNode 29 81 (nodeE [29, 2, 27, 15, 16, 17, 28] S_ldd X_ldd (fun s => .obs (K.L_ldd s) .ret))
theorem tKO15 : TabOk P BKO15 := TabOk.addLoop (d := 30) okP tKO14 (by kernel_rfl) (by kernel_rfl) (fun s r h => obs_ret h)
theorem fn_ldd : ∀ a, (callT1 P BKO15 30 29 D_ldd R_i) a = T.run (
  .br (hullCheck (Prod.fst a) != (0 : Int)) (
    .ret (hullCheck (Prod.fst a))) (
    .br ((↑(clampL (List.length (Prod.snd a))) : Int) != (↑(len (Ship.holds (Prod.fst a))) : Int)) (
      .ret ((1 : Int))) (
      .obs (L_ldd ((decF rInt (List.length (Prod.snd a)) fun i => encF rInt (Prod.snd a) ((0 : Nat) + i), decF rInt (List.length (Prod.snd a)) fun i => encF rInt (Prod.snd a) ((0 : Nat) + i), (↑(clampL (List.length (Prod.snd a))) : Int), (0 : Int)), Prod.fst a, PUnit.unit)) fun x0 =>
        .sum (x0) (fun x1 =>
          .ret (x1)) (fun x1 =>
          .ret ((0 : Int)))))) := fun a => by kernel_rfl
theorem K.bne_zero2 {a b : Int} (h : ¬ (a != b) = true) : a = b := by simpa using h
/-- The error of a mass of a loading. -/
def K.lddE (s : Ship) (l : List Int) (i : Nat) : Option Int := if (!within (atI l i) 0 (s.holds.g i 1)) = true then some 1 else none
theorem K.L_ldd_eq (s : Ship) (l : List Int) (h : l.length = len s.holds) (h2 : l.length ≤ 1000000) : K.L_ldd ((l, l, (l.length : Int), 0), s, ()) = some (K.orr Sum.inl (.inr ((l, ()), s, ())) ((List.range l.length).findSome? (lddE s l))) := by
  have e1 := K.len_le s.holds; have e2 := K.len_le' s.holds
  refine lim_err (fun i => ((l, l, (l.length : Int), (i : Int)), s, ())) l.length (lddE s l) Sum.inl _ (fun i hi => ?_) ?_
  · rw [sl_ldd]
    simp only [T.run_br, T.run_chk, T.run_ret, decide_eq_true_eq, Int.toNat_natCast, decF_encF, Nat.zero_add]
    rw [if_pos (by omega), if_pos (by omega), if_pos (by omega), w64_in (n := (i : Int) + 1) (by omega) (by omega)]
    show (if (!within (atI l i) 0 (s.holds.g i 1)) = true then _ else _) = _
    unfold lddE
    split <;> rfl
  · rw [sl_ldd]
    simp only [T.run_br, T.run_ret, decide_eq_true_eq, decF_enc0]
    rw [if_neg (by omega)]
noncomputable def K.loaded (a : Ship × List Int) : Int := if (hullCheck a.1 != 0) = true then hullCheck a.1 else if ((a.2.length : Int) != (len a.1.holds : Int)) = true then 1 else K.orr id 0 ((List.range a.2.length).findSome? (lddE a.1 a.2))
theorem K.loaded_eq (a : Ship × List Int) (h : a.2.length ≤ 1000000) : callT1 P BKO15 30 29 D_ldd R_i a = some (loaded a) := by
  obtain ⟨s, l⟩ := a
  rw [fn_ldd]; unfold loaded
  simp only [decF_enc0]
  have h : l.length ≤ 1000000 := h
  rw [clampL_eq (by unfold maxL; omega)]
  refine br_step (fun _ => rfl) (fun _ => br_step (fun _ => rfl) (fun hn => ?_))
  have hl : l.length = len s.holds := by
    have hn : ¬ ((l.length : Int) != (len s.holds : Int)) = true := hn
    have := bne_zero2 hn; omega
  show T.run (.obs (L_ldd ((l, l, (l.length : Int), 0), s, ())) _) = _
  rw [L_ldd_eq s l hl h]
  cases (List.range l.length).findSome? (lddE s l) <;> rfl
noncomputable def BKO16 : Tab := BKO15.addCall 29 (callE D_ldd R_i (fun a => .chk (decide (a.2.length ≤ 1000000)) (.ret (K.loaded a))))
theorem tKO16 : TabOk P BKO16 := TabOk.addFn (d := 30) okP tKO15 (fun a r h => by obtain ⟨g, e⟩ := chk_ret h; subst e; exact K.loaded_eq a (by simpa using g))
def D_dsp := DecL.cons dShip (.last (dRows rInt) 0)
def R_dsp := dTup (.cons (dI .i64) (.last (dI .i64) 0))
theorem fn_dsp : ∀ a, (callT1 P BKO16 30 12 D_dsp R_dsp) a = T.run (
  .chk (decide (List.length (decF rInt (List.length (Prod.snd a)) fun i => encF rInt (Prod.snd a) ((0 : Nat) + i)) ≤ (1000000 : Nat))) <|
  .br (loaded (Prod.fst a, decF rInt (List.length (Prod.snd a)) fun i => encF rInt (Prod.snd a) ((0 : Nat) + i)) != (0 : Int)) (
    .ret (((0 : Int), loaded (Prod.fst a, decF rInt (List.length (Prod.snd a)) fun i => encF rInt (Prod.snd a) ((0 : Nat) + i))))) (
    .chk (decide (List.length (decF rInt (List.length (Prod.snd a)) fun i => encF rInt (Prod.snd a) ((0 : Nat) + i)) ≤ (1000000 : Nat))) <|
    .ret ((IntKind.wrap IntKind.i64 (Ship.light (Prod.fst a) + sumL (decF rInt (List.length (Prod.snd a)) fun i => encF rInt (Prod.snd a) ((0 : Nat) + i))), (0 : Int))))) := fun a => by kernel_rfl
noncomputable def K.displ (a : Ship × List Int) : Int × Int := if (loaded a != 0) = true then (0, loaded a) else (IntKind.i64.wrap (a.1.light + sumL a.2), 0)
theorem K.displ_eq (a : Ship × List Int) (h : a.2.length ≤ 1000000) : callT1 P BKO16 30 12 D_dsp R_dsp a = some (displ a) := by
  rw [fn_dsp]; unfold displ
  simp only [decF_enc0]
  exact chk_step (by simpa using h) (br_step (fun _ => rfl) (fun _ => chk_step (by simpa using h) rfl))
noncomputable def BKO17 : Tab := BKO16.addCall 12 (callE D_dsp R_dsp (fun a => .chk (decide (a.2.length ≤ 1000000)) (.ret (K.displ a))))
theorem tKO17 : TabOk P BKO17 := TabOk.addFn (d := 30) okP tKO16 (fun a r h => by obtain ⟨g, e⟩ := chk_ret h; subst e; exact K.displ_eq a (by simpa using g))
end Go.Proofs.Ytjbhooodjmjdkaa
/-! KP -/
namespace Go.Proofs.Ytjbhooodjmjdkaa
open Ev K
set_option maxRecDepth 100000
namespace K
theorem ite_ok {c : Bool} {t u : Int} (hu : u ≠ 0) (h : (if c = true then t else u) = 0) : c = true ∧ t = 0 := by
  cases c with
  | true => exact ⟨rfl, h⟩
  | false => simp at h; exact absurd h hu
theorem ite_no {c : Bool} {t u : Int} (hu : u ≠ 0) (h : (if c = true then u else t) = 0) : c = false ∧ t = 0 := by
  cases c with
  | true => simp at h; exact absurd h hu
  | false => exact ⟨rfl, by simpa using h⟩
theorem ite_err {e t : Int} (h : (if (e != 0) = true then e else t) = 0) : e = 0 ∧ t = 0 := by
  by_cases h0 : e = 0
  · subst h0; simpa using h
  · simp [h0] at h
theorem within_iff {n lo hi : Int} : within n lo hi = true ↔ lo ≤ n ∧ n ≤ hi := by unfold within; simp
theorem spans_iff {s : Span} {lo hi : Int} : spans s lo hi = true ↔ lo ≤ s.lo ∧ s.lo ≤ s.hi ∧ s.hi ≤ hi := by unfold spans; simp
theorem void_false {s : Span} : void s = false ↔ s.lo ≤ s.hi := by unfold void; simp
theorem void_true {s : Span} : void s = true ↔ s.hi < s.lo := by unfold void; simp
structure MarkOk (s : Span) : Prop where
  lo : 0 ≤ s.lo
  le : s.lo ≤ s.hi
  hi : s.hi ≤ 65536
  w : s.hi - s.lo < 400
structure Good (x : Survey) : Prop where
  id : 1 ≤ x.id ∧ x.id ≤ 1099511627776
  tick : 0 ≤ x.tick ∧ x.tick ≤ 1048576
  sag : 0 ≤ x.sag ∧ x.sag ≤ 200
  shown : 0 ≤ x.shown.lo ∧ x.shown.lo ≤ x.shown.hi ∧ x.shown.hi ≤ 2000
  m0 : MarkOk x.m0
  m1 : MarkOk x.m1
  m2 : MarkOk x.m2
  m3 : MarkOk x.m3
  m4 : MarkOk x.m4
  m5 : MarkOk x.m5
theorem mark_ok {s : Span} (h1 : spans s 0 65536 = true) (h2 : IntKind.wrap IntKind.i64 (s.hi - s.lo) < 400) : MarkOk s := by
  obtain ⟨a, b, c⟩ := spans_iff.1 h1
  rw [w64_in (by omega) (by omega)] at h2
  exact ⟨a, b, c, h2⟩
/-- What a survey without an error is. -/
theorem check_ok {b : Bulbs} {x : Survey} (h : check (b, x) = 0) : Good x ∧ (density (b, x)).2 = 0 ∧ (extremes x).2 = true := by
  unfold check at h
  obtain ⟨h1, h⟩ := ite_ok (by decide) h
  obtain ⟨h2, h⟩ := ite_ok (by decide) h
  obtain ⟨h3, h⟩ := ite_ok (by decide) h
  obtain ⟨h4, h⟩ := ite_ok (by decide) h
  obtain ⟨a0, h⟩ := ite_ok (by decide) h
  obtain ⟨b0, h⟩ := ite_ok (by decide) h
  obtain ⟨a1, h⟩ := ite_ok (by decide) h
  obtain ⟨b1, h⟩ := ite_ok (by decide) h
  obtain ⟨a2, h⟩ := ite_ok (by decide) h
  obtain ⟨b2, h⟩ := ite_ok (by decide) h
  obtain ⟨a3, h⟩ := ite_ok (by decide) h
  obtain ⟨b3, h⟩ := ite_ok (by decide) h
  obtain ⟨a4, h⟩ := ite_ok (by decide) h
  obtain ⟨b4, h⟩ := ite_ok (by decide) h
  obtain ⟨a5, h⟩ := ite_ok (by decide) h
  obtain ⟨b5, h⟩ := ite_no (by decide) h
  obtain ⟨d, h⟩ := ite_err h
  obtain ⟨e, _⟩ := ite_no (by decide) h
  refine ⟨⟨within_iff.1 h1, within_iff.1 h2, within_iff.1 h3, spans_iff.1 h4, mark_ok a0 (by simpa using b0), mark_ok a1 (by simpa using b1), mark_ok a2 (by simpa using b2), mark_ok a3 (by simpa using b3), mark_ok a4 (by simpa using b4), mark_ok a5 (by simpa using b5)⟩, d, by simpa using e⟩
theorem Check_ok {b : Bulbs} {x : Survey} (h : Check (b, x) = 0) : CheckBulbs b = 0 ∧ Good x ∧ (density (b, x)).2 = 0 ∧ (extremes x).2 = true := by
  unfold Check at h
  obtain ⟨h1, h⟩ := ite_err h
  exact ⟨h1, check_ok h⟩
theorem tmod_two (n : Int) : Int.tmod n 2 = if 0 ≤ n then n % 2 else -((-n) % 2) := by
  split
  · rename_i h; rw [Int.tmod_eq_emod_of_nonneg h]
  · rename_i h
    have : n = -(-n) := by omega
    rw [this, Int.neg_tmod, Int.tmod_eq_emod_of_nonneg (by omega)]
    simp
theorem half_eq {n : Int} (h1 : -4611686018427387904 ≤ n) (h2 : n ≤ 4611686018427387904) : half n = n / 2 := by
  unfold half
  have ht := tmod_two n
  have hb : -1 ≤ Int.tmod n 2 ∧ Int.tmod n 2 ≤ 1 := by rw [ht]; split <;> omega
  rw [w64_in (n := Int.tmod n 2 + 2) (by omega) (by omega)]
  have e1 : Int.tmod (Int.tmod n 2 + 2) 2 = n % 2 := by
    rw [Int.tmod_eq_emod_of_nonneg (by omega), ht]; split <;> omega
  rw [e1, w64_in (n := n - n % 2) (by omega) (by omega)]
  have e2 : n - n % 2 = 2 * (n / 2) := by omega
  rw [e2, Int.mul_comm, Int.mul_tdiv_cancel _ (by decide), w64_in (by omega) (by omega)]
end K
end Go.Proofs.Ytjbhooodjmjdkaa
/-! KT -/
namespace Go.Proofs.Ytjbhooodjmjdkaa
open Ev K
set_option maxRecDepth 100000
namespace K
section
variable {x : Survey} (g : Good x)
include g
omit g in
theorem both_eq {a b : Span} (ha : -1000000 ≤ a.lo ∧ a.lo ≤ 1000000 ∧ -1000000 ≤ a.hi ∧ a.hi ≤ 1000000) (hb : -1000000 ≤ b.lo ∧ b.lo ≤ 1000000 ∧ -1000000 ≤ b.hi ∧ b.hi ≤ 1000000) : both a b = ⟨a.lo + b.lo, a.hi + b.hi⟩ := by
  unfold both; rw [w64_in (by omega) (by omega), w64_in (by omega) (by omega)]
theorem fore_eq : both x.m0 x.m1 = ⟨x.m0.lo + x.m1.lo, x.m0.hi + x.m1.hi⟩ := by
  obtain ⟨h1, h2, h3, h4⟩ := g.m0; obtain ⟨k1, k2, k3, k4⟩ := g.m1
  exact both_eq (by omega) (by omega)
theorem aft_eq : both x.m4 x.m5 = ⟨x.m4.lo + x.m5.lo, x.m4.hi + x.m5.hi⟩ := by
  obtain ⟨h1, h2, h3, h4⟩ := g.m4; obtain ⟨k1, k2, k3, k4⟩ := g.m5
  exact both_eq (by omega) (by omega)
theorem mid_eq : both x.m2 x.m3 = ⟨x.m2.lo + x.m3.lo, x.m2.hi + x.m3.hi⟩ := by
  obtain ⟨h1, h2, h3, h4⟩ := g.m2; obtain ⟨k1, k2, k3, k4⟩ := g.m3
  exact both_eq (by omega) (by omega)
theorem ends_eq : endsOf x = ⟨x.m0.lo + x.m1.lo + (x.m4.lo + x.m5.lo), x.m0.hi + x.m1.hi + (x.m4.hi + x.m5.hi)⟩ := by
  obtain ⟨h1, h2, h3, h4⟩ := g.m0; obtain ⟨k1, k2, k3, k4⟩ := g.m1
  obtain ⟨i1, i2, i3, i4⟩ := g.m4; obtain ⟨j1, j2, j3, j4⟩ := g.m5
  unfold endsOf; rw [fore_eq g, aft_eq g]
  exact both_eq (by simp only; omega) (by simp only; omega)
theorem bend_eq : bend x = 4 * x.sag := by
  obtain ⟨h1, h2⟩ := g.sag
  unfold bend; rw [w64_in (by omega) (by omega)]
theorem mids_eq : mids x = meet ⟨x.m2.lo + x.m3.lo, x.m2.hi + x.m3.hi⟩ ⟨-((4 * x.sag - (endsOf x).lo) / 2), ((endsOf x).hi + 4 * x.sag) / 2⟩ := by
  obtain ⟨h1, h2, h3, h4⟩ := g.m0; obtain ⟨k1, k2, k3, k4⟩ := g.m1
  obtain ⟨i1, i2, i3, i4⟩ := g.m4; obtain ⟨j1, j2, j3, j4⟩ := g.m5
  obtain ⟨s1, s2⟩ := g.sag
  have e := ends_eq g
  have e1 : (endsOf x).lo = x.m0.lo + x.m1.lo + (x.m4.lo + x.m5.lo) := by rw [e]
  have e2 : (endsOf x).hi = x.m0.hi + x.m1.hi + (x.m4.hi + x.m5.hi) := by rw [e]
  unfold mids
  rw [mid_eq g, bend_eq g, w64_in (n := 4 * x.sag - (endsOf x).lo) (by omega) (by omega), w64_in (n := (endsOf x).hi + 4 * x.sag) (by omega) (by omega), half_eq (by omega) (by omega), half_eq (by omega) (by omega), w64_in (by omega) (by omega)]
  rw [Int.zero_sub]
end
/-- The bounds of the middle, and of the ends' sums. -/
structure EndsOk (x : Survey) (l : Sums × Sums) : Prop where
  a0 : x.m2.lo + x.m3.lo ≤ l.1.middle ∧ l.1.middle ≤ x.m2.hi + x.m3.hi
  a1 : x.m2.lo + x.m3.lo ≤ l.2.middle ∧ l.2.middle ≤ x.m2.hi + x.m3.hi
  b0 : x.m0.lo + x.m1.lo + (x.m4.lo + x.m5.lo) ≤ l.1.ends ∧ l.1.ends ≤ x.m0.hi + x.m1.hi + (x.m4.hi + x.m5.hi)
  b1 : x.m0.lo + x.m1.lo + (x.m4.lo + x.m5.lo) ≤ l.2.ends ∧ l.2.ends ≤ x.m0.hi + x.m1.hi + (x.m4.hi + x.m5.hi)
  c0 : -(4 * x.sag) ≤ 2 * l.1.middle - l.1.ends ∧ 2 * l.1.middle - l.1.ends ≤ 4 * x.sag
  c1 : -(4 * x.sag) ≤ 2 * l.2.middle - l.2.ends ∧ 2 * l.2.middle - l.2.ends ≤ 4 * x.sag
  all : ∀ m n : Int, x.m2.lo + x.m3.lo ≤ m → m ≤ x.m2.hi + x.m3.hi → x.m0.lo + x.m1.lo + (x.m4.lo + x.m5.lo) ≤ n → n ≤ x.m0.hi + x.m1.hi + (x.m4.hi + x.m5.hi) → -(4 * x.sag) ≤ 2 * m - n → 2 * m - n ≤ 4 * x.sag →
    l.1.middle ≤ m ∧ m ≤ l.2.middle ∧ l.1.ends ≤ n ∧ n ≤ l.2.ends
theorem arith0 {a b e0 e1 s L U p q : Int} (hs : 0 ≤ s) (l1 : a ≤ L) (l2 : e0 - s ≤ 2 * L) (u1 : U ≤ b) (u2 : 2 * U ≤ e1 + s) (v : L ≤ U) (he : e0 ≤ e1) (hp : p = max (2 * L - s) e0) (hq : q = min (2 * U + s) e1) :
    (a ≤ L ∧ L ≤ b) ∧ (a ≤ U ∧ U ≤ b) ∧ (e0 ≤ p ∧ p ≤ e1) ∧ (e0 ≤ q ∧ q ≤ e1) ∧ (-s ≤ 2 * L - p ∧ 2 * L - p ≤ s) ∧ (-s ≤ 2 * U - q ∧ 2 * U - q ≤ s) := by
  refine ⟨⟨l1, ?_⟩, ⟨?_, u1⟩, ⟨?_, ?_⟩, ⟨?_, ?_⟩, ⟨?_, ?_⟩, ⟨?_, ?_⟩⟩ <;> omega
theorem arith1 {a b e0 e1 s L U p q m n : Int} (l3 : L = a ∨ 2 * L ≤ e0 - s + 1) (u3 : U = b ∨ e1 + s - 1 ≤ 2 * U) (hp : p = max (2 * L - s) e0) (hq : q = min (2 * U + s) e1)
    (t1 : a ≤ m) (t2 : m ≤ b) (t3 : e0 ≤ n) (t4 : n ≤ e1) (t5 : -s ≤ 2 * m - n) (t6 : 2 * m - n ≤ s) : L ≤ m ∧ m ≤ U ∧ p ≤ n ∧ n ≤ q := by
  have h1 : L ≤ m := by rcases l3 with h | h <;> omega
  have h2 : m ≤ U := by rcases u3 with h | h <;> omega
  refine ⟨h1, h2, ?_, ?_⟩ <;> omega
theorem low_arith {a e0 s L : Int} (h : L = if -((s - e0) / 2) > a then -((s - e0) / 2) else a) : a ≤ L ∧ e0 - s ≤ 2 * L ∧ (L = a ∨ 2 * L ≤ e0 - s + 1) := by
  split at h <;> refine ⟨?_, ?_, ?_⟩ <;> omega
theorem high_arith {b e1 s U : Int} (h : U = if (e1 + s) / 2 < b then (e1 + s) / 2 else b) : U ≤ b ∧ 2 * U ≤ e1 + s ∧ (U = b ∨ e1 + s - 1 ≤ 2 * U) := by
  split at h <;> refine ⟨?_, ?_, ?_⟩ <;> omega
theorem extremes_ok {x : Survey} (g : Good x) (h : (extremes x).2 = true) : EndsOk x (extremes x).1 := by
  have hv : void (mids x) = false := by
    cases hv : void (mids x) with
    | false => rfl
    | true => unfold extremes at h; rw [if_pos hv] at h; exact absurd h (by decide)
  obtain ⟨h1, h2, h3, h4⟩ := g.m0; obtain ⟨k1, k2, k3, k4⟩ := g.m1
  obtain ⟨p1, p2, p3, p4⟩ := g.m2; obtain ⟨q1, q2, q3, q4⟩ := g.m3
  obtain ⟨i1, i2, i3, i4⟩ := g.m4; obtain ⟨j1, j2, j3, j4⟩ := g.m5
  obtain ⟨s1, s2⟩ := g.sag
  have e := ends_eq g
  have e1 : (endsOf x).lo = x.m0.lo + x.m1.lo + (x.m4.lo + x.m5.lo) := by rw [e]
  have e2 : (endsOf x).hi = x.m0.hi + x.m1.hi + (x.m4.hi + x.m5.hi) := by rw [e]
  have hm := mids_eq g
  have v := void_false.1 hv
  have m1 : (mids x).lo = if -((4 * x.sag - (endsOf x).lo) / 2) > x.m2.lo + x.m3.lo then -((4 * x.sag - (endsOf x).lo) / 2) else x.m2.lo + x.m3.lo := by rw [hm]; rfl
  have m2 : (mids x).hi = if ((endsOf x).hi + 4 * x.sag) / 2 < x.m2.hi + x.m3.hi then ((endsOf x).hi + 4 * x.sag) / 2 else x.m2.hi + x.m3.hi := by rw [hm]; rfl
  obtain ⟨l1, l2, l3⟩ := low_arith m1
  obtain ⟨u1, u2, u3⟩ := high_arith m2
  have he : (extremes x).1 = (⟨if IntKind.i64.wrap (IntKind.i64.wrap (2 * (mids x).lo) - bend x) > (endsOf x).lo then IntKind.i64.wrap (IntKind.i64.wrap (2 * (mids x).lo) - bend x) else (endsOf x).lo, (mids x).lo⟩,
    ⟨if IntKind.i64.wrap (IntKind.i64.wrap (2 * (mids x).hi) + bend x) < (endsOf x).hi then IntKind.i64.wrap (IntKind.i64.wrap (2 * (mids x).hi) + bend x) else (endsOf x).hi, (mids x).hi⟩) := by
    unfold extremes; rw [if_neg (by rw [hv]; decide)]
  clear m1 m2 hm hv h e
  generalize (mids x).lo = L at *
  generalize (mids x).hi = U at *
  rw [bend_eq g, w64_in (n := 2 * L) (by omega) (by omega), w64_in (n := 2 * L - 4 * x.sag) (by omega) (by omega), w64_in (n := 2 * U) (by omega) (by omega), w64_in (n := 2 * U + 4 * x.sag) (by omega) (by omega)] at he
  have n1 : (if 2 * L - 4 * x.sag > (endsOf x).lo then 2 * L - 4 * x.sag else (endsOf x).lo) = max (2 * L - 4 * x.sag) (endsOf x).lo := by split <;> omega
  have n2 : (if 2 * U + 4 * x.sag < (endsOf x).hi then 2 * U + 4 * x.sag else (endsOf x).hi) = min (2 * U + 4 * x.sag) (endsOf x).hi := by split <;> omega
  rw [n1, n2] at he
  rw [he]
  rw [e1] at l2 l3
  rw [e2] at u2 u3
  rw [e1, e2]
  obtain ⟨r1, r2, r3, r4, r5, r6⟩ := arith0 (s := 4 * x.sag) (by omega) l1 l2 u1 u2 v (by omega) rfl rfl
  exact ⟨r1, r2, r3, r4, r5, r6, fun m n t1 t2 t3 t4 t5 t6 => by
    obtain ⟨w1, w2, w3, w4⟩ := arith1 l3 u3 rfl rfl t1 t2 t3 t4 t5 t6
    exact ⟨w1, w2, w3, w4⟩⟩
theorem sums16_eq {l : Sums} (h : -1000000 ≤ l.ends ∧ l.ends ≤ 1000000 ∧ -1000000 ≤ l.middle ∧ l.middle ≤ 1000000) : sums16 l = l.ends + 6 * l.middle := by
  unfold sums16; rw [w64_in (n := 6 * l.middle) (by omega) (by omega), w64_in (n := l.ends + 6 * l.middle) (by omega) (by omega)]
end K
end Go.Proofs.Ytjbhooodjmjdkaa
/-! KP2 -/
namespace Go.Proofs.Ytjbhooodjmjdkaa
open Ev K
set_option maxRecDepth 100000
namespace K
theorem kntE_some {x : XS} {i : Nat} (h : kntE x i = none) : x.g i 0 ≤ 2000 := by
  unfold kntE at h
  cases hw : within (x.g i 0) (IntKind.i64.wrap (lastX x i + 1)) 2000 with
  | true => exact (within_iff.1 hw).2
  | false => rw [hw] at h; simp at h
theorem kntE_pos {x : XS} : ∀ i, (∀ j, j ≤ i → kntE x j = none) → 0 ≤ x.g i 0 := by
  intro i
  induction i with
  | zero =>
    intro h
    have h0 := h 0 (by omega)
    unfold kntE at h0
    cases hw : within (x.g 0 0) (IntKind.i64.wrap (lastX x 0 + 1)) 2000 with
    | true =>
      have := (within_iff.1 hw).1
      rw [show IntKind.i64.wrap (lastX x 0 + 1) = 0 by rw [show lastX x 0 = -1 from rfl]; decide] at this
      exact this
    | false => rw [hw] at h0; simp at h0
  | succ i ih =>
    intro h
    have hp := ih (fun j hj => h j (by omega))
    have hq := kntE_some (h i (by omega))
    have h0 := h (i + 1) (by omega)
    unfold kntE at h0
    cases hw : within (x.g (i + 1) 0) (IntKind.i64.wrap (lastX x (i + 1) + 1)) 2000 with
    | true =>
      have := (within_iff.1 hw).1
      rw [show lastX x (i + 1) = x.g i 0 from rfl, w64_in (by omega) (by omega)] at this
      omega
    | false => rw [hw] at h0; simp at h0
def sumI (x : XS) (n : Nat) : Int := (List.range n).foldl (fun a i => a + x.g i 1) 0
theorem sumI_succ (x : XS) (n : Nat) : sumI x (n + 1) = sumI x n + x.g n 1 := by
  unfold sumI; rw [List.range_succ, List.foldl_append]; rfl
theorem fold_rooms (x : XS) (a : Int) (ha : 0 ≤ a ∧ a ≤ 1000000) : ∀ n, n ≤ 100 → (∀ i, i < n → 0 ≤ x.g i 1 ∧ x.g i 1 ≤ 65536) →
    (List.range n).foldl (fun a i => IntKind.i64.wrap (a + x.g i 1)) a = a + sumI x n ∧ 0 ≤ sumI x n ∧ sumI x n ≤ 65536 * (n : Int) := by
  intro n
  induction n with
  | zero => intro _ _; simp [sumI]
  | succ n ih =>
    intro hn h
    obtain ⟨h1, h2, h3⟩ := ih (by omega) (fun i hi => h i (by omega))
    have h4 := h n (by omega)
    rw [sumI_succ, List.range_succ, List.foldl_append, h1]
    refine ⟨?_, by omega, by omega⟩
    simp only [List.foldl_cons, List.foldl_nil]
    rw [w64_in (by omega) (by omega)]; omega
structure CurveOk (c : Curve) : Prop where
  pos : 0 < len c.knots
  le : len c.knots ≤ 40
  err : 0 ≤ c.err ∧ c.err ≤ 4000
  x : ∀ i, i < len c.knots → 0 ≤ c.knots.g i 0 ∧ c.knots.g i 0 ≤ 2000
  y : ∀ i, i < len c.knots → -65536 ≤ c.knots.g i 1 ∧ c.knots.g i 1 ≤ 65536
  inc : ∀ i, i + 1 < len c.knots → c.knots.g i 0 < c.knots.g (i + 1) 0
theorem orr_zero {o : Option Int} (h : K.orr id 0 o = 0) (hne : ∀ x, o = some x → x ≠ 0) : o = none := by
  cases o with
  | none => rfl
  | some x => exact absurd h (hne x rfl)
theorem findSome_ne {e : Nat → Option Int} {n : Nat} (h : ∀ i x, e i = some x → x ≠ 0) : ∀ x, (List.range n).findSome? e = some x → x ≠ 0 := by
  intro x hx
  obtain ⟨i, _, hi⟩ := List.exists_of_findSome?_eq_some hx
  exact h i x hi
theorem none_all {e : Nat → Option Int} {n : Nat} (h : (List.range n).findSome? e = none) : ∀ i, i < n → e i = none := fun i hi => List.findSome?_eq_none_iff.1 h i (List.mem_range.2 hi)
theorem kntE_ne (x : XS) (i : Nat) (e : Int) (h : kntE x i = some e) : e ≠ 0 := by
  unfold kntE at h
  split at h
  · injection h with h; omega
  split at h
  · injection h with h; omega
  · cases h
theorem curve_ok {c : Curve} (h : curveCheck c = 0) : CurveOk c := by
  have hpos : 0 < len c.knots := curve_pos (by rw [h]; decide)
  unfold curveCheck at h
  by_cases h1 : (len c.knots : Int) > 40
  · rw [if_pos h1] at h; cases h
  rw [if_neg h1] at h
  obtain ⟨_, h⟩ := ite_no (by decide) h
  obtain ⟨h2, h⟩ := ite_no (by decide) h
  have hn := none_all (orr_zero h (findSome_ne (kntE_ne c.knots)))
  have hp : ∀ i, i < len c.knots → 0 ≤ c.knots.g i 0 := fun i hi => kntE_pos i (fun j hj => hn j (by omega))
  refine ⟨hpos, by omega, within_iff.1 (by simpa using h2), fun i hi => ⟨hp i hi, kntE_some (hn i hi)⟩, fun i hi => ?_, fun i hi => ?_⟩
  · have := hn i hi
    unfold kntE at this
    cases hw : within (c.knots.g i 1) (-65536) 65536 with
    | true => exact within_iff.1 hw
    | false => rw [hw] at this; simp at this
  · have := hn (i + 1) hi
    have b := kntE_some (hn i (by omega)); have b2 := hp i (by omega)
    unfold kntE at this
    cases hw : within (c.knots.g (i + 1) 0) (IntKind.i64.wrap (lastX c.knots (i + 1) + 1)) 2000 with
    | true =>
      have := (within_iff.1 hw).1
      rw [show lastX c.knots (i + 1) = c.knots.g i 0 from rfl, w64_in (by omega) (by omega)] at this
      omega
    | false => rw [hw] at this; simp at this
theorem upDown_fst (L : List (Int × Piece)) : ∀ u d, (upDown L u d).1 = (u && L.all (fun p => decide (rise p.2 > 0))) := by
  induction L with
  | nil => intro u d; simp [upDown]
  | cons x L ih => intro u d; have := ih (u && decide (rise x.2 > 0)) (d && decide (rise x.2 < 0)); unfold upDown at this ⊢; rw [List.foldl_cons, this, List.all_cons, Bool.and_assoc]
def riseAll (c : Curve) : Prop := ∀ i, i + 1 < len c.knots → c.knots.g i 1 < c.knots.g (i + 1) 1
theorem up_iff {c : Curve} (o : CurveOk c) : (upDown (piecesL c) true true).1 = true ↔ riseAll c := by
  rw [upDown_fst, Bool.true_and, List.all_eq_true]
  have e : ∀ i, i + 1 < len c.knots → rise (⟨knt c.knots i, knt c.knots (i + 1)⟩ : Piece) = c.knots.g (i + 1) 1 - c.knots.g i 1 := by
    intro i hi
    have h1 := o.y i (by omega); have h2 := o.y (i + 1) hi
    exact w64_in (n := c.knots.g (i + 1) 1 - c.knots.g i 1) (by omega) (by omega)
  constructor
  · intro h i hi
    have := h ((i : Int), ⟨knt c.knots i, knt c.knots (i + 1)⟩) (by unfold piecesL; exact List.mem_map.2 ⟨i, List.mem_range.2 (by omega), rfl⟩)
    rw [decide_eq_true_eq, e i hi] at this; omega
  · intro h p hp
    unfold piecesL at hp
    obtain ⟨i, hi, rfl⟩ := List.mem_map.1 hp
    have hi := List.mem_range.1 hi
    rw [decide_eq_true_eq, e i (by omega)]
    have := h i (by omega); omega
theorem rising_one {c : Curve} (o : CurveOk c) : rising c = 1 ↔ riseAll c := by
  rw [← up_iff o]; unfold rising
  cases (upDown (piecesL c) true true).1 <;> cases (upDown (piecesL c) true true).2 <;> simp
theorem hldE_ok {x : XS} {i : Nat} (h : hldE x i = none) : (1 ≤ x.g i 0 ∧ x.g i 0 ≤ 1099511627776) ∧ (0 ≤ x.g i 1 ∧ x.g i 1 ≤ 65536) ∧ placed (x.g i 2, x.g i 3) = true ∧ twice x i = false := by
  unfold hldE at h
  cases h1 : within (x.g i 0) 1 1099511627776 with
  | false => rw [h1] at h; simp at h
  | true =>
    cases h2 : within (x.g i 1) 0 65536 with
    | false => rw [h1, h2] at h; simp at h
    | true =>
      cases h3 : placed (x.g i 2, x.g i 3) with
      | false => rw [h1, h2, h3] at h; simp at h
      | true =>
        cases h4 : twice x i with
        | true => rw [h1, h2, h3, h4] at h; simp at h
        | false => exact ⟨within_iff.1 h1, within_iff.1 h2, rfl, rfl⟩
theorem rooms_is {s : Ship} (hl : 1 ≤ s.light ∧ s.light ≤ 65536) (hh : len s.holds ≤ 8) (hr : ∀ i, i < len s.holds → 0 ≤ s.holds.g i 1 ∧ s.holds.g i 1 ≤ 65536) :
    rooms s = s.light + sumI s.holds (len s.holds) ∧ 0 ≤ sumI s.holds (len s.holds) ∧ sumI s.holds (len s.holds) ≤ 65536 * (len s.holds : Int) := by
  exact fold_rooms s.holds s.light (by omega) (len s.holds) (by omega) hr
/-- What a valid ship is. -/
structure ShipOk (s : Ship) : Prop where
  light : 1 ≤ s.light ∧ s.light ≤ 65536
  holds : len s.holds ≤ 8
  hold : ∀ i, i < len s.holds → hldE s.holds i = none
  room : rooms s = s.light + sumI s.holds (len s.holds)
  room0 : 0 ≤ sumI s.holds (len s.holds)
  most : rooms s ≤ 65536
  mean : CurveOk s.mean
  mc : CurveOk s.mc
  rises : riseAll s.mean
  low : s.mean.knots.g 0 0 * 40 ≤ s.light
  high : rooms s ≤ s.mean.knots.g (len s.mean.knots - 1) 0 * 40
  y0 : ∀ i, i < len s.mean.knots → 0 ≤ s.mean.knots.g i 1
  z0 : ∀ i, i < len s.mc.knots → 0 ≤ s.mc.knots.g i 1
  turn : 1 ≤ s.turn ∧ s.turn ≤ 1048576
  least : 0 ≤ s.least ∧ s.least ≤ 5000
  place : placed (s.lever, s.height) = true
  mlow : s.mc.knots.g 0 0 * 40 ≤ s.light
  mhigh : rooms s ≤ s.mc.knots.g (len s.mc.knots - 1) 0 * 40
theorem hldE_ne (x : XS) (i : Nat) (e : Int) (h : hldE x i = some e) : e ≠ 0 := by
  unfold hldE at h
  split at h
  · injection h with h; omega
  split at h
  · injection h with h; omega
  split at h
  · injection h with h; omega
  split at h
  · injection h with h; omega
  · cases h
theorem tabled_ok {s : Ship} {c : Curve} (o : CurveOk c) (h : tabled s c = 0) : c.knots.g 0 0 * 40 ≤ s.light ∧ rooms s ≤ c.knots.g (len c.knots - 1) 0 * 40 ∧ ∀ i, i < len c.knots → 0 ≤ c.knots.g i 1 := by
  unfold tabled at h
  have p := o.pos
  have x0 := o.x 0 p; have x1 := o.x (len c.knots - 1) (by omega)
  have e1 : (massesOf c).lo = c.knots.g 0 0 * 40 := w64_in (by omega) (by omega)
  have e2 : (massesOf c).hi = c.knots.g (len c.knots - 1) 0 * 40 := w64_in (by omega) (by omega)
  rw [e1, e2] at h
  split at h
  · cases h
  rename_i h1
  split at h
  · cases h
  rename_i h2
  split at h
  · cases h
  rename_i h3
  refine ⟨by omega, by omega, fun i hi => ?_⟩
  have h4 : first (p_tab1 () c.knots) (len c.knots) = none := by
    unfold has_tab1 at h3
    cases hf : first (p_tab1 () c.knots) (len c.knots) with
    | none => rfl
    | some j => rw [hf] at h3; simp at h3
  have h5 := first_none' h4 i hi
  have h6 : ¬ c.knots.g i 1 < 0 := of_decide_eq_false h5
  omega
theorem ship_ok {s : Ship} (h : hullCheck s = 0) : ShipOk s := by
  unfold hullCheck at h
  obtain ⟨h1, h⟩ := ite_no (by decide) h
  obtain ⟨h2, h⟩ := ite_no (by decide) h
  obtain ⟨h3, h⟩ := ite_no (by decide) h
  obtain ⟨h4, h⟩ := ite_no (by decide) h
  obtain ⟨h5, h⟩ := ite_no (by decide) h
  obtain ⟨h6, h⟩ := ite_no (by decide) h
  have h6 := of_decide_eq_false h6
  cases hh : (List.range (len s.holds)).findSome? (hldE s.holds) with
  | some e => rw [hh] at h; exact absurd h (findSome_ne (hldE_ne s.holds) e hh)
  | none =>
    rw [hh] at h
    simp only [K.orr] at h
    have hn := none_all hh
    have h2' := within_iff.1 (show within s.light 1 65536 = true by simpa using h2)
    obtain ⟨a1, a3, a4⟩ := rooms_is h2' (by omega) (fun i hi => (hldE_ok (hn i hi)).2.1)
    obtain ⟨h7, h⟩ := ite_no (by decide) h
    obtain ⟨h8, h⟩ := ite_err h
    obtain ⟨h9, h⟩ := ite_err h
    obtain ⟨h10, h⟩ := ite_no (by decide) h
    obtain ⟨h11, h⟩ := ite_err h
    obtain ⟨h12, _⟩ := ite_err h
    have o := curve_ok h8
    have o2 := curve_ok h9
    have hR : (Rising s.mean).1 = rising s.mean := by unfold Rising; rw [h8]; rfl
    have hr : rising s.mean = 1 := by rw [← hR]; simpa using h10
    obtain ⟨t1, t2, t3⟩ := tabled_ok o h11
    obtain ⟨u1, u2, u3⟩ := tabled_ok o2 h12
    exact ⟨h2', by omega, hn, a1, a3, by have := of_decide_eq_false h7; omega, o, o2, (rising_one o).1 hr, t1, t2, t3, u3, within_iff.1 (by simpa using h4), within_iff.1 (by simpa using h5), by simpa using h3, u1, u2⟩
theorem bne_zero {n : Int} (h : ¬ (n != 0) = true) : n = 0 := by simpa using h
structure RatioOk (f : Frac) : Prop where
  den : 0 < f.den
  den2 : f.den ≤ 2097152
  num : 0 ≤ f.num
  num2 : f.num ≤ 2000 * f.den
/-- The least mass of a volume, and the greatest. -/
def massLo (f : Frac) (d : Int) : Int := IntKind.i64.wrap (Int.tdiv (IntKind.i64.wrap (IntKind.i64.wrap (IntKind.i64.wrap (f.num * d) + IntKind.i64.wrap (25 * f.den)) - 1)) (IntKind.i64.wrap (25 * f.den)))
def massHi (f : Frac) (d : Int) : Int := IntKind.i64.wrap (Int.tdiv (IntKind.i64.wrap (f.num * d)) (IntKind.i64.wrap (25 * f.den)))
theorem prod_le {f : Frac} (h : RatioOk f) {d : Int} (h0 : 0 ≤ d) (h1 : d ≤ 1100) : 0 ≤ f.num * d ∧ f.num * d ≤ 4613734400000 := by
  obtain ⟨a1, a2, a3, a4⟩ := h
  refine ⟨Int.mul_nonneg a3 h0, ?_⟩
  have := Int.mul_le_mul (show f.num ≤ 4194304000 by omega) h1 h0 (by omega)
  exact this
theorem massLo_eq {f : Frac} (h : RatioOk f) {d : Int} (h0 : 0 ≤ d) (h1 : d ≤ 1100) : massLo f d = (f.num * d + 25 * f.den - 1) / (25 * f.den) := by
  obtain ⟨p0, p1⟩ := prod_le h h0 h1
  obtain ⟨a1, a2, a3, a4⟩ := h
  unfold massLo
  generalize f.num * d = p at *
  rw [w64_in (n := p) (by omega) (by omega), w64_in (n := 25 * f.den) (by omega) (by omega), w64_in (n := p + 25 * f.den) (by omega) (by omega), w64_in (n := p + 25 * f.den - 1) (by omega) (by omega), Int.tdiv_eq_ediv_of_nonneg (by omega)]
  have q1 := Int.ediv_nonneg (show 0 ≤ p + 25 * f.den - 1 by omega) (show 0 ≤ 25 * f.den by omega)
  have q2 := Int.ediv_le_self (25 * f.den) (show 0 ≤ p + 25 * f.den - 1 by omega)
  rw [w64_in (by omega) (by omega)]
theorem massHi_eq {f : Frac} (h : RatioOk f) {d : Int} (h0 : 0 ≤ d) (h1 : d ≤ 1100) : massHi f d = f.num * d / (25 * f.den) := by
  obtain ⟨p0, p1⟩ := prod_le h h0 h1
  obtain ⟨a1, a2, a3, a4⟩ := h
  unfold massHi
  generalize f.num * d = p at *
  rw [w64_in (n := p) (by omega) (by omega), w64_in (n := 25 * f.den) (by omega) (by omega), Int.tdiv_eq_ediv_of_nonneg (by omega)]
  have q1 := Int.ediv_nonneg (show 0 ≤ p by omega) (show 0 ≤ 25 * f.den by omega)
  have q2 := Int.ediv_le_self (25 * f.den) (show 0 ≤ p by omega)
  rw [w64_in (by omega) (by omega)]
theorem rise_lt {c : Curve} (r : riseAll c) : ∀ k i, i + k + 1 < len c.knots → c.knots.g i 1 < c.knots.g (i + k + 1) 1 := by
  intro k
  induction k with
  | zero => intro i h; exact r i h
  | succ k ih => intro i h; have := ih i (by omega); have h2 := r (i + k + 1) (by omega); exact Int.lt_trans this h2
theorem ratioAt_eq {c : Curve} (o : CurveOk c) (r : riseAll c) {y : Int} {i : Nat} (hi : i + 1 < len c.knots) (h0 : 16 * c.knots.g i 1 ≤ y) (h1 : y ≤ 16 * c.knots.g (i + 1) 1) :
    ratioAt c.knots y i = ⟨c.knots.g i 0 * (16 * (c.knots.g (i + 1) 1 - c.knots.g i 1)) + (y - 16 * c.knots.g i 1) * (c.knots.g (i + 1) 0 - c.knots.g i 0), 16 * (c.knots.g (i + 1) 1 - c.knots.g i 1)⟩ ∧ RatioOk (ratioAt c.knots y i) := by
  have a0 := o.x i (by omega); have a1 := o.x (i + 1) hi
  have b0 := o.y i (by omega); have b1 := o.y (i + 1) hi
  have hr := r i hi; have hx := o.inc i hi
  unfold ratioAt riseAt
  generalize c.knots.g i 0 = x0 at *; generalize c.knots.g (i + 1) 0 = x1 at *
  generalize c.knots.g i 1 = y0 at *; generalize c.knots.g (i + 1) 1 = y1 at *
  rw [w64_in (n := y1 - y0) (by omega) (by omega), w64_in (n := 16 * (y1 - y0)) (by omega) (by omega), w64_in (n := 16 * y0) (by omega) (by omega), w64_in (n := y - 16 * y0) (by omega) (by omega), w64_in (n := x1 - x0) (by omega) (by omega)]
  have hR : 0 < 16 * (y1 - y0) ∧ 16 * (y1 - y0) ≤ 2097152 := by omega
  have hd : 0 ≤ y - 16 * y0 ∧ y - 16 * y0 ≤ 16 * (y1 - y0) := by omega
  generalize 16 * (y1 - y0) = R at *
  generalize y - 16 * y0 = d at *
  have m1 : 0 ≤ x0 * R := Int.mul_nonneg a0.1 (by omega)
  have m2 : 0 ≤ d * (x1 - x0) := Int.mul_nonneg hd.1 (by omega)
  have m3 : d * (x1 - x0) ≤ R * (x1 - x0) := Int.mul_le_mul_of_nonneg_right hd.2 (by omega)
  have m4 : R * (x1 - x0) = x1 * R - x0 * R := by rw [Int.mul_sub, Int.mul_comm R, Int.mul_comm R]
  have m5 : x1 * R ≤ 2000 * R := Int.mul_le_mul_of_nonneg_right a1.2 (by omega)
  rw [w64_in (n := x0 * R) (by omega) (by omega), w64_in (n := d * (x1 - x0)) (by omega) (by omega), w64_in (by omega) (by omega)]
  exact ⟨rfl, ⟨hR.1, hR.2, by simp only; omega, by simp only; omega⟩⟩
theorem den25 {f : Frac} (h : RatioOk f) : (!decide (IntKind.i64.wrap (25 * f.den) = 0)) = true := by
  obtain ⟨h1, h2, h3, h4⟩ := h
  rw [w64_in (by omega) (by omega), Bool.not_eq_true', decide_eq_false_iff_not]; omega
theorem massOf_form {s : Ship} {b : Bulbs} {x : Survey} : massOf s b x = if void (ySpan s x) = true then ⟨1, 0⟩ else meet ⟨massLo (whereOf s.mean (ySpan s x).lo) (density (b, x)).1.lo, massHi (whereOf s.mean (ySpan s x).hi) (density (b, x)).1.hi⟩ ⟨s.light, rooms s⟩ := by
  unfold massOf volumes massLo massHi
  cases h : void (ySpan s x) with
  | true => rfl
  | false => rfl
theorem y_bounds {s : Ship} {x : Survey} (hs : ShipOk s) (h : void (ySpan s x) = false) : 16 * s.mean.knots.g 0 1 ≤ (ySpan s x).lo ∧ (ySpan s x).lo ≤ (ySpan s x).hi ∧ (ySpan s x).hi ≤ 16 * s.mean.knots.g (len s.mean.knots - 1) 1 := by
  have v := void_false.1 h
  have p := hs.mean.pos
  have a := hs.mean.y 0 p; have c := hs.mean.y (len s.mean.knots - 1) (by omega)
  refine ⟨?_, v, ?_⟩
  · unfold ySpan meet; simp only
    rw [w64_in (n := 16 * s.mean.knots.g 0 1) (by omega) (by omega)]; split <;> omega
  · unfold ySpan meet; simp only
    rw [w64_in (n := 16 * s.mean.knots.g (len s.mean.knots - 1) 1) (by omega) (by omega)]; split <;> omega

/-- Where a rising curve has a value: a point of one of its pieces. -/
structure At (c : Curve) (y : Int) (f : Frac) : Prop where
  ok : RatioOk f
  piece : (len c.knots = 1 ∧ f = ⟨c.knots.g 0 0, 1⟩ ∧ y = 16 * c.knots.g 0 1) ∨ ∃ i, i + 1 < len c.knots ∧ 16 * c.knots.g i 1 ≤ y ∧ y ≤ 16 * c.knots.g (i + 1) 1 ∧
    f = ⟨c.knots.g i 0 * (16 * (c.knots.g (i + 1) 1 - c.knots.g i 1)) + (y - 16 * c.knots.g i 1) * (c.knots.g (i + 1) 0 - c.knots.g i 0), 16 * (c.knots.g (i + 1) 1 - c.knots.g i 1)⟩
theorem piece_at {c : Curve} {y : Int} : ∀ n, n + 1 < len c.knots → 16 * c.knots.g 0 1 ≤ y → y ≤ 16 * c.knots.g (n + 1) 1 → ∃ i, i ≤ n ∧ 16 * c.knots.g i 1 ≤ y ∧ y ≤ 16 * c.knots.g (i + 1) 1 := by
  intro n
  induction n with
  | zero => intro _ h0 h1; exact ⟨0, Nat.le_refl _, h0, h1⟩
  | succ n ih =>
    intro hn h0 h1
    by_cases h : y ≤ 16 * c.knots.g (n + 1) 1
    · obtain ⟨i, a, b, d⟩ := ih (by omega) h0 h; exact ⟨i, by omega, b, d⟩
    · exact ⟨n + 1, Nat.le_refl _, by omega, h1⟩
theorem where_at {c : Curve} (o : CurveOk c) (r : riseAll c) {y : Int} (h0 : 16 * c.knots.g 0 1 ≤ y) (h1 : y ≤ 16 * c.knots.g (len c.knots - 1) 1) : At c y (whereOf c y) := by
  have hp := o.pos
  have e16 : ∀ i, i < len c.knots → IntKind.i64.wrap (16 * c.knots.g i 1) = 16 * c.knots.g i 1 := fun i hi => by have := o.y i hi; exact w64_in (by omega) (by omega)
  have hip : ∀ i, i + 1 < len c.knots → (inPiece c.knots y i = true ↔ 16 * c.knots.g i 1 ≤ y ∧ y ≤ 16 * c.knots.g (i + 1) 1) := by
    intro i hi
    unfold inPiece
    rw [e16 i (by omega), e16 (i + 1) hi, within_iff]
  unfold whereOf
  cases hf : first (inPiece c.knots y) (len c.knots - 1) with
  | some i =>
    obtain ⟨f1, f2, _⟩ := first_spec hf
    have hb := (hip i (by omega)).1 f2
    obtain ⟨q1, q2⟩ := ratioAt_eq o r (i := i) (by omega) hb.1 hb.2
    exact ⟨q2, .inr ⟨i, by omega, hb.1, hb.2, q1⟩⟩
  | none =>
    have hn := first_none' hf
    by_cases h : len c.knots = 1
    · have x0 := o.x 0 hp
      rw [h, show 1 - 1 = 0 from rfl] at h1
      exact ⟨⟨by simp only; omega, by simp only; omega, by simp only; omega, by simp only; omega⟩, .inl ⟨h, rfl, by omega⟩⟩
    · obtain ⟨n, hnn⟩ : ∃ n, len c.knots = n + 2 := ⟨len c.knots - 2, by omega⟩
      rw [hnn, show n + 2 - 1 = n + 1 by omega] at h1
      obtain ⟨i, a, b, d⟩ := piece_at n (by omega) h0 h1
      have := hn i (by omega)
      rw [(hip i (by omega)).2 ⟨b, d⟩] at this; cases this
section
variable {s : Ship} {b : Bulbs} {x : Survey} (hs : ShipOk s)
include hs
theorem wheres (h : void (ySpan s x) = false) : At s.mean (ySpan s x).lo (whereOf s.mean (ySpan s x).lo) ∧ At s.mean (ySpan s x).hi (whereOf s.mean (ySpan s x).hi) := by
  obtain ⟨a, b, c⟩ := y_bounds (x := x) hs h
  exact ⟨where_at hs.mean hs.rises a (by omega), where_at hs.mean hs.rises (by omega) c⟩
theorem massOk_is : massOk s x = true := by
  unfold massOk volumes
  rw [decide_eq_true hs.mean.pos]
  cases h : void (ySpan s x) with
  | true => rfl
  | false =>
    obtain ⟨a, b⟩ := wheres (x := x) hs h
    simp only [Bool.false_eq_true, if_false, Bool.not_true, Bool.false_or, Bool.true_and]
    rw [den25 a.ok, den25 b.ok]; rfl
end
end K
end Go.Proofs.Ytjbhooodjmjdkaa
/-! KO2 -/
namespace Go.Proofs.Ytjbhooodjmjdkaa
open Ev K
set_option maxRecDepth 100000
def D_sck := DecL.cons (dShip) (.cons (dBulbs) (.last (dSurvey) 0))
theorem fn_checked : ∀ a, (callT1 P BKO17 30 23 D_sck (dI .i64)) a = T.run (
  .br (hullCheck (Prod.fst a) != (0 : Int)) (
    .ret (hullCheck (Prod.fst a))) (
    .ret (Check (Prod.snd a)))) := fun a => by kernel_rfl
noncomputable def K.checked (a : Ship × Bulbs × Survey) : Int := (if (hullCheck (Prod.fst a) != (0 : Int)) = true then hullCheck (Prod.fst a) else Check (Prod.snd a))
theorem eq_checked (a : Ship × Bulbs × Survey) : (callT1 P BKO17 30 23 D_sck (dI .i64)) a = some (K.checked a) := (fn_checked a).trans (T.br_some rfl rfl)
noncomputable def BKO21 : Tab := BKO17.addCall 23 (callE D_sck (dI .i64) (fun a => .ret (K.checked a)))
theorem tKO21 : TabOk P BKO21 := TabOk.addFn (d := 30) okP tKO17 (fun a r h => by rw [eq_checked]; exact congrArg some (ret_some h))
def R_pos := dTup (.cons dB (.last (dI .i64) 0))
def D_pos := DecL.cons (dShip) (.cons (dBulbs) (.cons (dSurvey) (.last (dI .i64) 0)))
theorem fn_sMas : ∀ a, (callT1 P BKO21 30 8 D_sck R_off) a = T.run (
  .br (checked a != (0 : Int)) (
    .ret ((Span.mk (0 : Int) (0 : Int), checked a))) (
    .chk (massOk (Prod.fst a) (Prod.snd (Prod.snd a))) <|
    .br (void (massOf (Prod.fst a) (Prod.fst (Prod.snd a)) (Prod.snd (Prod.snd a)))) (
      .ret ((Span.mk (0 : Int) (0 : Int), (9 : Int)))) (
      .ret ((massOf (Prod.fst a) (Prod.fst (Prod.snd a)) (Prod.snd (Prod.snd a)), (0 : Int)))))) := fun a => by kernel_rfl
theorem fn_sPos : ∀ a, (callT1 P BKO21 30 10 D_pos R_pos) a = T.run (
  .br (checked (Prod.fst a, Prod.fst (Prod.snd a), Prod.fst (Prod.snd (Prod.snd a))) != (0 : Int)) (
    .ret ((false, checked (Prod.fst a, Prod.fst (Prod.snd a), Prod.fst (Prod.snd (Prod.snd a)))))) (
    .chk (massOk (Prod.fst a) (Prod.fst (Prod.snd (Prod.snd a)))) <|
    .ret ((within (Prod.snd (Prod.snd (Prod.snd a))) (Span.lo (massOf (Prod.fst a) (Prod.fst (Prod.snd a)) (Prod.fst (Prod.snd (Prod.snd a))))) (Span.hi (massOf (Prod.fst a) (Prod.fst (Prod.snd a)) (Prod.fst (Prod.snd (Prod.snd a))))), (0 : Int))))) := fun a => by kernel_rfl
theorem fn_Density : ∀ a, (callT1 P BKO21 30 11 D_chk R_off) a = T.run (
  .br (Check a != (0 : Int)) (
    .ret ((Span.mk (0 : Int) (0 : Int), Check a))) (
    .ret (density a))) := fun a => by kernel_rfl
noncomputable def K.Density (a : Bulbs × Survey) : Span × Int := (if (Check a != (0 : Int)) = true then (Span.mk (0 : Int) (0 : Int), Check a) else density a)
theorem eq_Density (a : Bulbs × Survey) : (callT1 P BKO21 30 11 D_chk R_off) a = some (K.Density a) := (fn_Density a).trans (T.br_some rfl rfl)
noncomputable def BKO22 : Tab := BKO21.addCall 11 (callE D_chk R_off (fun a => .ret (K.Density a)))
theorem tKO22 : TabOk P BKO22 := TabOk.addFn (d := 30) okP tKO21 (fun a r h => by rw [eq_Density]; exact congrArg some (ret_some h))
def D_Bends := DecL.cons dSurvey (.last dSix 0)
theorem fn_Bends : ∀ a, (callT1 P BKO22 30 14 D_Bends dB) a = T.run (
  .br (!within (Prod.fst (Prod.snd a)) (Span.lo (Survey.m0 (Prod.fst a))) (Span.hi (Survey.m0 (Prod.fst a)))) (
    .ret (false)) (
    .br (!within (Prod.fst (Prod.snd (Prod.snd a))) (Span.lo (Survey.m1 (Prod.fst a))) (Span.hi (Survey.m1 (Prod.fst a)))) (
      .ret (false)) (
      .br (!within (Prod.fst (Prod.snd (Prod.snd (Prod.snd a)))) (Span.lo (Survey.m2 (Prod.fst a))) (Span.hi (Survey.m2 (Prod.fst a)))) (
        .ret (false)) (
        .br (!within (Prod.fst (Prod.snd (Prod.snd (Prod.snd (Prod.snd a))))) (Span.lo (Survey.m3 (Prod.fst a))) (Span.hi (Survey.m3 (Prod.fst a)))) (
          .ret (false)) (
          .br (!within (Prod.fst (Prod.snd (Prod.snd (Prod.snd (Prod.snd (Prod.snd a)))))) (Span.lo (Survey.m4 (Prod.fst a))) (Span.hi (Survey.m4 (Prod.fst a)))) (
            .ret (false)) (
            .br (!within (Prod.snd (Prod.snd (Prod.snd (Prod.snd (Prod.snd (Prod.snd a)))))) (Span.lo (Survey.m5 (Prod.fst a))) (Span.hi (Survey.m5 (Prod.fst a)))) (
              .ret (false)) (
              .ret (within (IntKind.wrap IntKind.i64 (IntKind.wrap IntKind.i64 (IntKind.wrap IntKind.i64 (IntKind.wrap IntKind.i64 (IntKind.wrap IntKind.i64 ((2 : Int) * IntKind.wrap IntKind.i64 (Prod.fst (Prod.snd (Prod.snd (Prod.snd a))) + Prod.fst (Prod.snd (Prod.snd (Prod.snd (Prod.snd a)))))) - Prod.fst (Prod.snd a)) - Prod.fst (Prod.snd (Prod.snd a))) - Prod.fst (Prod.snd (Prod.snd (Prod.snd (Prod.snd (Prod.snd a)))))) - Prod.snd (Prod.snd (Prod.snd (Prod.snd (Prod.snd (Prod.snd a))))))) (IntKind.wrap IntKind.i64 ((-4 : Int) * Survey.sag (Prod.fst a))) (IntKind.wrap IntKind.i64 ((4 : Int) * Survey.sag (Prod.fst a))))))))))) := fun a => by kernel_rfl
noncomputable def K.Bends (a : Survey × Int × Int × Int × Int × Int × Int) : Bool := (if (!within (Prod.fst (Prod.snd a)) (Span.lo (Survey.m0 (Prod.fst a))) (Span.hi (Survey.m0 (Prod.fst a)))) = true then false else (if (!within (Prod.fst (Prod.snd (Prod.snd a))) (Span.lo (Survey.m1 (Prod.fst a))) (Span.hi (Survey.m1 (Prod.fst a)))) = true then false else (if (!within (Prod.fst (Prod.snd (Prod.snd (Prod.snd a)))) (Span.lo (Survey.m2 (Prod.fst a))) (Span.hi (Survey.m2 (Prod.fst a)))) = true then false else (if (!within (Prod.fst (Prod.snd (Prod.snd (Prod.snd (Prod.snd a))))) (Span.lo (Survey.m3 (Prod.fst a))) (Span.hi (Survey.m3 (Prod.fst a)))) = true then false else (if (!within (Prod.fst (Prod.snd (Prod.snd (Prod.snd (Prod.snd (Prod.snd a)))))) (Span.lo (Survey.m4 (Prod.fst a))) (Span.hi (Survey.m4 (Prod.fst a)))) = true then false else (if (!within (Prod.snd (Prod.snd (Prod.snd (Prod.snd (Prod.snd (Prod.snd a)))))) (Span.lo (Survey.m5 (Prod.fst a))) (Span.hi (Survey.m5 (Prod.fst a)))) = true then false else within (IntKind.wrap IntKind.i64 (IntKind.wrap IntKind.i64 (IntKind.wrap IntKind.i64 (IntKind.wrap IntKind.i64 (IntKind.wrap IntKind.i64 ((2 : Int) * IntKind.wrap IntKind.i64 (Prod.fst (Prod.snd (Prod.snd (Prod.snd a))) + Prod.fst (Prod.snd (Prod.snd (Prod.snd (Prod.snd a)))))) - Prod.fst (Prod.snd a)) - Prod.fst (Prod.snd (Prod.snd a))) - Prod.fst (Prod.snd (Prod.snd (Prod.snd (Prod.snd (Prod.snd a)))))) - Prod.snd (Prod.snd (Prod.snd (Prod.snd (Prod.snd (Prod.snd a))))))) (IntKind.wrap IntKind.i64 ((-4 : Int) * Survey.sag (Prod.fst a))) (IntKind.wrap IntKind.i64 ((4 : Int) * Survey.sag (Prod.fst a)))))))))
theorem eq_Bends (a : Survey × Int × Int × Int × Int × Int × Int) : (callT1 P BKO22 30 14 D_Bends dB) a = some (K.Bends a) := (fn_Bends a).trans (T.br_some rfl (T.br_some rfl (T.br_some rfl (T.br_some rfl (T.br_some rfl (T.br_some rfl rfl))))))
noncomputable def BKO23 : Tab := BKO22.addCall 14 (callE D_Bends dB (fun a => .ret (K.Bends a)))
theorem tKO23 : TabOk P BKO23 := TabOk.addFn (d := 30) okP tKO22 (fun a r h => by rw [eq_Bends]; exact congrArg some (ret_some h))
def D_six := DecL.last dSix 0
theorem fn_lsix : ∀ a, (callT1 P BKO23 30 16 D_six (dI .i64)) a = T.run (
  .ret (IntKind.wrap IntKind.i64 (IntKind.wrap IntKind.i64 (IntKind.wrap IntKind.i64 (IntKind.wrap IntKind.i64 (IntKind.wrap IntKind.i64 (Prod.fst a + Prod.fst (Prod.snd a)) + IntKind.wrap IntKind.i64 ((6 : Int) * Prod.fst (Prod.snd (Prod.snd a)))) + IntKind.wrap IntKind.i64 ((6 : Int) * Prod.fst (Prod.snd (Prod.snd (Prod.snd a))))) + Prod.fst (Prod.snd (Prod.snd (Prod.snd (Prod.snd a))))) + Prod.snd (Prod.snd (Prod.snd (Prod.snd (Prod.snd a))))))) := fun a => by kernel_rfl
noncomputable def K.lsix (a : Int × Int × Int × Int × Int × Int) : Int := IntKind.wrap IntKind.i64 (IntKind.wrap IntKind.i64 (IntKind.wrap IntKind.i64 (IntKind.wrap IntKind.i64 (IntKind.wrap IntKind.i64 (Prod.fst a + Prod.fst (Prod.snd a)) + IntKind.wrap IntKind.i64 ((6 : Int) * Prod.fst (Prod.snd (Prod.snd a)))) + IntKind.wrap IntKind.i64 ((6 : Int) * Prod.fst (Prod.snd (Prod.snd (Prod.snd a))))) + Prod.fst (Prod.snd (Prod.snd (Prod.snd (Prod.snd a))))) + Prod.snd (Prod.snd (Prod.snd (Prod.snd (Prod.snd a)))))
theorem eq_lsix (a : Int × Int × Int × Int × Int × Int) : (callT1 P BKO23 30 16 D_six (dI .i64)) a = some (K.lsix a) := (fn_lsix a).trans rfl
noncomputable def BKO24 : Tab := BKO23.addCall 16 (callE D_six (dI .i64) (fun a => .ret (K.lsix a)))
theorem tKO24 : TabOk P BKO24 := TabOk.addFn (d := 30) okP tKO23 (fun a r h => by rw [eq_lsix]; exact congrArg some (ret_some h))
def D_wth := DecL.cons dSpan (.last dSpan 0)
theorem fn_lwith : ∀ a, (callT1 P BKO24 30 9 D_wth dB) a = T.run (
  .br (decide (Span.lo (Prod.fst a) ≥ Span.lo (Prod.snd a))) (
    .ret (decide (Span.hi (Prod.fst a) ≤ Span.hi (Prod.snd a)))) (
    .ret (false))) := fun a => by kernel_rfl
noncomputable def K.lwith (a : Span × Span) : Bool := (if (decide (Span.lo (Prod.fst a) ≥ Span.lo (Prod.snd a))) = true then decide (Span.hi (Prod.fst a) ≤ Span.hi (Prod.snd a)) else false)
theorem eq_lwith (a : Span × Span) : (callT1 P BKO24 30 9 D_wth dB) a = some (K.lwith a) := (fn_lwith a).trans (T.br_some rfl rfl)
noncomputable def BKO25 : Tab := BKO24.addCall 9 (callE D_wth dB (fun a => .ret (K.lwith a)))
theorem tKO25 : TabOk P BKO25 := TabOk.addFn (d := 30) okP tKO24 (fun a r h => by rw [eq_lwith]; exact congrArg some (ret_some h))
/-! Fits -/
def D_fit := DecL.cons dShip (.cons (dI .i64) (.cons (dI .i64) (.last (dI .i64) 0)))
def S_fit := DecS.mk0 (.skip (.cons (dI .i64) (.cons (dI .i64) (.cons (dI .i64) (.unit (dLp 0 0 0 0) (.skips 4 (.cons xKnots (.last (dI .i64) 140)))))))) (.flat 27 lShip .nil)
def X_fit := DecX.one (.exit 0) [10, 4, 1, 3, 2, 9] S_fit
noncomputable def K.st_fit := loopT1 P BKO25 30 15 57 [10, 4, 1, 3, 2, 9] S_fit X_fit
theorem sl_fit : ∀ s, (K.st_fit) s = T.run (
  .br (decide (Prod.snd (Prod.snd (Prod.snd (Prod.snd (Prod.fst s)))) < IntKind.wrap IntKind.i64 ((↑(len (Prod.fst (Prod.snd (Prod.snd (Prod.snd (Prod.fst s)))))) : Int) - (1 : Int)))) (
    .chk (decide ((0 : Int) ≤ Prod.snd (Prod.snd (Prod.snd (Prod.snd (Prod.fst s)))) ∧ Prod.snd (Prod.snd (Prod.snd (Prod.snd (Prod.fst s)))) < (↑(XS.len (Prod.fst (Prod.snd (Prod.snd (Prod.snd (Prod.fst s)))))) : Int))) <|
    .br (decide (IntKind.wrap IntKind.i64 (XS.g (Prod.fst (Prod.snd (Prod.snd (Prod.snd (Prod.fst s))))) (Int.toNat (Prod.snd (Prod.snd (Prod.snd (Prod.snd (Prod.fst s)))))) (0 : Nat) * Prod.fst (Prod.snd (Prod.snd (Prod.fst s)))) < IntKind.wrap IntKind.i64 ((25 : Int) * Prod.fst (Prod.snd (Prod.fst s))))) (
      .ret (Sum.inl ((Prod.fst (Prod.fst s), Prod.fst (Prod.snd (Prod.fst s)), Prod.fst (Prod.snd (Prod.snd (Prod.fst s))), Prod.fst (Prod.snd (Prod.snd (Prod.snd (Prod.fst s)))), IntKind.wrap IntKind.i64 (Prod.snd (Prod.snd (Prod.snd (Prod.snd (Prod.fst s)))) + (1 : Int))), Prod.fst (Prod.snd s), PUnit.unit))) (
      .ret (Sum.inr (Prod.fst s, Prod.fst (Prod.snd s), PUnit.unit)))) (
    .ret (Sum.inr (Prod.fst s, Prod.fst (Prod.snd s), PUnit.unit)))) := fun s => by kernel_rfl
noncomputable def K.L_fit := lim K.st_fit
noncomputable def BKO26 : Tab := BKO25.addNode 15 57 (nodeE [10, 4, 1, 3, 2, 9] S_fit X_fit (fun s => .obs (K.L_fit s) .ret))
theorem tKO26 : TabOk P BKO26 := TabOk.addLoop (d := 30) okP tKO25 (by kernel_rfl) (by kernel_rfl) (fun s r h => obs_ret h)
theorem fn_fit : ∀ a, (callT1 P BKO26 30 15 D_fit dB) a = T.run (
  .chk (decide ((0 : Int) ≤ (0 : Int) ∧ (0 : Int) < (↑(XS.len (Curve.knots (Ship.mean (Prod.fst a)))) : Int))) <|
  .br (decide (IntKind.wrap IntKind.i64 ((25 : Int) * Prod.fst (Prod.snd (Prod.snd a))) < IntKind.wrap IntKind.i64 (XS.g (Curve.knots (Ship.mean (Prod.fst a))) (nat_lit 0) (0 : Nat) * Prod.snd (Prod.snd (Prod.snd a))))) (
    .ret (false)) (
    .chk (decide ((0 : Int) ≤ IntKind.wrap IntKind.i64 ((↑(len (Curve.knots (Ship.mean (Prod.fst a)))) : Int) - (1 : Int)) ∧ IntKind.wrap IntKind.i64 ((↑(len (Curve.knots (Ship.mean (Prod.fst a)))) : Int) - (1 : Int)) < (↑(XS.len (Curve.knots (Ship.mean (Prod.fst a)))) : Int))) <|
    .br (decide (IntKind.wrap IntKind.i64 ((25 : Int) * Prod.fst (Prod.snd (Prod.snd a))) > IntKind.wrap IntKind.i64 (XS.g (Curve.knots (Ship.mean (Prod.fst a))) (Int.toNat (IntKind.wrap IntKind.i64 ((↑(len (Curve.knots (Ship.mean (Prod.fst a)))) : Int) - (1 : Int)))) (0 : Nat) * Prod.snd (Prod.snd (Prod.snd a))))) (
      .ret (false)) (
      .br ((↑(len (Curve.knots (Ship.mean (Prod.fst a)))) : Int) == (1 : Int)) (
        .chk (decide ((0 : Int) ≤ (0 : Int) ∧ (0 : Int) < (↑(XS.len (Curve.knots (Ship.mean (Prod.fst a)))) : Int))) <|
        .br (decide (IntKind.wrap IntKind.i64 (Prod.fst (Prod.snd a) - IntKind.wrap IntKind.i64 ((16 : Int) * XS.g (Curve.knots (Ship.mean (Prod.fst a))) (nat_lit 0) (1 : Nat))) ≤ IntKind.wrap IntKind.i64 ((16 : Int) * Curve.err (Ship.mean (Prod.fst a))))) (
          .chk (decide ((0 : Int) ≤ (0 : Int) ∧ (0 : Int) < (↑(XS.len (Curve.knots (Ship.mean (Prod.fst a)))) : Int))) <|
          .ret (decide (IntKind.wrap IntKind.i64 (IntKind.wrap IntKind.i64 ((16 : Int) * XS.g (Curve.knots (Ship.mean (Prod.fst a))) (nat_lit 0) (1 : Nat)) - Prod.fst (Prod.snd a)) ≤ IntKind.wrap IntKind.i64 ((16 : Int) * Curve.err (Ship.mean (Prod.fst a)))))) (
          .ret (false))) (
        .obs (L_fit ((Prod.fst (Prod.snd a), Prod.fst (Prod.snd (Prod.snd a)), Prod.snd (Prod.snd (Prod.snd a)), Curve.knots (Ship.mean (Prod.fst a)), (1 : Int)), Prod.fst a, PUnit.unit)) fun x0 =>
          .chk (decide ((0 : Int) ≤ IntKind.wrap IntKind.i64 (Prod.snd (Prod.snd (Prod.snd (Prod.snd (Prod.fst x0)))) - (1 : Int)) ∧ IntKind.wrap IntKind.i64 (Prod.snd (Prod.snd (Prod.snd (Prod.snd (Prod.fst x0)))) - (1 : Int)) < (↑(XS.len (Prod.fst (Prod.snd (Prod.snd (Prod.snd (Prod.fst x0)))))) : Int))) <|
          .chk (decide ((0 : Int) ≤ Prod.snd (Prod.snd (Prod.snd (Prod.snd (Prod.fst x0)))) ∧ Prod.snd (Prod.snd (Prod.snd (Prod.snd (Prod.fst x0)))) < (↑(XS.len (Prod.fst (Prod.snd (Prod.snd (Prod.snd (Prod.fst x0)))))) : Int))) <|
          .br (decide (IntKind.wrap IntKind.i64 (IntKind.wrap IntKind.i64 (Prod.fst (Prod.fst x0) * IntKind.wrap IntKind.i64 (IntKind.wrap IntKind.i64 (XS.g (Prod.fst (Prod.snd (Prod.snd (Prod.snd (Prod.fst x0))))) (Int.toNat (Prod.snd (Prod.snd (Prod.snd (Prod.snd (Prod.fst x0)))))) (0 : Nat) - XS.g (Prod.fst (Prod.snd (Prod.snd (Prod.snd (Prod.fst x0))))) (Int.toNat (IntKind.wrap IntKind.i64 (Prod.snd (Prod.snd (Prod.snd (Prod.snd (Prod.fst x0)))) - (1 : Int)))) (0 : Nat)) * Prod.fst (Prod.snd (Prod.snd (Prod.fst x0))))) - IntKind.wrap IntKind.i64 ((16 : Int) * IntKind.wrap IntKind.i64 (IntKind.wrap IntKind.i64 (XS.g (Prod.fst (Prod.snd (Prod.snd (Prod.snd (Prod.fst x0))))) (Int.toNat (IntKind.wrap IntKind.i64 (Prod.snd (Prod.snd (Prod.snd (Prod.snd (Prod.fst x0)))) - (1 : Int)))) (1 : Nat) * IntKind.wrap IntKind.i64 (IntKind.wrap IntKind.i64 (XS.g (Prod.fst (Prod.snd (Prod.snd (Prod.snd (Prod.fst x0))))) (Int.toNat (Prod.snd (Prod.snd (Prod.snd (Prod.snd (Prod.fst x0)))))) (0 : Nat) - XS.g (Prod.fst (Prod.snd (Prod.snd (Prod.snd (Prod.fst x0))))) (Int.toNat (IntKind.wrap IntKind.i64 (Prod.snd (Prod.snd (Prod.snd (Prod.snd (Prod.fst x0)))) - (1 : Int)))) (0 : Nat)) * Prod.fst (Prod.snd (Prod.snd (Prod.fst x0))))) + IntKind.wrap IntKind.i64 (IntKind.wrap IntKind.i64 (XS.g (Prod.fst (Prod.snd (Prod.snd (Prod.snd (Prod.fst x0))))) (Int.toNat (Prod.snd (Prod.snd (Prod.snd (Prod.snd (Prod.fst x0)))))) (1 : Nat) - XS.g (Prod.fst (Prod.snd (Prod.snd (Prod.snd (Prod.fst x0))))) (Int.toNat (IntKind.wrap IntKind.i64 (Prod.snd (Prod.snd (Prod.snd (Prod.snd (Prod.fst x0)))) - (1 : Int)))) (1 : Nat)) * IntKind.wrap IntKind.i64 (IntKind.wrap IntKind.i64 ((25 : Int) * Prod.fst (Prod.snd (Prod.fst x0))) - IntKind.wrap IntKind.i64 (XS.g (Prod.fst (Prod.snd (Prod.snd (Prod.snd (Prod.fst x0))))) (Int.toNat (IntKind.wrap IntKind.i64 (Prod.snd (Prod.snd (Prod.snd (Prod.snd (Prod.fst x0)))) - (1 : Int)))) (0 : Nat) * Prod.fst (Prod.snd (Prod.snd (Prod.fst x0))))))))) ≤ IntKind.wrap IntKind.i64 (IntKind.wrap IntKind.i64 ((16 : Int) * Curve.err (Ship.mean (Prod.fst (Prod.snd x0)))) * IntKind.wrap IntKind.i64 (IntKind.wrap IntKind.i64 (XS.g (Prod.fst (Prod.snd (Prod.snd (Prod.snd (Prod.fst x0))))) (Int.toNat (Prod.snd (Prod.snd (Prod.snd (Prod.snd (Prod.fst x0)))))) (0 : Nat) - XS.g (Prod.fst (Prod.snd (Prod.snd (Prod.snd (Prod.fst x0))))) (Int.toNat (IntKind.wrap IntKind.i64 (Prod.snd (Prod.snd (Prod.snd (Prod.snd (Prod.fst x0)))) - (1 : Int)))) (0 : Nat)) * Prod.fst (Prod.snd (Prod.snd (Prod.fst x0))))))) (
            .ret (decide (IntKind.wrap IntKind.i64 (IntKind.wrap IntKind.i64 ((16 : Int) * IntKind.wrap IntKind.i64 (IntKind.wrap IntKind.i64 (XS.g (Prod.fst (Prod.snd (Prod.snd (Prod.snd (Prod.fst x0))))) (Int.toNat (IntKind.wrap IntKind.i64 (Prod.snd (Prod.snd (Prod.snd (Prod.snd (Prod.fst x0)))) - (1 : Int)))) (1 : Nat) * IntKind.wrap IntKind.i64 (IntKind.wrap IntKind.i64 (XS.g (Prod.fst (Prod.snd (Prod.snd (Prod.snd (Prod.fst x0))))) (Int.toNat (Prod.snd (Prod.snd (Prod.snd (Prod.snd (Prod.fst x0)))))) (0 : Nat) - XS.g (Prod.fst (Prod.snd (Prod.snd (Prod.snd (Prod.fst x0))))) (Int.toNat (IntKind.wrap IntKind.i64 (Prod.snd (Prod.snd (Prod.snd (Prod.snd (Prod.fst x0)))) - (1 : Int)))) (0 : Nat)) * Prod.fst (Prod.snd (Prod.snd (Prod.fst x0))))) + IntKind.wrap IntKind.i64 (IntKind.wrap IntKind.i64 (XS.g (Prod.fst (Prod.snd (Prod.snd (Prod.snd (Prod.fst x0))))) (Int.toNat (Prod.snd (Prod.snd (Prod.snd (Prod.snd (Prod.fst x0)))))) (1 : Nat) - XS.g (Prod.fst (Prod.snd (Prod.snd (Prod.snd (Prod.fst x0))))) (Int.toNat (IntKind.wrap IntKind.i64 (Prod.snd (Prod.snd (Prod.snd (Prod.snd (Prod.fst x0)))) - (1 : Int)))) (1 : Nat)) * IntKind.wrap IntKind.i64 (IntKind.wrap IntKind.i64 ((25 : Int) * Prod.fst (Prod.snd (Prod.fst x0))) - IntKind.wrap IntKind.i64 (XS.g (Prod.fst (Prod.snd (Prod.snd (Prod.snd (Prod.fst x0))))) (Int.toNat (IntKind.wrap IntKind.i64 (Prod.snd (Prod.snd (Prod.snd (Prod.snd (Prod.fst x0)))) - (1 : Int)))) (0 : Nat) * Prod.fst (Prod.snd (Prod.snd (Prod.fst x0)))))))) - IntKind.wrap IntKind.i64 (Prod.fst (Prod.fst x0) * IntKind.wrap IntKind.i64 (IntKind.wrap IntKind.i64 (XS.g (Prod.fst (Prod.snd (Prod.snd (Prod.snd (Prod.fst x0))))) (Int.toNat (Prod.snd (Prod.snd (Prod.snd (Prod.snd (Prod.fst x0)))))) (0 : Nat) - XS.g (Prod.fst (Prod.snd (Prod.snd (Prod.snd (Prod.fst x0))))) (Int.toNat (IntKind.wrap IntKind.i64 (Prod.snd (Prod.snd (Prod.snd (Prod.snd (Prod.fst x0)))) - (1 : Int)))) (0 : Nat)) * Prod.fst (Prod.snd (Prod.snd (Prod.fst x0)))))) ≤ IntKind.wrap IntKind.i64 (IntKind.wrap IntKind.i64 ((16 : Int) * Curve.err (Ship.mean (Prod.fst (Prod.snd x0)))) * IntKind.wrap IntKind.i64 (IntKind.wrap IntKind.i64 (XS.g (Prod.fst (Prod.snd (Prod.snd (Prod.snd (Prod.fst x0))))) (Int.toNat (Prod.snd (Prod.snd (Prod.snd (Prod.snd (Prod.fst x0)))))) (0 : Nat) - XS.g (Prod.fst (Prod.snd (Prod.snd (Prod.snd (Prod.fst x0))))) (Int.toNat (IntKind.wrap IntKind.i64 (Prod.snd (Prod.snd (Prod.snd (Prod.snd (Prod.fst x0)))) - (1 : Int)))) (0 : Nat)) * Prod.fst (Prod.snd (Prod.snd (Prod.fst x0)))))))) (
            .ret (false)))))) := fun a => by kernel_rfl
end Go.Proofs.Ytjbhooodjmjdkaa
/-! KO3 -/
namespace Go.Proofs.Ytjbhooodjmjdkaa
open Ev K
set_option maxRecDepth 100000
namespace K
theorem mul_bd {a b A B : Int} (ha : -A ≤ a ∧ a ≤ A) (hb : -B ≤ b ∧ b ≤ B) : -(A * B) ≤ a * b ∧ a * b ≤ A * B := by
  have h1 : a.natAbs ≤ A.toNat := by omega
  have h2 : b.natAbs ≤ B.toNat := by omega
  have h3 := Nat.mul_le_mul h1 h2
  rw [← Int.natAbs_mul] at h3
  have h4 : ((A.toNat * B.toNat : Nat) : Int) = A * B := by rw [Int.natCast_mul, Int.toNat_of_nonneg (by omega), Int.toNat_of_nonneg (by omega)]
  generalize a * b = p at *
  generalize A * B = q at *
  omega
/-- Which piece of a curve a mean draught is compared with. -/
def fitIdx (x : XS) (m d : Int) : Nat := match first (fun k => !decide (x.g (k + 1) 0 * d < 25 * m)) (len x - 2) with
  | some k => k
  | none => len x - 2
def fitDen (x : XS) (d : Int) (k : Nat) : Int := (x.g (k + 1) 0 - x.g k 0) * d
def fitVal (x : XS) (m d : Int) (k : Nat) : Int := x.g k 1 * fitDen x d k + (x.g (k + 1) 1 - x.g k 1) * (25 * m - x.g k 0 * d)
def fitPt (c : Curve) (n m d : Int) (k : Nat) : Bool := decide (n * fitDen c.knots d k - 16 * fitVal c.knots m d k ≤ 16 * c.err * fitDen c.knots d k) && decide (16 * fitVal c.knots m d k - n * fitDen c.knots d k ≤ 16 * c.err * fitDen c.knots d k)
def fitsB (c : Curve) (n m d : Int) : Bool := if 25 * m < c.knots.g 0 0 * d then false else if 25 * m > c.knots.g (len c.knots - 1) 0 * d then false else
  if len c.knots = 1 then decide (n - 16 * c.knots.g 0 1 ≤ 16 * c.err) && decide (16 * c.knots.g 0 1 - n ≤ 16 * c.err) else fitPt c n m d (fitIdx c.knots m d)
noncomputable def fitOk (a : Ship × Int × Int × Int) : Bool := (hullCheck a.1 == 0) && (within a.2.1 (-2000000) 2000000 && (within a.2.2.1 0 65536 && within a.2.2.2 0 1100))
section
variable {c : Curve} (o : CurveOk c) {n m d : Int} (hn : -2000000 ≤ n ∧ n ≤ 2000000) (hm : 0 ≤ m ∧ m ≤ 65536) (hd : 0 ≤ d ∧ d ≤ 1100)
include o hm hd in
theorem L_fit_eq (s : Ship) (h2 : 2 ≤ len c.knots) : L_fit ((n, m, d, c.knots, 1), s, ()) = some ((n, m, d, c.knots, (fitIdx c.knots m d : Int) + 1), s, ()) := by
  have e1 := K.len_le c.knots; have e2 := K.len_le' c.knots
  have hx : ∀ i, i < len c.knots → IntKind.i64.wrap (c.knots.g i 0 * d) = c.knots.g i 0 * d := fun i hi => by
    have h1 := o.x i hi
    have := mul_bd (a := c.knots.g i 0) (b := d) (A := 2000) (B := 1100) (by omega) (by omega)
    exact w64_in (by omega) (by omega)
  have := lim_find (step := st_fit) (fun k : Nat => ((n, m, d, c.knots, (k : Int) + 1), s, ())) (len c.knots - 2) (fun k => !decide (c.knots.g (k + 1) 0 * d < 25 * m)) (fun k => ((n, m, d, c.knots, (k : Int) + 1), s, ())) ((n, m, d, c.knots, ((len c.knots - 2 : Nat) : Int) + 1), s, ()) (fun i hi hp => ?_) (fun i hi hp => ?_) ?_
  · show L_fit ((n, m, d, c.knots, ((0 : Nat) : Int) + 1), s, ()) = _
    unfold fitIdx
    rw [show L_fit = lim st_fit from rfl, this]
    cases first (fun k => !decide (c.knots.g (k + 1) 0 * d < 25 * m)) (len c.knots - 2) <;> rfl
  · rw [sl_fit]
    have hp : ¬ c.knots.g (i + 1) 0 * d < 25 * m := by simpa using hp
    simp only [T.run_br, T.run_chk, T.run_ret, decide_eq_true_eq]
    rw [w64_in (n := (len c.knots : Int) - 1) (by omega) (by omega), if_pos (by omega), if_pos (by omega), show ((i : Int) + 1).toNat = i + 1 by omega, hx (i + 1) (by omega), w64_in (n := 25 * m) (by omega) (by omega), if_neg hp]
  · rw [sl_fit]
    have hp : c.knots.g (i + 1) 0 * d < 25 * m := by simpa using hp
    simp only [T.run_br, T.run_chk, T.run_ret, decide_eq_true_eq]
    rw [w64_in (n := (len c.knots : Int) - 1) (by omega) (by omega), if_pos (by omega), if_pos (by omega), show ((i : Int) + 1).toNat = i + 1 by omega, hx (i + 1) (by omega), w64_in (n := 25 * m) (by omega) (by omega), if_pos hp, w64_in (n := (i : Int) + 1 + 1) (by omega) (by omega)]
    simp
  · rw [sl_fit]
    simp only [T.run_br, T.run_ret, decide_eq_true_eq]
    rw [w64_in (n := (len c.knots : Int) - 1) (by omega) (by omega), if_neg (by omega)]
end
theorem fitIdx_lt {x : XS} {m d : Int} (h : 2 ≤ len x) : fitIdx x m d + 1 < len x := by
  unfold fitIdx
  cases hf : first (fun k => !decide (x.g (k + 1) 0 * d < 25 * m)) (len x - 2) with
  | none => simp only; omega
  | some k => have := (first_spec hf).1; simp only; omega
theorem fits_eq (a : Ship × Int × Int × Int) (h : fitOk a = true) : callT1 P BKO26 30 15 D_fit dB a = some (fitsB a.1.mean a.2.1 a.2.2.1 a.2.2.2) := by
  obtain ⟨s, n, m, d⟩ := a
  unfold fitOk at h
  rw [Bool.and_eq_true, Bool.and_eq_true, Bool.and_eq_true, within_iff, within_iff, within_iff] at h
  obtain ⟨h1, hn, hm, hd⟩ := h
  simp only at hn hm hd
  have hs := ship_ok (show hullCheck s = 0 by simpa using h1)
  have o := hs.mean
  have p := o.pos
  have e1 := K.len_le s.mean.knots; have e2 := K.len_le' s.mean.knots
  have hl := o.le
  have hx : ∀ i, i < len s.mean.knots → IntKind.i64.wrap (s.mean.knots.g i 0 * d) = s.mean.knots.g i 0 * d ∧ 0 ≤ s.mean.knots.g i 0 * d ∧ s.mean.knots.g i 0 * d ≤ 2200000 := fun i hi => by
    have h1 := o.x i hi
    have := mul_bd (a := s.mean.knots.g i 0) (b := d) (A := 2000) (B := 1100) (by omega) (by omega)
    exact ⟨w64_in (by omega) (by omega), Int.mul_nonneg h1.1 hd.1, this.2⟩
  have y0 := o.y 0 p
  have er := o.err
  rw [fn_fit]; unfold fitsB
  simp only
  refine chk_step (by simp; omega) ?_
  rw [w64_in (n := 25 * m) (by omega) (by omega), (hx 0 p).1]
  simp only [w64_in (n := (len s.mean.knots : Int) - 1) (by omega) (by omega), show ((len s.mean.knots : Int) - 1).toNat = len s.mean.knots - 1 by omega]
  rw [(hx (len s.mean.knots - 1) (by omega)).1]
  by_cases c1 : 25 * m < s.mean.knots.g 0 0 * d
  · rw [if_pos c1]; exact (T.run_br _ _ _).trans (if_pos (by simpa using c1))
  rw [if_neg c1]
  refine (T.run_br _ _ _).trans ((if_neg (by simpa using c1)).trans ?_)
  refine chk_step (by simp; omega) ?_
  by_cases c2 : 25 * m > s.mean.knots.g (len s.mean.knots - 1) 0 * d
  · rw [if_pos c2]; exact (T.run_br _ _ _).trans (if_pos (by simpa using c2))
  rw [if_neg c2]
  refine (T.run_br _ _ _).trans ((if_neg (by simpa using c2)).trans ?_)
  by_cases c3 : len s.mean.knots = 1
  · rw [if_pos c3]
    refine (T.run_br _ _ _).trans ((if_pos (by rw [c3]; rfl)).trans ?_)
    refine chk_step (by simp; omega) ?_
    rw [w64_in (n := 16 * s.mean.knots.g 0 1) (by omega) (by omega), w64_in (n := n - 16 * s.mean.knots.g 0 1) (by omega) (by omega), w64_in (n := 16 * s.mean.err) (by omega) (by omega), w64_in (n := 16 * s.mean.knots.g 0 1 - n) (by omega) (by omega)]
    by_cases c4 : n - 16 * s.mean.knots.g 0 1 ≤ 16 * s.mean.err
    · rw [decide_eq_true c4]
      refine (T.run_br _ _ _).trans ((if_pos rfl).trans ?_)
      exact chk_step (by simp; omega) (by simp [T.run_ret])
    · rw [decide_eq_false c4]; rfl
  rw [if_neg c3]
  refine (T.run_br _ _ _).trans ((if_neg (by simp; omega)).trans ?_)
  have hk := fitIdx_lt (x := s.mean.knots) (m := m) (d := d) (by omega)
  rw [L_fit_eq o hm hd s (by omega), T.run_some]
  generalize fitIdx s.mean.knots m d = k at hk
  simp only [show ((k : Int) + 1).toNat = k + 1 by omega, show (k : Int) + 1 - 1 = (k : Int) by omega, w64_in (n := (k : Int)) (by omega) (by omega), Int.toNat_natCast]
  refine chk_step (by simp; omega) (chk_step (by simp; omega) ?_)
  have xa := o.x k (by omega); have xb := o.x (k + 1) hk
  have ya := o.y k (by omega); have yb := o.y (k + 1) hk
  unfold fitPt fitVal fitDen
  rw [(hx k (by omega)).1]
  have q1 := (hx k (by omega)).2
  generalize s.mean.knots.g k 0 * d = xd at q1
  generalize s.mean.knots.g k 0 = xa' at *; generalize s.mean.knots.g (k + 1) 0 = xb' at *
  generalize s.mean.knots.g k 1 = ya' at *; generalize s.mean.knots.g (k + 1) 1 = yb' at *
  rw [w64_in (n := xb' - xa') (by omega) (by omega)]
  have b1 := mul_bd (a := xb' - xa') (b := d) (A := 2000) (B := 1100) (by omega) (by omega)
  rw [w64_in (n := (xb' - xa') * d) (by omega) (by omega)]
  generalize (xb' - xa') * d = den at b1
  have b2 := mul_bd (a := n) (b := den) (A := 2000000) (B := 2200000) (by omega) (by omega)
  have b3 := mul_bd (a := ya') (b := den) (A := 65536) (B := 2200000) (by omega) (by omega)
  have b4 := mul_bd (a := yb' - ya') (b := 25 * m - xd) (A := 131072) (B := 5000000) (by omega) (by omega)
  have b5 := mul_bd (a := 16 * s.mean.err) (b := den) (A := 64000) (B := 2200000) (by omega) (by omega)
  rw [w64_in (n := yb' - ya') (by omega) (by omega), w64_in (n := 25 * m) (by omega) (by omega), w64_in (n := 25 * m - xd) (by omega) (by omega), w64_in (n := n * den) (by omega) (by omega), w64_in (n := ya' * den) (by omega) (by omega), w64_in (n := (yb' - ya') * (25 * m - xd)) (by omega) (by omega), w64_in (n := 16 * s.mean.err) (by omega) (by omega), w64_in (n := 16 * s.mean.err * den) (by omega) (by omega)]
  generalize n * den = nd at *
  generalize 16 * s.mean.err * den = ed at *
  rw [w64_in (n := ya' * den + (yb' - ya') * (25 * m - xd)) (by omega) (by omega)]
  have b6 : -800000000000 ≤ ya' * den + (yb' - ya') * (25 * m - xd) ∧ ya' * den + (yb' - ya') * (25 * m - xd) ≤ 800000000000 := by omega
  generalize ya' * den + (yb' - ya') * (25 * m - xd) = v at *
  rw [w64_in (n := 16 * v) (by omega) (by omega), w64_in (n := nd - 16 * v) (by omega) (by omega), w64_in (n := 16 * v - nd) (by omega) (by omega)]
  by_cases c4 : nd - 16 * v ≤ ed
  · rw [decide_eq_true c4]; rfl
  · rw [decide_eq_false c4]; rfl
end K
noncomputable def BKO31 : Tab := BKO26.addCall 15 (callE D_fit dB (fun a => .chk (K.fitOk a) (.ret (K.fitsB a.1.mean a.2.1 a.2.2.1 a.2.2.2))))
theorem tKO31 : TabOk P BKO31 := TabOk.addFn (d := 30) okP tKO26 (fun a r h => by obtain ⟨g, e⟩ := chk_ret h; subst e; exact K.fits_eq a g)
noncomputable def K.sMass (a : Ship × Bulbs × Survey) : Span × Int := if (checked a != 0) = true then (⟨0, 0⟩, checked a) else if void (massOf a.1 a.2.1 a.2.2) = true then (⟨0, 0⟩, 9) else (massOf a.1 a.2.1 a.2.2, 0)
theorem K.checked_ok {s : Ship} {b : Bulbs} {x : Survey} (h : checked (s, b, x) = 0) : ShipOk s ∧ CheckBulbs b = 0 ∧ Good x ∧ (density (b, x)).2 = 0 ∧ (extremes x).2 = true := by
  unfold checked at h
  obtain ⟨h1, h2⟩ := ite_err h
  exact ⟨ship_ok h1, Check_ok h2⟩
theorem K.sMass_eq (a : Ship × Bulbs × Survey) : callT1 P BKO21 30 8 D_sck R_off a = some (sMass a) := by
  obtain ⟨s, b, x⟩ := a
  rw [fn_sMas]; unfold sMass
  refine br_step (fun _ => rfl) (fun h => ?_)
  obtain ⟨hs, hb, hg, hd, he⟩ := checked_ok (bne_zero h)
  exact chk_step (massOk_is hs) (br_step (fun _ => rfl) (fun _ => rfl))
noncomputable def K.sPossible (a : Ship × Bulbs × Survey × Int) : Bool × Int := if (checked (a.1, a.2.1, a.2.2.1) != 0) = true then (false, checked (a.1, a.2.1, a.2.2.1)) else
  (within a.2.2.2 (massOf a.1 a.2.1 a.2.2.1).lo (massOf a.1 a.2.1 a.2.2.1).hi, 0)
theorem K.sPossible_eq (a : Ship × Bulbs × Survey × Int) : callT1 P BKO21 30 10 D_pos R_pos a = some (sPossible a) := by
  obtain ⟨s, b, x, n⟩ := a
  rw [fn_sPos]; unfold sPossible
  refine br_step (fun _ => rfl) (fun h => ?_)
  obtain ⟨hs, hb, hg, hd, he⟩ := checked_ok (bne_zero h)
  exact chk_step (massOk_is hs) rfl
noncomputable def BKO32 : Tab := BKO31.addCall 8 (callE D_sck R_off (fun a => .ret (sMass a)))
theorem tKO32 : TabOk P BKO32 := TabOk.addPC tKO31 (fun a r h => by rw [← ret_some h]; exact call_of okP tKO21 (sMass_eq a))
noncomputable def BKO33 : Tab := BKO32.addCall 10 (callE D_pos R_pos (fun a => .ret (sPossible a)))
theorem tKO33 : TabOk P BKO33 := TabOk.addPC tKO32 (fun a r h => by rw [← ret_some h]; exact call_of okP tKO21 (sPossible_eq a))
end Go.Proofs.Ytjbhooodjmjdkaa
/-! KP4 -/
namespace Go.Proofs.Ytjbhooodjmjdkaa
open Ev K
set_option maxRecDepth 100000
namespace K
theorem xs_mono {c : Curve} (o : CurveOk c) : ∀ k i, i + k < len c.knots → c.knots.g i 0 ≤ c.knots.g (i + k) 0 := by
  intro k
  induction k with
  | zero => intro i _; exact Int.le_refl _
  | succ k ih => intro i h; have := ih i (by omega); have h2 := o.inc (i + k) h; rw [show i + (k + 1) = i + k + 1 by omega]; omega
theorem xs_le {c : Curve} (o : CurveOk c) {i j : Nat} (h : i ≤ j) (hj : j < len c.knots) : c.knots.g i 0 ≤ c.knots.g j 0 := by
  have := xs_mono o (j - i) i (by omega)
  rwa [show i + (j - i) = j by omega] at this
theorem ys_lt {c : Curve} (r : riseAll c) {i j : Nat} (h : i < j) (hj : j < len c.knots) : c.knots.g i 1 < c.knots.g j 1 := by
  have := rise_lt r (j - i - 1) i (by omega)
  rwa [show i + (j - i - 1) + 1 = j by omega] at this
theorem ys_le {c : Curve} (r : riseAll c) {i j : Nat} (h : i ≤ j) (hj : j < len c.knots) : c.knots.g i 1 ≤ c.knots.g j 1 := by
  rcases Nat.lt_or_eq_of_le h with h | h
  · exact Int.le_of_lt (ys_lt r h hj)
  · subst h; exact Int.le_refl _
theorem massLo_le {f : Frac} (h : RatioOk f) {d m : Int} (h0 : 0 ≤ d) (h1 : d ≤ 1100) (hm : f.num * d ≤ 25 * m * f.den) : massLo f d ≤ m := by
  rw [massLo_eq h h0 h1]
  have hp := h.den
  have e : 25 * m * f.den = m * (25 * f.den) := by grind
  rw [e] at hm
  generalize f.num * d = p at *
  generalize hq : 25 * f.den = q at *
  have : p + q - 1 < (m + 1) * q := by rw [Int.add_mul, Int.one_mul]; omega
  have := Int.ediv_lt_of_lt_mul (by omega) this
  omega
theorem le_massHi {f : Frac} (h : RatioOk f) {d m : Int} (h0 : 0 ≤ d) (h1 : d ≤ 1100) (hm : 25 * m * f.den ≤ f.num * d) : m ≤ massHi f d := by
  rw [massHi_eq h h0 h1]
  have hp := h.den
  have e : 25 * m * f.den = m * (25 * f.den) := by grind
  rw [e] at hm
  exact (Int.le_ediv_iff_mul_le (by omega)).2 hm
theorem dens_bd {b : Bulbs} {x : Survey} (h : (density (b, x)).2 = 0) : 900 ≤ (density (b, x)).1.lo ∧ (density (b, x)).1.lo ≤ (density (b, x)).1.hi ∧ (density (b, x)).1.hi ≤ 1100 := by
  unfold density at h ⊢
  split at h
  · rename_i h1; simp only [bne_iff_ne] at h1; exact absurd h h1
  · rename_i h1
    rw [if_neg h1]
    split at h
    · cases h
    · rename_i h2
      rw [if_neg h2]
      have v := void_false.1 (by simpa using h2)
      refine ⟨?_, v, ?_⟩
      · unfold meet; simp only; split <;> omega
      · unfold meet; simp only; split <;> omega
theorem sums_bd {x : Survey} (g : Good x) (he : (extremes x).2 = true) : (0 ≤ sums16 (extremes x).1.1 ∧ sums16 (extremes x).1.1 ≤ 1100000) ∧ 0 ≤ sums16 (extremes x).1.2 ∧ sums16 (extremes x).1.2 ≤ 1100000 := by
  have eo := extremes_ok g he
  obtain ⟨a0, a1, b0, b1, c0, c1, al⟩ := eo
  obtain ⟨h1, h2, h3, h4⟩ := g.m0; obtain ⟨k1, k2, k3, k4⟩ := g.m1
  obtain ⟨p1, p2, p3, p4⟩ := g.m2; obtain ⟨q1, q2, q3, q4⟩ := g.m3
  obtain ⟨i1, i2, i3, i4⟩ := g.m4; obtain ⟨j1, j2, j3, j4⟩ := g.m5
  generalize (extremes x).1.1 = l0 at *
  generalize (extremes x).1.2 = l1 at *
  rw [sums16_eq (l := l0) (by omega), sums16_eq (l := l1) (by omega)]
  omega
theorem c_same {x R a b d : Int} (hd : 0 ≤ d) (h : a ≤ b) (hR : 0 ≤ R) : (x * R + a * d) * R ≤ (x * R + b * d) * R := by
  have : a * d ≤ b * d := Int.mul_le_mul_of_nonneg_right h hd
  exact Int.mul_le_mul_of_nonneg_right (by omega) hR
theorem c_lt {x1 D1 R1 t1 X1 x2 R2 t2 D2 : Int} (h1 : 0 ≤ R1) (h2 : 0 ≤ R2) (ht1 : t1 ≤ R1) (hD1 : 0 ≤ D1) (hX : x1 + D1 ≤ X1) (hx : X1 ≤ x2) (ht2 : 0 ≤ t2) (hD2 : 0 ≤ D2) : (x1 * R1 + t1 * D1) * R2 ≤ (x2 * R2 + t2 * D2) * R1 := by
  have a : t1 * D1 ≤ R1 * D1 := Int.mul_le_mul_of_nonneg_right ht1 hD1
  have b : (x1 + D1) * R1 ≤ X1 * R1 := Int.mul_le_mul_of_nonneg_right hX h1
  have c : (x1 + D1) * R1 = x1 * R1 + R1 * D1 := by rw [Int.add_mul, Int.mul_comm D1]
  have e : (x1 * R1 + t1 * D1) * R2 ≤ X1 * R1 * R2 := Int.mul_le_mul_of_nonneg_right (by omega) h2
  have f : X1 * R1 * R2 = X1 * R2 * R1 := by rw [Int.mul_assoc, Int.mul_comm R1, ← Int.mul_assoc]
  have g : X1 * R2 ≤ x2 * R2 := Int.mul_le_mul_of_nonneg_right hx h2
  have k : 0 ≤ t2 * D2 := Int.mul_nonneg ht2 hD2
  have l : X1 * R2 * R1 ≤ (x2 * R2 + t2 * D2) * R1 := Int.mul_le_mul_of_nonneg_right (by omega) h1
  omega
theorem swap3 (X R S : Int) : X * R * S = X * S * R := by rw [Int.mul_assoc, Int.mul_comm R, ← Int.mul_assoc]
theorem where_mono {c : Curve} (o : CurveOk c) (r : riseAll c) {Y1 Y2 : Int} {f1 f2 : Frac} (h1 : At c Y1 f1) (h2 : At c Y2 f2) (h : Y1 ≤ Y2) : f1.num * f2.den ≤ f2.num * f1.den := by
  obtain ⟨_, p1⟩ := h1
  obtain ⟨_, p2⟩ := h2
  rcases p1 with ⟨hl, rfl, _⟩ | ⟨i, hi, hy0, hy1, rfl⟩
  · rcases p2 with ⟨_, rfl, _⟩ | ⟨k, hk, _⟩
    · exact Int.le_refl _
    · omega
  rcases p2 with ⟨hl, _⟩ | ⟨k, hk, hz0, hz1, rfl⟩
  · omega
  simp only
  have hDi := o.inc i hi; have hDk := o.inc k hk
  have hRi := r i hi; have hRk := r k hk
  rcases Nat.lt_trichotomy i k with hik | hik | hik
  · have hx := xs_le o (show i + 1 ≤ k by omega) (by omega)
    exact c_lt (X1 := c.knots.g (i + 1) 0) (by omega) (by omega) (by omega) (by omega) (by omega) hx (by omega) (by omega)
  · subst hik
    exact c_same (by omega) (by omega) (by omega)
  · have hys := ys_le r (show k + 1 ≤ i by omega) (by omega)
    have hie : i = k + 1 := by
      rcases Nat.lt_or_eq_of_le (show k + 1 ≤ i by omega) with h | h
      · have := ys_lt r h (by omega); omega
      · exact h.symm
    subst hie
    have e1 : Y1 = 16 * c.knots.g (k + 1) 1 := by omega
    have e2 : Y2 = 16 * c.knots.g (k + 1) 1 := by omega
    rw [e1, e2, Int.sub_self, Int.zero_mul, Int.add_zero]
    have q8 : c.knots.g k 0 * (16 * (c.knots.g (k + 1) 1 - c.knots.g k 1)) + (16 * c.knots.g (k + 1) 1 - 16 * c.knots.g k 1) * (c.knots.g (k + 1) 0 - c.knots.g k 0) = c.knots.g (k + 1) 0 * (16 * (c.knots.g (k + 1) 1 - c.knots.g k 1)) := by grind
    rw [q8]; exact Int.le_of_eq (swap3 _ _ _)
theorem massLo_spec {f : Frac} (h : RatioOk f) {d : Int} (h0 : 0 ≤ d) (h1 : d ≤ 1100) : f.num * d ≤ 25 * massLo f d * f.den := by
  rw [massLo_eq h h0 h1]
  have hp := h.den
  generalize f.num * d = p at *
  have e : ∀ m : Int, 25 * m * f.den = m * (25 * f.den) := by intro m; grind
  rw [e]
  generalize hq : 25 * f.den = q at *
  have := Int.lt_ediv_add_one_mul_self (p + q - 1) (show 0 < q by omega)
  rw [Int.add_mul, Int.one_mul] at this
  omega
theorem massHi_spec {f : Frac} (h : RatioOk f) {d : Int} (h0 : 0 ≤ d) (h1 : d ≤ 1100) : 25 * massHi f d * f.den ≤ f.num * d := by
  rw [massHi_eq h h0 h1]
  have hp := h.den
  generalize f.num * d = p at *
  have e : ∀ m : Int, 25 * m * f.den = m * (25 * f.den) := by intro m; grind
  rw [e]
  exact Int.ediv_mul_le p (by omega)
theorem lo_arith {n1 e1 n2 e2 d1 d2 m : Int} (h : n1 * e2 ≤ n2 * e1) (h2 : n2 * d2 ≤ 25 * m * e2) (hd : d1 ≤ d2) (h0 : 0 ≤ d2) (hn : 0 ≤ n1) (he1 : 0 < e1) (he2 : 0 < e2) : n1 * d1 ≤ 25 * m * e1 := by
  have a : n1 * d1 ≤ n1 * d2 := Int.mul_le_mul_of_nonneg_left hd hn
  have b : n1 * e2 * d2 ≤ n2 * e1 * d2 := Int.mul_le_mul_of_nonneg_right h h0
  have c : n2 * d2 * e1 ≤ 25 * m * e2 * e1 := Int.mul_le_mul_of_nonneg_right h2 (by omega)
  have d : (n1 * d2) * e2 ≤ (25 * m * e1) * e2 := by
    have x1 : n1 * d2 * e2 = n1 * e2 * d2 := by grind
    have x2 : n2 * e1 * d2 = n2 * d2 * e1 := by grind
    have x3 : 25 * m * e2 * e1 = 25 * m * e1 * e2 := by grind
    omega
  exact Int.le_trans a (Int.le_of_mul_le_mul_right d he2)
theorem hi_arith {n1 e1 n2 e2 d1 d2 m : Int} (h : n1 * e2 ≤ n2 * e1) (h1 : 25 * m * e1 ≤ n1 * d1) (hd : d1 ≤ d2) (h0 : 0 ≤ d1) (hn : 0 ≤ n2) (he1 : 0 < e1) (he2 : 0 < e2) : 25 * m * e2 ≤ n2 * d2 := by
  have a : n2 * d1 ≤ n2 * d2 := Int.mul_le_mul_of_nonneg_left hd hn
  have b : n1 * e2 * d1 ≤ n2 * e1 * d1 := Int.mul_le_mul_of_nonneg_right h h0
  have c : 25 * m * e1 * e2 ≤ n1 * d1 * e2 := Int.mul_le_mul_of_nonneg_right h1 (by omega)
  have d : (25 * m * e2) * e1 ≤ (n2 * d1) * e1 := by
    have x1 : n1 * d1 * e2 = n1 * e2 * d1 := by grind
    have x2 : n2 * e1 * d1 = n2 * d1 * e1 := by grind
    have x3 : 25 * m * e1 * e2 = 25 * m * e2 * e1 := by grind
    omega
  exact Int.le_trans (Int.le_of_mul_le_mul_right d he1) a
theorem massLo_mono {f1 f2 : Frac} (o1 : RatioOk f1) (o2 : RatioOk f2) (h : f1.num * f2.den ≤ f2.num * f1.den) {d1 d2 : Int} (h0 : 0 ≤ d1) (hd : d1 ≤ d2) (h1 : d2 ≤ 1100) : massLo f1 d1 ≤ massLo f2 d2 :=
  massLo_le o1 h0 (by omega) (lo_arith h (massLo_spec o2 (by omega) h1) hd (by omega) o1.num o1.den o2.den)
theorem massHi_mono {f1 f2 : Frac} (o1 : RatioOk f1) (o2 : RatioOk f2) (h : f1.num * f2.den ≤ f2.num * f1.den) {d1 d2 : Int} (h0 : 0 ≤ d1) (hd : d1 ≤ d2) (h1 : d2 ≤ 1100) : massHi f1 d1 ≤ massHi f2 d2 :=
  le_massHi o2 (by omega) h1 (hi_arith h (massHi_spec o1 h0 (by omega)) hd h0 o2.num o1.den o2.den)
theorem meet_lo {a b : Span} : (meet a b).lo = max a.lo b.lo := by unfold meet; simp only; split <;> omega
theorem meet_hi {a b : Span} : (meet a b).hi = min a.hi b.hi := by unfold meet; simp only; split <;> omega
/-- Narrower sums and narrower densities: a narrower mass. -/
theorem mass_mono {s : Ship} {b b' : Bulbs} {x y : Survey} (hs : ShipOk s) (gx : Good x) (gy : Good y) (hex : (extremes x).2 = true) (hey : (extremes y).2 = true) (hdx : (density (b, x)).2 = 0) (hdy : (density (b', y)).2 = 0)
    (h1 : sums16 (extremes x).1.1 ≤ sums16 (extremes y).1.1) (h2 : sums16 (extremes y).1.2 ≤ sums16 (extremes x).1.2) (h3 : (density (b, x)).1.lo ≤ (density (b', y)).1.lo) (h4 : (density (b', y)).1.hi ≤ (density (b, x)).1.hi)
    (hv : void (massOf s b' y) = false) : (massOf s b x).lo ≤ (massOf s b' y).lo ∧ (massOf s b' y).hi ≤ (massOf s b x).hi := by
  have dx := dens_bd hdx; have dy := dens_bd hdy
  have sx := sums_bd gx hex; have sy := sums_bd gy hey
  have er := hs.mean.err
  have ey : ∀ z, (0 ≤ sums16 (extremes z).1.1 ∧ sums16 (extremes z).1.1 ≤ 1100000) ∧ (0 ≤ sums16 (extremes z).1.2 ∧ sums16 (extremes z).1.2 ≤ 1100000) →
      (ySpan s z).lo = max (sums16 (extremes z).1.1 - 16 * s.mean.err) (IntKind.i64.wrap (16 * s.mean.knots.g 0 1)) ∧ (ySpan s z).hi = min (sums16 (extremes z).1.2 + 16 * s.mean.err) (IntKind.i64.wrap (16 * s.mean.knots.g (len s.mean.knots - 1) 1)) := by
    intro z hz
    unfold ySpan
    rw [meet_lo, meet_hi]
    rw [w64_in (n := 16 * s.mean.err) (by omega) (by omega), w64_in (n := sums16 (extremes z).1.1 - 16 * s.mean.err) (by omega) (by omega), w64_in (n := sums16 (extremes z).1.2 + 16 * s.mean.err) (by omega) (by omega)]
    exact ⟨rfl, rfl⟩
  obtain ⟨ex1, ex2⟩ := ey x sx
  obtain ⟨ey1, ey2⟩ := ey y sy
  have hvy : void (ySpan s y) = false := by
    cases h : void (ySpan s y) with
    | false => rfl
    | true => rw [massOf_form, if_pos h] at hv; exact hv
  have vy := void_false.1 hvy
  have l1 : (ySpan s x).lo ≤ (ySpan s y).lo := by omega
  have l2 : (ySpan s y).hi ≤ (ySpan s x).hi := by omega
  have hvx : void (ySpan s x) = false := void_false.2 (by omega)
  obtain ⟨wx1, wx2⟩ := wheres (x := x) hs hvx
  obtain ⟨wy1, wy2⟩ := wheres (x := y) hs hvy
  rw [massOf_form, massOf_form, if_neg (by rw [hvx]; decide), if_neg (by rw [hvy]; decide)]
  rw [meet_lo, meet_lo, meet_hi, meet_hi]
  have m1 := massLo_mono wx1.ok wy1.ok (where_mono hs.mean hs.rises wx1 wy1 l1) (d1 := (density (b, x)).1.lo) (d2 := (density (b', y)).1.lo) (by omega) h3 (by omega)
  have m2 := massHi_mono wy2.ok wx2.ok (where_mono hs.mean hs.rises wy2 wx2 l2) (d1 := (density (b', y)).1.hi) (d2 := (density (b, x)).1.hi) (by omega) h4 (by omega)
  simp only
  exact ⟨by omega, by omega⟩
/-- A survey whose marks and Sag are not wider. -/
structure Inner (x y : Survey) : Prop where
  m0 : x.m0.lo ≤ y.m0.lo ∧ y.m0.hi ≤ x.m0.hi
  m1 : x.m1.lo ≤ y.m1.lo ∧ y.m1.hi ≤ x.m1.hi
  m2 : x.m2.lo ≤ y.m2.lo ∧ y.m2.hi ≤ x.m2.hi
  m3 : x.m3.lo ≤ y.m3.lo ∧ y.m3.hi ≤ x.m3.hi
  m4 : x.m4.lo ≤ y.m4.lo ∧ y.m4.hi ≤ x.m4.hi
  m5 : x.m5.lo ≤ y.m5.lo ∧ y.m5.hi ≤ x.m5.hi
  sag : y.sag ≤ x.sag
theorem sums_mono {x y : Survey} (gx : Good x) (gy : Good y) (hex : (extremes x).2 = true) (hey : (extremes y).2 = true) (h : Inner x y) :
    sums16 (extremes x).1.1 ≤ sums16 (extremes y).1.1 ∧ sums16 (extremes y).1.2 ≤ sums16 (extremes x).1.2 := by
  obtain ⟨xa0, xa1, xb0, xb1, xc0, xc1, xal⟩ := extremes_ok gx hex
  obtain ⟨ya0, ya1, yb0, yb1, yc0, yc1, yal⟩ := extremes_ok gy hey
  obtain ⟨i0, i1, i2, i3, i4, i5, is⟩ := h
  obtain ⟨h1, h2, h3, h4⟩ := gx.m0; obtain ⟨k1, k2, k3, k4⟩ := gx.m1
  obtain ⟨p1, p2, p3, p4⟩ := gx.m2; obtain ⟨q1, q2, q3, q4⟩ := gx.m3
  obtain ⟨j1, j2, j3, j4⟩ := gx.m4; obtain ⟨o1, o2, o3, o4⟩ := gx.m5
  generalize (extremes x).1.1 = x0 at *
  generalize (extremes x).1.2 = x1 at *
  generalize (extremes y).1.1 = y0 at *
  generalize (extremes y).1.2 = y1 at *
  have t0 := xal y0.middle y0.ends (by omega) (by omega) (by omega) (by omega) (by omega) (by omega)
  have t1 := xal y1.middle y1.ends (by omega) (by omega) (by omega) (by omega) (by omega) (by omega)
  rw [sums16_eq (l := x0) (by omega), sums16_eq (l := x1) (by omega), sums16_eq (l := y0) (by omega), sums16_eq (l := y1) (by omega)]
  omega
end K
end Go.Proofs.Ytjbhooodjmjdkaa
/-! KNr1 -/
namespace Go.Proofs.Ytjbhooodjmjdkaa
open Ev K
set_option maxRecDepth 100000
abbrev K.Six8 := Int × Int × Int × Int × Int × Int
def X_nar := DecX.one .ret [12] (DecS.mk1 (.skips 12 (.last dB 162)))
def D_n22 := DecS.mk0 (.skips 13 (.cons dB (.unit (dLp 0 0 0 0) (.skips 5 (.cons (dI .i64) (.skip (.unit (dLp 1 0 0 0) (.last (dI .i64) 151)))))))) (.flat 33 lSpan (.flat 33 lSpan .nil))
theorem fn_nar22 : ∀ s, (cutT1 P BKO33 30 3 176 D_n22 X_nar) s = T.run (
  .br (Prod.fst (Prod.fst s)) (
    .br (Prod.fst (Prod.snd (Prod.fst s)) == (0 : Int)) (
      .br (Prod.snd (Prod.snd (Prod.fst s)) != (0 : Int)) (
        .ret (true)) (
        .ret (lwith (Prod.fst (Prod.snd (Prod.snd s)), Prod.fst (Prod.snd s))))) (
      .br (Prod.fst (Prod.snd (Prod.fst s)) == (9 : Int)) (
        .br (Prod.snd (Prod.snd (Prod.fst s)) != (0 : Int)) (
          .ret (true)) (
          .ret (lwith (Prod.fst (Prod.snd (Prod.snd s)), Prod.fst (Prod.snd s))))) (
        .ret (false)))) (
    .ret (false))) := fun s => by kernel_rfl
noncomputable def K.nar22 (s : (Bool × Int × Int) × Span × Span × Unit) : Bool := (if (Prod.fst (Prod.fst s)) = true then (if (Prod.fst (Prod.snd (Prod.fst s)) == (0 : Int)) = true then (if (Prod.snd (Prod.snd (Prod.fst s)) != (0 : Int)) = true then true else lwith (Prod.fst (Prod.snd (Prod.snd s)), Prod.fst (Prod.snd s))) else (if (Prod.fst (Prod.snd (Prod.fst s)) == (9 : Int)) = true then (if (Prod.snd (Prod.snd (Prod.fst s)) != (0 : Int)) = true then true else lwith (Prod.fst (Prod.snd (Prod.snd s)), Prod.fst (Prod.snd s))) else false)) else false)
theorem eq_nar22 (s : (Bool × Int × Int) × Span × Span × Unit) : (cutT1 P BKO33 30 3 176 D_n22 X_nar) s = some (K.nar22 s) := (fn_nar22 s).trans (T.br_some (T.br_some (T.br_some rfl rfl) (T.br_some (T.br_some rfl rfl) rfl)) rfl)
noncomputable def BKNr11 : Tab := (BKO33.addNode 3 176 (nodeE [13, 14, 20, 22, 23] D_n22 X_nar (fun a => .ret (K.nar22 a)))).addCut 3 176
theorem tKNr11 : TabOk P BKNr11 := TabOk.addCut (d := 30) okP tKO33 (by kernel_rfl) (fun a r h => by rw [eq_nar22]; exact congrArg some (ret_some h))
def D_n20 := DecS.mk0 (.skips 6 (.unit (dLp 0 0 0 0) (.unit (dLp 1 0 0 0) (.unit (dLp 2 0 0 0) (.skips 2 (.unit (dLp 3 0 0 0) (.skip (.cons dB (.unit (dLp 4 0 0 0) (.skips 5 (.last (dI .i64) 154)))))))))))
  (.flat 27 lShip (.flat 31 lBulbs (.flat 36 lSurvey (.flat 39 lGlass (.flat 33 lSpan .nil)))))
/-- A list of glasses, and one more. -/
def K.moreG (x : XS) (g : Glass) : XS := ⟨0 + x.len + 1, 0, 0 + x.len + 1, none, appG (0 + x.len) (appG 0 (fun _ _ => .top) (fun i k => x.f (x.row + i) k)) (fun i k => ((lGlass.enc g)[(0 + i) * 5 + k]?).getD .top)⟩
noncomputable def K.moreM (s : Ship) (b : Bulbs) (x : Survey) (g : Glass) : Span × Int := sMass (s, ⟨b.hydros, moreG b.glasses g⟩, x)
theorem K.fn_n20 (up : Bool) (f : Int) (s : Ship) (b : Bulbs) (x : Survey) (g : Glass) (m : Span) : cutT1 P BKNr11 30 3 160 D_n20 X_nar ((up, f), s, b, x, g, m, ()) = T.run (
  .chk (decide ((0 + b.glasses.len) * 40 ≤ 140737488355328 ∧ 0 + b.glasses.len ≤ maxL)) <| .chk (decide ((0 + b.glasses.len + 1) * 40 ≤ 140737488355328 ∧ 0 + b.glasses.len + 1 ≤ maxL)) <|
  .ret (nar22 ((up, f, (moreM s b x g).2), m, (moreM s b x g).1, ()))) := by kernel_rfl
noncomputable def K.nar20 (up : Bool) (f : Int) (s : Ship) (b : Bulbs) (x : Survey) (g : Glass) (m : Span) : Bool := nar22 ((up, f, (moreM s b x g).2), m, (moreM s b x g).1, ())
theorem K.nar20_eq (up : Bool) (f : Int) (s : Ship) (b : Bulbs) (x : Survey) (g : Glass) (m : Span) (h : b.glasses.len ≤ 1000) : cutT1 P BKNr11 30 3 160 D_n20 X_nar ((up, f), s, b, x, g, m, ()) = some (nar20 up f s b x g m) := by
  rw [fn_n20]
  exact chk_step (decide_eq_true (by unfold maxL; omega)) (chk_step (decide_eq_true (by unfold maxL; omega)) rfl)
noncomputable def BKNr12 : Tab := (BKNr11.addNode 3 160 (nodeE [6, 7, 8, 11, 13, 14, 20] D_n20 X_nar (fun a => .chk (decide (a.2.2.1.glasses.len ≤ 1000)) (.ret (nar20 a.1.1 a.1.2 a.2.1 a.2.2.1 a.2.2.2.1 a.2.2.2.2.1 a.2.2.2.2.2.1))))).addCut 3 160
theorem tKNr12 : TabOk P BKNr12 := TabOk.addCut (d := 30) okP tKNr11 (by kernel_rfl) (fun a r h => by obtain ⟨g1, e⟩ := chk_ret h; subst e; obtain ⟨⟨up, f⟩, s, b, x, g, m, _⟩ := a; exact nar20_eq up f s b x g m (by simpa using g1))
def D_n15 := DecS.mk0 (.skips 4 (.cons (dI .u8) (.skip (.unit (dLp 0 0 0 0) (.unit (dLp 1 0 0 0) (.unit (dLp 2 0 0 0) (.skips 2 (.unit (dLp 3 0 0 0) (.skip (.cons dB (.unit (dLp 4 0 0 0) (.skip (.unit (dLp 5 0 0 0) (.tops 158))))))))))))))
  (.flat 27 lShip (.flat 31 lBulbs (.flat 36 lSurvey (.flat 39 lGlass (.flat 33 lSpan (.flat 36 lSurvey .nil))))))
/-- A survey with less Sag, and a narrower Shown. -/
def K.lastY (y : Survey) (c : Int) : Survey := { y with
  sag := if IntKind.i64.wrap (y.sag - IntKind.i64.wrap (Int.tmod c 8)) > 0 then IntKind.i64.wrap (y.sag - IntKind.i64.wrap (Int.tmod c 8)) else 0
  shown := ⟨if IntKind.i64.wrap (y.shown.lo + IntKind.i64.wrap (IntKind.u8.wrap (Int.tdiv c 8))) < y.shown.hi then IntKind.i64.wrap (y.shown.lo + IntKind.i64.wrap (IntKind.u8.wrap (Int.tdiv c 8))) else y.shown.hi, y.shown.hi⟩ }
theorem K.fn_n15 (c : Int) (up : Bool) (s : Ship) (b : Bulbs) (x : Survey) (g : Glass) (m : Span) (y : Survey) : cutT1 P BKNr12 30 3 120 D_n15 X_nar ((c, up, ()), s, b, x, g, m, y, ()) = T.run (
  .br ((sMass (s, b, lastY y c)).2 == 0) (.br (!lwith ((sMass (s, b, lastY y c)).1, m)) (.ret false) (.chk (decide (b.glasses.len ≤ 1000)) (.ret (nar20 up (sMass (s, b, lastY y c)).2 s b x g m))))
    (.chk (decide (b.glasses.len ≤ 1000)) (.ret (nar20 up (sMass (s, b, lastY y c)).2 s b x g m)))) := by kernel_rfl
noncomputable def K.nar15 (c : Int) (up : Bool) (s : Ship) (b : Bulbs) (x : Survey) (g : Glass) (m : Span) (y : Survey) : Bool :=
  if ((sMass (s, b, lastY y c)).2 == 0) = true then (if (!lwith ((sMass (s, b, lastY y c)).1, m)) = true then false else nar20 up (sMass (s, b, lastY y c)).2 s b x g m) else nar20 up (sMass (s, b, lastY y c)).2 s b x g m
theorem K.nar15_eq (c : Int) (up : Bool) (s : Ship) (b : Bulbs) (x : Survey) (g : Glass) (m : Span) (y : Survey) (h : b.glasses.len ≤ 1000) : cutT1 P BKNr12 30 3 120 D_n15 X_nar ((c, up, ()), s, b, x, g, m, y, ()) = some (nar15 c up s b x g m y) := by
  rw [fn_n15]; unfold nar15
  exact br_step (fun _ => br_step (fun _ => rfl) (fun _ => chk_step (decide_eq_true h) rfl)) (fun _ => chk_step (decide_eq_true h) rfl)
noncomputable def BKNr13 : Tab := (BKNr12.addNode 3 120 (nodeE [4, 6, 7, 8, 11, 13, 14, 16] D_n15 X_nar (fun a => .chk (decide (a.2.2.1.glasses.len ≤ 1000)) (.ret (nar15 a.1.1 a.1.2.1 a.2.1 a.2.2.1 a.2.2.2.1 a.2.2.2.2.1 a.2.2.2.2.2.1 a.2.2.2.2.2.2.1))))).addCut 3 120
theorem tKNr13 : TabOk P BKNr13 := TabOk.addCut (d := 30) okP tKNr12 (by kernel_rfl) (fun a r h => by obtain ⟨g1, e⟩ := chk_ret h; subst e; obtain ⟨⟨c, up, _⟩, s, b, x, g, m, y, _⟩ := a; exact nar15_eq c up s b x g m y (by simpa using g1))
/-- A number whose kind bounds it. -/
def Ev.dW (k : IntKind) : Dec Int where
  enc n := .int k (k.wrap n)
  dec _ := none
  ok x a h := by cases h
def lSixW : DecL Six8 := .cons (dW .u8) (.cons (dW .u8) (.cons (dW .u8) (.cons (dW .u8) (.cons (dW .u8) (.last (dW .u8) 0)))))
def D_lnar := DecL.cons dShip (.cons dBulbs (.cons dSurvey (.cons (dAgg lSixW) (.cons (dW .u8) (.last dGlass 0)))))
def K.u8 (n : Int) : Int := IntKind.u8.wrap n
def K.n1 (m : Span) : Int := IntKind.i64.wrap (IntKind.i64.wrap (m.hi - m.lo) + 1)
def K.lo1 (m : Span) (c : Int) : Int := IntKind.i64.wrap (m.lo + Int.tmod (IntKind.i64.wrap c) (n1 m))
def K.n2 (m : Span) (c : Int) : Int := IntKind.i64.wrap (IntKind.i64.wrap (m.hi - lo1 m c) + 1)
def K.hi1 (m : Span) (c : Int) : Int := IntKind.i64.wrap (m.hi - Int.tmod (IntKind.i64.wrap (IntKind.u8.wrap (Int.tdiv c 16))) (n2 m c))
def K.cutM (m : Span) (c : Int) : Span := ⟨lo1 m c, hi1 m c⟩
/-- A survey with narrower marks. -/
def K.cutY (x : Survey) (c : Six8) : Survey := { x with m0 := cutM x.m0 (u8 c.1), m1 := cutM x.m1 (u8 c.2.1), m2 := cutM x.m2 (u8 c.2.2.1), m3 := cutM x.m3 (u8 c.2.2.2.1), m4 := cutM x.m4 (u8 c.2.2.2.2.1), m5 := cutM x.m5 (u8 c.2.2.2.2.2) }
theorem K.fn_lnar (s : Ship) (b : Bulbs) (x : Survey) (c : Six8) (less : Int) (g : Glass) : callT1 P BKNr13 30 3 D_lnar dB (s, b, x, c, less, g) = T.run (
  .br (!ship s) (.ret true) (.br (!few b) (.ret true) (.br ((sMass (s, b, x)).2 != 0) (.ret true) (
    .chk (!decide (n1 x.m0 = 0)) <| .chk (!decide (n2 x.m0 (u8 c.1) = 0)) <| .chk (!decide (n1 x.m1 = 0)) <| .chk (!decide (n2 x.m1 (u8 c.2.1) = 0)) <| .chk (!decide (n1 x.m2 = 0)) <| .chk (!decide (n2 x.m2 (u8 c.2.2.1) = 0)) <| .chk (!decide (n1 x.m3 = 0)) <| .chk (!decide (n2 x.m3 (u8 c.2.2.2.1) = 0)) <| .chk (!decide (n1 x.m4 = 0)) <| .chk (!decide (n2 x.m4 (u8 c.2.2.2.2.1) = 0)) <| .chk (!decide (n1 x.m5 = 0)) <| .chk (!decide (n2 x.m5 (u8 c.2.2.2.2.2) = 0)) <| .chk (decide (b.glasses.len ≤ 1000)) <|
    .ret (nar15 (u8 less) true s b x g (sMass (s, b, x)).1 (cutY x c)))))) := by kernel_rfl
end Go.Proofs.Ytjbhooodjmjdkaa
/-! KNr2 -/
namespace Go.Proofs.Ytjbhooodjmjdkaa
open Ev K
set_option maxRecDepth 100000
namespace K
theorem u8_bd (n : Int) : 0 ≤ u8 n ∧ u8 n ≤ 255 := by
  unfold u8 IntKind.wrap
  simp [IntKind.bits, IntKind.signed]
  omega
theorem u8_in {n : Int} (h1 : 0 ≤ n) (h2 : n ≤ 255) : IntKind.u8.wrap n = n := by
  unfold IntKind.wrap
  simp [IntKind.bits, IntKind.signed]
  omega
theorem n1_eq {m : Span} (h : MarkOk m) : n1 m = m.hi - m.lo + 1 := by
  obtain ⟨a, b, c, d⟩ := h
  unfold n1; rw [w64_in (n := m.hi - m.lo) (by omega) (by omega), w64_in (by omega) (by omega)]
theorem lo1_eq {m : Span} (h : MarkOk m) {c : Int} (h0 : 0 ≤ c) (h1 : c ≤ 255) : m.lo ≤ lo1 m c ∧ lo1 m c ≤ m.hi := by
  have e := n1_eq h
  obtain ⟨a, b, k, d⟩ := h
  unfold lo1
  rw [e, w64_in (n := c) (by omega) (by omega), Int.tmod_eq_emod_of_nonneg h0]
  have q0 := Int.emod_nonneg c (show m.hi - m.lo + 1 ≠ 0 by omega)
  have q1 := Int.emod_lt_of_pos c (show 0 < m.hi - m.lo + 1 by omega)
  rw [w64_in (by omega) (by omega)]; omega
theorem n2_eq {m : Span} (h : MarkOk m) {c : Int} (h0 : 0 ≤ c) (h1 : c ≤ 255) : n2 m c = m.hi - lo1 m c + 1 := by
  have e := lo1_eq h h0 h1
  obtain ⟨a, b, k, d⟩ := h
  unfold n2; rw [w64_in (n := m.hi - lo1 m c) (by omega) (by omega), w64_in (by omega) (by omega)]
theorem hi1_eq {m : Span} (h : MarkOk m) {c : Int} (h0 : 0 ≤ c) (h1 : c ≤ 255) : lo1 m c ≤ hi1 m c ∧ hi1 m c ≤ m.hi := by
  have e := n2_eq h h0 h1; have e2 := lo1_eq h h0 h1
  obtain ⟨a, b, k, d⟩ := h
  unfold hi1
  rw [e, Int.tdiv_eq_ediv_of_nonneg h0, u8_in (by omega) (by omega), w64_in (n := c / 16) (by omega) (by omega), Int.tmod_eq_emod_of_nonneg (by omega)]
  have q0 := Int.emod_nonneg (c / 16) (show m.hi - lo1 m c + 1 ≠ 0 by omega)
  have q1 := Int.emod_lt_of_pos (c / 16) (show 0 < m.hi - lo1 m c + 1 by omega)
  rw [w64_in (by omega) (by omega)]; omega
theorem cutM_ok {m : Span} (h : MarkOk m) (c : Int) : MarkOk (cutM m (u8 c)) ∧ m.lo ≤ (cutM m (u8 c)).lo ∧ (cutM m (u8 c)).hi ≤ m.hi := by
  obtain ⟨h0, h1⟩ := u8_bd c
  have e := lo1_eq h h0 h1; have e2 := hi1_eq h h0 h1
  obtain ⟨a, b, k, d⟩ := h
  unfold cutM
  exact ⟨⟨by simp only; omega, by simp only; omega, by simp only; omega, by simp only; omega⟩, e.1, e2.2⟩
theorem n_ne {m : Span} (h : MarkOk m) (c : Int) : (!decide (n1 m = 0)) = true ∧ (!decide (n2 m (u8 c) = 0)) = true := by
  obtain ⟨h0, h1⟩ := u8_bd c
  have e := n1_eq h; have e2 := n2_eq h h0 h1; have e3 := lo1_eq h h0 h1
  have := h.le
  rw [Bool.not_eq_true', decide_eq_false_iff_not, Bool.not_eq_true', decide_eq_false_iff_not]
  omega
/-- The narrower survey. -/
def narY (x : Survey) (c : Six8) (less : Int) : Survey := lastY (cutY x c) (u8 less)
theorem lastSag {x : Survey} (g : Good x) (c : Six8) (less : Int) : 0 ≤ (narY x c less).sag ∧ (narY x c less).sag ≤ x.sag := by
  obtain ⟨h0, h1⟩ := u8_bd less
  obtain ⟨s1, s2⟩ := g.sag
  have e : (narY x c less).sag = if IntKind.i64.wrap (x.sag - IntKind.i64.wrap (Int.tmod (u8 less) 8)) > 0 then IntKind.i64.wrap (x.sag - IntKind.i64.wrap (Int.tmod (u8 less) 8)) else 0 := rfl
  rw [e, Int.tmod_eq_emod_of_nonneg h0, w64_in (n := u8 less % 8) (by omega) (by omega), w64_in (n := x.sag - u8 less % 8) (by omega) (by omega)]
  split <;> omega
theorem lastShown {x : Survey} (g : Good x) (c : Six8) (less : Int) : x.shown.lo ≤ (narY x c less).shown.lo ∧ (narY x c less).shown.lo ≤ (narY x c less).shown.hi ∧ (narY x c less).shown.hi = x.shown.hi := by
  obtain ⟨h0, h1⟩ := u8_bd less
  obtain ⟨s1, s2, s3⟩ := g.shown
  have e : (narY x c less).shown.lo = if IntKind.i64.wrap (x.shown.lo + IntKind.i64.wrap (IntKind.u8.wrap (Int.tdiv (u8 less) 8))) < x.shown.hi then IntKind.i64.wrap (x.shown.lo + IntKind.i64.wrap (IntKind.u8.wrap (Int.tdiv (u8 less) 8))) else x.shown.hi := rfl
  have e2 : (narY x c less).shown.hi = x.shown.hi := rfl
  rw [e2, e, Int.tdiv_eq_ediv_of_nonneg h0, u8_in (n := u8 less / 8) (by omega) (by omega), w64_in (n := u8 less / 8) (by omega) (by omega), w64_in (n := x.shown.lo + u8 less / 8) (by omega) (by omega)]
  refine ⟨?_, ?_, rfl⟩ <;> split <;> omega
theorem nar_good {x : Survey} (g : Good x) (c : Six8) (less : Int) : Good (narY x c less) ∧ Inner x (narY x c less) := by
  have a := lastSag g c less; have b := lastShown g c less
  have s := g.sag; have t := g.shown
  obtain ⟨k0, i0⟩ := cutM_ok g.m0 c.1
  obtain ⟨k1, i1⟩ := cutM_ok g.m1 c.2.1
  obtain ⟨k2, i2⟩ := cutM_ok g.m2 c.2.2.1
  obtain ⟨k3, i3⟩ := cutM_ok g.m3 c.2.2.2.1
  obtain ⟨k4, i4⟩ := cutM_ok g.m4 c.2.2.2.2.1
  obtain ⟨k5, i5⟩ := cutM_ok g.m5 c.2.2.2.2.2
  exact ⟨⟨g.id, g.tick, by omega, ⟨by omega, by omega, by omega⟩, k0, k1, k2, k3, k4, k5⟩, ⟨i0, i1, i2, i3, i4, i5, a.2⟩⟩
/-! Errors of hydrometers -/
theorem fold_meet (but : Int) : ∀ (L : List GlassE) (c : Span), c.lo ≤ (L.foldl (fun c g => if (g.g.id != but) = true then meet c g.errors else c) c).lo ∧ (L.foldl (fun c g => if (g.g.id != but) = true then meet c g.errors else c) c).hi ≤ c.hi
  | [], c => ⟨Int.le_refl _, Int.le_refl _⟩
  | g :: L, c => by
    rw [List.foldl_cons]
    have h := fold_meet but L (if (g.g.id != but) = true then meet c g.errors else c)
    have e1 := meet_lo (a := c) (b := g.errors); have e2 := meet_hi (a := c) (b := g.errors)
    split at h <;> rename_i hc
    · rw [if_pos hc]; omega
    · rw [if_neg hc]; exact h
theorem errs_sub (b : Bulbs) (h : Hydro) (but : Int) : h.off.lo ≤ (errs b h but).lo ∧ (errs b h but).hi ≤ h.off.hi := fold_meet but _ _
theorem bulbs_hyd {b : Bulbs} (hb : CheckBulbs b = 0) : ∀ i, i < len b.hydros → -100 ≤ b.hydros.g i 1 ∧ b.hydros.g i 2 ≤ 100 := by
  unfold CheckBulbs at hb
  intro i hi
  split at hb
  · cases hb
  split at hb
  · cases hb
  cases h : (List.range (len b.hydros)).findSome? (hydE b.hydros b.hydros) with
  | some e =>
    rw [h] at hb
    have : e = 0 := hb
    obtain ⟨j, _, hj⟩ := List.exists_of_findSome?_eq_some h
    unfold hydE at hj
    split at hj
    · injection hj with hj; omega
    split at hj
    · injection hj with hj; omega
    split at hj
    · injection hj with hj; omega
    · cases hj
  | none =>
    have := none_all h i hi
    unfold hydE at this
    cases h1 : within (b.hydros.g i 0) 1 1099511627776 with
    | false => rw [h1] at this; simp at this
    | true =>
      cases h2 : spans ⟨b.hydros.g i 1, b.hydros.g i 2⟩ (-100) 100 with
      | false => rw [h1, h2] at this; simp at this
      | true => have := spans_iff.1 h2; simp only at this; omega
theorem hydro_at {b : Bulbs} {n : Int} (h : (hydro (b, n)).2 = true) : ∃ i, i < len b.hydros ∧ (hydro (b, n)).1 = hyd b.hydros i := by
  unfold hydro find_hyd1 found at h ⊢
  simp only at h ⊢
  cases hf : first (p_hyd1 (numOf (AV.int IntKind.i64 n)) b.hydros) (len b.hydros) with
  | none => rw [hf] at h; simp at h
  | some i => exact ⟨i, (first_spec hf).1, rfl⟩
theorem off_bd {b : Bulbs} (hb : CheckBulbs b = 0) {n : Int} (h : (off (b, n)).2 = 0) : -100 ≤ (off (b, n)).1.lo ∧ (off (b, n)).1.lo ≤ (off (b, n)).1.hi ∧ (off (b, n)).1.hi ≤ 100 := by
  unfold off at h ⊢
  simp only at h ⊢
  cases hh : (hydro (b, n)).2 with
  | false => rw [hh] at h; cases h
  | true =>
    rw [hh] at h
    simp only [Bool.not_true, Bool.false_eq_true, if_false] at h ⊢
    cases hv : void (errs b (hydro (b, n)).1 0) with
    | true => rw [hv] at h; cases h
    | false =>
      simp only [Bool.false_eq_true, if_false]
      obtain ⟨i, hi, e⟩ := hydro_at hh
      have h1 := errs_sub b (hydro (b, n)).1 0
      have h2 := bulbs_hyd hb i hi
      have v := void_false.1 hv
      rw [e] at h1 v ⊢
      have e1 : (hyd b.hydros i).off.lo = b.hydros.g i 1 := rfl
      have e2 : (hyd b.hydros i).off.hi = b.hydros.g i 2 := rfl
      omega
theorem dens_form {b : Bulbs} {x : Survey} (ho : (off (b, x.hydro)).2 = 0) : density (b, x) = if void (meet ⟨IntKind.i64.wrap (x.shown.lo - (off (b, x.hydro)).1.hi), IntKind.i64.wrap (x.shown.hi - (off (b, x.hydro)).1.lo)⟩ ⟨900, 1100⟩) = true then (⟨0, 0⟩, 9)
    else (meet ⟨IntKind.i64.wrap (x.shown.lo - (off (b, x.hydro)).1.hi), IntKind.i64.wrap (x.shown.hi - (off (b, x.hydro)).1.lo)⟩ ⟨900, 1100⟩, 0) := by
  unfold density
  rw [if_neg (by simp [ho])]
theorem dens_off {b : Bulbs} {x : Survey} (h : (density (b, x)).2 = 0) : (off (b, x.hydro)).2 = 0 := by
  unfold density at h
  split at h
  · exact h
  · rename_i c; simpa using c
theorem dens_at {b : Bulbs} {x : Survey} (hb : CheckBulbs b = 0) (g : Good x) (h : (density (b, x)).2 = 0) : (density (b, x)).1.lo = max (x.shown.lo - (off (b, x.hydro)).1.hi) 900 ∧ (density (b, x)).1.hi = min (x.shown.hi - (off (b, x.hydro)).1.lo) 1100 := by
  have ho := dens_off h
  have bd := off_bd hb ho
  obtain ⟨s1, s2, s3⟩ := g.shown
  have e := dens_form ho
  split at e
  · rw [e] at h; cases h
  · rw [e]
    simp only
    rw [meet_lo, meet_hi, w64_in (n := x.shown.lo - (off (b, x.hydro)).1.hi) (by omega) (by omega), w64_in (n := x.shown.hi - (off (b, x.hydro)).1.lo) (by omega) (by omega)]
    exact ⟨rfl, rfl⟩
theorem check_of {b : Bulbs} {y : Survey} (g : Good y) : check (b, y) = if ((density (b, y)).2 != 0) = true then (density (b, y)).2 else if (!(extremes y).2) = true then 9 else 0 := by
  have hm : ∀ m : Span, MarkOk m → spans m 0 65536 = true ∧ decide (IntKind.wrap IntKind.i64 (m.hi - m.lo) < 400) = true := fun m h => by
    obtain ⟨a, b, c, d⟩ := h
    exact ⟨spans_iff.2 ⟨a, b, c⟩, by rw [w64_in (by omega) (by omega)]; simpa using d⟩
  unfold check
  simp only [within_iff.2 g.id, within_iff.2 g.tick, within_iff.2 g.sag, spans_iff.2 g.shown, (hm _ g.m0).1, (hm _ g.m0).2, (hm _ g.m1).1, (hm _ g.m1).2, (hm _ g.m2).1, (hm _ g.m2).2, (hm _ g.m3).1, (hm _ g.m3).2, (hm _ g.m4).1, (hm _ g.m4).2,
    (hm _ g.m5).1, (hm _ g.m5).2, if_true, Bool.not_true, Bool.false_eq_true, if_false]
theorem sMass_ok {s : Ship} {b : Bulbs} {x : Survey} (h : (sMass (s, b, x)).2 = 0) : checked (s, b, x) = 0 ∧ void (massOf s b x) = false ∧ (sMass (s, b, x)).1 = massOf s b x := by
  unfold sMass at h ⊢
  by_cases hc : (checked (s, b, x) != 0) = true
  · rw [if_pos hc] at h; simp only at h; rw [h] at hc; cases hc
  · rw [if_neg hc] at h ⊢
    simp only at h ⊢
    cases hv : void (massOf s b x) with
    | true => rw [hv] at h; cases h
    | false => exact ⟨by simpa using hc, rfl, rfl⟩
theorem lwith_iff {a b : Span} : lwith (a, b) = true ↔ b.lo ≤ a.lo ∧ a.hi ≤ b.hi := by
  unfold lwith
  simp only
  by_cases h : a.lo ≥ b.lo
  · rw [if_pos (by simpa using h), decide_eq_true_eq]; exact ⟨fun k => ⟨h, k⟩, fun k => k.2⟩
  · rw [if_neg (by simpa using h)]; exact ⟨(fun k => by cases k), (fun k => absurd k.1 h)⟩
/-- The narrower survey's mass. -/
theorem nar_mass {s : Ship} {b : Bulbs} {x : Survey} (h : (sMass (s, b, x)).2 = 0) (c : Six8) (less : Int) :
    ((sMass (s, b, narY x c less)).2 = 0 ∨ (sMass (s, b, narY x c less)).2 = 9) ∧ ((sMass (s, b, narY x c less)).2 = 0 → lwith ((sMass (s, b, narY x c less)).1, (sMass (s, b, x)).1) = true) := by
  obtain ⟨hc, hv, hm⟩ := sMass_ok h
  obtain ⟨hs, hb, g, hd, he⟩ := checked_ok hc
  obtain ⟨gy, hi⟩ := nar_good g c less
  have ho := dens_off hd
  have hoy : (off (b, (narY x c less).hydro)).2 = 0 := ho
  have sh := lastShown g c less
  have ex := dens_at hb g hd
  refine ⟨?_, fun h2 => ?_⟩
  · have hck : checked (s, b, narY x c less) = 0 ∨ checked (s, b, narY x c less) = 9 := by
      have h0 : hullCheck s = 0 := by unfold checked at hc; exact (ite_err hc).1
      unfold checked Check
      simp only [h0, hb]
      simp only [bne_self_eq_false, Bool.false_eq_true, if_false]
      rw [check_of gy]
      have e := dens_form hoy
      split
      · split at e
        · rw [e]; exact .inr rfl
        · rw [e]; exact .inl rfl
      · split
        · exact .inr rfl
        · exact .inl rfl
    unfold sMass
    rcases hck with e | e
    · rw [e]
      cases void (massOf s b (narY x c less)) with
      | true => exact .inr rfl
      | false => exact .inl rfl
    · rw [e]; exact .inr rfl
  · obtain ⟨kc, kv, km⟩ := sMass_ok h2
    obtain ⟨_, _, _, kd, ke⟩ := checked_ok kc
    have ey := dens_at hb gy kd
    have eo : off (b, (narY x c less).hydro) = off (b, x.hydro) := rfl
    rw [eo] at ey
    obtain ⟨t1, t2⟩ := sums_mono g gy he ke hi
    have := mass_mono hs g gy he ke hd kd t1 t2 (by omega) (by omega) kv
    rw [km, hm]
    exact lwith_iff.2 this
/-! One more glass -/
theorem moreG_len {x : XS} {g : Glass} (h : x.len ≤ 1000) : len (moreG x g) = len x + 1 := by
  have e : len x = x.len := clampL_eq (by unfold maxL; omega)
  have : len (moreG x g) = 0 + x.len + 1 := clampL_eq (by show 0 + x.len + 1 ≤ maxL; unfold maxL; omega)
  omega
theorem moreG_at {x : XS} {g : Glass} (h : x.len ≤ 1000) {i : Nat} (hi : i < len x) : gls (moreG x g) i = gls x i := by
  have e : len x = x.len := clampL_eq (by unfold maxL; omega)
  have hk : ∀ k, (moreG x g).g i k = x.g i k := by
    intro k
    unfold XS.g moreG appG
    simp only
    have b1 : Nat.ble (0 + x.len) (0 + i) = false := by rw [← Bool.not_eq_true, Nat.ble_eq]; omega
    rw [b1]
    have b2 : Nat.ble 0 (0 + i) = true := rfl
    simp only [b2]
    rw [show 0 + i - 0 = i by omega]
  unfold gls
  simp only [hk]
theorem errs_more {b : Bulbs} {g : Glass} (h : b.glasses.len ≤ 1000) (y : Hydro) (but : Int) : (errs b y but).lo ≤ (errs ⟨b.hydros, moreG b.glasses g⟩ y but).lo ∧ (errs ⟨b.hydros, moreG b.glasses g⟩ y but).hi ≤ (errs b y but).hi := by
  unfold errs glassesL
  simp only
  rw [moreG_len h, List.range_succ, List.filter_append, List.map_append, List.foldl_append]
  have e : ((List.range (len b.glasses)).filter fun i => (gls (moreG b.glasses g) i).hydro == y.id).map (fun i => toldOf (gls (moreG b.glasses g) i)) = ((List.range (len b.glasses)).filter fun i => (gls b.glasses i).hydro == y.id).map (fun i => toldOf (gls b.glasses i)) := by
    have e1 : (List.range (len b.glasses)).filter (fun i => (gls (moreG b.glasses g) i).hydro == y.id) = (List.range (len b.glasses)).filter fun i => (gls b.glasses i).hydro == y.id :=
      List.filter_congr (fun i hi => by rw [moreG_at h (List.mem_range.1 hi)])
    rw [e1]
    refine List.map_congr_left (fun i hi => ?_)
    rw [moreG_at h (List.mem_range.1 (List.mem_filter.1 hi).1)]
  rw [e]
  exact fold_meet but _ _
theorem off_more {b : Bulbs} {g : Glass} (h : b.glasses.len ≤ 1000) {n : Int} (h1 : (off (b, n)).2 = 0) (h2 : (off (⟨b.hydros, moreG b.glasses g⟩, n)).2 = 0) :
    (off (b, n)).1.lo ≤ (off (⟨b.hydros, moreG b.glasses g⟩, n)).1.lo ∧ (off (⟨b.hydros, moreG b.glasses g⟩, n)).1.hi ≤ (off (b, n)).1.hi := by
  have eh : hydro (⟨b.hydros, moreG b.glasses g⟩, n) = hydro (b, n) := rfl
  have hm := errs_more (g := g) h (hydro (b, n)).1 0
  unfold off at h1 h2 ⊢
  rw [eh] at h2 ⊢
  simp only at h1 h2 ⊢
  cases hh : (hydro (b, n)).2 with
  | false => rw [hh] at h1; cases h1
  | true =>
    rw [hh] at h1 h2
    simp only [Bool.not_true, Bool.false_eq_true, if_false] at h1 h2 ⊢
    cases hv : void (errs b (hydro (b, n)).1 0) with
    | true => rw [hv] at h1; cases h1
    | false =>
      cases hv2 : void (errs ⟨b.hydros, moreG b.glasses g⟩ (hydro (b, n)).1 0) with
      | true => rw [hv2] at h2; cases h2
      | false =>
        simp only [Bool.false_eq_true, if_false]
        exact hm
theorem more_mass {s : Ship} {b : Bulbs} {x : Survey} (g : Glass) (hl : b.glasses.len ≤ 1000) (h : (sMass (s, b, x)).2 = 0) (h2 : (moreM s b x g).2 = 0) : lwith ((moreM s b x g).1, (sMass (s, b, x)).1) = true := by
  unfold moreM at h2 ⊢
  obtain ⟨hc, hv, hm⟩ := sMass_ok h
  obtain ⟨hs, hb, gx, hd, he⟩ := checked_ok hc
  obtain ⟨kc, kv, km⟩ := sMass_ok h2
  obtain ⟨_, kb, _, kd, _⟩ := checked_ok kc
  have o := off_more (g := g) hl (dens_off hd) (dens_off kd)
  have ex := dens_at hb gx hd; have ey := dens_at kb gx kd
  have := mass_mono (b := b) (b' := ⟨b.hydros, moreG b.glasses g⟩) hs gx gx he he hd kd (Int.le_refl _) (Int.le_refl _) (by omega) (by omega) kv
  rw [km, hm]
  exact lwith_iff.2 this
theorem few_len {b : Bulbs} (h : few b = true) : b.glasses.len ≤ 1000 := by
  unfold few at h
  split at h
  · have h := of_decide_eq_true h
    have : len b.glasses ≤ 60 := by omega
    unfold len clampL maxL at this
    split at this <;> omega
  · cases h
def lawNarrower (_ : Ship × Bulbs × Survey × Six8 × Int × Glass) : Bool := true
theorem lawNarrower_true (a) : lawNarrower a = true := rfl
theorem lawNarrower_eq (a : Ship × Bulbs × Survey × Six8 × Int × Glass) : callT1 P BKNr13 30 3 D_lnar dB a = some (lawNarrower a) := by
  obtain ⟨s, b, x, c, less, g⟩ := a
  show _ = some true
  rw [fn_lnar]
  rw [T.run_br]
  by_cases c1 : (!ship s) = true
  · rw [if_pos c1]; rfl
  rw [if_neg c1, T.run_br]
  by_cases c2 : (!few b) = true
  · rw [if_pos c2]; rfl
  rw [if_neg c2, T.run_br]
  by_cases c3 : ((sMass (s, b, x)).2 != 0) = true
  · rw [if_pos c3]; rfl
  rw [if_neg c3]
  have h : (sMass (s, b, x)).2 = 0 := by simpa using c3
  have hl := few_len (b := b) (by simpa using c2)
  obtain ⟨hs, hb, gx, hd, he⟩ := checked_ok (sMass_ok h).1
  obtain ⟨p0, q0⟩ := n_ne gx.m0 c.1
  obtain ⟨p1, q1⟩ := n_ne gx.m1 c.2.1
  obtain ⟨p2, q2⟩ := n_ne gx.m2 c.2.2.1
  obtain ⟨p3, q3⟩ := n_ne gx.m3 c.2.2.2.1
  obtain ⟨p4, q4⟩ := n_ne gx.m4 c.2.2.2.2.1
  obtain ⟨p5, q5⟩ := n_ne gx.m5 c.2.2.2.2.2
  refine chk_step p0 (chk_step q0 (chk_step p1 (chk_step q1 (chk_step p2 (chk_step q2 (chk_step p3 (chk_step q3 (chk_step p4 (chk_step q4 (chk_step p5 (chk_step q5 (chk_step (decide_eq_true hl) ?_))))))))))))
  rw [T.run_ret]
  congr 1
  obtain ⟨n1, n2⟩ := nar_mass h c less
  have n3 := more_mass g hl h
  have h20 : nar20 true (sMass (s, b, narY x c less)).2 s b x g (sMass (s, b, x)).1 = true := by
    unfold nar20 nar22
    simp only [if_true]
    have fin : (if ((moreM s b x g).2 != 0) = true then true else lwith ((moreM s b x g).1, (sMass (s, b, x)).1)) = true := by
      by_cases hk : (moreM s b x g).2 = 0
      · rw [n3 hk]; simp
      · rw [if_pos (by simpa using hk)]
    rcases n1 with e | e
    · rw [e]; exact fin
    · rw [e]; exact fin
  show nar15 (u8 less) true s b x g (sMass (s, b, x)).1 (cutY x c) = true
  unfold nar15
  show (if ((sMass (s, b, narY x c less)).2 == 0) = true then (if (!lwith ((sMass (s, b, narY x c less)).1, (sMass (s, b, x)).1)) = true then false else nar20 true (sMass (s, b, narY x c less)).2 s b x g (sMass (s, b, x)).1) else nar20 true (sMass (s, b, narY x c less)).2 s b x g (sMass (s, b, x)).1) = true
  rw [h20]
  by_cases e : (sMass (s, b, narY x c less)).2 = 0
  · rw [n2 e]; simp
  · rw [if_neg (by simpa using e)]
end K
end Go.Proofs.Ytjbhooodjmjdkaa
/-! KZNarrower -/
namespace Go.Proofs.Ytjbhooodjmjdkaa
open Ev K
open Go.ChangeShapes Go.WideShapes Go.RowKit
set_option maxRecDepth 100000
theorem fl_six8 : flat P 8 37 = some (List.replicate 6 (.int .u8)) := by kernel_rfl
theorem ag_six8 : aggB P 37 = some true := by kernel_rfl
theorem fl_u8 : flat P 8 5 = some [.int .u8] := by kernel_rfl
theorem ag_u8 : aggB P 5 = some false := by kernel_rfl
theorem ag_glass : aggB P 39 = some true := by kernel_rfl
section
variable {H : Type} {enc : TypeId × Value → H} {w : World}
theorem rd_wrap {v : Value} (h : CellR enc P w (.int .u8) v) : RdV w (dW .u8) v := by
  obtain ⟨n, rfl, hn⟩ := h
  refine ⟨n, ?_⟩
  have e : IntKind.u8.wrap n = n := by
    simp [Lit.wf, IntKind.bits, IntKind.signed, IntKind.min, IntKind.max] at hn
    exact u8_in (by omega) (by omega)
  show VR w noA noR (.int .u8 (IntKind.u8.wrap n)) _
  rw [e]; exact .int
theorem rl_six8 {cs : List Value} (h : Cells enc P w (List.replicate 6 (.int .u8)) cs) : RdV w (dAgg lSixW) (.agg cs.toArray) := by
  obtain ⟨v0, cs0, rfl, c0, h⟩ := cells_cons h
  obtain ⟨v1, cs1, rfl, c1, h⟩ := cells_cons h
  obtain ⟨v2, cs2, rfl, c2, h⟩ := cells_cons h
  obtain ⟨v3, cs3, rfl, c3, h⟩ := cells_cons h
  obtain ⟨v4, cs4, rfl, c4, h⟩ := cells_cons h
  obtain ⟨v5, cs5, rfl, c5, h⟩ := cells_cons h
  obtain rfl := cells_nil h
  exact rdV_agg (rdL_cons (rd_wrap c0) (rdL_cons (rd_wrap c1) (rdL_cons (rd_wrap c2) (rdL_cons (rd_wrap c3) (rdL_cons (rd_wrap c4) (rdL_last (rd_wrap c5)))))))
theorem rl_glass {cs : List Value} (h : Cells enc P w (List.replicate 5 (.int .i64)) cs) : RdL w lGlass cs := by
  obtain ⟨v0, cs0, rfl, c0, h⟩ := cells_cons h
  obtain ⟨v1, cs1, rfl, c1, h⟩ := cells_cons h
  obtain ⟨v2, cs2, rfl, c2, h⟩ := cells_cons h
  obtain ⟨v3, cs3, rfl, c3, h⟩ := cells_cons h
  obtain ⟨v4, cs4, rfl, c4, h⟩ := cells_cons h
  obtain rfl := cells_nil h
  exact rdL_iso (rdL_cons (rd_int c0) (rdL_cons (rd_int c1) (rdL_cons (rd_int c2) (rdL_cons (rd_int c3) (rdL_last (rd_int c4))))))
variable {r : Reach} {b : Nat} {v : Value} {d : DataW H} {p : List MemPlace}
theorem rp_six8 (hok : Value.okWide P w r b 37 v) (h : DataW.Trod enc P w 0 (fun _ => true) true 37 v d p) : RdV w (dAgg lSixW) v := by
  obtain ⟨cs, rfl, hc⟩ := param_agg fl_six8 ag_six8 hok h
  exact rl_six8 hc
theorem rp_u8 (hok : Value.okWide P w r b 5 v) (h : DataW.Trod enc P w 0 (fun _ => true) true 5 v d p) : RdV w (dW .u8) v := rd_wrap (param_cell fl_u8 ag_u8 hok h)
theorem rp_glass (hok : Value.okWide P w r b 39 v) (h : DataW.Trod enc P w 0 (fun _ => true) true 39 v d p) : RdV w dGlass v := by
  obtain ⟨cs, rfl, hc⟩ := param_agg fl_glass ag_glass hok h
  exact rdV_agg (rl_glass hc)
end
theorem law_pc (a) : PC P 3 (D_lnar.enc a) (.bool true) := by
  have h := lawNarrower_eq a
  rw [lawNarrower_true] at h
  exact call_of okP tKNr13 h
theorem ownP : ownKnob P.godebug = none := by kernel_rfl
theorem laidP : laidOutB P = true := by kernel_rfl
theorem ub : P.underlying 4 = some .bool := by kernel_rfl
theorem surveyNarrower_lifted (os : Os) (started : os.Started) (H : Type) (enc : TypeId × Value → H) :
    ReturnsInHanded {} Try.checked os 3 .any (Rows.surveyNarrowerSpec.pre6 enc Try.prog Try.f3 Rows.surveyNarrowerRow.domain false) (Rows.surveyNarrowerSpec.post enc Try.prog Try.f3 false true false false) := by
  refine returnsInHanded_of_change (C := Try.checked) ownP started (by kernel_rfl) Try.func3
    (ChangeSpec.witness6 (enc := enc) (C := Try.checked) false ⟨#[], #[.agg #[.int .i64 0, .int .i64 0, .int .i64 0, .int .i64 0, .slice none 0 0, .slice none 0 0, .int .i64 0, .slice none 0 0, .int .i64 0, .int .i64 0, .int .i64 0], .agg #[.slice none 0 0, .slice none 0 0], .agg (Array.replicate 18 (.int .i64 0)), .agg (Array.replicate 6 (.int .u8 0)), .int .u8 0, .agg (Array.replicate 5 (.int .i64 0))], []⟩ 8 (by kernel_rfl) (by kernel_rfl) (by kernel_rfl) (by kernel_rfl)) ?_
  intro W base args ds gs before hval hW _ _
  refine law_contract (P := Try.prog) D_lnar laidP (by kernel_rfl) rfl (fun ds hd => ?_) (fun W' b sp hd => trodAll_mk1 (shut_bool ub true)) (fun W' => ok_one (by kernel_rfl) rfl (okWide_bool_mk ub true)) (fun W base args ds p hval hA => ?_) law_pc W base args ds gs before hval hW
  · rw [Try.params3] at hd
    match ds, hd with
    | [a, b, c, d, e, f], _ => rfl
  · rw [Try.params3] at hA hval
    obtain ⟨v0, vs0, d0, ds0, p0, q0, e0, _, _, h0, r0⟩ := trodAll_cons hA
    obtain ⟨v1, vs1, d1, ds1, p1, q1, e1, _, _, h1, r1⟩ := trodAll_cons r0
    obtain ⟨v2, vs2, d2, ds2, p2, q2, e2, _, _, h2, r2⟩ := trodAll_cons r1
    obtain ⟨v3, vs3, d3, ds3, p3, q3, e3, _, _, h3, r3⟩ := trodAll_cons r2
    obtain ⟨v4, vs4, d4, ds4, p4, q4, e4, _, _, h4, r4⟩ := trodAll_cons r3
    obtain ⟨v5, vs5, d5, ds5, p5, q5, e5, _, _, h5, r5⟩ := trodAll_cons r4
    obtain ⟨e6, _, _⟩ := trodAll_nil r5
    subst e6; subst e5; subst e4; subst e3; subst e2; subst e1
    have ha : args = #[v0, v1, v2, v3, v4, v5] := by apply Array.ext'; exact e0
    subst ha
    exact rdL_cons (rp_ship (hval 0 _ v0 rfl rfl) h0) (rdL_cons (rp_bulbs (hval 1 _ v1 rfl rfl) h1) (rdL_cons (rp_survey (hval 2 _ v2 rfl rfl) h2) (rdL_cons (rp_six8 (hval 3 _ v3 rfl rfl) h3) (rdL_cons (rp_u8 (hval 4 _ v4 rfl rfl) h4) (rdL_last (rp_glass (hval 5 _ v5 rfl rfl) h5))))))
theorem surveyNarrower_holds : Rows.SurveyNarrowerSaid :=
  OpenClaim.holds_of_wide 3 Try.f3 rfl rfl rfl rfl rfl rfl rfl ⟨rfl, rfl, rfl, rfl, rfl⟩ rfl rfl rfl rfl rfl (by kernel_rfl) Try.func3 (by kernel_rfl)
    (of_decide_eq_true (by kernel_rfl)) (by unfold Func.isWrapper; rw [if_neg (of_decide_eq_false (by kernel_rfl))]; exact ⟨rfl, rfl⟩)
    (fun os started H enc _ => surveyNarrower_lifted os started H enc)
#print axioms surveyNarrower_holds
end Go.Proofs.Ytjbhooodjmjdkaa
