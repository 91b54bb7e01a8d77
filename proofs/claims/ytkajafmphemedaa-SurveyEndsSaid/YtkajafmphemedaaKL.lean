/- The masses that are possible by a survey. No conditions. -/
import Derived.Test.YtkajafmphemedaaKI
namespace Go.Proofs.Ytkajafmphemedaa
open Ev K
set_option maxRecDepth 100000
/-! where -/
def S_wh := DecS.mk0 (.skip (.cons (dI .i64) (.unit (dLp 0 0 0 0) (.skip (.unit (dLp 1 0 0 0) (.last (dI .i64) 59)))))) (.flat 25 lCurve (.flat 91 (.cons (dI .i64) (.last (dI .i64) 0)) .nil))
def S_whx := DecS.mk0 (.skips 2 (.unit (dLp 0 0 0 0) (.skip (.unit (dLp 1 0 0 0) (.tops 60))))) (.flat 25 lCurve (.flat 91 (.cons (dI .i64) (.last (dI .i64) 0)) .nil))
def S_whr := DecS.mk0 (.skips 4 (.unit (dLp 0 0 0 0) (.tops 60))) (.flat 91 (.cons (dI .i64) (.last (dI .i64) 0)) .nil)
def X_wh := DecX.or (DecX.one .ret [4] S_whr) (DecX.one (.exit 0) [4, 2] S_whx)
noncomputable def K.st_wh := loopT1 P BKI2 30 64 17 [4, 1, 5, 2] S_wh X_wh
theorem sl_wh : ∀ s, (K.st_wh) s = T.run (
  .br (decide (Prod.snd (Prod.fst s) < (↑(len (Curve.knots (Prod.fst (Prod.snd s)))) : Int))) (
    .chk (decide ((0 : Int) ≤ IntKind.wrap IntKind.i64 (Prod.snd (Prod.fst s) - (1 : Int)) ∧ IntKind.wrap IntKind.i64 (Prod.snd (Prod.fst s) - (1 : Int)) < (↑(XS.len (Curve.knots (Prod.fst (Prod.snd s)))) : Int))) <|
    .chk (decide ((0 : Int) ≤ Prod.snd (Prod.fst s) ∧ Prod.snd (Prod.fst s) < (↑(XS.len (Curve.knots (Prod.fst (Prod.snd s)))) : Int))) <|
    .br (within (Prod.fst (Prod.fst s)) (IntKind.wrap IntKind.i64 ((16 : Int) * XS.g (Curve.knots (Prod.fst (Prod.snd s))) (Int.toNat (IntKind.wrap IntKind.i64 (Prod.snd (Prod.fst s) - (1 : Int)))) (1 : Nat))) (IntKind.wrap IntKind.i64 ((16 : Int) * XS.g (Curve.knots (Prod.fst (Prod.snd s))) (Int.toNat (Prod.snd (Prod.fst s))) (1 : Nat)))) (
      .ret (Sum.inr (Sum.inl (PUnit.unit, (IntKind.wrap IntKind.i64 (IntKind.wrap IntKind.i64 (XS.g (Curve.knots (Prod.fst (Prod.snd s))) (Int.toNat (IntKind.wrap IntKind.i64 (Prod.snd (Prod.fst s) - (1 : Int)))) (0 : Nat) * IntKind.wrap IntKind.i64 ((16 : Int) * IntKind.wrap IntKind.i64 (XS.g (Curve.knots (Prod.fst (Prod.snd s))) (Int.toNat (Prod.snd (Prod.fst s))) (1 : Nat) - XS.g (Curve.knots (Prod.fst (Prod.snd s))) (Int.toNat (IntKind.wrap IntKind.i64 (Prod.snd (Prod.fst s) - (1 : Int)))) (1 : Nat)))) + IntKind.wrap IntKind.i64 (IntKind.wrap IntKind.i64 (Prod.fst (Prod.fst s) - IntKind.wrap IntKind.i64 ((16 : Int) * XS.g (Curve.knots (Prod.fst (Prod.snd s))) (Int.toNat (IntKind.wrap IntKind.i64 (Prod.snd (Prod.fst s) - (1 : Int)))) (1 : Nat))) * IntKind.wrap IntKind.i64 (XS.g (Curve.knots (Prod.fst (Prod.snd s))) (Int.toNat (Prod.snd (Prod.fst s))) (0 : Nat) - XS.g (Curve.knots (Prod.fst (Prod.snd s))) (Int.toNat (IntKind.wrap IntKind.i64 (Prod.snd (Prod.fst s) - (1 : Int)))) (0 : Nat)))), IntKind.wrap IntKind.i64 ((16 : Int) * IntKind.wrap IntKind.i64 (XS.g (Curve.knots (Prod.fst (Prod.snd s))) (Int.toNat (Prod.snd (Prod.fst s))) (1 : Nat) - XS.g (Curve.knots (Prod.fst (Prod.snd s))) (Int.toNat (IntKind.wrap IntKind.i64 (Prod.snd (Prod.fst s) - (1 : Int)))) (1 : Nat)))), PUnit.unit)))) (
      .ret (Sum.inl ((Prod.fst (Prod.fst s), IntKind.wrap IntKind.i64 (Prod.snd (Prod.fst s) + (1 : Int))), Prod.fst (Prod.snd s), Prod.fst (Prod.snd (Prod.snd s)), PUnit.unit)))) (
    .ret (Sum.inr (Sum.inr (PUnit.unit, Prod.fst (Prod.snd s), Prod.fst (Prod.snd (Prod.snd s)), PUnit.unit))))) := fun s => by kernel_rfl
noncomputable def K.L_wh := lim K.st_wh
noncomputable def BKL1 : Tab := BKI2.addNode 64 17 (nodeE [4, 1, 5, 2] S_wh X_wh (fun s => .obs (K.L_wh s) .ret))
theorem tKL1 : TabOk P BKL1 := TabOk.addLoop (d := 30) okP tKI2 (by kernel_rfl) (by kernel_rfl) (fun s r h => obs_ret h)
def D_wh := DecL.cons (dCurve) (.last (dI .i64) 0)
theorem fn_wh : ∀ a, (callT1 P BKL1 30 64 D_wh dRatio) a = T.run (
  .obs (L_wh ((Prod.snd a, (1 : Int)), Prod.fst a, ((0 : Int), (0 : Int)), PUnit.unit)) fun x0 =>
    .sum (x0) (fun x1 =>
      .ret (Frac.mk (Prod.fst (Prod.fst (Prod.snd x1))) (Prod.snd (Prod.fst (Prod.snd x1))))) (fun x1 =>
      .chk (decide ((0 : Int) ≤ (0 : Int) ∧ (0 : Int) < (↑(XS.len (Curve.knots (Prod.fst (Prod.snd x1)))) : Int))) <|
      .ret (Frac.mk (XS.g (Curve.knots (Prod.fst (Prod.snd x1))) (nat_lit 0) (0 : Nat)) (1 : Int)))) := fun a => by kernel_rfl
def K.inPiece (x : XS) (y : Int) (i : Nat) : Bool := within y (IntKind.i64.wrap (16 * x.g i 1)) (IntKind.i64.wrap (16 * x.g (i + 1) 1))
def K.riseAt (x : XS) (i : Nat) : Int := IntKind.i64.wrap (16 * IntKind.i64.wrap (x.g (i + 1) 1 - x.g i 1))
def K.ratioAt (x : XS) (y : Int) (i : Nat) : Frac := ⟨IntKind.i64.wrap (IntKind.i64.wrap (x.g i 0 * riseAt x i) + IntKind.i64.wrap (IntKind.i64.wrap (y - IntKind.i64.wrap (16 * x.g i 1)) * IntKind.i64.wrap (x.g (i + 1) 0 - x.g i 0))), riseAt x i⟩
def K.whereOf (c : Curve) (y : Int) : Frac := match first (inPiece c.knots y) (len c.knots - 1) with
  | some i => ratioAt c.knots y i
  | none => ⟨c.knots.g 0 0, 1⟩
abbrev K.Swh (c : Curve) (y : Int) (i : Nat) := ((y, ((i + 1 : Nat) : Int)), c, ((0 : Int), (0 : Int)), ())
theorem K.L_wh_eq (c : Curve) (y : Int) : K.L_wh ((y, 1), c, (0, 0), ()) = some (match first (inPiece c.knots y) (len c.knots - 1) with | some i => (Sum.inl ((), ((ratioAt c.knots y i).num, (ratioAt c.knots y i).den), ()) : (Unit × (Int × Int) × Unit) ⊕ (Unit × Curve × (Int × Int) × Unit)) | none => .inr ((), c, (0, 0), ())) := by
  have e1 := K.len_le c.knots; have e2 := K.len_le' c.knots
  refine lim_find (Swh c y) (len c.knots - 1) (inPiece c.knots y) (fun i => (Sum.inl ((), ((ratioAt c.knots y i).num, (ratioAt c.knots y i).den), ()) : (Unit × (Int × Int) × Unit) ⊕ (Unit × Curve × (Int × Int) × Unit))) (.inr ((), c, (0, 0), ())) (fun i hi hp => ?_) (fun i hi hp => ?_) ?_
  · rw [sl_wh]
    unfold inPiece at hp
    simp only [T.run_br, T.run_chk, T.run_ret, decide_eq_true_eq]
    rw [if_pos (by omega), w64_in (n := ((i + 1 : Nat) : Int) - 1) (by omega) (by omega), if_pos (by omega), if_pos (by omega)]
    rw [show ((i + 1 : Nat) : Int) - 1 = (i : Int) by omega, Int.toNat_natCast, Int.toNat_natCast, if_pos hp]; rfl
  · rw [sl_wh]
    unfold inPiece at hp
    simp only [T.run_br, T.run_chk, T.run_ret, decide_eq_true_eq]
    rw [if_pos (by omega), w64_in (n := ((i + 1 : Nat) : Int) - 1) (by omega) (by omega), if_pos (by omega), if_pos (by omega)]
    rw [show ((i + 1 : Nat) : Int) - 1 = (i : Int) by omega, Int.toNat_natCast, Int.toNat_natCast, if_neg (by simp [hp]), w64_in (by omega) (by omega)]; rfl
  · rw [sl_wh]
    simp only [T.run_br, T.run_chk, T.run_ret, decide_eq_true_eq]
    rw [if_neg (by omega)]
theorem K.whereOf_eq (a : Curve × Int) (h : 0 < len a.1.knots) : callT1 P BKL1 30 64 D_wh dRatio a = some (whereOf a.1 a.2) := by
  have e2 := K.len_le' a.1.knots
  rw [fn_wh, K.L_wh_eq]; unfold whereOf
  cases first (inPiece a.1.knots a.2) (len a.1.knots - 1) with
  | some i => rfl
  | none => exact chk_step (by simp; omega) rfl
noncomputable def BKL2 : Tab := BKL1.addCall 64 (callE D_wh dRatio (fun a => .chk (decide (0 < len a.1.knots)) (.ret (whereOf a.1 a.2))))
theorem tKL2 : TabOk P BKL2 := TabOk.addFn (d := 30) okP tKL1 (fun a r h => by obtain ⟨g, e⟩ := chk_ret h; subst e; exact K.whereOf_eq a (by simpa using g))
def S_hv := DecS.mk1 (.skips 3 (.cons (dI .i64) (.skips 5 (.cons xHolds (.cons (dI .i64) (.last (dI .i64) 9))))))
noncomputable def K.st_hv := loopT1 P BKL2 30 63 25 [11, 3, 9, 10] S_hv X_rms
theorem sl_hv : ∀ s, (K.st_hv) s = T.run (
  .br (decide (Prod.snd (Prod.snd (Prod.snd s)) < Prod.fst (Prod.snd (Prod.snd s)))) (
    .chk (decide ((0 : Int) ≤ Prod.snd (Prod.snd (Prod.snd s)) ∧ Prod.snd (Prod.snd (Prod.snd s)) < (↑(XS.len (Prod.fst (Prod.snd s))) : Int))) <|
    .ret (Sum.inl (IntKind.wrap IntKind.i64 (Prod.fst s + XS.g (Prod.fst (Prod.snd s)) (Int.toNat (Prod.snd (Prod.snd (Prod.snd s)))) (1 : Nat)), Prod.fst (Prod.snd s), Prod.fst (Prod.snd (Prod.snd s)), IntKind.wrap IntKind.i64 (Prod.snd (Prod.snd (Prod.snd s)) + (1 : Int))))) (
    .ret (Sum.inr (Prod.fst s)))) := fun s => by kernel_rfl
noncomputable def K.L_hv := lim K.st_hv
theorem K.L_hv_eq (x : XS) (a : Int) : K.L_hv (a, x, (len x : Int), 0) = some (sumRooms x a) := by
  have e1 := K.len_le x; have e2 := K.len_le' x
  refine lim_fold (fun i a => (a, x, (len x : Int), (i : Int))) (len x) (fun a i => IntKind.i64.wrap (a + x.g i 1)) id (fun i hi a => ?_) (fun a => ?_) a
  · rw [sl_hv]
    simp only [T.run_br, T.run_chk, T.run_ret, decide_eq_true_eq, Int.toNat_natCast]
    rw [if_pos (by omega), if_pos (by omega), w64_in (n := (i : Int) + 1) (by omega) (by omega)]; simp
  · rw [sl_hv]
    simp only [T.run_br, T.run_chk, T.run_ret, decide_eq_true_eq]
    rw [if_neg (by omega)]; rfl
noncomputable def BKL3 : Tab := BKL2.addNode 63 25 (nodeE [11, 3, 9, 10] S_hv X_rms (fun s => .obs (K.L_hv s) .ret))
theorem tKL3 : TabOk P BKL3 := TabOk.addLoop (d := 30) okP tKL2 (by kernel_rfl) (by kernel_rfl) (fun s r h => obs_ret h)
theorem fn_hv : ∀ a, (callT1 P BKL3 30 63 D_ship R_i) a = T.run (
  .obs (L_hv (Ship.light a, Ship.holds a, (↑(len (Ship.holds a)) : Int), (0 : Int))) fun x0 =>
    .ret (x0)) := fun a => by kernel_rfl
noncomputable def BKL4 : Tab := BKL3.addCall 63 (callE D_ship R_i (fun s => .ret (K.rooms s)))
theorem tKL4 : TabOk P BKL4 := TabOk.addFn (d := 30) okP tKL3 (fun a r h => by rw [fn_hv, K.L_hv_eq, ← ret_some h]; rfl)
def D_vol := DecL.cons (dShip) (.last (dSurvey) 0)
def R_vol : Dec ((Frac × Frac) × Bool) := (dTup (.cons (dAgg (.cons (dI .i64) (.cons (dI .i64) (.cons (dI .i64) (.last (dI .i64) 0))))) (.last dB 0))).iso (fun p => ((⟨p.1.1, p.1.2.1⟩, ⟨p.1.2.2.1, p.1.2.2.2⟩), p.2)) (fun s => ((s.1.1.num, s.1.1.den, s.1.2.num, s.1.2.den), s.2)) (fun _ => rfl)
theorem fn_vol : ∀ a, (callT1 P BKL4 30 41 D_vol R_vol) a = T.run (
  .chk (decide ((0 : Int) ≤ (0 : Int) ∧ (0 : Int) < (↑(XS.len (Curve.knots (Ship.mean (Prod.fst a)))) : Int))) <|
  .chk (decide ((0 : Int) ≤ IntKind.wrap IntKind.i64 ((↑(len (Curve.knots (Ship.mean (Prod.fst a)))) : Int) - (1 : Int)) ∧ IntKind.wrap IntKind.i64 ((↑(len (Curve.knots (Ship.mean (Prod.fst a)))) : Int) - (1 : Int)) < (↑(XS.len (Curve.knots (Ship.mean (Prod.fst a)))) : Int))) <|
  .br (void (meet (Span.mk (IntKind.wrap IntKind.i64 (sums16 (Prod.fst (Prod.fst (extremes (Prod.snd a)))) - IntKind.wrap IntKind.i64 ((16 : Int) * Curve.err (Ship.mean (Prod.fst a))))) (IntKind.wrap IntKind.i64 (sums16 (Prod.snd (Prod.fst (extremes (Prod.snd a)))) + IntKind.wrap IntKind.i64 ((16 : Int) * Curve.err (Ship.mean (Prod.fst a)))))) (Span.mk (IntKind.wrap IntKind.i64 ((16 : Int) * XS.g (Curve.knots (Ship.mean (Prod.fst a))) (nat_lit 0) (1 : Nat))) (IntKind.wrap IntKind.i64 ((16 : Int) * XS.g (Curve.knots (Ship.mean (Prod.fst a))) (Int.toNat (IntKind.wrap IntKind.i64 ((↑(len (Curve.knots (Ship.mean (Prod.fst a)))) : Int) - (1 : Int)))) (1 : Nat)))))) (
    .ret (((Frac.mk (0 : Int) (0 : Int), Frac.mk (0 : Int) (0 : Int)), false))) (
    .chk (decide ((0 : Nat) < len (Curve.knots (Ship.mean (Prod.fst a))))) <|
    .chk (decide ((0 : Nat) < len (Curve.knots (Ship.mean (Prod.fst a))))) <|
    .ret (((whereOf (Ship.mean (Prod.fst a)) (Span.lo (meet (Span.mk (IntKind.wrap IntKind.i64 (sums16 (Prod.fst (Prod.fst (extremes (Prod.snd a)))) - IntKind.wrap IntKind.i64 ((16 : Int) * Curve.err (Ship.mean (Prod.fst a))))) (IntKind.wrap IntKind.i64 (sums16 (Prod.snd (Prod.fst (extremes (Prod.snd a)))) + IntKind.wrap IntKind.i64 ((16 : Int) * Curve.err (Ship.mean (Prod.fst a)))))) (Span.mk (IntKind.wrap IntKind.i64 ((16 : Int) * XS.g (Curve.knots (Ship.mean (Prod.fst a))) (nat_lit 0) (1 : Nat))) (IntKind.wrap IntKind.i64 ((16 : Int) * XS.g (Curve.knots (Ship.mean (Prod.fst a))) (Int.toNat (IntKind.wrap IntKind.i64 ((↑(len (Curve.knots (Ship.mean (Prod.fst a)))) : Int) - (1 : Int)))) (1 : Nat)))))), whereOf (Ship.mean (Prod.fst a)) (Span.hi (meet (Span.mk (IntKind.wrap IntKind.i64 (sums16 (Prod.fst (Prod.fst (extremes (Prod.snd a)))) - IntKind.wrap IntKind.i64 ((16 : Int) * Curve.err (Ship.mean (Prod.fst a))))) (IntKind.wrap IntKind.i64 (sums16 (Prod.snd (Prod.fst (extremes (Prod.snd a)))) + IntKind.wrap IntKind.i64 ((16 : Int) * Curve.err (Ship.mean (Prod.fst a)))))) (Span.mk (IntKind.wrap IntKind.i64 ((16 : Int) * XS.g (Curve.knots (Ship.mean (Prod.fst a))) (nat_lit 0) (1 : Nat))) (IntKind.wrap IntKind.i64 ((16 : Int) * XS.g (Curve.knots (Ship.mean (Prod.fst a))) (Int.toNat (IntKind.wrap IntKind.i64 ((↑(len (Curve.knots (Ship.mean (Prod.fst a)))) : Int) - (1 : Int)))) (1 : Nat))))))), true)))) := fun a => by kernel_rfl
end Go.Proofs.Ytkajafmphemedaa
