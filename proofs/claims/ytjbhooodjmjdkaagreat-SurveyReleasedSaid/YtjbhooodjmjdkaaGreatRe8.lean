/- Parts of the proof, one behind the other: KN8, KN9, KN10, KN11, KP, KV1, KV2, KV3, KV4, KT, KV5, KV6. No conditions. -/
import Derived.Test.YtjbhooodjmjdkaaGreatRe7
/-! KN8 -/
namespace Go.Proofs.YtjbhooodjmjdkaaGreat
open Ev K
set_option maxRecDepth 100000
def D_low := DecL.last (dRatio) 0
def S_low := DecS.mk0 (.skip (.unit (dLp 0 0 0 0) (.unit (dLp 1 0 0 0) (.cons (dI .i64) (.last (dI .i64) 23))))) (.flat 161 (.cons (dI .i64) (.last (dI .i64) 0)) (.flat 59 (.cons (dI .i64) (.last (dI .i64) 0)) .nil))
def X_low := DecX.one (.exit 0) [4, 3, 2, 1] S_low
noncomputable def K.st_low := loopT1 P BKN74 30 98 17 [4, 3, 2, 1] S_low X_low
theorem sl_low : ∀ s, (K.st_low) s = T.run (
  .br (Prod.snd (Prod.fst s) != (0 : Int)) (
    .chk (!decide (Prod.snd (Prod.fst s) = (0 : Int))) <|
    .ret (Sum.inl ((Prod.snd (Prod.fst s), Int.tmod (Prod.fst (Prod.fst s)) (Prod.snd (Prod.fst s))), Prod.fst (Prod.snd s), Prod.fst (Prod.snd (Prod.snd s)), PUnit.unit))) (
    .ret (Sum.inr (Prod.fst s, Prod.fst (Prod.snd s), Prod.fst (Prod.snd (Prod.snd s)), PUnit.unit)))) := fun s => by kernel_rfl
noncomputable def K.L_low := lim K.st_low
theorem K.L_low_eq (m n : Nat) (r) : K.L_low (((m : Int), (n : Int)), r) = some ((((Nat.gcd m n : Nat) : Int), 0), r) := by
  refine lim_gcd (fun a b => ((a, b), r)) (fun m => ?_) (fun m n h => ?_) (n + 1) n m (by omega)
  · rw [sl_low]; rfl
  · rw [sl_low]
    simp only [T.run_br, T.run_chk, T.run_ret]
    rw [if_pos (by simp; omega), if_pos (by simp; omega)]; rfl
noncomputable def BKN81 : Tab := BKN74.addNode 98 17 (nodeE [4, 3, 2, 1] S_low X_low (fun s => .obs (K.L_low s) .ret))
theorem tKN81 : TabOk P BKN81 := TabOk.addLoop (d := 30) okP tKN74 (by kernel_rfl) (by kernel_rfl) (fun s r h => obs_ret h)
theorem fn_low : ∀ a, (callT1 P BKN81 30 98 D_low dFrac) a = T.run (
  .obs (L_low ((if IntKind.wrap IntKind.i64 ((0 : Int) - Frac.num a) > Frac.num a then IntKind.wrap IntKind.i64 ((0 : Int) - Frac.num a) else Frac.num a, Frac.den a), (Frac.num a, Frac.den a), ((0 : Int), (0 : Int)), PUnit.unit)) fun x0 =>
    .chk (!decide (Prod.fst (Prod.fst x0) = (0 : Int))) <|
    .chk (!decide (Prod.fst (Prod.fst x0) = (0 : Int))) <|
    .ret (Frac.mk (IntKind.wrap IntKind.i64 (Int.tdiv (Prod.fst (Prod.fst (Prod.snd x0))) (Prod.fst (Prod.fst x0)))) (IntKind.wrap IntKind.i64 (Int.tdiv (Prod.snd (Prod.fst (Prod.snd x0))) (Prod.fst (Prod.fst x0)))))) := fun a => by kernel_rfl
def K.r_low (f : Frac) : Frac := ⟨IntKind.i64.wrap (Int.tdiv f.num (gcdI f.num f.den)), IntKind.i64.wrap (Int.tdiv f.den (gcdI f.num f.den))⟩
def K.lowOk (f : Frac) : Bool := divOk f.num f.den && !decide (gcdI f.num f.den = 0)
theorem K.r_low_eq (f : Frac) (h : lowOk f = true) : callT1 P BKN81 30 98 D_low dFrac f = some (r_low f) := by
  unfold lowOk divOk at h
  simp only [Bool.and_eq_true, decide_eq_true_eq] at h
  obtain ⟨⟨h1, h2, h3⟩, h4⟩ := h
  rw [fn_low]
  have e2 : f.den = (f.den.natAbs : Int) := by omega
  have e1 : (if IntKind.wrap IntKind.i64 (0 - f.num) > f.num then IntKind.wrap IntKind.i64 (0 - f.num) else f.num) = (f.num.natAbs : Int) := by
    rw [w64_in (n := 0 - f.num) (by omega) (by omega)]; split <;> omega
  have key := L_low_eq f.num.natAbs f.den.natAbs ((f.num, f.den), (0, 0), ())
  rw [← e2] at key
  rw [e1]
  simp only [T.run, key]
  show T.run (.chk (!decide (gcdI f.num f.den = 0)) (.chk (!decide (gcdI f.num f.den = 0)) (.ret (r_low f)))) = _
  exact chk_step h4 (chk_step h4 rfl)
noncomputable def BKN82 : Tab := BKN81.addCall 98 (callE D_low dFrac (fun f => .chk (lowOk f) (.ret (r_low f))))
theorem tKN82 : TabOk P BKN82 := TabOk.addFn (d := 30) okP tKN81 (fun a r h => by obtain ⟨g, e⟩ := chk_ret h; subst e; exact K.r_low_eq a g)
def S_rwh := DecS.mk0 (.skip (.cons (dI .i64) (.unit (dLp 0 0 0 0) (.skip (.unit (dLp 1 0 0 0) (.last (dI .i64) 67)))))) (.flat 25 lCurve (.flat 59 (.cons (dI .i64) (.last (dI .i64) 0)) .nil))
def X_rwh := DecX.one (.exit 0) [5, 4, 1, 2] S_rwh
noncomputable def K.st_rwh := loopT1 P BKN82 30 217 17 [5, 4, 1, 2] S_rwh X_rwh
theorem sl_rwh : ∀ s, (K.st_rwh) s = T.run (
  .chk (decide ((0 : Int) ≤ Prod.snd (Prod.fst s) ∧ Prod.snd (Prod.fst s) < (↑(XS.len (Curve.knots (Prod.fst (Prod.snd s)))) : Int))) <|
  .br (decide (IntKind.wrap IntKind.i64 ((16 : Int) * XS.g (Curve.knots (Prod.fst (Prod.snd s))) (Int.toNat (Prod.snd (Prod.fst s))) (1 : Nat)) < Prod.fst (Prod.fst s))) (
    .ret (Sum.inl ((Prod.fst (Prod.fst s), IntKind.wrap IntKind.i64 (Prod.snd (Prod.fst s) + (1 : Int))), Prod.fst (Prod.snd s), Prod.fst (Prod.snd (Prod.snd s)), PUnit.unit))) (
    .ret (Sum.inr (Prod.fst s, Prod.fst (Prod.snd s), Prod.fst (Prod.snd (Prod.snd s)), PUnit.unit)))) := fun s => by kernel_rfl
noncomputable def K.L_rwh := lim K.st_rwh
noncomputable def BKN83 : Tab := BKN82.addNode 217 17 (nodeE [5, 4, 1, 2] S_rwh X_rwh (fun s => .obs (K.L_rwh s) .ret))
theorem tKN83 : TabOk P BKN83 := TabOk.addLoop (d := 30) okP tKN82 (by kernel_rfl) (by kernel_rfl) (fun s r h => obs_ret h)
def D_rwh := DecL.cons (dCurve) (.last (dI .i64) 0)
theorem fn_rwh : ∀ a, (callT1 P BKN83 30 217 D_rwh dFrac) a = T.run (
  .obs (L_rwh ((Prod.snd a, (0 : Int)), Prod.fst a, ((0 : Int), (0 : Int)), PUnit.unit)) fun x0 =>
    .chk (decide ((0 : Int) ≤ Prod.snd (Prod.fst x0) ∧ Prod.snd (Prod.fst x0) < (↑(XS.len (Curve.knots (Prod.fst (Prod.snd x0)))) : Int))) <|
    .br (IntKind.wrap IntKind.i64 ((16 : Int) * XS.g (Curve.knots (Prod.fst (Prod.snd x0))) (Int.toNat (Prod.snd (Prod.fst x0))) (1 : Nat)) == Prod.fst (Prod.fst x0)) (
      .ret (Frac.mk (XS.g (Curve.knots (Prod.fst (Prod.snd x0))) (Int.toNat (Prod.snd (Prod.fst x0))) (0 : Nat)) (1 : Int))) (
      .chk (decide ((0 : Int) ≤ IntKind.wrap IntKind.i64 (Prod.snd (Prod.fst x0) - (1 : Int)) ∧ IntKind.wrap IntKind.i64 (Prod.snd (Prod.fst x0) - (1 : Int)) < (↑(XS.len (Curve.knots (Prod.fst (Prod.snd x0)))) : Int))) <|
      .chk (divOk (IntKind.wrap IntKind.i64 (IntKind.wrap IntKind.i64 (XS.g (Curve.knots (Prod.fst (Prod.snd x0))) (Int.toNat (IntKind.wrap IntKind.i64 (Prod.snd (Prod.fst x0) - (1 : Int)))) (0 : Nat) * IntKind.wrap IntKind.i64 ((16 : Int) * IntKind.wrap IntKind.i64 (XS.g (Curve.knots (Prod.fst (Prod.snd x0))) (Int.toNat (Prod.snd (Prod.fst x0))) (1 : Nat) - XS.g (Curve.knots (Prod.fst (Prod.snd x0))) (Int.toNat (IntKind.wrap IntKind.i64 (Prod.snd (Prod.fst x0) - (1 : Int)))) (1 : Nat)))) + IntKind.wrap IntKind.i64 (IntKind.wrap IntKind.i64 (Prod.fst (Prod.fst x0) - IntKind.wrap IntKind.i64 ((16 : Int) * XS.g (Curve.knots (Prod.fst (Prod.snd x0))) (Int.toNat (IntKind.wrap IntKind.i64 (Prod.snd (Prod.fst x0) - (1 : Int)))) (1 : Nat))) * IntKind.wrap IntKind.i64 (XS.g (Curve.knots (Prod.fst (Prod.snd x0))) (Int.toNat (Prod.snd (Prod.fst x0))) (0 : Nat) - XS.g (Curve.knots (Prod.fst (Prod.snd x0))) (Int.toNat (IntKind.wrap IntKind.i64 (Prod.snd (Prod.fst x0) - (1 : Int)))) (0 : Nat))))) (IntKind.wrap IntKind.i64 ((16 : Int) * IntKind.wrap IntKind.i64 (XS.g (Curve.knots (Prod.fst (Prod.snd x0))) (Int.toNat (Prod.snd (Prod.fst x0))) (1 : Nat) - XS.g (Curve.knots (Prod.fst (Prod.snd x0))) (Int.toNat (IntKind.wrap IntKind.i64 (Prod.snd (Prod.fst x0) - (1 : Int)))) (1 : Nat))))) <|
      .chk (!decide (gcdI (IntKind.wrap IntKind.i64 (IntKind.wrap IntKind.i64 (XS.g (Curve.knots (Prod.fst (Prod.snd x0))) (Int.toNat (IntKind.wrap IntKind.i64 (Prod.snd (Prod.fst x0) - (1 : Int)))) (0 : Nat) * IntKind.wrap IntKind.i64 ((16 : Int) * IntKind.wrap IntKind.i64 (XS.g (Curve.knots (Prod.fst (Prod.snd x0))) (Int.toNat (Prod.snd (Prod.fst x0))) (1 : Nat) - XS.g (Curve.knots (Prod.fst (Prod.snd x0))) (Int.toNat (IntKind.wrap IntKind.i64 (Prod.snd (Prod.fst x0) - (1 : Int)))) (1 : Nat)))) + IntKind.wrap IntKind.i64 (IntKind.wrap IntKind.i64 (Prod.fst (Prod.fst x0) - IntKind.wrap IntKind.i64 ((16 : Int) * XS.g (Curve.knots (Prod.fst (Prod.snd x0))) (Int.toNat (IntKind.wrap IntKind.i64 (Prod.snd (Prod.fst x0) - (1 : Int)))) (1 : Nat))) * IntKind.wrap IntKind.i64 (XS.g (Curve.knots (Prod.fst (Prod.snd x0))) (Int.toNat (Prod.snd (Prod.fst x0))) (0 : Nat) - XS.g (Curve.knots (Prod.fst (Prod.snd x0))) (Int.toNat (IntKind.wrap IntKind.i64 (Prod.snd (Prod.fst x0) - (1 : Int)))) (0 : Nat))))) (IntKind.wrap IntKind.i64 ((16 : Int) * IntKind.wrap IntKind.i64 (XS.g (Curve.knots (Prod.fst (Prod.snd x0))) (Int.toNat (Prod.snd (Prod.fst x0))) (1 : Nat) - XS.g (Curve.knots (Prod.fst (Prod.snd x0))) (Int.toNat (IntKind.wrap IntKind.i64 (Prod.snd (Prod.fst x0) - (1 : Int)))) (1 : Nat)))) = (0 : Int))) <|
      .chk (!decide (gcdI (IntKind.wrap IntKind.i64 (IntKind.wrap IntKind.i64 (XS.g (Curve.knots (Prod.fst (Prod.snd x0))) (Int.toNat (IntKind.wrap IntKind.i64 (Prod.snd (Prod.fst x0) - (1 : Int)))) (0 : Nat) * IntKind.wrap IntKind.i64 ((16 : Int) * IntKind.wrap IntKind.i64 (XS.g (Curve.knots (Prod.fst (Prod.snd x0))) (Int.toNat (Prod.snd (Prod.fst x0))) (1 : Nat) - XS.g (Curve.knots (Prod.fst (Prod.snd x0))) (Int.toNat (IntKind.wrap IntKind.i64 (Prod.snd (Prod.fst x0) - (1 : Int)))) (1 : Nat)))) + IntKind.wrap IntKind.i64 (IntKind.wrap IntKind.i64 (Prod.fst (Prod.fst x0) - IntKind.wrap IntKind.i64 ((16 : Int) * XS.g (Curve.knots (Prod.fst (Prod.snd x0))) (Int.toNat (IntKind.wrap IntKind.i64 (Prod.snd (Prod.fst x0) - (1 : Int)))) (1 : Nat))) * IntKind.wrap IntKind.i64 (XS.g (Curve.knots (Prod.fst (Prod.snd x0))) (Int.toNat (Prod.snd (Prod.fst x0))) (0 : Nat) - XS.g (Curve.knots (Prod.fst (Prod.snd x0))) (Int.toNat (IntKind.wrap IntKind.i64 (Prod.snd (Prod.fst x0) - (1 : Int)))) (0 : Nat))))) (IntKind.wrap IntKind.i64 ((16 : Int) * IntKind.wrap IntKind.i64 (XS.g (Curve.knots (Prod.fst (Prod.snd x0))) (Int.toNat (Prod.snd (Prod.fst x0))) (1 : Nat) - XS.g (Curve.knots (Prod.fst (Prod.snd x0))) (Int.toNat (IntKind.wrap IntKind.i64 (Prod.snd (Prod.fst x0) - (1 : Int)))) (1 : Nat)))) = (0 : Int))) <|
      .ret (Frac.mk (IntKind.wrap IntKind.i64 (Int.tdiv (IntKind.wrap IntKind.i64 (IntKind.wrap IntKind.i64 (XS.g (Curve.knots (Prod.fst (Prod.snd x0))) (Int.toNat (IntKind.wrap IntKind.i64 (Prod.snd (Prod.fst x0) - (1 : Int)))) (0 : Nat) * IntKind.wrap IntKind.i64 ((16 : Int) * IntKind.wrap IntKind.i64 (XS.g (Curve.knots (Prod.fst (Prod.snd x0))) (Int.toNat (Prod.snd (Prod.fst x0))) (1 : Nat) - XS.g (Curve.knots (Prod.fst (Prod.snd x0))) (Int.toNat (IntKind.wrap IntKind.i64 (Prod.snd (Prod.fst x0) - (1 : Int)))) (1 : Nat)))) + IntKind.wrap IntKind.i64 (IntKind.wrap IntKind.i64 (Prod.fst (Prod.fst x0) - IntKind.wrap IntKind.i64 ((16 : Int) * XS.g (Curve.knots (Prod.fst (Prod.snd x0))) (Int.toNat (IntKind.wrap IntKind.i64 (Prod.snd (Prod.fst x0) - (1 : Int)))) (1 : Nat))) * IntKind.wrap IntKind.i64 (XS.g (Curve.knots (Prod.fst (Prod.snd x0))) (Int.toNat (Prod.snd (Prod.fst x0))) (0 : Nat) - XS.g (Curve.knots (Prod.fst (Prod.snd x0))) (Int.toNat (IntKind.wrap IntKind.i64 (Prod.snd (Prod.fst x0) - (1 : Int)))) (0 : Nat))))) (gcdI (IntKind.wrap IntKind.i64 (IntKind.wrap IntKind.i64 (XS.g (Curve.knots (Prod.fst (Prod.snd x0))) (Int.toNat (IntKind.wrap IntKind.i64 (Prod.snd (Prod.fst x0) - (1 : Int)))) (0 : Nat) * IntKind.wrap IntKind.i64 ((16 : Int) * IntKind.wrap IntKind.i64 (XS.g (Curve.knots (Prod.fst (Prod.snd x0))) (Int.toNat (Prod.snd (Prod.fst x0))) (1 : Nat) - XS.g (Curve.knots (Prod.fst (Prod.snd x0))) (Int.toNat (IntKind.wrap IntKind.i64 (Prod.snd (Prod.fst x0) - (1 : Int)))) (1 : Nat)))) + IntKind.wrap IntKind.i64 (IntKind.wrap IntKind.i64 (Prod.fst (Prod.fst x0) - IntKind.wrap IntKind.i64 ((16 : Int) * XS.g (Curve.knots (Prod.fst (Prod.snd x0))) (Int.toNat (IntKind.wrap IntKind.i64 (Prod.snd (Prod.fst x0) - (1 : Int)))) (1 : Nat))) * IntKind.wrap IntKind.i64 (XS.g (Curve.knots (Prod.fst (Prod.snd x0))) (Int.toNat (Prod.snd (Prod.fst x0))) (0 : Nat) - XS.g (Curve.knots (Prod.fst (Prod.snd x0))) (Int.toNat (IntKind.wrap IntKind.i64 (Prod.snd (Prod.fst x0) - (1 : Int)))) (0 : Nat))))) (IntKind.wrap IntKind.i64 ((16 : Int) * IntKind.wrap IntKind.i64 (XS.g (Curve.knots (Prod.fst (Prod.snd x0))) (Int.toNat (Prod.snd (Prod.fst x0))) (1 : Nat) - XS.g (Curve.knots (Prod.fst (Prod.snd x0))) (Int.toNat (IntKind.wrap IntKind.i64 (Prod.snd (Prod.fst x0) - (1 : Int)))) (1 : Nat))))))) (IntKind.wrap IntKind.i64 (Int.tdiv (IntKind.wrap IntKind.i64 ((16 : Int) * IntKind.wrap IntKind.i64 (XS.g (Curve.knots (Prod.fst (Prod.snd x0))) (Int.toNat (Prod.snd (Prod.fst x0))) (1 : Nat) - XS.g (Curve.knots (Prod.fst (Prod.snd x0))) (Int.toNat (IntKind.wrap IntKind.i64 (Prod.snd (Prod.fst x0) - (1 : Int)))) (1 : Nat)))) (gcdI (IntKind.wrap IntKind.i64 (IntKind.wrap IntKind.i64 (XS.g (Curve.knots (Prod.fst (Prod.snd x0))) (Int.toNat (IntKind.wrap IntKind.i64 (Prod.snd (Prod.fst x0) - (1 : Int)))) (0 : Nat) * IntKind.wrap IntKind.i64 ((16 : Int) * IntKind.wrap IntKind.i64 (XS.g (Curve.knots (Prod.fst (Prod.snd x0))) (Int.toNat (Prod.snd (Prod.fst x0))) (1 : Nat) - XS.g (Curve.knots (Prod.fst (Prod.snd x0))) (Int.toNat (IntKind.wrap IntKind.i64 (Prod.snd (Prod.fst x0) - (1 : Int)))) (1 : Nat)))) + IntKind.wrap IntKind.i64 (IntKind.wrap IntKind.i64 (Prod.fst (Prod.fst x0) - IntKind.wrap IntKind.i64 ((16 : Int) * XS.g (Curve.knots (Prod.fst (Prod.snd x0))) (Int.toNat (IntKind.wrap IntKind.i64 (Prod.snd (Prod.fst x0) - (1 : Int)))) (1 : Nat))) * IntKind.wrap IntKind.i64 (XS.g (Curve.knots (Prod.fst (Prod.snd x0))) (Int.toNat (Prod.snd (Prod.fst x0))) (0 : Nat) - XS.g (Curve.knots (Prod.fst (Prod.snd x0))) (Int.toNat (IntKind.wrap IntKind.i64 (Prod.snd (Prod.fst x0) - (1 : Int)))) (0 : Nat))))) (IntKind.wrap IntKind.i64 ((16 : Int) * IntKind.wrap IntKind.i64 (XS.g (Curve.knots (Prod.fst (Prod.snd x0))) (Int.toNat (Prod.snd (Prod.fst x0))) (1 : Nat) - XS.g (Curve.knots (Prod.fst (Prod.snd x0))) (Int.toNat (IntKind.wrap IntKind.i64 (Prod.snd (Prod.fst x0) - (1 : Int)))) (1 : Nat)))))))))) := fun a => by kernel_rfl
def K.p_rwh (c : Curve) (n : Int) (i : Nat) : Bool := !decide (IntKind.i64.wrap (16 * (knt c.knots i).y) < n)
theorem K.L_rwh_eq (c : Curve) (n : Int) (z) (i : Nat) (h : first (p_rwh c n) (len c.knots) = some i) : K.L_rwh ((n, 0), c, z, ()) = some ((n, (i : Int)), c, z, ()) := by
  have e1 := K.len_le c.knots; have e2 := K.len_le' c.knots
  obtain ⟨h1, h2, h3⟩ := first_spec h
  have key := lim_until (step := K.st_rwh) (fun (i : Nat) => ((n, (i : Int)), c, z, ())) i 0 (fun j _ hj => ?_)
  · show lim K.st_rwh ((n, ((0 : Nat) : Int)), c, z, ()) = _
    rw [key, Nat.zero_add]
    refine lim_done ?_
    rw [sl_rwh]
    unfold p_rwh at h2
    have c1 : (0 : Int) ≤ i ∧ (i : Int) < c.knots.len := by omega
    refine chk_step (by simp only [decide_eq_true_eq]; exact c1) ?_
    rw [T.run_br]
    rw [if_neg (by simp only [Int.toNat_natCast]; intro hc; rw [show (knt c.knots i).y = c.knots.g i 1 from rfl, hc] at h2; cases h2)]
    rfl
  · rw [sl_rwh]
    have h4 := h3 j (by omega)
    unfold p_rwh at h4
    have c1 : (0 : Int) ≤ j ∧ (j : Int) < c.knots.len := by omega
    refine chk_step (by simp only [decide_eq_true_eq]; exact c1) ?_
    rw [T.run_br]
    rw [if_pos (by simp only [Int.toNat_natCast]; exact not_not (by rw [show (knt c.knots j).y = c.knots.g j 1 from rfl] at h4; rw [h4]; decide))]
    rw [T.run_ret, w64_in (n := (j : Int) + 1) (by omega) (by omega)]; rfl
def K.whFrac (c : Curve) (n : Int) (i : Nat) : Frac :=
  ⟨IntKind.i64.wrap (IntKind.i64.wrap ((knt c.knots (i - 1)).x * IntKind.i64.wrap (16 * IntKind.i64.wrap ((knt c.knots i).y - (knt c.knots (i - 1)).y))) +
    IntKind.i64.wrap (IntKind.i64.wrap (n - IntKind.i64.wrap (16 * (knt c.knots (i - 1)).y)) * IntKind.i64.wrap ((knt c.knots i).x - (knt c.knots (i - 1)).x))), IntKind.i64.wrap (16 * IntKind.i64.wrap ((knt c.knots i).y - (knt c.knots (i - 1)).y))⟩
def K.whOk (c : Curve) (n : Int) : Bool := match first (p_rwh c n) (len c.knots) with
  | some i => IntKind.i64.wrap (16 * (knt c.knots i).y) == n || (decide (0 < i) && lowOk (whFrac c n i))
  | none => false
def K.r_where (c : Curve) (n : Int) : Frac := match first (p_rwh c n) (len c.knots) with
  | some i => if (IntKind.i64.wrap (16 * (knt c.knots i).y) == n) = true then ⟨(knt c.knots i).x, 1⟩ else r_low (whFrac c n i)
  | none => ⟨0, 0⟩
theorem K.r_where_eq (a : Curve × Int) (h : whOk a.1 a.2 = true) : callT1 P BKN83 30 217 D_rwh dFrac a = some (r_where a.1 a.2) := by
  obtain ⟨c, n⟩ := a
  unfold whOk at h
  unfold r_where
  simp only at h ⊢
  cases hf : first (p_rwh c n) (len c.knots) with
  | none => rw [hf] at h; cases h
  | some i =>
    rw [hf] at h; simp only at h
    have e1 := K.len_le c.knots; have e2 := K.len_le' c.knots
    have hi := (first_spec hf).1
    have c1 : (0 : Int) ≤ i ∧ (i : Int) < c.knots.len := by omega
    rw [fn_rwh]
    show T.run (.obs (L_rwh ((n, 0), c, (0, 0), ())) _) = _
    rw [L_rwh_eq c n (0, 0) i hf, T.run_some]
    refine chk_step (by simp only [decide_eq_true_eq]; exact c1) ?_
    simp only [T.run_br, T.run_chk, T.run_ret, Int.toNat_natCast]
    cases hq : (IntKind.i64.wrap (16 * (knt c.knots i).y) == n) with
    | true =>
      rw [if_pos (show (IntKind.i64.wrap (16 * c.knots.g i 1) == n) = true from hq)]; rfl
    | false =>
      rw [if_neg (show ¬ (IntKind.i64.wrap (16 * c.knots.g i 1) == n) = true by rw [show (IntKind.i64.wrap (16 * c.knots.g i 1) == n) = false from hq]; decide)]
      rw [hq, Bool.false_or, Bool.and_eq_true, decide_eq_true_eq] at h
      obtain ⟨h0, hl⟩ := h
      unfold lowOk at hl
      rw [Bool.and_eq_true] at hl
      have e3 : IntKind.wrap IntKind.i64 ((i : Int) - 1) = ((i - 1 : Nat) : Int) := by rw [w64_in (by omega) (by omega)]; omega
      simp only [e3, Int.toNat_natCast]
      rw [if_pos (by simp only [decide_eq_true_eq]; omega)]
      refine Eq.trans (if_pos (show divOk (whFrac c n i).num (whFrac c n i).den = true from hl.1)) ?_
      refine Eq.trans (if_pos (show (!decide (gcdI (whFrac c n i).num (whFrac c n i).den = 0)) = true from hl.2)) ?_
      exact if_pos (show (!decide (gcdI (whFrac c n i).num (whFrac c n i).den = 0)) = true from hl.2)
noncomputable def BKN84 : Tab := BKN83.addCall 217 (callE D_rwh dFrac (fun a => .chk (whOk a.1 a.2) (.ret (r_where a.1 a.2))))
theorem tKN84 : TabOk P BKN84 := TabOk.addFn (d := 30) okP tKN83 (fun a r h => by obtain ⟨g, e⟩ := chk_ret h; subst e; exact K.r_where_eq a g)
end Go.Proofs.YtjbhooodjmjdkaaGreat
/-! KN9 -/
namespace Go.Proofs.YtjbhooodjmjdkaaGreat
open Ev K
set_option maxRecDepth 100000
def S_r1c := DecS.mk0 (.skip (.unit (dLp 0 0 0 0) (.skip (.last (dI .i64) 65)))) (.flat 25 lCurve .nil)
def X_r1c := DecX.or (DecX.one .ret [2] (DecS.mk1 (.skips 2 (.last (dI .i64) 66)))) (DecX.one (.exit 0) [] (DecS.mk1 (.tops 69)))
noncomputable def K.st_r1c := loopT1 P BKN84 30 154 49 [3, 1] S_r1c X_r1c
theorem sl_r1c : ∀ s, (K.st_r1c) s = T.run (
  .br (decide (Prod.fst s < (↑(len (Curve.knots (Prod.fst (Prod.snd s)))) : Int))) (
    .chk (decide ((0 : Int) ≤ Prod.fst s ∧ Prod.fst s < (↑(XS.len (Curve.knots (Prod.fst (Prod.snd s)))) : Int))) <|
    .br (decide (XS.g (Curve.knots (Prod.fst (Prod.snd s))) (Int.toNat (Prod.fst s)) (0 : Nat) < (0 : Int))) (
      .ret (Sum.inr (Sum.inl (1 : Int)))) (
      .br (decide (XS.g (Curve.knots (Prod.fst (Prod.snd s))) (Int.toNat (Prod.fst s)) (0 : Nat) > (2000 : Int))) (
        .ret (Sum.inr (Sum.inl (1 : Int)))) (
        .br (decide (XS.g (Curve.knots (Prod.fst (Prod.snd s))) (Int.toNat (Prod.fst s)) (1 : Nat) < (-65536 : Int))) (
          .ret (Sum.inr (Sum.inl (1 : Int)))) (
          .br (decide (XS.g (Curve.knots (Prod.fst (Prod.snd s))) (Int.toNat (Prod.fst s)) (1 : Nat) > (65536 : Int))) (
            .ret (Sum.inr (Sum.inl (1 : Int)))) (
            .br (decide (Prod.fst s > (0 : Int))) (
              .chk (decide ((0 : Int) ≤ IntKind.wrap IntKind.i64 (Prod.fst s - (1 : Int)) ∧ IntKind.wrap IntKind.i64 (Prod.fst s - (1 : Int)) < (↑(XS.len (Curve.knots (Prod.fst (Prod.snd s)))) : Int))) <|
              .br (decide (XS.g (Curve.knots (Prod.fst (Prod.snd s))) (Int.toNat (Prod.fst s)) (0 : Nat) ≤ XS.g (Curve.knots (Prod.fst (Prod.snd s))) (Int.toNat (IntKind.wrap IntKind.i64 (Prod.fst s - (1 : Int)))) (0 : Nat))) (
                .ret (Sum.inr (Sum.inl (1 : Int)))) (
                .ret (Sum.inl (IntKind.wrap IntKind.i64 (Prod.fst s + (1 : Int)), Prod.fst (Prod.snd s), PUnit.unit)))) (
              .ret (Sum.inl (IntKind.wrap IntKind.i64 (Prod.fst s + (1 : Int)), Prod.fst (Prod.snd s), PUnit.unit)))))))) (
    .ret (Sum.inr (Sum.inr PUnit.unit)))) := fun s => by kernel_rfl
noncomputable def K.L_r1c := lim K.st_r1c
noncomputable def BKN91 : Tab := BKN84.addNode 154 49 (nodeE [3, 1] S_r1c X_r1c (fun s => .obs (K.L_r1c s) .ret))
theorem tKN91 : TabOk P BKN91 := TabOk.addLoop (d := 30) okP tKN84 (by kernel_rfl) (by kernel_rfl) (fun s r h => obs_ret h)
theorem fn_r1c : ∀ a, (callT1 P BKN91 30 154 D_crv (dI .i64)) a = T.run (
  .br (decide ((↑(len (Curve.knots a)) : Int) > (40 : Int))) (
    .ret ((2 : Int))) (
    .br ((↑(len (Curve.knots a)) : Int) == (0 : Int)) (
      .ret ((1 : Int))) (
      .br (decide (Curve.err a < (0 : Int))) (
        .ret ((1 : Int))) (
        .br (decide (Curve.err a > (4000 : Int))) (
          .ret ((1 : Int))) (
          .obs (L_r1c ((0 : Int), a, PUnit.unit)) fun x0 =>
            .sum (x0) (fun x1 =>
              .ret (x1)) (fun x1 =>
              .ret ((0 : Int)))))))) := fun a => by kernel_rfl
def K.e_r1c (c : Curve) (i : Nat) : Option Int := if (knt c.knots i).x < 0 then some 1 else if (knt c.knots i).x > 2000 then some 1 else if (knt c.knots i).y < -65536 then some 1 else if (knt c.knots i).y > 65536 then some 1 else
  if 0 < i ∧ (knt c.knots i).x ≤ (knt c.knots (i - 1)).x then some 1 else none
theorem K.L_r1c_eq (c : Curve) : K.L_r1c (0, c, ()) = some (K.orr Sum.inl (.inr ()) ((List.range (len c.knots)).findSome? (e_r1c c))) := by
  have e1 := K.len_le c.knots; have e2 := K.len_le' c.knots
  refine lim_err (fun i => ((i : Int), c, ())) (len c.knots) (e_r1c c) Sum.inl (Sum.inr ()) (fun i hi => ?_) ?_
  · rw [sl_r1c]
    have c1 : (0 : Int) ≤ i ∧ (i : Int) < c.knots.len := by omega
    simp only [T.run_br, T.run_chk, T.run_ret, decide_eq_true_eq, Int.toNat_natCast, if_pos c1]
    rw [if_pos (by omega), w64_in (n := (i : Int) + 1) (by omega) (by omega)]
    unfold e_r1c; simp only [orr_ite, orr_none]
    show (if (knt c.knots i).x < 0 then _ else if (knt c.knots i).x > 2000 then _ else if (knt c.knots i).y < -65536 then _ else if (knt c.knots i).y > 65536 then _ else _) = _
    rcases Nat.eq_zero_or_pos i with h0 | h0
    · subst h0
      rw [if_neg (show ¬ (((0 : Nat) : Int) > 0) by omega), if_neg (show ¬ (0 < 0 ∧ (knt c.knots 0).x ≤ (knt c.knots (0 - 1)).x) by omega)]; rfl
    · have e3 : IntKind.wrap IntKind.i64 ((i : Int) - 1) = ((i - 1 : Nat) : Int) := by rw [w64_in (by omega) (by omega)]; omega
      simp only [e3, Int.toNat_natCast]
      rw [if_pos (show (i : Int) > 0 by omega), if_pos (show (0 : Int) ≤ ((i - 1 : Nat) : Int) ∧ ((i - 1 : Nat) : Int) < (c.knots.len : Int) by omega)]
      simp only [h0, true_and]
      rfl
  · rw [sl_r1c]
    simp only [T.run_br, T.run_chk, T.run_ret, decide_eq_true_eq]
    rw [if_neg (by omega)]
def K.r_curve (c : Curve) : Int := if decide ((len c.knots : Int) > 40) = true then 2 else if ((len c.knots : Int) == 0) = true then 1 else if decide (c.err < 0) = true then 1 else if decide (c.err > 4000) = true then 1 else
  K.orr id 0 ((List.range (len c.knots)).findSome? (e_r1c c))
theorem K.r_curve_eq (c : Curve) : callT1 P BKN91 30 154 D_crv (dI .i64) c = some (r_curve c) := by
  rw [fn_r1c]; unfold r_curve
  refine br_step (fun _ => rfl) (fun _ => ?_)
  refine br_step (fun _ => rfl) (fun _ => ?_)
  refine br_step (fun _ => rfl) (fun _ => ?_)
  refine br_step (fun _ => rfl) (fun _ => ?_)
  rw [L_r1c_eq]
  cases (List.range (len c.knots)).findSome? (e_r1c c) <;> rfl
noncomputable def BKN92 : Tab := BKN91.addCall 154 (callE D_crv (dI .i64) (fun a => .ret (r_curve a)))
theorem tKN92 : TabOk P BKN92 := TabOk.addFn (d := 30) okP tKN91 (fun a r h => by rw [r_curve_eq]; exact congrArg some (ret_some h))
def S_rrm := DecS.mk0 (.skip (.unit (dLp 0 0 0 0) (.skip (.cons (dI .i64) (.last (dI .i64) 16))))) (.flat 27 lShip .nil)
def X_rrm := DecX.one (.exit 0) [4, 1, 3] S_rrm
noncomputable def K.st_rrm := loopT1 P BKN92 30 153 25 [4, 1, 3] S_rrm X_rrm
theorem sl_rrm : ∀ s, (K.st_rrm) s = T.run (
  .br (decide (Prod.snd (Prod.fst s) < (↑(len (Ship.holds (Prod.fst (Prod.snd s)))) : Int))) (
    .chk (decide ((0 : Int) ≤ Prod.snd (Prod.fst s) ∧ Prod.snd (Prod.fst s) < (↑(XS.len (Ship.holds (Prod.fst (Prod.snd s)))) : Int))) <|
    .ret (Sum.inl ((IntKind.wrap IntKind.i64 (Prod.fst (Prod.fst s) + XS.g (Ship.holds (Prod.fst (Prod.snd s))) (Int.toNat (Prod.snd (Prod.fst s))) (1 : Nat)), IntKind.wrap IntKind.i64 (Prod.snd (Prod.fst s) + (1 : Int))), Prod.fst (Prod.snd s), PUnit.unit))) (
    .ret (Sum.inr (Prod.fst s, Prod.fst (Prod.snd s), PUnit.unit)))) := fun s => by kernel_rfl
noncomputable def K.L_rrm := lim K.st_rrm
def K.r_rooms (s : Ship) : Int := (List.range (len s.holds)).foldl (fun n i => IntKind.i64.wrap (n + (hld s.holds i).room)) 0
theorem K.L_rrm_eq (s : Ship) (n : Int) : K.L_rrm ((n, 0), s, ()) = some (((List.range (len s.holds)).foldl (fun n i => IntKind.i64.wrap (n + (hld s.holds i).room)) n, (len s.holds : Int)), s, ()) := by
  have e1 := K.len_le s.holds; have e2 := K.len_le' s.holds
  refine lim_fold (fun i n => ((n, (i : Int)), s, ())) (len s.holds) (fun n i => IntKind.i64.wrap (n + (hld s.holds i).room)) (fun n => ((n, (len s.holds : Int)), s, ())) (fun i hi a => ?_) (fun a => ?_) n
  · rw [sl_rrm]
    have c1 : (0 : Int) ≤ i ∧ (i : Int) < s.holds.len := by omega
    simp only [T.run_br, T.run_chk, T.run_ret, decide_eq_true_eq, Int.toNat_natCast, if_pos c1]
    rw [if_pos (by omega), w64_in (n := (i : Int) + 1) (by omega) (by omega)]
    rfl
  · rw [sl_rrm]
    simp only [T.run_br, T.run_chk, T.run_ret, decide_eq_true_eq]
    rw [if_neg (by omega)]
noncomputable def BKN93 : Tab := BKN92.addNode 153 25 (nodeE [4, 1, 3] S_rrm X_rrm (fun s => .obs (K.L_rrm s) .ret))
theorem tKN93 : TabOk P BKN93 := TabOk.addLoop (d := 30) okP tKN92 (by kernel_rfl) (by kernel_rfl) (fun s r h => obs_ret h)
theorem fn_rrm : ∀ a, (callT1 P BKN93 30 153 D_ship (dI .i64)) a = T.run (
  .obs (L_rrm (((0 : Int), (0 : Int)), a, PUnit.unit)) fun x0 =>
    .ret (Prod.fst (Prod.fst x0))) := fun a => by kernel_rfl
theorem K.r_rooms_eq (s : Ship) : callT1 P BKN93 30 153 D_ship (dI .i64) s = some (r_rooms s) := by
  rw [fn_rrm]
  show T.run (.obs (L_rrm ((0, 0), s, ())) _) = _
  rw [L_rrm_eq]; rfl
noncomputable def BKN94 : Tab := BKN93.addCall 153 (callE D_ship (dI .i64) (fun a => .ret (r_rooms a)))
theorem tKN94 : TabOk P BKN94 := TabOk.addFn (d := 30) okP tKN93 (fun a r h => by rw [r_rooms_eq]; exact congrArg some (ret_some h))
def S_rkn := DecS.mk0 (.skips 2 (.unit (dLp 0 0 0 0) (.unit (dLp 1 0 0 0) (.skip (.last (dI .i64) 41))))) (.flat 27 lShip (.flat 25 lCurve .nil))
def X_rkn := DecX.or (DecX.one .ret [4] (DecS.mk1 (.skips 4 (.last dB 42)))) (DecX.one (.exit 0) [5, 3, 2] S_rkn)
noncomputable def K.st_rkn := loopT1 P BKN94 30 155 17 [5, 3, 2] S_rkn X_rkn
theorem sl_rkn : ∀ s, (K.st_rkn) s = T.run (
  .br (decide (Prod.fst s < (↑(len (Curve.knots (Prod.fst (Prod.snd (Prod.snd s))))) : Int))) (
    .chk (decide ((0 : Int) ≤ Prod.fst s ∧ Prod.fst s < (↑(XS.len (Curve.knots (Prod.fst (Prod.snd (Prod.snd s))))) : Int))) <|
    .br (decide (XS.g (Curve.knots (Prod.fst (Prod.snd (Prod.snd s)))) (Int.toNat (Prod.fst s)) (1 : Nat) < (0 : Int))) (
      .ret (Sum.inr (Sum.inl false))) (
      .ret (Sum.inl (IntKind.wrap IntKind.i64 (Prod.fst s + (1 : Int)), Prod.fst (Prod.snd s), Prod.fst (Prod.snd (Prod.snd s)), PUnit.unit)))) (
    .ret (Sum.inr (Sum.inr (Prod.fst s, Prod.fst (Prod.snd s), Prod.fst (Prod.snd (Prod.snd s)), PUnit.unit))))) := fun s => by kernel_rfl
noncomputable def K.L_rkn := lim K.st_rkn
noncomputable def BKN95 : Tab := BKN94.addNode 155 17 (nodeE [5, 3, 2] S_rkn X_rkn (fun s => .obs (K.L_rkn s) .ret))
theorem tKN95 : TabOk P BKN95 := TabOk.addLoop (d := 30) okP tKN94 (by kernel_rfl) (by kernel_rfl) (fun s r h => obs_ret h)
def D_rkn := DecL.cons (dShip) (.last (dCurve) 0)
theorem fn_rkn : ∀ a, (callT1 P BKN95 30 155 D_rkn dB) a = T.run (
  .obs (L_rkn ((0 : Int), Prod.fst a, Prod.snd a, PUnit.unit)) fun x0 =>
    .sum (x0) (fun x1 =>
      .ret (x1)) (fun x1 =>
      .chk (decide ((0 : Int) ≤ (0 : Int) ∧ (0 : Int) < (↑(XS.len (Curve.knots (Prod.fst (Prod.snd (Prod.snd x1))))) : Int))) <|
      .br (decide (IntKind.wrap IntKind.i64 (XS.g (Curve.knots (Prod.fst (Prod.snd (Prod.snd x1)))) (nat_lit 0) (0 : Nat) * (40 : Int)) ≤ Ship.light (Prod.fst (Prod.snd x1)))) (
        .chk (decide ((0 : Int) ≤ IntKind.wrap IntKind.i64 ((↑(len (Curve.knots (Prod.fst (Prod.snd (Prod.snd x1))))) : Int) - (1 : Int)) ∧ IntKind.wrap IntKind.i64 ((↑(len (Curve.knots (Prod.fst (Prod.snd (Prod.snd x1))))) : Int) - (1 : Int)) < (↑(XS.len (Curve.knots (Prod.fst (Prod.snd (Prod.snd x1))))) : Int))) <|
        .ret (decide (IntKind.wrap IntKind.i64 (XS.g (Curve.knots (Prod.fst (Prod.snd (Prod.snd x1)))) (Int.toNat (IntKind.wrap IntKind.i64 ((↑(len (Curve.knots (Prod.fst (Prod.snd (Prod.snd x1))))) : Int) - (1 : Int)))) (0 : Nat) * (40 : Int)) ≥ IntKind.wrap IntKind.i64 (Ship.light (Prod.fst (Prod.snd x1)) + r_rooms (Prod.fst (Prod.snd x1)))))) (
        .ret (false)))) := fun a => by kernel_rfl
def K.p_rkn (c : Curve) (i : Nat) : Bool := decide ((knt c.knots i).y < 0)
theorem K.L_rkn_eq (s : Ship) (c : Curve) : K.L_rkn (0, s, c, ()) = some (match first (p_rkn c) (len c.knots) with | some _ => Sum.inl false | none => Sum.inr ((len c.knots : Int), s, c, ())) := by
  have e1 := K.len_le c.knots; have e2 := K.len_le' c.knots
  refine lim_find (fun i => ((i : Int), s, c, ())) (K.len c.knots) (p_rkn c) (fun _ => Sum.inl false) (Sum.inr ((len c.knots : Int), s, c, ())) (fun i hi hp => ?_) (fun i hi hp => ?_) ?_
  · rw [sl_rkn]; unfold p_rkn at hp
    have c1 : (0 : Int) ≤ i ∧ (i : Int) < c.knots.len := by omega
    simp only [T.run_br, T.run_chk, T.run_ret, decide_eq_true_eq, Int.toNat_natCast, if_pos c1]
    rw [if_pos (by omega), if_pos (show c.knots.g i 1 < 0 from of_decide_eq_true hp)]
  · rw [sl_rkn]; unfold p_rkn at hp
    have c1 : (0 : Int) ≤ i ∧ (i : Int) < c.knots.len := by omega
    simp only [T.run_br, T.run_chk, T.run_ret, decide_eq_true_eq, Int.toNat_natCast, if_pos c1]
    rw [if_pos (by omega), if_neg (show ¬ c.knots.g i 1 < 0 from of_decide_eq_false hp)]
    rw [w64_in (by omega) (by omega)]; simp
  · rw [sl_rkn]
    simp only [T.run_br, T.run_chk, T.run_ret, decide_eq_true_eq]
    rw [if_neg (by omega)]
def K.r_known (s : Ship) (c : Curve) : Bool := if (first (p_rkn c) (len c.knots)).isSome then false else if decide (IntKind.i64.wrap ((knt c.knots 0).x * 40) ≤ s.light) = true then decide (IntKind.i64.wrap ((knt c.knots (len c.knots - 1)).x * 40) ≥ IntKind.i64.wrap (s.light + r_rooms s)) else false
theorem K.r_known_eq (a : Ship × Curve) (h : 0 < len a.2.knots) : callT1 P BKN95 30 155 D_rkn dB a = some (r_known a.1 a.2) := by
  obtain ⟨s, c⟩ := a
  simp only at h ⊢
  have e1 := K.len_le c.knots; have e2 := K.len_le' c.knots
  rw [fn_rkn]; unfold r_known
  show T.run (.obs (L_rkn (0, s, c, ())) _) = _
  rw [L_rkn_eq]
  cases first (p_rkn c) (len c.knots) with
  | some i => rfl
  | none =>
    simp only [T.run_some, T.run_inr]
    rw [w64_in (n := (len c.knots : Int) - 1) (by omega) (by omega), show ((len c.knots : Int) - 1).toNat = len c.knots - 1 by omega]
    refine chk_step (by simp only [decide_eq_true_eq]; omega) (br_step (fun _ => chk_step (by simp only [decide_eq_true_eq]; omega) rfl) (fun _ => rfl))
noncomputable def BKN96 : Tab := BKN95.addCall 155 (callE D_rkn dB (fun a => .chk (decide (0 < len a.2.knots)) (.ret (r_known a.1 a.2))))
theorem tKN96 : TabOk P BKN96 := TabOk.addFn (d := 30) okP tKN95 (fun a r h => by obtain ⟨g, e⟩ := chk_ret h; subst e; exact K.r_known_eq a (by simpa using g))
def D_rpl := DecL.cons (dI .i64) (.last (dI .i64) 0)
theorem fn_r_placed : ∀ a, (callT1 P BKN96 30 152 D_rpl dB) a = T.run (
  .br (decide (Prod.fst a ≥ (-20000 : Int))) (
    .br (decide (Prod.fst a ≤ (20000 : Int))) (
      .br (decide (Prod.snd a ≥ (0 : Int))) (
        .ret (decide (Prod.snd a ≤ (5000 : Int)))) (
        .ret (false))) (
      .ret (false))) (
    .ret (false))) := fun a => by kernel_rfl
noncomputable def K.r_placed (a : Int × Int) : Bool := (if (decide (Prod.fst a ≥ (-20000 : Int))) = true then (if (decide (Prod.fst a ≤ (20000 : Int))) = true then (if (decide (Prod.snd a ≥ (0 : Int))) = true then decide (Prod.snd a ≤ (5000 : Int)) else false) else false) else false)
theorem eq_r_placed (a : Int × Int) : (callT1 P BKN96 30 152 D_rpl dB) a = some (K.r_placed a) := (fn_r_placed a).trans (T.br_some (T.br_some (T.br_some rfl rfl) rfl) rfl)
noncomputable def BKN97 : Tab := BKN96.addCall 152 (callE D_rpl dB (fun a => .ret (K.r_placed a)))
theorem tKN97 : TabOk P BKN97 := TabOk.addFn (d := 30) okP tKN96 (fun a r h => by rw [eq_r_placed]; exact congrArg some (ret_some h))
end Go.Proofs.YtjbhooodjmjdkaaGreat
/-! KN10 -/
namespace Go.Proofs.YtjbhooodjmjdkaaGreat
open Ev K
set_option maxRecDepth 100000
def D_rin := DecL.cons (dI .i64) (.cons (dI .i64) (.last (dI .i64) 0))
theorem fn_r_in : ∀ a, (callT1 P BKN97 30 114 D_rin dB) a = T.run (
  .br (decide (Prod.fst a ≥ Prod.fst (Prod.snd a))) (
    .ret (decide (Prod.fst a ≤ Prod.snd (Prod.snd a)))) (
    .ret (false))) := fun a => by kernel_rfl
noncomputable def K.r_in (a : Int × Int × Int) : Bool := (if (decide (Prod.fst a ≥ Prod.fst (Prod.snd a))) = true then decide (Prod.fst a ≤ Prod.snd (Prod.snd a)) else false)
theorem eq_r_in (a : Int × Int × Int) : (callT1 P BKN97 30 114 D_rin dB) a = some (K.r_in a) := (fn_r_in a).trans (T.br_some rfl rfl)
noncomputable def BKN101 : Tab := BKN97.addCall 114 (callE D_rin dB (fun a => .ret (K.r_in a)))
theorem tKN101 : TabOk P BKN101 := TabOk.addFn (d := 30) okP tKN97 (fun a r h => by rw [eq_r_in]; exact congrArg some (ret_some h))
theorem K.orr_ite2 {ε α : Type} (f : ε → α) (z : α) (c : Prop) [Decidable c] (x : ε) (y : Option ε) : K.orr f z (if c then some x else y) = if c then f x else K.orr f z y := by split <;> rfl
def S_r3a := DecS.mk0 (.skip (.unit (dLp 0 0 0 0) (.skips 2 (.cons (dI .i64) (.unit (dLp 1 0 0 0) (.last (dI .i64) 140)))))) (.flat 27 lShip (.flat 95 lHold .nil))
def X_r3a := DecX.or (DecX.one .ret [2] (DecS.mk1 (.skips 2 (.last (dI .i64) 144)))) (DecX.one (.exit 2) [6, 5, 1, 4] S_r3a)
noncomputable def K.st_r3a := loopT1 P BKN101 30 103 113 [6, 5, 1, 4] S_r3a X_r3a
theorem sl_r3a : ∀ s, (K.st_r3a) s = T.run (
  .br (decide (Prod.snd (Prod.fst s) < Prod.fst (Prod.fst s))) (
    .chk (decide ((0 : Int) ≤ Prod.snd (Prod.fst s) ∧ Prod.snd (Prod.fst s) < (↑(XS.len (Ship.holds (Prod.fst (Prod.snd s)))) : Int))) <|
    .br (XS.g (Ship.holds (Prod.fst (Prod.snd s))) (Int.toNat (Prod.snd (Prod.fst s))) (0 : Nat) == Hold.id (Prod.fst (Prod.snd (Prod.snd s)))) (
      .ret (Sum.inr (Sum.inl (6 : Int)))) (
      .ret (Sum.inl ((Prod.fst (Prod.fst s), IntKind.wrap IntKind.i64 (Prod.snd (Prod.fst s) + (1 : Int))), Prod.fst (Prod.snd s), Prod.fst (Prod.snd (Prod.snd s)), PUnit.unit)))) (
    .ret (Sum.inr (Sum.inr (Prod.fst s, Prod.fst (Prod.snd s), Prod.fst (Prod.snd (Prod.snd s)), PUnit.unit))))) := fun s => by kernel_rfl
noncomputable def K.L_r3a := lim K.st_r3a
def K.p_r3a (s : Ship) (h : Hold) (k : Nat) : Bool := (hld s.holds k).id == h.id
theorem K.L_r3a_eq (s : Ship) (h : Hold) (n : Nat) (hn : n ≤ len s.holds) : K.L_r3a (((n : Int), 0), s, h, ()) = some (match first (p_r3a s h) n with | some _ => Sum.inl 6 | none => Sum.inr (((n : Int), (n : Int)), s, h, ())) := by
  have e1 := K.len_le s.holds; have e2 := K.len_le' s.holds
  refine lim_find (fun k => (((n : Int), (k : Int)), s, h, ())) n (p_r3a s h) (fun _ => Sum.inl 6) (Sum.inr (((n : Int), (n : Int)), s, h, ())) (fun i hi hp => ?_) (fun i hi hp => ?_) ?_
  · rw [sl_r3a]; unfold p_r3a at hp
    have c1 : (0 : Int) ≤ i ∧ (i : Int) < s.holds.len := by omega
    simp only [T.run_br, T.run_chk, T.run_ret, decide_eq_true_eq, Int.toNat_natCast, if_pos c1]
    rw [if_pos (by omega), if_pos (show (s.holds.g i 0 == h.id) = true from hp)]
  · rw [sl_r3a]; unfold p_r3a at hp
    have c1 : (0 : Int) ≤ i ∧ (i : Int) < s.holds.len := by omega
    simp only [T.run_br, T.run_chk, T.run_ret, decide_eq_true_eq, Int.toNat_natCast, if_pos c1]
    rw [if_pos (by omega), if_neg (show ¬ (s.holds.g i 0 == h.id) = true by rw [show (s.holds.g i 0 == h.id) = false from hp]; decide)]
    rw [w64_in (by omega) (by omega)]; simp
  · rw [sl_r3a]
    simp only [T.run_br, T.run_chk, T.run_ret, decide_eq_true_eq]
    rw [if_neg (by omega)]
noncomputable def BKN102 : Tab := BKN101.addNode 103 113 (nodeE [6, 5, 1, 4] S_r3a X_r3a (fun s => .obs (K.L_r3a s) .ret))
theorem tKN102 : TabOk P BKN102 := TabOk.addLoop (d := 30) okP tKN101 (by kernel_rfl) (by kernel_rfl) (fun s r h => obs_ret h)
def S_r3b := DecS.mk0 (.skip (.unit (dLp 0 0 0 0) (.skips 2 (.last (dI .i64) 142)))) (.flat 27 lShip .nil)
def X_r3b := DecX.or (DecX.one .ret [2] (DecS.mk1 (.skips 2 (.last (dI .i64) 144)))) (DecX.one (.exit 0) [1, 4] S_r3b)
noncomputable def K.st_r3b := loopT1 P BKN102 30 103 57 [1, 4] S_r3b X_r3b
theorem sl_r3b : ∀ s, (K.st_r3b) s = T.run (
  .br (decide (Prod.fst s < (↑(len (Ship.holds (Prod.fst (Prod.snd s)))) : Int))) (
    .chk (decide ((0 : Int) ≤ Prod.fst s ∧ Prod.fst s < (↑(XS.len (Ship.holds (Prod.fst (Prod.snd s)))) : Int))) <|
    .br (!r_in (XS.g (Ship.holds (Prod.fst (Prod.snd s))) (Int.toNat (Prod.fst s)) (0 : Nat), (1 : Int), (1099511627776 : Int))) (
      .ret (Sum.inr (Sum.inl (1 : Int)))) (
      .br (!r_in (XS.g (Ship.holds (Prod.fst (Prod.snd s))) (Int.toNat (Prod.fst s)) (1 : Nat), (0 : Int), (65536 : Int))) (
        .ret (Sum.inr (Sum.inl (1 : Int)))) (
        .br (!r_placed (XS.g (Ship.holds (Prod.fst (Prod.snd s))) (Int.toNat (Prod.fst s)) (2 : Nat), XS.g (Ship.holds (Prod.fst (Prod.snd s))) (Int.toNat (Prod.fst s)) (3 : Nat))) (
          .ret (Sum.inr (Sum.inl (1 : Int)))) (
          .obs (L_r3a ((Prod.fst s, (0 : Int)), Prod.fst (Prod.snd s), hld (Ship.holds (Prod.fst (Prod.snd s))) (Int.toNat (Prod.fst s)), PUnit.unit)) fun x0 =>
            .sum (x0) (fun x1 =>
              .ret (Sum.inr (Sum.inl x1))) (fun x1 =>
              .ret (Sum.inl (IntKind.wrap IntKind.i64 (Prod.fst (Prod.fst x1) + (1 : Int)), Prod.fst (Prod.snd x1), PUnit.unit))))))) (
    .ret (Sum.inr (Sum.inr (Prod.fst s, Prod.fst (Prod.snd s), PUnit.unit))))) := fun s => by kernel_rfl
noncomputable def K.L_r3b := lim K.st_r3b
noncomputable def K.e_r3b (s : Ship) (i : Nat) : Option Int := if (!r_in ((hld s.holds i).id, 1, 1099511627776)) = true then some 1 else if (!r_in ((hld s.holds i).room, 0, 65536)) = true then some 1 else if (!r_placed ((hld s.holds i).lever, (hld s.holds i).height)) = true then some 1 else
  if (first (p_r3a s (hld s.holds i)) i).isSome = true then some 6 else none
theorem K.L_r3b_eq (s : Ship) : K.L_r3b (0, s, ()) = some (K.orr Sum.inl (.inr ((len s.holds : Int), s, ())) ((List.range (len s.holds)).findSome? (e_r3b s))) := by
  have e1 := K.len_le s.holds; have e2 := K.len_le' s.holds
  refine lim_err (fun i => ((i : Int), s, ())) (len s.holds) (e_r3b s) Sum.inl (Sum.inr ((len s.holds : Int), s, ())) (fun i hi => ?_) ?_
  · rw [sl_r3b]
    unfold e_r3b; simp only [orr_ite2]
    rw [T.run_br, if_pos (by simp only [decide_eq_true_eq]; omega)]
    refine chk_step (by simp only [decide_eq_true_eq]; omega) ?_
    refine br_step (fun _ => rfl) (fun _ => ?_)
    refine br_step (fun _ => rfl) (fun _ => ?_)
    refine br_step (fun _ => rfl) (fun _ => ?_)
    show T.run (.obs (L_r3a (((i : Int), 0), s, hld s.holds i, ())) _) = _
    rw [L_r3a_eq s (hld s.holds i) i (by omega)]
    cases first (p_r3a s (hld s.holds i)) i with
    | some k => rfl
    | none =>
      simp only [T.run_some, T.run_inr, T.run_ret]
      rw [w64_in (n := (i : Int) + 1) (by omega) (by omega)]; rfl
  · rw [sl_r3b]
    simp only [T.run_br, T.run_chk, T.run_ret, decide_eq_true_eq]
    rw [if_neg (by omega)]
noncomputable def BKN103 : Tab := BKN102.addNode 103 57 (nodeE [1, 4] S_r3b X_r3b (fun s => .obs (K.L_r3b s) .ret))
theorem tKN103 : TabOk P BKN103 := TabOk.addLoop (d := 30) okP tKN102 (by kernel_rfl) (by kernel_rfl) (fun s r h => obs_ret h)
def S_r3c := DecS.mk0 (.skip (.unit (dLp 0 0 0 0) (.skips 6 (.last (dI .i64) 138)))) (.flat 27 lShip .nil)
def X_r3c := DecX.or (DecX.one .ret [2] (DecS.mk1 (.skips 2 (.last (dI .i64) 144)))) (DecX.one (.exit 4) [8, 1] S_r3c)
noncomputable def K.st_r3c := loopT1 P BKN103 30 103 217 [8, 1] S_r3c X_r3c
theorem sl_r3c : ∀ s, (K.st_r3c) s = T.run (
  .br (decide (Prod.fst s < (↑(len (Curve.knots (Ship.mean (Prod.fst (Prod.snd s))))) : Int))) (
    .chk (decide ((0 : Int) ≤ Prod.fst s ∧ Prod.fst s < (↑(XS.len (Curve.knots (Ship.mean (Prod.fst (Prod.snd s))))) : Int))) <|
    .chk (decide ((0 : Int) ≤ IntKind.wrap IntKind.i64 (Prod.fst s - (1 : Int)) ∧ IntKind.wrap IntKind.i64 (Prod.fst s - (1 : Int)) < (↑(XS.len (Curve.knots (Ship.mean (Prod.fst (Prod.snd s))))) : Int))) <|
    .br (decide (XS.g (Curve.knots (Ship.mean (Prod.fst (Prod.snd s)))) (Int.toNat (Prod.fst s)) (1 : Nat) ≤ XS.g (Curve.knots (Ship.mean (Prod.fst (Prod.snd s)))) (Int.toNat (IntKind.wrap IntKind.i64 (Prod.fst s - (1 : Int)))) (1 : Nat))) (
      .ret (Sum.inr (Sum.inl (1 : Int)))) (
      .ret (Sum.inl (IntKind.wrap IntKind.i64 (Prod.fst s + (1 : Int)), Prod.fst (Prod.snd s), PUnit.unit)))) (
    .ret (Sum.inr (Sum.inr (Prod.fst s, Prod.fst (Prod.snd s), PUnit.unit))))) := fun s => by kernel_rfl
noncomputable def K.L_r3c := lim K.st_r3c
def K.e_r3c (c : Curve) (i : Nat) : Option Int := if (knt c.knots (i + 1)).y ≤ (knt c.knots i).y then some 1 else none
theorem K.L_r3c_eq (s : Ship) (h : 0 < len s.mean.knots) : K.L_r3c (1, s, ()) = some (K.orr Sum.inl (.inr ((len s.mean.knots : Int), s, ())) ((List.range (len s.mean.knots - 1)).findSome? (e_r3c s.mean))) := by
  have e1 := K.len_le s.mean.knots; have e2 := K.len_le' s.mean.knots
  refine lim_err (fun i => (((i + 1 : Nat) : Int), s, ())) (len s.mean.knots - 1) (e_r3c s.mean) Sum.inl (Sum.inr ((len s.mean.knots : Int), s, ())) (fun i hi => ?_) ?_
  · rw [sl_r3c]
    unfold e_r3c; simp only [orr_ite2]
    have e3 : IntKind.wrap IntKind.i64 (((i + 1 : Nat) : Int) - 1) = (i : Int) := by rw [w64_in (by omega) (by omega)]; omega
    simp only [e3, Int.toNat_natCast]
    rw [T.run_br, if_pos (by simp only [decide_eq_true_eq]; omega)]
    refine chk_step (by simp only [decide_eq_true_eq]; omega) (chk_step (by simp only [decide_eq_true_eq]; omega) ?_)
    rw [w64_in (n := ((i + 1 : Nat) : Int) + 1) (by omega) (by omega)]
    simp only [T.run_br, T.run_ret, decide_eq_true_eq]
    by_cases hc : (knt s.mean.knots (i + 1)).y ≤ (knt s.mean.knots i).y
    · rw [if_pos hc]; exact if_pos hc
    · rw [if_neg hc]; exact if_neg hc
  · rw [sl_r3c]
    simp only [T.run_br, T.run_chk, T.run_ret, decide_eq_true_eq]
    rw [if_neg (by omega), show ((len s.mean.knots - 1 + 1 : Nat) : Int) = (len s.mean.knots : Int) by omega]
noncomputable def BKN104 : Tab := BKN103.addNode 103 217 (nodeE [8, 1] S_r3c X_r3c (fun s => .obs (K.L_r3c s) .ret))
theorem tKN104 : TabOk P BKN104 := TabOk.addLoop (d := 30) okP tKN103 (by kernel_rfl) (by kernel_rfl) (fun s r h => obs_ret h)
theorem fn_r3 : ∀ a, (callT1 P BKN104 30 103 D_ship (dI .i64)) a = T.run (
  .br (!r_in (Ship.id a, (1 : Int), (1099511627776 : Int))) (
    .ret ((1 : Int))) (
    .br (!r_in (Ship.light a, (1 : Int), (65536 : Int))) (
      .ret ((1 : Int))) (
      .br (!r_placed (Ship.lever a, Ship.height a)) (
        .ret ((1 : Int))) (
        .br (!r_in (Ship.turn a, (1 : Int), (1048576 : Int))) (
          .ret ((1 : Int))) (
          .br (!r_in (Ship.least a, (0 : Int), (5000 : Int))) (
            .ret ((1 : Int))) (
            .br (decide ((↑(len (Ship.holds a)) : Int) > (8 : Int))) (
              .ret ((2 : Int))) (
              .obs (L_r3b ((0 : Int), a, PUnit.unit)) fun x0 =>
                .sum (x0) (fun x1 =>
                  .ret (x1)) (fun x1 =>
                  .br (decide (IntKind.wrap IntKind.i64 (Ship.light (Prod.fst (Prod.snd x1)) + r_rooms (Prod.fst (Prod.snd x1))) > (65536 : Int))) (
                    .ret ((1 : Int))) (
                    .br (r_curve (Ship.mean (Prod.fst (Prod.snd x1))) != (0 : Int)) (
                      .ret (r_curve (Ship.mean (Prod.fst (Prod.snd x1))))) (
                      .br (r_curve (Ship.mc (Prod.fst (Prod.snd x1))) != (0 : Int)) (
                        .ret (r_curve (Ship.mc (Prod.fst (Prod.snd x1))))) (
                        .obs (L_r3c ((1 : Int), Prod.fst (Prod.snd x1), PUnit.unit)) fun x2 =>
                          .sum (x2) (fun x3 =>
                            .ret (x3)) (fun x3 =>
                            .chk (decide ((0 : Nat) < len (Curve.knots (Ship.mean (Prod.fst (Prod.snd x3)))))) <|
                            .chk (decide ((0 : Nat) < len (Curve.knots (Ship.mc (Prod.fst (Prod.snd x3)))))) <|
                            .br (!r_known (Prod.fst (Prod.snd x3)) (Ship.mean (Prod.fst (Prod.snd x3)))) (
                              .ret ((1 : Int))) (
                              .br (!r_known (Prod.fst (Prod.snd x3)) (Ship.mc (Prod.fst (Prod.snd x3)))) (
                                .ret ((1 : Int))) (
                                .ret ((0 : Int)))))))))))))))) := fun a => by kernel_rfl
theorem K.r_curve_pos {c : Curve} (h : ¬ (r_curve c != 0) = true) : 0 < len c.knots := by
  rcases Nat.eq_zero_or_pos (len c.knots) with h0 | h0
  · exfalso; apply h; unfold r_curve; rw [h0, if_neg (by decide), if_pos (by decide)]; decide
  · exact h0
noncomputable def K.r_ship (s : Ship) : Int :=
  if (!r_in (s.id, 1, 1099511627776)) = true then 1 else if (!r_in (s.light, 1, 65536)) = true then 1 else if (!r_placed (s.lever, s.height)) = true then 1 else if (!r_in (s.turn, 1, 1048576)) = true then 1 else
  if (!r_in (s.least, 0, 5000)) = true then 1 else if decide ((len s.holds : Int) > 8) = true then 2 else
  K.orr id (if decide (IntKind.i64.wrap (s.light + r_rooms s) > 65536) = true then 1 else if (r_curve s.mean != 0) = true then r_curve s.mean else if (r_curve s.mc != 0) = true then r_curve s.mc else
    K.orr id (if (!r_known s s.mean) = true then 1 else if (!r_known s s.mc) = true then 1 else 0) ((List.range (len s.mean.knots - 1)).findSome? (e_r3c s.mean))) ((List.range (len s.holds)).findSome? (e_r3b s))
theorem K.r_ship_eq (s : Ship) : callT1 P BKN104 30 103 D_ship (dI .i64) s = some (r_ship s) := by
  rw [fn_r3]; unfold r_ship
  refine br_step (fun _ => rfl) (fun _ => ?_)
  refine br_step (fun _ => rfl) (fun _ => ?_)
  refine br_step (fun _ => rfl) (fun _ => ?_)
  refine br_step (fun _ => rfl) (fun _ => ?_)
  refine br_step (fun _ => rfl) (fun _ => ?_)
  refine br_step (fun _ => rfl) (fun _ => ?_)
  rw [L_r3b_eq]
  cases (List.range (len s.holds)).findSome? (e_r3b s) with
  | some e => rfl
  | none =>
    show T.run (.br (decide (IntKind.i64.wrap (s.light + r_rooms s) > 65536)) _ _) = some (if _ then _ else _)
    refine br_step (fun _ => rfl) (fun _ => ?_)
    refine br_step (fun _ => rfl) (fun k1 => ?_)
    refine br_step (fun _ => rfl) (fun k2 => ?_)
    have p1 := r_curve_pos k1; have p2 := r_curve_pos k2
    show T.run (.obs (L_r3c (1, s, ())) _) = _
    rw [L_r3c_eq s p1]
    cases (List.range (len s.mean.knots - 1)).findSome? (e_r3c s.mean) with
    | some e => rfl
    | none =>
      show T.run (.chk (decide (0 < len s.mean.knots)) _) = some (if _ then _ else _)
      refine chk_step (by simpa using p1) (chk_step (by simpa using p2) ?_)
      refine br_step (fun _ => rfl) (fun _ => ?_)
      exact br_step (fun _ => rfl) (fun _ => rfl)
noncomputable def BKN105 : Tab := BKN104.addCall 103 (callE D_ship (dI .i64) (fun a => .ret (r_ship a)))
theorem tKN105 : TabOk P BKN105 := TabOk.addFn (d := 30) okP tKN104 (fun a r h => by rw [r_ship_eq]; exact congrArg some (ret_some h))
end Go.Proofs.YtjbhooodjmjdkaaGreat
/-! KN11 -/
namespace Go.Proofs.YtjbhooodjmjdkaaGreat
open Ev K
set_option maxRecDepth 100000
def D_rrdy := DecL.cons (dShip) (.cons (dBulbs) (.last (dSurvey) 0))
def D_rvol := DecL.cons (dShip) (.last (dSurvey) 0)
def R_rvol := dTup (.cons dRange (.last dB 0))
theorem fn_rvol : ∀ a, (callT1 P BKN105 30 195 D_rvol R_rvol) a = T.run (
  .chk (sixOk (Prod.snd a)) <|
  .chk (decide ((0 : Int) ≤ (0 : Int) ∧ (0 : Int) < (↑(XS.len (Curve.knots (Ship.mean (Prod.fst a)))) : Int))) <|
  .chk (decide ((0 : Int) ≤ IntKind.wrap IntKind.i64 ((↑(len (Curve.knots (Ship.mean (Prod.fst a)))) : Int) - (1 : Int)) ∧ IntKind.wrap IntKind.i64 ((↑(len (Curve.knots (Ship.mean (Prod.fst a)))) : Int) - (1 : Int)) < (↑(XS.len (Curve.knots (Ship.mean (Prod.fst a)))) : Int))) <|
  .br (decide ((if IntKind.wrap IntKind.i64 ((16 : Int) * XS.g (Curve.knots (Ship.mean (Prod.fst a))) (nat_lit 0) (1 : Nat)) > IntKind.wrap IntKind.i64 (Span.lo (r_six (Prod.snd a)) - IntKind.wrap IntKind.i64 ((16 : Int) * Curve.err (Ship.mean (Prod.fst a)))) then IntKind.wrap IntKind.i64 ((16 : Int) * XS.g (Curve.knots (Ship.mean (Prod.fst a))) (nat_lit 0) (1 : Nat)) else IntKind.wrap IntKind.i64 (Span.lo (r_six (Prod.snd a)) - IntKind.wrap IntKind.i64 ((16 : Int) * Curve.err (Ship.mean (Prod.fst a))))) > if IntKind.wrap IntKind.i64 ((16 : Int) * XS.g (Curve.knots (Ship.mean (Prod.fst a))) (Int.toNat (IntKind.wrap IntKind.i64 ((↑(len (Curve.knots (Ship.mean (Prod.fst a)))) : Int) - (1 : Int)))) (1 : Nat)) < IntKind.wrap IntKind.i64 (Span.hi (r_six (Prod.snd a)) + IntKind.wrap IntKind.i64 ((16 : Int) * Curve.err (Ship.mean (Prod.fst a)))) then IntKind.wrap IntKind.i64 ((16 : Int) * XS.g (Curve.knots (Ship.mean (Prod.fst a))) (Int.toNat (IntKind.wrap IntKind.i64 ((↑(len (Curve.knots (Ship.mean (Prod.fst a)))) : Int) - (1 : Int)))) (1 : Nat)) else IntKind.wrap IntKind.i64 (Span.hi (r_six (Prod.snd a)) + IntKind.wrap IntKind.i64 ((16 : Int) * Curve.err (Ship.mean (Prod.fst a)))))) (
    .ret ((Range.mk (Frac.mk (0 : Int) (0 : Int)) (Frac.mk (0 : Int) (0 : Int)), false))) (
    .chk (whOk (Ship.mean (Prod.fst a)) (if IntKind.wrap IntKind.i64 ((16 : Int) * XS.g (Curve.knots (Ship.mean (Prod.fst a))) (nat_lit 0) (1 : Nat)) > IntKind.wrap IntKind.i64 (Span.lo (r_six (Prod.snd a)) - IntKind.wrap IntKind.i64 ((16 : Int) * Curve.err (Ship.mean (Prod.fst a)))) then IntKind.wrap IntKind.i64 ((16 : Int) * XS.g (Curve.knots (Ship.mean (Prod.fst a))) (nat_lit 0) (1 : Nat)) else IntKind.wrap IntKind.i64 (Span.lo (r_six (Prod.snd a)) - IntKind.wrap IntKind.i64 ((16 : Int) * Curve.err (Ship.mean (Prod.fst a)))))) <|
    .chk (whOk (Ship.mean (Prod.fst a)) (if IntKind.wrap IntKind.i64 ((16 : Int) * XS.g (Curve.knots (Ship.mean (Prod.fst a))) (Int.toNat (IntKind.wrap IntKind.i64 ((↑(len (Curve.knots (Ship.mean (Prod.fst a)))) : Int) - (1 : Int)))) (1 : Nat)) < IntKind.wrap IntKind.i64 (Span.hi (r_six (Prod.snd a)) + IntKind.wrap IntKind.i64 ((16 : Int) * Curve.err (Ship.mean (Prod.fst a)))) then IntKind.wrap IntKind.i64 ((16 : Int) * XS.g (Curve.knots (Ship.mean (Prod.fst a))) (Int.toNat (IntKind.wrap IntKind.i64 ((↑(len (Curve.knots (Ship.mean (Prod.fst a)))) : Int) - (1 : Int)))) (1 : Nat)) else IntKind.wrap IntKind.i64 (Span.hi (r_six (Prod.snd a)) + IntKind.wrap IntKind.i64 ((16 : Int) * Curve.err (Ship.mean (Prod.fst a)))))) <|
    .ret ((Range.mk (r_where (Ship.mean (Prod.fst a)) (if IntKind.wrap IntKind.i64 ((16 : Int) * XS.g (Curve.knots (Ship.mean (Prod.fst a))) (nat_lit 0) (1 : Nat)) > IntKind.wrap IntKind.i64 (Span.lo (r_six (Prod.snd a)) - IntKind.wrap IntKind.i64 ((16 : Int) * Curve.err (Ship.mean (Prod.fst a)))) then IntKind.wrap IntKind.i64 ((16 : Int) * XS.g (Curve.knots (Ship.mean (Prod.fst a))) (nat_lit 0) (1 : Nat)) else IntKind.wrap IntKind.i64 (Span.lo (r_six (Prod.snd a)) - IntKind.wrap IntKind.i64 ((16 : Int) * Curve.err (Ship.mean (Prod.fst a)))))) (r_where (Ship.mean (Prod.fst a)) (if IntKind.wrap IntKind.i64 ((16 : Int) * XS.g (Curve.knots (Ship.mean (Prod.fst a))) (Int.toNat (IntKind.wrap IntKind.i64 ((↑(len (Curve.knots (Ship.mean (Prod.fst a)))) : Int) - (1 : Int)))) (1 : Nat)) < IntKind.wrap IntKind.i64 (Span.hi (r_six (Prod.snd a)) + IntKind.wrap IntKind.i64 ((16 : Int) * Curve.err (Ship.mean (Prod.fst a)))) then IntKind.wrap IntKind.i64 ((16 : Int) * XS.g (Curve.knots (Ship.mean (Prod.fst a))) (Int.toNat (IntKind.wrap IntKind.i64 ((↑(len (Curve.knots (Ship.mean (Prod.fst a)))) : Int) - (1 : Int)))) (1 : Nat)) else IntKind.wrap IntKind.i64 (Span.hi (r_six (Prod.snd a)) + IntKind.wrap IntKind.i64 ((16 : Int) * Curve.err (Ship.mean (Prod.fst a)))))), true)))) := fun a => by kernel_rfl
noncomputable def K.r_y (s : Ship) (x : Survey) : Span :=
  ⟨if IntKind.i64.wrap (16 * (knt s.mean.knots 0).y) > IntKind.i64.wrap ((r_six x).lo - IntKind.i64.wrap (16 * s.mean.err)) then IntKind.i64.wrap (16 * (knt s.mean.knots 0).y) else IntKind.i64.wrap ((r_six x).lo - IntKind.i64.wrap (16 * s.mean.err)),
   if IntKind.i64.wrap (16 * (knt s.mean.knots (len s.mean.knots - 1)).y) < IntKind.i64.wrap ((r_six x).hi + IntKind.i64.wrap (16 * s.mean.err)) then IntKind.i64.wrap (16 * (knt s.mean.knots (len s.mean.knots - 1)).y) else IntKind.i64.wrap ((r_six x).hi + IntKind.i64.wrap (16 * s.mean.err))⟩
noncomputable def K.r_volOk (s : Ship) (x : Survey) : Bool := sixOk x && (decide (0 < len s.mean.knots) && (decide ((r_y s x).lo > (r_y s x).hi) || (whOk s.mean (r_y s x).lo && whOk s.mean (r_y s x).hi)))
noncomputable def K.r_volumes (s : Ship) (x : Survey) : Range × Bool := if decide ((r_y s x).lo > (r_y s x).hi) = true then (⟨⟨0, 0⟩, ⟨0, 0⟩⟩, false) else (⟨r_where s.mean (r_y s x).lo, r_where s.mean (r_y s x).hi⟩, true)
theorem K.r_volumes_eq (a : Ship × Survey) (h : r_volOk a.1 a.2 = true) : callT1 P BKN105 30 195 D_rvol R_rvol a = some (r_volumes a.1 a.2) := by
  obtain ⟨s, x⟩ := a
  unfold r_volOk at h
  rw [Bool.and_eq_true, Bool.and_eq_true, decide_eq_true_eq, Bool.or_eq_true, Bool.and_eq_true] at h
  obtain ⟨h1, h2, h3⟩ := h
  simp only at h2
  have e1 := K.len_le s.mean.knots; have e2 := K.len_le' s.mean.knots
  rw [fn_rvol, w64_in (n := (len s.mean.knots : Int) - 1) (by omega) (by omega), show ((len s.mean.knots : Int) - 1).toNat = len s.mean.knots - 1 by omega]
  refine chk_step h1 (chk_step (by simp only [decide_eq_true_eq]; omega) (chk_step (by simp only [decide_eq_true_eq]; omega) ?_))
  refine br_step (fun _ => rfl) (fun hn => ?_)
  rcases h3 with h3 | h3
  · exact absurd h3 hn
  · exact chk_step h3.1 (chk_step h3.2 rfl)
noncomputable def BKN111 : Tab := BKN105.addCall 195 (callE D_rvol R_rvol (fun a => .chk (r_volOk a.1 a.2) (.ret (r_volumes a.1 a.2))))
theorem tKN111 : TabOk P BKN111 := TabOk.addFn (d := 30) okP tKN105 (fun a r h => by obtain ⟨g, e⟩ := chk_ret h; subst e; exact K.r_volumes_eq a g)
theorem fn_rmass : ∀ a, (callT1 P BKN111 30 151 D_rrdy dSpan) a = T.run (
  .chk (r_volOk (Prod.fst a) (Prod.snd (Prod.snd a))) <|
  .br (!Prod.snd (r_volumes (Prod.fst a) (Prod.snd (Prod.snd a)))) (
    .ret (Span.mk (1 : Int) (0 : Int))) (
    .chk (!decide (IntKind.wrap IntKind.i64 ((25 : Int) * Frac.den (Range.lo (Prod.fst (r_volumes (Prod.fst a) (Prod.snd (Prod.snd a)))))) = (0 : Int))) <|
    .chk (!decide (IntKind.wrap IntKind.i64 ((25 : Int) * Frac.den (Range.hi (Prod.fst (r_volumes (Prod.fst a) (Prod.snd (Prod.snd a)))))) = (0 : Int))) <|
    .ret (r_both (Span.mk (IntKind.wrap IntKind.i64 (Int.tdiv (IntKind.wrap IntKind.i64 (IntKind.wrap IntKind.i64 (IntKind.wrap IntKind.i64 (Span.lo (r_density (Prod.snd a)) * Frac.num (Range.lo (Prod.fst (r_volumes (Prod.fst a) (Prod.snd (Prod.snd a)))))) + IntKind.wrap IntKind.i64 ((25 : Int) * Frac.den (Range.lo (Prod.fst (r_volumes (Prod.fst a) (Prod.snd (Prod.snd a))))))) - (1 : Int))) (IntKind.wrap IntKind.i64 ((25 : Int) * Frac.den (Range.lo (Prod.fst (r_volumes (Prod.fst a) (Prod.snd (Prod.snd a))))))))) (IntKind.wrap IntKind.i64 (Int.tdiv (IntKind.wrap IntKind.i64 (Span.hi (r_density (Prod.snd a)) * Frac.num (Range.hi (Prod.fst (r_volumes (Prod.fst a) (Prod.snd (Prod.snd a))))))) (IntKind.wrap IntKind.i64 ((25 : Int) * Frac.den (Range.hi (Prod.fst (r_volumes (Prod.fst a) (Prod.snd (Prod.snd a))))))))), Span.mk (Ship.light (Prod.fst a)) (r_full (Prod.fst a)))))) := fun a => by kernel_rfl
noncomputable def K.r_massOk (s : Ship) (x : Survey) : Bool := r_volOk s x && (!(r_volumes s x).2 || (!decide (IntKind.i64.wrap (25 * (r_volumes s x).1.lo.den) = 0) && !decide (IntKind.i64.wrap (25 * (r_volumes s x).1.hi.den) = 0)))
noncomputable def K.r_mass (s : Ship) (b : Bulbs) (x : Survey) : Span := if (!(r_volumes s x).2) = true then ⟨1, 0⟩ else
  r_both (⟨IntKind.i64.wrap (Int.tdiv (IntKind.i64.wrap (IntKind.i64.wrap (IntKind.i64.wrap ((r_density (b, x)).lo * (r_volumes s x).1.lo.num) + IntKind.i64.wrap (25 * (r_volumes s x).1.lo.den)) - 1)) (IntKind.i64.wrap (25 * (r_volumes s x).1.lo.den))),
    IntKind.i64.wrap (Int.tdiv (IntKind.i64.wrap ((r_density (b, x)).hi * (r_volumes s x).1.hi.num)) (IntKind.i64.wrap (25 * (r_volumes s x).1.hi.den)))⟩, ⟨s.light, r_full s⟩)
theorem K.r_mass_eq (a : Ship × Bulbs × Survey) (h : r_massOk a.1 a.2.2 = true) : callT1 P BKN111 30 151 D_rrdy dSpan a = some (r_mass a.1 a.2.1 a.2.2) := by
  unfold r_massOk at h
  rw [Bool.and_eq_true] at h
  rw [fn_rmass]
  refine chk_step h.1 (br_step (fun _ => rfl) (fun hn => ?_))
  have h2 := h.2
  rw [Bool.or_eq_true] at h2
  rcases h2 with h2 | h2
  · exact absurd h2 hn
  · rw [Bool.and_eq_true] at h2
    exact chk_step h2.1 (chk_step h2.2 rfl)
noncomputable def BKN112 : Tab := BKN111.addCall 151 (callE D_rrdy dSpan (fun a => .chk (r_massOk a.1 a.2.2) (.ret (r_mass a.1 a.2.1 a.2.2))))
theorem tKN112 : TabOk P BKN112 := TabOk.addFn (d := 30) okP tKN111 (fun a r h => by obtain ⟨g, e⟩ := chk_ret h; subst e; exact K.r_mass_eq a g)
end Go.Proofs.YtjbhooodjmjdkaaGreat
/-! KP -/
namespace Go.Proofs.YtjbhooodjmjdkaaGreat
open Ev K
set_option maxRecDepth 100000
namespace K
theorem ite_ok {c : Bool} {t u : Int} (hu : u ≠ 0) (h : (if c = true then t else u) = 0) : c = true ∧ t = 0 := by
  cases c with
  | true => exact ⟨rfl, h⟩
  | false => simp at h; exact absurd h hu
theorem ite_no {c : Bool} {t u : Int} (hu : u ≠ 0) (h : (if c = true then u else t) = 0) : c = false ∧ t = 0 := by
  cases c with
  | true => simp at h; exact absurd h hu
  | false => exact ⟨rfl, by simpa using h⟩
theorem ite_err {e t : Int} (h : (if (e != 0) = true then e else t) = 0) : e = 0 ∧ t = 0 := by
  by_cases h0 : e = 0
  · subst h0; simpa using h
  · simp [h0] at h
theorem within_iff {n lo hi : Int} : within n lo hi = true ↔ lo ≤ n ∧ n ≤ hi := by unfold within; simp
theorem spans_iff {s : Span} {lo hi : Int} : spans s lo hi = true ↔ lo ≤ s.lo ∧ s.lo ≤ s.hi ∧ s.hi ≤ hi := by unfold spans; simp
theorem void_false {s : Span} : void s = false ↔ s.lo ≤ s.hi := by unfold void; simp
theorem void_true {s : Span} : void s = true ↔ s.hi < s.lo := by unfold void; simp
structure MarkOk (s : Span) : Prop where
  lo : 0 ≤ s.lo
  le : s.lo ≤ s.hi
  hi : s.hi ≤ 65536
  w : s.hi - s.lo < 400
structure Good (x : Survey) : Prop where
  id : 1 ≤ x.id ∧ x.id ≤ 1099511627776
  tick : 0 ≤ x.tick ∧ x.tick ≤ 1048576
  sag : 0 ≤ x.sag ∧ x.sag ≤ 200
  shown : 0 ≤ x.shown.lo ∧ x.shown.lo ≤ x.shown.hi ∧ x.shown.hi ≤ 2000
  m0 : MarkOk x.m0
  m1 : MarkOk x.m1
  m2 : MarkOk x.m2
  m3 : MarkOk x.m3
  m4 : MarkOk x.m4
  m5 : MarkOk x.m5
theorem mark_ok {s : Span} (h1 : spans s 0 65536 = true) (h2 : IntKind.wrap IntKind.i64 (s.hi - s.lo) < 400) : MarkOk s := by
  obtain ⟨a, b, c⟩ := spans_iff.1 h1
  rw [w64_in (by omega) (by omega)] at h2
  exact ⟨a, b, c, h2⟩
theorem check_ok {b : Bulbs} {x : Survey} (h : check (b, x) = 0) : Good x ∧ (density (b, x)).2 = 0 ∧ (extremes x).2 = true := by
  unfold check at h
  obtain ⟨h1, h⟩ := ite_ok (by decide) h
  obtain ⟨h2, h⟩ := ite_ok (by decide) h
  obtain ⟨h3, h⟩ := ite_ok (by decide) h
  obtain ⟨h4, h⟩ := ite_ok (by decide) h
  obtain ⟨a0, h⟩ := ite_ok (by decide) h
  obtain ⟨b0, h⟩ := ite_ok (by decide) h
  obtain ⟨a1, h⟩ := ite_ok (by decide) h
  obtain ⟨b1, h⟩ := ite_ok (by decide) h
  obtain ⟨a2, h⟩ := ite_ok (by decide) h
  obtain ⟨b2, h⟩ := ite_ok (by decide) h
  obtain ⟨a3, h⟩ := ite_ok (by decide) h
  obtain ⟨b3, h⟩ := ite_ok (by decide) h
  obtain ⟨a4, h⟩ := ite_ok (by decide) h
  obtain ⟨b4, h⟩ := ite_ok (by decide) h
  obtain ⟨a5, h⟩ := ite_ok (by decide) h
  obtain ⟨b5, h⟩ := ite_no (by decide) h
  obtain ⟨d, h⟩ := ite_err h
  obtain ⟨e, _⟩ := ite_no (by decide) h
  refine ⟨⟨within_iff.1 h1, within_iff.1 h2, within_iff.1 h3, spans_iff.1 h4, mark_ok a0 (by simpa using b0), mark_ok a1 (by simpa using b1), mark_ok a2 (by simpa using b2), mark_ok a3 (by simpa using b3), mark_ok a4 (by simpa using b4), mark_ok a5 (by simpa using b5)⟩, d, by simpa using e⟩
theorem Check_ok {b : Bulbs} {x : Survey} (h : Check (b, x) = 0) : CheckBulbs b = 0 ∧ Good x ∧ (density (b, x)).2 = 0 ∧ (extremes x).2 = true := by
  unfold Check at h
  obtain ⟨h1, h⟩ := ite_err h
  exact ⟨h1, check_ok h⟩
theorem tmod_two (n : Int) : Int.tmod n 2 = if 0 ≤ n then n % 2 else -((-n) % 2) := by
  split
  · rename_i h; rw [Int.tmod_eq_emod_of_nonneg h]
  · rename_i h
    have : n = -(-n) := by omega
    rw [this, Int.neg_tmod, Int.tmod_eq_emod_of_nonneg (by omega)]
    simp
theorem half_eq {n : Int} (h1 : -4611686018427387904 ≤ n) (h2 : n ≤ 4611686018427387904) : half n = n / 2 := by
  unfold half
  have ht := tmod_two n
  have hb : -1 ≤ Int.tmod n 2 ∧ Int.tmod n 2 ≤ 1 := by rw [ht]; split <;> omega
  rw [w64_in (n := Int.tmod n 2 + 2) (by omega) (by omega)]
  have e1 : Int.tmod (Int.tmod n 2 + 2) 2 = n % 2 := by
    rw [Int.tmod_eq_emod_of_nonneg (by omega), ht]; split <;> omega
  rw [e1, w64_in (n := n - n % 2) (by omega) (by omega)]
  have e2 : n - n % 2 = 2 * (n / 2) := by omega
  rw [e2, Int.mul_comm, Int.mul_tdiv_cancel _ (by decide), w64_in (by omega) (by omega)]
end K
end Go.Proofs.YtjbhooodjmjdkaaGreat
/-! KV1 -/
namespace Go.Proofs.YtjbhooodjmjdkaaGreat
open Ev K
set_option maxRecDepth 100000
namespace K
theorem r_id_is (n : Int) : r_id n = within n 1 1099511627776 := by
  unfold r_id within
  show (if decide ((1 : Int) ≤ n) = true then _ else _) = _
  cases decide ((1 : Int) ≤ n) <;> rfl
theorem r_in_is (n lo hi : Int) : r_in (n, lo, hi) = within n lo hi := by
  unfold r_in within
  show (if decide (lo ≤ n) = true then _ else _) = _
  cases decide (lo ≤ n) <;> rfl
theorem r_span_is (s : Span) (lo hi : Int) : r_span (s, lo, hi) = spans s lo hi := by
  unfold r_span spans
  show (if decide (lo ≤ s.lo) = true then (if _ then _ else _) else _) = _
  cases decide (lo ≤ s.lo) <;> cases decide (s.lo ≤ s.hi) <;> rfl
theorem r_placed_is (a : Int × Int) : r_placed a = placed a := by
  unfold r_placed placed within
  show (if decide ((-20000 : Int) ≤ a.1) = true then (if _ then (if decide ((0 : Int) ≤ a.2) = true then _ else _) else _) else _) = _
  cases decide ((-20000 : Int) ≤ a.1) <;> cases decide (a.1 ≤ 20000) <;> cases decide ((0 : Int) ≤ a.2) <;> rfl
theorem r_none_is (s : Span) : r_none s = void s := rfl
theorem r_both_is (a b : Span) : r_both (a, b) = meet a b := rfl
theorem r_down_is (n : Int) : r_down n = half n := rfl
theorem found_idx {α : Type} (at_ : Nat → α) (z : α) (p : Nat → Bool) (n : Nat) : (found at_ z p n).2 = idx p n := by
  unfold found idx; cases first p n <;> rfl
theorem e_rc1_is (b : Bulbs) (i : Nat) : e_rc1 b i = hydE b.hydros b.hydros i := by
  unfold e_rc1 hydE find_chk1
  rw [found_idx, r_id_is, r_span_is]
  simp only [decide_eq_true_eq]
  rfl
theorem e_rc2_is (b : Bulbs) (i : Nat) : e_rc2 b i = glsE b.glasses b.hydros b.glasses i := by
  unfold e_rc2 glsE find_chk2 find_chk3
  rw [found_idx, found_idx, r_id_is, r_span_is]
  have hd : ∀ (u v : Option Int), (if (gls b.glasses i).dense < 900 then u else if (gls b.glasses i).dense > 1100 then u else v) = if (!within (b.glasses.g i 2) 900 1100) = true then u else v := by
    intro u v
    show (if b.glasses.g i 2 < 900 then u else if b.glasses.g i 2 > 1100 then u else v) = _
    unfold within
    by_cases h1 : b.glasses.g i 2 < 900
    · rw [if_pos h1, decide_eq_false (show ¬ (900 : Int) ≤ b.glasses.g i 2 by omega)]; rfl
    · rw [if_neg h1, decide_eq_true (show (900 : Int) ≤ b.glasses.g i 2 by omega)]
      by_cases h2 : b.glasses.g i 2 > 1100
      · rw [if_pos h2, decide_eq_false (show ¬ b.glasses.g i 2 ≤ 1100 by omega)]; rfl
      · rw [if_neg h2, decide_eq_true (show b.glasses.g i 2 ≤ 1100 by omega)]; rfl
  rw [hd]
  simp only [decide_eq_true_eq]
  rfl
theorem r_bulbs_is (b : Bulbs) : r_bulbs b = CheckBulbs b := by
  unfold r_bulbs CheckBulbs
  rw [show e_rc1 b = hydE b.hydros b.hydros from funext (e_rc1_is b), show e_rc2 b = glsE b.glasses b.hydros b.glasses from funext (e_rc2_is b)]
  simp only [decide_eq_true_eq]
end K
end Go.Proofs.YtjbhooodjmjdkaaGreat
/-! KV2 -/
namespace Go.Proofs.YtjbhooodjmjdkaaGreat
open Ev K
set_option maxRecDepth 100000
namespace K
theorem r_off_is (b : Bulbs) (h : Hydro) (but : Int) : r_off b h but = errs b h but := by
  unfold r_off errs glassesL
  rw [List.foldl_map, List.foldl_filter]
  have e : f_roff b h but = fun (s : Span) (i : Nat) => if ((gls b.glasses i).hydro == h.id) = true then (if ((toldOf (gls b.glasses i)).g.id != but) = true then meet s (toldOf (gls b.glasses i)).errors else s) else s := by
    funext s i
    unfold f_roff
    show (if ((gls b.glasses i).hydro == h.id && (gls b.glasses i).id != but) = true then meet s (toldOf (gls b.glasses i)).errors else s) = if ((gls b.glasses i).hydro == h.id) = true then (if ((gls b.glasses i).id != but) = true then meet s (toldOf (gls b.glasses i)).errors else s) else s
    cases ((gls b.glasses i).hydro == h.id) <;> cases ((gls b.glasses i).id != but) <;> rfl
  rw [e]
theorem hydro_is (b : Bulbs) (n : Int) : hydro (b, n) = match first (p_rhydro b n) (len b.hydros) with | some i => (hyd b.hydros i, true) | none => (⟨0, ⟨0, 0⟩⟩, false) := by
  show ((find_hyd1 n b.hydros).1, decide ((find_hyd1 n b.hydros).2 ≥ 0)) = _
  unfold find_hyd1 found
  show ((match first (p_rhydro b n) (len b.hydros) with | some i => (hyd b.hydros i, (i : Int)) | none => (⟨0, ⟨0, 0⟩⟩, -1)).1, decide ((match first (p_rhydro b n) (len b.hydros) with | some i => (hyd b.hydros i, (i : Int)) | none => (⟨0, ⟨0, 0⟩⟩, -1)).2 ≥ 0)) = _
  cases first (p_rhydro b n) (len b.hydros) with
  | none => rfl
  | some i => simp only; rw [decide_eq_true (show (i : Int) ≥ 0 by omega)]
theorem r_Off_is {b : Bulbs} (hb : CheckBulbs b = 0) (n : Int) : r_Off (b, n) = off (b, n) := by
  unfold r_Off off
  rw [if_neg (by rw [r_bulbs_is, hb]; decide), hydro_is]
  unfold i_rhydro
  simp only
  cases first (p_rhydro b n) (len b.hydros) with
  | none => rfl
  | some i =>
    simp only
    rw [if_neg (show ¬ (i : Int) < 0 by omega), r_off_is, r_none_is]
    rfl
theorem density_is {b : Bulbs} {x : Survey} (hb : CheckBulbs b = 0) (ho : (off (b, x.hydro)).2 = 0) : density (b, x) = if void (r_density (b, x)) = true then (⟨0, 0⟩, 9) else (r_density (b, x), 0) := by
  unfold density r_density
  rw [if_neg (show ¬ ((off ((b, x).1, (b, x).2.hydro)).2 != 0) = true by simp only; rw [ho]; decide), r_Off_is hb]
  rfl
end K
end Go.Proofs.YtjbhooodjmjdkaaGreat
/-! KV3 -/
namespace Go.Proofs.YtjbhooodjmjdkaaGreat
open Ev K
set_option maxRecDepth 100000
namespace K
theorem findSome_prefix {α : Type} (e f : Nat → Option α) : ∀ n, (∀ i, i < n → (∀ j, j < i → e j = none) → e i = f i) → (List.range n).findSome? e = (List.range n).findSome? f := by
  intro n
  induction n with
  | zero => intro _; rfl
  | succ n ih =>
    intro h
    have hi := ih (fun i hi hj => h i (by omega) hj)
    rw [List.range_succ, List.findSome?_append, List.findSome?_append, hi]
    cases hf : (List.range n).findSome? f with
    | some x => rfl
    | none =>
      rw [hf] at hi
      have hn := List.findSome?_eq_none_iff.1 hi
      have := h n (by omega) (fun j hj => hn j (List.mem_range.2 hj))
      simp only [List.findSome?_cons, this]
      cases f n <;> rfl
theorem kntE_some {x : XS} {i : Nat} (h : kntE x i = none) : x.g i 0 ≤ 2000 := by
  unfold kntE at h
  cases hw : within (x.g i 0) (IntKind.i64.wrap (lastX x i + 1)) 2000 with
  | true => exact (within_iff.1 hw).2
  | false => rw [hw] at h; simp at h
theorem kntE_pos {x : XS} : ∀ i, (∀ j, j ≤ i → kntE x j = none) → 0 ≤ x.g i 0 := by
  intro i
  induction i with
  | zero =>
    intro h
    have h0 := h 0 (by omega)
    unfold kntE at h0
    cases hw : within (x.g 0 0) (IntKind.i64.wrap (lastX x 0 + 1)) 2000 with
    | true =>
      have := (within_iff.1 hw).1
      rw [show IntKind.i64.wrap (lastX x 0 + 1) = 0 by rw [show lastX x 0 = -1 from rfl]; decide] at this
      exact this
    | false => rw [hw] at h0; simp at h0
  | succ i ih =>
    intro h
    have hp := ih (fun j hj => h j (by omega))
    have hq := kntE_some (h i (by omega))
    have h0 := h (i + 1) (by omega)
    unfold kntE at h0
    cases hw : within (x.g (i + 1) 0) (IntKind.i64.wrap (lastX x (i + 1) + 1)) 2000 with
    | true =>
      have := (within_iff.1 hw).1
      rw [show lastX x (i + 1) = x.g i 0 from rfl, w64_in (by omega) (by omega)] at this
      omega
    | false => rw [hw] at h0; simp at h0
theorem e_r1c_is (c : Curve) (i : Nat) (h : ∀ j, j < i → kntE c.knots j = none) : kntE c.knots i = e_r1c c i := by
  have q0 : (knt c.knots i).x = c.knots.g i 0 := rfl
  have q1 : (knt c.knots i).y = c.knots.g i 1 := rfl
  have q2 : (knt c.knots (i - 1)).x = c.knots.g (i - 1) 0 := rfl
  have hy : within (c.knots.g i 1) (-65536) 65536 = true ↔ ¬ (c.knots.g i 1 < -65536) ∧ ¬ (c.knots.g i 1 > 65536) := by rw [within_iff]; omega
  have hx : within (c.knots.g i 0) (IntKind.i64.wrap (lastX c.knots i + 1)) 2000 = true ↔ IntKind.i64.wrap (lastX c.knots i + 1) ≤ c.knots.g i 0 ∧ c.knots.g i 0 ≤ 2000 := within_iff
  unfold kntE e_r1c
  rw [q0, q1, q2]
  rcases Nat.eq_zero_or_pos i with h0 | h0
  · subst h0
    have e : IntKind.i64.wrap (lastX c.knots 0 + 1) = 0 := by rw [show lastX c.knots 0 = -1 from rfl]; decide
    rw [e] at hx ⊢
    rw [if_neg (show ¬ (0 < 0 ∧ c.knots.g 0 0 ≤ c.knots.g (0 - 1) 0) by omega)]
    cases hwx : within (c.knots.g 0 0) 0 2000 <;> cases hwy : within (c.knots.g 0 1) (-65536) 65536 <;> rw [hwx] at hx <;> rw [hwy] at hy <;> simp only [Bool.false_eq_true, false_iff, true_iff] at hx hy <;> simp only [Bool.not_false, Bool.not_true, if_true, Bool.false_eq_true, if_false] <;> (repeat' split) <;> first | rfl | omega
  · have hp := kntE_some (h (i - 1) (by omega))
    have hl := kntE_pos (i - 1) (fun j hj => h j (by omega))
    have e : IntKind.i64.wrap (lastX c.knots i + 1) = c.knots.g (i - 1) 0 + 1 := by
      rw [show lastX c.knots i = c.knots.g (i - 1) 0 from by unfold lastX; rw [if_neg (by omega)]]
      exact w64_in (by omega) (by omega)
    rw [e] at hx ⊢
    cases hwx : within (c.knots.g i 0) (c.knots.g (i - 1) 0 + 1) 2000 <;> cases hwy : within (c.knots.g i 1) (-65536) 65536 <;> rw [hwx] at hx <;> rw [hwy] at hy <;> simp only [Bool.false_eq_true, false_iff, true_iff] at hx hy <;> simp only [Bool.not_false, Bool.not_true, if_true, Bool.false_eq_true, if_false] <;> (repeat' split) <;> first | rfl | omega
theorem r_curve_is (c : Curve) : r_curve c = curveCheck c := by
  unfold r_curve curveCheck
  rw [findSome_prefix (kntE c.knots) (e_r1c c) (len c.knots) (fun i _ h => e_r1c_is c i h)]
  simp only [decide_eq_true_eq]
  by_cases h1 : (len c.knots : Int) > 40
  · rw [if_pos h1, if_pos h1]
  rw [if_neg h1, if_neg h1]
  cases ((len c.knots : Int) == 0) with
  | true => rfl
  | false =>
    cases hw : within c.err 0 4000 with
    | true => obtain ⟨a, b⟩ := within_iff.1 hw; rw [if_neg (show ¬ c.err < 0 by omega), if_neg (show ¬ c.err > 4000 by omega)]; rfl
    | false =>
      have : ¬ (0 ≤ c.err ∧ c.err ≤ 4000) := fun h => by rw [within_iff.2 h] at hw; cases hw
      by_cases h2 : c.err < 0
      · rw [if_pos h2]; rfl
      · rw [if_neg h2, if_pos (show c.err > 4000 by omega)]; rfl
end K
end Go.Proofs.YtjbhooodjmjdkaaGreat
/-! KV4 -/
namespace Go.Proofs.YtjbhooodjmjdkaaGreat
open Ev K
set_option maxRecDepth 100000
namespace K
theorem e_r3b_is (s : Ship) (i : Nat) : e_r3b s i = hldE s.holds i := by
  unfold e_r3b hldE
  rw [r_in_is, r_in_is, r_placed_is]
  rfl
def sumI (x : XS) (n : Nat) : Int := (List.range n).foldl (fun a i => a + x.g i 1) 0
theorem sumI_succ (x : XS) (n : Nat) : sumI x (n + 1) = sumI x n + x.g n 1 := by
  unfold sumI; rw [List.range_succ, List.foldl_append]; rfl
theorem fold_rooms (x : XS) (a : Int) (ha : 0 ≤ a ∧ a ≤ 1000000) : ∀ n, n ≤ 100 → (∀ i, i < n → 0 ≤ x.g i 1 ∧ x.g i 1 ≤ 65536) →
    (List.range n).foldl (fun a i => IntKind.i64.wrap (a + x.g i 1)) a = a + sumI x n ∧ 0 ≤ sumI x n ∧ sumI x n ≤ 65536 * (n : Int) := by
  intro n
  induction n with
  | zero => intro _ _; simp [sumI]
  | succ n ih =>
    intro hn h
    obtain ⟨h1, h2, h3⟩ := ih (by omega) (fun i hi => h i (by omega))
    have h4 := h n (by omega)
    rw [sumI_succ, List.range_succ, List.foldl_append, h1]
    refine ⟨?_, by omega, by omega⟩
    simp only [List.foldl_cons, List.foldl_nil]
    rw [w64_in (by omega) (by omega)]; omega
structure CurveOk (c : Curve) : Prop where
  pos : 0 < len c.knots
  le : len c.knots ≤ 40
  err : 0 ≤ c.err ∧ c.err ≤ 4000
  x : ∀ i, i < len c.knots → 0 ≤ c.knots.g i 0 ∧ c.knots.g i 0 ≤ 2000
  y : ∀ i, i < len c.knots → -65536 ≤ c.knots.g i 1 ∧ c.knots.g i 1 ≤ 65536
  inc : ∀ i, i + 1 < len c.knots → c.knots.g i 0 < c.knots.g (i + 1) 0
theorem orr_zero {o : Option Int} (h : K.orr id 0 o = 0) (hne : ∀ x, o = some x → x ≠ 0) : o = none := by
  cases o with
  | none => rfl
  | some x => exact absurd h (hne x rfl)
theorem findSome_ne {e : Nat → Option Int} {n : Nat} (h : ∀ i x, e i = some x → x ≠ 0) : ∀ x, (List.range n).findSome? e = some x → x ≠ 0 := by
  intro x hx
  obtain ⟨i, _, hi⟩ := List.exists_of_findSome?_eq_some hx
  exact h i x hi
theorem none_all {e : Nat → Option Int} {n : Nat} (h : (List.range n).findSome? e = none) : ∀ i, i < n → e i = none := fun i hi => List.findSome?_eq_none_iff.1 h i (List.mem_range.2 hi)
theorem kntE_ne (x : XS) (i : Nat) (e : Int) (h : kntE x i = some e) : e ≠ 0 := by
  unfold kntE at h
  split at h
  · injection h with h; omega
  split at h
  · injection h with h; omega
  · cases h
theorem curve_ok {c : Curve} (h : curveCheck c = 0) : CurveOk c := by
  have hpos : 0 < len c.knots := curve_pos (by rw [h]; decide)
  unfold curveCheck at h
  by_cases h1 : (len c.knots : Int) > 40
  · rw [if_pos h1] at h; cases h
  rw [if_neg h1] at h
  obtain ⟨_, h⟩ := ite_no (by decide) h
  obtain ⟨h2, h⟩ := ite_no (by decide) h
  have hn := none_all (orr_zero h (findSome_ne (kntE_ne c.knots)))
  have hp : ∀ i, i < len c.knots → 0 ≤ c.knots.g i 0 := fun i hi => kntE_pos i (fun j hj => hn j (by omega))
  refine ⟨hpos, by omega, within_iff.1 (by simpa using h2), fun i hi => ⟨hp i hi, kntE_some (hn i hi)⟩, fun i hi => ?_, fun i hi => ?_⟩
  · have := hn i hi
    unfold kntE at this
    cases hw : within (c.knots.g i 1) (-65536) 65536 with
    | true => exact within_iff.1 hw
    | false => rw [hw] at this; simp at this
  · have := hn (i + 1) hi
    have b := kntE_some (hn i (by omega)); have b2 := hp i (by omega)
    unfold kntE at this
    cases hw : within (c.knots.g (i + 1) 0) (IntKind.i64.wrap (lastX c.knots (i + 1) + 1)) 2000 with
    | true =>
      have := (within_iff.1 hw).1
      rw [show lastX c.knots (i + 1) = c.knots.g i 0 from rfl, w64_in (by omega) (by omega)] at this
      omega
    | false => rw [hw] at this; simp at this
theorem upDown_fst (L : List (Int × Piece)) : ∀ u d, (upDown L u d).1 = (u && L.all (fun p => decide (rise p.2 > 0))) := by
  induction L with
  | nil => intro u d; simp [upDown]
  | cons x L ih => intro u d; have := ih (u && decide (rise x.2 > 0)) (d && decide (rise x.2 < 0)); unfold upDown at this ⊢; rw [List.foldl_cons, this, List.all_cons, Bool.and_assoc]
def riseAll (c : Curve) : Prop := ∀ i, i + 1 < len c.knots → c.knots.g i 1 < c.knots.g (i + 1) 1
theorem up_iff {c : Curve} (o : CurveOk c) : (upDown (piecesL c) true true).1 = true ↔ riseAll c := by
  rw [upDown_fst, Bool.true_and, List.all_eq_true]
  have e : ∀ i, i + 1 < len c.knots → rise (⟨knt c.knots i, knt c.knots (i + 1)⟩ : Piece) = c.knots.g (i + 1) 1 - c.knots.g i 1 := by
    intro i hi
    have h1 := o.y i (by omega); have h2 := o.y (i + 1) hi
    exact w64_in (n := c.knots.g (i + 1) 1 - c.knots.g i 1) (by omega) (by omega)
  constructor
  · intro h i hi
    have := h ((i : Int), ⟨knt c.knots i, knt c.knots (i + 1)⟩) (by unfold piecesL; exact List.mem_map.2 ⟨i, List.mem_range.2 (by omega), rfl⟩)
    rw [decide_eq_true_eq, e i hi] at this; omega
  · intro h p hp
    unfold piecesL at hp
    obtain ⟨i, hi, rfl⟩ := List.mem_map.1 hp
    have hi := List.mem_range.1 hi
    rw [decide_eq_true_eq, e i (by omega)]
    have := h i (by omega); omega
theorem e_r3c_iff {c : Curve} : (List.range (len c.knots - 1)).findSome? (e_r3c c) = none ↔ riseAll c := by
  rw [List.findSome?_eq_none_iff]
  constructor
  · intro h i hi
    have := h i (List.mem_range.2 (by omega))
    unfold e_r3c at this
    by_cases hc : (knt c.knots (i + 1)).y ≤ (knt c.knots i).y
    · rw [if_pos hc] at this; cases this
    · have hc : ¬ c.knots.g (i + 1) 1 ≤ c.knots.g i 1 := hc
      omega
  · intro h i hi
    have := h i (by have := List.mem_range.1 hi; omega)
    unfold e_r3c
    exact if_neg (show ¬ c.knots.g (i + 1) 1 ≤ c.knots.g i 1 by omega)
theorem rising_one {c : Curve} (o : CurveOk c) : rising c = 1 ↔ riseAll c := by
  rw [← up_iff o]; unfold rising
  cases (upDown (piecesL c) true true).1 <;> cases (upDown (piecesL c) true true).2 <;> simp
theorem known_is {s : Ship} {c : Curve} (h : rooms s = IntKind.i64.wrap (s.light + r_rooms s)) (z : Int) : (if (tabled s c != 0) = true then tabled s c else z) = if (!r_known s c) = true then 1 else z := by
  unfold tabled r_known
  rw [show (knt c.knots 0).x = c.knots.g 0 0 from rfl, show (knt c.knots (len c.knots - 1)).x = c.knots.g (len c.knots - 1) 0 from rfl, ← h, show p_rkn c = p_tab1 () c.knots from rfl, show (first (p_tab1 () c.knots) (len c.knots)).isSome = has_tab1 () c.knots from rfl]
  show (if ((if (massesOf c).lo > s.light then (1 : Int) else _) != 0) = true then _ else z) = if (!(if _ then false else if decide ((massesOf c).lo ≤ s.light) = true then decide ((massesOf c).hi ≥ rooms s) else false)) = true then 1 else z
  by_cases h1 : (massesOf c).lo > s.light
  · rw [if_pos h1, if_neg (show ¬ decide ((massesOf c).lo ≤ s.light) = true by simp; omega)]; cases has_tab1 () c.knots <;> rfl
  · rw [if_neg h1, if_pos (show decide ((massesOf c).lo ≤ s.light) = true by simp; omega)]
    by_cases h2 : (massesOf c).hi < rooms s
    · rw [if_pos h2, decide_eq_false (show ¬ (massesOf c).hi ≥ rooms s by omega)]; cases has_tab1 () c.knots <;> rfl
    · rw [if_neg h2, decide_eq_true (show (massesOf c).hi ≥ rooms s by omega)]; cases has_tab1 () c.knots <;> rfl
theorem hldE_ok {x : XS} {i : Nat} (h : hldE x i = none) : (1 ≤ x.g i 0 ∧ x.g i 0 ≤ 1099511627776) ∧ (0 ≤ x.g i 1 ∧ x.g i 1 ≤ 65536) ∧ placed (x.g i 2, x.g i 3) = true ∧ twice x i = false := by
  unfold hldE at h
  cases h1 : within (x.g i 0) 1 1099511627776 with
  | false => rw [h1] at h; simp at h
  | true =>
    cases h2 : within (x.g i 1) 0 65536 with
    | false => rw [h1, h2] at h; simp at h
    | true =>
      cases h3 : placed (x.g i 2, x.g i 3) with
      | false => rw [h1, h2, h3] at h; simp at h
      | true =>
        cases h4 : twice x i with
        | true => rw [h1, h2, h3, h4] at h; simp at h
        | false => exact ⟨within_iff.1 h1, within_iff.1 h2, rfl, rfl⟩
theorem rooms_is {s : Ship} (hl : 1 ≤ s.light ∧ s.light ≤ 65536) (hh : len s.holds ≤ 8) (hr : ∀ i, i < len s.holds → 0 ≤ s.holds.g i 1 ∧ s.holds.g i 1 ≤ 65536) :
    rooms s = s.light + sumI s.holds (len s.holds) ∧ r_rooms s = sumI s.holds (len s.holds) ∧ 0 ≤ sumI s.holds (len s.holds) ∧ sumI s.holds (len s.holds) ≤ 65536 * (len s.holds : Int) := by
  obtain ⟨a1, a2, a3⟩ := fold_rooms s.holds s.light (by omega) (len s.holds) (by omega) hr
  obtain ⟨b1, _, _⟩ := fold_rooms s.holds 0 (by omega) (len s.holds) (by omega) hr
  refine ⟨a1, ?_, a2, a3⟩
  rw [Int.zero_add] at b1; exact b1
theorem r_ship_is (s : Ship) : r_ship s = hullCheck s := by
  unfold r_ship hullCheck
  simp only [r_in_is, r_placed_is]
  rw [show e_r3b s = hldE s.holds from funext (e_r3b_is s)]
  cases h1 : within s.id 1 1099511627776 with
  | false => rfl
  | true =>
  cases h2 : within s.light 1 65536 with
  | false => rfl
  | true =>
  cases h3 : placed (s.lever, s.height) with
  | false => rfl
  | true =>
  cases h4 : within s.turn 1 1048576 with
  | false => rfl
  | true =>
  cases h5 : within s.least 0 5000 with
  | false => rfl
  | true =>
  by_cases h6 : (len s.holds : Int) > 8
  · rw [decide_eq_true h6]; rfl
  rw [decide_eq_false h6]
  simp only [Bool.not_true, Bool.false_eq_true, if_false]
  cases hh : (List.range (len s.holds)).findSome? (hldE s.holds) with
  | some e => rfl
  | none =>
    have hn := none_all hh
    obtain ⟨a1, a2, a3, a4⟩ := rooms_is (within_iff.1 h2) (by omega) (fun i hi => (hldE_ok (hn i hi)).2.1)
    have h2 := within_iff.1 h2
    have hr : rooms s = IntKind.i64.wrap (s.light + r_rooms s) := by rw [a1, a2, w64_in (by omega) (by omega)]
    simp only [K.orr]
    rw [← hr, r_curve_is, r_curve_is]
    by_cases h7 : rooms s > 65536
    · rw [decide_eq_true h7]; rfl
    rw [decide_eq_false h7]
    simp only [Bool.false_eq_true, if_false]
    by_cases h8 : curveCheck s.mean = 0
    case neg => have b8 : (curveCheck s.mean != 0) = true := by simpa using h8
                simp only [b8, if_true]
    have b8 : (curveCheck s.mean != 0) = false := by rw [h8]; decide
    by_cases h9 : curveCheck s.mc = 0
    case neg => have b9 : (curveCheck s.mc != 0) = true := by simpa using h9
                simp only [b8, b9, if_true, Bool.false_eq_true, if_false]
    have b9 : (curveCheck s.mc != 0) = false := by rw [h9]; decide
    have o := curve_ok h8
    have hR : (Rising s.mean).1 = rising s.mean := by unfold Rising; rw [h8]; rfl
    simp only [b8, b9, Bool.false_eq_true, if_false]
    rw [hR, known_is hr, known_is hr]
    by_cases h10 : riseAll s.mean
    · rw [e_r3c_iff.2 h10, (rising_one o).2 h10]; rfl
    · have hx : ∃ z, (List.range (len s.mean.knots - 1)).findSome? (e_r3c s.mean) = some z := by
        cases hf : (List.range (len s.mean.knots - 1)).findSome? (e_r3c s.mean) with
        | none => exact absurd (e_r3c_iff.1 hf) h10
        | some z => exact ⟨z, rfl⟩
      obtain ⟨z, hz⟩ := hx
      obtain ⟨i, _, hi⟩ := List.exists_of_findSome?_eq_some hz
      have hz1 : z = 1 := by unfold e_r3c at hi; split at hi <;> simp_all
      subst hz1
      have hr1 : ¬ rising s.mean = 1 := fun h => h10 ((rising_one o).1 h)
      rw [hz, if_pos (show (rising s.mean != 1) = true by simpa using hr1)]; rfl
structure ShipOk (s : Ship) : Prop where
  light : 1 ≤ s.light ∧ s.light ≤ 65536
  holds : len s.holds ≤ 8
  hold : ∀ i, i < len s.holds → hldE s.holds i = none
  room : rooms s = s.light + sumI s.holds (len s.holds)
  room0 : 0 ≤ sumI s.holds (len s.holds)
  most : rooms s ≤ 65536
  mean : CurveOk s.mean
  mc : CurveOk s.mc
  rises : riseAll s.mean
  low : s.mean.knots.g 0 0 * 40 ≤ s.light
  high : rooms s ≤ s.mean.knots.g (len s.mean.knots - 1) 0 * 40
  y0 : ∀ i, i < len s.mean.knots → 0 ≤ s.mean.knots.g i 1
  z0 : ∀ i, i < len s.mc.knots → 0 ≤ s.mc.knots.g i 1
  turn : 1 ≤ s.turn ∧ s.turn ≤ 1048576
  least : 0 ≤ s.least ∧ s.least ≤ 5000
  place : placed (s.lever, s.height) = true
  mlow : s.mc.knots.g 0 0 * 40 ≤ s.light
  mhigh : rooms s ≤ s.mc.knots.g (len s.mc.knots - 1) 0 * 40
theorem hldE_ne (x : XS) (i : Nat) (e : Int) (h : hldE x i = some e) : e ≠ 0 := by
  unfold hldE at h
  split at h
  · injection h with h; omega
  split at h
  · injection h with h; omega
  split at h
  · injection h with h; omega
  split at h
  · injection h with h; omega
  · cases h
theorem tabled_ok {s : Ship} {c : Curve} (o : CurveOk c) (h : tabled s c = 0) : c.knots.g 0 0 * 40 ≤ s.light ∧ rooms s ≤ c.knots.g (len c.knots - 1) 0 * 40 ∧ ∀ i, i < len c.knots → 0 ≤ c.knots.g i 1 := by
  unfold tabled at h
  have p := o.pos
  have x0 := o.x 0 p; have x1 := o.x (len c.knots - 1) (by omega)
  have e1 : (massesOf c).lo = c.knots.g 0 0 * 40 := w64_in (by omega) (by omega)
  have e2 : (massesOf c).hi = c.knots.g (len c.knots - 1) 0 * 40 := w64_in (by omega) (by omega)
  rw [e1, e2] at h
  split at h
  · cases h
  rename_i h1
  split at h
  · cases h
  rename_i h2
  split at h
  · cases h
  rename_i h3
  refine ⟨by omega, by omega, fun i hi => ?_⟩
  have h4 : first (p_tab1 () c.knots) (len c.knots) = none := by
    unfold has_tab1 at h3
    cases hf : first (p_tab1 () c.knots) (len c.knots) with
    | none => rfl
    | some j => rw [hf] at h3; simp at h3
  have h5 := first_none' h4 i hi
  have h6 : ¬ c.knots.g i 1 < 0 := of_decide_eq_false h5
  omega
theorem ship_ok {s : Ship} (h : hullCheck s = 0) : ShipOk s := by
  unfold hullCheck at h
  obtain ⟨h1, h⟩ := ite_no (by decide) h
  obtain ⟨h2, h⟩ := ite_no (by decide) h
  obtain ⟨h3, h⟩ := ite_no (by decide) h
  obtain ⟨h4, h⟩ := ite_no (by decide) h
  obtain ⟨h5, h⟩ := ite_no (by decide) h
  obtain ⟨h6, h⟩ := ite_no (by decide) h
  have h6 := of_decide_eq_false h6
  cases hh : (List.range (len s.holds)).findSome? (hldE s.holds) with
  | some e => rw [hh] at h; exact absurd h (findSome_ne (hldE_ne s.holds) e hh)
  | none =>
    rw [hh] at h
    simp only [K.orr] at h
    have hn := none_all hh
    have h2' := within_iff.1 (show within s.light 1 65536 = true by simpa using h2)
    obtain ⟨a1, a2, a3, a4⟩ := rooms_is h2' (by omega) (fun i hi => (hldE_ok (hn i hi)).2.1)
    obtain ⟨h7, h⟩ := ite_no (by decide) h
    obtain ⟨h8, h⟩ := ite_err h
    obtain ⟨h9, h⟩ := ite_err h
    obtain ⟨h10, h⟩ := ite_no (by decide) h
    obtain ⟨h11, h⟩ := ite_err h
    obtain ⟨h12, _⟩ := ite_err h
    have o := curve_ok h8
    have o2 := curve_ok h9
    have hR : (Rising s.mean).1 = rising s.mean := by unfold Rising; rw [h8]; rfl
    have hr : rising s.mean = 1 := by rw [← hR]; simpa using h10
    obtain ⟨t1, t2, t3⟩ := tabled_ok o h11
    obtain ⟨u1, u2, u3⟩ := tabled_ok o2 h12
    exact ⟨h2', by omega, hn, a1, a3, by have := of_decide_eq_false h7; omega, o, o2, (rising_one o).1 hr, t1, t2, t3, u3, within_iff.1 (by simpa using h4), within_iff.1 (by simpa using h5), by simpa using h3, u1, u2⟩
end K
end Go.Proofs.YtjbhooodjmjdkaaGreat
/-! KT -/
namespace Go.Proofs.YtjbhooodjmjdkaaGreat
open Ev K
set_option maxRecDepth 100000
namespace K
section
variable {x : Survey} (g : Good x)
include g
omit g in
theorem both_eq {a b : Span} (ha : -1000000 ≤ a.lo ∧ a.lo ≤ 1000000 ∧ -1000000 ≤ a.hi ∧ a.hi ≤ 1000000) (hb : -1000000 ≤ b.lo ∧ b.lo ≤ 1000000 ∧ -1000000 ≤ b.hi ∧ b.hi ≤ 1000000) : both a b = ⟨a.lo + b.lo, a.hi + b.hi⟩ := by
  unfold both; rw [w64_in (by omega) (by omega), w64_in (by omega) (by omega)]
theorem fore_eq : both x.m0 x.m1 = ⟨x.m0.lo + x.m1.lo, x.m0.hi + x.m1.hi⟩ := by
  obtain ⟨h1, h2, h3, h4⟩ := g.m0; obtain ⟨k1, k2, k3, k4⟩ := g.m1
  exact both_eq (by omega) (by omega)
theorem aft_eq : both x.m4 x.m5 = ⟨x.m4.lo + x.m5.lo, x.m4.hi + x.m5.hi⟩ := by
  obtain ⟨h1, h2, h3, h4⟩ := g.m4; obtain ⟨k1, k2, k3, k4⟩ := g.m5
  exact both_eq (by omega) (by omega)
theorem mid_eq : both x.m2 x.m3 = ⟨x.m2.lo + x.m3.lo, x.m2.hi + x.m3.hi⟩ := by
  obtain ⟨h1, h2, h3, h4⟩ := g.m2; obtain ⟨k1, k2, k3, k4⟩ := g.m3
  exact both_eq (by omega) (by omega)
theorem ends_eq : endsOf x = ⟨x.m0.lo + x.m1.lo + (x.m4.lo + x.m5.lo), x.m0.hi + x.m1.hi + (x.m4.hi + x.m5.hi)⟩ := by
  obtain ⟨h1, h2, h3, h4⟩ := g.m0; obtain ⟨k1, k2, k3, k4⟩ := g.m1
  obtain ⟨i1, i2, i3, i4⟩ := g.m4; obtain ⟨j1, j2, j3, j4⟩ := g.m5
  unfold endsOf; rw [fore_eq g, aft_eq g]
  exact both_eq (by simp only; omega) (by simp only; omega)
theorem bend_eq : bend x = 4 * x.sag := by
  obtain ⟨h1, h2⟩ := g.sag
  unfold bend; rw [w64_in (by omega) (by omega)]
theorem mids_eq : mids x = meet ⟨x.m2.lo + x.m3.lo, x.m2.hi + x.m3.hi⟩ ⟨-((4 * x.sag - (endsOf x).lo) / 2), ((endsOf x).hi + 4 * x.sag) / 2⟩ := by
  obtain ⟨h1, h2, h3, h4⟩ := g.m0; obtain ⟨k1, k2, k3, k4⟩ := g.m1
  obtain ⟨i1, i2, i3, i4⟩ := g.m4; obtain ⟨j1, j2, j3, j4⟩ := g.m5
  obtain ⟨s1, s2⟩ := g.sag
  have e := ends_eq g
  have e1 : (endsOf x).lo = x.m0.lo + x.m1.lo + (x.m4.lo + x.m5.lo) := by rw [e]
  have e2 : (endsOf x).hi = x.m0.hi + x.m1.hi + (x.m4.hi + x.m5.hi) := by rw [e]
  unfold mids
  rw [mid_eq g, bend_eq g, w64_in (n := 4 * x.sag - (endsOf x).lo) (by omega) (by omega), w64_in (n := (endsOf x).hi + 4 * x.sag) (by omega) (by omega), half_eq (by omega) (by omega), half_eq (by omega) (by omega), w64_in (by omega) (by omega)]
  rw [Int.zero_sub]
end
structure EndsOk (x : Survey) (l : Sums × Sums) : Prop where
  a0 : x.m2.lo + x.m3.lo ≤ l.1.middle ∧ l.1.middle ≤ x.m2.hi + x.m3.hi
  a1 : x.m2.lo + x.m3.lo ≤ l.2.middle ∧ l.2.middle ≤ x.m2.hi + x.m3.hi
  b0 : x.m0.lo + x.m1.lo + (x.m4.lo + x.m5.lo) ≤ l.1.ends ∧ l.1.ends ≤ x.m0.hi + x.m1.hi + (x.m4.hi + x.m5.hi)
  b1 : x.m0.lo + x.m1.lo + (x.m4.lo + x.m5.lo) ≤ l.2.ends ∧ l.2.ends ≤ x.m0.hi + x.m1.hi + (x.m4.hi + x.m5.hi)
  c0 : -(4 * x.sag) ≤ 2 * l.1.middle - l.1.ends ∧ 2 * l.1.middle - l.1.ends ≤ 4 * x.sag
  c1 : -(4 * x.sag) ≤ 2 * l.2.middle - l.2.ends ∧ 2 * l.2.middle - l.2.ends ≤ 4 * x.sag
  all : ∀ m n : Int, x.m2.lo + x.m3.lo ≤ m → m ≤ x.m2.hi + x.m3.hi → x.m0.lo + x.m1.lo + (x.m4.lo + x.m5.lo) ≤ n → n ≤ x.m0.hi + x.m1.hi + (x.m4.hi + x.m5.hi) → -(4 * x.sag) ≤ 2 * m - n → 2 * m - n ≤ 4 * x.sag →
    l.1.middle ≤ m ∧ m ≤ l.2.middle ∧ l.1.ends ≤ n ∧ n ≤ l.2.ends
theorem arith0 {a b e0 e1 s L U p q : Int} (hs : 0 ≤ s) (l1 : a ≤ L) (l2 : e0 - s ≤ 2 * L) (u1 : U ≤ b) (u2 : 2 * U ≤ e1 + s) (v : L ≤ U) (he : e0 ≤ e1) (hp : p = max (2 * L - s) e0) (hq : q = min (2 * U + s) e1) :
    (a ≤ L ∧ L ≤ b) ∧ (a ≤ U ∧ U ≤ b) ∧ (e0 ≤ p ∧ p ≤ e1) ∧ (e0 ≤ q ∧ q ≤ e1) ∧ (-s ≤ 2 * L - p ∧ 2 * L - p ≤ s) ∧ (-s ≤ 2 * U - q ∧ 2 * U - q ≤ s) := by
  refine ⟨⟨l1, ?_⟩, ⟨?_, u1⟩, ⟨?_, ?_⟩, ⟨?_, ?_⟩, ⟨?_, ?_⟩, ⟨?_, ?_⟩⟩ <;> omega
theorem arith1 {a b e0 e1 s L U p q m n : Int} (l3 : L = a ∨ 2 * L ≤ e0 - s + 1) (u3 : U = b ∨ e1 + s - 1 ≤ 2 * U) (hp : p = max (2 * L - s) e0) (hq : q = min (2 * U + s) e1)
    (t1 : a ≤ m) (t2 : m ≤ b) (t3 : e0 ≤ n) (t4 : n ≤ e1) (t5 : -s ≤ 2 * m - n) (t6 : 2 * m - n ≤ s) : L ≤ m ∧ m ≤ U ∧ p ≤ n ∧ n ≤ q := by
  have h1 : L ≤ m := by rcases l3 with h | h <;> omega
  have h2 : m ≤ U := by rcases u3 with h | h <;> omega
  refine ⟨h1, h2, ?_, ?_⟩ <;> omega
theorem low_arith {a e0 s L : Int} (h : L = if -((s - e0) / 2) > a then -((s - e0) / 2) else a) : a ≤ L ∧ e0 - s ≤ 2 * L ∧ (L = a ∨ 2 * L ≤ e0 - s + 1) := by
  split at h <;> refine ⟨?_, ?_, ?_⟩ <;> omega
theorem high_arith {b e1 s U : Int} (h : U = if (e1 + s) / 2 < b then (e1 + s) / 2 else b) : U ≤ b ∧ 2 * U ≤ e1 + s ∧ (U = b ∨ e1 + s - 1 ≤ 2 * U) := by
  split at h <;> refine ⟨?_, ?_, ?_⟩ <;> omega
theorem extremes_ok {x : Survey} (g : Good x) (h : (extremes x).2 = true) : EndsOk x (extremes x).1 := by
  have hv : void (mids x) = false := by
    cases hv : void (mids x) with
    | false => rfl
    | true => unfold extremes at h; rw [if_pos hv] at h; exact absurd h (by decide)
  obtain ⟨h1, h2, h3, h4⟩ := g.m0; obtain ⟨k1, k2, k3, k4⟩ := g.m1
  obtain ⟨p1, p2, p3, p4⟩ := g.m2; obtain ⟨q1, q2, q3, q4⟩ := g.m3
  obtain ⟨i1, i2, i3, i4⟩ := g.m4; obtain ⟨j1, j2, j3, j4⟩ := g.m5
  obtain ⟨s1, s2⟩ := g.sag
  have e := ends_eq g
  have e1 : (endsOf x).lo = x.m0.lo + x.m1.lo + (x.m4.lo + x.m5.lo) := by rw [e]
  have e2 : (endsOf x).hi = x.m0.hi + x.m1.hi + (x.m4.hi + x.m5.hi) := by rw [e]
  have hm := mids_eq g
  have v := void_false.1 hv
  have m1 : (mids x).lo = if -((4 * x.sag - (endsOf x).lo) / 2) > x.m2.lo + x.m3.lo then -((4 * x.sag - (endsOf x).lo) / 2) else x.m2.lo + x.m3.lo := by rw [hm]; rfl
  have m2 : (mids x).hi = if ((endsOf x).hi + 4 * x.sag) / 2 < x.m2.hi + x.m3.hi then ((endsOf x).hi + 4 * x.sag) / 2 else x.m2.hi + x.m3.hi := by rw [hm]; rfl
  obtain ⟨l1, l2, l3⟩ := low_arith m1
  obtain ⟨u1, u2, u3⟩ := high_arith m2
  have he : (extremes x).1 = (⟨if IntKind.i64.wrap (IntKind.i64.wrap (2 * (mids x).lo) - bend x) > (endsOf x).lo then IntKind.i64.wrap (IntKind.i64.wrap (2 * (mids x).lo) - bend x) else (endsOf x).lo, (mids x).lo⟩,
    ⟨if IntKind.i64.wrap (IntKind.i64.wrap (2 * (mids x).hi) + bend x) < (endsOf x).hi then IntKind.i64.wrap (IntKind.i64.wrap (2 * (mids x).hi) + bend x) else (endsOf x).hi, (mids x).hi⟩) := by
    unfold extremes; rw [if_neg (by rw [hv]; decide)]
  clear m1 m2 hm hv h e
  generalize (mids x).lo = L at *
  generalize (mids x).hi = U at *
  rw [bend_eq g, w64_in (n := 2 * L) (by omega) (by omega), w64_in (n := 2 * L - 4 * x.sag) (by omega) (by omega), w64_in (n := 2 * U) (by omega) (by omega), w64_in (n := 2 * U + 4 * x.sag) (by omega) (by omega)] at he
  have n1 : (if 2 * L - 4 * x.sag > (endsOf x).lo then 2 * L - 4 * x.sag else (endsOf x).lo) = max (2 * L - 4 * x.sag) (endsOf x).lo := by split <;> omega
  have n2 : (if 2 * U + 4 * x.sag < (endsOf x).hi then 2 * U + 4 * x.sag else (endsOf x).hi) = min (2 * U + 4 * x.sag) (endsOf x).hi := by split <;> omega
  rw [n1, n2] at he
  rw [he]
  rw [e1] at l2 l3
  rw [e2] at u2 u3
  rw [e1, e2]
  obtain ⟨r1, r2, r3, r4, r5, r6⟩ := arith0 (s := 4 * x.sag) (by omega) l1 l2 u1 u2 v (by omega) rfl rfl
  exact ⟨r1, r2, r3, r4, r5, r6, fun m n t1 t2 t3 t4 t5 t6 => by
    obtain ⟨w1, w2, w3, w4⟩ := arith1 l3 u3 rfl rfl t1 t2 t3 t4 t5 t6
    exact ⟨w1, w2, w3, w4⟩⟩
theorem sums16_eq {l : Sums} (h : -1000000 ≤ l.ends ∧ l.ends ≤ 1000000 ∧ -1000000 ≤ l.middle ∧ l.middle ≤ 1000000) : sums16 l = l.ends + 6 * l.middle := by
  unfold sums16; rw [w64_in (n := 6 * l.middle) (by omega) (by omega), w64_in (n := l.ends + 6 * l.middle) (by omega) (by omega)]
end K
end Go.Proofs.YtjbhooodjmjdkaaGreat
/-! KV5 -/
namespace Go.Proofs.YtjbhooodjmjdkaaGreat
open Ev K
set_option maxRecDepth 100000
namespace K
theorem mid_at {x : Survey} (g : Good x) {s : Int} (h1 : -1000000 ≤ s) (h2 : s ≤ 1000000) : r_middle (x, s) = meet ⟨x.m2.lo + x.m3.lo, x.m2.hi + x.m3.hi⟩ ⟨-((4 * x.sag - s) / 2), (s + 4 * x.sag) / 2⟩ := by
  obtain ⟨p1, p2, p3, p4⟩ := g.m2; obtain ⟨q1, q2, q3, q4⟩ := g.m3
  obtain ⟨s1, s2⟩ := g.sag
  show meet ⟨IntKind.i64.wrap (x.m2.lo + x.m3.lo), IntKind.i64.wrap (x.m2.hi + x.m3.hi)⟩ ⟨IntKind.i64.wrap (0 - half (IntKind.i64.wrap (IntKind.i64.wrap (4 * x.sag) - s))), half (IntKind.i64.wrap (s + IntKind.i64.wrap (4 * x.sag)))⟩ = _
  rw [w64_in (n := x.m2.lo + x.m3.lo) (by omega) (by omega), w64_in (n := x.m2.hi + x.m3.hi) (by omega) (by omega), w64_in (n := 4 * x.sag) (by omega) (by omega), w64_in (n := 4 * x.sag - s) (by omega) (by omega), w64_in (n := s + 4 * x.sag) (by omega) (by omega), half_eq (by omega) (by omega), half_eq (by omega) (by omega), w64_in (by omega) (by omega), Int.zero_sub]
theorem mid_iff {x : Survey} (g : Good x) {s m : Int} (h1 : -1000000 ≤ s) (h2 : s ≤ 1000000) : ((r_middle (x, s)).lo ≤ m ∧ m ≤ (r_middle (x, s)).hi) ↔ (x.m2.lo + x.m3.lo ≤ m ∧ m ≤ x.m2.hi + x.m3.hi ∧ -(4 * x.sag) ≤ 2 * m - s ∧ 2 * m - s ≤ 4 * x.sag) := by
  rw [mid_at g h1 h2]
  have e1 : (meet ⟨x.m2.lo + x.m3.lo, x.m2.hi + x.m3.hi⟩ ⟨-((4 * x.sag - s) / 2), (s + 4 * x.sag) / 2⟩).lo = if -((4 * x.sag - s) / 2) > x.m2.lo + x.m3.lo then -((4 * x.sag - s) / 2) else x.m2.lo + x.m3.lo := rfl
  have e2 : (meet ⟨x.m2.lo + x.m3.lo, x.m2.hi + x.m3.hi⟩ ⟨-((4 * x.sag - s) / 2), (s + 4 * x.sag) / 2⟩).hi = if (s + 4 * x.sag) / 2 < x.m2.hi + x.m3.hi then (s + 4 * x.sag) / 2 else x.m2.hi + x.m3.hi := rfl
  rw [e1, e2]
  split <;> split <;> omega
structure Six (x : Survey) (lo : Int) (n : Nat) (o : Span) : Prop where
  le : o.lo ≤ o.hi
  all : ∀ i, i < n → r_none (r_middle (x, lo + (i : Int))) = false → o.lo ≤ lowAt x (lo + (i : Int)) ∧ highAt x (lo + (i : Int)) ≤ o.hi
  at0 : ∃ i, i < n ∧ r_none (r_middle (x, lo + (i : Int))) = false ∧ o.lo = lowAt x (lo + (i : Int))
  at1 : ∃ i, i < n ∧ r_none (r_middle (x, lo + (i : Int))) = false ∧ o.hi = highAt x (lo + (i : Int))
theorem grow_self (a b : Int) : grow ⟨a, b⟩ a b = ⟨a, b⟩ := by
  unfold grow; simp
theorem grow_lo (o : Span) (a b : Int) : (grow o a b).lo = if a < o.lo then a else o.lo := rfl
theorem grow_hi (o : Span) (a b : Int) : (grow o a b).hi = if b > o.hi then b else o.hi := rfl
theorem six_fold (x : Survey) (lo : Int) : ∀ n : Nat, (∀ i, i < n → r_none (r_middle (x, lo + (i : Int))) = false → lowAt x (lo + (i : Int)) ≤ highAt x (lo + (i : Int))) →
    ((List.range n).foldl (fun o (i : Nat) => F_rsix x (lo + (i : Int)) o) ⟨1, 0⟩ = ⟨1, 0⟩ ∧ ∀ i, i < n → r_none (r_middle (x, lo + (i : Int))) = true) ∨ Six x lo n ((List.range n).foldl (fun o (i : Nat) => F_rsix x (lo + (i : Int)) o) ⟨1, 0⟩) := by
  intro n
  induction n with
  | zero => intro _; exact .inl ⟨rfl, fun i hi => absurd hi (by omega)⟩
  | succ n ih =>
    intro h
    have hi := ih (fun i hi => h i (by omega))
    rw [List.range_succ, List.foldl_append]
    generalize (List.range n).foldl (fun o (i : Nat) => F_rsix x (lo + (i : Int)) o) ⟨1, 0⟩ = o at hi ⊢
    simp only [List.foldl_cons, List.foldl_nil]
    unfold F_rsix
    cases hm : r_none (r_middle (x, lo + (n : Int))) with
    | true =>
      simp only [if_true]
      rcases hi with ⟨e, hi⟩ | ⟨a, b, ⟨i, c1, c2, c3⟩, ⟨j, d1, d2, d3⟩⟩
      · refine .inl ⟨e, fun i hi' => ?_⟩
        rcases Nat.lt_succ_iff_lt_or_eq.1 hi' with h' | h'
        · exact hi i h'
        · subst h'; exact hm
      · refine .inr ⟨a, fun i hi' hn => ?_, ⟨i, by omega, c2, c3⟩, ⟨j, by omega, d2, d3⟩⟩
        rcases Nat.lt_succ_iff_lt_or_eq.1 hi' with h' | h'
        · exact b i h' hn
        · subst h'; rw [hm] at hn; cases hn
    | false =>
      have hlh := h n (by omega) hm
      simp only [Bool.false_eq_true, if_false]
      rcases hi with ⟨e, hi⟩ | ⟨a, b, ⟨i, c1, c2, c3⟩, ⟨j, d1, d2, d3⟩⟩
      · subst e
        rw [if_pos (show r_none (⟨1, 0⟩ : Span) = true from rfl), grow_self]
        refine .inr ⟨hlh, fun i hi' hn => ?_, ⟨n, by omega, hm, rfl⟩, ⟨n, by omega, hm, rfl⟩⟩
        rcases Nat.lt_succ_iff_lt_or_eq.1 hi' with h' | h'
        · rw [hi i h'] at hn; cases hn
        · subst h'; exact ⟨Int.le_refl _, Int.le_refl _⟩
      · rw [if_neg (show ¬ r_none o = true by rw [r_none_is, void_false.2 a]; decide)]
        refine .inr ⟨?_, fun i hi' hn => ?_, ?_, ?_⟩
        · rw [grow_lo, grow_hi]; split <;> split <;> omega
        · rw [grow_lo, grow_hi]
          rcases Nat.lt_succ_iff_lt_or_eq.1 hi' with h' | h'
          · obtain ⟨b1, b2⟩ := b i h' hn
            split <;> split <;> omega
          · subst h'; split <;> split <;> omega
        · rw [grow_lo]
          split
          · exact ⟨n, by omega, hm, rfl⟩
          · exact ⟨i, by omega, c2, c3⟩
        · rw [grow_hi]
          split
          · exact ⟨n, by omega, hm, rfl⟩
          · exact ⟨j, by omega, d2, d3⟩
section
variable {x : Survey} (g : Good x)
include g
theorem sixLo_eq : sixLo x = x.m0.lo + x.m1.lo + (x.m4.lo + x.m5.lo) := by
  obtain ⟨h1, h2, h3, h4⟩ := g.m0; obtain ⟨k1, k2, k3, k4⟩ := g.m1
  obtain ⟨i1, i2, i3, i4⟩ := g.m4; obtain ⟨j1, j2, j3, j4⟩ := g.m5
  unfold sixLo
  rw [w64_in (n := x.m0.lo + x.m1.lo) (by omega) (by omega), w64_in (n := x.m4.lo + x.m5.lo) (by omega) (by omega), w64_in (by omega) (by omega)]
theorem sixHi_eq : sixHi x = x.m0.hi + x.m1.hi + (x.m4.hi + x.m5.hi) := by
  obtain ⟨h1, h2, h3, h4⟩ := g.m0; obtain ⟨k1, k2, k3, k4⟩ := g.m1
  obtain ⟨i1, i2, i3, i4⟩ := g.m4; obtain ⟨j1, j2, j3, j4⟩ := g.m5
  unfold sixHi
  rw [w64_in (n := x.m0.hi + x.m1.hi) (by omega) (by omega), w64_in (n := x.m4.hi + x.m5.hi) (by omega) (by omega), w64_in (by omega) (by omega)]
theorem six_ok : sixOk x = true := by
  obtain ⟨h1, h2, h3, h4⟩ := g.m0; obtain ⟨k1, k2, k3, k4⟩ := g.m1
  obtain ⟨i1, i2, i3, i4⟩ := g.m4; obtain ⟨j1, j2, j3, j4⟩ := g.m5
  unfold sixOk; rw [sixLo_eq g, sixHi_eq g, Bool.and_eq_true, decide_eq_true_eq, decide_eq_true_eq]; omega
theorem mid_bounds {s : Int} (h1 : -1000000 ≤ s) (h2 : s ≤ 1000000) (h : r_none (r_middle (x, s)) = false) : 0 ≤ (r_middle (x, s)).lo ∧ (r_middle (x, s)).lo ≤ (r_middle (x, s)).hi ∧ (r_middle (x, s)).hi ≤ 131072 := by
  obtain ⟨p1, p2, p3, p4⟩ := g.m2; obtain ⟨q1, q2, q3, q4⟩ := g.m3
  have hv := void_false.1 (show void (r_middle (x, s)) = false from h)
  have a := (mid_iff g h1 h2).1 ⟨Int.le_refl _, hv⟩
  have b := (mid_iff g h1 h2).1 ⟨hv, Int.le_refl _⟩
  omega
theorem lowAt_eq {s : Int} (h1 : -1000000 ≤ s) (h2 : s ≤ 1000000) (h : r_none (r_middle (x, s)) = false) : lowAt x s = s + 6 * (r_middle (x, s)).lo ∧ highAt x s = s + 6 * (r_middle (x, s)).hi := by
  obtain ⟨a, b, c⟩ := mid_bounds g h1 h2 h
  unfold lowAt highAt
  rw [w64_in (n := 6 * (r_middle (x, s)).lo) (by omega) (by omega), w64_in (n := 6 * (r_middle (x, s)).hi) (by omega) (by omega), w64_in (by omega) (by omega), w64_in (by omega) (by omega)]
  exact ⟨rfl, rfl⟩
theorem six_none (h : (extremes x).2 = false) : r_none (r_six x) = true := by
  have hv : void (mids x) = true := by
    cases hv : void (mids x) with
    | true => rfl
    | false => unfold extremes at h; rw [if_neg (by rw [hv]; decide)] at h; exact absurd h (fun h => by cases h)
  obtain ⟨h1, h2, h3, h4⟩ := g.m0; obtain ⟨k1, k2, k3, k4⟩ := g.m1
  obtain ⟨i1, i2, i3, i4⟩ := g.m4; obtain ⟨j1, j2, j3, j4⟩ := g.m5
  have hm := mids_eq g
  have e := ends_eq g
  have e1 : (endsOf x).lo = x.m0.lo + x.m1.lo + (x.m4.lo + x.m5.lo) := by rw [e]
  have e2 : (endsOf x).hi = x.m0.hi + x.m1.hi + (x.m4.hi + x.m5.hi) := by rw [e]
  have m1 : (mids x).lo = if -((4 * x.sag - (endsOf x).lo) / 2) > x.m2.lo + x.m3.lo then -((4 * x.sag - (endsOf x).lo) / 2) else x.m2.lo + x.m3.lo := by rw [hm]; rfl
  have m2 : (mids x).hi = if ((endsOf x).hi + 4 * x.sag) / 2 < x.m2.hi + x.m3.hi then ((endsOf x).hi + 4 * x.sag) / 2 else x.m2.hi + x.m3.hi := by rw [hm]; rfl
  have v := void_true.1 hv
  rw [e1] at m1; rw [e2] at m2
  have hnone : ∀ i : Nat, i < (sixHi x - sixLo x + 1).toNat → r_none (r_middle (x, sixLo x + (i : Int))) = true := by
    intro i hi
    cases hn : r_none (r_middle (x, sixLo x + (i : Int))) with
    | true => rfl
    | false =>
      exfalso
      rw [sixLo_eq g] at hn hi; rw [sixHi_eq g] at hi
      have hv2 := void_false.1 (show void (r_middle (x, _)) = false from hn)
      have a := (mid_iff g (by omega) (by omega)).1 ⟨Int.le_refl _, hv2⟩
      generalize (r_middle (x, x.m0.lo + x.m1.lo + (x.m4.lo + x.m5.lo) + (i : Int))).lo = q at a
      clear hm e hv2 hn h hv
      generalize (mids x).lo = L at *
      generalize (mids x).hi = U at *
      split at m1 <;> split at m2 <;> omega
  rcases six_fold x (sixLo x) (sixHi x - sixLo x + 1).toNat (fun i hi hn => by rw [hnone i hi] at hn; cases hn) with ⟨e, _⟩ | ⟨_, _, ⟨i, c1, c2, _⟩, _⟩
  · unfold r_six; rw [e]; rfl
  · rw [hnone i c1] at c2; cases c2
theorem six_is (h : (extremes x).2 = true) : r_six x = ⟨sums16 (extremes x).1.1, sums16 (extremes x).1.2⟩ ∧ sums16 (extremes x).1.1 ≤ sums16 (extremes x).1.2 := by
  have eo := extremes_ok g h
  obtain ⟨h1, h2, h3, h4⟩ := g.m0; obtain ⟨k1, k2, k3, k4⟩ := g.m1
  obtain ⟨i1, i2, i3, i4⟩ := g.m4; obtain ⟨j1, j2, j3, j4⟩ := g.m5
  obtain ⟨p1, p2, p3, p4⟩ := g.m2; obtain ⟨q1, q2, q3, q4⟩ := g.m3
  generalize (extremes x).1 = l at eo ⊢
  obtain ⟨l0, l1⟩ := l
  obtain ⟨a0, a1, b0, b1, c0, c1, al⟩ := eo
  simp only at a0 a1 b0 b1 c0 c1 al ⊢
  rw [sums16_eq (l := l0) (by omega), sums16_eq (l := l1) (by omega)]
  have key : ∀ i : Nat, i < (sixHi x - sixLo x + 1).toNat → r_none (r_middle (x, sixLo x + (i : Int))) = false →
      lowAt x (sixLo x + (i : Int)) = sixLo x + (i : Int) + 6 * (r_middle (x, sixLo x + (i : Int))).lo ∧ highAt x (sixLo x + (i : Int)) = sixLo x + (i : Int) + 6 * (r_middle (x, sixLo x + (i : Int))).hi ∧
      (r_middle (x, sixLo x + (i : Int))).lo ≤ (r_middle (x, sixLo x + (i : Int))).hi ∧
      l0.ends + 6 * l0.middle ≤ sixLo x + (i : Int) + 6 * (r_middle (x, sixLo x + (i : Int))).lo ∧ sixLo x + (i : Int) + 6 * (r_middle (x, sixLo x + (i : Int))).hi ≤ l1.ends + 6 * l1.middle := by
    intro i hi hn
    rw [sixLo_eq g, sixHi_eq g] at hi
    rw [sixLo_eq g] at hn ⊢
    obtain ⟨u1, u2⟩ := lowAt_eq g (by omega) (by omega) hn
    have hv := void_false.1 (show void (r_middle (x, _)) = false from hn)
    have a := (mid_iff g (by omega) (by omega)).1 ⟨Int.le_refl _, hv⟩
    have b := (mid_iff g (by omega) (by omega)).1 ⟨hv, Int.le_refl _⟩
    obtain ⟨v1, v2, v3, v4⟩ := al _ (x.m0.lo + x.m1.lo + (x.m4.lo + x.m5.lo) + (i : Int)) a.1 a.2.1 (by omega) (by omega) a.2.2.1 a.2.2.2
    obtain ⟨w1, w2, w3, w4⟩ := al _ (x.m0.lo + x.m1.lo + (x.m4.lo + x.m5.lo) + (i : Int)) b.1 b.2.1 (by omega) (by omega) b.2.2.1 b.2.2.2
    exact ⟨u1, u2, hv, by omega, by omega⟩
  have hit : ∀ m n : Int, x.m2.lo + x.m3.lo ≤ m → m ≤ x.m2.hi + x.m3.hi → x.m0.lo + x.m1.lo + (x.m4.lo + x.m5.lo) ≤ n → n ≤ x.m0.hi + x.m1.hi + (x.m4.hi + x.m5.hi) → -(4 * x.sag) ≤ 2 * m - n → 2 * m - n ≤ 4 * x.sag →
      ∃ i : Nat, i < (sixHi x - sixLo x + 1).toNat ∧ sixLo x + (i : Int) = n ∧ r_none (r_middle (x, sixLo x + (i : Int))) = false ∧ (r_middle (x, sixLo x + (i : Int))).lo ≤ m ∧ m ≤ (r_middle (x, sixLo x + (i : Int))).hi := by
    intro m n t1 t2 t3 t4 t5 t6
    have e : sixLo x + ((n - sixLo x).toNat : Int) = n := by rw [sixLo_eq g]; omega
    refine ⟨(n - sixLo x).toNat, by rw [sixLo_eq g, sixHi_eq g]; omega, e, ?_⟩
    rw [e]
    have hb := (mid_iff (x := x) (s := n) (m := m) g (by omega) (by omega)).2 ⟨t1, t2, t5, t6⟩
    refine ⟨?_, hb⟩
    rw [r_none_is]; exact void_false.2 (by omega)
  obtain ⟨i0, r1, r2, r3, r4, r5⟩ := hit _ _ a0.1 a0.2 b0.1 b0.2 c0.1 c0.2
  obtain ⟨j0, t1, t2, t3, t4, t5⟩ := hit _ _ a1.1 a1.2 b1.1 b1.2 c1.1 c1.2
  rcases six_fold x (sixLo x) (sixHi x - sixLo x + 1).toNat (fun i hi hn => by obtain ⟨e1, e2, e3, _, _⟩ := key i hi hn; rw [e1, e2]; omega) with ⟨_, hno⟩ | ⟨le, all, ⟨i, c1, c2, c3⟩, ⟨j, d1, d2, d3⟩⟩
  · rw [hno i0 r1] at r3; cases r3
  · obtain ⟨x1, x2, _, x4, x5⟩ := key i c1 c2
    obtain ⟨y1, y2, _, y4, y5⟩ := key j d1 d2
    obtain ⟨z1, z2, _, z4, z5⟩ := key i0 r1 r3
    obtain ⟨u1, u2, _, u4, u5⟩ := key j0 t1 t3
    obtain ⟨f1, _⟩ := all i0 r1 r3
    obtain ⟨_, f2⟩ := all j0 t1 t3
    have g1 : (r_six x).lo = l0.ends + 6 * l0.middle := by
      show ((List.range (sixHi x - sixLo x + 1).toNat).foldl (fun o (i : Nat) => F_rsix x (sixLo x + (i : Int)) o) ⟨1, 0⟩).lo = _
      rw [z1] at f1; rw [x1] at c3
      omega
    have g2 : (r_six x).hi = l1.ends + 6 * l1.middle := by
      show ((List.range (sixHi x - sixLo x + 1).toNat).foldl (fun o (i : Nat) => F_rsix x (sixLo x + (i : Int)) o) ⟨1, 0⟩).hi = _
      rw [u2] at f2; rw [y2] at d3
      omega
    exact ⟨Span.ext g1 g2, by rw [← g1, ← g2]; exact le⟩
end
theorem ck {c d : Bool} {t u : Int} (h : d = !c) (k : c = true → u = t) : (if d = true then 1 else u) = if c = true then t else 1 := by
  subst h; cases c with
  | true => simpa using k rfl
  | false => rfl
theorem ck2 {n lo hi : Int} {t u : Int} (k : within n lo hi = true → u = t) : (if decide (n < lo) = true then 1 else if decide (n > hi) = true then 1 else u) = if within n lo hi = true then t else 1 := by
  by_cases h1 : n < lo
  · rw [if_pos (by simpa using h1), if_neg (by rw [within_iff]; omega)]
  rw [if_neg (by simpa using h1)]
  by_cases h2 : n > hi
  · rw [if_pos (by simpa using h2), if_neg (by rw [within_iff]; omega)]
  rw [if_neg (by simpa using h2)]
  have := within_iff.2 ⟨show lo ≤ n by omega, show n ≤ hi by omega⟩
  rw [if_pos this]; exact k this
theorem ge_lt (w : Int) : decide (w ≥ 400) = !decide (w < 400) := by
  by_cases h : w < 400
  · rw [decide_eq_true h, decide_eq_false (by omega)]; rfl
  · rw [decide_eq_false h, decide_eq_true (by omega)]; rfl
theorem r_check_is (b : Bulbs) (x : Survey) : r_check b x = Check (b, x) := by
  unfold r_check Check check
  rw [r_bulbs_is]
  simp only [r_id_is, r_span_is]
  by_cases hb : CheckBulbs b = 0
  case neg => have b0 : (CheckBulbs b != 0) = true := by simpa using hb
              simp only [b0, if_true]
  have b0 : (CheckBulbs b != 0) = false := by rw [hb]; decide
  simp only [b0, Bool.false_eq_true, if_false]
  refine ck rfl (fun h1 => ?_)
  refine ck2 (fun h2 => ?_)
  refine ck2 (fun h3 => ?_)
  refine ck rfl (fun h4 => ?_)
  refine ck rfl (fun a0 => ?_)
  refine ck (ge_lt _) (fun b0 => ?_)
  refine ck rfl (fun a1 => ?_)
  refine ck (ge_lt _) (fun b1 => ?_)
  refine ck rfl (fun a2 => ?_)
  refine ck (ge_lt _) (fun b2 => ?_)
  refine ck rfl (fun a3 => ?_)
  refine ck (ge_lt _) (fun b3 => ?_)
  refine ck rfl (fun a4 => ?_)
  refine ck (ge_lt _) (fun b4 => ?_)
  refine ck rfl (fun a5 => ?_)
  rw [ge_lt]
  cases b5 : decide (IntKind.i64.wrap (x.m5.hi - x.m5.lo) < 400) with
  | false => rfl
  | true =>
  simp only [Bool.not_true, Bool.false_eq_true, if_false]
  have g : Good x := ⟨within_iff.1 h1, within_iff.1 h2, within_iff.1 h3, spans_iff.1 h4, mark_ok a0 (of_decide_eq_true b0), mark_ok a1 (of_decide_eq_true b1), mark_ok a2 (of_decide_eq_true b2), mark_ok a3 (of_decide_eq_true b3), mark_ok a4 (of_decide_eq_true b4), mark_ok a5 (of_decide_eq_true b5)⟩
  rw [r_Off_is hb]
  by_cases ho : (off (b, x.hydro)).2 = 0
  · have hd := density_is (x := x) hb ho
    rw [if_neg (by rw [ho]; decide), hd, r_none_is]
    cases hv : void (r_density (b, x)) with
    | true => rfl
    | false =>
      cases he : (extremes x).2 with
      | false => rw [six_none g he]; rfl
      | true => obtain ⟨e1, e2⟩ := six_is g he; rw [e1, r_none_is, void_false.2 e2]; rfl
  · have hd : density (b, x) = (⟨0, 0⟩, (off (b, x.hydro)).2) := by unfold density; exact if_pos (by simpa using ho)
    rw [if_pos (by simpa using ho), hd]
    exact (if_pos (by simpa using ho)).symm
end K
end Go.Proofs.YtjbhooodjmjdkaaGreat
/-! KV6 -/
namespace Go.Proofs.YtjbhooodjmjdkaaGreat
open Ev K
set_option maxRecDepth 100000
namespace K
theorem bne_zero {n : Int} (h : ¬ (n != 0) = true) : n = 0 := by simpa using h
structure RatioOk (f : Frac) : Prop where
  den : 0 < f.den
  den2 : f.den ≤ 2097152
  num : 0 ≤ f.num
  num2 : f.num ≤ 2000 * f.den
theorem gcd_mul_self {x r : Nat} : Nat.gcd (x * r) r = r := Nat.gcd_eq_right (Nat.dvd_mul_left r x)
theorem low_mul {x r : Int} (hx : 0 ≤ x) (hx2 : x ≤ 2000) (hr : 0 < r) : r_low ⟨x * r, r⟩ = ⟨x, 1⟩ := by
  have hg : gcdI (x * r) r = r := by
    unfold gcdI
    rw [Int.natAbs_mul, gcd_mul_self]; omega
  unfold r_low
  simp only
  rw [hg, Int.mul_tdiv_cancel _ (by omega), Int.tdiv_self (by omega), w64_in (n := x) (by omega) (by omega)]; rfl
theorem low_spec {f : Frac} (h : RatioOk f) : ∃ g a b : Int, 0 < g ∧ 0 < b ∧ 0 ≤ a ∧ f.num = g * a ∧ f.den = g * b ∧ r_low f = ⟨a, b⟩ := by
  obtain ⟨n, d⟩ := f
  obtain ⟨h1, h2, h3, h4⟩ := h
  simp only at h1 h2 h3 h4
  obtain ⟨n', rfl⟩ := Int.eq_ofNat_of_zero_le h3
  obtain ⟨d', rfl⟩ := Int.eq_ofNat_of_zero_le (Int.le_of_lt h1)
  have hd : 0 < d' := by omega
  have hg : 0 < Nat.gcd n' d' := Nat.gcd_pos_of_pos_right n' hd
  obtain ⟨a, ha⟩ := Nat.gcd_dvd_left n' d'
  obtain ⟨b, hb⟩ := Nat.gcd_dvd_right n' d'
  have e1 : n' / Nat.gcd n' d' = a := by rw [Nat.div_eq_iff_eq_mul_right hg ⟨a, ha⟩]; exact ha
  have e2 : d' / Nat.gcd n' d' = b := by rw [Nat.div_eq_iff_eq_mul_right hg ⟨b, hb⟩]; exact hb
  have ea : a ≤ n' := by rw [← e1]; exact Nat.div_le_self _ _
  have eb : b ≤ d' := by rw [← e2]; exact Nat.div_le_self _ _
  refine ⟨(Nat.gcd n' d' : Nat), a, b, by omega, ?_, by omega, ?_, ?_, ?_⟩
  · rcases Nat.eq_zero_or_pos b with e | e
    · rw [e, Nat.mul_zero] at hb; omega
    · omega
  · show (n' : Int) = _; rw [← Int.natCast_mul, ← ha]
  · show (d' : Int) = _; rw [← Int.natCast_mul, ← hb]
  · unfold r_low gcdI
    simp only [Int.natAbs_natCast]
    rw [← Int.ofNat_tdiv, ← Int.ofNat_tdiv, e1, e2, w64_in (by omega) (by omega), w64_in (by omega) (by omega)]
theorem low_good {f : Frac} (h : RatioOk f) : RatioOk (r_low f) := by
  obtain ⟨g, a, b, hg, hb, ha, e1, e2, e3⟩ := low_spec h
  rw [e3]
  obtain ⟨h1, h2, h3, h4⟩ := h
  rw [e1, e2] at h4; rw [e2] at h2
  have h5 : g * a ≤ g * (2000 * b) := by rw [Int.mul_left_comm]; exact h4
  have hb2 : 1 * b ≤ g * b := Int.mul_le_mul_of_nonneg_right (by omega) (by omega)
  exact ⟨hb, by rw [Int.one_mul] at hb2; exact Int.le_trans hb2 h2, ha, Int.le_of_mul_le_mul_left h5 hg⟩
theorem low_ok {f : Frac} (h : RatioOk f) : lowOk f = true := by
  obtain ⟨h1, h2, h3, h4⟩ := h
  unfold lowOk divOk gcdI
  have : 0 < Nat.gcd f.num.natAbs f.den.natAbs := Nat.gcd_pos_of_pos_right _ (by omega)
  simp only [Bool.and_eq_true, decide_eq_true_eq, Bool.not_eq_true', decide_eq_false_iff_not]
  refine ⟨⟨by omega, by omega, by omega⟩, by omega⟩
def massLo (f : Frac) (d : Int) : Int := IntKind.i64.wrap (Int.tdiv (IntKind.i64.wrap (IntKind.i64.wrap (IntKind.i64.wrap (f.num * d) + IntKind.i64.wrap (25 * f.den)) - 1)) (IntKind.i64.wrap (25 * f.den)))
def massHi (f : Frac) (d : Int) : Int := IntKind.i64.wrap (Int.tdiv (IntKind.i64.wrap (f.num * d)) (IntKind.i64.wrap (25 * f.den)))
theorem prod_le {f : Frac} (h : RatioOk f) {d : Int} (h0 : 0 ≤ d) (h1 : d ≤ 1100) : 0 ≤ f.num * d ∧ f.num * d ≤ 4613734400000 := by
  obtain ⟨a1, a2, a3, a4⟩ := h
  refine ⟨Int.mul_nonneg a3 h0, ?_⟩
  have := Int.mul_le_mul (show f.num ≤ 4194304000 by omega) h1 h0 (by omega)
  exact this
theorem massLo_eq {f : Frac} (h : RatioOk f) {d : Int} (h0 : 0 ≤ d) (h1 : d ≤ 1100) : massLo f d = (f.num * d + 25 * f.den - 1) / (25 * f.den) := by
  obtain ⟨p0, p1⟩ := prod_le h h0 h1
  obtain ⟨a1, a2, a3, a4⟩ := h
  unfold massLo
  generalize f.num * d = p at *
  rw [w64_in (n := p) (by omega) (by omega), w64_in (n := 25 * f.den) (by omega) (by omega), w64_in (n := p + 25 * f.den) (by omega) (by omega), w64_in (n := p + 25 * f.den - 1) (by omega) (by omega), Int.tdiv_eq_ediv_of_nonneg (by omega)]
  have q1 := Int.ediv_nonneg (show 0 ≤ p + 25 * f.den - 1 by omega) (show 0 ≤ 25 * f.den by omega)
  have q2 := Int.ediv_le_self (25 * f.den) (show 0 ≤ p + 25 * f.den - 1 by omega)
  rw [w64_in (by omega) (by omega)]
theorem massHi_eq {f : Frac} (h : RatioOk f) {d : Int} (h0 : 0 ≤ d) (h1 : d ≤ 1100) : massHi f d = f.num * d / (25 * f.den) := by
  obtain ⟨p0, p1⟩ := prod_le h h0 h1
  obtain ⟨a1, a2, a3, a4⟩ := h
  unfold massHi
  generalize f.num * d = p at *
  rw [w64_in (n := p) (by omega) (by omega), w64_in (n := 25 * f.den) (by omega) (by omega), Int.tdiv_eq_ediv_of_nonneg (by omega)]
  have q1 := Int.ediv_nonneg (show 0 ≤ p by omega) (show 0 ≤ 25 * f.den by omega)
  have q2 := Int.ediv_le_self (25 * f.den) (show 0 ≤ p by omega)
  rw [w64_in (by omega) (by omega)]
theorem ceil_mul {g m n : Int} (hg : 0 < g) (hn : 0 < n) : (g * m + g * n - 1) / (g * n) = (m + n - 1) / n := by
  have hgn : 0 < g * n := Int.mul_pos hg hn
  have b1 : n * ((m + n - 1) / n) ≤ m + n - 1 := Int.mul_ediv_self_le (by omega)
  have b2 : m + n - 1 < n * ((m + n - 1) / n) + n := Int.lt_mul_ediv_self_add hn
  generalize (m + n - 1) / n = q at *
  refine Int.le_antisymm ?_ ?_
  · refine Int.le_of_lt_add_one ((Int.ediv_lt_iff_lt_mul hgn).2 ?_)
    have : g * m ≤ g * (n * q) := Int.mul_le_mul_of_nonneg_left (by omega) (by omega)
    rw [Int.add_mul, Int.one_mul, Int.mul_comm q, Int.mul_assoc]
    omega
  · refine (Int.le_ediv_iff_mul_le hgn).2 ?_
    have : g * (n * q) ≤ g * (m + n - 1) := Int.mul_le_mul_of_nonneg_left b1 (by omega)
    rw [Int.mul_sub, Int.mul_add, Int.mul_one] at this
    rw [Int.mul_comm q, Int.mul_assoc]
    omega
theorem massLo_low {f : Frac} (h : RatioOk f) {d : Int} (h0 : 0 ≤ d) (h1 : d ≤ 1100) : massLo (r_low f) d = massLo f d := by
  rw [massLo_eq h h0 h1, massLo_eq (low_good h) h0 h1]
  obtain ⟨g, a, b, hg, hb, ha, e1, e2, e3⟩ := low_spec h
  rw [e3, e1, e2]
  simp only
  rw [Int.mul_assoc, Int.mul_left_comm 25 g b, ceil_mul hg (by omega)]
theorem massHi_low {f : Frac} (h : RatioOk f) {d : Int} (h0 : 0 ≤ d) (h1 : d ≤ 1100) : massHi (r_low f) d = massHi f d := by
  rw [massHi_eq h h0 h1, massHi_eq (low_good h) h0 h1]
  obtain ⟨g, a, b, hg, hb, ha, e1, e2, e3⟩ := low_spec h
  rw [e3, e1, e2]
  simp only
  rw [Int.mul_assoc, Int.mul_left_comm 25 g b, Int.mul_ediv_mul_of_pos _ _ hg]
theorem rise_lt {c : Curve} (r : riseAll c) : ∀ k i, i + k + 1 < len c.knots → c.knots.g i 1 < c.knots.g (i + k + 1) 1 := by
  intro k
  induction k with
  | zero => intro i h; exact r i h
  | succ k ih => intro i h; have := ih i (by omega); have h2 := r (i + k + 1) (by omega); exact Int.lt_trans this h2
theorem ratioAt_eq {c : Curve} (o : CurveOk c) (r : riseAll c) {y : Int} {i : Nat} (hi : i + 1 < len c.knots) (h0 : 16 * c.knots.g i 1 ≤ y) (h1 : y ≤ 16 * c.knots.g (i + 1) 1) :
    ratioAt c.knots y i = ⟨c.knots.g i 0 * (16 * (c.knots.g (i + 1) 1 - c.knots.g i 1)) + (y - 16 * c.knots.g i 1) * (c.knots.g (i + 1) 0 - c.knots.g i 0), 16 * (c.knots.g (i + 1) 1 - c.knots.g i 1)⟩ ∧ RatioOk (ratioAt c.knots y i) := by
  have a0 := o.x i (by omega); have a1 := o.x (i + 1) hi
  have b0 := o.y i (by omega); have b1 := o.y (i + 1) hi
  have hr := r i hi; have hx := o.inc i hi
  unfold ratioAt riseAt
  generalize c.knots.g i 0 = x0 at *; generalize c.knots.g (i + 1) 0 = x1 at *
  generalize c.knots.g i 1 = y0 at *; generalize c.knots.g (i + 1) 1 = y1 at *
  rw [w64_in (n := y1 - y0) (by omega) (by omega), w64_in (n := 16 * (y1 - y0)) (by omega) (by omega), w64_in (n := 16 * y0) (by omega) (by omega), w64_in (n := y - 16 * y0) (by omega) (by omega), w64_in (n := x1 - x0) (by omega) (by omega)]
  have hR : 0 < 16 * (y1 - y0) ∧ 16 * (y1 - y0) ≤ 2097152 := by omega
  have hd : 0 ≤ y - 16 * y0 ∧ y - 16 * y0 ≤ 16 * (y1 - y0) := by omega
  generalize 16 * (y1 - y0) = R at *
  generalize y - 16 * y0 = d at *
  have m1 : 0 ≤ x0 * R := Int.mul_nonneg a0.1 (by omega)
  have m2 : 0 ≤ d * (x1 - x0) := Int.mul_nonneg hd.1 (by omega)
  have m3 : d * (x1 - x0) ≤ R * (x1 - x0) := Int.mul_le_mul_of_nonneg_right hd.2 (by omega)
  have m4 : R * (x1 - x0) = x1 * R - x0 * R := by rw [Int.mul_sub, Int.mul_comm R, Int.mul_comm R]
  have m5 : x1 * R ≤ 2000 * R := Int.mul_le_mul_of_nonneg_right a1.2 (by omega)
  rw [w64_in (n := x0 * R) (by omega) (by omega), w64_in (n := d * (x1 - x0)) (by omega) (by omega), w64_in (by omega) (by omega)]
  exact ⟨rfl, ⟨hR.1, hR.2, by simp only; omega, by simp only; omega⟩⟩
theorem where_is {c : Curve} (o : CurveOk c) (r : riseAll c) {y : Int} (h0 : 16 * c.knots.g 0 1 ≤ y) (h1 : y ≤ 16 * c.knots.g (len c.knots - 1) 1) :
    whOk c y = true ∧ RatioOk (whereOf c y) ∧ r_where c y = r_low (whereOf c y) := by
  have hp := o.pos
  have e16 : ∀ i, i < len c.knots → IntKind.i64.wrap (16 * c.knots.g i 1) = 16 * c.knots.g i 1 := fun i hi => by have := o.y i hi; exact w64_in (by omega) (by omega)
  have hpr : ∀ i, i < len c.knots → (p_rwh c y i = true ↔ y ≤ 16 * c.knots.g i 1) := by
    intro i hi
    unfold p_rwh
    rw [show (knt c.knots i).y = c.knots.g i 1 from rfl, e16 i hi, Bool.not_eq_true', decide_eq_false_iff_not]; omega
  have hip : ∀ i, i + 1 < len c.knots → (inPiece c.knots y i = true ↔ 16 * c.knots.g i 1 ≤ y ∧ y ≤ 16 * c.knots.g (i + 1) 1) := by
    intro i hi
    unfold inPiece
    rw [e16 i (by omega), e16 (i + 1) hi, within_iff]
  cases hf : first (p_rwh c y) (len c.knots) with
  | none =>
    have := first_none' hf (len c.knots - 1) (by omega)
    rw [(hpr _ (by omega)).2 h1] at this; cases this
  | some i =>
    obtain ⟨f1, f2, f3⟩ := first_spec hf
    have f2' := (hpr i f1).1 f2
    have f3' : ∀ j, j < i → 16 * c.knots.g j 1 < y := fun j hj => by
      have := f3 j hj
      cases hq : decide (y ≤ 16 * c.knots.g j 1) with
      | true => rw [(hpr j (by omega)).2 (of_decide_eq_true hq)] at this; cases this
      | false => have := of_decide_eq_false hq; omega
    have hx := o.x i f1
    rcases Nat.eq_zero_or_pos i with hi | hi
    · subst hi
      have hy : y = 16 * c.knots.g 0 1 := by omega
      have hw : r_where c y = ⟨c.knots.g 0 0, 1⟩ := by
        unfold r_where; rw [hf]
        exact if_pos (show (IntKind.i64.wrap (16 * c.knots.g 0 1) == y) = true by rw [e16 0 f1, hy]; simp)
      have hok : whOk c y = true := by
        unfold whOk; rw [hf]
        show (IntKind.i64.wrap (16 * c.knots.g 0 1) == y || _) = true
        rw [e16 0 f1, hy]; simp
      by_cases hn : len c.knots = 1
      · have hwo : whereOf c y = ⟨c.knots.g 0 0, 1⟩ := by
          unfold whereOf; rw [hn]; rfl
        rw [hwo, hw]
        refine ⟨hok, ⟨by simp only; omega, by simp only; omega, by simp only; omega, by simp only; omega⟩, ?_⟩
        have := low_mul (x := c.knots.g 0 0) (r := 1) hx.1 hx.2 (by omega)
        rw [Int.mul_one] at this; exact this.symm
      · have hr := r 0 (by omega)
        have hfs : first (inPiece c.knots y) (len c.knots - 1) = some 0 := first_some (by omega) ((hip 0 (by omega)).2 ⟨h0, by rw [hy]; omega⟩) (fun j hj => absurd hj (by omega))
        have hwo : whereOf c y = ratioAt c.knots y 0 := by unfold whereOf; rw [hfs]
        obtain ⟨q1, q2⟩ := ratioAt_eq o r (i := 0) (by omega) h0 (by rw [hy]; omega)
        rw [hwo]
        refine ⟨hok, q2, ?_⟩
        rw [hw, q1, hy, Int.sub_self, Int.zero_mul, Int.add_zero, low_mul hx.1 hx.2 (by omega)]
    · obtain ⟨k, rfl⟩ : ∃ k, i = k + 1 := ⟨i - 1, by omega⟩
      have g0 := f3' k (by omega)
      have hr := r k f1
      have hfs : first (inPiece c.knots y) (len c.knots - 1) = some k := by
        refine first_some (by omega) ((hip k f1).2 ⟨by omega, f2'⟩) (fun j hj => ?_)
        cases hq : inPiece c.knots y j with
        | false => rfl
        | true => have := (hip j (by omega)).1 hq; have := f3' (j + 1) (by omega); omega
      have hwo : whereOf c y = ratioAt c.knots y k := by unfold whereOf; rw [hfs]
      obtain ⟨q1, q2⟩ := ratioAt_eq o r (i := k) f1 (by omega) f2'
      have hfr : whFrac c y (k + 1) = ratioAt c.knots y k := rfl
      rw [hwo]
      by_cases hy : 16 * c.knots.g (k + 1) 1 = y
      · have hok : whOk c y = true := by
          unfold whOk; rw [hf]
          show (IntKind.i64.wrap (16 * c.knots.g (k + 1) 1) == y || _) = true
          rw [e16 _ f1, hy]; simp
        have hw : r_where c y = ⟨c.knots.g (k + 1) 0, 1⟩ := by
          unfold r_where; rw [hf]
          exact if_pos (show (IntKind.i64.wrap (16 * c.knots.g (k + 1) 1) == y) = true by rw [e16 _ f1, hy]; simp)
        refine ⟨hok, q2, ?_⟩
        rw [hw, q1, ← hy]
        have e : c.knots.g k 0 * (16 * (c.knots.g (k + 1) 1 - c.knots.g k 1)) + (16 * c.knots.g (k + 1) 1 - 16 * c.knots.g k 1) * (c.knots.g (k + 1) 0 - c.knots.g k 0) = c.knots.g (k + 1) 0 * (16 * (c.knots.g (k + 1) 1 - c.knots.g k 1)) := by
          rw [← Int.mul_sub 16, Int.mul_comm (16 * (c.knots.g (k + 1) 1 - c.knots.g k 1)), ← Int.add_mul]; congr 1; omega
        rw [e, low_mul hx.1 hx.2 (by omega)]
      · have hne : (IntKind.i64.wrap (16 * (knt c.knots (k + 1)).y) == y) = false := by
          rw [show (knt c.knots (k + 1)).y = c.knots.g (k + 1) 1 from rfl, e16 _ f1]; simpa using hy
        have hok : whOk c y = true := by
          unfold whOk; rw [hf]
          simp only
          rw [hne, hfr, low_ok q2]; simp
        have hw : r_where c y = r_low (ratioAt c.knots y k) := by
          unfold r_where; rw [hf]
          simp only
          rw [hne, ← hfr]; rfl
        exact ⟨hok, q2, hw⟩
theorem dens_ok {b : Bulbs} {x : Survey} (hb : CheckBulbs b = 0) (hd : (density (b, x)).2 = 0) : r_density (b, x) = (density (b, x)).1 ∧ 900 ≤ (density (b, x)).1.lo ∧ (density (b, x)).1.lo ≤ (density (b, x)).1.hi ∧ (density (b, x)).1.hi ≤ 1100 := by
  have ho : (off (b, x.hydro)).2 = 0 := by
    unfold density at hd
    by_cases ho : (off (b, x.hydro)).2 = 0
    · exact ho
    · exfalso
      rw [if_pos (show ((off ((b, x).1, (b, x).2.hydro)).2 != 0) = true by simpa using ho)] at hd
      exact ho hd
  have e := density_is (x := x) hb ho
  cases hv : void (r_density (b, x)) with
  | true => rw [hv, if_pos rfl] at e; rw [e] at hd; cases hd
  | false =>
    rw [hv] at e
    rw [e]
    have v := void_false.1 hv
    refine ⟨rfl, ?_, v, ?_⟩
    · show 900 ≤ (r_density (b, x)).lo
      unfold r_density; simp only; split <;> omega
    · show (r_density (b, x)).hi ≤ 1100
      unfold r_density; simp only; split <;> omega
section
variable {s : Ship} {b : Bulbs} {x : Survey} (hs : ShipOk s) (hb : CheckBulbs b = 0) (hg : Good x) (hd : (density (b, x)).2 = 0) (he : (extremes x).2 = true)
include hg he in
theorem y_is : r_y s x = ySpan s x := by
  obtain ⟨e1, e2⟩ := six_is hg he
  unfold r_y ySpan; rw [e1]; rfl
include hs in
theorem y_bounds (h : void (ySpan s x) = false) : 16 * s.mean.knots.g 0 1 ≤ (ySpan s x).lo ∧ (ySpan s x).lo ≤ (ySpan s x).hi ∧ (ySpan s x).hi ≤ 16 * s.mean.knots.g (len s.mean.knots - 1) 1 := by
  have v := void_false.1 h
  have p := hs.mean.pos
  have a := hs.mean.y 0 p; have c := hs.mean.y (len s.mean.knots - 1) (by omega)
  refine ⟨?_, v, ?_⟩
  · unfold ySpan meet; simp only
    rw [w64_in (n := 16 * s.mean.knots.g 0 1) (by omega) (by omega)]; split <;> omega
  · unfold ySpan meet; simp only
    rw [w64_in (n := 16 * s.mean.knots.g (len s.mean.knots - 1) 1) (by omega) (by omega)]; split <;> omega
include hs in
theorem wheres (h : void (ySpan s x) = false) : (whOk s.mean (ySpan s x).lo = true ∧ RatioOk (whereOf s.mean (ySpan s x).lo) ∧ r_where s.mean (ySpan s x).lo = r_low (whereOf s.mean (ySpan s x).lo)) ∧
    (whOk s.mean (ySpan s x).hi = true ∧ RatioOk (whereOf s.mean (ySpan s x).hi) ∧ r_where s.mean (ySpan s x).hi = r_low (whereOf s.mean (ySpan s x).hi)) := by
  obtain ⟨a, b, c⟩ := y_bounds (x := x) hs h
  exact ⟨where_is hs.mean hs.rises a (by omega), where_is hs.mean hs.rises (by omega) c⟩
include hs hg he in
theorem volumes_is : r_volOk s x = true ∧ r_volumes s x = if void (ySpan s x) = true then (⟨⟨0, 0⟩, ⟨0, 0⟩⟩, false) else (⟨r_low (whereOf s.mean (ySpan s x).lo), r_low (whereOf s.mean (ySpan s x).hi)⟩, true) := by
  unfold r_volOk r_volumes
  rw [y_is hg he, six_ok hg, decide_eq_true hs.mean.pos]
  show (true && (true && (void (ySpan s x) || _))) = true ∧ (if void (ySpan s x) = true then _ else _) = _
  cases h : void (ySpan s x) with
  | true => exact ⟨rfl, rfl⟩
  | false =>
    obtain ⟨⟨a1, a2, a3⟩, b1, b2, b3⟩ := wheres (x := x) hs h
    rw [a1, b1, a3, b3]; exact ⟨rfl, rfl⟩
theorem den25 {f : Frac} (h : RatioOk f) : (!decide (IntKind.i64.wrap (25 * f.den) = 0)) = true := by
  obtain ⟨h1, h2, h3, h4⟩ := h
  rw [w64_in (by omega) (by omega), Bool.not_eq_true', decide_eq_false_iff_not]; omega
include hs hg he in
theorem massOk_is : massOk s x = true ∧ r_massOk s x = true := by
  obtain ⟨v1, v2⟩ := volumes_is hs hg he
  unfold massOk r_massOk volumes
  rw [v1, v2, decide_eq_true hs.mean.pos]
  cases h : void (ySpan s x) with
  | true => exact ⟨rfl, rfl⟩
  | false =>
    obtain ⟨⟨a1, a2, a3⟩, b1, b2, b3⟩ := wheres (x := x) hs h
    simp only [Bool.false_eq_true, if_false, Bool.not_true, Bool.false_or, Bool.true_and]
    rw [den25 a2, den25 b2, den25 (low_good a2), den25 (low_good b2)]; exact ⟨rfl, rfl⟩
theorem massOf_form : massOf s b x = if void (ySpan s x) = true then ⟨1, 0⟩ else meet ⟨massLo (whereOf s.mean (ySpan s x).lo) (density (b, x)).1.lo, massHi (whereOf s.mean (ySpan s x).hi) (density (b, x)).1.hi⟩ ⟨s.light, rooms s⟩ := by
  unfold massOf volumes massLo massHi
  cases h : void (ySpan s x) with
  | true => rfl
  | false => rfl
include hs hg he hb hd in
theorem mass_is : r_mass s b x = massOf s b x := by
  obtain ⟨v1, v2⟩ := volumes_is hs hg he
  obtain ⟨d1, d2, d3, d4⟩ := dens_ok hb hd
  rw [massOf_form]
  unfold r_mass
  rw [v2, d1]
  cases h : void (ySpan s x) with
  | true => rfl
  | false =>
    obtain ⟨⟨a1, a2, a3⟩, b1, b2, b3⟩ := wheres (x := x) hs h
    rw [← massLo_low a2 (by omega) (by omega), ← massHi_low b2 (by omega) (by omega)]
    unfold massLo massHi
    rw [Int.mul_comm (r_low (whereOf s.mean (ySpan s x).lo)).num, Int.mul_comm (r_low (whereOf s.mean (ySpan s x).hi)).num]
    rfl
end
end K
end Go.Proofs.YtjbhooodjmjdkaaGreat
