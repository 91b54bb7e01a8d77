/- Parts of the proof, one behind the other: KE, KG, KH, KI, KL, KM, KF, KQ, KJ, KN, KN2, KN3, KN4, KN5, KN6, KN7. No conditions. -/
import Derived.Test.YtjbhooodjmjdkaaGreatRe6
/-! KE -/
namespace Go.Proofs.YtjbhooodjmjdkaaGreat
open Ev K
set_option maxRecDepth 100000
def S_cb1 := DecS.mk0 (.skip (.unit (dLp 0 0 0 0) (.skips 22 (.cons xHydros (.cons (dI .i64) (.last (dI .i64) 69)))))) (.flat 31 lBulbs .nil)
def S_cbx := DecS.mk0 (.skip (.unit (dLp 0 0 0 0) (.tops 94))) (.flat 31 lBulbs .nil)
def X_cb1 := DecX.or (DecX.one .ret [2] (DecS.mk1 (.skips 2 (.last (dI .i64) 93)))) (DecX.one (.exit 0) [1] S_cbx)
noncomputable def K.st_cb1 := loopT1 P BKC8 30 31 33 [26, 1, 24, 25] S_cb1 X_cb1
theorem sl_cb1 : ∀ s, (K.st_cb1) s = T.run (
  .br (decide (Prod.snd (Prod.snd (Prod.fst s)) < Prod.fst (Prod.snd (Prod.fst s)))) (
    .chk (decide ((0 : Int) ≤ Prod.snd (Prod.snd (Prod.fst s)) ∧ Prod.snd (Prod.snd (Prod.fst s)) < (↑(XS.len (Prod.fst (Prod.fst s))) : Int))) <|
    .br (!within (XS.g (Prod.fst (Prod.fst s)) (Int.toNat (Prod.snd (Prod.snd (Prod.fst s)))) (0 : Nat)) (1 : Int) (1099511627776 : Int)) (
      .ret (Sum.inr (Sum.inl (1 : Int)))) (
      .br (!spans (Span.mk (XS.g (Prod.fst (Prod.fst s)) (Int.toNat (Prod.snd (Prod.snd (Prod.fst s)))) (1 : Nat)) (XS.g (Prod.fst (Prod.fst s)) (Int.toNat (Prod.snd (Prod.snd (Prod.fst s)))) (2 : Nat))) (-100 : Int) (100 : Int)) (
        .ret (Sum.inr (Sum.inl (1 : Int)))) (
        .br (decide (Prod.snd (find_chk1 (hyd (Prod.fst (Prod.fst s)) (Int.toNat (Prod.snd (Prod.snd (Prod.fst s))))) (Bulbs.hydros (Prod.fst (Prod.snd s)))) < Prod.snd (Prod.snd (Prod.fst s)))) (
          .ret (Sum.inr (Sum.inl (6 : Int)))) (
          .ret (Sum.inl ((Prod.fst (Prod.fst s), Prod.fst (Prod.snd (Prod.fst s)), IntKind.wrap IntKind.i64 (Prod.snd (Prod.snd (Prod.fst s)) + (1 : Int))), Prod.fst (Prod.snd s), PUnit.unit)))))) (
    .ret (Sum.inr (Sum.inr (PUnit.unit, Prod.fst (Prod.snd s), PUnit.unit))))) := fun s => by kernel_rfl
noncomputable def K.L_cb1 := lim K.st_cb1
noncomputable def BKE1 : Tab := BKC8.addNode 31 33 (nodeE [26, 1, 24, 25] S_cb1 X_cb1 (fun s => .obs (K.L_cb1 s) .ret))
theorem tKE1 : TabOk P BKE1 := TabOk.addLoop (d := 30) okP tKC8 (by kernel_rfl) (by kernel_rfl) (fun s r h => obs_ret h)
def K.hydE (x y : XS) (i : Nat) : Option Int := if (!within (x.g i 0) 1 1099511627776) = true then some 1 else if (!spans ⟨x.g i 1, x.g i 2⟩ (-100) 100) = true then some 1 else
  if decide ((find_chk1 (hyd x i) y).2 < (i : Int)) = true then some 6 else none
abbrev K.Scb1 (x : XS) (b : Bulbs) (i : Nat) := ((x, (K.len x : Int), (i : Int)), b, ())
theorem K.cb1_step (x : XS) (b : Bulbs) (i : Nat) (hi : i < K.len x) : st_cb1 (Scb1 x b i) = some (K.orr (fun e => Sum.inr (.inl e)) (.inl (Scb1 x b (i + 1))) (hydE x b.hydros i)) := by
  have e1 := K.len_le x; have e2 := K.len_le' x
  rw [sl_cb1]
  simp only [T.run_br, T.run_chk, T.run_ret, decide_eq_true_eq, Int.toNat_natCast]
  rw [if_pos (by omega), if_pos (by omega), w64_in (by omega) (by omega)]
  simp only [hydE, K.orr, decide_eq_true_eq]
  split
  · simp_all
  split
  · simp_all
  split
  · simp_all
  simp_all
theorem K.cb1_end (x : XS) (b : Bulbs) : st_cb1 (Scb1 x b (K.len x)) = some (.inr (.inr ((), b, ()))) := by
  rw [sl_cb1]
  simp only [T.run_br, T.run_chk, T.run_ret, decide_eq_true_eq]
  rw [if_neg (by omega)]
theorem K.L_cb1_eq (x : XS) (b : Bulbs) : K.L_cb1 ((x, (K.len x : Int), 0), b, ()) = some (K.orr Sum.inl (.inr ((), b, ())) ((List.range (K.len x)).findSome? (hydE x b.hydros))) :=
  lim_err (Scb1 x b) (K.len x) (hydE x b.hydros) Sum.inl (Sum.inr ((), b, ())) (cb1_step x b) (cb1_end x b)
def S_cb2 := DecS.mk0 (.skip (.unit (dLp 0 0 0 0) (.skips 51 (.cons xGlasses (.cons (dI .i64) (.last (dI .i64) 40)))))) (.flat 31 lBulbs .nil)
def X_cb2 := DecX.or (DecX.one .ret [2] (DecS.mk1 (.skips 2 (.last (dI .i64) 93)))) (DecX.one (.exit 2) [] (DecS.mk1 (.tops 96)))
noncomputable def K.st_cb2 := loopT1 P BKE1 30 31 105 [55, 1, 53, 54] S_cb2 X_cb2
theorem sl_cb2 : ∀ s, (K.st_cb2) s = T.run (
  .br (decide (Prod.snd (Prod.snd (Prod.fst s)) < Prod.fst (Prod.snd (Prod.fst s)))) (
    .chk (decide ((0 : Int) ≤ Prod.snd (Prod.snd (Prod.fst s)) ∧ Prod.snd (Prod.snd (Prod.fst s)) < (↑(XS.len (Prod.fst (Prod.fst s))) : Int))) <|
    .br (!within (XS.g (Prod.fst (Prod.fst s)) (Int.toNat (Prod.snd (Prod.snd (Prod.fst s)))) (0 : Nat)) (1 : Int) (1099511627776 : Int)) (
      .ret (Sum.inr (Sum.inl (1 : Int)))) (
      .br (!within (XS.g (Prod.fst (Prod.fst s)) (Int.toNat (Prod.snd (Prod.snd (Prod.fst s)))) (2 : Nat)) (900 : Int) (1100 : Int)) (
        .ret (Sum.inr (Sum.inl (1 : Int)))) (
        .br (!spans (Span.mk (XS.g (Prod.fst (Prod.fst s)) (Int.toNat (Prod.snd (Prod.snd (Prod.fst s)))) (3 : Nat)) (XS.g (Prod.fst (Prod.fst s)) (Int.toNat (Prod.snd (Prod.snd (Prod.fst s)))) (4 : Nat))) (0 : Int) (2000 : Int)) (
          .ret (Sum.inr (Sum.inl (1 : Int)))) (
          .br (decide (Prod.snd (find_chk2 (gls (Prod.fst (Prod.fst s)) (Int.toNat (Prod.snd (Prod.snd (Prod.fst s))))) (Bulbs.hydros (Prod.fst (Prod.snd s)))) < (0 : Int))) (
            .ret (Sum.inr (Sum.inl (5 : Int)))) (
            .br (decide (Prod.snd (find_chk3 (gls (Prod.fst (Prod.fst s)) (Int.toNat (Prod.snd (Prod.snd (Prod.fst s))))) (Bulbs.glasses (Prod.fst (Prod.snd s)))) < Prod.snd (Prod.snd (Prod.fst s)))) (
              .ret (Sum.inr (Sum.inl (6 : Int)))) (
              .ret (Sum.inl ((Prod.fst (Prod.fst s), Prod.fst (Prod.snd (Prod.fst s)), IntKind.wrap IntKind.i64 (Prod.snd (Prod.snd (Prod.fst s)) + (1 : Int))), Prod.fst (Prod.snd s), PUnit.unit)))))))) (
    .ret (Sum.inr (Sum.inr PUnit.unit)))) := fun s => by kernel_rfl
noncomputable def K.L_cb2 := lim K.st_cb2
noncomputable def BKE2 : Tab := BKE1.addNode 31 105 (nodeE [55, 1, 53, 54] S_cb2 X_cb2 (fun s => .obs (K.L_cb2 s) .ret))
theorem tKE2 : TabOk P BKE2 := TabOk.addLoop (d := 30) okP tKE1 (by kernel_rfl) (by kernel_rfl) (fun s r h => obs_ret h)
def K.glsE (x h y : XS) (i : Nat) : Option Int := if (!within (x.g i 0) 1 1099511627776) = true then some 1 else if (!within (x.g i 2) 900 1100) = true then some 1 else if (!spans ⟨x.g i 3, x.g i 4⟩ 0 2000) = true then some 1 else
  if decide ((find_chk2 (gls x i) h).2 < 0) = true then some 5 else if decide ((find_chk3 (gls x i) y).2 < (i : Int)) = true then some 6 else none
abbrev K.Scb2 (x : XS) (b : Bulbs) (i : Nat) := ((x, (K.len x : Int), (i : Int)), b, ())
theorem K.cb2_step (x : XS) (b : Bulbs) (i : Nat) (hi : i < K.len x) : st_cb2 (Scb2 x b i) = some (K.orr (fun e => Sum.inr (.inl e)) (.inl (Scb2 x b (i + 1))) (glsE x b.hydros b.glasses i)) := by
  have e1 := K.len_le x; have e2 := K.len_le' x
  rw [sl_cb2]
  simp only [T.run_br, T.run_chk, T.run_ret, decide_eq_true_eq, Int.toNat_natCast]
  rw [if_pos (by omega), if_pos (by omega), w64_in (by omega) (by omega)]
  simp only [glsE, K.orr, decide_eq_true_eq]
  split
  · simp_all
  split
  · simp_all
  split
  · simp_all
  split
  · simp_all
  split
  · simp_all
  simp_all
theorem K.cb2_end (x : XS) (b : Bulbs) : st_cb2 (Scb2 x b (K.len x)) = some (.inr (.inr ())) := by
  rw [sl_cb2]
  simp only [T.run_br, T.run_chk, T.run_ret, decide_eq_true_eq]
  rw [if_neg (by omega)]
theorem K.L_cb2_eq (x : XS) (b : Bulbs) : K.L_cb2 ((x, (K.len x : Int), 0), b, ()) = some (K.orr Sum.inl (.inr ()) ((List.range (K.len x)).findSome? (glsE x b.hydros b.glasses))) :=
  lim_err (Scb2 x b) (K.len x) (glsE x b.hydros b.glasses) Sum.inl (Sum.inr ()) (cb2_step x b) (cb2_end x b)
def D_cb := DecL.last (dBulbs) 0
theorem fn_cb : ∀ a, (callT1 P BKE2 30 31 D_cb (dI .i64)) a = T.run (
  .br (decide ((↑(len (Bulbs.hydros a)) : Int) > (8 : Int))) (
    .ret ((2 : Int))) (
    .br (decide ((↑(len (Bulbs.glasses a)) : Int) > (40 : Int))) (
      .ret ((2 : Int))) (
      .obs (L_cb1 ((Bulbs.hydros a, (↑(len (Bulbs.hydros a)) : Int), (0 : Int)), a, PUnit.unit)) fun x0 =>
        .sum (x0) (fun x1 =>
          .ret (x1)) (fun x1 =>
          .obs (L_cb2 ((Bulbs.glasses (Prod.fst (Prod.snd x1)), (↑(len (Bulbs.glasses (Prod.fst (Prod.snd x1)))) : Int), (0 : Int)), Prod.fst (Prod.snd x1), PUnit.unit)) fun x2 =>
            .sum (x2) (fun x3 =>
              .ret (x3)) (fun x3 =>
              .ret ((0 : Int))))))) := fun a => by kernel_rfl
def K.CheckBulbs (b : Bulbs) : Int := if (K.len b.hydros : Int) > 8 then 2 else if (K.len b.glasses : Int) > 40 then 2 else
  K.orr id (K.orr id 0 ((List.range (K.len b.glasses)).findSome? (glsE b.glasses b.hydros b.glasses))) ((List.range (K.len b.hydros)).findSome? (hydE b.hydros b.hydros))
theorem K.CheckBulbs_eq (b : Bulbs) : callT1 P BKE2 30 31 D_cb (dI .i64) b = some (K.CheckBulbs b) := by
  rw [fn_cb]; unfold K.CheckBulbs
  simp only [T.run_br, decide_eq_true_eq, T.run_ret]
  split
  · rfl
  split
  · rfl
  rw [K.L_cb1_eq]
  cases (List.range (K.len b.hydros)).findSome? (hydE b.hydros b.hydros) with
  | some e => rfl
  | none =>
    simp only [K.orr, T.run_some, T.run_inr]
    rw [K.L_cb2_eq]
    cases (List.range (K.len b.glasses)).findSome? (glsE b.glasses b.hydros b.glasses) <;> rfl
noncomputable def BKE3 : Tab := BKE2.addCall 31 (callE D_cb (dI .i64) (fun b => .ret (K.CheckBulbs b)))
theorem tKE3 : TabOk P BKE3 := TabOk.addFn (d := 30) okP tKE2 (fun a r h => by rw [K.CheckBulbs_eq]; exact congrArg some (ret_some h))
end Go.Proofs.YtjbhooodjmjdkaaGreat
/-! KG -/
namespace Go.Proofs.YtjbhooodjmjdkaaGreat
open Ev K
set_option maxRecDepth 100000
/-! rooms -/
def S_rms := DecS.mk1 (.skips 3 (.cons (dI .i64) (.skips 5 (.cons xHolds (.cons (dI .i64) (.last (dI .i64) 9))))))
def X_rms := DecX.one (.exit 0) [3] (DecS.mk1 (.skips 3 (.last (dI .i64) 17)))
noncomputable def K.st_rms := loopT1 P BKE3 30 145 25 [11, 3, 9, 10] S_rms X_rms
theorem sl_rms : ∀ s, (K.st_rms) s = T.run (
  .br (decide (Prod.snd (Prod.snd (Prod.snd s)) < Prod.fst (Prod.snd (Prod.snd s)))) (
    .chk (decide ((0 : Int) ≤ Prod.snd (Prod.snd (Prod.snd s)) ∧ Prod.snd (Prod.snd (Prod.snd s)) < (↑(XS.len (Prod.fst (Prod.snd s))) : Int))) <|
    .ret (Sum.inl (IntKind.wrap IntKind.i64 (Prod.fst s + XS.g (Prod.fst (Prod.snd s)) (Int.toNat (Prod.snd (Prod.snd (Prod.snd s)))) (1 : Nat)), Prod.fst (Prod.snd s), Prod.fst (Prod.snd (Prod.snd s)), IntKind.wrap IntKind.i64 (Prod.snd (Prod.snd (Prod.snd s)) + (1 : Int))))) (
    .ret (Sum.inr (Prod.fst s)))) := fun s => by kernel_rfl
noncomputable def K.L_rms := lim K.st_rms
def K.sumRooms (x : XS) (a : Int) : Int := (List.range (len x)).foldl (fun a i => IntKind.i64.wrap (a + x.g i 1)) a
theorem K.L_rms_eq (x : XS) (a : Int) : K.L_rms (a, x, (len x : Int), 0) = some (sumRooms x a) := by
  have e1 := K.len_le x; have e2 := K.len_le' x
  refine lim_fold (fun i a => (a, x, (len x : Int), (i : Int))) (len x) (fun a i => IntKind.i64.wrap (a + x.g i 1)) id (fun i hi a => ?_) (fun a => ?_) a
  · rw [sl_rms]
    simp only [T.run_br, T.run_chk, T.run_ret, decide_eq_true_eq, Int.toNat_natCast]
    rw [if_pos (by omega), if_pos (by omega), w64_in (n := (i : Int) + 1) (by omega) (by omega)]; simp
  · rw [sl_rms]
    simp only [T.run_br, T.run_chk, T.run_ret, decide_eq_true_eq]
    rw [if_neg (by omega)]; rfl
noncomputable def BKG1 : Tab := BKE3.addNode 145 25 (nodeE [11, 3, 9, 10] S_rms X_rms (fun s => .obs (K.L_rms s) .ret))
theorem tKG1 : TabOk P BKG1 := TabOk.addLoop (d := 30) okP tKE3 (by kernel_rfl) (by kernel_rfl) (fun s r h => obs_ret h)
def D_ship := DecL.last dShip 0
theorem fn_rms : ∀ a, (callT1 P BKG1 30 145 D_ship (dI .i64)) a = T.run (
  .obs (L_rms (Ship.light a, Ship.holds a, (↑(len (Ship.holds a)) : Int), (0 : Int))) fun x0 =>
    .ret (x0)) := fun a => by kernel_rfl
def K.rooms (s : Ship) : Int := sumRooms s.holds s.light
noncomputable def BKG2 : Tab := BKG1.addCall 145 (callE D_ship (dI .i64) (fun s => .ret (K.rooms s)))
theorem tKG2 : TabOk P BKG2 := TabOk.addFn (d := 30) okP tKG1 (fun a r h => by rw [fn_rms, K.L_rms_eq, ← ret_some h]; rfl)
/-! placed -/
def D_pl := DecL.cons (dI .i64) (.last (dI .i64) 0)
theorem fn_placed : ∀ a, (callT1 P BKG2 30 142 D_pl dB) a = T.run (
  .br (within (Prod.fst a) (-20000 : Int) (20000 : Int)) (
    .ret (within (Prod.snd a) (0 : Int) (5000 : Int))) (
    .ret (false))) := fun a => by kernel_rfl
noncomputable def K.placed (a : Int × Int) : Bool := (if (within (Prod.fst a) (-20000 : Int) (20000 : Int)) = true then within (Prod.snd a) (0 : Int) (5000 : Int) else false)
theorem eq_placed (a : Int × Int) : (callT1 P BKG2 30 142 D_pl dB) a = some (K.placed a) := (fn_placed a).trans (T.br_some rfl rfl)
noncomputable def BKG3 : Tab := BKG2.addCall 142 (callE D_pl dB (fun a => .ret (K.placed a)))
theorem tKG3 : TabOk P BKG3 := TabOk.addFn (d := 30) okP tKG2 (fun a r h => by rw [eq_placed]; exact congrArg some (ret_some h))
/-! curve.Check -/
def S_cc := DecS.mk1 (.skips 3 (.cons (dI .i64) (.skips 19 (.cons xKnots (.cons (dI .i64) (.last (dI .i64) 18))))))
def X_cc := DecX.or (DecX.one .ret [2] (DecS.mk1 (.skips 2 (.last (dI .i64) 41)))) (DecX.one (.exit 1) [] (DecS.mk1 (.tops 44)))
noncomputable def K.st_cc := loopT1 P BKG3 30 146 57 [25, 3, 23, 24] S_cc X_cc
theorem sl_cc : ∀ s, (K.st_cc) s = T.run (
  .br (decide (Prod.snd (Prod.snd (Prod.snd s)) < Prod.fst (Prod.snd (Prod.snd s)))) (
    .chk (decide ((0 : Int) ≤ Prod.snd (Prod.snd (Prod.snd s)) ∧ Prod.snd (Prod.snd (Prod.snd s)) < (↑(XS.len (Prod.fst (Prod.snd s))) : Int))) <|
    .br (!within (XS.g (Prod.fst (Prod.snd s)) (Int.toNat (Prod.snd (Prod.snd (Prod.snd s)))) (0 : Nat)) (IntKind.wrap IntKind.i64 (Prod.fst s + (1 : Int))) (2000 : Int)) (
      .ret (Sum.inr (Sum.inl (1 : Int)))) (
      .br (!within (XS.g (Prod.fst (Prod.snd s)) (Int.toNat (Prod.snd (Prod.snd (Prod.snd s)))) (1 : Nat)) (-65536 : Int) (65536 : Int)) (
        .ret (Sum.inr (Sum.inl (1 : Int)))) (
        .ret (Sum.inl (XS.g (Prod.fst (Prod.snd s)) (Int.toNat (Prod.snd (Prod.snd (Prod.snd s)))) (0 : Nat), Prod.fst (Prod.snd s), Prod.fst (Prod.snd (Prod.snd s)), IntKind.wrap IntKind.i64 (Prod.snd (Prod.snd (Prod.snd s)) + (1 : Int))))))) (
    .ret (Sum.inr (Sum.inr PUnit.unit)))) := fun s => by kernel_rfl
noncomputable def K.L_cc := lim K.st_cc
def K.lastX (x : XS) (i : Nat) : Int := if i = 0 then -1 else x.g (i - 1) 0
def K.kntE (x : XS) (i : Nat) : Option Int := if (!within (x.g i 0) (IntKind.i64.wrap (lastX x i + 1)) 2000) = true then some 1 else if (!within (x.g i 1) (-65536) 65536) = true then some 1 else none
theorem K.L_cc_eq (x : XS) : K.L_cc (-1, x, (len x : Int), 0) = some (K.orr Sum.inl (.inr ()) ((List.range (len x)).findSome? (kntE x))) := by
  have e1 := K.len_le x; have e2 := K.len_le' x
  refine lim_err (fun i => (lastX x i, x, (len x : Int), (i : Int))) (len x) (kntE x) Sum.inl (Sum.inr ()) (fun i hi => ?_) ?_
  · rw [sl_cc]
    simp only [T.run_br, T.run_chk, T.run_ret, decide_eq_true_eq, Int.toNat_natCast]
    rw [if_pos (by omega), if_pos (by omega), w64_in (n := (i : Int) + 1) (by omega) (by omega)]
    simp only [kntE, K.orr]
    split
    · simp_all
    split
    · simp_all
    simp_all [lastX]
  · rw [sl_cc]
    simp only [T.run_br, T.run_chk, T.run_ret, decide_eq_true_eq]
    rw [if_neg (by omega)]
noncomputable def BKG4 : Tab := BKG3.addNode 146 57 (nodeE [25, 3, 23, 24] S_cc X_cc (fun s => .obs (K.L_cc s) .ret))
theorem tKG4 : TabOk P BKG4 := TabOk.addLoop (d := 30) okP tKG3 (by kernel_rfl) (by kernel_rfl) (fun s r h => obs_ret h)
def D_crv := DecL.last dCurve 0
theorem fn_cc : ∀ a, (callT1 P BKG4 30 146 D_crv (dI .i64)) a = T.run (
  .br (decide ((↑(len (Curve.knots a)) : Int) > (40 : Int))) (
    .ret ((2 : Int))) (
    .br ((↑(len (Curve.knots a)) : Int) == (0 : Int)) (
      .ret ((1 : Int))) (
      .br (!within (Curve.err a) (0 : Int) (4000 : Int)) (
        .ret ((1 : Int))) (
        .obs (L_cc ((-1 : Int), Curve.knots a, (↑(len (Curve.knots a)) : Int), (0 : Int))) fun x0 =>
          .sum (x0) (fun x1 =>
            .ret (x1)) (fun x1 =>
            .ret ((0 : Int))))))) := fun a => by kernel_rfl
def K.curveCheck (c : Curve) : Int := if (len c.knots : Int) > 40 then 2 else if ((len c.knots : Int) == 0) = true then 1 else if (!within c.err 0 4000) = true then 1 else K.orr id 0 ((List.range (len c.knots)).findSome? (kntE c.knots))
theorem K.curveCheck_eq (c : Curve) : callT1 P BKG4 30 146 D_crv (dI .i64) c = some (K.curveCheck c) := by
  rw [fn_cc]; unfold K.curveCheck
  simp only [T.run_br, decide_eq_true_eq, T.run_ret]
  split
  · rfl
  split
  · rfl
  split
  · rfl
  rw [K.L_cc_eq]
  cases (List.range (len c.knots)).findSome? (kntE c.knots) <;> rfl
noncomputable def BKG5 : Tab := BKG4.addCall 146 (callE D_crv (dI .i64) (fun c => .ret (K.curveCheck c)))
theorem tKG5 : TabOk P BKG5 := TabOk.addFn (d := 30) okP tKG4 (fun a r h => by rw [K.curveCheck_eq]; exact congrArg some (ret_some h))
/-! pieces -/
def S_pcs := DecS.yld (.unit dYv (.cons (dP 2 lCurve 0) (.skip (.last (dI .i64) 24)))) .nil
def X_pcs := DecX.or (DecX.one .ret [] (DecS.yld (.tops 28) .nil)) (DecX.one (.exit 0) [] (DecS.yld (.tops 28) .nil))
noncomputable def K.st_pcs := loopT1 P BKG5 30 225 9 [3, 1, 0] S_pcs X_pcs
theorem sl_pcs : ∀ s, (K.st_pcs) s = T.run (
  .br (decide (Prod.snd (Prod.fst s) < (↑(len (Curve.knots (Prod.fst (Prod.fst s)))) : Int))) (
    .chk (decide ((0 : Int) ≤ IntKind.wrap IntKind.i64 (Prod.snd (Prod.fst s) - (1 : Int)) ∧ IntKind.wrap IntKind.i64 (Prod.snd (Prod.fst s) - (1 : Int)) < (↑(XS.len (Curve.knots (Prod.fst (Prod.fst s)))) : Int))) <|
    .chk (decide ((0 : Int) ≤ Prod.snd (Prod.fst s) ∧ Prod.snd (Prod.fst s) < (↑(XS.len (Curve.knots (Prod.fst (Prod.fst s)))) : Int))) <|
    .br (!Prod.fst (Prod.snd (Prod.snd s)) (List.length (Prod.snd (Prod.snd (Prod.snd s))))) (
      .ret (Sum.inr (Sum.inl (PUnit.unit, PUnit.unit, Prod.fst (Prod.snd (Prod.snd s)), ([AV.int IntKind.i64 (IntKind.wrap IntKind.i64 (Prod.snd (Prod.fst s) - (1 : Int))), AV.agg [AV.int IntKind.i64 (XS.g (Curve.knots (Prod.fst (Prod.fst s))) (Int.toNat (IntKind.wrap IntKind.i64 (Prod.snd (Prod.fst s) - (1 : Int)))) (0 : Nat)), AV.int IntKind.i64 (XS.g (Curve.knots (Prod.fst (Prod.fst s))) (Int.toNat (IntKind.wrap IntKind.i64 (Prod.snd (Prod.fst s) - (1 : Int)))) (1 : Nat)), AV.int IntKind.i64 (XS.g (Curve.knots (Prod.fst (Prod.fst s))) (Int.toNat (Prod.snd (Prod.fst s))) (0 : Nat)), AV.int IntKind.i64 (XS.g (Curve.knots (Prod.fst (Prod.fst s))) (Int.toNat (Prod.snd (Prod.fst s))) (1 : Nat))]], Prod.fst (Prod.snd (Prod.snd s)) (List.length (Prod.snd (Prod.snd (Prod.snd s))))) :: Prod.snd (Prod.snd (Prod.snd s)))))) (
      .ret (Sum.inl ((Prod.fst (Prod.fst s), IntKind.wrap IntKind.i64 (Prod.snd (Prod.fst s) + (1 : Int))), PUnit.unit, Prod.fst (Prod.snd (Prod.snd s)), ([AV.int IntKind.i64 (IntKind.wrap IntKind.i64 (Prod.snd (Prod.fst s) - (1 : Int))), AV.agg [AV.int IntKind.i64 (XS.g (Curve.knots (Prod.fst (Prod.fst s))) (Int.toNat (IntKind.wrap IntKind.i64 (Prod.snd (Prod.fst s) - (1 : Int)))) (0 : Nat)), AV.int IntKind.i64 (XS.g (Curve.knots (Prod.fst (Prod.fst s))) (Int.toNat (IntKind.wrap IntKind.i64 (Prod.snd (Prod.fst s) - (1 : Int)))) (1 : Nat)), AV.int IntKind.i64 (XS.g (Curve.knots (Prod.fst (Prod.fst s))) (Int.toNat (Prod.snd (Prod.fst s))) (0 : Nat)), AV.int IntKind.i64 (XS.g (Curve.knots (Prod.fst (Prod.fst s))) (Int.toNat (Prod.snd (Prod.fst s))) (1 : Nat))]], Prod.fst (Prod.snd (Prod.snd s)) (List.length (Prod.snd (Prod.snd (Prod.snd s))))) :: Prod.snd (Prod.snd (Prod.snd s)))))) (
    .ret (Sum.inr (Sum.inr (PUnit.unit, PUnit.unit, Prod.snd (Prod.snd s)))))) := fun s => by kernel_rfl
noncomputable def K.L_pcs := lim K.st_pcs
noncomputable def BKG6 : Tab := BKG5.addNode 225 9 (nodeE [3, 1, 0] S_pcs X_pcs (fun s => .obs (K.L_pcs s) .ret))
theorem tKG6 : TabOk P BKG6 := TabOk.addLoop (d := 30) okP tKG5 (by kernel_rfl) (by kernel_rfl) (fun s r h => obs_ret h)
noncomputable def I_pcs (a : Curve) (bs : Nat → Bool) := iterT1 P BKG6 30 225 [] (V_pcs.enc a) bs
theorem it_pcs : ∀ a bs, (I_pcs) a bs = T.run (
  .obs (L_pcs ((a, (1 : Int)), PUnit.unit, bs, [])) fun x0 =>
    .sum (x0) (fun x1 =>
      .ret (List.reverse (Prod.snd (Prod.snd (Prod.snd x1))))) (fun x1 =>
      .ret (List.reverse (Prod.snd (Prod.snd (Prod.snd x1)))))) := fun a bs => by kernel_rfl
end Go.Proofs.YtjbhooodjmjdkaaGreat
/-! KH -/
namespace Go.Proofs.YtjbhooodjmjdkaaGreat
open Ev K
set_option maxRecDepth 100000
theorem filter_all {α : Type} (l : List α) : l.filter (fun _ => true) = l := by simp
section
variable (c : Curve) {bs : Nat → Bool}
abbrev K.Sp (c : Curve) (bs : Nat → Bool) (i : Nat) (out : List (List AV × Bool)) := ((c, ((i + 1 : Nat) : Int)), PUnit.unit, bs, out)
abbrev K.pieceAt (x : XS) (i : Nat) : Int × Piece := ((i : Int), ⟨knt x i, knt x (i + 1)⟩)
abbrev K.ep (c : Curve) (i : Nat) : List AV := ePiece (pieceAt c.knots i)
theorem pcs_y (i : Nat) (hi : i < K.len c.knots - 1) (out : List (List AV × Bool)) (hb : bs out.length = true) : st_pcs (Sp c bs i out) = some (.inl (Sp c bs (i + 1) ((ep c i, true) :: out))) := by
  have e1 := K.len_le c.knots; have e2 := K.len_le' c.knots
  rw [sl_pcs]
  simp only [T.run_br, T.run_chk, T.run_ret, decide_eq_true_eq, hb]
  rw [if_pos (by omega), w64_in (n := ((i + 1 : Nat) : Int) - 1) (by omega) (by omega), w64_in (n := ((i + 1 : Nat) : Int) + 1) (by omega) (by omega), if_pos (by omega), if_pos (by omega), if_neg (by simp)]
  rw [show ((i + 1 : Nat) : Int) - 1 = (i : Int) by omega, show ((i + 1 : Nat) : Int) + 1 = ((i + 1 + 1 : Nat) : Int) by omega]
  rfl
theorem pcs_s (i : Nat) (hi : i < K.len c.knots - 1) (out : List (List AV × Bool)) (hb : bs out.length = false) : st_pcs (Sp c bs i out) = some (.inr (.inl ((), (), bs, (ep c i, false) :: out))) := by
  have e1 := K.len_le c.knots; have e2 := K.len_le' c.knots
  rw [sl_pcs]
  simp only [T.run_br, T.run_chk, T.run_ret, decide_eq_true_eq, hb]
  rw [if_pos (by omega), w64_in (n := ((i + 1 : Nat) : Int) - 1) (by omega) (by omega), if_pos (by omega), if_pos (by omega), if_pos (by simp)]
  rw [show ((i + 1 : Nat) : Int) - 1 = (i : Int) by omega]
  rfl
theorem pcs_e (out) : st_pcs (Sp c bs (K.len c.knots - 1) out) = some (.inr (.inr ((), (), bs, out))) := by
  rw [sl_pcs]
  simp only [T.run_br, T.run_chk, T.run_ret, decide_eq_true_eq]
  rw [if_neg (by omega)]
theorem icl_pcs : ICL P 225 [] (V_pcs.enc c) ((piecesL c).map ePiece) := by
  refine iter_of okP tKG6  (d := 30) ?_ (fun m y hy => ?_)
  · show I_pcs c _ = _
    rw [it_pcs]
    show T.run (.obs (lim st_pcs (Sp c _ 0 [])) _) = _
    rw [lim_yields_all (Sp c _) (n := K.len c.knots - 1) (fun _ => true) (ep c) (fun o => Sum.inr ((), (), (fun _ => true), o)) (fun i hi out hp => by cases hp) (fun i hi out hp hb => pcs_y c i hi out hb) (fun out => pcs_e c out) (fun _ => rfl) (K.len c.knots - 1) 0 [] (by omega)]
    simp only [T.run_some, T.run_inr, T.run_ret, List.append_nil, List.reverse_reverse, piecesL, List.map_map, ← List.range_eq_range', filter_all]
    rfl
  · show I_pcs c _ = _
    rw [it_pcs]
    show T.run (.obs (lim st_pcs (Sp c _ 0 [])) _) = _
    have hy' : (((List.range' 0 (K.len c.knots - 1)).filter (fun _ => true)).map (ep c))[m - ([] : List (List AV × Bool)).length]? = some y := by
      rw [← List.range_eq_range']; simpa [piecesL, List.map_map, Function.comp_def, filter_all] using hy
    rw [lim_yields_stop (Sp c _) (n := K.len c.knots - 1) (fun _ => true) (ep c) (fun o => Sum.inl ((), (), (fun k => !(Nat.beq k m)), o)) (fun i hi out hp => by cases hp) (fun i hi out hp hb => pcs_y c i hi out hb) (fun i hi out hp hb => pcs_s c i hi out hb) (fun _ => rfl) (K.len c.knots - 1) 0 [] (by omega) (by simp) hy']
    simp only [T.run_some, T.run_inl, T.run_ret, List.append_nil, List.reverse_cons, List.reverse_reverse, List.length_nil, Nat.sub_zero, ← List.range_eq_range', piecesL, List.map_map, filter_all]
    rfl
end
def R_pcs := dFn 225 V_pcs
theorem fn_pcs : ∀ a, (callT1 P BKG6 30 215 D_crv R_pcs) a = T.run (
  .ret (a)) := fun a => by kernel_rfl
noncomputable def BKH1 : Tab := BKG6.addCall 215 (callE D_crv R_pcs (fun c => .ret c))
theorem tKH1 : TabOk P BKH1 := TabOk.addFn (d := 30) okP tKG6 (fun a r h => by rw [fn_pcs]; exact h)
/-! rising -/
def S_ris := DecS.mk0 (.skips 3 (.unit (dLp 0 0 0 0) (.unit (dLp 1 0 0 0) (.skips 3 (.last R_pcs 18))))) (.flat 4 (.last dB 0) (.flat 4 (.last dB 0) .nil))
noncomputable def K.st_ris := rangeT1 P BKH1 30 191 25 [8, 4, 3] S_ris DecX.no ePiece
theorem rg_ris : ∀ s x, (K.st_ris) s x = T.run (
  .br (Prod.fst (Prod.snd s)) (
    .br (Prod.fst (Prod.snd (Prod.snd s))) (
      .ret (Sum.inl (Prod.fst s, decide (rise (Prod.snd x) > (0 : Int)), decide (rise (Prod.snd x) < (0 : Int)), PUnit.unit))) (
      .ret (Sum.inl (Prod.fst s, decide (rise (Prod.snd x) > (0 : Int)), false, PUnit.unit)))) (
    .br (Prod.fst (Prod.snd (Prod.snd s))) (
      .ret (Sum.inl (Prod.fst s, false, decide (rise (Prod.snd x) < (0 : Int)), PUnit.unit))) (
      .ret (Sum.inl (Prod.fst s, false, false, PUnit.unit))))) := fun s x => by kernel_rfl
def K.upDown (L : List (Int × Piece)) (u d : Bool) : Bool × Bool := L.foldl (fun s p => (s.1 && decide (rise p.2 > 0), s.2 && decide (rise p.2 < 0))) (u, d)
theorem st_ris_eq (s) (x : Int × Piece) : st_ris s x = some (.inl (s.1, s.2.1 && decide (rise x.2 > 0), s.2.2.1 && decide (rise x.2 < 0), ())) := by
  rw [rg_ris]; simp only [T.run_br, T.run_ret]; cases s.2.1 <;> cases s.2.2.1 <;> rfl
theorem fold_ris (L : List (Int × Piece)) (c : Curve) (u d : Bool) : L.foldl (fun (s : Curve × Bool × Bool × Unit) x => (s.1, s.2.1 && decide (rise x.2 > 0), s.2.2.1 && decide (rise x.2 < 0), ())) (c, u, d, ()) = (c, (upDown L u d).1, (upDown L u d).2, ()) := by
  induction L generalizing u d with
  | nil => rfl
  | cons x L ih => simp only [List.foldl_cons, upDown]; exact ih _ _
noncomputable def BKH2 : Tab := BKH1.addNode 191 25 (rangeE [8, 4, 3] S_ris DecX.no (fun s => .ret (.inl (s.1, (upDown (piecesL s.1) s.2.1 s.2.2.1).1, (upDown (piecesL s.1) s.2.1 s.2.2.1).2, ()))))
theorem tKH2 : TabOk P BKH2 := TabOk.addRange (d := 30) (enc := ePiece) (L := (fun s => piecesL s.1)) okP tKH1 (by kernel_rfl) (by kernel_rfl) (fun s r h => ⟨_, _, _, (by kernel_rfl : _ = some (225, [], V_pcs.enc s.1)), icl_pcs s.1⟩) (fun s r h => by have e := ret_some h; subst e; rw [← fold_ris]; exact foldS_total st_ris_eq _ _)
theorem fn_rising : ∀ a, (callT1 P BKH2 30 191 D_crv (dI .i64)) a = T.run (
  .br (Prod.fst (upDown (piecesL a) true true)) (
    .ret ((1 : Int))) (
    .br (Prod.snd (upDown (piecesL a) true true)) (
      .ret ((-1 : Int))) (
      .ret ((0 : Int))))) := fun a => by kernel_rfl
noncomputable def K.rising (a : Curve) : Int := (if (Prod.fst (upDown (piecesL a) true true)) = true then (1 : Int) else (if (Prod.snd (upDown (piecesL a) true true)) = true then (-1 : Int) else (0 : Int)))
theorem eq_rising (a : Curve) : (callT1 P BKH2 30 191 D_crv (dI .i64)) a = some (K.rising a) := (fn_rising a).trans (T.br_some rfl (T.br_some rfl rfl))
noncomputable def BKH3 : Tab := BKH2.addCall 191 (callE D_crv (dI .i64) (fun a => .ret (K.rising a)))
theorem tKH3 : TabOk P BKH3 := TabOk.addFn (d := 30) okP tKH2 (fun a r h => by rw [eq_rising]; exact congrArg some (ret_some h))
def R_rsg := dTup (.cons (dI .i64) (.last (dI .i64) 0))
theorem fn_Rising : ∀ a, (callT1 P BKH3 30 147 D_crv R_rsg) a = T.run (
  .br (curveCheck a != (0 : Int)) (
    .ret (((0 : Int), curveCheck a))) (
    .ret ((rising a, (0 : Int))))) := fun a => by kernel_rfl
noncomputable def K.Rising (a : Curve) : Int × Int := (if (curveCheck a != (0 : Int)) = true then ((0 : Int), curveCheck a) else (rising a, (0 : Int)))
theorem eq_Rising (a : Curve) : (callT1 P BKH3 30 147 D_crv R_rsg) a = some (K.Rising a) := (fn_Rising a).trans (T.br_some rfl rfl)
noncomputable def BKH4 : Tab := BKH3.addCall 147 (callE D_crv R_rsg (fun a => .ret (K.Rising a)))
theorem tKH4 : TabOk P BKH4 := TabOk.addFn (d := 30) okP tKH3 (fun a r h => by rw [eq_Rising]; exact congrArg some (ret_some h))
theorem fn_tm : ∀ a, (callT1 P BKH4 30 192 D_crv dSpan) a = T.run (
  .chk (decide ((0 : Int) ≤ (0 : Int) ∧ (0 : Int) < (↑(XS.len (Curve.knots a)) : Int))) <|
  .chk (decide ((0 : Int) ≤ IntKind.wrap IntKind.i64 ((↑(len (Curve.knots a)) : Int) - (1 : Int)) ∧ IntKind.wrap IntKind.i64 ((↑(len (Curve.knots a)) : Int) - (1 : Int)) < (↑(XS.len (Curve.knots a)) : Int))) <|
  .ret (Span.mk (IntKind.wrap IntKind.i64 (XS.g (Curve.knots a) (nat_lit 0) (0 : Nat) * (40 : Int))) (IntKind.wrap IntKind.i64 (XS.g (Curve.knots a) (Int.toNat (IntKind.wrap IntKind.i64 ((↑(len (Curve.knots a)) : Int) - (1 : Int)))) (0 : Nat) * (40 : Int))))) := fun a => by kernel_rfl
def K.massesOf (c : Curve) : Span := ⟨IntKind.i64.wrap (c.knots.g 0 0 * 40), IntKind.i64.wrap (c.knots.g (len c.knots - 1) 0 * 40)⟩
theorem K.massesOf_eq (c : Curve) (h : 0 < len c.knots) : callT1 P BKH4 30 192 D_crv dSpan c = some (massesOf c) := by
  have e1 := K.len_le c.knots; have e2 := K.len_le' c.knots
  rw [fn_tm]
  simp only [T.run_br, T.run_chk, T.run_ret, decide_eq_true_eq]
  rw [w64_in (n := (len c.knots : Int) - 1) (by omega) (by omega), if_pos (by omega), if_pos (by omega)]
  rw [show ((len c.knots : Int) - 1).toNat = len c.knots - 1 by omega]; rfl
noncomputable def BKH5 : Tab := BKH4.addCall 192 (callE D_crv dSpan (fun c => .chk (decide (0 < len c.knots)) (.ret (massesOf c))))
theorem tKH5 : TabOk P BKH5 := TabOk.addFn (d := 30) okP tKH4 (fun a r h => by obtain ⟨g, e⟩ := chk_ret h; subst e; exact K.massesOf_eq a (by simpa using g))
def D_tbl := DecL.cons (dShip) (.last (dCurve) 0)
theorem fn_tbl : ∀ a, (callT1 P BKH5 30 149 D_tbl (dI .i64)) a = T.run (
  .chk (decide ((0 : Nat) < len (Curve.knots (Prod.snd a)))) <|
  .br (decide (Span.lo (massesOf (Prod.snd a)) > Ship.light (Prod.fst a))) (
    .ret ((1 : Int))) (
    .br (decide (Span.hi (massesOf (Prod.snd a)) < rooms (Prod.fst a))) (
      .ret ((1 : Int))) (
      .br (has_tab1 PUnit.unit (Curve.knots (Prod.snd a))) (
        .ret ((1 : Int))) (
        .ret ((0 : Int)))))) := fun a => by kernel_rfl
def K.tabled (s : Ship) (c : Curve) : Int := if (massesOf c).lo > s.light then 1 else if (massesOf c).hi < rooms s then 1 else if has_tab1 () c.knots = true then 1 else 0
theorem K.tabled_eq (a : Ship × Curve) (h : 0 < len a.2.knots) : callT1 P BKH5 30 149 D_tbl (dI .i64) a = some (tabled a.1 a.2) := by
  rw [fn_tbl]; unfold tabled
  simp only [T.run_br, T.run_chk, T.run_ret, decide_eq_true_eq, h, if_true]
  split
  · rfl
  split
  · rfl
  split <;> rfl
noncomputable def BKH6 : Tab := BKH5.addCall 149 (callE D_tbl (dI .i64) (fun a => .chk (decide (0 < len a.2.knots)) (.ret (tabled a.1 a.2))))
theorem tKH6 : TabOk P BKH6 := TabOk.addFn (d := 30) okP tKH5 (fun a r h => by obtain ⟨g, e⟩ := chk_ret h; subst e; exact K.tabled_eq a (by simpa using g))
end Go.Proofs.YtjbhooodjmjdkaaGreat
/-! KI -/
namespace Go.Proofs.YtjbhooodjmjdkaaGreat
open Ev K
set_option maxRecDepth 100000
def S_hc := DecS.mk0 (.skip (.unit (dLp 0 0 0 0) (.skips 43 (.cons xHolds (.cons (dI .i64) (.last (dI .i64) 66)))))) (.flat 27 lShip .nil)
def S_hcx := DecS.mk0 (.skip (.unit (dLp 0 0 0 0) (.tops 112))) (.flat 27 lShip .nil)
def X_hc := DecX.or (DecX.one .ret [2] (DecS.mk1 (.skips 2 (.last (dI .i64) 111)))) (DecX.one (.exit 0) [1] S_hcx)
noncomputable def K.st_hc := loopT1 P BKH6 30 100 49 [47, 1, 45, 46] S_hc X_hc
theorem sl_hc : ∀ s, (K.st_hc) s = T.run (
  .br (decide (Prod.snd (Prod.snd (Prod.fst s)) < Prod.fst (Prod.snd (Prod.fst s)))) (
    .chk (decide ((0 : Int) ≤ Prod.snd (Prod.snd (Prod.fst s)) ∧ Prod.snd (Prod.snd (Prod.fst s)) < (↑(XS.len (Prod.fst (Prod.fst s))) : Int))) <|
    .br (!within (XS.g (Prod.fst (Prod.fst s)) (Int.toNat (Prod.snd (Prod.snd (Prod.fst s)))) (0 : Nat)) (1 : Int) (1099511627776 : Int)) (
      .ret (Sum.inr (Sum.inl (1 : Int)))) (
      .br (!within (XS.g (Prod.fst (Prod.fst s)) (Int.toNat (Prod.snd (Prod.snd (Prod.fst s)))) (1 : Nat)) (0 : Int) (65536 : Int)) (
        .ret (Sum.inr (Sum.inl (1 : Int)))) (
        .br (!placed (XS.g (Prod.fst (Prod.fst s)) (Int.toNat (Prod.snd (Prod.snd (Prod.fst s)))) (2 : Nat), XS.g (Prod.fst (Prod.fst s)) (Int.toNat (Prod.snd (Prod.snd (Prod.fst s)))) (3 : Nat))) (
          .ret (Sum.inr (Sum.inl (1 : Int)))) (
          .chk (decide ((0 : Int) ≤ Prod.snd (Prod.snd (Prod.fst s)) ∧ Prod.snd (Prod.snd (Prod.fst s)) ≤ (↑(XS.len (Ship.holds (Prod.fst (Prod.snd s)))) : Int)) && true) <|
          .br (has_hul1 (hld (Prod.fst (Prod.fst s)) (Int.toNat (Prod.snd (Prod.snd (Prod.fst s))))) (XS.mk (XS.n (Ship.holds (Prod.fst (Prod.snd s)))) (XS.row (Ship.holds (Prod.fst (Prod.snd s))) + (0 : Nat)) (Int.toNat (Prod.snd (Prod.snd (Prod.fst s))) - (0 : Nat)) (Option.rec none (fun val => some (val - (0 : Nat))) (XS.cap (Ship.holds (Prod.fst (Prod.snd s))))) (XS.f (Ship.holds (Prod.fst (Prod.snd s)))))) (
            .ret (Sum.inr (Sum.inl (6 : Int)))) (
            .ret (Sum.inl ((Prod.fst (Prod.fst s), Prod.fst (Prod.snd (Prod.fst s)), IntKind.wrap IntKind.i64 (Prod.snd (Prod.snd (Prod.fst s)) + (1 : Int))), Prod.fst (Prod.snd s), PUnit.unit))))))) (
    .ret (Sum.inr (Sum.inr (PUnit.unit, Prod.fst (Prod.snd s), PUnit.unit))))) := fun s => by kernel_rfl
noncomputable def K.L_hc := lim K.st_hc
def K.twice (x : XS) (i : Nat) : Bool := (first (fun j => x.g j 0 == (hld x i).id) i).isSome
noncomputable def K.hldE (x : XS) (i : Nat) : Option Int := if (!within (x.g i 0) 1 1099511627776) = true then some 1 else if (!within (x.g i 1) 0 65536) = true then some 1 else if (!placed (x.g i 2, x.g i 3)) = true then some 1 else if twice x i = true then some 6 else none
theorem K.has_cut (x : XS) (c : Hold) (i : Nat) (cap : Option Nat) (hi : i ≤ 9223372036854775807) : has_hul1 c (XS.mk x.n (x.row + 0) (i - 0) cap x.f) = (first (fun j => x.g j 0 == c.id) i).isSome := by
  unfold has_hul1
  rw [show K.len (XS.mk x.n (x.row + 0) (i - 0) cap x.f) = i from clampL_eq (by show i - 0 ≤ maxL; unfold maxL; omega)]
  rfl
theorem K.L_hc_eq (s : Ship) : K.L_hc ((s.holds, (len s.holds : Int), 0), s, ()) = some (K.orr Sum.inl (.inr ((), s, ())) ((List.range (len s.holds)).findSome? (hldE s.holds))) := by
  have e1 := K.len_le s.holds; have e2 := K.len_le' s.holds
  refine lim_err (fun i => ((s.holds, (len s.holds : Int), (i : Int)), s, ())) (len s.holds) (hldE s.holds) Sum.inl (Sum.inr ((), s, ())) (fun i hi => ?_) ?_
  · rw [sl_hc]
    simp only [T.run_br, T.run_chk, T.run_ret, decide_eq_true_eq, Int.toNat_natCast]
    rw [if_pos (by omega), if_pos (by omega), w64_in (n := (i : Int) + 1) (by omega) (by omega)]
    rw [if_pos (show (decide ((0 : Int) ≤ i ∧ (i : Int) ≤ s.holds.len) && true) = true by simp; omega), K.has_cut s.holds _ i _ (by omega)]
    unfold K.hldE K.twice K.orr
    split
    · simp_all
    split
    · simp_all
    split
    · simp_all
    split
    · simp_all
    simp_all
  · rw [sl_hc]
    simp only [T.run_br, T.run_chk, T.run_ret, decide_eq_true_eq]
    rw [if_neg (by omega)]
noncomputable def BKI1 : Tab := BKH6.addNode 100 49 (nodeE [47, 1, 45, 46] S_hc X_hc (fun s => .obs (K.L_hc s) .ret))
theorem tKI1 : TabOk P BKI1 := TabOk.addLoop (d := 30) okP tKH6 (by kernel_rfl) (by kernel_rfl) (fun s r h => obs_ret h)
def R_i := dI .i64
theorem fn_hc : ∀ a, (callT1 P BKI1 30 100 D_ship R_i) a = T.run (
  .br (!within (Ship.id a) (1 : Int) (1099511627776 : Int)) (
    .ret ((1 : Int))) (
    .br (!within (Ship.light a) (1 : Int) (65536 : Int)) (
      .ret ((1 : Int))) (
      .br (!placed (Ship.lever a, Ship.height a)) (
        .ret ((1 : Int))) (
        .br (!within (Ship.turn a) (1 : Int) (1048576 : Int)) (
          .ret ((1 : Int))) (
          .br (!within (Ship.least a) (0 : Int) (5000 : Int)) (
            .ret ((1 : Int))) (
            .br (decide ((↑(len (Ship.holds a)) : Int) > (8 : Int))) (
              .ret ((2 : Int))) (
              .obs (L_hc ((Ship.holds a, (↑(len (Ship.holds a)) : Int), (0 : Int)), a, PUnit.unit)) fun x0 =>
                .sum (x0) (fun x1 =>
                  .ret (x1)) (fun x1 =>
                  .br (decide (rooms (Prod.fst (Prod.snd x1)) > (65536 : Int))) (
                    .ret ((1 : Int))) (
                    .br (curveCheck (Ship.mean (Prod.fst (Prod.snd x1))) != (0 : Int)) (
                      .ret (curveCheck (Ship.mean (Prod.fst (Prod.snd x1))))) (
                      .br (curveCheck (Ship.mc (Prod.fst (Prod.snd x1))) != (0 : Int)) (
                        .ret (curveCheck (Ship.mc (Prod.fst (Prod.snd x1))))) (
                        .br (Prod.fst (Rising (Ship.mean (Prod.fst (Prod.snd x1)))) != (1 : Int)) (
                          .ret ((1 : Int))) (
                          .chk (decide ((0 : Nat) < len (Curve.knots (Ship.mean (Prod.fst (Prod.snd x1)))))) <|
                          .chk (decide ((0 : Nat) < len (Curve.knots (Ship.mc (Prod.fst (Prod.snd x1)))))) <|
                          .br (tabled (Prod.fst (Prod.snd x1)) (Ship.mean (Prod.fst (Prod.snd x1))) != (0 : Int)) (
                            .ret (tabled (Prod.fst (Prod.snd x1)) (Ship.mean (Prod.fst (Prod.snd x1))))) (
                            .br (tabled (Prod.fst (Prod.snd x1)) (Ship.mc (Prod.fst (Prod.snd x1))) != (0 : Int)) (
                              .ret (tabled (Prod.fst (Prod.snd x1)) (Ship.mc (Prod.fst (Prod.snd x1))))) (
                              .ret ((0 : Int)))))))))))))))) := fun a => by kernel_rfl
noncomputable def K.hullCheck (s : Ship) : Int :=
  if (!within s.id 1 1099511627776) = true then 1 else if (!within s.light 1 65536) = true then 1 else if (!placed (s.lever, s.height)) = true then 1 else if (!within s.turn 1 1048576) = true then 1 else
  if (!within s.least 0 5000) = true then 1 else if decide ((len s.holds : Int) > 8) = true then 2 else
  K.orr id (if decide (rooms s > 65536) = true then 1 else if (curveCheck s.mean != 0) = true then curveCheck s.mean else if (curveCheck s.mc != 0) = true then curveCheck s.mc else if ((Rising s.mean).1 != 1) = true then 1 else
    if (tabled s s.mean != 0) = true then tabled s s.mean else if (tabled s s.mc != 0) = true then tabled s s.mc else 0) ((List.range (len s.holds)).findSome? (hldE s.holds))
theorem K.curve_pos {c : Curve} (h : ¬ (curveCheck c != 0) = true) : 0 < len c.knots := by
  rcases Nat.eq_zero_or_pos (len c.knots) with h0 | h0
  · exfalso; apply h; unfold curveCheck; rw [h0, if_neg (by decide), if_pos (by decide)]; decide
  · exact h0
theorem K.hullCheck_eq (s : Ship) : callT1 P BKI1 30 100 D_ship R_i s = some (hullCheck s) := by
  rw [fn_hc]; unfold hullCheck
  refine br_step (fun _ => rfl) (fun _ => ?_)
  refine br_step (fun _ => rfl) (fun _ => ?_)
  refine br_step (fun _ => rfl) (fun _ => ?_)
  refine br_step (fun _ => rfl) (fun _ => ?_)
  refine br_step (fun _ => rfl) (fun _ => ?_)
  refine br_step (fun _ => rfl) (fun _ => ?_)
  rw [K.L_hc_eq]
  cases (List.range (len s.holds)).findSome? (hldE s.holds) with
  | some e => rfl
  | none =>
    refine br_step (fun _ => rfl) (fun _ => ?_)
    refine br_step (fun _ => rfl) (fun h1 => ?_)
    refine br_step (fun _ => rfl) (fun h2 => ?_)
    refine br_step (fun _ => rfl) (fun _ => ?_)
    refine chk_step (by simpa using curve_pos h1) (chk_step (by simpa using curve_pos h2) ?_)
    exact br_step (fun _ => rfl) (fun _ => br_step (fun _ => rfl) (fun _ => rfl))
noncomputable def BKI2 : Tab := BKI1.addCall 100 (callE D_ship R_i (fun s => .ret (K.hullCheck s)))
theorem tKI2 : TabOk P BKI2 := TabOk.addFn (d := 30) okP tKI1 (fun a r h => by rw [K.hullCheck_eq]; exact congrArg some (ret_some h))
end Go.Proofs.YtjbhooodjmjdkaaGreat
/-! KL -/
namespace Go.Proofs.YtjbhooodjmjdkaaGreat
open Ev K
set_option maxRecDepth 100000
/-! where -/
def S_wh := DecS.mk0 (.skip (.cons (dI .i64) (.unit (dLp 0 0 0 0) (.skip (.unit (dLp 1 0 0 0) (.last (dI .i64) 59)))))) (.flat 25 lCurve (.flat 161 (.cons (dI .i64) (.last (dI .i64) 0)) .nil))
def S_whx := DecS.mk0 (.skips 2 (.unit (dLp 0 0 0 0) (.skip (.unit (dLp 1 0 0 0) (.tops 60))))) (.flat 25 lCurve (.flat 161 (.cons (dI .i64) (.last (dI .i64) 0)) .nil))
def S_whr := DecS.mk0 (.skips 4 (.unit (dLp 0 0 0 0) (.tops 60))) (.flat 161 (.cons (dI .i64) (.last (dI .i64) 0)) .nil)
def X_wh := DecX.or (DecX.one .ret [4] S_whr) (DecX.one (.exit 0) [4, 2] S_whx)
noncomputable def K.st_wh := loopT1 P BKI2 30 141 17 [4, 1, 5, 2] S_wh X_wh
theorem sl_wh : ∀ s, (K.st_wh) s = T.run (
  .br (decide (Prod.snd (Prod.fst s) < (↑(len (Curve.knots (Prod.fst (Prod.snd s)))) : Int))) (
    .chk (decide ((0 : Int) ≤ IntKind.wrap IntKind.i64 (Prod.snd (Prod.fst s) - (1 : Int)) ∧ IntKind.wrap IntKind.i64 (Prod.snd (Prod.fst s) - (1 : Int)) < (↑(XS.len (Curve.knots (Prod.fst (Prod.snd s)))) : Int))) <|
    .chk (decide ((0 : Int) ≤ Prod.snd (Prod.fst s) ∧ Prod.snd (Prod.fst s) < (↑(XS.len (Curve.knots (Prod.fst (Prod.snd s)))) : Int))) <|
    .br (within (Prod.fst (Prod.fst s)) (IntKind.wrap IntKind.i64 ((16 : Int) * XS.g (Curve.knots (Prod.fst (Prod.snd s))) (Int.toNat (IntKind.wrap IntKind.i64 (Prod.snd (Prod.fst s) - (1 : Int)))) (1 : Nat))) (IntKind.wrap IntKind.i64 ((16 : Int) * XS.g (Curve.knots (Prod.fst (Prod.snd s))) (Int.toNat (Prod.snd (Prod.fst s))) (1 : Nat)))) (
      .ret (Sum.inr (Sum.inl (PUnit.unit, (IntKind.wrap IntKind.i64 (IntKind.wrap IntKind.i64 (XS.g (Curve.knots (Prod.fst (Prod.snd s))) (Int.toNat (IntKind.wrap IntKind.i64 (Prod.snd (Prod.fst s) - (1 : Int)))) (0 : Nat) * IntKind.wrap IntKind.i64 ((16 : Int) * IntKind.wrap IntKind.i64 (XS.g (Curve.knots (Prod.fst (Prod.snd s))) (Int.toNat (Prod.snd (Prod.fst s))) (1 : Nat) - XS.g (Curve.knots (Prod.fst (Prod.snd s))) (Int.toNat (IntKind.wrap IntKind.i64 (Prod.snd (Prod.fst s) - (1 : Int)))) (1 : Nat)))) + IntKind.wrap IntKind.i64 (IntKind.wrap IntKind.i64 (Prod.fst (Prod.fst s) - IntKind.wrap IntKind.i64 ((16 : Int) * XS.g (Curve.knots (Prod.fst (Prod.snd s))) (Int.toNat (IntKind.wrap IntKind.i64 (Prod.snd (Prod.fst s) - (1 : Int)))) (1 : Nat))) * IntKind.wrap IntKind.i64 (XS.g (Curve.knots (Prod.fst (Prod.snd s))) (Int.toNat (Prod.snd (Prod.fst s))) (0 : Nat) - XS.g (Curve.knots (Prod.fst (Prod.snd s))) (Int.toNat (IntKind.wrap IntKind.i64 (Prod.snd (Prod.fst s) - (1 : Int)))) (0 : Nat)))), IntKind.wrap IntKind.i64 ((16 : Int) * IntKind.wrap IntKind.i64 (XS.g (Curve.knots (Prod.fst (Prod.snd s))) (Int.toNat (Prod.snd (Prod.fst s))) (1 : Nat) - XS.g (Curve.knots (Prod.fst (Prod.snd s))) (Int.toNat (IntKind.wrap IntKind.i64 (Prod.snd (Prod.fst s) - (1 : Int)))) (1 : Nat)))), PUnit.unit)))) (
      .ret (Sum.inl ((Prod.fst (Prod.fst s), IntKind.wrap IntKind.i64 (Prod.snd (Prod.fst s) + (1 : Int))), Prod.fst (Prod.snd s), Prod.fst (Prod.snd (Prod.snd s)), PUnit.unit)))) (
    .ret (Sum.inr (Sum.inr (PUnit.unit, Prod.fst (Prod.snd s), Prod.fst (Prod.snd (Prod.snd s)), PUnit.unit))))) := fun s => by kernel_rfl
noncomputable def K.L_wh := lim K.st_wh
noncomputable def BKL1 : Tab := BKI2.addNode 141 17 (nodeE [4, 1, 5, 2] S_wh X_wh (fun s => .obs (K.L_wh s) .ret))
theorem tKL1 : TabOk P BKL1 := TabOk.addLoop (d := 30) okP tKI2 (by kernel_rfl) (by kernel_rfl) (fun s r h => obs_ret h)
def D_wh := DecL.cons (dCurve) (.last (dI .i64) 0)
theorem fn_wh : ∀ a, (callT1 P BKL1 30 141 D_wh dRatio) a = T.run (
  .obs (L_wh ((Prod.snd a, (1 : Int)), Prod.fst a, ((0 : Int), (0 : Int)), PUnit.unit)) fun x0 =>
    .sum (x0) (fun x1 =>
      .ret (Frac.mk (Prod.fst (Prod.fst (Prod.snd x1))) (Prod.snd (Prod.fst (Prod.snd x1))))) (fun x1 =>
      .chk (decide ((0 : Int) ≤ (0 : Int) ∧ (0 : Int) < (↑(XS.len (Curve.knots (Prod.fst (Prod.snd x1)))) : Int))) <|
      .ret (Frac.mk (XS.g (Curve.knots (Prod.fst (Prod.snd x1))) (nat_lit 0) (0 : Nat)) (1 : Int)))) := fun a => by kernel_rfl
def K.inPiece (x : XS) (y : Int) (i : Nat) : Bool := within y (IntKind.i64.wrap (16 * x.g i 1)) (IntKind.i64.wrap (16 * x.g (i + 1) 1))
def K.riseAt (x : XS) (i : Nat) : Int := IntKind.i64.wrap (16 * IntKind.i64.wrap (x.g (i + 1) 1 - x.g i 1))
def K.ratioAt (x : XS) (y : Int) (i : Nat) : Frac := ⟨IntKind.i64.wrap (IntKind.i64.wrap (x.g i 0 * riseAt x i) + IntKind.i64.wrap (IntKind.i64.wrap (y - IntKind.i64.wrap (16 * x.g i 1)) * IntKind.i64.wrap (x.g (i + 1) 0 - x.g i 0))), riseAt x i⟩
def K.whereOf (c : Curve) (y : Int) : Frac := match first (inPiece c.knots y) (len c.knots - 1) with
  | some i => ratioAt c.knots y i
  | none => ⟨c.knots.g 0 0, 1⟩
abbrev K.Swh (c : Curve) (y : Int) (i : Nat) := ((y, ((i + 1 : Nat) : Int)), c, ((0 : Int), (0 : Int)), ())
theorem K.L_wh_eq (c : Curve) (y : Int) : K.L_wh ((y, 1), c, (0, 0), ()) = some (match first (inPiece c.knots y) (len c.knots - 1) with | some i => (Sum.inl ((), ((ratioAt c.knots y i).num, (ratioAt c.knots y i).den), ()) : (Unit × (Int × Int) × Unit) ⊕ (Unit × Curve × (Int × Int) × Unit)) | none => .inr ((), c, (0, 0), ())) := by
  have e1 := K.len_le c.knots; have e2 := K.len_le' c.knots
  refine lim_find (Swh c y) (len c.knots - 1) (inPiece c.knots y) (fun i => (Sum.inl ((), ((ratioAt c.knots y i).num, (ratioAt c.knots y i).den), ()) : (Unit × (Int × Int) × Unit) ⊕ (Unit × Curve × (Int × Int) × Unit))) (.inr ((), c, (0, 0), ())) (fun i hi hp => ?_) (fun i hi hp => ?_) ?_
  · rw [sl_wh]
    unfold inPiece at hp
    simp only [T.run_br, T.run_chk, T.run_ret, decide_eq_true_eq]
    rw [if_pos (by omega), w64_in (n := ((i + 1 : Nat) : Int) - 1) (by omega) (by omega), if_pos (by omega), if_pos (by omega)]
    rw [show ((i + 1 : Nat) : Int) - 1 = (i : Int) by omega, Int.toNat_natCast, Int.toNat_natCast, if_pos hp]; rfl
  · rw [sl_wh]
    unfold inPiece at hp
    simp only [T.run_br, T.run_chk, T.run_ret, decide_eq_true_eq]
    rw [if_pos (by omega), w64_in (n := ((i + 1 : Nat) : Int) - 1) (by omega) (by omega), if_pos (by omega), if_pos (by omega)]
    rw [show ((i + 1 : Nat) : Int) - 1 = (i : Int) by omega, Int.toNat_natCast, Int.toNat_natCast, if_neg (by simp [hp]), w64_in (by omega) (by omega)]; rfl
  · rw [sl_wh]
    simp only [T.run_br, T.run_chk, T.run_ret, decide_eq_true_eq]
    rw [if_neg (by omega)]
theorem K.whereOf_eq (a : Curve × Int) (h : 0 < len a.1.knots) : callT1 P BKL1 30 141 D_wh dRatio a = some (whereOf a.1 a.2) := by
  have e2 := K.len_le' a.1.knots
  rw [fn_wh, K.L_wh_eq]; unfold whereOf
  cases first (inPiece a.1.knots a.2) (len a.1.knots - 1) with
  | some i => rfl
  | none => exact chk_step (by simp; omega) rfl
noncomputable def BKL2 : Tab := BKL1.addCall 141 (callE D_wh dRatio (fun a => .chk (decide (0 < len a.1.knots)) (.ret (whereOf a.1 a.2))))
theorem tKL2 : TabOk P BKL2 := TabOk.addFn (d := 30) okP tKL1 (fun a r h => by obtain ⟨g, e⟩ := chk_ret h; subst e; exact K.whereOf_eq a (by simpa using g))
def S_hv := DecS.mk1 (.skips 3 (.cons (dI .i64) (.skips 5 (.cons xHolds (.cons (dI .i64) (.last (dI .i64) 9))))))
noncomputable def K.st_hv := loopT1 P BKL2 30 117 25 [11, 3, 9, 10] S_hv X_rms
theorem sl_hv : ∀ s, (K.st_hv) s = T.run (
  .br (decide (Prod.snd (Prod.snd (Prod.snd s)) < Prod.fst (Prod.snd (Prod.snd s)))) (
    .chk (decide ((0 : Int) ≤ Prod.snd (Prod.snd (Prod.snd s)) ∧ Prod.snd (Prod.snd (Prod.snd s)) < (↑(XS.len (Prod.fst (Prod.snd s))) : Int))) <|
    .ret (Sum.inl (IntKind.wrap IntKind.i64 (Prod.fst s + XS.g (Prod.fst (Prod.snd s)) (Int.toNat (Prod.snd (Prod.snd (Prod.snd s)))) (1 : Nat)), Prod.fst (Prod.snd s), Prod.fst (Prod.snd (Prod.snd s)), IntKind.wrap IntKind.i64 (Prod.snd (Prod.snd (Prod.snd s)) + (1 : Int))))) (
    .ret (Sum.inr (Prod.fst s)))) := fun s => by kernel_rfl
noncomputable def K.L_hv := lim K.st_hv
theorem K.L_hv_eq (x : XS) (a : Int) : K.L_hv (a, x, (len x : Int), 0) = some (sumRooms x a) := by
  have e1 := K.len_le x; have e2 := K.len_le' x
  refine lim_fold (fun i a => (a, x, (len x : Int), (i : Int))) (len x) (fun a i => IntKind.i64.wrap (a + x.g i 1)) id (fun i hi a => ?_) (fun a => ?_) a
  · rw [sl_hv]
    simp only [T.run_br, T.run_chk, T.run_ret, decide_eq_true_eq, Int.toNat_natCast]
    rw [if_pos (by omega), if_pos (by omega), w64_in (n := (i : Int) + 1) (by omega) (by omega)]; simp
  · rw [sl_hv]
    simp only [T.run_br, T.run_chk, T.run_ret, decide_eq_true_eq]
    rw [if_neg (by omega)]; rfl
noncomputable def BKL3 : Tab := BKL2.addNode 117 25 (nodeE [11, 3, 9, 10] S_hv X_rms (fun s => .obs (K.L_hv s) .ret))
theorem tKL3 : TabOk P BKL3 := TabOk.addLoop (d := 30) okP tKL2 (by kernel_rfl) (by kernel_rfl) (fun s r h => obs_ret h)
theorem fn_hv : ∀ a, (callT1 P BKL3 30 117 D_ship R_i) a = T.run (
  .obs (L_hv (Ship.light a, Ship.holds a, (↑(len (Ship.holds a)) : Int), (0 : Int))) fun x0 =>
    .ret (x0)) := fun a => by kernel_rfl
noncomputable def BKL4 : Tab := BKL3.addCall 117 (callE D_ship R_i (fun s => .ret (K.rooms s)))
theorem tKL4 : TabOk P BKL4 := TabOk.addFn (d := 30) okP tKL3 (fun a r h => by rw [fn_hv, K.L_hv_eq, ← ret_some h]; rfl)
def D_vol := DecL.cons (dShip) (.last (dSurvey) 0)
def R_vol : Dec ((Frac × Frac) × Bool) := (dTup (.cons (dAgg (.cons (dI .i64) (.cons (dI .i64) (.cons (dI .i64) (.last (dI .i64) 0))))) (.last dB 0))).iso (fun p => ((⟨p.1.1, p.1.2.1⟩, ⟨p.1.2.2.1, p.1.2.2.2⟩), p.2)) (fun s => ((s.1.1.num, s.1.1.den, s.1.2.num, s.1.2.den), s.2)) (fun _ => rfl)
theorem fn_vol : ∀ a, (callT1 P BKL4 30 97 D_vol R_vol) a = T.run (
  .chk (decide ((0 : Int) ≤ (0 : Int) ∧ (0 : Int) < (↑(XS.len (Curve.knots (Ship.mean (Prod.fst a)))) : Int))) <|
  .chk (decide ((0 : Int) ≤ IntKind.wrap IntKind.i64 ((↑(len (Curve.knots (Ship.mean (Prod.fst a)))) : Int) - (1 : Int)) ∧ IntKind.wrap IntKind.i64 ((↑(len (Curve.knots (Ship.mean (Prod.fst a)))) : Int) - (1 : Int)) < (↑(XS.len (Curve.knots (Ship.mean (Prod.fst a)))) : Int))) <|
  .br (void (meet (Span.mk (IntKind.wrap IntKind.i64 (sums16 (Prod.fst (Prod.fst (extremes (Prod.snd a)))) - IntKind.wrap IntKind.i64 ((16 : Int) * Curve.err (Ship.mean (Prod.fst a))))) (IntKind.wrap IntKind.i64 (sums16 (Prod.snd (Prod.fst (extremes (Prod.snd a)))) + IntKind.wrap IntKind.i64 ((16 : Int) * Curve.err (Ship.mean (Prod.fst a)))))) (Span.mk (IntKind.wrap IntKind.i64 ((16 : Int) * XS.g (Curve.knots (Ship.mean (Prod.fst a))) (nat_lit 0) (1 : Nat))) (IntKind.wrap IntKind.i64 ((16 : Int) * XS.g (Curve.knots (Ship.mean (Prod.fst a))) (Int.toNat (IntKind.wrap IntKind.i64 ((↑(len (Curve.knots (Ship.mean (Prod.fst a)))) : Int) - (1 : Int)))) (1 : Nat)))))) (
    .ret (((Frac.mk (0 : Int) (0 : Int), Frac.mk (0 : Int) (0 : Int)), false))) (
    .chk (decide ((0 : Nat) < len (Curve.knots (Ship.mean (Prod.fst a))))) <|
    .chk (decide ((0 : Nat) < len (Curve.knots (Ship.mean (Prod.fst a))))) <|
    .ret (((whereOf (Ship.mean (Prod.fst a)) (Span.lo (meet (Span.mk (IntKind.wrap IntKind.i64 (sums16 (Prod.fst (Prod.fst (extremes (Prod.snd a)))) - IntKind.wrap IntKind.i64 ((16 : Int) * Curve.err (Ship.mean (Prod.fst a))))) (IntKind.wrap IntKind.i64 (sums16 (Prod.snd (Prod.fst (extremes (Prod.snd a)))) + IntKind.wrap IntKind.i64 ((16 : Int) * Curve.err (Ship.mean (Prod.fst a)))))) (Span.mk (IntKind.wrap IntKind.i64 ((16 : Int) * XS.g (Curve.knots (Ship.mean (Prod.fst a))) (nat_lit 0) (1 : Nat))) (IntKind.wrap IntKind.i64 ((16 : Int) * XS.g (Curve.knots (Ship.mean (Prod.fst a))) (Int.toNat (IntKind.wrap IntKind.i64 ((↑(len (Curve.knots (Ship.mean (Prod.fst a)))) : Int) - (1 : Int)))) (1 : Nat)))))), whereOf (Ship.mean (Prod.fst a)) (Span.hi (meet (Span.mk (IntKind.wrap IntKind.i64 (sums16 (Prod.fst (Prod.fst (extremes (Prod.snd a)))) - IntKind.wrap IntKind.i64 ((16 : Int) * Curve.err (Ship.mean (Prod.fst a))))) (IntKind.wrap IntKind.i64 (sums16 (Prod.snd (Prod.fst (extremes (Prod.snd a)))) + IntKind.wrap IntKind.i64 ((16 : Int) * Curve.err (Ship.mean (Prod.fst a)))))) (Span.mk (IntKind.wrap IntKind.i64 ((16 : Int) * XS.g (Curve.knots (Ship.mean (Prod.fst a))) (nat_lit 0) (1 : Nat))) (IntKind.wrap IntKind.i64 ((16 : Int) * XS.g (Curve.knots (Ship.mean (Prod.fst a))) (Int.toNat (IntKind.wrap IntKind.i64 ((↑(len (Curve.knots (Ship.mean (Prod.fst a)))) : Int) - (1 : Int)))) (1 : Nat))))))), true)))) := fun a => by kernel_rfl
end Go.Proofs.YtjbhooodjmjdkaaGreat
/-! KM -/
namespace Go.Proofs.YtjbhooodjmjdkaaGreat
open Ev K
set_option maxRecDepth 100000
def K.ySpan (s : Ship) (x : Survey) : Span := meet ⟨IntKind.i64.wrap (sums16 (extremes x).1.1 - IntKind.i64.wrap (16 * s.mean.err)), IntKind.i64.wrap (sums16 (extremes x).1.2 + IntKind.i64.wrap (16 * s.mean.err))⟩
  ⟨IntKind.i64.wrap (16 * s.mean.knots.g 0 1), IntKind.i64.wrap (16 * s.mean.knots.g (len s.mean.knots - 1) 1)⟩
def K.volumes (s : Ship) (x : Survey) : (Frac × Frac) × Bool := if void (ySpan s x) = true then ((⟨0, 0⟩, ⟨0, 0⟩), false) else ((whereOf s.mean (ySpan s x).lo, whereOf s.mean (ySpan s x).hi), true)
theorem K.volumes_eq (a : Ship × Survey) (h : 0 < len a.1.mean.knots) : callT1 P BKL4 30 97 D_vol R_vol a = some (volumes a.1 a.2) := by
  have e1 := K.len_le a.1.mean.knots; have e2 := K.len_le' a.1.mean.knots
  rw [fn_vol, w64_in (n := (len a.1.mean.knots : Int) - 1) (by omega) (by omega), show ((len a.1.mean.knots : Int) - 1).toNat = len a.1.mean.knots - 1 by omega]
  refine chk_step (by simp; omega) (chk_step (by simp; omega) ?_)
  exact br_step (fun _ => rfl) (fun _ => chk_step (by simpa using h) (chk_step (by simpa using h) rfl))
noncomputable def BKM1 : Tab := BKL4.addCall 97 (callE D_vol R_vol (fun a => .chk (decide (0 < len a.1.mean.knots)) (.ret (K.volumes a.1 a.2))))
theorem tKM1 : TabOk P BKM1 := TabOk.addFn (d := 30) okP tKL4 (fun a r h => by obtain ⟨g, e⟩ := chk_ret h; subst e; exact K.volumes_eq a (by simpa using g))
def D_mass := DecL.cons (dShip) (.cons (dBulbs) (.last (dSurvey) 0))
theorem fn_mass : ∀ a, (callT1 P BKM1 30 99 D_mass dSpan) a = T.run (
  .chk (decide ((0 : Nat) < len (Curve.knots (Ship.mean (Prod.fst a))))) <|
  .br (!Prod.snd (volumes (Prod.fst a) (Prod.snd (Prod.snd a)))) (
    .ret (Span.mk (1 : Int) (0 : Int))) (
    .chk (!decide (IntKind.wrap IntKind.i64 ((25 : Int) * Frac.den (Prod.fst (Prod.fst (volumes (Prod.fst a) (Prod.snd (Prod.snd a)))))) = (0 : Int))) <|
    .chk (!decide (IntKind.wrap IntKind.i64 ((25 : Int) * Frac.den (Prod.snd (Prod.fst (volumes (Prod.fst a) (Prod.snd (Prod.snd a)))))) = (0 : Int))) <|
    .ret (meet (Span.mk (IntKind.wrap IntKind.i64 (Int.tdiv (IntKind.wrap IntKind.i64 (IntKind.wrap IntKind.i64 (IntKind.wrap IntKind.i64 (Frac.num (Prod.fst (Prod.fst (volumes (Prod.fst a) (Prod.snd (Prod.snd a))))) * Span.lo (Prod.fst (density (Prod.snd a)))) + IntKind.wrap IntKind.i64 ((25 : Int) * Frac.den (Prod.fst (Prod.fst (volumes (Prod.fst a) (Prod.snd (Prod.snd a))))))) - (1 : Int))) (IntKind.wrap IntKind.i64 ((25 : Int) * Frac.den (Prod.fst (Prod.fst (volumes (Prod.fst a) (Prod.snd (Prod.snd a))))))))) (IntKind.wrap IntKind.i64 (Int.tdiv (IntKind.wrap IntKind.i64 (Frac.num (Prod.snd (Prod.fst (volumes (Prod.fst a) (Prod.snd (Prod.snd a))))) * Span.hi (Prod.fst (density (Prod.snd a))))) (IntKind.wrap IntKind.i64 ((25 : Int) * Frac.den (Prod.snd (Prod.fst (volumes (Prod.fst a) (Prod.snd (Prod.snd a)))))))))) (Span.mk (Ship.light (Prod.fst a)) (rooms (Prod.fst a)))))) := fun a => by kernel_rfl
def K.massOk (s : Ship) (x : Survey) : Bool := decide (0 < len s.mean.knots) && (!(volumes s x).2 || (!decide (IntKind.i64.wrap (25 * (volumes s x).1.1.den) = 0) && !decide (IntKind.i64.wrap (25 * (volumes s x).1.2.den) = 0)))
noncomputable def K.massOf (s : Ship) (b : Bulbs) (x : Survey) : Span := if (!(volumes s x).2) = true then ⟨1, 0⟩ else
  meet ⟨IntKind.i64.wrap (Int.tdiv (IntKind.i64.wrap (IntKind.i64.wrap (IntKind.i64.wrap ((volumes s x).1.1.num * (density (b, x)).1.lo) + IntKind.i64.wrap (25 * (volumes s x).1.1.den)) - 1)) (IntKind.i64.wrap (25 * (volumes s x).1.1.den))),
    IntKind.i64.wrap (Int.tdiv (IntKind.i64.wrap ((volumes s x).1.2.num * (density (b, x)).1.hi)) (IntKind.i64.wrap (25 * (volumes s x).1.2.den)))⟩ ⟨s.light, rooms s⟩
theorem K.massOf_eq (a : Ship × Bulbs × Survey) (h : massOk a.1 a.2.2 = true) : callT1 P BKM1 30 99 D_mass dSpan a = some (massOf a.1 a.2.1 a.2.2) := by
  unfold massOk at h
  rw [Bool.and_eq_true] at h
  rw [fn_mass]
  refine chk_step h.1 (br_step (fun _ => rfl) (fun hn => ?_))
  have h2 := h.2
  rw [Bool.or_eq_true] at h2
  rcases h2 with h2 | h2
  · exact absurd h2 hn
  · rw [Bool.and_eq_true] at h2
    exact chk_step h2.1 (chk_step h2.2 rfl)
noncomputable def BKM2 : Tab := BKM1.addCall 99 (callE D_mass dSpan (fun a => .chk (massOk a.1 a.2.2) (.ret (massOf a.1 a.2.1 a.2.2))))
theorem tKM2 : TabOk P BKM2 := TabOk.addFn (d := 30) okP tKM1 (fun a r h => by obtain ⟨g, e⟩ := chk_ret h; subst e; exact K.massOf_eq a g)
end Go.Proofs.YtjbhooodjmjdkaaGreat
/-! KF -/
namespace Go.Proofs.YtjbhooodjmjdkaaGreat
open Ev K
set_option maxRecDepth 100000
def D_chk := DecL.cons (dBulbs) (.last (dSurvey) 0)
theorem fn_check : ∀ a, (callT1 P BKM2 30 115 D_chk R_i) a = T.run (
  .br (within (Survey.id (Prod.snd a)) (1 : Int) (1099511627776 : Int)) (
    .br (within (Survey.tick (Prod.snd a)) (0 : Int) (1048576 : Int)) (
      .br (within (Survey.sag (Prod.snd a)) (0 : Int) (200 : Int)) (
        .br (spans (Survey.shown (Prod.snd a)) (0 : Int) (2000 : Int)) (
          .br (spans (Survey.m0 (Prod.snd a)) (0 : Int) (65536 : Int)) (
            .br (decide (IntKind.wrap IntKind.i64 (Span.hi (Survey.m0 (Prod.snd a)) - Span.lo (Survey.m0 (Prod.snd a))) < (400 : Int))) (
              .br (spans (Survey.m1 (Prod.snd a)) (0 : Int) (65536 : Int)) (
                .br (decide (IntKind.wrap IntKind.i64 (Span.hi (Survey.m1 (Prod.snd a)) - Span.lo (Survey.m1 (Prod.snd a))) < (400 : Int))) (
                  .br (spans (Survey.m2 (Prod.snd a)) (0 : Int) (65536 : Int)) (
                    .br (decide (IntKind.wrap IntKind.i64 (Span.hi (Survey.m2 (Prod.snd a)) - Span.lo (Survey.m2 (Prod.snd a))) < (400 : Int))) (
                      .br (spans (Survey.m3 (Prod.snd a)) (0 : Int) (65536 : Int)) (
                        .br (decide (IntKind.wrap IntKind.i64 (Span.hi (Survey.m3 (Prod.snd a)) - Span.lo (Survey.m3 (Prod.snd a))) < (400 : Int))) (
                          .br (spans (Survey.m4 (Prod.snd a)) (0 : Int) (65536 : Int)) (
                            .br (decide (IntKind.wrap IntKind.i64 (Span.hi (Survey.m4 (Prod.snd a)) - Span.lo (Survey.m4 (Prod.snd a))) < (400 : Int))) (
                              .br (spans (Survey.m5 (Prod.snd a)) (0 : Int) (65536 : Int)) (
                                .br (!decide (IntKind.wrap IntKind.i64 (Span.hi (Survey.m5 (Prod.snd a)) - Span.lo (Survey.m5 (Prod.snd a))) < (400 : Int))) (
                                  .ret ((1 : Int))) (
                                  .br (Prod.snd (density a) != (0 : Int)) (
                                    .ret (Prod.snd (density a))) (
                                    .br (!Prod.snd (extremes (Prod.snd a))) (
                                      .ret ((9 : Int))) (
                                      .ret ((0 : Int)))))) (
                                .ret ((1 : Int)))) (
                              .ret ((1 : Int)))) (
                            .ret ((1 : Int)))) (
                          .ret ((1 : Int)))) (
                        .ret ((1 : Int)))) (
                      .ret ((1 : Int)))) (
                    .ret ((1 : Int)))) (
                  .ret ((1 : Int)))) (
                .ret ((1 : Int)))) (
              .ret ((1 : Int)))) (
            .ret ((1 : Int)))) (
          .ret ((1 : Int)))) (
        .ret ((1 : Int)))) (
      .ret ((1 : Int)))) (
    .ret ((1 : Int)))) := fun a => by kernel_rfl
noncomputable def K.check (a : Bulbs × Survey) : Int := (if (within (Survey.id (Prod.snd a)) (1 : Int) (1099511627776 : Int)) = true then (if (within (Survey.tick (Prod.snd a)) (0 : Int) (1048576 : Int)) = true then (if (within (Survey.sag (Prod.snd a)) (0 : Int) (200 : Int)) = true then (if (spans (Survey.shown (Prod.snd a)) (0 : Int) (2000 : Int)) = true then (if (spans (Survey.m0 (Prod.snd a)) (0 : Int) (65536 : Int)) = true then (if (decide (IntKind.wrap IntKind.i64 (Span.hi (Survey.m0 (Prod.snd a)) - Span.lo (Survey.m0 (Prod.snd a))) < (400 : Int))) = true then (if (spans (Survey.m1 (Prod.snd a)) (0 : Int) (65536 : Int)) = true then (if (decide (IntKind.wrap IntKind.i64 (Span.hi (Survey.m1 (Prod.snd a)) - Span.lo (Survey.m1 (Prod.snd a))) < (400 : Int))) = true then (if (spans (Survey.m2 (Prod.snd a)) (0 : Int) (65536 : Int)) = true then (if (decide (IntKind.wrap IntKind.i64 (Span.hi (Survey.m2 (Prod.snd a)) - Span.lo (Survey.m2 (Prod.snd a))) < (400 : Int))) = true then (if (spans (Survey.m3 (Prod.snd a)) (0 : Int) (65536 : Int)) = true then (if (decide (IntKind.wrap IntKind.i64 (Span.hi (Survey.m3 (Prod.snd a)) - Span.lo (Survey.m3 (Prod.snd a))) < (400 : Int))) = true then (if (spans (Survey.m4 (Prod.snd a)) (0 : Int) (65536 : Int)) = true then (if (decide (IntKind.wrap IntKind.i64 (Span.hi (Survey.m4 (Prod.snd a)) - Span.lo (Survey.m4 (Prod.snd a))) < (400 : Int))) = true then (if (spans (Survey.m5 (Prod.snd a)) (0 : Int) (65536 : Int)) = true then (if (!decide (IntKind.wrap IntKind.i64 (Span.hi (Survey.m5 (Prod.snd a)) - Span.lo (Survey.m5 (Prod.snd a))) < (400 : Int))) = true then (1 : Int) else (if (Prod.snd (density a) != (0 : Int)) = true then Prod.snd (density a) else (if (!Prod.snd (extremes (Prod.snd a))) = true then (9 : Int) else (0 : Int)))) else (1 : Int)) else (1 : Int)) else (1 : Int)) else (1 : Int)) else (1 : Int)) else (1 : Int)) else (1 : Int)) else (1 : Int)) else (1 : Int)) else (1 : Int)) else (1 : Int)) else (1 : Int)) else (1 : Int)) else (1 : Int)) else (1 : Int))
theorem eq_check (a : Bulbs × Survey) : (callT1 P BKM2 30 115 D_chk R_i) a = some (K.check a) := (fn_check a).trans (T.br_some (T.br_some (T.br_some (T.br_some (T.br_some (T.br_some (T.br_some (T.br_some (T.br_some (T.br_some (T.br_some (T.br_some (T.br_some (T.br_some (T.br_some (T.br_some rfl (T.br_some rfl (T.br_some rfl rfl))) rfl) rfl) rfl) rfl) rfl) rfl) rfl) rfl) rfl) rfl) rfl) rfl) rfl) rfl) rfl)
noncomputable def BKF1 : Tab := BKM2.addCall 115 (callE D_chk R_i (fun a => .ret (K.check a)))
theorem tKF1 : TabOk P BKF1 := TabOk.addFn (d := 30) okP tKM2 (fun a r h => by rw [eq_check]; exact congrArg some (ret_some h))
theorem fn_Check : ∀ a, (callT1 P BKF1 30 92 D_chk R_i) a = T.run (
  .br (CheckBulbs (Prod.fst a) != (0 : Int)) (
    .ret (CheckBulbs (Prod.fst a))) (
    .ret (check a))) := fun a => by kernel_rfl
noncomputable def K.Check (a : Bulbs × Survey) : Int := (if (CheckBulbs (Prod.fst a) != (0 : Int)) = true then CheckBulbs (Prod.fst a) else check a)
theorem eq_Check (a : Bulbs × Survey) : (callT1 P BKF1 30 92 D_chk R_i) a = some (K.Check a) := (fn_Check a).trans (T.br_some rfl rfl)
noncomputable def BKF2 : Tab := BKF1.addCall 92 (callE D_chk R_i (fun a => .ret (K.Check a)))
theorem tKF2 : TabOk P BKF2 := TabOk.addFn (d := 30) okP tKF1 (fun a r h => by rw [eq_Check]; exact congrArg some (ret_some h))
end Go.Proofs.YtjbhooodjmjdkaaGreat
/-! KQ -/
namespace Go.Proofs.YtjbhooodjmjdkaaGreat
open Ev K
set_option maxRecDepth 100000
def dSix : Dec (Int × Int × Int × Int × Int × Int) := dAgg (.cons (dI .i64) (.cons (dI .i64) (.cons (dI .i64) (.cons (dI .i64) (.cons (dI .i64) (.last (dI .i64) 0))))))
theorem fn_Sixteen : ∀ a, (callT1 P BKF2 30 37 D_chk R_off) a = T.run (
  .br (Check a != (0 : Int)) (
    .ret ((Span.mk (0 : Int) (0 : Int), Check a))) (
    .ret ((Span.mk (sums16 (Prod.fst (Prod.fst (extremes (Prod.snd a))))) (sums16 (Prod.snd (Prod.fst (extremes (Prod.snd a))))), (0 : Int))))) := fun a => by kernel_rfl
noncomputable def K.Sixteen (a : Bulbs × Survey) : Span × Int := (if (Check a != (0 : Int)) = true then (Span.mk (0 : Int) (0 : Int), Check a) else (Span.mk (sums16 (Prod.fst (Prod.fst (extremes (Prod.snd a))))) (sums16 (Prod.snd (Prod.fst (extremes (Prod.snd a))))), (0 : Int)))
theorem eq_Sixteen (a : Bulbs × Survey) : (callT1 P BKF2 30 37 D_chk R_off) a = some (K.Sixteen a) := (fn_Sixteen a).trans (T.br_some rfl rfl)
noncomputable def BKQ1 : Tab := BKF2.addCall 37 (callE D_chk R_off (fun a => .ret (K.Sixteen a)))
theorem tKQ1 : TabOk P BKQ1 := TabOk.addFn (d := 30) okP tKF2 (fun a r h => by rw [eq_Sixteen]; exact congrArg some (ret_some h))
def D_bulbs := DecL.last dBulbs 0
theorem fn_few : ∀ a, (callT1 P BKQ1 30 10 D_bulbs dB) a = T.run (
  .br (decide ((↑(len (Bulbs.hydros a)) : Int) ≤ (12 : Int))) (
    .ret (decide ((↑(len (Bulbs.glasses a)) : Int) ≤ (60 : Int)))) (
    .ret (false))) := fun a => by kernel_rfl
noncomputable def K.few (a : Bulbs) : Bool := (if (decide ((↑(len (Bulbs.hydros a)) : Int) ≤ (12 : Int))) = true then decide ((↑(len (Bulbs.glasses a)) : Int) ≤ (60 : Int)) else false)
theorem eq_few (a : Bulbs) : (callT1 P BKQ1 30 10 D_bulbs dB) a = some (K.few a) := (fn_few a).trans (T.br_some rfl rfl)
noncomputable def BKQ2 : Tab := BKQ1.addCall 10 (callE D_bulbs dB (fun a => .ret (K.few a)))
theorem tKQ2 : TabOk P BKQ2 := TabOk.addFn (d := 30) okP tKQ1 (fun a r h => by rw [eq_few]; exact congrArg some (ret_some h))
theorem fn_ship : ∀ a, (callT1 P BKQ2 30 9 D_ship dB) a = T.run (
  .br (decide ((↑(len (Ship.holds a)) : Int) ≤ (12 : Int))) (
    .br (decide ((↑(len (Curve.knots (Ship.mean a))) : Int) ≤ (60 : Int))) (
      .ret (decide ((↑(len (Curve.knots (Ship.mc a))) : Int) ≤ (60 : Int)))) (
      .ret (false))) (
    .ret (false))) := fun a => by kernel_rfl
noncomputable def K.ship (a : Ship) : Bool := (if (decide ((↑(len (Ship.holds a)) : Int) ≤ (12 : Int))) = true then (if (decide ((↑(len (Curve.knots (Ship.mean a))) : Int) ≤ (60 : Int))) = true then decide ((↑(len (Curve.knots (Ship.mc a))) : Int) ≤ (60 : Int)) else false) else false)
theorem eq_ship (a : Ship) : (callT1 P BKQ2 30 9 D_ship dB) a = some (K.ship a) := (fn_ship a).trans (T.br_some (T.br_some rfl rfl) rfl)
noncomputable def BKQ3 : Tab := BKQ2.addCall 9 (callE D_ship dB (fun a => .ret (K.ship a)))
theorem tKQ3 : TabOk P BKQ3 := TabOk.addFn (d := 30) okP tKQ2 (fun a r h => by rw [eq_ship]; exact congrArg some (ret_some h))
end Go.Proofs.YtjbhooodjmjdkaaGreat
/-! KJ -/
namespace Go.Proofs.YtjbhooodjmjdkaaGreat
open Ev K
set_option maxRecDepth 100000
def D_none := DecL.tops 0
theorem head_run : callT1 P BKQ3 30 8 D_none dB () = some true := by kernel_rfl
noncomputable def BKJ1 : Tab := BKQ3.addCall 8 (callE D_none dB (fun _ => .ret true))
theorem tKJ1 : TabOk P BKJ1 := TabOk.addFn (d := 30) okP tKQ3 (fun a r h => by cases ret_some h; exact head_run)
end Go.Proofs.YtjbhooodjmjdkaaGreat
/-! KN -/
namespace Go.Proofs.YtjbhooodjmjdkaaGreat
open Ev K
set_option maxRecDepth 100000
def D_rid := DecL.last (dI .i64) 0
theorem fn_r_id : ∀ a, (callT1 P BKJ1 30 90 D_rid dB) a = T.run (
  .br (decide (a ≥ (1 : Int))) (
    .ret (decide (a ≤ (1099511627776 : Int)))) (
    .ret (false))) := fun a => by kernel_rfl
noncomputable def K.r_id (a : Int) : Bool := (if (decide (a ≥ (1 : Int))) = true then decide (a ≤ (1099511627776 : Int)) else false)
theorem eq_r_id (a : Int) : (callT1 P BKJ1 30 90 D_rid dB) a = some (K.r_id a) := (fn_r_id a).trans (T.br_some rfl rfl)
noncomputable def BKN1 : Tab := BKJ1.addCall 90 (callE D_rid dB (fun a => .ret (K.r_id a)))
theorem tKN1 : TabOk P BKN1 := TabOk.addFn (d := 30) okP tKJ1 (fun a r h => by rw [eq_r_id]; exact congrArg some (ret_some h))
def D_rspan := DecL.cons (dSpan) (.cons (dI .i64) (.last (dI .i64) 0))
theorem fn_r_span : ∀ a, (callT1 P BKN1 30 91 D_rspan dB) a = T.run (
  .br (decide (Span.lo (Prod.fst a) ≥ Prod.fst (Prod.snd a))) (
    .br (decide (Span.lo (Prod.fst a) ≤ Span.hi (Prod.fst a))) (
      .ret (decide (Span.hi (Prod.fst a) ≤ Prod.snd (Prod.snd a)))) (
      .ret (false))) (
    .ret (false))) := fun a => by kernel_rfl
noncomputable def K.r_span (a : Span × Int × Int) : Bool := (if (decide (Span.lo (Prod.fst a) ≥ Prod.fst (Prod.snd a))) = true then (if (decide (Span.lo (Prod.fst a) ≤ Span.hi (Prod.fst a))) = true then decide (Span.hi (Prod.fst a) ≤ Prod.snd (Prod.snd a)) else false) else false)
theorem eq_r_span (a : Span × Int × Int) : (callT1 P BKN1 30 91 D_rspan dB) a = some (K.r_span a) := (fn_r_span a).trans (T.br_some (T.br_some rfl rfl) rfl)
noncomputable def BKN2 : Tab := BKN1.addCall 91 (callE D_rspan dB (fun a => .ret (K.r_span a)))
theorem tKN2 : TabOk P BKN2 := TabOk.addFn (d := 30) okP tKN1 (fun a r h => by rw [eq_r_span]; exact congrArg some (ret_some h))
def D_rnone := DecL.last (dSpan) 0
theorem fn_r_none : ∀ a, (callT1 P BKN2 30 71 D_rnone dB) a = T.run (
  .ret (decide (Span.lo a > Span.hi a))) := fun a => by kernel_rfl
noncomputable def K.r_none (a : Span) : Bool := decide (Span.lo a > Span.hi a)
theorem eq_r_none (a : Span) : (callT1 P BKN2 30 71 D_rnone dB) a = some (K.r_none a) := (fn_r_none a).trans rfl
noncomputable def BKN3 : Tab := BKN2.addCall 71 (callE D_rnone dB (fun a => .ret (K.r_none a)))
theorem tKN3 : TabOk P BKN3 := TabOk.addFn (d := 30) okP tKN2 (fun a r h => by rw [eq_r_none]; exact congrArg some (ret_some h))
def D_rboth := DecL.cons (dSpan) (.last (dSpan) 0)
theorem fn_r_both : ∀ a, (callT1 P BKN3 30 79 D_rboth dSpan) a = T.run (
  .ret (Span.mk (if Span.lo (Prod.snd a) > Span.lo (Prod.fst a) then Span.lo (Prod.snd a) else Span.lo (Prod.fst a)) (if Span.hi (Prod.snd a) < Span.hi (Prod.fst a) then Span.hi (Prod.snd a) else Span.hi (Prod.fst a)))) := fun a => by kernel_rfl
noncomputable def K.r_both (a : Span × Span) : Span := Span.mk (if Span.lo (Prod.snd a) > Span.lo (Prod.fst a) then Span.lo (Prod.snd a) else Span.lo (Prod.fst a)) (if Span.hi (Prod.snd a) < Span.hi (Prod.fst a) then Span.hi (Prod.snd a) else Span.hi (Prod.fst a))
theorem eq_r_both (a : Span × Span) : (callT1 P BKN3 30 79 D_rboth dSpan) a = some (K.r_both a) := (fn_r_both a).trans rfl
noncomputable def BKN4 : Tab := BKN3.addCall 79 (callE D_rboth dSpan (fun a => .ret (K.r_both a)))
theorem tKN4 : TabOk P BKN4 := TabOk.addFn (d := 30) okP tKN3 (fun a r h => by rw [eq_r_both]; exact congrArg some (ret_some h))
def D_rall := DecL.last (dGlass) 0
theorem fn_r_all : ∀ a, (callT1 P BKN4 30 80 D_rall dSpan) a = T.run (
  .ret (Span.mk (IntKind.wrap IntKind.i64 (Span.lo (Glass.shown a) - Glass.dense a)) (IntKind.wrap IntKind.i64 (Span.hi (Glass.shown a) - Glass.dense a)))) := fun a => by kernel_rfl
noncomputable def K.r_all (a : Glass) : Span := Span.mk (IntKind.wrap IntKind.i64 (Span.lo (Glass.shown a) - Glass.dense a)) (IntKind.wrap IntKind.i64 (Span.hi (Glass.shown a) - Glass.dense a))
theorem eq_r_all (a : Glass) : (callT1 P BKN4 30 80 D_rall dSpan) a = some (K.r_all a) := (fn_r_all a).trans rfl
noncomputable def BKN5 : Tab := BKN4.addCall 80 (callE D_rall dSpan (fun a => .ret (K.r_all a)))
theorem tKN5 : TabOk P BKN5 := TabOk.addFn (d := 30) okP tKN4 (fun a r h => by rw [eq_r_all]; exact congrArg some (ret_some h))
def D_rdown := DecL.last (dI .i64) 0
theorem fn_r_down : ∀ a, (callT1 P BKN5 30 230 D_rdown (dI .i64)) a = T.run (
  .ret (IntKind.wrap IntKind.i64 (Int.tdiv (IntKind.wrap IntKind.i64 (a - Int.tmod (IntKind.wrap IntKind.i64 (Int.tmod a (2 : Int) + (2 : Int))) (2 : Int))) (2 : Int)))) := fun a => by kernel_rfl
noncomputable def K.r_down (a : Int) : Int := IntKind.wrap IntKind.i64 (Int.tdiv (IntKind.wrap IntKind.i64 (a - Int.tmod (IntKind.wrap IntKind.i64 (Int.tmod a (2 : Int) + (2 : Int))) (2 : Int))) (2 : Int))
theorem eq_r_down (a : Int) : (callT1 P BKN5 30 230 D_rdown (dI .i64)) a = some (K.r_down a) := (fn_r_down a).trans rfl
noncomputable def BKN6 : Tab := BKN5.addCall 230 (callE D_rdown (dI .i64) (fun a => .ret (K.r_down a)))
theorem tKN6 : TabOk P BKN6 := TabOk.addFn (d := 30) okP tKN5 (fun a r h => by rw [eq_r_down]; exact congrArg some (ret_some h))
theorem K.orr_ite {ε α : Type} (f : ε → α) (z : α) (c : Prop) [Decidable c] (x : ε) (y : Option ε) : some (K.orr f z (if c then some x else y)) = if c then some (f x) else some (K.orr f z y) := by split <;> rfl
theorem K.orr_none {ε α : Type} (f : ε → α) (z : α) : some (K.orr f z none) = some z := rfl
def D_rhydro := DecL.cons (dBulbs) (.last (dI .i64) 0)
def S_rhydro := DecS.mk0 (.skip (.cons (dI .i64) (.unit (dLp 0 0 0 0) (.skips 2 (.last (dI .i64) 16))))) (.flat 31 lBulbs .nil)
def X_rhydro := DecX.or (DecX.one .ret [4] (DecS.mk1 (.skips 4 (.last (dI .i64) 17)))) (DecX.one (.exit 0) [] (DecS.mk1 (.tops 22)))
noncomputable def K.st_rhydro := loopT1 P BKN6 30 69 17 [5, 1, 2] S_rhydro X_rhydro
theorem sl_rhydro : ∀ s, (K.st_rhydro) s = T.run (
  .br (decide (Prod.snd (Prod.fst s) < (↑(len (Bulbs.hydros (Prod.fst (Prod.snd s)))) : Int))) (
    .chk (decide ((0 : Int) ≤ Prod.snd (Prod.fst s) ∧ Prod.snd (Prod.fst s) < (↑(XS.len (Bulbs.hydros (Prod.fst (Prod.snd s)))) : Int))) <|
    .br (XS.g (Bulbs.hydros (Prod.fst (Prod.snd s))) (Int.toNat (Prod.snd (Prod.fst s))) (0 : Nat) == Prod.fst (Prod.fst s)) (
      .ret (Sum.inr (Sum.inl (Prod.snd (Prod.fst s))))) (
      .ret (Sum.inl ((Prod.fst (Prod.fst s), IntKind.wrap IntKind.i64 (Prod.snd (Prod.fst s) + (1 : Int))), Prod.fst (Prod.snd s), PUnit.unit)))) (
    .ret (Sum.inr (Sum.inr PUnit.unit)))) := fun s => by kernel_rfl
noncomputable def K.L_rhydro := lim K.st_rhydro
def K.p_rhydro (b : Bulbs) (n : Int) (i : Nat) : Bool := b.hydros.g i 0 == n
def K.i_rhydro (b : Bulbs) (n : Int) : Int := match first (p_rhydro b n) (len b.hydros) with
  | some i => i
  | none => -1
theorem K.L_rhydro_eq (b : Bulbs) (n : Int) : K.L_rhydro ((n, 0), b, ()) = some (match first (p_rhydro b n) (len b.hydros) with | some i => (Sum.inl (i : Int) : Int ⊕ Unit) | none => .inr ()) := by
  have e1 := K.len_le b.hydros; have e2 := K.len_le' b.hydros
  refine lim_find (fun i => ((n, (i : Int)), b, ())) (K.len b.hydros) (p_rhydro b n) (fun i => (Sum.inl (i : Int) : Int ⊕ Unit)) (Sum.inr ()) (fun i hi hp => ?_) (fun i hi hp => ?_) ?_
  · rw [sl_rhydro]; unfold p_rhydro at hp
    simp only [T.run_br, T.run_chk, T.run_ret, decide_eq_true_eq, Int.toNat_natCast]
    rw [if_pos (by omega), if_pos (by omega)]
    rw [if_pos hp]
  · rw [sl_rhydro]; unfold p_rhydro at hp
    simp only [T.run_br, T.run_chk, T.run_ret, decide_eq_true_eq, Int.toNat_natCast]
    rw [if_pos (by omega), if_pos (by omega)]
    rw [if_neg (by simp [hp])]
    rw [w64_in (by omega) (by omega)]; simp
  · rw [sl_rhydro]
    simp only [T.run_br, T.run_chk, T.run_ret, decide_eq_true_eq]
    rw [if_neg (by omega)]
noncomputable def BKN7 : Tab := BKN6.addNode 69 17 (nodeE [5, 1, 2] S_rhydro X_rhydro (fun s => .obs (K.L_rhydro s) .ret))
theorem tKN7 : TabOk P BKN7 := TabOk.addLoop (d := 30) okP tKN6 (by kernel_rfl) (by kernel_rfl) (fun s r h => obs_ret h)
theorem fn_rhydro : ∀ a, (callT1 P BKN7 30 69 D_rhydro (dI .i64)) a = T.run (
  .obs (L_rhydro ((Prod.snd a, (0 : Int)), Prod.fst a, PUnit.unit)) fun x0 =>
    .sum (x0) (fun x1 =>
      .ret (x1)) (fun x1 =>
      .ret ((-1 : Int)))) := fun a => by kernel_rfl
theorem K.i_rhydro_eq (a : Bulbs × Int) : callT1 P BKN7 30 69 D_rhydro (dI .i64) a = some (i_rhydro a.1 a.2) := by
  rw [fn_rhydro]
  show T.run (.obs (K.L_rhydro ((a.2, 0), a.1, ())) _) = _
  rw [K.L_rhydro_eq]; unfold i_rhydro
  cases first (K.p_rhydro a.1 a.2) (K.len a.1.hydros) <;> rfl
noncomputable def BKN8 : Tab := BKN7.addCall 69 (callE D_rhydro (dI .i64) (fun a => .ret (i_rhydro a.1 a.2)))
theorem tKN8 : TabOk P BKN8 := TabOk.addFn (d := 30) okP tKN7 (fun a r h => by rw [i_rhydro_eq]; exact congrArg some (ret_some h))
def S_rglass := DecS.mk0 (.skip (.cons (dI .i64) (.unit (dLp 0 0 0 0) (.skips 2 (.last (dI .i64) 16))))) (.flat 31 lBulbs .nil)
def X_rglass := DecX.or (DecX.one .ret [4] (DecS.mk1 (.skips 4 (.last (dI .i64) 17)))) (DecX.one (.exit 0) [] (DecS.mk1 (.tops 22)))
noncomputable def K.st_rglass := loopT1 P BKN8 30 81 17 [5, 1, 2] S_rglass X_rglass
theorem sl_rglass : ∀ s, (K.st_rglass) s = T.run (
  .br (decide (Prod.snd (Prod.fst s) < (↑(len (Bulbs.glasses (Prod.fst (Prod.snd s)))) : Int))) (
    .chk (decide ((0 : Int) ≤ Prod.snd (Prod.fst s) ∧ Prod.snd (Prod.fst s) < (↑(XS.len (Bulbs.glasses (Prod.fst (Prod.snd s)))) : Int))) <|
    .br (XS.g (Bulbs.glasses (Prod.fst (Prod.snd s))) (Int.toNat (Prod.snd (Prod.fst s))) (0 : Nat) == Prod.fst (Prod.fst s)) (
      .ret (Sum.inr (Sum.inl (Prod.snd (Prod.fst s))))) (
      .ret (Sum.inl ((Prod.fst (Prod.fst s), IntKind.wrap IntKind.i64 (Prod.snd (Prod.fst s) + (1 : Int))), Prod.fst (Prod.snd s), PUnit.unit)))) (
    .ret (Sum.inr (Sum.inr PUnit.unit)))) := fun s => by kernel_rfl
noncomputable def K.L_rglass := lim K.st_rglass
def K.p_rglass (b : Bulbs) (n : Int) (i : Nat) : Bool := b.glasses.g i 0 == n
def K.i_rglass (b : Bulbs) (n : Int) : Int := match first (p_rglass b n) (len b.glasses) with
  | some i => i
  | none => -1
theorem K.L_rglass_eq (b : Bulbs) (n : Int) : K.L_rglass ((n, 0), b, ()) = some (match first (p_rglass b n) (len b.glasses) with | some i => (Sum.inl (i : Int) : Int ⊕ Unit) | none => .inr ()) := by
  have e1 := K.len_le b.glasses; have e2 := K.len_le' b.glasses
  refine lim_find (fun i => ((n, (i : Int)), b, ())) (K.len b.glasses) (p_rglass b n) (fun i => (Sum.inl (i : Int) : Int ⊕ Unit)) (Sum.inr ()) (fun i hi hp => ?_) (fun i hi hp => ?_) ?_
  · rw [sl_rglass]; unfold p_rglass at hp
    simp only [T.run_br, T.run_chk, T.run_ret, decide_eq_true_eq, Int.toNat_natCast]
    rw [if_pos (by omega), if_pos (by omega)]
    rw [if_pos hp]
  · rw [sl_rglass]; unfold p_rglass at hp
    simp only [T.run_br, T.run_chk, T.run_ret, decide_eq_true_eq, Int.toNat_natCast]
    rw [if_pos (by omega), if_pos (by omega)]
    rw [if_neg (by simp [hp])]
    rw [w64_in (by omega) (by omega)]; simp
  · rw [sl_rglass]
    simp only [T.run_br, T.run_chk, T.run_ret, decide_eq_true_eq]
    rw [if_neg (by omega)]
noncomputable def BKN9 : Tab := BKN8.addNode 81 17 (nodeE [5, 1, 2] S_rglass X_rglass (fun s => .obs (K.L_rglass s) .ret))
theorem tKN9 : TabOk P BKN9 := TabOk.addLoop (d := 30) okP tKN8 (by kernel_rfl) (by kernel_rfl) (fun s r h => obs_ret h)
theorem fn_rglass : ∀ a, (callT1 P BKN9 30 81 D_rhydro (dI .i64)) a = T.run (
  .obs (L_rglass ((Prod.snd a, (0 : Int)), Prod.fst a, PUnit.unit)) fun x0 =>
    .sum (x0) (fun x1 =>
      .ret (x1)) (fun x1 =>
      .ret ((-1 : Int)))) := fun a => by kernel_rfl
theorem K.i_rglass_eq (a : Bulbs × Int) : callT1 P BKN9 30 81 D_rhydro (dI .i64) a = some (i_rglass a.1 a.2) := by
  rw [fn_rglass]
  show T.run (.obs (K.L_rglass ((a.2, 0), a.1, ())) _) = _
  rw [K.L_rglass_eq]; unfold i_rglass
  cases first (K.p_rglass a.1 a.2) (K.len a.1.glasses) <;> rfl
noncomputable def BKN10 : Tab := BKN9.addCall 81 (callE D_rhydro (dI .i64) (fun a => .ret (i_rglass a.1 a.2)))
theorem tKN10 : TabOk P BKN10 := TabOk.addFn (d := 30) okP tKN9 (fun a r h => by rw [i_rglass_eq]; exact congrArg some (ret_some h))
end Go.Proofs.YtjbhooodjmjdkaaGreat
/-! KN2 -/
namespace Go.Proofs.YtjbhooodjmjdkaaGreat
open Ev K
set_option maxRecDepth 100000
def S_roff := DecS.mk0 (.skips 2 (.cons (dI .i64) (.unit (dLp 0 0 0 0) (.unit (dLp 1 0 0 0) (.skip (.unit (dLp 2 0 0 0) (.unit (dLp 3 0 0 0) (.last (dI .i64) 37)))))))) (.flat 31 lBulbs (.flat 127 lHydro (.flat 39 lSpan (.flat 39 lSpan .nil))))
def X_roff := DecX.one (.exit 0) [8, 7, 3, 2, 4, 6] S_roff
noncomputable def K.st_roff := loopT1 P BKN10 30 70 25 [8, 7, 3, 2, 4, 6] S_roff X_roff
theorem sl_roff : ∀ s, (K.st_roff) s = T.run (
  .br (decide (Prod.snd (Prod.fst s) < (↑(len (Bulbs.glasses (Prod.fst (Prod.snd s)))) : Int))) (
    .chk (decide ((0 : Int) ≤ Prod.snd (Prod.fst s) ∧ Prod.snd (Prod.fst s) < (↑(XS.len (Bulbs.glasses (Prod.fst (Prod.snd s)))) : Int))) <|
    .br (XS.g (Bulbs.glasses (Prod.fst (Prod.snd s))) (Int.toNat (Prod.snd (Prod.fst s))) (1 : Nat) == Hydro.id (Prod.fst (Prod.snd (Prod.snd s)))) (
      .chk (decide ((0 : Int) ≤ Prod.snd (Prod.fst s) ∧ Prod.snd (Prod.fst s) < (↑(XS.len (Bulbs.glasses (Prod.fst (Prod.snd s)))) : Int))) <|
      .br (XS.g (Bulbs.glasses (Prod.fst (Prod.snd s))) (Int.toNat (Prod.snd (Prod.fst s))) (0 : Nat) != Prod.fst (Prod.fst s)) (
        .chk (decide ((0 : Int) ≤ Prod.snd (Prod.fst s) ∧ Prod.snd (Prod.fst s) < (↑(XS.len (Bulbs.glasses (Prod.fst (Prod.snd s)))) : Int))) <|
        .ret (Sum.inl ((Prod.fst (Prod.fst s), IntKind.wrap IntKind.i64 (Prod.snd (Prod.fst s) + (1 : Int))), Prod.fst (Prod.snd s), Prod.fst (Prod.snd (Prod.snd s)), Prod.fst (Prod.snd (Prod.snd (Prod.snd s))), r_both (Prod.fst (Prod.snd (Prod.snd (Prod.snd (Prod.snd s)))), r_all (gls (Bulbs.glasses (Prod.fst (Prod.snd s))) (Int.toNat (Prod.snd (Prod.fst s))))), PUnit.unit))) (
        .ret (Sum.inl ((Prod.fst (Prod.fst s), IntKind.wrap IntKind.i64 (Prod.snd (Prod.fst s) + (1 : Int))), Prod.fst (Prod.snd s), Prod.fst (Prod.snd (Prod.snd s)), Prod.fst (Prod.snd (Prod.snd (Prod.snd s))), Prod.fst (Prod.snd (Prod.snd (Prod.snd (Prod.snd s)))), PUnit.unit)))) (
      .ret (Sum.inl ((Prod.fst (Prod.fst s), IntKind.wrap IntKind.i64 (Prod.snd (Prod.fst s) + (1 : Int))), Prod.fst (Prod.snd s), Prod.fst (Prod.snd (Prod.snd s)), Prod.fst (Prod.snd (Prod.snd (Prod.snd s))), Prod.fst (Prod.snd (Prod.snd (Prod.snd (Prod.snd s)))), PUnit.unit)))) (
    .ret (Sum.inr (Prod.fst s, Prod.fst (Prod.snd s), Prod.fst (Prod.snd (Prod.snd s)), Prod.fst (Prod.snd (Prod.snd (Prod.snd s))), Prod.fst (Prod.snd (Prod.snd (Prod.snd (Prod.snd s)))), PUnit.unit)))) := fun s => by kernel_rfl
noncomputable def K.L_roff := lim K.st_roff
noncomputable def K.f_roff (b : Bulbs) (h : Hydro) (but : Int) (s : Span) (i : Nat) : Span := if (gls b.glasses i).hydro == h.id && (gls b.glasses i).id != but then r_both (s, r_all (gls b.glasses i)) else s
theorem K.L_roff_eq (b : Bulbs) (h : Hydro) (but : Int) (r s : Span) : K.L_roff ((but, 0), b, h, r, s, ()) = some ((but, (len b.glasses : Int)), b, h, r, (List.range (len b.glasses)).foldl (f_roff b h but) s, ()) := by
  have e1 := K.len_le b.glasses; have e2 := K.len_le' b.glasses
  refine lim_fold (fun i s => ((but, (i : Int)), b, h, r, s, ())) (len b.glasses) (f_roff b h but) (fun s => ((but, (len b.glasses : Int)), b, h, r, s, ())) (fun i hi a => ?_) (fun a => ?_) s
  · rw [sl_roff]; unfold f_roff
    have c1 : (0 : Int) ≤ i ∧ (i : Int) < b.glasses.len := by omega
    simp only [T.run_br, T.run_chk, T.run_ret, decide_eq_true_eq, Int.toNat_natCast, if_pos c1]
    rw [if_pos (by omega), w64_in (n := (i : Int) + 1) (by omega) (by omega)]
    have q1 : (gls b.glasses i).hydro = b.glasses.g i 1 := rfl
    have q0 : (gls b.glasses i).id = b.glasses.g i 0 := rfl
    rw [q1, q0]
    cases (b.glasses.g i 1 == h.id) <;> cases (b.glasses.g i 0 != but) <;> rfl
  · rw [sl_roff]
    simp only [T.run_br, T.run_chk, T.run_ret, decide_eq_true_eq]
    rw [if_neg (by omega)]
noncomputable def BKN21 : Tab := BKN10.addNode 70 25 (nodeE [8, 7, 3, 2, 4, 6] S_roff X_roff (fun s => .obs (K.L_roff s) .ret))
theorem tKN21 : TabOk P BKN21 := TabOk.addLoop (d := 30) okP tKN10 (by kernel_rfl) (by kernel_rfl) (fun s r h => obs_ret h)
def D_roff := DecL.cons (dBulbs) (.cons (dHydro) (.last (dI .i64) 0))
theorem fn_roff : ∀ a, (callT1 P BKN21 30 70 D_roff dSpan) a = T.run (
  .obs (L_roff ((Prod.snd (Prod.snd a), (0 : Int)), Prod.fst a, Prod.fst (Prod.snd a), Span.mk (0 : Int) (0 : Int), Hydro.off (Prod.fst (Prod.snd a)), PUnit.unit)) fun x0 =>
    .ret (Prod.fst (Prod.snd (Prod.snd (Prod.snd (Prod.snd x0)))))) := fun a => by kernel_rfl
noncomputable def K.r_off (b : Bulbs) (h : Hydro) (but : Int) : Span := (List.range (len b.glasses)).foldl (f_roff b h but) h.off
theorem K.r_off_eq (a : Bulbs × Hydro × Int) : callT1 P BKN21 30 70 D_roff dSpan a = some (r_off a.1 a.2.1 a.2.2) := by
  rw [fn_roff]
  show T.run (.obs (K.L_roff ((a.2.2, 0), a.1, a.2.1, ⟨0, 0⟩, a.2.1.off, ())) _) = _
  rw [K.L_roff_eq]; rfl
noncomputable def BKN22 : Tab := BKN21.addCall 70 (callE D_roff dSpan (fun a => .ret (r_off a.1 a.2.1 a.2.2)))
theorem tKN22 : TabOk P BKN22 := TabOk.addFn (d := 30) okP tKN21 (fun a r h => by rw [r_off_eq]; exact congrArg some (ret_some h))
end Go.Proofs.YtjbhooodjmjdkaaGreat
/-! KN3 -/
namespace Go.Proofs.YtjbhooodjmjdkaaGreat
open Ev K
set_option maxRecDepth 100000
/-! CheckBulbs -/
def S_rc1 := DecS.mk0 (.skip (.unit (dLp 0 0 0 0) (.skip (.last (dI .i64) 84)))) (.flat 31 lBulbs .nil)
def X_rc1 := DecX.or (DecX.one .ret [2] (DecS.mk1 (.skips 2 (.last (dI .i64) 85)))) (DecX.one (.exit 0) [1] (DecS.mk0 (.skip (.unit (dLp 0 0 0 0) (.tops 86))) (.flat 31 lBulbs .nil)))
noncomputable def K.st_rc1 := loopT1 P BKN22 30 32 33 [3, 1] S_rc1 X_rc1
theorem sl_rc1 : ∀ s, (K.st_rc1) s = T.run (
  .br (decide (Prod.fst s < (↑(len (Bulbs.hydros (Prod.fst (Prod.snd s)))) : Int))) (
    .chk (decide ((0 : Int) ≤ Prod.fst s ∧ Prod.fst s < (↑(XS.len (Bulbs.hydros (Prod.fst (Prod.snd s)))) : Int))) <|
    .br (!r_id (XS.g (Bulbs.hydros (Prod.fst (Prod.snd s))) (Int.toNat (Prod.fst s)) (0 : Nat))) (
      .ret (Sum.inr (Sum.inl (1 : Int)))) (
      .br (!r_span (Span.mk (XS.g (Bulbs.hydros (Prod.fst (Prod.snd s))) (Int.toNat (Prod.fst s)) (1 : Nat)) (XS.g (Bulbs.hydros (Prod.fst (Prod.snd s))) (Int.toNat (Prod.fst s)) (2 : Nat)), (-100 : Int), (100 : Int))) (
        .ret (Sum.inr (Sum.inl (1 : Int)))) (
        .br (decide (i_rhydro (Prod.fst (Prod.snd s)) (XS.g (Bulbs.hydros (Prod.fst (Prod.snd s))) (Int.toNat (Prod.fst s)) (0 : Nat)) < Prod.fst s)) (
          .ret (Sum.inr (Sum.inl (6 : Int)))) (
          .ret (Sum.inl (IntKind.wrap IntKind.i64 (Prod.fst s + (1 : Int)), Prod.fst (Prod.snd s), PUnit.unit)))))) (
    .ret (Sum.inr (Sum.inr (PUnit.unit, Prod.fst (Prod.snd s), PUnit.unit))))) := fun s => by kernel_rfl
noncomputable def K.L_rc1 := lim K.st_rc1
noncomputable def K.e_rc1 (b : Bulbs) (i : Nat) : Option Int := if (!r_id (hyd b.hydros i).id) = true then some 1 else if (!r_span ((hyd b.hydros i).off, -100, 100)) = true then some 1 else if i_rhydro b (hyd b.hydros i).id < (i : Int) then some 6 else none
def S_rc2 := DecS.mk0 (.skip (.unit (dLp 0 0 0 0) (.skips 3 (.last (dI .i64) 82)))) (.flat 31 lBulbs .nil)
def X_rc2 := DecX.or (DecX.one .ret [2] (DecS.mk1 (.skips 2 (.last (dI .i64) 85)))) (DecX.one (.exit 2) [] (DecS.mk1 (.tops 88)))
noncomputable def K.e_rc2 (b : Bulbs) (i : Nat) : Option Int := if (!r_id (gls b.glasses i).id) = true then some 1 else if (gls b.glasses i).dense < 900 then some 1 else if (gls b.glasses i).dense > 1100 then some 1 else if (!r_span ((gls b.glasses i).shown, 0, 2000)) = true then some 1 else
  if i_rhydro b (gls b.glasses i).hydro < 0 then some 5 else if i_rglass b (gls b.glasses i).id < (i : Int) then some 6 else none
theorem K.L_rc1_eq (b : Bulbs) : K.L_rc1 (0, b, ()) = some (K.orr Sum.inl (.inr ((), b, ())) ((List.range (len b.hydros)).findSome? (e_rc1 b))) := by
  have e1 := K.len_le b.hydros; have e2 := K.len_le' b.hydros
  refine lim_err (fun i => ((i : Int), b, ())) (len b.hydros) (e_rc1 b) Sum.inl (Sum.inr ((), b, ())) (fun i hi => ?_) ?_
  · rw [sl_rc1]
    have c1 : (0 : Int) ≤ i ∧ (i : Int) < b.hydros.len := by omega
    simp only [T.run_br, T.run_chk, T.run_ret, decide_eq_true_eq, Int.toNat_natCast, if_pos c1]
    rw [if_pos (by omega), w64_in (n := (i : Int) + 1) (by omega) (by omega)]
    unfold e_rc1; simp only [orr_ite, orr_none]
    rfl
  · rw [sl_rc1]
    simp only [T.run_br, T.run_chk, T.run_ret, decide_eq_true_eq]
    rw [if_neg (by omega)]
noncomputable def BKN31 : Tab := BKN22.addNode 32 33 (nodeE [3, 1] S_rc1 X_rc1 (fun s => .obs (K.L_rc1 s) .ret))
theorem tKN31 : TabOk P BKN31 := TabOk.addLoop (d := 30) okP tKN22 (by kernel_rfl) (by kernel_rfl) (fun s r h => obs_ret h)
noncomputable def K.st_rc2 := loopT1 P BKN31 30 32 97 [5, 1] S_rc2 X_rc2
theorem sl_rc2 : ∀ s, (K.st_rc2) s = T.run (
  .br (decide (Prod.fst s < (↑(len (Bulbs.glasses (Prod.fst (Prod.snd s)))) : Int))) (
    .chk (decide ((0 : Int) ≤ Prod.fst s ∧ Prod.fst s < (↑(XS.len (Bulbs.glasses (Prod.fst (Prod.snd s)))) : Int))) <|
    .br (!r_id (XS.g (Bulbs.glasses (Prod.fst (Prod.snd s))) (Int.toNat (Prod.fst s)) (0 : Nat))) (
      .ret (Sum.inr (Sum.inl (1 : Int)))) (
      .br (decide (XS.g (Bulbs.glasses (Prod.fst (Prod.snd s))) (Int.toNat (Prod.fst s)) (2 : Nat) < (900 : Int))) (
        .ret (Sum.inr (Sum.inl (1 : Int)))) (
        .br (decide (XS.g (Bulbs.glasses (Prod.fst (Prod.snd s))) (Int.toNat (Prod.fst s)) (2 : Nat) > (1100 : Int))) (
          .ret (Sum.inr (Sum.inl (1 : Int)))) (
          .br (!r_span (Span.mk (XS.g (Bulbs.glasses (Prod.fst (Prod.snd s))) (Int.toNat (Prod.fst s)) (3 : Nat)) (XS.g (Bulbs.glasses (Prod.fst (Prod.snd s))) (Int.toNat (Prod.fst s)) (4 : Nat)), (0 : Int), (2000 : Int))) (
            .ret (Sum.inr (Sum.inl (1 : Int)))) (
            .br (decide (i_rhydro (Prod.fst (Prod.snd s)) (XS.g (Bulbs.glasses (Prod.fst (Prod.snd s))) (Int.toNat (Prod.fst s)) (1 : Nat)) < (0 : Int))) (
              .ret (Sum.inr (Sum.inl (5 : Int)))) (
              .br (decide (i_rglass (Prod.fst (Prod.snd s)) (XS.g (Bulbs.glasses (Prod.fst (Prod.snd s))) (Int.toNat (Prod.fst s)) (0 : Nat)) < Prod.fst s)) (
                .ret (Sum.inr (Sum.inl (6 : Int)))) (
                .ret (Sum.inl (IntKind.wrap IntKind.i64 (Prod.fst s + (1 : Int)), Prod.fst (Prod.snd s), PUnit.unit))))))))) (
    .ret (Sum.inr (Sum.inr PUnit.unit)))) := fun s => by kernel_rfl
noncomputable def K.L_rc2 := lim K.st_rc2
theorem K.L_rc2_eq (b : Bulbs) : K.L_rc2 (0, b, ()) = some (K.orr Sum.inl (.inr ()) ((List.range (len b.glasses)).findSome? (e_rc2 b))) := by
  have e1 := K.len_le b.glasses; have e2 := K.len_le' b.glasses
  refine lim_err (fun i => ((i : Int), b, ())) (len b.glasses) (e_rc2 b) Sum.inl (Sum.inr ()) (fun i hi => ?_) ?_
  · rw [sl_rc2]
    have c1 : (0 : Int) ≤ i ∧ (i : Int) < b.glasses.len := by omega
    simp only [T.run_br, T.run_chk, T.run_ret, decide_eq_true_eq, Int.toNat_natCast, if_pos c1]
    rw [if_pos (by omega), w64_in (n := (i : Int) + 1) (by omega) (by omega)]
    unfold e_rc2; simp only [orr_ite, orr_none]
    rfl
  · rw [sl_rc2]
    simp only [T.run_br, T.run_chk, T.run_ret, decide_eq_true_eq]
    rw [if_neg (by omega)]
noncomputable def BKN32 : Tab := BKN31.addNode 32 97 (nodeE [5, 1] S_rc2 X_rc2 (fun s => .obs (K.L_rc2 s) .ret))
theorem tKN32 : TabOk P BKN32 := TabOk.addLoop (d := 30) okP tKN31 (by kernel_rfl) (by kernel_rfl) (fun s r h => obs_ret h)
def D_rcb := DecL.last (dBulbs) 0
theorem fn_rcb : ∀ a, (callT1 P BKN32 30 32 D_rcb (dI .i64)) a = T.run (
  .br (decide ((↑(len (Bulbs.hydros a)) : Int) > (8 : Int))) (
    .ret ((2 : Int))) (
    .br (decide ((↑(len (Bulbs.glasses a)) : Int) > (40 : Int))) (
      .ret ((2 : Int))) (
      .obs (L_rc1 ((0 : Int), a, PUnit.unit)) fun x0 =>
        .sum (x0) (fun x1 =>
          .ret (x1)) (fun x1 =>
          .obs (L_rc2 ((0 : Int), Prod.fst (Prod.snd x1), PUnit.unit)) fun x2 =>
            .sum (x2) (fun x3 =>
              .ret (x3)) (fun x3 =>
              .ret ((0 : Int))))))) := fun a => by kernel_rfl
noncomputable def K.r_bulbs (b : Bulbs) : Int := if decide ((len b.hydros : Int) > 8) = true then 2 else if decide ((len b.glasses : Int) > 40) = true then 2 else
  K.orr id (K.orr id 0 ((List.range (len b.glasses)).findSome? (e_rc2 b))) ((List.range (len b.hydros)).findSome? (e_rc1 b))
theorem K.r_bulbs_eq (b : Bulbs) : callT1 P BKN32 30 32 D_rcb (dI .i64) b = some (r_bulbs b) := by
  rw [fn_rcb]; unfold r_bulbs
  refine br_step (fun _ => rfl) (fun _ => ?_)
  refine br_step (fun _ => rfl) (fun _ => ?_)
  show T.run (.obs (K.L_rc1 (0, b, ())) _) = _
  rw [K.L_rc1_eq]
  cases (List.range (len b.hydros)).findSome? (e_rc1 b) with
  | some e => rfl
  | none =>
    show T.run (.obs (K.L_rc2 (0, b, ())) _) = _
    rw [K.L_rc2_eq]
    cases (List.range (len b.glasses)).findSome? (e_rc2 b) <;> rfl
noncomputable def BKN33 : Tab := BKN32.addCall 32 (callE D_rcb (dI .i64) (fun a => .ret (r_bulbs a)))
theorem tKN33 : TabOk P BKN33 := TabOk.addFn (d := 30) okP tKN32 (fun a r h => by rw [r_bulbs_eq]; exact congrArg some (ret_some h))
end Go.Proofs.YtjbhooodjmjdkaaGreat
/-! KN4 -/
namespace Go.Proofs.YtjbhooodjmjdkaaGreat
open Ev K
set_option maxRecDepth 100000
theorem fn_rOff : ∀ a, (callT1 P BKN33 30 26 D_rhydro R_off) a = T.run (
  .br (r_bulbs (Prod.fst a) != (0 : Int)) (
    .ret ((Span.mk (0 : Int) (0 : Int), r_bulbs (Prod.fst a)))) (
    .br (decide (i_rhydro (Prod.fst a) (Prod.snd a) < (0 : Int))) (
      .ret ((Span.mk (0 : Int) (0 : Int), (5 : Int)))) (
      .chk (decide ((0 : Int) ≤ i_rhydro (Prod.fst a) (Prod.snd a) ∧ i_rhydro (Prod.fst a) (Prod.snd a) < (↑(XS.len (Bulbs.hydros (Prod.fst a))) : Int))) <|
      .br (r_none (r_off (Prod.fst a) (hyd (Bulbs.hydros (Prod.fst a)) (Int.toNat (i_rhydro (Prod.fst a) (Prod.snd a)))) (0 : Int))) (
        .ret ((Span.mk (0 : Int) (0 : Int), (9 : Int)))) (
        .ret ((r_off (Prod.fst a) (hyd (Bulbs.hydros (Prod.fst a)) (Int.toNat (i_rhydro (Prod.fst a) (Prod.snd a)))) (0 : Int), (0 : Int))))))) := fun a => by kernel_rfl
theorem K.i_rhydro_lt (b : Bulbs) (n : Int) (h : ¬ i_rhydro b n < 0) : 0 ≤ i_rhydro b n ∧ i_rhydro b n < (b.hydros.len : Int) := by
  have e2 := K.len_le' b.hydros
  unfold i_rhydro at h ⊢
  cases hf : first (p_rhydro b n) (len b.hydros) with
  | none => rw [hf] at h; simp at h
  | some i =>
    have h1 := (first_spec hf).1
    simp only; omega
noncomputable def K.r_Off (a : Bulbs × Int) : Span × Int := if (r_bulbs a.1 != 0) = true then (⟨0, 0⟩, r_bulbs a.1) else if i_rhydro a.1 a.2 < 0 then (⟨0, 0⟩, 5) else
  if r_none (r_off a.1 (hyd a.1.hydros (i_rhydro a.1 a.2).toNat) 0) = true then (⟨0, 0⟩, 9) else (r_off a.1 (hyd a.1.hydros (i_rhydro a.1 a.2).toNat) 0, 0)
theorem K.r_Off_eq (a : Bulbs × Int) : callT1 P BKN33 30 26 D_rhydro R_off a = some (r_Off a) := by
  rw [fn_rOff]; unfold r_Off
  refine br_step (fun _ => rfl) (fun _ => ?_)
  by_cases h : i_rhydro a.1 a.2 < 0
  · rw [if_pos h]; simp only [T.run_br, decide_eq_true_eq]; rw [if_pos h]; rfl
  · rw [if_neg h]; simp only [T.run_br, T.run_chk, decide_eq_true_eq]; rw [if_neg h, if_pos (i_rhydro_lt _ _ h)]
    split <;> rfl
noncomputable def BKN41 : Tab := BKN33.addCall 26 (callE D_rhydro R_off (fun a => .ret (r_Off a)))
theorem tKN41 : TabOk P BKN41 := TabOk.addFn (d := 30) okP tKN33 (fun a r h => by rw [r_Off_eq]; exact congrArg some (ret_some h))
def D_rdens := DecL.cons (dBulbs) (.last (dSurvey) 0)
theorem fn_r_density : ∀ a, (callT1 P BKN41 30 196 D_rdens dSpan) a = T.run (
  .ret (Span.mk (if (900 : Int) > IntKind.wrap IntKind.i64 (Span.lo (Survey.shown (Prod.snd a)) - Span.hi (Prod.fst (r_Off (Prod.fst a, Survey.hydro (Prod.snd a))))) then (900 : Int) else IntKind.wrap IntKind.i64 (Span.lo (Survey.shown (Prod.snd a)) - Span.hi (Prod.fst (r_Off (Prod.fst a, Survey.hydro (Prod.snd a)))))) (if (1100 : Int) < IntKind.wrap IntKind.i64 (Span.hi (Survey.shown (Prod.snd a)) - Span.lo (Prod.fst (r_Off (Prod.fst a, Survey.hydro (Prod.snd a))))) then (1100 : Int) else IntKind.wrap IntKind.i64 (Span.hi (Survey.shown (Prod.snd a)) - Span.lo (Prod.fst (r_Off (Prod.fst a, Survey.hydro (Prod.snd a)))))))) := fun a => by kernel_rfl
noncomputable def K.r_density (a : Bulbs × Survey) : Span := Span.mk (if (900 : Int) > IntKind.wrap IntKind.i64 (Span.lo (Survey.shown (Prod.snd a)) - Span.hi (Prod.fst (r_Off (Prod.fst a, Survey.hydro (Prod.snd a))))) then (900 : Int) else IntKind.wrap IntKind.i64 (Span.lo (Survey.shown (Prod.snd a)) - Span.hi (Prod.fst (r_Off (Prod.fst a, Survey.hydro (Prod.snd a)))))) (if (1100 : Int) < IntKind.wrap IntKind.i64 (Span.hi (Survey.shown (Prod.snd a)) - Span.lo (Prod.fst (r_Off (Prod.fst a, Survey.hydro (Prod.snd a))))) then (1100 : Int) else IntKind.wrap IntKind.i64 (Span.hi (Survey.shown (Prod.snd a)) - Span.lo (Prod.fst (r_Off (Prod.fst a, Survey.hydro (Prod.snd a))))))
theorem eq_r_density (a : Bulbs × Survey) : (callT1 P BKN41 30 196 D_rdens dSpan) a = some (K.r_density a) := (fn_r_density a).trans rfl
noncomputable def BKN42 : Tab := BKN41.addCall 196 (callE D_rdens dSpan (fun a => .ret (K.r_density a)))
theorem tKN42 : TabOk P BKN42 := TabOk.addFn (d := 30) okP tKN41 (fun a r h => by rw [eq_r_density]; exact congrArg some (ret_some h))
def D_rmid := DecL.cons (dSurvey) (.last (dI .i64) 0)
theorem fn_r_middle : ∀ a, (callT1 P BKN42 30 222 D_rmid dSpan) a = T.run (
  .ret (r_both (Span.mk (IntKind.wrap IntKind.i64 (Span.lo (Survey.m2 (Prod.fst a)) + Span.lo (Survey.m3 (Prod.fst a)))) (IntKind.wrap IntKind.i64 (Span.hi (Survey.m2 (Prod.fst a)) + Span.hi (Survey.m3 (Prod.fst a)))), Span.mk (IntKind.wrap IntKind.i64 ((0 : Int) - r_down (IntKind.wrap IntKind.i64 (IntKind.wrap IntKind.i64 ((4 : Int) * Survey.sag (Prod.fst a)) - Prod.snd a)))) (r_down (IntKind.wrap IntKind.i64 (Prod.snd a + IntKind.wrap IntKind.i64 ((4 : Int) * Survey.sag (Prod.fst a)))))))) := fun a => by kernel_rfl
noncomputable def K.r_middle (a : Survey × Int) : Span := r_both (Span.mk (IntKind.wrap IntKind.i64 (Span.lo (Survey.m2 (Prod.fst a)) + Span.lo (Survey.m3 (Prod.fst a)))) (IntKind.wrap IntKind.i64 (Span.hi (Survey.m2 (Prod.fst a)) + Span.hi (Survey.m3 (Prod.fst a)))), Span.mk (IntKind.wrap IntKind.i64 ((0 : Int) - r_down (IntKind.wrap IntKind.i64 (IntKind.wrap IntKind.i64 ((4 : Int) * Survey.sag (Prod.fst a)) - Prod.snd a)))) (r_down (IntKind.wrap IntKind.i64 (Prod.snd a + IntKind.wrap IntKind.i64 ((4 : Int) * Survey.sag (Prod.fst a))))))
theorem eq_r_middle (a : Survey × Int) : (callT1 P BKN42 30 222 D_rmid dSpan) a = some (K.r_middle a) := (fn_r_middle a).trans rfl
noncomputable def BKN43 : Tab := BKN42.addCall 222 (callE D_rmid dSpan (fun a => .ret (K.r_middle a)))
theorem tKN43 : TabOk P BKN43 := TabOk.addFn (d := 30) okP tKN42 (fun a r h => by rw [eq_r_middle]; exact congrArg some (ret_some h))
def D_rsix := DecL.last (dSurvey) 0
end Go.Proofs.YtjbhooodjmjdkaaGreat
/-! KN5 -/
namespace Go.Proofs.YtjbhooodjmjdkaaGreat
open Ev K
set_option maxRecDepth 100000
def S_rsix := DecS.mk0 (.skip (.unit (dLp 0 0 0 0) (.unit (dLp 1 0 0 0) (.unit (dLp 2 0 0 0) (.unit (dLp 3 0 0 0) (.unit (dLp 4 0 0 0) (.last (dI .i64) 56))))))) (.flat 85 lSurvey (.flat 39 lSpan (.flat 39 lSpan (.flat 39 lSpan (.flat 39 lSpan .nil)))))
def X_rsix := DecX.one (.exit 0) [6, 5, 1, 2, 4, 3] S_rsix
noncomputable def K.st_rsix := loopT1 P BKN43 30 206 41 [6, 5, 1, 2, 4, 3] S_rsix X_rsix
theorem sl_rsix : ∀ s, (K.st_rsix) s = T.run (
  .br (decide (Prod.fst s ≤ IntKind.wrap IntKind.i64 (Span.hi (Prod.fst (Prod.snd (Prod.snd (Prod.snd s)))) + Span.hi (Prod.fst (Prod.snd (Prod.snd (Prod.snd (Prod.snd s)))))))) (
    .br (r_none (r_middle (Prod.fst (Prod.snd s), Prod.fst s))) (
      .ret (Sum.inl (IntKind.wrap IntKind.i64 (Prod.fst s + (1 : Int)), Prod.fst (Prod.snd s), Prod.fst (Prod.snd (Prod.snd s)), Prod.fst (Prod.snd (Prod.snd (Prod.snd s))), Prod.fst (Prod.snd (Prod.snd (Prod.snd (Prod.snd s)))), Prod.fst (Prod.snd (Prod.snd (Prod.snd (Prod.snd (Prod.snd s))))), PUnit.unit))) (
      .br (r_none (Prod.fst (Prod.snd (Prod.snd (Prod.snd (Prod.snd (Prod.snd s))))))) (
        .ret (Sum.inl (IntKind.wrap IntKind.i64 (Prod.fst s + (1 : Int)), Prod.fst (Prod.snd s), Prod.fst (Prod.snd (Prod.snd s)), Prod.fst (Prod.snd (Prod.snd (Prod.snd s))), Prod.fst (Prod.snd (Prod.snd (Prod.snd (Prod.snd s)))), Span.mk (if IntKind.wrap IntKind.i64 (Prod.fst s + IntKind.wrap IntKind.i64 ((6 : Int) * Span.lo (r_middle (Prod.fst (Prod.snd s), Prod.fst s)))) < IntKind.wrap IntKind.i64 (Prod.fst s + IntKind.wrap IntKind.i64 ((6 : Int) * Span.lo (r_middle (Prod.fst (Prod.snd s), Prod.fst s)))) then IntKind.wrap IntKind.i64 (Prod.fst s + IntKind.wrap IntKind.i64 ((6 : Int) * Span.lo (r_middle (Prod.fst (Prod.snd s), Prod.fst s)))) else IntKind.wrap IntKind.i64 (Prod.fst s + IntKind.wrap IntKind.i64 ((6 : Int) * Span.lo (r_middle (Prod.fst (Prod.snd s), Prod.fst s))))) (if IntKind.wrap IntKind.i64 (Prod.fst s + IntKind.wrap IntKind.i64 ((6 : Int) * Span.hi (r_middle (Prod.fst (Prod.snd s), Prod.fst s)))) > IntKind.wrap IntKind.i64 (Prod.fst s + IntKind.wrap IntKind.i64 ((6 : Int) * Span.hi (r_middle (Prod.fst (Prod.snd s), Prod.fst s)))) then IntKind.wrap IntKind.i64 (Prod.fst s + IntKind.wrap IntKind.i64 ((6 : Int) * Span.hi (r_middle (Prod.fst (Prod.snd s), Prod.fst s)))) else IntKind.wrap IntKind.i64 (Prod.fst s + IntKind.wrap IntKind.i64 ((6 : Int) * Span.hi (r_middle (Prod.fst (Prod.snd s), Prod.fst s))))), PUnit.unit))) (
        .ret (Sum.inl (IntKind.wrap IntKind.i64 (Prod.fst s + (1 : Int)), Prod.fst (Prod.snd s), Prod.fst (Prod.snd (Prod.snd s)), Prod.fst (Prod.snd (Prod.snd (Prod.snd s))), Prod.fst (Prod.snd (Prod.snd (Prod.snd (Prod.snd s)))), Span.mk (if IntKind.wrap IntKind.i64 (Prod.fst s + IntKind.wrap IntKind.i64 ((6 : Int) * Span.lo (r_middle (Prod.fst (Prod.snd s), Prod.fst s)))) < Span.lo (Prod.fst (Prod.snd (Prod.snd (Prod.snd (Prod.snd (Prod.snd s)))))) then IntKind.wrap IntKind.i64 (Prod.fst s + IntKind.wrap IntKind.i64 ((6 : Int) * Span.lo (r_middle (Prod.fst (Prod.snd s), Prod.fst s)))) else Span.lo (Prod.fst (Prod.snd (Prod.snd (Prod.snd (Prod.snd (Prod.snd s))))))) (if IntKind.wrap IntKind.i64 (Prod.fst s + IntKind.wrap IntKind.i64 ((6 : Int) * Span.hi (r_middle (Prod.fst (Prod.snd s), Prod.fst s)))) > Span.hi (Prod.fst (Prod.snd (Prod.snd (Prod.snd (Prod.snd (Prod.snd s)))))) then IntKind.wrap IntKind.i64 (Prod.fst s + IntKind.wrap IntKind.i64 ((6 : Int) * Span.hi (r_middle (Prod.fst (Prod.snd s), Prod.fst s)))) else Span.hi (Prod.fst (Prod.snd (Prod.snd (Prod.snd (Prod.snd (Prod.snd s))))))), PUnit.unit))))) (
    .ret (Sum.inr (Prod.fst s, Prod.fst (Prod.snd s), Prod.fst (Prod.snd (Prod.snd s)), Prod.fst (Prod.snd (Prod.snd (Prod.snd s))), Prod.fst (Prod.snd (Prod.snd (Prod.snd (Prod.snd s)))), Prod.fst (Prod.snd (Prod.snd (Prod.snd (Prod.snd (Prod.snd s))))), PUnit.unit)))) := fun s => by kernel_rfl
noncomputable def K.L_rsix := lim K.st_rsix
def K.grow (o : Span) (a b : Int) : Span := ⟨if a < o.lo then a else o.lo, if b > o.hi then b else o.hi⟩
noncomputable def K.lowAt (x : Survey) (s : Int) : Int := IntKind.i64.wrap (s + IntKind.i64.wrap (6 * (r_middle (x, s)).lo))
noncomputable def K.highAt (x : Survey) (s : Int) : Int := IntKind.i64.wrap (s + IntKind.i64.wrap (6 * (r_middle (x, s)).hi))
noncomputable def K.F_rsix (x : Survey) (s : Int) (o : Span) : Span := if r_none (r_middle (x, s)) = true then o else if r_none o = true then grow ⟨lowAt x s, highAt x s⟩ (lowAt x s) (highAt x s) else grow o (lowAt x s) (highAt x s)
theorem K.L_rsix_eq (x : Survey) (r f a o : Span) (lo hi : Int) (h1 : IntKind.i64.wrap (f.hi + a.hi) = hi) (b1 : -4611686018427387904 ≤ lo) (b2 : hi ≤ 4611686018427387904) :
    K.L_rsix (lo, x, r, f, a, o, ()) = some (lo + ((hi - lo + 1).toNat : Int), x, r, f, a, (List.range (hi - lo + 1).toNat).foldl (fun o (i : Nat) => F_rsix x (lo + (i : Int)) o) o, ()) := by
  have key := lim_fold (step := K.st_rsix) (fun (i : Nat) (o : Span) => (lo + (i : Int), x, r, f, a, o, ())) (hi - lo + 1).toNat (fun o (i : Nat) => F_rsix x (lo + (i : Int)) o) (fun o => (lo + ((hi - lo + 1).toNat : Int), x, r, f, a, o, ())) (fun i hi' o => ?_) (fun o => ?_) o
  · have e0 : lo + ((0 : Nat) : Int) = lo := by omega
    simp only [e0] at key
    exact key
  · rw [sl_rsix]
    simp only [h1]
    rw [w64_in (n := lo + (i : Int) + 1) (by omega) (by omega), show lo + (i : Int) + 1 = lo + ((i + 1 : Nat) : Int) by omega]
    rw [show (F_rsix x (lo + (i : Int)) o) = (if r_none (r_middle (x, lo + (i : Int))) = true then o else if r_none o = true then grow ⟨lowAt x (lo + (i : Int)), highAt x (lo + (i : Int))⟩ (lowAt x (lo + (i : Int))) (highAt x (lo + (i : Int))) else grow o (lowAt x (lo + (i : Int))) (highAt x (lo + (i : Int)))) from rfl]
    have c : decide (lo + (i : Int) ≤ hi) = true := by simp; omega
    cases h2 : r_none (r_middle (x, lo + (i : Int))) with
    | true => simp only [T.run_br, T.run_ret, c, h2, if_true]
    | false =>
      cases h3 : r_none o with
      | true => simp only [T.run_br, T.run_ret, c, h2, h3, if_true, if_false, Bool.false_eq_true]; rfl
      | false => simp only [T.run_br, T.run_ret, c, h2, h3, if_true, if_false, Bool.false_eq_true]; rfl
  · rw [sl_rsix]
    simp only [T.run_br, T.run_ret, decide_eq_true_eq, h1]
    rw [if_neg (by omega)]
noncomputable def BKN51 : Tab := BKN43.addNode 206 41 (nodeE [6, 5, 1, 2, 4, 3] S_rsix X_rsix (fun s => .obs (K.L_rsix s) .ret))
theorem tKN51 : TabOk P BKN51 := TabOk.addLoop (d := 30) okP tKN43 (by kernel_rfl) (by kernel_rfl) (fun s r h => obs_ret h)
theorem fn_rsix : ∀ a, (callT1 P BKN51 30 206 D_rsix dSpan) a = T.run (
  .obs (L_rsix (IntKind.wrap IntKind.i64 (IntKind.wrap IntKind.i64 (Span.lo (Survey.m0 a) + Span.lo (Survey.m1 a)) + IntKind.wrap IntKind.i64 (Span.lo (Survey.m4 a) + Span.lo (Survey.m5 a))), a, Span.mk (0 : Int) (0 : Int), Span.mk (IntKind.wrap IntKind.i64 (Span.lo (Survey.m0 a) + Span.lo (Survey.m1 a))) (IntKind.wrap IntKind.i64 (Span.hi (Survey.m0 a) + Span.hi (Survey.m1 a))), Span.mk (IntKind.wrap IntKind.i64 (Span.lo (Survey.m4 a) + Span.lo (Survey.m5 a))) (IntKind.wrap IntKind.i64 (Span.hi (Survey.m4 a) + Span.hi (Survey.m5 a))), Span.mk (1 : Int) (0 : Int), PUnit.unit)) fun x0 =>
    .ret (Prod.fst (Prod.snd (Prod.snd (Prod.snd (Prod.snd (Prod.snd x0))))))) := fun a => by kernel_rfl
noncomputable def K.sixLo (x : Survey) : Int := IntKind.i64.wrap (IntKind.i64.wrap (x.m0.lo + x.m1.lo) + IntKind.i64.wrap (x.m4.lo + x.m5.lo))
noncomputable def K.sixHi (x : Survey) : Int := IntKind.i64.wrap (IntKind.i64.wrap (x.m0.hi + x.m1.hi) + IntKind.i64.wrap (x.m4.hi + x.m5.hi))
noncomputable def K.sixOk (x : Survey) : Bool := decide (-4611686018427387904 ≤ sixLo x) && decide (sixHi x ≤ 4611686018427387904)
noncomputable def K.r_six (x : Survey) : Span := (List.range (sixHi x - sixLo x + 1).toNat).foldl (fun o (i : Nat) => F_rsix x (sixLo x + (i : Int)) o) ⟨1, 0⟩
theorem K.r_six_eq (x : Survey) (h : sixOk x = true) : callT1 P BKN51 30 206 D_rsix dSpan x = some (r_six x) := by
  unfold sixOk at h
  rw [Bool.and_eq_true, decide_eq_true_eq, decide_eq_true_eq] at h
  rw [fn_rsix]
  show T.run (.obs (L_rsix (sixLo x, x, ⟨0, 0⟩, ⟨_, IntKind.i64.wrap (x.m0.hi + x.m1.hi)⟩, ⟨_, IntKind.i64.wrap (x.m4.hi + x.m5.hi)⟩, ⟨1, 0⟩, ())) _) = _
  rw [L_rsix_eq x _ _ _ _ (sixLo x) (sixHi x) rfl h.1 h.2]; rfl
noncomputable def BKN52 : Tab := BKN51.addCall 206 (callE D_rsix dSpan (fun x => .chk (sixOk x) (.ret (r_six x))))
theorem tKN52 : TabOk P BKN52 := TabOk.addFn (d := 30) okP tKN51 (fun a r h => by obtain ⟨g, e⟩ := chk_ret h; subst e; exact K.r_six_eq a g)
end Go.Proofs.YtjbhooodjmjdkaaGreat
/-! KN6 -/
namespace Go.Proofs.YtjbhooodjmjdkaaGreat
open Ev K
set_option maxRecDepth 100000
theorem fn_rchk : ∀ a, (callT1 P BKN52 30 168 D_rdens (dI .i64)) a = T.run (
  .br (r_bulbs (Prod.fst a) != (0 : Int)) (
    .ret (r_bulbs (Prod.fst a))) (
    .br (!r_id (Survey.id (Prod.snd a))) (
      .ret ((1 : Int))) (
      .br (decide (Survey.tick (Prod.snd a) < (0 : Int))) (
        .ret ((1 : Int))) (
        .br (decide (Survey.tick (Prod.snd a) > (1048576 : Int))) (
          .ret ((1 : Int))) (
          .br (decide (Survey.sag (Prod.snd a) < (0 : Int))) (
            .ret ((1 : Int))) (
            .br (decide (Survey.sag (Prod.snd a) > (200 : Int))) (
              .ret ((1 : Int))) (
              .br (!r_span (Survey.shown (Prod.snd a), (0 : Int), (2000 : Int))) (
                .ret ((1 : Int))) (
                .br (!r_span (Survey.m0 (Prod.snd a), (0 : Int), (65536 : Int))) (
                  .ret ((1 : Int))) (
                  .br (decide (IntKind.wrap IntKind.i64 (Span.hi (Survey.m0 (Prod.snd a)) - Span.lo (Survey.m0 (Prod.snd a))) ≥ (400 : Int))) (
                    .ret ((1 : Int))) (
                    .br (!r_span (Survey.m1 (Prod.snd a), (0 : Int), (65536 : Int))) (
                      .ret ((1 : Int))) (
                      .br (decide (IntKind.wrap IntKind.i64 (Span.hi (Survey.m1 (Prod.snd a)) - Span.lo (Survey.m1 (Prod.snd a))) ≥ (400 : Int))) (
                        .ret ((1 : Int))) (
                        .br (!r_span (Survey.m2 (Prod.snd a), (0 : Int), (65536 : Int))) (
                          .ret ((1 : Int))) (
                          .br (decide (IntKind.wrap IntKind.i64 (Span.hi (Survey.m2 (Prod.snd a)) - Span.lo (Survey.m2 (Prod.snd a))) ≥ (400 : Int))) (
                            .ret ((1 : Int))) (
                            .br (!r_span (Survey.m3 (Prod.snd a), (0 : Int), (65536 : Int))) (
                              .ret ((1 : Int))) (
                              .br (decide (IntKind.wrap IntKind.i64 (Span.hi (Survey.m3 (Prod.snd a)) - Span.lo (Survey.m3 (Prod.snd a))) ≥ (400 : Int))) (
                                .ret ((1 : Int))) (
                                .br (!r_span (Survey.m4 (Prod.snd a), (0 : Int), (65536 : Int))) (
                                  .ret ((1 : Int))) (
                                  .br (decide (IntKind.wrap IntKind.i64 (Span.hi (Survey.m4 (Prod.snd a)) - Span.lo (Survey.m4 (Prod.snd a))) ≥ (400 : Int))) (
                                    .ret ((1 : Int))) (
                                    .br (!r_span (Survey.m5 (Prod.snd a), (0 : Int), (65536 : Int))) (
                                      .ret ((1 : Int))) (
                                      .br (decide (IntKind.wrap IntKind.i64 (Span.hi (Survey.m5 (Prod.snd a)) - Span.lo (Survey.m5 (Prod.snd a))) ≥ (400 : Int))) (
                                        .ret ((1 : Int))) (
                                        .br (Prod.snd (r_Off (Prod.fst a, Survey.hydro (Prod.snd a))) != (0 : Int)) (
                                          .ret (Prod.snd (r_Off (Prod.fst a, Survey.hydro (Prod.snd a))))) (
                                          .br (r_none (r_density a)) (
                                            .ret ((9 : Int))) (
                                            .chk (sixOk (Prod.snd a)) <|
                                            .br (r_none (r_six (Prod.snd a))) (
                                              .ret ((9 : Int))) (
                                              .ret ((0 : Int))))))))))))))))))))))))) := fun a => by kernel_rfl
theorem K.r_span_iff {s : Span} {lo hi : Int} : r_span (s, lo, hi) = true ↔ lo ≤ s.lo ∧ s.lo ≤ s.hi ∧ s.hi ≤ hi := by
  unfold r_span; simp
theorem K.not_not {c : Bool} (h : ¬ (!c) = true) : c = true := by cases c with
  | true => rfl
  | false => exact absurd rfl h
noncomputable def K.r_check (b : Bulbs) (x : Survey) : Int :=
  if (r_bulbs b != 0) = true then r_bulbs b else
  if (!r_id x.id) = true then 1 else
  if decide (x.tick < 0) = true then 1 else
  if decide (x.tick > 1048576) = true then 1 else
  if decide (x.sag < 0) = true then 1 else
  if decide (x.sag > 200) = true then 1 else
  if (!r_span (x.shown, 0, 2000)) = true then 1 else
  if (!r_span (x.m0, 0, 65536)) = true then 1 else
  if decide (IntKind.i64.wrap (x.m0.hi - x.m0.lo) ≥ 400) = true then 1 else
  if (!r_span (x.m1, 0, 65536)) = true then 1 else
  if decide (IntKind.i64.wrap (x.m1.hi - x.m1.lo) ≥ 400) = true then 1 else
  if (!r_span (x.m2, 0, 65536)) = true then 1 else
  if decide (IntKind.i64.wrap (x.m2.hi - x.m2.lo) ≥ 400) = true then 1 else
  if (!r_span (x.m3, 0, 65536)) = true then 1 else
  if decide (IntKind.i64.wrap (x.m3.hi - x.m3.lo) ≥ 400) = true then 1 else
  if (!r_span (x.m4, 0, 65536)) = true then 1 else
  if decide (IntKind.i64.wrap (x.m4.hi - x.m4.lo) ≥ 400) = true then 1 else
  if (!r_span (x.m5, 0, 65536)) = true then 1 else
  if decide (IntKind.i64.wrap (x.m5.hi - x.m5.lo) ≥ 400) = true then 1 else
  if ((r_Off (b, x.hydro)).2 != 0) = true then (r_Off (b, x.hydro)).2 else
  if r_none (r_density (b, x)) = true then 9 else
  if r_none (r_six x) = true then 9 else
  0
theorem K.r_check_eq (a : Bulbs × Survey) : callT1 P BKN52 30 168 D_rdens (dI .i64) a = some (r_check a.1 a.2) := by
  rw [fn_rchk]; unfold r_check
  refine br_step (fun _ => rfl) (fun k0 => ?_)
  refine br_step (fun _ => rfl) (fun k1 => ?_)
  refine br_step (fun _ => rfl) (fun k2 => ?_)
  refine br_step (fun _ => rfl) (fun k3 => ?_)
  refine br_step (fun _ => rfl) (fun k4 => ?_)
  refine br_step (fun _ => rfl) (fun k5 => ?_)
  refine br_step (fun _ => rfl) (fun k6 => ?_)
  refine br_step (fun _ => rfl) (fun k7 => ?_)
  refine br_step (fun _ => rfl) (fun k8 => ?_)
  refine br_step (fun _ => rfl) (fun k9 => ?_)
  refine br_step (fun _ => rfl) (fun k10 => ?_)
  refine br_step (fun _ => rfl) (fun k11 => ?_)
  refine br_step (fun _ => rfl) (fun k12 => ?_)
  refine br_step (fun _ => rfl) (fun k13 => ?_)
  refine br_step (fun _ => rfl) (fun k14 => ?_)
  refine br_step (fun _ => rfl) (fun k15 => ?_)
  refine br_step (fun _ => rfl) (fun k16 => ?_)
  refine br_step (fun _ => rfl) (fun k17 => ?_)
  refine br_step (fun _ => rfl) (fun k18 => ?_)
  refine br_step (fun _ => rfl) (fun k19 => ?_)
  refine br_step (fun _ => rfl) (fun k20 => ?_)
  have ok : sixOk a.2 = true := by
    obtain ⟨a0, b0, c0⟩ := r_span_iff.1 (not_not k7)
    obtain ⟨a1, b1, c1⟩ := r_span_iff.1 (not_not k9)
    obtain ⟨a4, b4, c4⟩ := r_span_iff.1 (not_not k15)
    obtain ⟨a5, b5, c5⟩ := r_span_iff.1 (not_not k17)
    unfold sixOk sixLo sixHi
    rw [w64_in (n := a.2.m0.lo + a.2.m1.lo) (by omega) (by omega), w64_in (n := a.2.m4.lo + a.2.m5.lo) (by omega) (by omega), w64_in (n := a.2.m0.hi + a.2.m1.hi) (by omega) (by omega), w64_in (n := a.2.m4.hi + a.2.m5.hi) (by omega) (by omega), w64_in (n := a.2.m0.lo + a.2.m1.lo + (a.2.m4.lo + a.2.m5.lo)) (by omega) (by omega), w64_in (n := a.2.m0.hi + a.2.m1.hi + (a.2.m4.hi + a.2.m5.hi)) (by omega) (by omega)]
    rw [Bool.and_eq_true, decide_eq_true_eq, decide_eq_true_eq]; omega
  refine chk_step ok ?_
  exact br_step (fun _ => rfl) (fun _ => rfl)
noncomputable def BKN61 : Tab := BKN52.addCall 168 (callE D_rdens (dI .i64) (fun a => .ret (r_check a.1 a.2)))
theorem tKN61 : TabOk P BKN61 := TabOk.addFn (d := 30) okP tKN52 (fun a r h => by rw [r_check_eq]; exact congrArg some (ret_some h))
end Go.Proofs.YtjbhooodjmjdkaaGreat
/-! KN7 -/
namespace Go.Proofs.YtjbhooodjmjdkaaGreat
open Ev K
set_option maxRecDepth 100000
theorem K.lim_gcd {σ : Type} {st : σ → Option (σ ⊕ σ)} (S : Int → Int → σ) (h0 : ∀ m : Nat, st (S m 0) = some (.inr (S m 0))) (h1 : ∀ m n : Nat, 0 < n → st (S m n) = some (.inl (S n ((m % n : Nat) : Int)))) :
    ∀ k n m : Nat, n < k → lim st (S m n) = some (S (Nat.gcd m n : Nat) 0) := by
  intro k
  induction k with
  | zero => intro n m h; omega
  | succ k ih =>
    intro n m h
    rcases Nat.eq_zero_or_pos n with e | e
    · subst e; rw [Nat.gcd_zero_right]; exact lim_done (h0 m)
    · rw [lim_step (h1 m n e), ih (m % n) n (Nat.lt_of_lt_of_le (Nat.mod_lt m e) (by omega)), Nat.gcd_comm m n, Nat.gcd_rec n m, Nat.gcd_comm]
def D_rdiv := DecL.cons (dI .i64) (.last (dI .i64) 0)
def S_rdiv := DecS.mk1 (.cons (dI .i64) (.last (dI .i64) 14))
def X_rdiv := DecX.one (.exit 0) [1, 0] S_rdiv
noncomputable def K.st_rdiv := loopT1 P BKN61 30 226 25 [1, 0] S_rdiv X_rdiv
theorem sl_rdiv : ∀ s, (K.st_rdiv) s = T.run (
  .br (decide (Prod.snd s > (0 : Int))) (
    .chk (!decide (Prod.snd s = (0 : Int))) <|
    .ret (Sum.inl (Prod.snd s, Int.tmod (Prod.fst s) (Prod.snd s)))) (
    .ret (Sum.inr s))) := fun s => by kernel_rfl
noncomputable def K.L_rdiv := lim K.st_rdiv
noncomputable def BKN71 : Tab := BKN61.addNode 226 25 (nodeE [1, 0] S_rdiv X_rdiv (fun s => .obs (K.L_rdiv s) .ret))
theorem tKN71 : TabOk P BKN71 := TabOk.addLoop (d := 30) okP tKN61 (by kernel_rfl) (by kernel_rfl) (fun s r h => obs_ret h)
theorem fn_rdiv : ∀ a, (callT1 P BKN71 30 226 D_rdiv (dI .i64)) a = T.run (
  .br (decide (Prod.fst a < (0 : Int))) (
    .obs (L_rdiv (IntKind.wrap IntKind.i64 ((0 : Int) - Prod.fst a), Prod.snd a)) fun x0 =>
      .ret (Prod.fst x0)) (
    .obs (L_rdiv a) fun x0 =>
      .ret (Prod.fst x0))) := fun a => by kernel_rfl
theorem K.L_rdiv_eq (m n : Nat) : K.L_rdiv ((m : Int), (n : Int)) = some (((Nat.gcd m n : Nat) : Int), 0) := by
  refine lim_gcd (fun a b => (a, b)) (fun m => ?_) (fun m n h => ?_) (n + 1) n m (by omega)
  · rw [sl_rdiv]; rfl
  · rw [sl_rdiv]
    simp only [T.run_br, T.run_chk, T.run_ret]
    rw [if_pos (by simp; omega), if_pos (by simp; omega)]; rfl
def K.divOk (a b : Int) : Bool := decide (-9223372036854775808 < a) && (decide (a ≤ 9223372036854775807) && decide (0 ≤ b))
def K.gcdI (a b : Int) : Int := (Nat.gcd a.natAbs b.natAbs : Nat)
theorem K.r_div_eq (a : Int × Int) (h : divOk a.1 a.2 = true) : callT1 P BKN71 30 226 D_rdiv (dI .i64) a = some (gcdI a.1 a.2) := by
  unfold divOk at h
  simp only [Bool.and_eq_true, decide_eq_true_eq] at h
  obtain ⟨h1, h2, h3⟩ := h
  rw [fn_rdiv]; unfold gcdI
  have e2 : a.2 = (a.2.natAbs : Int) := by omega
  by_cases hn : a.1 < 0
  · have e1 : IntKind.wrap IntKind.i64 (0 - a.1) = (a.1.natAbs : Int) := by rw [w64_in (by omega) (by omega)]; omega
    have key := L_rdiv_eq a.1.natAbs a.2.natAbs
    rw [← e1, ← e2] at key
    simp only [T.run_br, decide_eq_true_eq]
    rw [if_pos hn]
    simp only [T.run, key]
  · have e1 : a.1 = (a.1.natAbs : Int) := by omega
    have key := L_rdiv_eq a.1.natAbs a.2.natAbs
    rw [← e1, ← e2] at key
    simp only [T.run_br, decide_eq_true_eq]
    rw [if_neg hn]
    show T.run (.obs (L_rdiv (a.1, a.2)) _) = _
    simp only [T.run, key]
noncomputable def BKN72 : Tab := BKN71.addCall 226 (callE D_rdiv (dI .i64) (fun a => .chk (divOk a.1 a.2) (.ret (gcdI a.1 a.2))))
theorem tKN72 : TabOk P BKN72 := TabOk.addFn (d := 30) okP tKN71 (fun a r h => by obtain ⟨g, e⟩ := chk_ret h; subst e; exact K.r_div_eq a g)
def D_rfull := DecL.last (dShip) 0
def S_rful := DecS.mk0 (.skip (.unit (dLp 0 0 0 0) (.skip (.cons (dI .i64) (.last (dI .i64) 18))))) (.flat 27 lShip .nil)
def X_rful := DecX.one (.exit 0) [4, 1, 3] S_rful
noncomputable def K.st_rful := loopT1 P BKN72 30 197 25 [4, 1, 3] S_rful X_rful
theorem sl_rful : ∀ s, (K.st_rful) s = T.run (
  .br (decide (Prod.snd (Prod.fst s) < (↑(len (Ship.holds (Prod.fst (Prod.snd s)))) : Int))) (
    .chk (decide ((0 : Int) ≤ Prod.snd (Prod.fst s) ∧ Prod.snd (Prod.fst s) < (↑(XS.len (Ship.holds (Prod.fst (Prod.snd s)))) : Int))) <|
    .ret (Sum.inl ((IntKind.wrap IntKind.i64 (Prod.fst (Prod.fst s) + XS.g (Ship.holds (Prod.fst (Prod.snd s))) (Int.toNat (Prod.snd (Prod.fst s))) (1 : Nat)), IntKind.wrap IntKind.i64 (Prod.snd (Prod.fst s) + (1 : Int))), Prod.fst (Prod.snd s), PUnit.unit))) (
    .ret (Sum.inr (Prod.fst s, Prod.fst (Prod.snd s), PUnit.unit)))) := fun s => by kernel_rfl
noncomputable def K.L_rful := lim K.st_rful
def K.r_full (s : Ship) : Int := (List.range (len s.holds)).foldl (fun n i => IntKind.i64.wrap (n + (hld s.holds i).room)) s.light
theorem K.L_rful_eq (s : Ship) (n : Int) : K.L_rful ((n, 0), s, ()) = some (((List.range (len s.holds)).foldl (fun n i => IntKind.i64.wrap (n + (hld s.holds i).room)) n, (len s.holds : Int)), s, ()) := by
  have e1 := K.len_le s.holds; have e2 := K.len_le' s.holds
  refine lim_fold (fun i n => ((n, (i : Int)), s, ())) (len s.holds) (fun n i => IntKind.i64.wrap (n + (hld s.holds i).room)) (fun n => ((n, (len s.holds : Int)), s, ())) (fun i hi a => ?_) (fun a => ?_) n
  · rw [sl_rful]
    have c1 : (0 : Int) ≤ i ∧ (i : Int) < s.holds.len := by omega
    simp only [T.run_br, T.run_chk, T.run_ret, decide_eq_true_eq, Int.toNat_natCast, if_pos c1]
    rw [if_pos (by omega), w64_in (n := (i : Int) + 1) (by omega) (by omega)]
    rfl
  · rw [sl_rful]
    simp only [T.run_br, T.run_chk, T.run_ret, decide_eq_true_eq]
    rw [if_neg (by omega)]
noncomputable def BKN73 : Tab := BKN72.addNode 197 25 (nodeE [4, 1, 3] S_rful X_rful (fun s => .obs (K.L_rful s) .ret))
theorem tKN73 : TabOk P BKN73 := TabOk.addLoop (d := 30) okP tKN72 (by kernel_rfl) (by kernel_rfl) (fun s r h => obs_ret h)
theorem fn_rful : ∀ a, (callT1 P BKN73 30 197 D_rfull (dI .i64)) a = T.run (
  .obs (L_rful ((Ship.light a, (0 : Int)), a, PUnit.unit)) fun x0 =>
    .ret (Prod.fst (Prod.fst x0))) := fun a => by kernel_rfl
theorem K.r_full_eq (s : Ship) : callT1 P BKN73 30 197 D_rfull (dI .i64) s = some (r_full s) := by
  rw [fn_rful]
  show T.run (.obs (L_rful ((s.light, 0), s, ())) _) = _
  rw [L_rful_eq]; rfl
noncomputable def BKN74 : Tab := BKN73.addCall 197 (callE D_rfull (dI .i64) (fun a => .ret (r_full a)))
theorem tKN74 : TabOk P BKN74 := TabOk.addFn (d := 30) okP tKN73 (fun a r h => by rw [r_full_eq]; exact congrArg some (ret_some h))
end Go.Proofs.YtjbhooodjmjdkaaGreat
