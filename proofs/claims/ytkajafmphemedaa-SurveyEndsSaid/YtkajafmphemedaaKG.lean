/- The check of a ship and of a curve. No conditions. -/
import Derived.Test.YtkajafmphemedaaKE
namespace Go.Proofs.Ytkajafmphemedaa
open Ev K
set_option maxRecDepth 100000
/-! rooms -/
def S_rms := DecS.mk1 (.skips 3 (.cons (dI .i64) (.skips 5 (.cons xHolds (.cons (dI .i64) (.last (dI .i64) 9))))))
def X_rms := DecX.one (.exit 0) [3] (DecS.mk1 (.skips 3 (.last (dI .i64) 17)))
noncomputable def K.st_rms := loopT1 P BKE3 30 83 25 [11, 3, 9, 10] S_rms X_rms
theorem sl_rms : ∀ s, (K.st_rms) s = T.run (
  .br (decide (Prod.snd (Prod.snd (Prod.snd s)) < Prod.fst (Prod.snd (Prod.snd s)))) (
    .chk (decide ((0 : Int) ≤ Prod.snd (Prod.snd (Prod.snd s)) ∧ Prod.snd (Prod.snd (Prod.snd s)) < (↑(XS.len (Prod.fst (Prod.snd s))) : Int))) <|
    .ret (Sum.inl (IntKind.wrap IntKind.i64 (Prod.fst s + XS.g (Prod.fst (Prod.snd s)) (Int.toNat (Prod.snd (Prod.snd (Prod.snd s)))) (1 : Nat)), Prod.fst (Prod.snd s), Prod.fst (Prod.snd (Prod.snd s)), IntKind.wrap IntKind.i64 (Prod.snd (Prod.snd (Prod.snd s)) + (1 : Int))))) (
    .ret (Sum.inr (Prod.fst s)))) := fun s => by kernel_rfl
noncomputable def K.L_rms := lim K.st_rms
def K.sumRooms (x : XS) (a : Int) : Int := (List.range (len x)).foldl (fun a i => IntKind.i64.wrap (a + x.g i 1)) a
theorem K.L_rms_eq (x : XS) (a : Int) : K.L_rms (a, x, (len x : Int), 0) = some (sumRooms x a) := by
  have e1 := K.len_le x; have e2 := K.len_le' x
  refine lim_fold (fun i a => (a, x, (len x : Int), (i : Int))) (len x) (fun a i => IntKind.i64.wrap (a + x.g i 1)) id (fun i hi a => ?_) (fun a => ?_) a
  · rw [sl_rms]
    simp only [T.run_br, T.run_chk, T.run_ret, decide_eq_true_eq, Int.toNat_natCast]
    rw [if_pos (by omega), if_pos (by omega), w64_in (n := (i : Int) + 1) (by omega) (by omega)]; simp
  · rw [sl_rms]
    simp only [T.run_br, T.run_chk, T.run_ret, decide_eq_true_eq]
    rw [if_neg (by omega)]; rfl
noncomputable def BKG1 : Tab := BKE3.addNode 83 25 (nodeE [11, 3, 9, 10] S_rms X_rms (fun s => .obs (K.L_rms s) .ret))
theorem tKG1 : TabOk P BKG1 := TabOk.addLoop (d := 30) okP tKE3 (by kernel_rfl) (by kernel_rfl) (fun s r h => obs_ret h)
def D_ship := DecL.last dShip 0
theorem fn_rms : ∀ a, (callT1 P BKG1 30 83 D_ship (dI .i64)) a = T.run (
  .obs (L_rms (Ship.light a, Ship.holds a, (↑(len (Ship.holds a)) : Int), (0 : Int))) fun x0 =>
    .ret (x0)) := fun a => by kernel_rfl
def K.rooms (s : Ship) : Int := sumRooms s.holds s.light
noncomputable def BKG2 : Tab := BKG1.addCall 83 (callE D_ship (dI .i64) (fun s => .ret (K.rooms s)))
theorem tKG2 : TabOk P BKG2 := TabOk.addFn (d := 30) okP tKG1 (fun a r h => by rw [fn_rms, K.L_rms_eq, ← ret_some h]; rfl)
/-! placed -/
def D_pl := DecL.cons (dI .i64) (.last (dI .i64) 0)
theorem fn_placed : ∀ a, (callT1 P BKG2 30 80 D_pl dB) a = T.run (
  .br (within (Prod.fst a) (-20000 : Int) (20000 : Int)) (
    .ret (within (Prod.snd a) (0 : Int) (5000 : Int))) (
    .ret (false))) := fun a => by kernel_rfl
noncomputable def K.placed (a : Int × Int) : Bool := (if (within (Prod.fst a) (-20000 : Int) (20000 : Int)) = true then within (Prod.snd a) (0 : Int) (5000 : Int) else false)
theorem eq_placed (a : Int × Int) : (callT1 P BKG2 30 80 D_pl dB) a = some (K.placed a) := (fn_placed a).trans (T.br_some rfl rfl)
noncomputable def BKG3 : Tab := BKG2.addCall 80 (callE D_pl dB (fun a => .ret (K.placed a)))
theorem tKG3 : TabOk P BKG3 := TabOk.addFn (d := 30) okP tKG2 (fun a r h => by rw [eq_placed]; exact congrArg some (ret_some h))
/-! curve.Check -/
def S_cc := DecS.mk1 (.skips 3 (.cons (dI .i64) (.skips 19 (.cons xKnots (.cons (dI .i64) (.last (dI .i64) 18))))))
def X_cc := DecX.or (DecX.one .ret [2] (DecS.mk1 (.skips 2 (.last (dI .i64) 41)))) (DecX.one (.exit 1) [] (DecS.mk1 (.tops 44)))
noncomputable def K.st_cc := loopT1 P BKG3 30 84 57 [25, 3, 23, 24] S_cc X_cc
theorem sl_cc : ∀ s, (K.st_cc) s = T.run (
  .br (decide (Prod.snd (Prod.snd (Prod.snd s)) < Prod.fst (Prod.snd (Prod.snd s)))) (
    .chk (decide ((0 : Int) ≤ Prod.snd (Prod.snd (Prod.snd s)) ∧ Prod.snd (Prod.snd (Prod.snd s)) < (↑(XS.len (Prod.fst (Prod.snd s))) : Int))) <|
    .br (!within (XS.g (Prod.fst (Prod.snd s)) (Int.toNat (Prod.snd (Prod.snd (Prod.snd s)))) (0 : Nat)) (IntKind.wrap IntKind.i64 (Prod.fst s + (1 : Int))) (2000 : Int)) (
      .ret (Sum.inr (Sum.inl (1 : Int)))) (
      .br (!within (XS.g (Prod.fst (Prod.snd s)) (Int.toNat (Prod.snd (Prod.snd (Prod.snd s)))) (1 : Nat)) (-65536 : Int) (65536 : Int)) (
        .ret (Sum.inr (Sum.inl (1 : Int)))) (
        .ret (Sum.inl (XS.g (Prod.fst (Prod.snd s)) (Int.toNat (Prod.snd (Prod.snd (Prod.snd s)))) (0 : Nat), Prod.fst (Prod.snd s), Prod.fst (Prod.snd (Prod.snd s)), IntKind.wrap IntKind.i64 (Prod.snd (Prod.snd (Prod.snd s)) + (1 : Int))))))) (
    .ret (Sum.inr (Sum.inr PUnit.unit)))) := fun s => by kernel_rfl
noncomputable def K.L_cc := lim K.st_cc
def K.lastX (x : XS) (i : Nat) : Int := if i = 0 then -1 else x.g (i - 1) 0
def K.kntE (x : XS) (i : Nat) : Option Int := if (!within (x.g i 0) (IntKind.i64.wrap (lastX x i + 1)) 2000) = true then some 1 else if (!within (x.g i 1) (-65536) 65536) = true then some 1 else none
theorem K.L_cc_eq (x : XS) : K.L_cc (-1, x, (len x : Int), 0) = some (K.orr Sum.inl (.inr ()) ((List.range (len x)).findSome? (kntE x))) := by
  have e1 := K.len_le x; have e2 := K.len_le' x
  refine lim_err (fun i => (lastX x i, x, (len x : Int), (i : Int))) (len x) (kntE x) Sum.inl (Sum.inr ()) (fun i hi => ?_) ?_
  · rw [sl_cc]
    simp only [T.run_br, T.run_chk, T.run_ret, decide_eq_true_eq, Int.toNat_natCast]
    rw [if_pos (by omega), if_pos (by omega), w64_in (n := (i : Int) + 1) (by omega) (by omega)]
    simp only [kntE, K.orr]
    split
    · simp_all
    split
    · simp_all
    simp_all [lastX]
  · rw [sl_cc]
    simp only [T.run_br, T.run_chk, T.run_ret, decide_eq_true_eq]
    rw [if_neg (by omega)]
noncomputable def BKG4 : Tab := BKG3.addNode 84 57 (nodeE [25, 3, 23, 24] S_cc X_cc (fun s => .obs (K.L_cc s) .ret))
theorem tKG4 : TabOk P BKG4 := TabOk.addLoop (d := 30) okP tKG3 (by kernel_rfl) (by kernel_rfl) (fun s r h => obs_ret h)
def D_crv := DecL.last dCurve 0
theorem fn_cc : ∀ a, (callT1 P BKG4 30 84 D_crv (dI .i64)) a = T.run (
  .br (decide ((↑(len (Curve.knots a)) : Int) > (40 : Int))) (
    .ret ((2 : Int))) (
    .br ((↑(len (Curve.knots a)) : Int) == (0 : Int)) (
      .ret ((1 : Int))) (
      .br (!within (Curve.err a) (0 : Int) (4000 : Int)) (
        .ret ((1 : Int))) (
        .obs (L_cc ((-1 : Int), Curve.knots a, (↑(len (Curve.knots a)) : Int), (0 : Int))) fun x0 =>
          .sum (x0) (fun x1 =>
            .ret (x1)) (fun x1 =>
            .ret ((0 : Int))))))) := fun a => by kernel_rfl
def K.curveCheck (c : Curve) : Int := if (len c.knots : Int) > 40 then 2 else if ((len c.knots : Int) == 0) = true then 1 else if (!within c.err 0 4000) = true then 1 else K.orr id 0 ((List.range (len c.knots)).findSome? (kntE c.knots))
theorem K.curveCheck_eq (c : Curve) : callT1 P BKG4 30 84 D_crv (dI .i64) c = some (K.curveCheck c) := by
  rw [fn_cc]; unfold K.curveCheck
  simp only [T.run_br, decide_eq_true_eq, T.run_ret]
  split
  · rfl
  split
  · rfl
  split
  · rfl
  rw [K.L_cc_eq]
  cases (List.range (len c.knots)).findSome? (kntE c.knots) <;> rfl
noncomputable def BKG5 : Tab := BKG4.addCall 84 (callE D_crv (dI .i64) (fun c => .ret (K.curveCheck c)))
theorem tKG5 : TabOk P BKG5 := TabOk.addFn (d := 30) okP tKG4 (fun a r h => by rw [K.curveCheck_eq]; exact congrArg some (ret_some h))
/-! pieces -/
def S_pcs := DecS.yld (.unit dYv (.cons (dP 2 lCurve 0) (.skip (.last (dI .i64) 24)))) .nil
def X_pcs := DecX.or (DecX.one .ret [] (DecS.yld (.tops 28) .nil)) (DecX.one (.exit 0) [] (DecS.yld (.tops 28) .nil))
noncomputable def K.st_pcs := loopT1 P BKG5 30 129 9 [3, 1, 0] S_pcs X_pcs
theorem sl_pcs : ∀ s, (K.st_pcs) s = T.run (
  .br (decide (Prod.snd (Prod.fst s) < (↑(len (Curve.knots (Prod.fst (Prod.fst s)))) : Int))) (
    .chk (decide ((0 : Int) ≤ IntKind.wrap IntKind.i64 (Prod.snd (Prod.fst s) - (1 : Int)) ∧ IntKind.wrap IntKind.i64 (Prod.snd (Prod.fst s) - (1 : Int)) < (↑(XS.len (Curve.knots (Prod.fst (Prod.fst s)))) : Int))) <|
    .chk (decide ((0 : Int) ≤ Prod.snd (Prod.fst s) ∧ Prod.snd (Prod.fst s) < (↑(XS.len (Curve.knots (Prod.fst (Prod.fst s)))) : Int))) <|
    .br (!Prod.fst (Prod.snd (Prod.snd s)) (List.length (Prod.snd (Prod.snd (Prod.snd s))))) (
      .ret (Sum.inr (Sum.inl (PUnit.unit, PUnit.unit, Prod.fst (Prod.snd (Prod.snd s)), ([AV.int IntKind.i64 (IntKind.wrap IntKind.i64 (Prod.snd (Prod.fst s) - (1 : Int))), AV.agg [AV.int IntKind.i64 (XS.g (Curve.knots (Prod.fst (Prod.fst s))) (Int.toNat (IntKind.wrap IntKind.i64 (Prod.snd (Prod.fst s) - (1 : Int)))) (0 : Nat)), AV.int IntKind.i64 (XS.g (Curve.knots (Prod.fst (Prod.fst s))) (Int.toNat (IntKind.wrap IntKind.i64 (Prod.snd (Prod.fst s) - (1 : Int)))) (1 : Nat)), AV.int IntKind.i64 (XS.g (Curve.knots (Prod.fst (Prod.fst s))) (Int.toNat (Prod.snd (Prod.fst s))) (0 : Nat)), AV.int IntKind.i64 (XS.g (Curve.knots (Prod.fst (Prod.fst s))) (Int.toNat (Prod.snd (Prod.fst s))) (1 : Nat))]], Prod.fst (Prod.snd (Prod.snd s)) (List.length (Prod.snd (Prod.snd (Prod.snd s))))) :: Prod.snd (Prod.snd (Prod.snd s)))))) (
      .ret (Sum.inl ((Prod.fst (Prod.fst s), IntKind.wrap IntKind.i64 (Prod.snd (Prod.fst s) + (1 : Int))), PUnit.unit, Prod.fst (Prod.snd (Prod.snd s)), ([AV.int IntKind.i64 (IntKind.wrap IntKind.i64 (Prod.snd (Prod.fst s) - (1 : Int))), AV.agg [AV.int IntKind.i64 (XS.g (Curve.knots (Prod.fst (Prod.fst s))) (Int.toNat (IntKind.wrap IntKind.i64 (Prod.snd (Prod.fst s) - (1 : Int)))) (0 : Nat)), AV.int IntKind.i64 (XS.g (Curve.knots (Prod.fst (Prod.fst s))) (Int.toNat (IntKind.wrap IntKind.i64 (Prod.snd (Prod.fst s) - (1 : Int)))) (1 : Nat)), AV.int IntKind.i64 (XS.g (Curve.knots (Prod.fst (Prod.fst s))) (Int.toNat (Prod.snd (Prod.fst s))) (0 : Nat)), AV.int IntKind.i64 (XS.g (Curve.knots (Prod.fst (Prod.fst s))) (Int.toNat (Prod.snd (Prod.fst s))) (1 : Nat))]], Prod.fst (Prod.snd (Prod.snd s)) (List.length (Prod.snd (Prod.snd (Prod.snd s))))) :: Prod.snd (Prod.snd (Prod.snd s)))))) (
    .ret (Sum.inr (Sum.inr (PUnit.unit, PUnit.unit, Prod.snd (Prod.snd s)))))) := fun s => by kernel_rfl
noncomputable def K.L_pcs := lim K.st_pcs
noncomputable def BKG6 : Tab := BKG5.addNode 129 9 (nodeE [3, 1, 0] S_pcs X_pcs (fun s => .obs (K.L_pcs s) .ret))
theorem tKG6 : TabOk P BKG6 := TabOk.addLoop (d := 30) okP tKG5 (by kernel_rfl) (by kernel_rfl) (fun s r h => obs_ret h)
noncomputable def I_pcs (a : Curve) (bs : Nat → Bool) := iterT1 P BKG6 30 129 [] (V_pcs.enc a) bs
theorem it_pcs : ∀ a bs, (I_pcs) a bs = T.run (
  .obs (L_pcs ((a, (1 : Int)), PUnit.unit, bs, [])) fun x0 =>
    .sum (x0) (fun x1 =>
      .ret (List.reverse (Prod.snd (Prod.snd (Prod.snd x1))))) (fun x1 =>
      .ret (List.reverse (Prod.snd (Prod.snd (Prod.snd x1)))))) := fun a bs => by kernel_rfl
end Go.Proofs.Ytkajafmphemedaa
