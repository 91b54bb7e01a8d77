/- The check of a ship. No conditions. -/
import Derived.Test.YtkajafmphemedaaKH
namespace Go.Proofs.Ytkajafmphemedaa
open Ev K
set_option maxRecDepth 100000
def S_hc := DecS.mk0 (.skip (.unit (dLp 0 0 0 0) (.skips 43 (.cons xHolds (.cons (dI .i64) (.last (dI .i64) 66)))))) (.flat 27 lShip .nil)
def S_hcx := DecS.mk0 (.skip (.unit (dLp 0 0 0 0) (.tops 112))) (.flat 27 lShip .nil)
def X_hc := DecX.or (DecX.one .ret [2] (DecS.mk1 (.skips 2 (.last (dI .i64) 111)))) (DecX.one (.exit 0) [1] S_hcx)
noncomputable def K.st_hc := loopT1 P BKH6 30 59 49 [47, 1, 45, 46] S_hc X_hc
theorem sl_hc : ∀ s, (K.st_hc) s = T.run (
  .br (decide (Prod.snd (Prod.snd (Prod.fst s)) < Prod.fst (Prod.snd (Prod.fst s)))) (
    .chk (decide ((0 : Int) ≤ Prod.snd (Prod.snd (Prod.fst s)) ∧ Prod.snd (Prod.snd (Prod.fst s)) < (↑(XS.len (Prod.fst (Prod.fst s))) : Int))) <|
    .br (!within (XS.g (Prod.fst (Prod.fst s)) (Int.toNat (Prod.snd (Prod.snd (Prod.fst s)))) (0 : Nat)) (1 : Int) (1099511627776 : Int)) (
      .ret (Sum.inr (Sum.inl (1 : Int)))) (
      .br (!within (XS.g (Prod.fst (Prod.fst s)) (Int.toNat (Prod.snd (Prod.snd (Prod.fst s)))) (1 : Nat)) (0 : Int) (65536 : Int)) (
        .ret (Sum.inr (Sum.inl (1 : Int)))) (
        .br (!placed (XS.g (Prod.fst (Prod.fst s)) (Int.toNat (Prod.snd (Prod.snd (Prod.fst s)))) (2 : Nat), XS.g (Prod.fst (Prod.fst s)) (Int.toNat (Prod.snd (Prod.snd (Prod.fst s)))) (3 : Nat))) (
          .ret (Sum.inr (Sum.inl (1 : Int)))) (
          .chk (decide ((0 : Int) ≤ Prod.snd (Prod.snd (Prod.fst s)) ∧ Prod.snd (Prod.snd (Prod.fst s)) ≤ (↑(XS.len (Ship.holds (Prod.fst (Prod.snd s)))) : Int)) && true) <|
          .br (has_hul1 (hld (Prod.fst (Prod.fst s)) (Int.toNat (Prod.snd (Prod.snd (Prod.fst s))))) (XS.mk (XS.n (Ship.holds (Prod.fst (Prod.snd s)))) (XS.row (Ship.holds (Prod.fst (Prod.snd s))) + (0 : Nat)) (Int.toNat (Prod.snd (Prod.snd (Prod.fst s))) - (0 : Nat)) (Option.rec none (fun val => some (val - (0 : Nat))) (XS.cap (Ship.holds (Prod.fst (Prod.snd s))))) (XS.f (Ship.holds (Prod.fst (Prod.snd s)))))) (
            .ret (Sum.inr (Sum.inl (6 : Int)))) (
            .ret (Sum.inl ((Prod.fst (Prod.fst s), Prod.fst (Prod.snd (Prod.fst s)), IntKind.wrap IntKind.i64 (Prod.snd (Prod.snd (Prod.fst s)) + (1 : Int))), Prod.fst (Prod.snd s), PUnit.unit))))))) (
    .ret (Sum.inr (Sum.inr (PUnit.unit, Prod.fst (Prod.snd s), PUnit.unit))))) := fun s => by kernel_rfl
noncomputable def K.L_hc := lim K.st_hc
/-- A hold with the ID of an earlier one. -/
def K.twice (x : XS) (i : Nat) : Bool := (first (fun j => x.g j 0 == (hld x i).id) i).isSome
noncomputable def K.hldE (x : XS) (i : Nat) : Option Int := if (!within (x.g i 0) 1 1099511627776) = true then some 1 else if (!within (x.g i 1) 0 65536) = true then some 1 else if (!placed (x.g i 2, x.g i 3)) = true then some 1 else if twice x i = true then some 6 else none
theorem K.has_cut (x : XS) (c : Hold) (i : Nat) (cap : Option Nat) (hi : i ≤ 9223372036854775807) : has_hul1 c (XS.mk x.n (x.row + 0) (i - 0) cap x.f) = (first (fun j => x.g j 0 == c.id) i).isSome := by
  unfold has_hul1
  rw [show K.len (XS.mk x.n (x.row + 0) (i - 0) cap x.f) = i from clampL_eq (by show i - 0 ≤ maxL; unfold maxL; omega)]
  rfl
theorem K.L_hc_eq (s : Ship) : K.L_hc ((s.holds, (len s.holds : Int), 0), s, ()) = some (K.orr Sum.inl (.inr ((), s, ())) ((List.range (len s.holds)).findSome? (hldE s.holds))) := by
  have e1 := K.len_le s.holds; have e2 := K.len_le' s.holds
  refine lim_err (fun i => ((s.holds, (len s.holds : Int), (i : Int)), s, ())) (len s.holds) (hldE s.holds) Sum.inl (Sum.inr ((), s, ())) (fun i hi => ?_) ?_
  · rw [sl_hc]
    simp only [T.run_br, T.run_chk, T.run_ret, decide_eq_true_eq, Int.toNat_natCast]
    rw [if_pos (by omega), if_pos (by omega), w64_in (n := (i : Int) + 1) (by omega) (by omega)]
    rw [if_pos (show (decide ((0 : Int) ≤ i ∧ (i : Int) ≤ s.holds.len) && true) = true by simp; omega), K.has_cut s.holds _ i _ (by omega)]
    unfold K.hldE K.twice K.orr
    split
    · simp_all
    split
    · simp_all
    split
    · simp_all
    split
    · simp_all
    simp_all
  · rw [sl_hc]
    simp only [T.run_br, T.run_chk, T.run_ret, decide_eq_true_eq]
    rw [if_neg (by omega)]
noncomputable def BKI1 : Tab := BKH6.addNode 59 49 (nodeE [47, 1, 45, 46] S_hc X_hc (fun s => .obs (K.L_hc s) .ret))
theorem tKI1 : TabOk P BKI1 := TabOk.addLoop (d := 30) okP tKH6 (by kernel_rfl) (by kernel_rfl) (fun s r h => obs_ret h)
def R_i := dI .i64
theorem fn_hc : ∀ a, (callT1 P BKI1 30 59 D_ship R_i) a = T.run (
  .br (!within (Ship.id a) (1 : Int) (1099511627776 : Int)) (
    .ret ((1 : Int))) (
    .br (!within (Ship.light a) (1 : Int) (65536 : Int)) (
      .ret ((1 : Int))) (
      .br (!placed (Ship.lever a, Ship.height a)) (
        .ret ((1 : Int))) (
        .br (!within (Ship.turn a) (1 : Int) (1048576 : Int)) (
          .ret ((1 : Int))) (
          .br (!within (Ship.least a) (0 : Int) (5000 : Int)) (
            .ret ((1 : Int))) (
            .br (decide ((↑(len (Ship.holds a)) : Int) > (8 : Int))) (
              .ret ((2 : Int))) (
              .obs (L_hc ((Ship.holds a, (↑(len (Ship.holds a)) : Int), (0 : Int)), a, PUnit.unit)) fun x0 =>
                .sum (x0) (fun x1 =>
                  .ret (x1)) (fun x1 =>
                  .br (decide (rooms (Prod.fst (Prod.snd x1)) > (65536 : Int))) (
                    .ret ((1 : Int))) (
                    .br (curveCheck (Ship.mean (Prod.fst (Prod.snd x1))) != (0 : Int)) (
                      .ret (curveCheck (Ship.mean (Prod.fst (Prod.snd x1))))) (
                      .br (curveCheck (Ship.mc (Prod.fst (Prod.snd x1))) != (0 : Int)) (
                        .ret (curveCheck (Ship.mc (Prod.fst (Prod.snd x1))))) (
                        .br (Prod.fst (Rising (Ship.mean (Prod.fst (Prod.snd x1)))) != (1 : Int)) (
                          .ret ((1 : Int))) (
                          .chk (decide ((0 : Nat) < len (Curve.knots (Ship.mean (Prod.fst (Prod.snd x1)))))) <|
                          .chk (decide ((0 : Nat) < len (Curve.knots (Ship.mc (Prod.fst (Prod.snd x1)))))) <|
                          .br (tabled (Prod.fst (Prod.snd x1)) (Ship.mean (Prod.fst (Prod.snd x1))) != (0 : Int)) (
                            .ret (tabled (Prod.fst (Prod.snd x1)) (Ship.mean (Prod.fst (Prod.snd x1))))) (
                            .br (tabled (Prod.fst (Prod.snd x1)) (Ship.mc (Prod.fst (Prod.snd x1))) != (0 : Int)) (
                              .ret (tabled (Prod.fst (Prod.snd x1)) (Ship.mc (Prod.fst (Prod.snd x1))))) (
                              .ret ((0 : Int)))))))))))))))) := fun a => by kernel_rfl
noncomputable def K.hullCheck (s : Ship) : Int :=
  if (!within s.id 1 1099511627776) = true then 1 else if (!within s.light 1 65536) = true then 1 else if (!placed (s.lever, s.height)) = true then 1 else if (!within s.turn 1 1048576) = true then 1 else
  if (!within s.least 0 5000) = true then 1 else if decide ((len s.holds : Int) > 8) = true then 2 else
  K.orr id (if decide (rooms s > 65536) = true then 1 else if (curveCheck s.mean != 0) = true then curveCheck s.mean else if (curveCheck s.mc != 0) = true then curveCheck s.mc else if ((Rising s.mean).1 != 1) = true then 1 else
    if (tabled s s.mean != 0) = true then tabled s s.mean else if (tabled s s.mc != 0) = true then tabled s s.mc else 0) ((List.range (len s.holds)).findSome? (hldE s.holds))
theorem K.curve_pos {c : Curve} (h : ¬ (curveCheck c != 0) = true) : 0 < len c.knots := by
  rcases Nat.eq_zero_or_pos (len c.knots) with h0 | h0
  · exfalso; apply h; unfold curveCheck; rw [h0, if_neg (by decide), if_pos (by decide)]; decide
  · exact h0
theorem K.hullCheck_eq (s : Ship) : callT1 P BKI1 30 59 D_ship R_i s = some (hullCheck s) := by
  rw [fn_hc]; unfold hullCheck
  refine br_step (fun _ => rfl) (fun _ => ?_)
  refine br_step (fun _ => rfl) (fun _ => ?_)
  refine br_step (fun _ => rfl) (fun _ => ?_)
  refine br_step (fun _ => rfl) (fun _ => ?_)
  refine br_step (fun _ => rfl) (fun _ => ?_)
  refine br_step (fun _ => rfl) (fun _ => ?_)
  rw [K.L_hc_eq]
  cases (List.range (len s.holds)).findSome? (hldE s.holds) with
  | some e => rfl
  | none =>
    refine br_step (fun _ => rfl) (fun _ => ?_)
    refine br_step (fun _ => rfl) (fun h1 => ?_)
    refine br_step (fun _ => rfl) (fun h2 => ?_)
    refine br_step (fun _ => rfl) (fun _ => ?_)
    refine chk_step (by simpa using curve_pos h1) (chk_step (by simpa using curve_pos h2) ?_)
    exact br_step (fun _ => rfl) (fun _ => br_step (fun _ => rfl) (fun _ => rfl))
noncomputable def BKI2 : Tab := BKI1.addCall 59 (callE D_ship R_i (fun s => .ret (K.hullCheck s)))
theorem tKI2 : TabOk P BKI2 := TabOk.addFn (d := 30) okP tKI1 (fun a r h => by rw [K.hullCheck_eq]; exact congrArg some (ret_some h))
end Go.Proofs.Ytkajafmphemedaa
