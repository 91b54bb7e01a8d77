/- CheckBulbs; the checks of a survey. No conditions. -/
import Derived.Test.YtkajafmphemedaaKC
namespace Go.Proofs.Ytkajafmphemedaa
open Ev K
set_option maxRecDepth 100000
def S_cb1 := DecS.mk0 (.skip (.unit (dLp 0 0 0 0) (.skips 22 (.cons xHydros (.cons (dI .i64) (.last (dI .i64) 69)))))) (.flat 31 lBulbs .nil)
def S_cbx := DecS.mk0 (.skip (.unit (dLp 0 0 0 0) (.tops 94))) (.flat 31 lBulbs .nil)
def X_cb1 := DecX.or (DecX.one .ret [2] (DecS.mk1 (.skips 2 (.last (dI .i64) 93)))) (DecX.one (.exit 0) [1] S_cbx)
noncomputable def K.st_cb1 := loopT1 P BKC8 30 60 33 [26, 1, 24, 25] S_cb1 X_cb1
theorem sl_cb1 : ∀ s, (K.st_cb1) s = T.run (
  .br (decide (Prod.snd (Prod.snd (Prod.fst s)) < Prod.fst (Prod.snd (Prod.fst s)))) (
    .chk (decide ((0 : Int) ≤ Prod.snd (Prod.snd (Prod.fst s)) ∧ Prod.snd (Prod.snd (Prod.fst s)) < (↑(XS.len (Prod.fst (Prod.fst s))) : Int))) <|
    .br (!within (XS.g (Prod.fst (Prod.fst s)) (Int.toNat (Prod.snd (Prod.snd (Prod.fst s)))) (0 : Nat)) (1 : Int) (1099511627776 : Int)) (
      .ret (Sum.inr (Sum.inl (1 : Int)))) (
      .br (!spans (Span.mk (XS.g (Prod.fst (Prod.fst s)) (Int.toNat (Prod.snd (Prod.snd (Prod.fst s)))) (1 : Nat)) (XS.g (Prod.fst (Prod.fst s)) (Int.toNat (Prod.snd (Prod.snd (Prod.fst s)))) (2 : Nat))) (-100 : Int) (100 : Int)) (
        .ret (Sum.inr (Sum.inl (1 : Int)))) (
        .br (decide (Prod.snd (find_chk1 (hyd (Prod.fst (Prod.fst s)) (Int.toNat (Prod.snd (Prod.snd (Prod.fst s))))) (Bulbs.hydros (Prod.fst (Prod.snd s)))) < Prod.snd (Prod.snd (Prod.fst s)))) (
          .ret (Sum.inr (Sum.inl (6 : Int)))) (
          .ret (Sum.inl ((Prod.fst (Prod.fst s), Prod.fst (Prod.snd (Prod.fst s)), IntKind.wrap IntKind.i64 (Prod.snd (Prod.snd (Prod.fst s)) + (1 : Int))), Prod.fst (Prod.snd s), PUnit.unit)))))) (
    .ret (Sum.inr (Sum.inr (PUnit.unit, Prod.fst (Prod.snd s), PUnit.unit))))) := fun s => by kernel_rfl
noncomputable def K.L_cb1 := lim K.st_cb1
noncomputable def BKE1 : Tab := BKC8.addNode 60 33 (nodeE [26, 1, 24, 25] S_cb1 X_cb1 (fun s => .obs (K.L_cb1 s) .ret))
theorem tKE1 : TabOk P BKE1 := TabOk.addLoop (d := 30) okP tKC8 (by kernel_rfl) (by kernel_rfl) (fun s r h => obs_ret h)
/-- The error of a hydrometer of a list. -/
def K.hydE (x y : XS) (i : Nat) : Option Int := if (!within (x.g i 0) 1 1099511627776) = true then some 1 else if (!spans ⟨x.g i 1, x.g i 2⟩ (-100) 100) = true then some 1 else
  if decide ((find_chk1 (hyd x i) y).2 < (i : Int)) = true then some 6 else none
abbrev K.Scb1 (x : XS) (b : Bulbs) (i : Nat) := ((x, (K.len x : Int), (i : Int)), b, ())
theorem K.cb1_step (x : XS) (b : Bulbs) (i : Nat) (hi : i < K.len x) : st_cb1 (Scb1 x b i) = some (K.orr (fun e => Sum.inr (.inl e)) (.inl (Scb1 x b (i + 1))) (hydE x b.hydros i)) := by
  have e1 := K.len_le x; have e2 := K.len_le' x
  rw [sl_cb1]
  simp only [T.run_br, T.run_chk, T.run_ret, decide_eq_true_eq, Int.toNat_natCast]
  rw [if_pos (by omega), if_pos (by omega), w64_in (by omega) (by omega)]
  simp only [hydE, K.orr, decide_eq_true_eq]
  split
  · simp_all
  split
  · simp_all
  split
  · simp_all
  simp_all
theorem K.cb1_end (x : XS) (b : Bulbs) : st_cb1 (Scb1 x b (K.len x)) = some (.inr (.inr ((), b, ()))) := by
  rw [sl_cb1]
  simp only [T.run_br, T.run_chk, T.run_ret, decide_eq_true_eq]
  rw [if_neg (by omega)]
theorem K.L_cb1_eq (x : XS) (b : Bulbs) : K.L_cb1 ((x, (K.len x : Int), 0), b, ()) = some (K.orr Sum.inl (.inr ((), b, ())) ((List.range (K.len x)).findSome? (hydE x b.hydros))) :=
  lim_err (Scb1 x b) (K.len x) (hydE x b.hydros) Sum.inl (Sum.inr ((), b, ())) (cb1_step x b) (cb1_end x b)
def S_cb2 := DecS.mk0 (.skip (.unit (dLp 0 0 0 0) (.skips 51 (.cons xGlasses (.cons (dI .i64) (.last (dI .i64) 40)))))) (.flat 31 lBulbs .nil)
def X_cb2 := DecX.or (DecX.one .ret [2] (DecS.mk1 (.skips 2 (.last (dI .i64) 93)))) (DecX.one (.exit 2) [] (DecS.mk1 (.tops 96)))
noncomputable def K.st_cb2 := loopT1 P BKE1 30 60 105 [55, 1, 53, 54] S_cb2 X_cb2
theorem sl_cb2 : ∀ s, (K.st_cb2) s = T.run (
  .br (decide (Prod.snd (Prod.snd (Prod.fst s)) < Prod.fst (Prod.snd (Prod.fst s)))) (
    .chk (decide ((0 : Int) ≤ Prod.snd (Prod.snd (Prod.fst s)) ∧ Prod.snd (Prod.snd (Prod.fst s)) < (↑(XS.len (Prod.fst (Prod.fst s))) : Int))) <|
    .br (!within (XS.g (Prod.fst (Prod.fst s)) (Int.toNat (Prod.snd (Prod.snd (Prod.fst s)))) (0 : Nat)) (1 : Int) (1099511627776 : Int)) (
      .ret (Sum.inr (Sum.inl (1 : Int)))) (
      .br (!within (XS.g (Prod.fst (Prod.fst s)) (Int.toNat (Prod.snd (Prod.snd (Prod.fst s)))) (2 : Nat)) (900 : Int) (1100 : Int)) (
        .ret (Sum.inr (Sum.inl (1 : Int)))) (
        .br (!spans (Span.mk (XS.g (Prod.fst (Prod.fst s)) (Int.toNat (Prod.snd (Prod.snd (Prod.fst s)))) (3 : Nat)) (XS.g (Prod.fst (Prod.fst s)) (Int.toNat (Prod.snd (Prod.snd (Prod.fst s)))) (4 : Nat))) (0 : Int) (2000 : Int)) (
          .ret (Sum.inr (Sum.inl (1 : Int)))) (
          .br (decide (Prod.snd (find_chk2 (gls (Prod.fst (Prod.fst s)) (Int.toNat (Prod.snd (Prod.snd (Prod.fst s))))) (Bulbs.hydros (Prod.fst (Prod.snd s)))) < (0 : Int))) (
            .ret (Sum.inr (Sum.inl (5 : Int)))) (
            .br (decide (Prod.snd (find_chk3 (gls (Prod.fst (Prod.fst s)) (Int.toNat (Prod.snd (Prod.snd (Prod.fst s))))) (Bulbs.glasses (Prod.fst (Prod.snd s)))) < Prod.snd (Prod.snd (Prod.fst s)))) (
              .ret (Sum.inr (Sum.inl (6 : Int)))) (
              .ret (Sum.inl ((Prod.fst (Prod.fst s), Prod.fst (Prod.snd (Prod.fst s)), IntKind.wrap IntKind.i64 (Prod.snd (Prod.snd (Prod.fst s)) + (1 : Int))), Prod.fst (Prod.snd s), PUnit.unit)))))))) (
    .ret (Sum.inr (Sum.inr PUnit.unit)))) := fun s => by kernel_rfl
noncomputable def K.L_cb2 := lim K.st_cb2
noncomputable def BKE2 : Tab := BKE1.addNode 60 105 (nodeE [55, 1, 53, 54] S_cb2 X_cb2 (fun s => .obs (K.L_cb2 s) .ret))
theorem tKE2 : TabOk P BKE2 := TabOk.addLoop (d := 30) okP tKE1 (by kernel_rfl) (by kernel_rfl) (fun s r h => obs_ret h)
/-- The error of a glass of a list. -/
def K.glsE (x h y : XS) (i : Nat) : Option Int := if (!within (x.g i 0) 1 1099511627776) = true then some 1 else if (!within (x.g i 2) 900 1100) = true then some 1 else if (!spans ⟨x.g i 3, x.g i 4⟩ 0 2000) = true then some 1 else
  if decide ((find_chk2 (gls x i) h).2 < 0) = true then some 5 else if decide ((find_chk3 (gls x i) y).2 < (i : Int)) = true then some 6 else none
abbrev K.Scb2 (x : XS) (b : Bulbs) (i : Nat) := ((x, (K.len x : Int), (i : Int)), b, ())
theorem K.cb2_step (x : XS) (b : Bulbs) (i : Nat) (hi : i < K.len x) : st_cb2 (Scb2 x b i) = some (K.orr (fun e => Sum.inr (.inl e)) (.inl (Scb2 x b (i + 1))) (glsE x b.hydros b.glasses i)) := by
  have e1 := K.len_le x; have e2 := K.len_le' x
  rw [sl_cb2]
  simp only [T.run_br, T.run_chk, T.run_ret, decide_eq_true_eq, Int.toNat_natCast]
  rw [if_pos (by omega), if_pos (by omega), w64_in (by omega) (by omega)]
  simp only [glsE, K.orr, decide_eq_true_eq]
  split
  · simp_all
  split
  · simp_all
  split
  · simp_all
  split
  · simp_all
  split
  · simp_all
  simp_all
theorem K.cb2_end (x : XS) (b : Bulbs) : st_cb2 (Scb2 x b (K.len x)) = some (.inr (.inr ())) := by
  rw [sl_cb2]
  simp only [T.run_br, T.run_chk, T.run_ret, decide_eq_true_eq]
  rw [if_neg (by omega)]
theorem K.L_cb2_eq (x : XS) (b : Bulbs) : K.L_cb2 ((x, (K.len x : Int), 0), b, ()) = some (K.orr Sum.inl (.inr ()) ((List.range (K.len x)).findSome? (glsE x b.hydros b.glasses))) :=
  lim_err (Scb2 x b) (K.len x) (glsE x b.hydros b.glasses) Sum.inl (Sum.inr ()) (cb2_step x b) (cb2_end x b)
def D_cb := DecL.last (dBulbs) 0
theorem fn_cb : ∀ a, (callT1 P BKE2 30 60 D_cb (dI .i64)) a = T.run (
  .br (decide ((↑(len (Bulbs.hydros a)) : Int) > (8 : Int))) (
    .ret ((2 : Int))) (
    .br (decide ((↑(len (Bulbs.glasses a)) : Int) > (40 : Int))) (
      .ret ((2 : Int))) (
      .obs (L_cb1 ((Bulbs.hydros a, (↑(len (Bulbs.hydros a)) : Int), (0 : Int)), a, PUnit.unit)) fun x0 =>
        .sum (x0) (fun x1 =>
          .ret (x1)) (fun x1 =>
          .obs (L_cb2 ((Bulbs.glasses (Prod.fst (Prod.snd x1)), (↑(len (Bulbs.glasses (Prod.fst (Prod.snd x1)))) : Int), (0 : Int)), Prod.fst (Prod.snd x1), PUnit.unit)) fun x2 =>
            .sum (x2) (fun x3 =>
              .ret (x3)) (fun x3 =>
              .ret ((0 : Int))))))) := fun a => by kernel_rfl
def K.CheckBulbs (b : Bulbs) : Int := if (K.len b.hydros : Int) > 8 then 2 else if (K.len b.glasses : Int) > 40 then 2 else
  K.orr id (K.orr id 0 ((List.range (K.len b.glasses)).findSome? (glsE b.glasses b.hydros b.glasses))) ((List.range (K.len b.hydros)).findSome? (hydE b.hydros b.hydros))
theorem K.CheckBulbs_eq (b : Bulbs) : callT1 P BKE2 30 60 D_cb (dI .i64) b = some (K.CheckBulbs b) := by
  rw [fn_cb]; unfold K.CheckBulbs
  simp only [T.run_br, decide_eq_true_eq, T.run_ret]
  split
  · rfl
  split
  · rfl
  rw [K.L_cb1_eq]
  cases (List.range (K.len b.hydros)).findSome? (hydE b.hydros b.hydros) with
  | some e => rfl
  | none =>
    simp only [K.orr, T.run_some, T.run_inr]
    rw [K.L_cb2_eq]
    cases (List.range (K.len b.glasses)).findSome? (glsE b.glasses b.hydros b.glasses) <;> rfl
noncomputable def BKE3 : Tab := BKE2.addCall 60 (callE D_cb (dI .i64) (fun b => .ret (K.CheckBulbs b)))
theorem tKE3 : TabOk P BKE3 := TabOk.addFn (d := 30) okP tKE2 (fun a r h => by rw [K.CheckBulbs_eq]; exact congrArg some (ret_some h))
end Go.Proofs.Ytkajafmphemedaa
