/- Parts of the proof, one behind the other: KN9, KN10, KN11, KP, KV1, KV2, KBl8, KBl9, KBla, KHy1, KHy2, KHy3, KHy4. No conditions. -/
import Derived.Test.YtjbhooodjmjdkaaGreatHy8
/-! KN9 -/
namespace Go.Proofs.YtjbhooodjmjdkaaGreat
open Ev K
set_option maxRecDepth 100000
def S_r1c := DecS.mk0 (.skip (.unit (dLp 0 0 0 0) (.skip (.last (dI .i64) 65)))) (.flat 25 lCurve .nil)
def X_r1c := DecX.or (DecX.one .ret [2] (DecS.mk1 (.skips 2 (.last (dI .i64) 66)))) (DecX.one (.exit 0) [] (DecS.mk1 (.tops 69)))
noncomputable def K.st_r1c := loopT1 P BKN84 30 154 49 [3, 1] S_r1c X_r1c
theorem sl_r1c : ∀ s, (K.st_r1c) s = T.run (
  .br (decide (Prod.fst s < (↑(len (Curve.knots (Prod.fst (Prod.snd s)))) : Int))) (
    .chk (decide ((0 : Int) ≤ Prod.fst s ∧ Prod.fst s < (↑(XS.len (Curve.knots (Prod.fst (Prod.snd s)))) : Int))) <|
    .br (decide (XS.g (Curve.knots (Prod.fst (Prod.snd s))) (Int.toNat (Prod.fst s)) (0 : Nat) < (0 : Int))) (
      .ret (Sum.inr (Sum.inl (1 : Int)))) (
      .br (decide (XS.g (Curve.knots (Prod.fst (Prod.snd s))) (Int.toNat (Prod.fst s)) (0 : Nat) > (2000 : Int))) (
        .ret (Sum.inr (Sum.inl (1 : Int)))) (
        .br (decide (XS.g (Curve.knots (Prod.fst (Prod.snd s))) (Int.toNat (Prod.fst s)) (1 : Nat) < (-65536 : Int))) (
          .ret (Sum.inr (Sum.inl (1 : Int)))) (
          .br (decide (XS.g (Curve.knots (Prod.fst (Prod.snd s))) (Int.toNat (Prod.fst s)) (1 : Nat) > (65536 : Int))) (
            .ret (Sum.inr (Sum.inl (1 : Int)))) (
            .br (decide (Prod.fst s > (0 : Int))) (
              .chk (decide ((0 : Int) ≤ IntKind.wrap IntKind.i64 (Prod.fst s - (1 : Int)) ∧ IntKind.wrap IntKind.i64 (Prod.fst s - (1 : Int)) < (↑(XS.len (Curve.knots (Prod.fst (Prod.snd s)))) : Int))) <|
              .br (decide (XS.g (Curve.knots (Prod.fst (Prod.snd s))) (Int.toNat (Prod.fst s)) (0 : Nat) ≤ XS.g (Curve.knots (Prod.fst (Prod.snd s))) (Int.toNat (IntKind.wrap IntKind.i64 (Prod.fst s - (1 : Int)))) (0 : Nat))) (
                .ret (Sum.inr (Sum.inl (1 : Int)))) (
                .ret (Sum.inl (IntKind.wrap IntKind.i64 (Prod.fst s + (1 : Int)), Prod.fst (Prod.snd s), PUnit.unit)))) (
              .ret (Sum.inl (IntKind.wrap IntKind.i64 (Prod.fst s + (1 : Int)), Prod.fst (Prod.snd s), PUnit.unit)))))))) (
    .ret (Sum.inr (Sum.inr PUnit.unit)))) := fun s => by kernel_rfl
noncomputable def K.L_r1c := lim K.st_r1c
noncomputable def BKN91 : Tab := BKN84.addNode 154 49 (nodeE [3, 1] S_r1c X_r1c (fun s => .obs (K.L_r1c s) .ret))
theorem tKN91 : TabOk P BKN91 := TabOk.addLoop (d := 30) okP tKN84 (by kernel_rfl) (by kernel_rfl) (fun s r h => obs_ret h)
theorem fn_r1c : ∀ a, (callT1 P BKN91 30 154 D_crv (dI .i64)) a = T.run (
  .br (decide ((↑(len (Curve.knots a)) : Int) > (40 : Int))) (
    .ret ((2 : Int))) (
    .br ((↑(len (Curve.knots a)) : Int) == (0 : Int)) (
      .ret ((1 : Int))) (
      .br (decide (Curve.err a < (0 : Int))) (
        .ret ((1 : Int))) (
        .br (decide (Curve.err a > (4000 : Int))) (
          .ret ((1 : Int))) (
          .obs (L_r1c ((0 : Int), a, PUnit.unit)) fun x0 =>
            .sum (x0) (fun x1 =>
              .ret (x1)) (fun x1 =>
              .ret ((0 : Int)))))))) := fun a => by kernel_rfl
def K.e_r1c (c : Curve) (i : Nat) : Option Int := if (knt c.knots i).x < 0 then some 1 else if (knt c.knots i).x > 2000 then some 1 else if (knt c.knots i).y < -65536 then some 1 else if (knt c.knots i).y > 65536 then some 1 else
  if 0 < i ∧ (knt c.knots i).x ≤ (knt c.knots (i - 1)).x then some 1 else none
theorem K.L_r1c_eq (c : Curve) : K.L_r1c (0, c, ()) = some (K.orr Sum.inl (.inr ()) ((List.range (len c.knots)).findSome? (e_r1c c))) := by
  have e1 := K.len_le c.knots; have e2 := K.len_le' c.knots
  refine lim_err (fun i => ((i : Int), c, ())) (len c.knots) (e_r1c c) Sum.inl (Sum.inr ()) (fun i hi => ?_) ?_
  · rw [sl_r1c]
    have c1 : (0 : Int) ≤ i ∧ (i : Int) < c.knots.len := by omega
    simp only [T.run_br, T.run_chk, T.run_ret, decide_eq_true_eq, Int.toNat_natCast, if_pos c1]
    rw [if_pos (by omega), w64_in (n := (i : Int) + 1) (by omega) (by omega)]
    unfold e_r1c; simp only [orr_ite, orr_none]
    show (if (knt c.knots i).x < 0 then _ else if (knt c.knots i).x > 2000 then _ else if (knt c.knots i).y < -65536 then _ else if (knt c.knots i).y > 65536 then _ else _) = _
    rcases Nat.eq_zero_or_pos i with h0 | h0
    · subst h0
      rw [if_neg (show ¬ (((0 : Nat) : Int) > 0) by omega), if_neg (show ¬ (0 < 0 ∧ (knt c.knots 0).x ≤ (knt c.knots (0 - 1)).x) by omega)]; rfl
    · have e3 : IntKind.wrap IntKind.i64 ((i : Int) - 1) = ((i - 1 : Nat) : Int) := by rw [w64_in (by omega) (by omega)]; omega
      simp only [e3, Int.toNat_natCast]
      rw [if_pos (show (i : Int) > 0 by omega), if_pos (show (0 : Int) ≤ ((i - 1 : Nat) : Int) ∧ ((i - 1 : Nat) : Int) < (c.knots.len : Int) by omega)]
      simp only [h0, true_and]
      rfl
  · rw [sl_r1c]
    simp only [T.run_br, T.run_chk, T.run_ret, decide_eq_true_eq]
    rw [if_neg (by omega)]
def K.r_curve (c : Curve) : Int := if decide ((len c.knots : Int) > 40) = true then 2 else if ((len c.knots : Int) == 0) = true then 1 else if decide (c.err < 0) = true then 1 else if decide (c.err > 4000) = true then 1 else
  K.orr id 0 ((List.range (len c.knots)).findSome? (e_r1c c))
theorem K.r_curve_eq (c : Curve) : callT1 P BKN91 30 154 D_crv (dI .i64) c = some (r_curve c) := by
  rw [fn_r1c]; unfold r_curve
  refine br_step (fun _ => rfl) (fun _ => ?_)
  refine br_step (fun _ => rfl) (fun _ => ?_)
  refine br_step (fun _ => rfl) (fun _ => ?_)
  refine br_step (fun _ => rfl) (fun _ => ?_)
  rw [L_r1c_eq]
  cases (List.range (len c.knots)).findSome? (e_r1c c) <;> rfl
noncomputable def BKN92 : Tab := BKN91.addCall 154 (callE D_crv (dI .i64) (fun a => .ret (r_curve a)))
theorem tKN92 : TabOk P BKN92 := TabOk.addFn (d := 30) okP tKN91 (fun a r h => by rw [r_curve_eq]; exact congrArg some (ret_some h))
def S_rrm := DecS.mk0 (.skip (.unit (dLp 0 0 0 0) (.skip (.cons (dI .i64) (.last (dI .i64) 16))))) (.flat 27 lShip .nil)
def X_rrm := DecX.one (.exit 0) [4, 1, 3] S_rrm
noncomputable def K.st_rrm := loopT1 P BKN92 30 153 25 [4, 1, 3] S_rrm X_rrm
theorem sl_rrm : ∀ s, (K.st_rrm) s = T.run (
  .br (decide (Prod.snd (Prod.fst s) < (↑(len (Ship.holds (Prod.fst (Prod.snd s)))) : Int))) (
    .chk (decide ((0 : Int) ≤ Prod.snd (Prod.fst s) ∧ Prod.snd (Prod.fst s) < (↑(XS.len (Ship.holds (Prod.fst (Prod.snd s)))) : Int))) <|
    .ret (Sum.inl ((IntKind.wrap IntKind.i64 (Prod.fst (Prod.fst s) + XS.g (Ship.holds (Prod.fst (Prod.snd s))) (Int.toNat (Prod.snd (Prod.fst s))) (1 : Nat)), IntKind.wrap IntKind.i64 (Prod.snd (Prod.fst s) + (1 : Int))), Prod.fst (Prod.snd s), PUnit.unit))) (
    .ret (Sum.inr (Prod.fst s, Prod.fst (Prod.snd s), PUnit.unit)))) := fun s => by kernel_rfl
noncomputable def K.L_rrm := lim K.st_rrm
def K.r_rooms (s : Ship) : Int := (List.range (len s.holds)).foldl (fun n i => IntKind.i64.wrap (n + (hld s.holds i).room)) 0
theorem K.L_rrm_eq (s : Ship) (n : Int) : K.L_rrm ((n, 0), s, ()) = some (((List.range (len s.holds)).foldl (fun n i => IntKind.i64.wrap (n + (hld s.holds i).room)) n, (len s.holds : Int)), s, ()) := by
  have e1 := K.len_le s.holds; have e2 := K.len_le' s.holds
  refine lim_fold (fun i n => ((n, (i : Int)), s, ())) (len s.holds) (fun n i => IntKind.i64.wrap (n + (hld s.holds i).room)) (fun n => ((n, (len s.holds : Int)), s, ())) (fun i hi a => ?_) (fun a => ?_) n
  · rw [sl_rrm]
    have c1 : (0 : Int) ≤ i ∧ (i : Int) < s.holds.len := by omega
    simp only [T.run_br, T.run_chk, T.run_ret, decide_eq_true_eq, Int.toNat_natCast, if_pos c1]
    rw [if_pos (by omega), w64_in (n := (i : Int) + 1) (by omega) (by omega)]
    rfl
  · rw [sl_rrm]
    simp only [T.run_br, T.run_chk, T.run_ret, decide_eq_true_eq]
    rw [if_neg (by omega)]
noncomputable def BKN93 : Tab := BKN92.addNode 153 25 (nodeE [4, 1, 3] S_rrm X_rrm (fun s => .obs (K.L_rrm s) .ret))
theorem tKN93 : TabOk P BKN93 := TabOk.addLoop (d := 30) okP tKN92 (by kernel_rfl) (by kernel_rfl) (fun s r h => obs_ret h)
theorem fn_rrm : ∀ a, (callT1 P BKN93 30 153 D_ship (dI .i64)) a = T.run (
  .obs (L_rrm (((0 : Int), (0 : Int)), a, PUnit.unit)) fun x0 =>
    .ret (Prod.fst (Prod.fst x0))) := fun a => by kernel_rfl
theorem K.r_rooms_eq (s : Ship) : callT1 P BKN93 30 153 D_ship (dI .i64) s = some (r_rooms s) := by
  rw [fn_rrm]
  show T.run (.obs (L_rrm ((0, 0), s, ())) _) = _
  rw [L_rrm_eq]; rfl
noncomputable def BKN94 : Tab := BKN93.addCall 153 (callE D_ship (dI .i64) (fun a => .ret (r_rooms a)))
theorem tKN94 : TabOk P BKN94 := TabOk.addFn (d := 30) okP tKN93 (fun a r h => by rw [r_rooms_eq]; exact congrArg some (ret_some h))
def S_rkn := DecS.mk0 (.skips 2 (.unit (dLp 0 0 0 0) (.unit (dLp 1 0 0 0) (.skip (.last (dI .i64) 41))))) (.flat 27 lShip (.flat 25 lCurve .nil))
def X_rkn := DecX.or (DecX.one .ret [4] (DecS.mk1 (.skips 4 (.last dB 42)))) (DecX.one (.exit 0) [5, 3, 2] S_rkn)
noncomputable def K.st_rkn := loopT1 P BKN94 30 155 17 [5, 3, 2] S_rkn X_rkn
theorem sl_rkn : ∀ s, (K.st_rkn) s = T.run (
  .br (decide (Prod.fst s < (↑(len (Curve.knots (Prod.fst (Prod.snd (Prod.snd s))))) : Int))) (
    .chk (decide ((0 : Int) ≤ Prod.fst s ∧ Prod.fst s < (↑(XS.len (Curve.knots (Prod.fst (Prod.snd (Prod.snd s))))) : Int))) <|
    .br (decide (XS.g (Curve.knots (Prod.fst (Prod.snd (Prod.snd s)))) (Int.toNat (Prod.fst s)) (1 : Nat) < (0 : Int))) (
      .ret (Sum.inr (Sum.inl false))) (
      .ret (Sum.inl (IntKind.wrap IntKind.i64 (Prod.fst s + (1 : Int)), Prod.fst (Prod.snd s), Prod.fst (Prod.snd (Prod.snd s)), PUnit.unit)))) (
    .ret (Sum.inr (Sum.inr (Prod.fst s, Prod.fst (Prod.snd s), Prod.fst (Prod.snd (Prod.snd s)), PUnit.unit))))) := fun s => by kernel_rfl
noncomputable def K.L_rkn := lim K.st_rkn
noncomputable def BKN95 : Tab := BKN94.addNode 155 17 (nodeE [5, 3, 2] S_rkn X_rkn (fun s => .obs (K.L_rkn s) .ret))
theorem tKN95 : TabOk P BKN95 := TabOk.addLoop (d := 30) okP tKN94 (by kernel_rfl) (by kernel_rfl) (fun s r h => obs_ret h)
def D_rkn := DecL.cons (dShip) (.last (dCurve) 0)
theorem fn_rkn : ∀ a, (callT1 P BKN95 30 155 D_rkn dB) a = T.run (
  .obs (L_rkn ((0 : Int), Prod.fst a, Prod.snd a, PUnit.unit)) fun x0 =>
    .sum (x0) (fun x1 =>
      .ret (x1)) (fun x1 =>
      .chk (decide ((0 : Int) ≤ (0 : Int) ∧ (0 : Int) < (↑(XS.len (Curve.knots (Prod.fst (Prod.snd (Prod.snd x1))))) : Int))) <|
      .br (decide (IntKind.wrap IntKind.i64 (XS.g (Curve.knots (Prod.fst (Prod.snd (Prod.snd x1)))) (nat_lit 0) (0 : Nat) * (40 : Int)) ≤ Ship.light (Prod.fst (Prod.snd x1)))) (
        .chk (decide ((0 : Int) ≤ IntKind.wrap IntKind.i64 ((↑(len (Curve.knots (Prod.fst (Prod.snd (Prod.snd x1))))) : Int) - (1 : Int)) ∧ IntKind.wrap IntKind.i64 ((↑(len (Curve.knots (Prod.fst (Prod.snd (Prod.snd x1))))) : Int) - (1 : Int)) < (↑(XS.len (Curve.knots (Prod.fst (Prod.snd (Prod.snd x1))))) : Int))) <|
        .ret (decide (IntKind.wrap IntKind.i64 (XS.g (Curve.knots (Prod.fst (Prod.snd (Prod.snd x1)))) (Int.toNat (IntKind.wrap IntKind.i64 ((↑(len (Curve.knots (Prod.fst (Prod.snd (Prod.snd x1))))) : Int) - (1 : Int)))) (0 : Nat) * (40 : Int)) ≥ IntKind.wrap IntKind.i64 (Ship.light (Prod.fst (Prod.snd x1)) + r_rooms (Prod.fst (Prod.snd x1)))))) (
        .ret (false)))) := fun a => by kernel_rfl
def K.p_rkn (c : Curve) (i : Nat) : Bool := decide ((knt c.knots i).y < 0)
theorem K.L_rkn_eq (s : Ship) (c : Curve) : K.L_rkn (0, s, c, ()) = some (match first (p_rkn c) (len c.knots) with | some _ => Sum.inl false | none => Sum.inr ((len c.knots : Int), s, c, ())) := by
  have e1 := K.len_le c.knots; have e2 := K.len_le' c.knots
  refine lim_find (fun i => ((i : Int), s, c, ())) (K.len c.knots) (p_rkn c) (fun _ => Sum.inl false) (Sum.inr ((len c.knots : Int), s, c, ())) (fun i hi hp => ?_) (fun i hi hp => ?_) ?_
  · rw [sl_rkn]; unfold p_rkn at hp
    have c1 : (0 : Int) ≤ i ∧ (i : Int) < c.knots.len := by omega
    simp only [T.run_br, T.run_chk, T.run_ret, decide_eq_true_eq, Int.toNat_natCast, if_pos c1]
    rw [if_pos (by omega), if_pos (show c.knots.g i 1 < 0 from of_decide_eq_true hp)]
  · rw [sl_rkn]; unfold p_rkn at hp
    have c1 : (0 : Int) ≤ i ∧ (i : Int) < c.knots.len := by omega
    simp only [T.run_br, T.run_chk, T.run_ret, decide_eq_true_eq, Int.toNat_natCast, if_pos c1]
    rw [if_pos (by omega), if_neg (show ¬ c.knots.g i 1 < 0 from of_decide_eq_false hp)]
    rw [w64_in (by omega) (by omega)]; simp
  · rw [sl_rkn]
    simp only [T.run_br, T.run_chk, T.run_ret, decide_eq_true_eq]
    rw [if_neg (by omega)]
def K.r_known (s : Ship) (c : Curve) : Bool := if (first (p_rkn c) (len c.knots)).isSome then false else if decide (IntKind.i64.wrap ((knt c.knots 0).x * 40) ≤ s.light) = true then decide (IntKind.i64.wrap ((knt c.knots (len c.knots - 1)).x * 40) ≥ IntKind.i64.wrap (s.light + r_rooms s)) else false
theorem K.r_known_eq (a : Ship × Curve) (h : 0 < len a.2.knots) : callT1 P BKN95 30 155 D_rkn dB a = some (r_known a.1 a.2) := by
  obtain ⟨s, c⟩ := a
  simp only at h ⊢
  have e1 := K.len_le c.knots; have e2 := K.len_le' c.knots
  rw [fn_rkn]; unfold r_known
  show T.run (.obs (L_rkn (0, s, c, ())) _) = _
  rw [L_rkn_eq]
  cases first (p_rkn c) (len c.knots) with
  | some i => rfl
  | none =>
    simp only [T.run_some, T.run_inr]
    rw [w64_in (n := (len c.knots : Int) - 1) (by omega) (by omega), show ((len c.knots : Int) - 1).toNat = len c.knots - 1 by omega]
    refine chk_step (by simp only [decide_eq_true_eq]; omega) (br_step (fun _ => chk_step (by simp only [decide_eq_true_eq]; omega) rfl) (fun _ => rfl))
noncomputable def BKN96 : Tab := BKN95.addCall 155 (callE D_rkn dB (fun a => .chk (decide (0 < len a.2.knots)) (.ret (r_known a.1 a.2))))
theorem tKN96 : TabOk P BKN96 := TabOk.addFn (d := 30) okP tKN95 (fun a r h => by obtain ⟨g, e⟩ := chk_ret h; subst e; exact K.r_known_eq a (by simpa using g))
def D_rpl := DecL.cons (dI .i64) (.last (dI .i64) 0)
theorem fn_r_placed : ∀ a, (callT1 P BKN96 30 152 D_rpl dB) a = T.run (
  .br (decide (Prod.fst a ≥ (-20000 : Int))) (
    .br (decide (Prod.fst a ≤ (20000 : Int))) (
      .br (decide (Prod.snd a ≥ (0 : Int))) (
        .ret (decide (Prod.snd a ≤ (5000 : Int)))) (
        .ret (false))) (
      .ret (false))) (
    .ret (false))) := fun a => by kernel_rfl
noncomputable def K.r_placed (a : Int × Int) : Bool := (if (decide (Prod.fst a ≥ (-20000 : Int))) = true then (if (decide (Prod.fst a ≤ (20000 : Int))) = true then (if (decide (Prod.snd a ≥ (0 : Int))) = true then decide (Prod.snd a ≤ (5000 : Int)) else false) else false) else false)
theorem eq_r_placed (a : Int × Int) : (callT1 P BKN96 30 152 D_rpl dB) a = some (K.r_placed a) := (fn_r_placed a).trans (T.br_some (T.br_some (T.br_some rfl rfl) rfl) rfl)
noncomputable def BKN97 : Tab := BKN96.addCall 152 (callE D_rpl dB (fun a => .ret (K.r_placed a)))
theorem tKN97 : TabOk P BKN97 := TabOk.addFn (d := 30) okP tKN96 (fun a r h => by rw [eq_r_placed]; exact congrArg some (ret_some h))
end Go.Proofs.YtjbhooodjmjdkaaGreat
/-! KN10 -/
namespace Go.Proofs.YtjbhooodjmjdkaaGreat
open Ev K
set_option maxRecDepth 100000
def D_rin := DecL.cons (dI .i64) (.cons (dI .i64) (.last (dI .i64) 0))
theorem fn_r_in : ∀ a, (callT1 P BKN97 30 114 D_rin dB) a = T.run (
  .br (decide (Prod.fst a ≥ Prod.fst (Prod.snd a))) (
    .ret (decide (Prod.fst a ≤ Prod.snd (Prod.snd a)))) (
    .ret (false))) := fun a => by kernel_rfl
noncomputable def K.r_in (a : Int × Int × Int) : Bool := (if (decide (Prod.fst a ≥ Prod.fst (Prod.snd a))) = true then decide (Prod.fst a ≤ Prod.snd (Prod.snd a)) else false)
theorem eq_r_in (a : Int × Int × Int) : (callT1 P BKN97 30 114 D_rin dB) a = some (K.r_in a) := (fn_r_in a).trans (T.br_some rfl rfl)
noncomputable def BKN101 : Tab := BKN97.addCall 114 (callE D_rin dB (fun a => .ret (K.r_in a)))
theorem tKN101 : TabOk P BKN101 := TabOk.addFn (d := 30) okP tKN97 (fun a r h => by rw [eq_r_in]; exact congrArg some (ret_some h))
theorem K.orr_ite2 {ε α : Type} (f : ε → α) (z : α) (c : Prop) [Decidable c] (x : ε) (y : Option ε) : K.orr f z (if c then some x else y) = if c then f x else K.orr f z y := by split <;> rfl
def S_r3a := DecS.mk0 (.skip (.unit (dLp 0 0 0 0) (.skips 2 (.cons (dI .i64) (.unit (dLp 1 0 0 0) (.last (dI .i64) 140)))))) (.flat 27 lShip (.flat 95 lHold .nil))
def X_r3a := DecX.or (DecX.one .ret [2] (DecS.mk1 (.skips 2 (.last (dI .i64) 144)))) (DecX.one (.exit 2) [6, 5, 1, 4] S_r3a)
noncomputable def K.st_r3a := loopT1 P BKN101 30 103 113 [6, 5, 1, 4] S_r3a X_r3a
theorem sl_r3a : ∀ s, (K.st_r3a) s = T.run (
  .br (decide (Prod.snd (Prod.fst s) < Prod.fst (Prod.fst s))) (
    .chk (decide ((0 : Int) ≤ Prod.snd (Prod.fst s) ∧ Prod.snd (Prod.fst s) < (↑(XS.len (Ship.holds (Prod.fst (Prod.snd s)))) : Int))) <|
    .br (XS.g (Ship.holds (Prod.fst (Prod.snd s))) (Int.toNat (Prod.snd (Prod.fst s))) (0 : Nat) == Hold.id (Prod.fst (Prod.snd (Prod.snd s)))) (
      .ret (Sum.inr (Sum.inl (6 : Int)))) (
      .ret (Sum.inl ((Prod.fst (Prod.fst s), IntKind.wrap IntKind.i64 (Prod.snd (Prod.fst s) + (1 : Int))), Prod.fst (Prod.snd s), Prod.fst (Prod.snd (Prod.snd s)), PUnit.unit)))) (
    .ret (Sum.inr (Sum.inr (Prod.fst s, Prod.fst (Prod.snd s), Prod.fst (Prod.snd (Prod.snd s)), PUnit.unit))))) := fun s => by kernel_rfl
noncomputable def K.L_r3a := lim K.st_r3a
def K.p_r3a (s : Ship) (h : Hold) (k : Nat) : Bool := (hld s.holds k).id == h.id
theorem K.L_r3a_eq (s : Ship) (h : Hold) (n : Nat) (hn : n ≤ len s.holds) : K.L_r3a (((n : Int), 0), s, h, ()) = some (match first (p_r3a s h) n with | some _ => Sum.inl 6 | none => Sum.inr (((n : Int), (n : Int)), s, h, ())) := by
  have e1 := K.len_le s.holds; have e2 := K.len_le' s.holds
  refine lim_find (fun k => (((n : Int), (k : Int)), s, h, ())) n (p_r3a s h) (fun _ => Sum.inl 6) (Sum.inr (((n : Int), (n : Int)), s, h, ())) (fun i hi hp => ?_) (fun i hi hp => ?_) ?_
  · rw [sl_r3a]; unfold p_r3a at hp
    have c1 : (0 : Int) ≤ i ∧ (i : Int) < s.holds.len := by omega
    simp only [T.run_br, T.run_chk, T.run_ret, decide_eq_true_eq, Int.toNat_natCast, if_pos c1]
    rw [if_pos (by omega), if_pos (show (s.holds.g i 0 == h.id) = true from hp)]
  · rw [sl_r3a]; unfold p_r3a at hp
    have c1 : (0 : Int) ≤ i ∧ (i : Int) < s.holds.len := by omega
    simp only [T.run_br, T.run_chk, T.run_ret, decide_eq_true_eq, Int.toNat_natCast, if_pos c1]
    rw [if_pos (by omega), if_neg (show ¬ (s.holds.g i 0 == h.id) = true by rw [show (s.holds.g i 0 == h.id) = false from hp]; decide)]
    rw [w64_in (by omega) (by omega)]; simp
  · rw [sl_r3a]
    simp only [T.run_br, T.run_chk, T.run_ret, decide_eq_true_eq]
    rw [if_neg (by omega)]
noncomputable def BKN102 : Tab := BKN101.addNode 103 113 (nodeE [6, 5, 1, 4] S_r3a X_r3a (fun s => .obs (K.L_r3a s) .ret))
theorem tKN102 : TabOk P BKN102 := TabOk.addLoop (d := 30) okP tKN101 (by kernel_rfl) (by kernel_rfl) (fun s r h => obs_ret h)
def S_r3b := DecS.mk0 (.skip (.unit (dLp 0 0 0 0) (.skips 2 (.last (dI .i64) 142)))) (.flat 27 lShip .nil)
def X_r3b := DecX.or (DecX.one .ret [2] (DecS.mk1 (.skips 2 (.last (dI .i64) 144)))) (DecX.one (.exit 0) [1, 4] S_r3b)
noncomputable def K.st_r3b := loopT1 P BKN102 30 103 57 [1, 4] S_r3b X_r3b
theorem sl_r3b : ∀ s, (K.st_r3b) s = T.run (
  .br (decide (Prod.fst s < (↑(len (Ship.holds (Prod.fst (Prod.snd s)))) : Int))) (
    .chk (decide ((0 : Int) ≤ Prod.fst s ∧ Prod.fst s < (↑(XS.len (Ship.holds (Prod.fst (Prod.snd s)))) : Int))) <|
    .br (!r_in (XS.g (Ship.holds (Prod.fst (Prod.snd s))) (Int.toNat (Prod.fst s)) (0 : Nat), (1 : Int), (1099511627776 : Int))) (
      .ret (Sum.inr (Sum.inl (1 : Int)))) (
      .br (!r_in (XS.g (Ship.holds (Prod.fst (Prod.snd s))) (Int.toNat (Prod.fst s)) (1 : Nat), (0 : Int), (65536 : Int))) (
        .ret (Sum.inr (Sum.inl (1 : Int)))) (
        .br (!r_placed (XS.g (Ship.holds (Prod.fst (Prod.snd s))) (Int.toNat (Prod.fst s)) (2 : Nat), XS.g (Ship.holds (Prod.fst (Prod.snd s))) (Int.toNat (Prod.fst s)) (3 : Nat))) (
          .ret (Sum.inr (Sum.inl (1 : Int)))) (
          .obs (L_r3a ((Prod.fst s, (0 : Int)), Prod.fst (Prod.snd s), hld (Ship.holds (Prod.fst (Prod.snd s))) (Int.toNat (Prod.fst s)), PUnit.unit)) fun x0 =>
            .sum (x0) (fun x1 =>
              .ret (Sum.inr (Sum.inl x1))) (fun x1 =>
              .ret (Sum.inl (IntKind.wrap IntKind.i64 (Prod.fst (Prod.fst x1) + (1 : Int)), Prod.fst (Prod.snd x1), PUnit.unit))))))) (
    .ret (Sum.inr (Sum.inr (Prod.fst s, Prod.fst (Prod.snd s), PUnit.unit))))) := fun s => by kernel_rfl
noncomputable def K.L_r3b := lim K.st_r3b
noncomputable def K.e_r3b (s : Ship) (i : Nat) : Option Int := if (!r_in ((hld s.holds i).id, 1, 1099511627776)) = true then some 1 else if (!r_in ((hld s.holds i).room, 0, 65536)) = true then some 1 else if (!r_placed ((hld s.holds i).lever, (hld s.holds i).height)) = true then some 1 else
  if (first (p_r3a s (hld s.holds i)) i).isSome = true then some 6 else none
theorem K.L_r3b_eq (s : Ship) : K.L_r3b (0, s, ()) = some (K.orr Sum.inl (.inr ((len s.holds : Int), s, ())) ((List.range (len s.holds)).findSome? (e_r3b s))) := by
  have e1 := K.len_le s.holds; have e2 := K.len_le' s.holds
  refine lim_err (fun i => ((i : Int), s, ())) (len s.holds) (e_r3b s) Sum.inl (Sum.inr ((len s.holds : Int), s, ())) (fun i hi => ?_) ?_
  · rw [sl_r3b]
    unfold e_r3b; simp only [orr_ite2]
    rw [T.run_br, if_pos (by simp only [decide_eq_true_eq]; omega)]
    refine chk_step (by simp only [decide_eq_true_eq]; omega) ?_
    refine br_step (fun _ => rfl) (fun _ => ?_)
    refine br_step (fun _ => rfl) (fun _ => ?_)
    refine br_step (fun _ => rfl) (fun _ => ?_)
    show T.run (.obs (L_r3a (((i : Int), 0), s, hld s.holds i, ())) _) = _
    rw [L_r3a_eq s (hld s.holds i) i (by omega)]
    cases first (p_r3a s (hld s.holds i)) i with
    | some k => rfl
    | none =>
      simp only [T.run_some, T.run_inr, T.run_ret]
      rw [w64_in (n := (i : Int) + 1) (by omega) (by omega)]; rfl
  · rw [sl_r3b]
    simp only [T.run_br, T.run_chk, T.run_ret, decide_eq_true_eq]
    rw [if_neg (by omega)]
noncomputable def BKN103 : Tab := BKN102.addNode 103 57 (nodeE [1, 4] S_r3b X_r3b (fun s => .obs (K.L_r3b s) .ret))
theorem tKN103 : TabOk P BKN103 := TabOk.addLoop (d := 30) okP tKN102 (by kernel_rfl) (by kernel_rfl) (fun s r h => obs_ret h)
def S_r3c := DecS.mk0 (.skip (.unit (dLp 0 0 0 0) (.skips 6 (.last (dI .i64) 138)))) (.flat 27 lShip .nil)
def X_r3c := DecX.or (DecX.one .ret [2] (DecS.mk1 (.skips 2 (.last (dI .i64) 144)))) (DecX.one (.exit 4) [8, 1] S_r3c)
noncomputable def K.st_r3c := loopT1 P BKN103 30 103 217 [8, 1] S_r3c X_r3c
theorem sl_r3c : ∀ s, (K.st_r3c) s = T.run (
  .br (decide (Prod.fst s < (↑(len (Curve.knots (Ship.mean (Prod.fst (Prod.snd s))))) : Int))) (
    .chk (decide ((0 : Int) ≤ Prod.fst s ∧ Prod.fst s < (↑(XS.len (Curve.knots (Ship.mean (Prod.fst (Prod.snd s))))) : Int))) <|
    .chk (decide ((0 : Int) ≤ IntKind.wrap IntKind.i64 (Prod.fst s - (1 : Int)) ∧ IntKind.wrap IntKind.i64 (Prod.fst s - (1 : Int)) < (↑(XS.len (Curve.knots (Ship.mean (Prod.fst (Prod.snd s))))) : Int))) <|
    .br (decide (XS.g (Curve.knots (Ship.mean (Prod.fst (Prod.snd s)))) (Int.toNat (Prod.fst s)) (1 : Nat) ≤ XS.g (Curve.knots (Ship.mean (Prod.fst (Prod.snd s)))) (Int.toNat (IntKind.wrap IntKind.i64 (Prod.fst s - (1 : Int)))) (1 : Nat))) (
      .ret (Sum.inr (Sum.inl (1 : Int)))) (
      .ret (Sum.inl (IntKind.wrap IntKind.i64 (Prod.fst s + (1 : Int)), Prod.fst (Prod.snd s), PUnit.unit)))) (
    .ret (Sum.inr (Sum.inr (Prod.fst s, Prod.fst (Prod.snd s), PUnit.unit))))) := fun s => by kernel_rfl
noncomputable def K.L_r3c := lim K.st_r3c
def K.e_r3c (c : Curve) (i : Nat) : Option Int := if (knt c.knots (i + 1)).y ≤ (knt c.knots i).y then some 1 else none
theorem K.L_r3c_eq (s : Ship) (h : 0 < len s.mean.knots) : K.L_r3c (1, s, ()) = some (K.orr Sum.inl (.inr ((len s.mean.knots : Int), s, ())) ((List.range (len s.mean.knots - 1)).findSome? (e_r3c s.mean))) := by
  have e1 := K.len_le s.mean.knots; have e2 := K.len_le' s.mean.knots
  refine lim_err (fun i => (((i + 1 : Nat) : Int), s, ())) (len s.mean.knots - 1) (e_r3c s.mean) Sum.inl (Sum.inr ((len s.mean.knots : Int), s, ())) (fun i hi => ?_) ?_
  · rw [sl_r3c]
    unfold e_r3c; simp only [orr_ite2]
    have e3 : IntKind.wrap IntKind.i64 (((i + 1 : Nat) : Int) - 1) = (i : Int) := by rw [w64_in (by omega) (by omega)]; omega
    simp only [e3, Int.toNat_natCast]
    rw [T.run_br, if_pos (by simp only [decide_eq_true_eq]; omega)]
    refine chk_step (by simp only [decide_eq_true_eq]; omega) (chk_step (by simp only [decide_eq_true_eq]; omega) ?_)
    rw [w64_in (n := ((i + 1 : Nat) : Int) + 1) (by omega) (by omega)]
    simp only [T.run_br, T.run_ret, decide_eq_true_eq]
    by_cases hc : (knt s.mean.knots (i + 1)).y ≤ (knt s.mean.knots i).y
    · rw [if_pos hc]; exact if_pos hc
    · rw [if_neg hc]; exact if_neg hc
  · rw [sl_r3c]
    simp only [T.run_br, T.run_chk, T.run_ret, decide_eq_true_eq]
    rw [if_neg (by omega), show ((len s.mean.knots - 1 + 1 : Nat) : Int) = (len s.mean.knots : Int) by omega]
noncomputable def BKN104 : Tab := BKN103.addNode 103 217 (nodeE [8, 1] S_r3c X_r3c (fun s => .obs (K.L_r3c s) .ret))
theorem tKN104 : TabOk P BKN104 := TabOk.addLoop (d := 30) okP tKN103 (by kernel_rfl) (by kernel_rfl) (fun s r h => obs_ret h)
theorem fn_r3 : ∀ a, (callT1 P BKN104 30 103 D_ship (dI .i64)) a = T.run (
  .br (!r_in (Ship.id a, (1 : Int), (1099511627776 : Int))) (
    .ret ((1 : Int))) (
    .br (!r_in (Ship.light a, (1 : Int), (65536 : Int))) (
      .ret ((1 : Int))) (
      .br (!r_placed (Ship.lever a, Ship.height a)) (
        .ret ((1 : Int))) (
        .br (!r_in (Ship.turn a, (1 : Int), (1048576 : Int))) (
          .ret ((1 : Int))) (
          .br (!r_in (Ship.least a, (0 : Int), (5000 : Int))) (
            .ret ((1 : Int))) (
            .br (decide ((↑(len (Ship.holds a)) : Int) > (8 : Int))) (
              .ret ((2 : Int))) (
              .obs (L_r3b ((0 : Int), a, PUnit.unit)) fun x0 =>
                .sum (x0) (fun x1 =>
                  .ret (x1)) (fun x1 =>
                  .br (decide (IntKind.wrap IntKind.i64 (Ship.light (Prod.fst (Prod.snd x1)) + r_rooms (Prod.fst (Prod.snd x1))) > (65536 : Int))) (
                    .ret ((1 : Int))) (
                    .br (r_curve (Ship.mean (Prod.fst (Prod.snd x1))) != (0 : Int)) (
                      .ret (r_curve (Ship.mean (Prod.fst (Prod.snd x1))))) (
                      .br (r_curve (Ship.mc (Prod.fst (Prod.snd x1))) != (0 : Int)) (
                        .ret (r_curve (Ship.mc (Prod.fst (Prod.snd x1))))) (
                        .obs (L_r3c ((1 : Int), Prod.fst (Prod.snd x1), PUnit.unit)) fun x2 =>
                          .sum (x2) (fun x3 =>
                            .ret (x3)) (fun x3 =>
                            .chk (decide ((0 : Nat) < len (Curve.knots (Ship.mean (Prod.fst (Prod.snd x3)))))) <|
                            .chk (decide ((0 : Nat) < len (Curve.knots (Ship.mc (Prod.fst (Prod.snd x3)))))) <|
                            .br (!r_known (Prod.fst (Prod.snd x3)) (Ship.mean (Prod.fst (Prod.snd x3)))) (
                              .ret ((1 : Int))) (
                              .br (!r_known (Prod.fst (Prod.snd x3)) (Ship.mc (Prod.fst (Prod.snd x3)))) (
                                .ret ((1 : Int))) (
                                .ret ((0 : Int)))))))))))))))) := fun a => by kernel_rfl
theorem K.r_curve_pos {c : Curve} (h : ¬ (r_curve c != 0) = true) : 0 < len c.knots := by
  rcases Nat.eq_zero_or_pos (len c.knots) with h0 | h0
  · exfalso; apply h; unfold r_curve; rw [h0, if_neg (by decide), if_pos (by decide)]; decide
  · exact h0
noncomputable def K.r_ship (s : Ship) : Int :=
  if (!r_in (s.id, 1, 1099511627776)) = true then 1 else if (!r_in (s.light, 1, 65536)) = true then 1 else if (!r_placed (s.lever, s.height)) = true then 1 else if (!r_in (s.turn, 1, 1048576)) = true then 1 else
  if (!r_in (s.least, 0, 5000)) = true then 1 else if decide ((len s.holds : Int) > 8) = true then 2 else
  K.orr id (if decide (IntKind.i64.wrap (s.light + r_rooms s) > 65536) = true then 1 else if (r_curve s.mean != 0) = true then r_curve s.mean else if (r_curve s.mc != 0) = true then r_curve s.mc else
    K.orr id (if (!r_known s s.mean) = true then 1 else if (!r_known s s.mc) = true then 1 else 0) ((List.range (len s.mean.knots - 1)).findSome? (e_r3c s.mean))) ((List.range (len s.holds)).findSome? (e_r3b s))
theorem K.r_ship_eq (s : Ship) : callT1 P BKN104 30 103 D_ship (dI .i64) s = some (r_ship s) := by
  rw [fn_r3]; unfold r_ship
  refine br_step (fun _ => rfl) (fun _ => ?_)
  refine br_step (fun _ => rfl) (fun _ => ?_)
  refine br_step (fun _ => rfl) (fun _ => ?_)
  refine br_step (fun _ => rfl) (fun _ => ?_)
  refine br_step (fun _ => rfl) (fun _ => ?_)
  refine br_step (fun _ => rfl) (fun _ => ?_)
  rw [L_r3b_eq]
  cases (List.range (len s.holds)).findSome? (e_r3b s) with
  | some e => rfl
  | none =>
    show T.run (.br (decide (IntKind.i64.wrap (s.light + r_rooms s) > 65536)) _ _) = some (if _ then _ else _)
    refine br_step (fun _ => rfl) (fun _ => ?_)
    refine br_step (fun _ => rfl) (fun k1 => ?_)
    refine br_step (fun _ => rfl) (fun k2 => ?_)
    have p1 := r_curve_pos k1; have p2 := r_curve_pos k2
    show T.run (.obs (L_r3c (1, s, ())) _) = _
    rw [L_r3c_eq s p1]
    cases (List.range (len s.mean.knots - 1)).findSome? (e_r3c s.mean) with
    | some e => rfl
    | none =>
      show T.run (.chk (decide (0 < len s.mean.knots)) _) = some (if _ then _ else _)
      refine chk_step (by simpa using p1) (chk_step (by simpa using p2) ?_)
      refine br_step (fun _ => rfl) (fun _ => ?_)
      exact br_step (fun _ => rfl) (fun _ => rfl)
noncomputable def BKN105 : Tab := BKN104.addCall 103 (callE D_ship (dI .i64) (fun a => .ret (r_ship a)))
theorem tKN105 : TabOk P BKN105 := TabOk.addFn (d := 30) okP tKN104 (fun a r h => by rw [r_ship_eq]; exact congrArg some (ret_some h))
end Go.Proofs.YtjbhooodjmjdkaaGreat
/-! KN11 -/
namespace Go.Proofs.YtjbhooodjmjdkaaGreat
open Ev K
set_option maxRecDepth 100000
def D_rrdy := DecL.cons (dShip) (.cons (dBulbs) (.last (dSurvey) 0))
def D_rvol := DecL.cons (dShip) (.last (dSurvey) 0)
def R_rvol := dTup (.cons dRange (.last dB 0))
theorem fn_rvol : ∀ a, (callT1 P BKN105 30 195 D_rvol R_rvol) a = T.run (
  .chk (sixOk (Prod.snd a)) <|
  .chk (decide ((0 : Int) ≤ (0 : Int) ∧ (0 : Int) < (↑(XS.len (Curve.knots (Ship.mean (Prod.fst a)))) : Int))) <|
  .chk (decide ((0 : Int) ≤ IntKind.wrap IntKind.i64 ((↑(len (Curve.knots (Ship.mean (Prod.fst a)))) : Int) - (1 : Int)) ∧ IntKind.wrap IntKind.i64 ((↑(len (Curve.knots (Ship.mean (Prod.fst a)))) : Int) - (1 : Int)) < (↑(XS.len (Curve.knots (Ship.mean (Prod.fst a)))) : Int))) <|
  .br (decide ((if IntKind.wrap IntKind.i64 ((16 : Int) * XS.g (Curve.knots (Ship.mean (Prod.fst a))) (nat_lit 0) (1 : Nat)) > IntKind.wrap IntKind.i64 (Span.lo (r_six (Prod.snd a)) - IntKind.wrap IntKind.i64 ((16 : Int) * Curve.err (Ship.mean (Prod.fst a)))) then IntKind.wrap IntKind.i64 ((16 : Int) * XS.g (Curve.knots (Ship.mean (Prod.fst a))) (nat_lit 0) (1 : Nat)) else IntKind.wrap IntKind.i64 (Span.lo (r_six (Prod.snd a)) - IntKind.wrap IntKind.i64 ((16 : Int) * Curve.err (Ship.mean (Prod.fst a))))) > if IntKind.wrap IntKind.i64 ((16 : Int) * XS.g (Curve.knots (Ship.mean (Prod.fst a))) (Int.toNat (IntKind.wrap IntKind.i64 ((↑(len (Curve.knots (Ship.mean (Prod.fst a)))) : Int) - (1 : Int)))) (1 : Nat)) < IntKind.wrap IntKind.i64 (Span.hi (r_six (Prod.snd a)) + IntKind.wrap IntKind.i64 ((16 : Int) * Curve.err (Ship.mean (Prod.fst a)))) then IntKind.wrap IntKind.i64 ((16 : Int) * XS.g (Curve.knots (Ship.mean (Prod.fst a))) (Int.toNat (IntKind.wrap IntKind.i64 ((↑(len (Curve.knots (Ship.mean (Prod.fst a)))) : Int) - (1 : Int)))) (1 : Nat)) else IntKind.wrap IntKind.i64 (Span.hi (r_six (Prod.snd a)) + IntKind.wrap IntKind.i64 ((16 : Int) * Curve.err (Ship.mean (Prod.fst a)))))) (
    .ret ((Range.mk (Frac.mk (0 : Int) (0 : Int)) (Frac.mk (0 : Int) (0 : Int)), false))) (
    .chk (whOk (Ship.mean (Prod.fst a)) (if IntKind.wrap IntKind.i64 ((16 : Int) * XS.g (Curve.knots (Ship.mean (Prod.fst a))) (nat_lit 0) (1 : Nat)) > IntKind.wrap IntKind.i64 (Span.lo (r_six (Prod.snd a)) - IntKind.wrap IntKind.i64 ((16 : Int) * Curve.err (Ship.mean (Prod.fst a)))) then IntKind.wrap IntKind.i64 ((16 : Int) * XS.g (Curve.knots (Ship.mean (Prod.fst a))) (nat_lit 0) (1 : Nat)) else IntKind.wrap IntKind.i64 (Span.lo (r_six (Prod.snd a)) - IntKind.wrap IntKind.i64 ((16 : Int) * Curve.err (Ship.mean (Prod.fst a)))))) <|
    .chk (whOk (Ship.mean (Prod.fst a)) (if IntKind.wrap IntKind.i64 ((16 : Int) * XS.g (Curve.knots (Ship.mean (Prod.fst a))) (Int.toNat (IntKind.wrap IntKind.i64 ((↑(len (Curve.knots (Ship.mean (Prod.fst a)))) : Int) - (1 : Int)))) (1 : Nat)) < IntKind.wrap IntKind.i64 (Span.hi (r_six (Prod.snd a)) + IntKind.wrap IntKind.i64 ((16 : Int) * Curve.err (Ship.mean (Prod.fst a)))) then IntKind.wrap IntKind.i64 ((16 : Int) * XS.g (Curve.knots (Ship.mean (Prod.fst a))) (Int.toNat (IntKind.wrap IntKind.i64 ((↑(len (Curve.knots (Ship.mean (Prod.fst a)))) : Int) - (1 : Int)))) (1 : Nat)) else IntKind.wrap IntKind.i64 (Span.hi (r_six (Prod.snd a)) + IntKind.wrap IntKind.i64 ((16 : Int) * Curve.err (Ship.mean (Prod.fst a)))))) <|
    .ret ((Range.mk (r_where (Ship.mean (Prod.fst a)) (if IntKind.wrap IntKind.i64 ((16 : Int) * XS.g (Curve.knots (Ship.mean (Prod.fst a))) (nat_lit 0) (1 : Nat)) > IntKind.wrap IntKind.i64 (Span.lo (r_six (Prod.snd a)) - IntKind.wrap IntKind.i64 ((16 : Int) * Curve.err (Ship.mean (Prod.fst a)))) then IntKind.wrap IntKind.i64 ((16 : Int) * XS.g (Curve.knots (Ship.mean (Prod.fst a))) (nat_lit 0) (1 : Nat)) else IntKind.wrap IntKind.i64 (Span.lo (r_six (Prod.snd a)) - IntKind.wrap IntKind.i64 ((16 : Int) * Curve.err (Ship.mean (Prod.fst a)))))) (r_where (Ship.mean (Prod.fst a)) (if IntKind.wrap IntKind.i64 ((16 : Int) * XS.g (Curve.knots (Ship.mean (Prod.fst a))) (Int.toNat (IntKind.wrap IntKind.i64 ((↑(len (Curve.knots (Ship.mean (Prod.fst a)))) : Int) - (1 : Int)))) (1 : Nat)) < IntKind.wrap IntKind.i64 (Span.hi (r_six (Prod.snd a)) + IntKind.wrap IntKind.i64 ((16 : Int) * Curve.err (Ship.mean (Prod.fst a)))) then IntKind.wrap IntKind.i64 ((16 : Int) * XS.g (Curve.knots (Ship.mean (Prod.fst a))) (Int.toNat (IntKind.wrap IntKind.i64 ((↑(len (Curve.knots (Ship.mean (Prod.fst a)))) : Int) - (1 : Int)))) (1 : Nat)) else IntKind.wrap IntKind.i64 (Span.hi (r_six (Prod.snd a)) + IntKind.wrap IntKind.i64 ((16 : Int) * Curve.err (Ship.mean (Prod.fst a)))))), true)))) := fun a => by kernel_rfl
noncomputable def K.r_y (s : Ship) (x : Survey) : Span :=
  ⟨if IntKind.i64.wrap (16 * (knt s.mean.knots 0).y) > IntKind.i64.wrap ((r_six x).lo - IntKind.i64.wrap (16 * s.mean.err)) then IntKind.i64.wrap (16 * (knt s.mean.knots 0).y) else IntKind.i64.wrap ((r_six x).lo - IntKind.i64.wrap (16 * s.mean.err)),
   if IntKind.i64.wrap (16 * (knt s.mean.knots (len s.mean.knots - 1)).y) < IntKind.i64.wrap ((r_six x).hi + IntKind.i64.wrap (16 * s.mean.err)) then IntKind.i64.wrap (16 * (knt s.mean.knots (len s.mean.knots - 1)).y) else IntKind.i64.wrap ((r_six x).hi + IntKind.i64.wrap (16 * s.mean.err))⟩
noncomputable def K.r_volOk (s : Ship) (x : Survey) : Bool := sixOk x && (decide (0 < len s.mean.knots) && (decide ((r_y s x).lo > (r_y s x).hi) || (whOk s.mean (r_y s x).lo && whOk s.mean (r_y s x).hi)))
noncomputable def K.r_volumes (s : Ship) (x : Survey) : Range × Bool := if decide ((r_y s x).lo > (r_y s x).hi) = true then (⟨⟨0, 0⟩, ⟨0, 0⟩⟩, false) else (⟨r_where s.mean (r_y s x).lo, r_where s.mean (r_y s x).hi⟩, true)
theorem K.r_volumes_eq (a : Ship × Survey) (h : r_volOk a.1 a.2 = true) : callT1 P BKN105 30 195 D_rvol R_rvol a = some (r_volumes a.1 a.2) := by
  obtain ⟨s, x⟩ := a
  unfold r_volOk at h
  rw [Bool.and_eq_true, Bool.and_eq_true, decide_eq_true_eq, Bool.or_eq_true, Bool.and_eq_true] at h
  obtain ⟨h1, h2, h3⟩ := h
  simp only at h2
  have e1 := K.len_le s.mean.knots; have e2 := K.len_le' s.mean.knots
  rw [fn_rvol, w64_in (n := (len s.mean.knots : Int) - 1) (by omega) (by omega), show ((len s.mean.knots : Int) - 1).toNat = len s.mean.knots - 1 by omega]
  refine chk_step h1 (chk_step (by simp only [decide_eq_true_eq]; omega) (chk_step (by simp only [decide_eq_true_eq]; omega) ?_))
  refine br_step (fun _ => rfl) (fun hn => ?_)
  rcases h3 with h3 | h3
  · exact absurd h3 hn
  · exact chk_step h3.1 (chk_step h3.2 rfl)
noncomputable def BKN111 : Tab := BKN105.addCall 195 (callE D_rvol R_rvol (fun a => .chk (r_volOk a.1 a.2) (.ret (r_volumes a.1 a.2))))
theorem tKN111 : TabOk P BKN111 := TabOk.addFn (d := 30) okP tKN105 (fun a r h => by obtain ⟨g, e⟩ := chk_ret h; subst e; exact K.r_volumes_eq a g)
theorem fn_rmass : ∀ a, (callT1 P BKN111 30 151 D_rrdy dSpan) a = T.run (
  .chk (r_volOk (Prod.fst a) (Prod.snd (Prod.snd a))) <|
  .br (!Prod.snd (r_volumes (Prod.fst a) (Prod.snd (Prod.snd a)))) (
    .ret (Span.mk (1 : Int) (0 : Int))) (
    .chk (!decide (IntKind.wrap IntKind.i64 ((25 : Int) * Frac.den (Range.lo (Prod.fst (r_volumes (Prod.fst a) (Prod.snd (Prod.snd a)))))) = (0 : Int))) <|
    .chk (!decide (IntKind.wrap IntKind.i64 ((25 : Int) * Frac.den (Range.hi (Prod.fst (r_volumes (Prod.fst a) (Prod.snd (Prod.snd a)))))) = (0 : Int))) <|
    .ret (r_both (Span.mk (IntKind.wrap IntKind.i64 (Int.tdiv (IntKind.wrap IntKind.i64 (IntKind.wrap IntKind.i64 (IntKind.wrap IntKind.i64 (Span.lo (r_density (Prod.snd a)) * Frac.num (Range.lo (Prod.fst (r_volumes (Prod.fst a) (Prod.snd (Prod.snd a)))))) + IntKind.wrap IntKind.i64 ((25 : Int) * Frac.den (Range.lo (Prod.fst (r_volumes (Prod.fst a) (Prod.snd (Prod.snd a))))))) - (1 : Int))) (IntKind.wrap IntKind.i64 ((25 : Int) * Frac.den (Range.lo (Prod.fst (r_volumes (Prod.fst a) (Prod.snd (Prod.snd a))))))))) (IntKind.wrap IntKind.i64 (Int.tdiv (IntKind.wrap IntKind.i64 (Span.hi (r_density (Prod.snd a)) * Frac.num (Range.hi (Prod.fst (r_volumes (Prod.fst a) (Prod.snd (Prod.snd a))))))) (IntKind.wrap IntKind.i64 ((25 : Int) * Frac.den (Range.hi (Prod.fst (r_volumes (Prod.fst a) (Prod.snd (Prod.snd a))))))))), Span.mk (Ship.light (Prod.fst a)) (r_full (Prod.fst a)))))) := fun a => by kernel_rfl
noncomputable def K.r_massOk (s : Ship) (x : Survey) : Bool := r_volOk s x && (!(r_volumes s x).2 || (!decide (IntKind.i64.wrap (25 * (r_volumes s x).1.lo.den) = 0) && !decide (IntKind.i64.wrap (25 * (r_volumes s x).1.hi.den) = 0)))
noncomputable def K.r_mass (s : Ship) (b : Bulbs) (x : Survey) : Span := if (!(r_volumes s x).2) = true then ⟨1, 0⟩ else
  r_both (⟨IntKind.i64.wrap (Int.tdiv (IntKind.i64.wrap (IntKind.i64.wrap (IntKind.i64.wrap ((r_density (b, x)).lo * (r_volumes s x).1.lo.num) + IntKind.i64.wrap (25 * (r_volumes s x).1.lo.den)) - 1)) (IntKind.i64.wrap (25 * (r_volumes s x).1.lo.den))),
    IntKind.i64.wrap (Int.tdiv (IntKind.i64.wrap ((r_density (b, x)).hi * (r_volumes s x).1.hi.num)) (IntKind.i64.wrap (25 * (r_volumes s x).1.hi.den)))⟩, ⟨s.light, r_full s⟩)
theorem K.r_mass_eq (a : Ship × Bulbs × Survey) (h : r_massOk a.1 a.2.2 = true) : callT1 P BKN111 30 151 D_rrdy dSpan a = some (r_mass a.1 a.2.1 a.2.2) := by
  unfold r_massOk at h
  rw [Bool.and_eq_true] at h
  rw [fn_rmass]
  refine chk_step h.1 (br_step (fun _ => rfl) (fun hn => ?_))
  have h2 := h.2
  rw [Bool.or_eq_true] at h2
  rcases h2 with h2 | h2
  · exact absurd h2 hn
  · rw [Bool.and_eq_true] at h2
    exact chk_step h2.1 (chk_step h2.2 rfl)
noncomputable def BKN112 : Tab := BKN111.addCall 151 (callE D_rrdy dSpan (fun a => .chk (r_massOk a.1 a.2.2) (.ret (r_mass a.1 a.2.1 a.2.2))))
theorem tKN112 : TabOk P BKN112 := TabOk.addFn (d := 30) okP tKN111 (fun a r h => by obtain ⟨g, e⟩ := chk_ret h; subst e; exact K.r_mass_eq a g)
end Go.Proofs.YtjbhooodjmjdkaaGreat
/-! KP -/
namespace Go.Proofs.YtjbhooodjmjdkaaGreat
open Ev K
set_option maxRecDepth 100000
namespace K
theorem ite_ok {c : Bool} {t u : Int} (hu : u ≠ 0) (h : (if c = true then t else u) = 0) : c = true ∧ t = 0 := by
  cases c with
  | true => exact ⟨rfl, h⟩
  | false => simp at h; exact absurd h hu
theorem ite_no {c : Bool} {t u : Int} (hu : u ≠ 0) (h : (if c = true then u else t) = 0) : c = false ∧ t = 0 := by
  cases c with
  | true => simp at h; exact absurd h hu
  | false => exact ⟨rfl, by simpa using h⟩
theorem ite_err {e t : Int} (h : (if (e != 0) = true then e else t) = 0) : e = 0 ∧ t = 0 := by
  by_cases h0 : e = 0
  · subst h0; simpa using h
  · simp [h0] at h
theorem within_iff {n lo hi : Int} : within n lo hi = true ↔ lo ≤ n ∧ n ≤ hi := by unfold within; simp
theorem spans_iff {s : Span} {lo hi : Int} : spans s lo hi = true ↔ lo ≤ s.lo ∧ s.lo ≤ s.hi ∧ s.hi ≤ hi := by unfold spans; simp
theorem void_false {s : Span} : void s = false ↔ s.lo ≤ s.hi := by unfold void; simp
theorem void_true {s : Span} : void s = true ↔ s.hi < s.lo := by unfold void; simp
structure MarkOk (s : Span) : Prop where
  lo : 0 ≤ s.lo
  le : s.lo ≤ s.hi
  hi : s.hi ≤ 65536
  w : s.hi - s.lo < 400
structure Good (x : Survey) : Prop where
  id : 1 ≤ x.id ∧ x.id ≤ 1099511627776
  tick : 0 ≤ x.tick ∧ x.tick ≤ 1048576
  sag : 0 ≤ x.sag ∧ x.sag ≤ 200
  shown : 0 ≤ x.shown.lo ∧ x.shown.lo ≤ x.shown.hi ∧ x.shown.hi ≤ 2000
  m0 : MarkOk x.m0
  m1 : MarkOk x.m1
  m2 : MarkOk x.m2
  m3 : MarkOk x.m3
  m4 : MarkOk x.m4
  m5 : MarkOk x.m5
theorem mark_ok {s : Span} (h1 : spans s 0 65536 = true) (h2 : IntKind.wrap IntKind.i64 (s.hi - s.lo) < 400) : MarkOk s := by
  obtain ⟨a, b, c⟩ := spans_iff.1 h1
  rw [w64_in (by omega) (by omega)] at h2
  exact ⟨a, b, c, h2⟩
/-- What a survey without an error is. -/
theorem check_ok {b : Bulbs} {x : Survey} (h : check (b, x) = 0) : Good x ∧ (density (b, x)).2 = 0 ∧ (extremes x).2 = true := by
  unfold check at h
  obtain ⟨h1, h⟩ := ite_ok (by decide) h
  obtain ⟨h2, h⟩ := ite_ok (by decide) h
  obtain ⟨h3, h⟩ := ite_ok (by decide) h
  obtain ⟨h4, h⟩ := ite_ok (by decide) h
  obtain ⟨a0, h⟩ := ite_ok (by decide) h
  obtain ⟨b0, h⟩ := ite_ok (by decide) h
  obtain ⟨a1, h⟩ := ite_ok (by decide) h
  obtain ⟨b1, h⟩ := ite_ok (by decide) h
  obtain ⟨a2, h⟩ := ite_ok (by decide) h
  obtain ⟨b2, h⟩ := ite_ok (by decide) h
  obtain ⟨a3, h⟩ := ite_ok (by decide) h
  obtain ⟨b3, h⟩ := ite_ok (by decide) h
  obtain ⟨a4, h⟩ := ite_ok (by decide) h
  obtain ⟨b4, h⟩ := ite_ok (by decide) h
  obtain ⟨a5, h⟩ := ite_ok (by decide) h
  obtain ⟨b5, h⟩ := ite_no (by decide) h
  obtain ⟨d, h⟩ := ite_err h
  obtain ⟨e, _⟩ := ite_no (by decide) h
  refine ⟨⟨within_iff.1 h1, within_iff.1 h2, within_iff.1 h3, spans_iff.1 h4, mark_ok a0 (by simpa using b0), mark_ok a1 (by simpa using b1), mark_ok a2 (by simpa using b2), mark_ok a3 (by simpa using b3), mark_ok a4 (by simpa using b4), mark_ok a5 (by simpa using b5)⟩, d, by simpa using e⟩
theorem Check_ok {b : Bulbs} {x : Survey} (h : Check (b, x) = 0) : CheckBulbs b = 0 ∧ Good x ∧ (density (b, x)).2 = 0 ∧ (extremes x).2 = true := by
  unfold Check at h
  obtain ⟨h1, h⟩ := ite_err h
  exact ⟨h1, check_ok h⟩
theorem tmod_two (n : Int) : Int.tmod n 2 = if 0 ≤ n then n % 2 else -((-n) % 2) := by
  split
  · rename_i h; rw [Int.tmod_eq_emod_of_nonneg h]
  · rename_i h
    have : n = -(-n) := by omega
    rw [this, Int.neg_tmod, Int.tmod_eq_emod_of_nonneg (by omega)]
    simp
theorem half_eq {n : Int} (h1 : -4611686018427387904 ≤ n) (h2 : n ≤ 4611686018427387904) : half n = n / 2 := by
  unfold half
  have ht := tmod_two n
  have hb : -1 ≤ Int.tmod n 2 ∧ Int.tmod n 2 ≤ 1 := by rw [ht]; split <;> omega
  rw [w64_in (n := Int.tmod n 2 + 2) (by omega) (by omega)]
  have e1 : Int.tmod (Int.tmod n 2 + 2) 2 = n % 2 := by
    rw [Int.tmod_eq_emod_of_nonneg (by omega), ht]; split <;> omega
  rw [e1, w64_in (n := n - n % 2) (by omega) (by omega)]
  have e2 : n - n % 2 = 2 * (n / 2) := by omega
  rw [e2, Int.mul_comm, Int.mul_tdiv_cancel _ (by decide), w64_in (by omega) (by omega)]
end K
end Go.Proofs.YtjbhooodjmjdkaaGreat
/-! KV1 -/
namespace Go.Proofs.YtjbhooodjmjdkaaGreat
open Ev K
set_option maxRecDepth 100000
namespace K
theorem r_id_is (n : Int) : r_id n = within n 1 1099511627776 := by
  unfold r_id within
  show (if decide ((1 : Int) ≤ n) = true then _ else _) = _
  cases decide ((1 : Int) ≤ n) <;> rfl
theorem r_in_is (n lo hi : Int) : r_in (n, lo, hi) = within n lo hi := by
  unfold r_in within
  show (if decide (lo ≤ n) = true then _ else _) = _
  cases decide (lo ≤ n) <;> rfl
theorem r_span_is (s : Span) (lo hi : Int) : r_span (s, lo, hi) = spans s lo hi := by
  unfold r_span spans
  show (if decide (lo ≤ s.lo) = true then (if _ then _ else _) else _) = _
  cases decide (lo ≤ s.lo) <;> cases decide (s.lo ≤ s.hi) <;> rfl
theorem r_placed_is (a : Int × Int) : r_placed a = placed a := by
  unfold r_placed placed within
  show (if decide ((-20000 : Int) ≤ a.1) = true then (if _ then (if decide ((0 : Int) ≤ a.2) = true then _ else _) else _) else _) = _
  cases decide ((-20000 : Int) ≤ a.1) <;> cases decide (a.1 ≤ 20000) <;> cases decide ((0 : Int) ≤ a.2) <;> rfl
theorem r_none_is (s : Span) : r_none s = void s := rfl
theorem r_both_is (a b : Span) : r_both (a, b) = meet a b := rfl
theorem r_down_is (n : Int) : r_down n = half n := rfl
theorem found_idx {α : Type} (at_ : Nat → α) (z : α) (p : Nat → Bool) (n : Nat) : (found at_ z p n).2 = idx p n := by
  unfold found idx; cases first p n <;> rfl
theorem e_rc1_is (b : Bulbs) (i : Nat) : e_rc1 b i = hydE b.hydros b.hydros i := by
  unfold e_rc1 hydE find_chk1
  rw [found_idx, r_id_is, r_span_is]
  simp only [decide_eq_true_eq]
  rfl
theorem e_rc2_is (b : Bulbs) (i : Nat) : e_rc2 b i = glsE b.glasses b.hydros b.glasses i := by
  unfold e_rc2 glsE find_chk2 find_chk3
  rw [found_idx, found_idx, r_id_is, r_span_is]
  have hd : ∀ (u v : Option Int), (if (gls b.glasses i).dense < 900 then u else if (gls b.glasses i).dense > 1100 then u else v) = if (!within (b.glasses.g i 2) 900 1100) = true then u else v := by
    intro u v
    show (if b.glasses.g i 2 < 900 then u else if b.glasses.g i 2 > 1100 then u else v) = _
    unfold within
    by_cases h1 : b.glasses.g i 2 < 900
    · rw [if_pos h1, decide_eq_false (show ¬ (900 : Int) ≤ b.glasses.g i 2 by omega)]; rfl
    · rw [if_neg h1, decide_eq_true (show (900 : Int) ≤ b.glasses.g i 2 by omega)]
      by_cases h2 : b.glasses.g i 2 > 1100
      · rw [if_pos h2, decide_eq_false (show ¬ b.glasses.g i 2 ≤ 1100 by omega)]; rfl
      · rw [if_neg h2, decide_eq_true (show b.glasses.g i 2 ≤ 1100 by omega)]; rfl
  rw [hd]
  simp only [decide_eq_true_eq]
  rfl
theorem r_bulbs_is (b : Bulbs) : r_bulbs b = CheckBulbs b := by
  unfold r_bulbs CheckBulbs
  rw [show e_rc1 b = hydE b.hydros b.hydros from funext (e_rc1_is b), show e_rc2 b = glsE b.glasses b.hydros b.glasses from funext (e_rc2_is b)]
  simp only [decide_eq_true_eq]
end K
end Go.Proofs.YtjbhooodjmjdkaaGreat
/-! KV2 -/
namespace Go.Proofs.YtjbhooodjmjdkaaGreat
open Ev K
set_option maxRecDepth 100000
namespace K
theorem r_off_is (b : Bulbs) (h : Hydro) (but : Int) : r_off b h but = errs b h but := by
  unfold r_off errs glassesL
  rw [List.foldl_map, List.foldl_filter]
  have e : f_roff b h but = fun (s : Span) (i : Nat) => if ((gls b.glasses i).hydro == h.id) = true then (if ((toldOf (gls b.glasses i)).g.id != but) = true then meet s (toldOf (gls b.glasses i)).errors else s) else s := by
    funext s i
    unfold f_roff
    show (if ((gls b.glasses i).hydro == h.id && (gls b.glasses i).id != but) = true then meet s (toldOf (gls b.glasses i)).errors else s) = if ((gls b.glasses i).hydro == h.id) = true then (if ((gls b.glasses i).id != but) = true then meet s (toldOf (gls b.glasses i)).errors else s) else s
    cases ((gls b.glasses i).hydro == h.id) <;> cases ((gls b.glasses i).id != but) <;> rfl
  rw [e]
theorem hydro_is (b : Bulbs) (n : Int) : hydro (b, n) = match first (p_rhydro b n) (len b.hydros) with | some i => (hyd b.hydros i, true) | none => (⟨0, ⟨0, 0⟩⟩, false) := by
  show ((find_hyd1 n b.hydros).1, decide ((find_hyd1 n b.hydros).2 ≥ 0)) = _
  unfold find_hyd1 found
  show ((match first (p_rhydro b n) (len b.hydros) with | some i => (hyd b.hydros i, (i : Int)) | none => (⟨0, ⟨0, 0⟩⟩, -1)).1, decide ((match first (p_rhydro b n) (len b.hydros) with | some i => (hyd b.hydros i, (i : Int)) | none => (⟨0, ⟨0, 0⟩⟩, -1)).2 ≥ 0)) = _
  cases first (p_rhydro b n) (len b.hydros) with
  | none => rfl
  | some i => simp only; rw [decide_eq_true (show (i : Int) ≥ 0 by omega)]
theorem r_Off_is {b : Bulbs} (hb : CheckBulbs b = 0) (n : Int) : r_Off (b, n) = off (b, n) := by
  unfold r_Off off
  rw [if_neg (by rw [r_bulbs_is, hb]; decide), hydro_is]
  unfold i_rhydro
  simp only
  cases first (p_rhydro b n) (len b.hydros) with
  | none => rfl
  | some i =>
    simp only
    rw [if_neg (show ¬ (i : Int) < 0 by omega), r_off_is, r_none_is]
    rfl
theorem density_is {b : Bulbs} {x : Survey} (hb : CheckBulbs b = 0) (ho : (off (b, x.hydro)).2 = 0) : density (b, x) = if void (r_density (b, x)) = true then (⟨0, 0⟩, 9) else (r_density (b, x), 0) := by
  unfold density r_density
  rw [if_neg (show ¬ ((off ((b, x).1, (b, x).2.hydro)).2 != 0) = true by simp only; rw [ho]; decide), r_Off_is hb]
  rfl
end K
end Go.Proofs.YtjbhooodjmjdkaaGreat
/-! KBl8 -/
namespace Go.Proofs.YtjbhooodjmjdkaaGreat
open Ev K
set_option maxRecDepth 100000
def lInts : DecL (List Int × Int) := .cons (dRows rInt) (.last (dI .i64) 0)
def S_lb := DecS.mk0 (.skips 5 (.cons dB (.skips 4 (.cons (dRows rPair) (.skip (.cons (dRows rPair) (.skip (.cons (dRows rInt) (.skip (.unit (dLp 0 0 0 0) (.last (dI .i64) 95))))))))))) (.flat 53 lInts .nil)
def X_lb := DecX.or (DecX.one .ret [4] (DecS.mk1 (.skips 4 (.last dB 108)))) (DecX.one (.exit 0) [5, 14, 16] (DecS.mk0 (.skips 5 (.cons dB (.skips 8 (.cons (dRows rInt) (.skip (.unit (dLp 0 0 0 0) (.tops 96))))))) (.flat 53 lInts .nil)))
noncomputable def K.st_lb := loopT1 P BKBl73 30 6 105 [17, 12, 10, 5, 16, 14] S_lb X_lb
theorem sl_lb : ∀ s, (K.st_lb) s = T.run (
  .br (decide (Prod.snd (Prod.snd (Prod.snd (Prod.snd (Prod.fst s)))) < (↑(clampL (List.length (Prod.fst (Prod.snd (Prod.fst s))))) : Int))) (
    .chk (decide ((0 : Int) ≤ Prod.snd (Prod.snd (Prod.snd (Prod.snd (Prod.fst s)))) ∧ Prod.snd (Prod.snd (Prod.snd (Prod.snd (Prod.fst s)))) < (↑(List.length (Prod.fst (Prod.snd (Prod.fst s)))) : Int))) <|
    .chk (decide ((0 : Int) ≤ Prod.snd (Prod.snd (Prod.snd (Prod.snd (Prod.fst s)))) ∧ Prod.snd (Prod.snd (Prod.snd (Prod.snd (Prod.fst s)))) < (↑(List.length (Prod.fst (Prod.snd (Prod.snd (Prod.fst s))))) : Int))) <|
    .br (!(numOf (encF rPair (Prod.fst (Prod.snd (Prod.fst s))) ((0 : Nat) + Int.toNat (Prod.snd (Prod.snd (Prod.snd (Prod.snd (Prod.fst s)))))) (0 : Nat)) == numOf (encF rPair (Prod.fst (Prod.snd (Prod.snd (Prod.fst s)))) ((0 : Nat) + Int.toNat (Prod.snd (Prod.snd (Prod.snd (Prod.snd (Prod.fst s)))))) (0 : Nat)) && numOf (encF rPair (Prod.fst (Prod.snd (Prod.fst s))) ((0 : Nat) + Int.toNat (Prod.snd (Prod.snd (Prod.snd (Prod.snd (Prod.fst s)))))) (nat_lit 1)) == numOf (encF rPair (Prod.fst (Prod.snd (Prod.snd (Prod.fst s)))) ((0 : Nat) + Int.toNat (Prod.snd (Prod.snd (Prod.snd (Prod.snd (Prod.fst s)))))) (nat_lit 1)))) (
      .ret (Sum.inr (Sum.inl false))) (
      .ret (Sum.inl ((Prod.fst (Prod.fst s), decF rPair (List.length (Prod.fst (Prod.snd (Prod.fst s)))) fun i => encF rPair (Prod.fst (Prod.snd (Prod.fst s))) ((0 : Nat) + i), decF rPair (List.length (Prod.fst (Prod.snd (Prod.snd (Prod.fst s))))) fun i => encF rPair (Prod.fst (Prod.snd (Prod.snd (Prod.fst s)))) ((0 : Nat) + i), decF rInt (List.length (Prod.fst (Prod.snd (Prod.snd (Prod.snd (Prod.fst s)))))) fun i => encF rInt (Prod.fst (Prod.snd (Prod.snd (Prod.snd (Prod.fst s))))) ((0 : Nat) + i), IntKind.wrap IntKind.i64 (Prod.snd (Prod.snd (Prod.snd (Prod.snd (Prod.fst s)))) + (1 : Int))), (decF rInt (List.length (Prod.fst (Prod.fst (Prod.snd s)))) fun i => encF rInt (Prod.fst (Prod.fst (Prod.snd s))) ((0 : Nat) + i), Prod.snd (Prod.fst (Prod.snd s))), PUnit.unit)))) (
    .ret (Sum.inr (Sum.inr ((Prod.fst (Prod.fst s), decF rInt (List.length (Prod.fst (Prod.snd (Prod.snd (Prod.snd (Prod.fst s)))))) fun i => encF rInt (Prod.fst (Prod.snd (Prod.snd (Prod.snd (Prod.fst s))))) ((0 : Nat) + i), PUnit.unit), (decF rInt (List.length (Prod.fst (Prod.fst (Prod.snd s)))) fun i => encF rInt (Prod.fst (Prod.fst (Prod.snd s))) ((0 : Nat) + i), Prod.snd (Prod.fst (Prod.snd s))), PUnit.unit))))) := fun s => by kernel_rfl
noncomputable def K.L_lb := lim K.st_lb
noncomputable def BKBl81 : Tab := BKBl73.addNode 6 105 (nodeE [17, 12, 10, 5, 16, 14] S_lb X_lb (fun s => .obs (K.L_lb s) .ret))
theorem tKBl81 : TabOk P BKBl81 := TabOk.addLoop (d := 30) okP tKBl73 (by kernel_rfl) (by kernel_rfl) (fun s r h => obs_ret h)
theorem fn_lb : ∀ a, (callT1 P BKBl81 30 6 D_off dB) a = T.run (
  .br (!few (Prod.fst a)) (
    .ret (true)) (
    .br (CheckBulbs (Prod.fst a) != (0 : Int)) (
      .chk (decide (len (Bulbs.glasses (Prod.fst a)) ≤ (10000 : Nat))) <|
      .chk (decide (len (Bulbs.glasses (Prod.fst a)) ≤ (1000000 : Nat))) <|
      .br (CheckBulbs (Prod.fst a) != r_bulbs (Prod.fst a)) (
        .ret (false)) (
        .br (!((0 : Int) == Span.lo (Prod.fst (r_Off a)) && (0 : Int) == Span.hi (Prod.fst (r_Off a)))) (
          .ret (false)) (
          .br (CheckBulbs (Prod.fst a) != Prod.snd (r_Off a)) (
            .ret (false)) (
            .br (Prod.snd (cla a) != Prod.snd (r_cla a)) (
              .ret (false)) (
              .br ((↑(clampL (List.length (Prod.fst (cla a)))) : Int) != (↑(clampL (List.length (Prod.fst (r_cla a)))) : Int)) (
                .ret (false)) (
                .br (Prod.snd (blm a) != Prod.snd (r_blm a)) (
                  .ret (false)) (
                  .obs (L_lb ((true, decF rPair (List.length (Prod.fst (cla a))) fun i => encF rPair (Prod.fst (cla a)) ((0 : Nat) + i), decF rPair (List.length (Prod.fst (r_cla a))) fun i => encF rPair (Prod.fst (r_cla a)) ((0 : Nat) + i), decF rInt (List.length (Prod.fst (blm a))) fun i => encF rInt (Prod.fst (blm a)) ((0 : Nat) + i), (0 : Int)), (decF rInt (List.length (Prod.fst (r_blm a))) fun i => encF rInt (Prod.fst (r_blm a)) ((0 : Nat) + i), Prod.snd (r_blm a)), PUnit.unit)) fun x0 =>
                    .sum (x0) (fun x1 =>
                      .ret (x1)) (fun x1 =>
                      .chk (decide (List.length (decF rInt (List.length (Prod.fst (Prod.snd (Prod.fst x1)))) fun i => encF rInt (Prod.fst (Prod.snd (Prod.fst x1))) ((0 : Nat) + i)) ≤ (1000000 : Nat))) <|
                      .chk (decide (List.length (decF rInt (List.length (Prod.fst (Prod.fst (Prod.snd x1)))) fun i => encF rInt (Prod.fst (Prod.fst (Prod.snd x1))) ((0 : Nat) + i)) ≤ (1000000 : Nat))) <|
                      .br (Prod.fst (Prod.fst x1)) (
                        .ret (sameL (decF rInt (List.length (Prod.fst (Prod.snd (Prod.fst x1)))) fun i => encF rInt (Prod.fst (Prod.snd (Prod.fst x1))) ((0 : Nat) + i), decF rInt (List.length (Prod.fst (Prod.fst (Prod.snd x1)))) fun i => encF rInt (Prod.fst (Prod.fst (Prod.snd x1))) ((0 : Nat) + i)))) (
                        .ret (false)))))))))) (
      .chk (decide (len (Bulbs.glasses (Prod.fst a)) ≤ (10000 : Nat))) <|
      .chk (decide (len (Bulbs.glasses (Prod.fst a)) ≤ (1000000 : Nat))) <|
      .br (CheckBulbs (Prod.fst a) != r_bulbs (Prod.fst a)) (
        .ret (false)) (
        .br (!(Span.lo (Prod.fst (off a)) == Span.lo (Prod.fst (r_Off a)) && Span.hi (Prod.fst (off a)) == Span.hi (Prod.fst (r_Off a)))) (
          .ret (false)) (
          .br (Prod.snd (off a) != Prod.snd (r_Off a)) (
            .ret (false)) (
            .br (Prod.snd (cla a) != Prod.snd (r_cla a)) (
              .ret (false)) (
              .br ((↑(clampL (List.length (Prod.fst (cla a)))) : Int) != (↑(clampL (List.length (Prod.fst (r_cla a)))) : Int)) (
                .ret (false)) (
                .br (Prod.snd (blm a) != Prod.snd (r_blm a)) (
                  .ret (false)) (
                  .obs (L_lb ((true, decF rPair (List.length (Prod.fst (cla a))) fun i => encF rPair (Prod.fst (cla a)) ((0 : Nat) + i), decF rPair (List.length (Prod.fst (r_cla a))) fun i => encF rPair (Prod.fst (r_cla a)) ((0 : Nat) + i), decF rInt (List.length (Prod.fst (blm a))) fun i => encF rInt (Prod.fst (blm a)) ((0 : Nat) + i), (0 : Int)), (decF rInt (List.length (Prod.fst (r_blm a))) fun i => encF rInt (Prod.fst (r_blm a)) ((0 : Nat) + i), Prod.snd (r_blm a)), PUnit.unit)) fun x0 =>
                    .sum (x0) (fun x1 =>
                      .ret (x1)) (fun x1 =>
                      .chk (decide (List.length (decF rInt (List.length (Prod.fst (Prod.snd (Prod.fst x1)))) fun i => encF rInt (Prod.fst (Prod.snd (Prod.fst x1))) ((0 : Nat) + i)) ≤ (1000000 : Nat))) <|
                      .chk (decide (List.length (decF rInt (List.length (Prod.fst (Prod.fst (Prod.snd x1)))) fun i => encF rInt (Prod.fst (Prod.fst (Prod.snd x1))) ((0 : Nat) + i)) ≤ (1000000 : Nat))) <|
                      .br (Prod.fst (Prod.fst x1)) (
                        .ret (sameL (decF rInt (List.length (Prod.fst (Prod.snd (Prod.fst x1)))) fun i => encF rInt (Prod.fst (Prod.snd (Prod.fst x1))) ((0 : Nat) + i), decF rInt (List.length (Prod.fst (Prod.fst (Prod.snd x1)))) fun i => encF rInt (Prod.fst (Prod.fst (Prod.snd x1))) ((0 : Nat) + i)))) (
                        .ret (false)))))))))))) := fun a => by kernel_rfl
end Go.Proofs.YtjbhooodjmjdkaaGreat
/-! KBl9 -/
namespace Go.Proofs.YtjbhooodjmjdkaaGreat
open Ev K
set_option maxRecDepth 100000
namespace K
theorem rc1_ne {b : Bulbs} {i : Nat} : e_rc1 b i ≠ some 0 := by
  unfold e_rc1
  split
  · exact fun h => by cases h
  split
  · exact fun h => by cases h
  split <;> exact fun h => by cases h
theorem rc2_ne {b : Bulbs} {i : Nat} : e_rc2 b i ≠ some 0 := by
  unfold e_rc2
  iterate 6
    split
    · exact fun h => by cases h
  exact fun h => by cases h
/-- Valid glasses: each can be found by its ID alone. -/
theorem gls_find {b : Bulbs} (hb : CheckBulbs b = 0) {k : Nat} (hk : k < len b.glasses) : i_rglass b (gls b.glasses k).id = (k : Int) := by
  rw [← r_bulbs_is] at hb
  unfold r_bulbs at hb
  split at hb
  · cases hb
  split at hb
  · cases hb
  cases h1 : (List.range (len b.hydros)).findSome? (e_rc1 b) with
  | some e =>
    rw [h1] at hb
    have : e = 0 := hb
    obtain ⟨j, _, hj⟩ := List.exists_of_findSome?_eq_some h1
    exact absurd (by rw [hj, this]) (rc1_ne (b := b) (i := j))
  | none =>
    rw [h1] at hb
    cases h2 : (List.range (len b.glasses)).findSome? (e_rc2 b) with
    | some e =>
      rw [h2] at hb
      have : e = 0 := hb
      obtain ⟨j, _, hj⟩ := List.exists_of_findSome?_eq_some h2
      exact absurd (by rw [hj, this]) (rc2_ne (b := b) (i := j))
    | none =>
      have h3 := (List.findSome?_eq_none_iff.1 h2) k (List.mem_range.2 hk)
      have h4 := i_rglass_at hk
      apply Int.le_antisymm h4.2
      apply Int.not_lt.1
      intro h5
      unfold e_rc2 at h3
      split at h3
      · cases h3
      split at h3
      · cases h3
      split at h3
      · cases h3
      split at h3
      · cases h3
      split at h3
      · cases h3
      first | (cases h3; done) | (rw [if_pos h5] at h3; cases h3)
theorem void_comm (a b : Span) : void (meet a b) = void (meet b a) := by
  unfold void meet
  apply decide_eq_decide.2
  simp only
  split <;> split <;> split <;> split <;> omega
/-- The glasses of a hydrometer have distinct IDs. -/
theorem mine_nodup {b : Bulbs} (hb : CheckBulbs b = 0) (n : Int) : (mineU b n).Nodup := by
  unfold mineU mineR
  rw [List.nodup_iff_pairwise_ne, List.pairwise_map]
  refine List.Pairwise.imp_of_mem (R := fun i j => i ≠ j) (fun {i j} hi hj hne e => ?_) (List.Pairwise.filter _ (List.nodup_iff_pairwise_ne.1 List.nodup_range))
  have h1 := gls_find hb (List.mem_range.1 (List.mem_filter.1 hi).1)
  have h2 := gls_find hb (List.mem_range.1 (List.mem_filter.1 hj).1)
  rw [e, h2] at h1
  exact hne (by omega)
/-- The list of the glasses' IDs, and what they allow. -/
theorem glassesL_ids (b : Bulbs) (n : Int) : (glassesL b n).map (fun g => g.g.id) = mineU b n := by
  unfold glassesL mineU mineR
  rw [List.map_map]; rfl
theorem glassesL_al {b : Bulbs} (hb : CheckBulbs b = 0) {n : Int} {g : GlassE} (h : g ∈ glassesL b n) : g.errors = al b g.g.id := by
  unfold glassesL at h
  obtain ⟨k, hk, rfl⟩ := List.mem_map.1 h
  have := gls_find hb (List.mem_range.1 (List.mem_filter.1 hk).1)
  unfold al
  show (toldOf (gls b.glasses k)).errors = r_all (gls b.glasses (i_rglass b (gls b.glasses k).id).toNat)
  rw [this]; rfl
theorem flatMap_append_perm {α β : Type} (f g : α → List β) : ∀ (l : List α), (l.flatMap fun x => f x ++ g x).Perm (l.flatMap f ++ l.flatMap g)
  | [] => by simp
  | x :: l => by
    rw [List.flatMap_cons, List.flatMap_cons, List.flatMap_cons, List.append_assoc, List.append_assoc]
    refine List.Perm.append_left _ ?_
    refine ((flatMap_append_perm f g l).append_left _).trans ?_
    rw [← List.append_assoc, ← List.append_assoc]
    exact List.Perm.append_right _ List.perm_append_comm
theorem flatMap_perm {α β : Type} {f g : α → List β} : ∀ {l : List α}, (∀ x ∈ l, (f x).Perm (g x)) → (l.flatMap f).Perm (l.flatMap g)
  | [], _ => by simp
  | x :: l, h => by
    rw [List.flatMap_cons, List.flatMap_cons]
    exact (h x (by simp)).append (flatMap_perm fun y hy => h y (by simp [hy]))
theorem flatMap_congr' {α β : Type} {f g : α → List β} : ∀ {l : List α}, (∀ x ∈ l, f x = g x) → l.flatMap f = l.flatMap g
  | [], _ => rfl
  | x :: l, h => by rw [List.flatMap_cons, List.flatMap_cons, h x (by simp), flatMap_congr' fun y hy => h y (by simp [hy])]
/-- One pair, by the IDs. -/
noncomputable def pr (b : Bulbs) (x y : Int) : List (Int × Int) := if x < y then r3 b x y else []
theorem claL_perm {a : Bulbs × Int} (hb : CheckBulbs a.1 = 0) {i : Nat} (hi : first (p_rhydro a.1 a.2) (len a.1.hydros) = some i) :
    (claL a).Perm ((mineU a.1 a.2).flatMap (r1 a.1 i) ++ (mineU a.1 a.2).flatMap fun x => (mineU a.1 a.2).flatMap (pr a.1 x)) := by
  have hh : (hydro a).1 = hyd a.1.hydros i := by
    show (hydro (a.1, a.2)).1 = _
    rw [hydro_is, hi]
  unfold claL
  refine List.Perm.trans (l₂ := (glassesL a.1 a.2).flatMap fun g => r1 a.1 i g.g.id ++ (mineU a.1 a.2).flatMap (pr a.1 g.g.id)) (flatMap_perm fun g hg => ?_) ?_
  · unfold co1
    rw [hh]
    have e := glassesL_al hb hg
    refine List.Perm.append ?_ ?_
    · unfold r1
      rw [r_none_is, r_both_is, void_comm, e]
    · rw [← glassesL_ids, List.flatMap_map]
      refine flatMap_perm fun x hx => ?_
      have e2 := glassesL_al hb hx
      unfold ci1 ciP pr r3
      rw [r_none_is, r_both_is, e, e2]
      by_cases h : g.g.id < x.g.id
      · rw [if_pos h, decide_eq_true h, Bool.true_and]
      · rw [if_neg h, decide_eq_false h, Bool.false_and, if_neg (by decide)]
  · refine (flatMap_append_perm _ _ _).trans ?_
    rw [← glassesL_ids, List.flatMap_map, List.flatMap_map]
/-- The pairs of a list in increasing order. -/
theorem pr_sorted {b : Bulbs} {l : List Int} (h : l.Pairwise (· < ·)) {i : Nat} (hi : i < l.length) : l.flatMap (pr b (atI l i)) = r2 b l i := by
  have e := (List.take_append_drop (i + 1) l).symm
  have h1 : (l.take (i + 1)).flatMap (pr b (atI l i)) = [] := by
    rw [List.flatMap_eq_nil_iff]
    intro y hy
    obtain ⟨j, hj, e⟩ := List.mem_iff_getElem.1 hy
    rw [List.getElem_take] at e
    simp only [List.length_take] at hj
    unfold pr
    rw [if_neg]
    rw [atI_get hi, ← e]
    by_cases hji : j = i
    · subst hji; omega
    · have := (List.pairwise_iff_getElem.1 h) j i (by omega) hi (by omega); omega
  have h2 : (l.drop (i + 1)).flatMap (pr b (atI l i)) = (l.drop (i + 1)).flatMap (r3 b (atI l i)) := by
    refine flatMap_congr' fun y hy => ?_
    obtain ⟨j, hj, e⟩ := List.mem_iff_getElem.1 hy
    rw [List.getElem_drop] at e
    simp only [List.length_drop] at hj
    unfold pr
    rw [if_pos]
    rw [atI_get hi, ← e]
    exact (List.pairwise_iff_getElem.1 h) i (i + 1 + j) hi (by omega) (by omega)
  conv => lhs; arg 2; rw [e]
  rw [List.flatMap_append, h1, h2]; rfl
theorem range_flatMap {β : Type} (l : List Int) (f : Int → List β) : l.flatMap f = (List.range l.length).flatMap fun i => f (atI l i) := by
  have : l = (List.range l.length).map (atI l) := by
    apply List.ext_getElem (by simp)
    intro i h1 h2
    rw [List.getElem_map, List.getElem_range, atI_get h1]
  conv => lhs; rw [this]
  rw [List.flatMap_map]
theorem mine_lt {a : Bulbs × Int} (hb : CheckBulbs a.1 = 0) : (r_mine a).Pairwise (· < ·) := by
  have h1 : (r_mine a).Pairwise (· ≤ ·) := risL_sorted _
  have h2 : (r_mine a).Nodup := (risL_perm (mineU a.1 a.2)).nodup_iff.2 (mine_nodup hb a.2)
  exact (h1.and (List.nodup_iff_pairwise_ne.1 h2)).imp (fun {x y} h => by omega)
theorem claL_perm2 {a : Bulbs × Int} (hb : CheckBulbs a.1 = 0) {i : Nat} (hi : first (p_rhydro a.1 a.2) (len a.1.hydros) = some i) : (rclL a i).Perm (claL a) := by
  refine List.Perm.symm ((claL_perm hb hi).trans ?_)
  have hp : (mineU a.1 a.2).Perm (r_mine a) := (risL_perm _).symm
  unfold rclL
  refine List.Perm.append (hp.flatMap_right _) ?_
  refine (hp.flatMap_right _).trans ?_
  rw [range_flatMap (r_mine a)]
  refine flatMap_perm fun j hj => ?_
  rw [← pr_sorted (mine_lt hb) (List.mem_range.1 hj)]
  exact hp.flatMap_right _
theorem mine_pos {a : Bulbs × Int} (hb : CheckBulbs a.1 = 0) {x : Int} (h : x ∈ r_mine a) : 0 < x := by
  obtain ⟨k, hk, _, e⟩ := mine_mem ((risL_perm _).mem_iff.1 h)
  rw [← r_bulbs_is] at hb
  unfold r_bulbs at hb
  split at hb
  · cases hb
  split at hb
  · cases hb
  cases h1 : (List.range (len a.1.hydros)).findSome? (e_rc1 a.1) with
  | some e =>
    rw [h1] at hb
    have : e = 0 := hb
    obtain ⟨j, _, hj⟩ := List.exists_of_findSome?_eq_some h1
    exact absurd (by rw [hj, this]) (rc1_ne (b := a.1) (i := j))
  | none =>
    rw [h1] at hb
    cases h2 : (List.range (len a.1.glasses)).findSome? (e_rc2 a.1) with
    | some e =>
      rw [h2] at hb
      have : e = 0 := hb
      obtain ⟨j, _, hj⟩ := List.exists_of_findSome?_eq_some h2
      exact absurd (by rw [hj, this]) (rc2_ne (b := a.1) (i := j))
    | none =>
      have h3 := (List.findSome?_eq_none_iff.1 h2) k (List.mem_range.2 hk)
      unfold e_rc2 at h3
      split at h3
      · cases h3
      · rename_i hc
        rw [r_id_is] at hc
        unfold within at hc
        rw [e] at hc
        simp at hc
        omega
theorem rclL_sorted {a : Bulbs × Int} (hb : CheckBulbs a.1 = 0) (i : Nat) : (rclL a i).Pairwise fun x y => Go.Proofs.ltOf cmpP y x = false := by
  have hlt := mine_lt hb
  have key : ∀ x y : Int × Int, (x.1 < y.1 ∨ x.1 = y.1 ∧ x.2 < y.2) → Go.Proofs.ltOf cmpP y x = false := fun x y h => by rw [ltP]; simp; omega
  have hr1 : ∀ x z, z ∈ r1 a.1 i x → z = (0, x) := fun x z hz => by
    unfold r1 at hz
    split at hz
    · simpa using hz
    · cases hz
  have hr2 : ∀ j z, j < (r_mine a).length → z ∈ r2 a.1 (r_mine a) j → z.1 = atI (r_mine a) j ∧ ∃ y ∈ (r_mine a).drop (j + 1), z.2 = y := fun j z hj hz => by
    unfold r2 at hz
    obtain ⟨y, hy, hz⟩ := List.mem_flatMap.1 hz
    unfold r3 at hz
    split at hz
    · rw [List.mem_singleton] at hz; subst hz; exact ⟨rfl, y, hy, rfl⟩
    · cases hz
  unfold rclL
  rw [List.pairwise_append]
  refine ⟨?_, ?_, fun x hx y hy => ?_⟩
  · rw [List.pairwise_flatMap]
    refine ⟨fun x _ => ?_, hlt.imp fun {x y} h z hz w hw => ?_⟩
    · unfold r1; split <;> simp
    · rw [hr1 x z hz, hr1 y w hw]; exact key _ _ (.inr ⟨rfl, h⟩)
  · rw [List.pairwise_flatMap]
    refine ⟨fun j hj => ?_, List.Pairwise.imp_of_mem (fun {j k} hj hk h z hz w hw => ?_) (List.pairwise_lt_range)⟩
    · have hj := List.mem_range.1 hj
      unfold r2
      rw [List.pairwise_flatMap]
      refine ⟨fun y _ => ?_, (hlt.sublist (List.drop_sublist _ _)).imp fun {x y} h z hz w hw => ?_⟩
      · unfold r3; split <;> simp
      · unfold r3 at hz hw
        split at hz
        · split at hw
          · rw [List.mem_singleton] at hz hw; subst hz; subst hw; exact key _ _ (.inr ⟨rfl, h⟩)
          · cases hw
        · cases hz
    · have hj := List.mem_range.1 hj; have hk := List.mem_range.1 hk
      obtain ⟨e1, _⟩ := hr2 j z hj hz
      obtain ⟨e2, _⟩ := hr2 k w hk hw
      refine key _ _ (.inl ?_)
      rw [e1, e2, atI_get hj, atI_get hk]
      exact (List.pairwise_iff_getElem.1 hlt) j k hj hk h
  · obtain ⟨x0, hx0, hx⟩ := List.mem_flatMap.1 hx
    obtain ⟨j, hj, hy⟩ := List.mem_flatMap.1 hy
    have hj := List.mem_range.1 hj
    obtain ⟨e2, _⟩ := hr2 j y hj hy
    rw [hr1 x0 x hx]
    refine key _ _ (.inl ?_)
    rw [e2, atI_get hj]
    exact mine_pos hb (List.getElem_mem hj)
theorem cla_is (a : Bulbs × Int) : cla a = r_cla a := by
  unfold cla r_cla
  rw [r_bulbs_is]
  by_cases hb : CheckBulbs a.1 = 0
  · rw [if_neg (show ¬ (CheckBulbs a.1 != 0) = true by simp [hb]), if_neg (show ¬ (CheckBulbs a.1 != 0) = true by simp [hb])]
    have hh : (hydro a).2 = (first (p_rhydro a.1 a.2) (len a.1.hydros)).isSome := by
      show (hydro (a.1, a.2)).2 = _
      rw [hydro_is]
      cases first (p_rhydro a.1 a.2) (len a.1.hydros) <;> rfl
    rw [hh]
    cases hf : first (p_rhydro a.1 a.2) (len a.1.hydros) with
    | none => rfl
    | some i =>
      simp only [Option.isSome_some, Bool.not_true, Bool.false_eq_true, if_false]
      have : sortP (claL a) = rclL a i := sortF_unique swoP (claL_perm2 hb hf) (rclL_sorted hb i) (fun x _ y _ h1 h2 => by
        rw [ltP] at h1 h2
        simp only [decide_eq_false_iff_not] at h1 h2
        exact Prod.ext (by omega) (by omega))
      rw [this]
  · rw [if_pos (show (CheckBulbs a.1 != 0) = true by simp [hb]), if_pos (show (CheckBulbs a.1 != 0) = true by simp [hb])]
theorem blm_is (a : Bulbs × Int) : blm a = r_blm a := by
  unfold blm r_blm
  rw [r_bulbs_is]
  by_cases hb : CheckBulbs a.1 = 0
  · rw [if_neg (show ¬ (CheckBulbs a.1 != 0) = true by simp [hb]), if_neg (show ¬ (CheckBulbs a.1 != 0) = true by simp [hb])]
    have hh : hydro a = match first (p_rhydro a.1 a.2) (len a.1.hydros) with | some i => (hyd a.1.hydros i, true) | none => (⟨0, ⟨0, 0⟩⟩, false) := hydro_is a.1 a.2
    cases hf : first (p_rhydro a.1 a.2) (len a.1.hydros) with
    | none => rw [hf] at hh; rw [hh]; rfl
    | some i =>
      rw [hf] at hh
      simp only
      rw [hh, r_none_is, r_off_is]
      simp only [Bool.not_true, Bool.false_eq_true, if_false]
      have : sortL (blmL a) = (r_mine a).filter (rblP a.1 i) := by
        refine sorted_eq (sortL_sorted _) ((risL_sorted _).filter _) ((sortL_perm _).trans ?_)
        refine List.Perm.trans ?_ ((risL_perm (mineU a.1 a.2)).symm.filter _)
        unfold blmL
        rw [hh, ← glassesL_ids, List.filter_map]
        simp only
        generalize glassesL a.1 a.2 = G
        have e : ∀ G : List GlassE, G.flatMap (blm1 a.1 (hyd a.1.hydros i)) = (G.filter (rblP a.1 i ∘ fun g => g.g.id)).map fun g => g.g.id := by
          intro G
          induction G with
          | nil => rfl
          | cons g G ih =>
            rw [List.flatMap_cons, ih]
            have e1 : (rblP a.1 i ∘ fun g : GlassE => g.g.id) g = !void (errs a.1 (hyd a.1.hydros i) g.g.id) := by
              show rblP a.1 i g.g.id = _
              unfold rblP
              rw [r_none_is, r_off_is]
            unfold blm1
            cases hc : void (errs a.1 (hyd a.1.hydros i) g.g.id) with
            | true => rw [List.filter_cons_of_neg (by rw [e1, hc]; decide)]; rfl
            | false => rw [List.filter_cons_of_pos (by rw [e1, hc]; decide)]; rfl
        rw [e]
      rw [this]
  · rw [if_pos (show (CheckBulbs a.1 != 0) = true by simp [hb]), if_pos (show (CheckBulbs a.1 != 0) = true by simp [hb])]
end K
end Go.Proofs.YtjbhooodjmjdkaaGreat
/-! KBla -/
namespace Go.Proofs.YtjbhooodjmjdkaaGreat
open Ev K
set_option maxRecDepth 100000
namespace K
theorem few_le {b : Bulbs} (h : few b = true) : len b.glasses ≤ 60 := by
  unfold few at h
  split at h
  · have := of_decide_eq_true h; omega
  · cases h
theorem L_lb_eq (c : Bool) (l : List (Int × Int)) (n q : List Int) (e : Int) (hl : l.length ≤ 1000000) : L_lb ((c, l, l, n, 0), (q, e), ()) = some (.inr ((c, n, ()), (q, e), ())) := by
  have hc : clampL l.length = l.length := clampL_eq (by unfold maxL; omega)
  have e0 : (decF rPair l.length fun i => encF rPair l i) = l := decF_encF rPair l
  have e1 : ∀ q : List Int, (decF rInt q.length fun i => encF rInt q i) = q := fun q => decF_encF rInt q
  refine lim_all (step := st_lb) (fun i => ((c, l, l, n, (i : Int)), (q, e), ())) l.length (fun i hi => ?_) ?_
  · rw [sl_lb]
    simp only [T.run_br, T.run_chk, T.run_ret, decide_eq_true_eq, Int.toNat_natCast, hc, Nat.zero_add, e0, e1, beq_self_eq_true, Bool.and_self, Bool.not_true, Bool.false_eq_true, if_false]
    rw [if_pos (by omega), if_pos (by omega), if_pos (by omega), w64_in (n := (i : Int) + 1) (by omega) (by omega)]; rfl
  · rw [sl_lb]
    simp only [T.run_br, T.run_ret, decide_eq_true_eq, hc, Nat.zero_add, e1]
    rw [if_neg (by omega)]
theorem cla_le (a : Bulbs × Int) : (cla a).1.length ≤ 1640 := by
  unfold cla
  split
  · simp
  split
  · simp
  · rename_i h _
    have hf := (bulbs_few (b := a.1) (by simpa using h)).2
    have h1 := glassesL_length a.1 a.2
    have h2 : (claL a).length ≤ _ := claL_le a (glassesL a.1 a.2)
    have h3 : (glassesL a.1 a.2).length * (1 + (glassesL a.1 a.2).length) ≤ 40 * 41 := Nat.mul_le_mul (by omega) (by omega)
    show (sortP (claL a)).length ≤ 1640
    rw [show (sortP (claL a)).length = (claL a).length from sortF_length swoP _]; omega
theorem blm_le (a : Bulbs × Int) : (blm a).1.length ≤ 40 := by
  unfold blm
  split
  · simp
  split
  · simp
  split
  · simp
  · rename_i h _ _
    have hf := (bulbs_few (b := a.1) (by simpa using h)).2
    have h1 := glassesL_length a.1 a.2
    have h2 := blmL_length a
    show (sortL (blmL a)).length ≤ 40
    rw [sortL_length]; omega
def lawT {α : Type} (_ : α) : Bool := true
theorem lawBulbs_eq (a : Bulbs × Int) : callT1 P BKBl81 30 6 D_off dB a = some (lawT a) := by
  have hn : ∀ n : Int, (n != n) = false := fun n => by simp
  have h1 := cla_le a; have h2 := blm_le a
  rw [fn_lb, ← cla_is, ← blm_is, r_bulbs_is]
  simp only [decF_enc0]
  rw [T.run_br]
  split
  · rfl
  rename_i hf
  have hf := few_le (b := a.1) (by simpa using hf)
  have tail : ∀ (f : _ → T Bool), T.run (f ((true, (blm a).1, ()), ((blm a).1, (blm a).2), ())) = some true → T.run (.obs (L_lb ((true, (cla a).1, (cla a).1, (blm a).1, 0), ((blm a).1, (blm a).2), ())) fun x0 => .sum x0 (fun x1 => .ret x1) f) = some true := by
    intro f h
    rw [L_lb_eq _ _ _ _ _ (by omega), T.run_some]
    exact h
  have key : ∀ (o p : Bool) (t : T Bool), o = false → p = false → t.run = some true → T.run (.br o (.ret false) (.br p (.ret false) t)) = some true := by
    intro o p t h1 h2 h3; subst h1; subst h2; exact h3
  have one : ∀ (o : Bool) (t : T Bool), o = false → t.run = some true → T.run (.br o (.ret false) t) = some true := by
    intro o t h1 h3; subst h1; exact h3
  have last : T.run (.chk (decide ((blm a).1.length ≤ 1000000)) (.chk (decide ((blm a).1.length ≤ 1000000)) (.br true (.ret (sameL ((blm a).1, (blm a).1))) (.ret false)))) = some true := by
    refine chk_step (decide_eq_true (by omega)) (chk_step (decide_eq_true (by omega)) ?_)
    show some (sameL ((blm a).1, (blm a).1)) = some true
    unfold sameL; simp
  rw [T.run_br]
  split
  · rename_i hb
    have hr : r_Off a = (⟨0, 0⟩, CheckBulbs a.1) := by
      unfold r_Off
      rw [r_bulbs_is, if_pos hb]
    rw [hr]
    refine chk_step (decide_eq_true (by omega)) (chk_step (decide_eq_true (by omega)) (one _ _ (hn _) (key _ _ _ (by simp) (hn _) (key _ _ _ (hn _) (hn _) (one _ _ (hn _) (tail _ last))))))
  · rename_i hb
    have hr : r_Off a = off a := r_Off_is (b := a.1) (by simpa using hb) a.2
    rw [hr]
    refine chk_step (decide_eq_true (by omega)) (chk_step (decide_eq_true (by omega)) (one _ _ (hn _) (key _ _ _ (by simp) (hn _) (key _ _ _ (hn _) (hn _) (one _ _ (hn _) (tail _ last))))))
theorem lawT_true {α : Type} (a : α) : lawT a = true := rfl
end K
end Go.Proofs.YtjbhooodjmjdkaaGreat
/-! KHy1 -/
namespace Go.Proofs.YtjbhooodjmjdkaaGreat
open Ev K
set_option maxRecDepth 100000
def lH3 : DecB (Bulbs × Span × List (Int × Bool) × Unit) := .flat 31 lBulbs (.flat 39 lSpan (.maps 77 false rIntB .nil))
def S_h1 := DecS.mk0 (.skip (.cons (dI .i64) (.cons (dI .i64) (.unit (dLp 0 0 0 0) (.skips 3 (.cons dB (.unit (dLp 1 0 0 0) (.cons (dI .i64) (.cons (dRows rPair) (.skip (.cons (dRows rInt) (.skip (.unit (dMp 2) (.last (dI .i64) 168)))))))))))))) lH3
def X_h1 := DecX.one (.exit 0) [10, 2, 8, 9, 14, 1, 3, 7] (DecS.mk0 (.skip (.cons (dI .i64) (.cons (dI .i64) (.unit (dLp 0 0 0 0) (.skips 3 (.cons dB (.unit (dLp 1 0 0 0) (.cons (dI .i64) (.cons (dRows rPair) (.skips 3 (.unit (dMp 2) (.tops 169)))))))))))) lH3)
noncomputable def K.st_h1 := loopT1 P BKBl81 30 7 105 [15, 12, 14, 10, 2, 8, 9, 1, 3, 7] S_h1 X_h1
theorem sl_h1 : ∀ s, (K.st_h1) s = T.run (
  .br (decide (Prod.snd (Prod.snd (Prod.snd (Prod.snd (Prod.snd (Prod.snd (Prod.fst s)))))) < (↑(clampL (List.length (Prod.fst (Prod.snd (Prod.snd (Prod.snd (Prod.snd (Prod.snd (Prod.fst s))))))))) : Int))) (
    .chk (decide ((0 : Int) ≤ Prod.snd (Prod.snd (Prod.snd (Prod.snd (Prod.snd (Prod.snd (Prod.fst s)))))) ∧ Prod.snd (Prod.snd (Prod.snd (Prod.snd (Prod.snd (Prod.snd (Prod.fst s)))))) < (↑(List.length (Prod.fst (Prod.snd (Prod.snd (Prod.snd (Prod.snd (Prod.snd (Prod.fst s)))))))) : Int))) <|
    .ret (Sum.inl ((Prod.fst (Prod.fst s), Prod.fst (Prod.snd (Prod.fst s)), Prod.fst (Prod.snd (Prod.snd (Prod.fst s))), Prod.fst (Prod.snd (Prod.snd (Prod.snd (Prod.fst s)))), decF rPair (List.length (Prod.fst (Prod.snd (Prod.snd (Prod.snd (Prod.snd (Prod.fst s))))))) fun i => encF rPair (Prod.fst (Prod.snd (Prod.snd (Prod.snd (Prod.snd (Prod.fst s)))))) ((0 : Nat) + i), decF rInt (List.length (Prod.fst (Prod.snd (Prod.snd (Prod.snd (Prod.snd (Prod.snd (Prod.fst s)))))))) fun i => encF rInt (Prod.fst (Prod.snd (Prod.snd (Prod.snd (Prod.snd (Prod.snd (Prod.fst s))))))) ((0 : Nat) + i), IntKind.wrap IntKind.i64 (Prod.snd (Prod.snd (Prod.snd (Prod.snd (Prod.snd (Prod.snd (Prod.fst s)))))) + (1 : Int))), Prod.fst (Prod.snd s), Prod.fst (Prod.snd (Prod.snd s)), decF rIntB (mputN (mfind (Get.mk [CK.int IntKind.i64, CK.bool] (encF rIntB (Prod.fst (Prod.snd (Prod.snd (Prod.snd s)))))) (AV.int IntKind.i64 (numOf (encF rInt (Prod.fst (Prod.snd (Prod.snd (Prod.snd (Prod.snd (Prod.snd (Prod.fst s))))))) ((0 : Nat) + Int.toNat (Prod.snd (Prod.snd (Prod.snd (Prod.snd (Prod.snd (Prod.snd (Prod.fst s)))))))) (0 : Nat)))) (List.length (Prod.fst (Prod.snd (Prod.snd (Prod.snd s)))))) (List.length (Prod.fst (Prod.snd (Prod.snd (Prod.snd s)))))) (Get.f (mputG (Get.mk [CK.int IntKind.i64, CK.bool] (encF rIntB (Prod.fst (Prod.snd (Prod.snd (Prod.snd s)))))) (mputP (mfind (Get.mk [CK.int IntKind.i64, CK.bool] (encF rIntB (Prod.fst (Prod.snd (Prod.snd (Prod.snd s)))))) (AV.int IntKind.i64 (numOf (encF rInt (Prod.fst (Prod.snd (Prod.snd (Prod.snd (Prod.snd (Prod.snd (Prod.fst s))))))) ((0 : Nat) + Int.toNat (Prod.snd (Prod.snd (Prod.snd (Prod.snd (Prod.snd (Prod.snd (Prod.fst s)))))))) (0 : Nat)))) (List.length (Prod.fst (Prod.snd (Prod.snd (Prod.snd s)))))) (List.length (Prod.fst (Prod.snd (Prod.snd (Prod.snd s)))))) [AV.int IntKind.i64 (numOf (encF rInt (Prod.fst (Prod.snd (Prod.snd (Prod.snd (Prod.snd (Prod.snd (Prod.fst s))))))) ((0 : Nat) + Int.toNat (Prod.snd (Prod.snd (Prod.snd (Prod.snd (Prod.snd (Prod.snd (Prod.fst s)))))))) (0 : Nat))), AV.bool true])), PUnit.unit))) (
    .ret (Sum.inr ((Prod.fst (Prod.fst s), Prod.fst (Prod.snd (Prod.fst s)), Prod.fst (Prod.snd (Prod.snd (Prod.fst s))), Prod.fst (Prod.snd (Prod.snd (Prod.snd (Prod.fst s)))), decF rPair (List.length (Prod.fst (Prod.snd (Prod.snd (Prod.snd (Prod.snd (Prod.fst s))))))) fun i => encF rPair (Prod.fst (Prod.snd (Prod.snd (Prod.snd (Prod.snd (Prod.fst s)))))) ((0 : Nat) + i), PUnit.unit), Prod.fst (Prod.snd s), Prod.fst (Prod.snd (Prod.snd s)), decF rIntB (List.length (Prod.fst (Prod.snd (Prod.snd (Prod.snd s))))) (encF rIntB (Prod.fst (Prod.snd (Prod.snd (Prod.snd s))))), PUnit.unit)))) := fun s => by kernel_rfl
noncomputable def K.L_h1 := lim K.st_h1
noncomputable def BKHy11 : Tab := BKBl81.addNode 7 105 (nodeE [15, 12, 14, 10, 2, 8, 9, 1, 3, 7] S_h1 X_h1 (fun s => .obs (K.L_h1 s) .ret))
theorem tKHy11 : TabOk P BKHy11 := TabOk.addLoop (d := 30) okP tKBl81 (by kernel_rfl) (by kernel_rfl) (fun s r h => obs_ret h)
def lH4 : DecB (Bulbs × Span × List (Int × Bool) × Glass × Unit) := .flat 31 lBulbs (.flat 39 lSpan (.maps 77 false rIntB (.flat 79 lGlass .nil)))
def S_h3 := DecS.mk0 (.skip (.cons (dI .i64) (.cons (dI .i64) (.unit (dLp 0 0 0 0) (.skips 3 (.cons dB (.unit (dLp 1 0 0 0) (.cons (dI .i64) (.cons (dRows rPair) (.skips 3 (.unit (dMp 2) (.skip (.cons (dI .i64) (.unit (dLp 3 0 0 0) (.cons dB (.last (dI .i64) 164)))))))))))))))) lH4
def X_h3 := DecX.one (.exit 4) [18, 17, 10, 2, 8, 9, 14, 1, 3, 7, 16] (DecS.mk0 (.skip (.cons (dI .i64) (.cons (dI .i64) (.unit (dLp 0 0 0 0) (.skips 3 (.cons dB (.unit (dLp 1 0 0 0) (.cons (dI .i64) (.cons (dRows rPair) (.skips 3 (.unit (dMp 2) (.skip (.cons (dI .i64) (.unit (dLp 3 0 0 0) (.last dB 165))))))))))))))) lH4)
noncomputable def K.st_h3 := loopT1 P BKHy11 30 7 185 [19, 17, 10, 18, 2, 8, 9, 14, 1, 3, 7, 16] S_h3 X_h3
theorem sl_h3 : ∀ s, (K.st_h3) s = T.run (
  .br (decide (Prod.snd (Prod.snd (Prod.snd (Prod.snd (Prod.snd (Prod.snd (Prod.snd (Prod.fst s))))))) < (↑(clampL (List.length (Prod.fst (Prod.snd (Prod.snd (Prod.snd (Prod.snd (Prod.fst s)))))))) : Int))) (
    .br (Prod.fst (Prod.snd (Prod.snd (Prod.snd (Prod.snd (Prod.snd (Prod.snd (Prod.fst s)))))))) (
      .chk (decide ((0 : Int) ≤ Prod.snd (Prod.snd (Prod.snd (Prod.snd (Prod.snd (Prod.snd (Prod.snd (Prod.fst s))))))) ∧ Prod.snd (Prod.snd (Prod.snd (Prod.snd (Prod.snd (Prod.snd (Prod.snd (Prod.fst s))))))) < (↑(List.length (Prod.fst (Prod.snd (Prod.snd (Prod.snd (Prod.snd (Prod.fst s))))))) : Int))) <|
      .br (numOf (encF rPair (Prod.fst (Prod.snd (Prod.snd (Prod.snd (Prod.snd (Prod.fst s)))))) ((0 : Nat) + Int.toNat (Prod.snd (Prod.snd (Prod.snd (Prod.snd (Prod.snd (Prod.snd (Prod.snd (Prod.fst s))))))))) (nat_lit 0)) == Glass.id (Prod.fst (Prod.snd (Prod.snd (Prod.snd (Prod.snd s)))))) (
        .ret (Sum.inl ((Prod.fst (Prod.fst s), Prod.fst (Prod.snd (Prod.fst s)), Prod.fst (Prod.snd (Prod.snd (Prod.fst s))), Prod.fst (Prod.snd (Prod.snd (Prod.snd (Prod.fst s)))), decF rPair (List.length (Prod.fst (Prod.snd (Prod.snd (Prod.snd (Prod.snd (Prod.fst s))))))) fun i => encF rPair (Prod.fst (Prod.snd (Prod.snd (Prod.snd (Prod.snd (Prod.fst s)))))) ((0 : Nat) + i), Prod.fst (Prod.snd (Prod.snd (Prod.snd (Prod.snd (Prod.snd (Prod.fst s)))))), true, IntKind.wrap IntKind.i64 (Prod.snd (Prod.snd (Prod.snd (Prod.snd (Prod.snd (Prod.snd (Prod.snd (Prod.fst s))))))) + (1 : Int))), Prod.fst (Prod.snd s), Prod.fst (Prod.snd (Prod.snd s)), decF rIntB (List.length (Prod.fst (Prod.snd (Prod.snd (Prod.snd s))))) (encF rIntB (Prod.fst (Prod.snd (Prod.snd (Prod.snd s))))), Prod.fst (Prod.snd (Prod.snd (Prod.snd (Prod.snd s)))), PUnit.unit))) (
        .chk (decide ((0 : Int) ≤ Prod.snd (Prod.snd (Prod.snd (Prod.snd (Prod.snd (Prod.snd (Prod.snd (Prod.fst s))))))) ∧ Prod.snd (Prod.snd (Prod.snd (Prod.snd (Prod.snd (Prod.snd (Prod.snd (Prod.fst s))))))) < (↑(List.length (Prod.fst (Prod.snd (Prod.snd (Prod.snd (Prod.snd (Prod.fst s))))))) : Int))) <|
        .ret (Sum.inl ((Prod.fst (Prod.fst s), Prod.fst (Prod.snd (Prod.fst s)), Prod.fst (Prod.snd (Prod.snd (Prod.fst s))), Prod.fst (Prod.snd (Prod.snd (Prod.snd (Prod.fst s)))), decF rPair (List.length (Prod.fst (Prod.snd (Prod.snd (Prod.snd (Prod.snd (Prod.fst s))))))) fun i => encF rPair (Prod.fst (Prod.snd (Prod.snd (Prod.snd (Prod.snd (Prod.fst s)))))) ((0 : Nat) + i), Prod.fst (Prod.snd (Prod.snd (Prod.snd (Prod.snd (Prod.snd (Prod.fst s)))))), numOf (encF rPair (Prod.fst (Prod.snd (Prod.snd (Prod.snd (Prod.snd (Prod.fst s)))))) ((0 : Nat) + Int.toNat (Prod.snd (Prod.snd (Prod.snd (Prod.snd (Prod.snd (Prod.snd (Prod.snd (Prod.fst s))))))))) (nat_lit 1)) == Glass.id (Prod.fst (Prod.snd (Prod.snd (Prod.snd (Prod.snd s))))), IntKind.wrap IntKind.i64 (Prod.snd (Prod.snd (Prod.snd (Prod.snd (Prod.snd (Prod.snd (Prod.snd (Prod.fst s))))))) + (1 : Int))), Prod.fst (Prod.snd s), Prod.fst (Prod.snd (Prod.snd s)), decF rIntB (List.length (Prod.fst (Prod.snd (Prod.snd (Prod.snd s))))) (encF rIntB (Prod.fst (Prod.snd (Prod.snd (Prod.snd s))))), Prod.fst (Prod.snd (Prod.snd (Prod.snd (Prod.snd s)))), PUnit.unit)))) (
      .ret (Sum.inl ((Prod.fst (Prod.fst s), Prod.fst (Prod.snd (Prod.fst s)), Prod.fst (Prod.snd (Prod.snd (Prod.fst s))), Prod.fst (Prod.snd (Prod.snd (Prod.snd (Prod.fst s)))), decF rPair (List.length (Prod.fst (Prod.snd (Prod.snd (Prod.snd (Prod.snd (Prod.fst s))))))) fun i => encF rPair (Prod.fst (Prod.snd (Prod.snd (Prod.snd (Prod.snd (Prod.fst s)))))) ((0 : Nat) + i), Prod.fst (Prod.snd (Prod.snd (Prod.snd (Prod.snd (Prod.snd (Prod.fst s)))))), false, IntKind.wrap IntKind.i64 (Prod.snd (Prod.snd (Prod.snd (Prod.snd (Prod.snd (Prod.snd (Prod.snd (Prod.fst s))))))) + (1 : Int))), Prod.fst (Prod.snd s), Prod.fst (Prod.snd (Prod.snd s)), decF rIntB (List.length (Prod.fst (Prod.snd (Prod.snd (Prod.snd s))))) (encF rIntB (Prod.fst (Prod.snd (Prod.snd (Prod.snd s))))), Prod.fst (Prod.snd (Prod.snd (Prod.snd (Prod.snd s)))), PUnit.unit)))) (
    .ret (Sum.inr ((Prod.fst (Prod.fst s), Prod.fst (Prod.snd (Prod.fst s)), Prod.fst (Prod.snd (Prod.snd (Prod.fst s))), Prod.fst (Prod.snd (Prod.snd (Prod.snd (Prod.fst s)))), decF rPair (List.length (Prod.fst (Prod.snd (Prod.snd (Prod.snd (Prod.snd (Prod.fst s))))))) fun i => encF rPair (Prod.fst (Prod.snd (Prod.snd (Prod.snd (Prod.snd (Prod.fst s)))))) ((0 : Nat) + i), Prod.fst (Prod.snd (Prod.snd (Prod.snd (Prod.snd (Prod.snd (Prod.fst s)))))), Prod.fst (Prod.snd (Prod.snd (Prod.snd (Prod.snd (Prod.snd (Prod.snd (Prod.fst s)))))))), Prod.fst (Prod.snd s), Prod.fst (Prod.snd (Prod.snd s)), decF rIntB (List.length (Prod.fst (Prod.snd (Prod.snd (Prod.snd s))))) (encF rIntB (Prod.fst (Prod.snd (Prod.snd (Prod.snd s))))), Prod.fst (Prod.snd (Prod.snd (Prod.snd (Prod.snd s)))), PUnit.unit)))) := fun s => by kernel_rfl
noncomputable def K.L_h3 := lim K.st_h3
noncomputable def BKHy12 : Tab := BKHy11.addNode 7 185 (nodeE [19, 17, 10, 18, 2, 8, 9, 14, 1, 3, 7, 16] S_h3 X_h3 (fun s => .obs (K.L_h3 s) .ret))
theorem tKHy12 : TabOk P BKHy12 := TabOk.addLoop (d := 30) okP tKHy11 (by kernel_rfl) (by kernel_rfl) (fun s r h => obs_ret h)
def S_h2 := DecS.mk0 (.skip (.cons (dI .i64) (.cons (dI .i64) (.unit (dLp 0 0 0 0) (.skips 3 (.cons dB (.unit (dLp 1 0 0 0) (.cons (dI .i64) (.cons (dRows rPair) (.skips 3 (.unit (dMp 2) (.skip (.last (dI .i64) 167))))))))))))) lH3
def X_h2 := DecX.or (DecX.one .ret [6] (DecS.mk1 (.skips 6 (.last dB 177)))) (DecX.one (.exit 2) [7] (DecS.mk1 (.skips 7 (.last dB 176))))
noncomputable def K.st_h2 := loopT1 P BKHy12 30 7 137 [16, 10, 2, 8, 9, 14, 1, 3, 7] S_h2 X_h2
theorem sl_h2 : ∀ s, (K.st_h2) s = T.run (
  .br (decide (Prod.snd (Prod.snd (Prod.snd (Prod.snd (Prod.snd (Prod.fst s))))) < (↑(len (Bulbs.glasses (Prod.fst (Prod.snd s)))) : Int))) (
    .chk (decide ((0 : Int) ≤ Prod.snd (Prod.snd (Prod.snd (Prod.snd (Prod.snd (Prod.fst s))))) ∧ Prod.snd (Prod.snd (Prod.snd (Prod.snd (Prod.snd (Prod.fst s))))) < (↑(XS.len (Bulbs.glasses (Prod.fst (Prod.snd s)))) : Int))) <|
    .br (XS.g (Bulbs.glasses (Prod.fst (Prod.snd s))) (Int.toNat (Prod.snd (Prod.snd (Prod.snd (Prod.snd (Prod.snd (Prod.fst s))))))) (1 : Nat) != Prod.fst (Prod.fst s)) (
      .ret (Sum.inl ((Prod.fst (Prod.fst s), Prod.fst (Prod.snd (Prod.fst s)), Prod.fst (Prod.snd (Prod.snd (Prod.fst s))), Prod.fst (Prod.snd (Prod.snd (Prod.snd (Prod.fst s)))), decF rPair (List.length (Prod.fst (Prod.snd (Prod.snd (Prod.snd (Prod.snd (Prod.fst s))))))) fun i => encF rPair (Prod.fst (Prod.snd (Prod.snd (Prod.snd (Prod.snd (Prod.fst s)))))) ((0 : Nat) + i), IntKind.wrap IntKind.i64 (Prod.snd (Prod.snd (Prod.snd (Prod.snd (Prod.snd (Prod.fst s))))) + (1 : Int))), Prod.fst (Prod.snd s), Prod.fst (Prod.snd (Prod.snd s)), decF rIntB (List.length (Prod.fst (Prod.snd (Prod.snd (Prod.snd s))))) (encF rIntB (Prod.fst (Prod.snd (Prod.snd (Prod.snd s))))), PUnit.unit))) (
      .obs (L_h3 ((Prod.fst (Prod.fst s), Prod.fst (Prod.snd (Prod.fst s)), Prod.fst (Prod.snd (Prod.snd (Prod.fst s))), Prod.fst (Prod.snd (Prod.snd (Prod.snd (Prod.fst s)))), decF rPair (List.length (Prod.fst (Prod.snd (Prod.snd (Prod.snd (Prod.snd (Prod.fst s))))))) fun i => encF rPair (Prod.fst (Prod.snd (Prod.snd (Prod.snd (Prod.snd (Prod.fst s)))))) ((0 : Nat) + i), Prod.snd (Prod.snd (Prod.snd (Prod.snd (Prod.snd (Prod.fst s))))), decide ((↑(clampL (List.length (Prod.fst (Prod.snd (Prod.snd (Prod.snd (Prod.snd (Prod.fst s)))))))) : Int) > (0 : Int)), (0 : Int)), Prod.fst (Prod.snd s), Prod.fst (Prod.snd (Prod.snd s)), decF rIntB (List.length (Prod.fst (Prod.snd (Prod.snd (Prod.snd s))))) (encF rIntB (Prod.fst (Prod.snd (Prod.snd (Prod.snd s))))), gls (Bulbs.glasses (Prod.fst (Prod.snd s))) (Int.toNat (Prod.snd (Prod.snd (Prod.snd (Prod.snd (Prod.snd (Prod.fst s))))))), PUnit.unit)) fun x0 =>
        .br (!Prod.snd (Prod.snd (Prod.snd (Prod.snd (Prod.snd (Prod.snd (Prod.fst x0)))))) == truthOf (mraw (Get.mk [CK.int IntKind.i64, CK.bool] (encF rIntB (Prod.fst (Prod.snd (Prod.snd (Prod.snd x0)))))) (mfind (Get.mk [CK.int IntKind.i64, CK.bool] (encF rIntB (Prod.fst (Prod.snd (Prod.snd (Prod.snd x0)))))) (AV.int IntKind.i64 (Glass.id (Prod.fst (Prod.snd (Prod.snd (Prod.snd (Prod.snd x0))))))) (List.length (Prod.fst (Prod.snd (Prod.snd (Prod.snd x0)))))) (AV.bool false) (1 : Nat))) (
          .ret (Sum.inr (Sum.inl false))) (
          .br (Prod.fst (Prod.snd (Prod.snd (Prod.snd (Prod.fst x0)))) == (0 : Int)) (
            .br (decide (Prod.fst (Prod.snd (Prod.fst x0)) ≥ Span.lo (Prod.fst (Prod.snd (Prod.snd x0))))) (
              .br (decide (Prod.fst (Prod.snd (Prod.fst x0)) ≤ Span.hi (Prod.fst (Prod.snd (Prod.snd x0))))) (
                .br (decide (IntKind.wrap IntKind.i64 (Glass.dense (Prod.fst (Prod.snd (Prod.snd (Prod.snd (Prod.snd x0))))) + Prod.fst (Prod.snd (Prod.fst x0))) < Span.lo (Glass.shown (Prod.fst (Prod.snd (Prod.snd (Prod.snd (Prod.snd x0)))))))) (
                  .ret (Sum.inr (Sum.inl false))) (
                  .br (decide (IntKind.wrap IntKind.i64 (Glass.dense (Prod.fst (Prod.snd (Prod.snd (Prod.snd (Prod.snd x0))))) + Prod.fst (Prod.snd (Prod.fst x0))) > Span.hi (Glass.shown (Prod.fst (Prod.snd (Prod.snd (Prod.snd (Prod.snd x0)))))))) (
                    .ret (Sum.inr (Sum.inl false))) (
                    .ret (Sum.inl ((Prod.fst (Prod.fst x0), Prod.fst (Prod.snd (Prod.fst x0)), Prod.fst (Prod.snd (Prod.snd (Prod.fst x0))), Prod.fst (Prod.snd (Prod.snd (Prod.snd (Prod.fst x0)))), decF rPair (List.length (Prod.fst (Prod.snd (Prod.snd (Prod.snd (Prod.snd (Prod.fst x0))))))) fun i => encF rPair (Prod.fst (Prod.snd (Prod.snd (Prod.snd (Prod.snd (Prod.fst x0)))))) ((0 : Nat) + i), IntKind.wrap IntKind.i64 (Prod.fst (Prod.snd (Prod.snd (Prod.snd (Prod.snd (Prod.snd (Prod.fst x0)))))) + (1 : Int))), Prod.fst (Prod.snd x0), Prod.fst (Prod.snd (Prod.snd x0)), decF rIntB (List.length (Prod.fst (Prod.snd (Prod.snd (Prod.snd x0))))) (encF rIntB (Prod.fst (Prod.snd (Prod.snd (Prod.snd x0))))), PUnit.unit))))) (
                .ret (Sum.inl ((Prod.fst (Prod.fst x0), Prod.fst (Prod.snd (Prod.fst x0)), Prod.fst (Prod.snd (Prod.snd (Prod.fst x0))), Prod.fst (Prod.snd (Prod.snd (Prod.snd (Prod.fst x0)))), decF rPair (List.length (Prod.fst (Prod.snd (Prod.snd (Prod.snd (Prod.snd (Prod.fst x0))))))) fun i => encF rPair (Prod.fst (Prod.snd (Prod.snd (Prod.snd (Prod.snd (Prod.fst x0)))))) ((0 : Nat) + i), IntKind.wrap IntKind.i64 (Prod.fst (Prod.snd (Prod.snd (Prod.snd (Prod.snd (Prod.snd (Prod.fst x0)))))) + (1 : Int))), Prod.fst (Prod.snd x0), Prod.fst (Prod.snd (Prod.snd x0)), decF rIntB (List.length (Prod.fst (Prod.snd (Prod.snd (Prod.snd x0))))) (encF rIntB (Prod.fst (Prod.snd (Prod.snd (Prod.snd x0))))), PUnit.unit)))) (
              .ret (Sum.inl ((Prod.fst (Prod.fst x0), Prod.fst (Prod.snd (Prod.fst x0)), Prod.fst (Prod.snd (Prod.snd (Prod.fst x0))), Prod.fst (Prod.snd (Prod.snd (Prod.snd (Prod.fst x0)))), decF rPair (List.length (Prod.fst (Prod.snd (Prod.snd (Prod.snd (Prod.snd (Prod.fst x0))))))) fun i => encF rPair (Prod.fst (Prod.snd (Prod.snd (Prod.snd (Prod.snd (Prod.fst x0)))))) ((0 : Nat) + i), IntKind.wrap IntKind.i64 (Prod.fst (Prod.snd (Prod.snd (Prod.snd (Prod.snd (Prod.snd (Prod.fst x0)))))) + (1 : Int))), Prod.fst (Prod.snd x0), Prod.fst (Prod.snd (Prod.snd x0)), decF rIntB (List.length (Prod.fst (Prod.snd (Prod.snd (Prod.snd x0))))) (encF rIntB (Prod.fst (Prod.snd (Prod.snd (Prod.snd x0))))), PUnit.unit)))) (
            .ret (Sum.inl ((Prod.fst (Prod.fst x0), Prod.fst (Prod.snd (Prod.fst x0)), Prod.fst (Prod.snd (Prod.snd (Prod.fst x0))), Prod.fst (Prod.snd (Prod.snd (Prod.snd (Prod.fst x0)))), decF rPair (List.length (Prod.fst (Prod.snd (Prod.snd (Prod.snd (Prod.snd (Prod.fst x0))))))) fun i => encF rPair (Prod.fst (Prod.snd (Prod.snd (Prod.snd (Prod.snd (Prod.fst x0)))))) ((0 : Nat) + i), IntKind.wrap IntKind.i64 (Prod.fst (Prod.snd (Prod.snd (Prod.snd (Prod.snd (Prod.snd (Prod.fst x0)))))) + (1 : Int))), Prod.fst (Prod.snd x0), Prod.fst (Prod.snd (Prod.snd x0)), decF rIntB (List.length (Prod.fst (Prod.snd (Prod.snd (Prod.snd x0))))) (encF rIntB (Prod.fst (Prod.snd (Prod.snd (Prod.snd x0))))), PUnit.unit)))))) (
    .ret (Sum.inr (Sum.inr (Prod.fst (Prod.snd (Prod.snd (Prod.fst s)))))))) := fun s => by kernel_rfl
noncomputable def K.L_h2 := lim K.st_h2
noncomputable def BKHy13 : Tab := BKHy12.addNode 7 137 (nodeE [16, 10, 2, 8, 9, 14, 1, 3, 7] S_h2 X_h2 (fun s => .obs (K.L_h2 s) .ret))
theorem tKHy13 : TabOk P BKHy13 := TabOk.addLoop (d := 30) okP tKHy12 (by kernel_rfl) (by kernel_rfl) (fun s r h => obs_ret h)
end Go.Proofs.YtjbhooodjmjdkaaGreat
/-! KHy2 -/
namespace Go.Proofs.YtjbhooodjmjdkaaGreat
open Ev K
set_option maxRecDepth 100000
namespace K
/-- A number is put into a map as true. -/
def putB (M : List (Int × Bool)) (x : Int) : List (Int × Bool) := match M.findIdx? fun a => x == a.1 with
  | some i => M.set i (x, true)
  | none => M ++ [(x, true)]
theorem find_B (M : List (Int × Bool)) (x : Int) : mfind ⟨[.int .i64, .bool], encF rIntB M⟩ (.int .i64 x) M.length = M.findIdx? fun a => x == a.1 := mfind_enc rIntB M (.int .i64 x)
theorem put_B (M : List (Int × Bool)) (x : Int) : decF rIntB (mputN (mfind ⟨[.int .i64, .bool], encF rIntB M⟩ (.int .i64 x) M.length) M.length) (mputG ⟨[.int .i64, .bool], encF rIntB M⟩ (mputP (mfind ⟨[.int .i64, .bool], encF rIntB M⟩ (.int .i64 x) M.length) M.length) [.int .i64 x, .bool true]).f = putB M x := by
  have hlt : ∀ i, mfind ⟨[.int .i64, .bool], encF rIntB M⟩ (.int .i64 x) M.length = some i → i < M.length := fun i hi => List.mem_range.1 (List.mem_of_find?_eq_some hi)
  unfold putB
  rw [← find_B M x]
  generalize mfind ⟨[.int .i64, .bool], encF rIntB M⟩ (.int .i64 x) M.length = o at hlt ⊢
  rw [decF_put rIntB M o hlt]
  cases o <;> rfl
def getB (M : List (Int × Bool)) (x : Int) : Bool := truthOf (mraw ⟨[.int .i64, .bool], encF rIntB M⟩ (mfind ⟨[.int .i64, .bool], encF rIntB M⟩ (.int .i64 x) M.length) (.bool false) 1)
theorem get_any {M : List (Int × Bool)} (h : ∀ a ∈ M, a.2 = true) (x : Int) : getB M x = M.any fun a => x == a.1 := by
  unfold getB
  rw [find_B]
  cases hf : M.findIdx? fun a => x == a.1 with
  | none =>
    have := List.findIdx?_eq_none_iff.1 hf
    rw [List.any_eq_false.2 (fun a ha => by rw [this a ha]; decide)]; rfl
  | some i =>
    obtain ⟨hi, h2, _⟩ := List.findIdx?_eq_some_iff_getElem.1 hf
    rw [List.any_eq_true.2 ⟨M[i], List.getElem_mem hi, h2⟩]
    unfold mraw
    simp only [encF_at (List.getElem?_eq_getElem hi)]
    exact h _ (List.getElem_mem hi)
theorem put_any {M : List (Int × Bool)} (h : ∀ a ∈ M, a.2 = true) (x : Int) : (∀ a ∈ putB M x, a.2 = true) ∧ ∀ y, (putB M x).any (fun a => y == a.1) = ((M.any fun a => y == a.1) || y == x) := by
  unfold putB
  cases hf : M.findIdx? fun a => x == a.1 with
  | none =>
    simp only
    refine ⟨fun a ha => ?_, fun y => by simp⟩
    rcases List.mem_append.1 ha with ha | ha
    · exact h a ha
    · rw [List.mem_singleton] at ha; subst ha; rfl
  | some i =>
    obtain ⟨hi, h2, _⟩ := List.findIdx?_eq_some_iff_getElem.1 hf
    have h3 : x = M[i].1 := by simpa using h2
    have e : M.set i (x, true) = M := by
      have : (x, true) = M[i] := Prod.ext h3 (h _ (List.getElem_mem hi)).symm
      rw [this]; exact List.set_getElem_self hi
    simp only
    rw [e]
    refine ⟨h, fun y => ?_⟩
    by_cases hy : y = x
    · subst hy
      rw [List.any_eq_true.2 ⟨M[i], List.getElem_mem hi, h2⟩]; rfl
    · rw [show (y == x) = false by simp [hy], Bool.or_false]
def putsB (m : List Int) (n : Nat) : List (Int × Bool) := (List.range n).foldl (fun M i => putB M (atI m i)) []
theorem puts_any (m : List Int) : ∀ n, n ≤ m.length → (∀ a ∈ putsB m n, a.2 = true) ∧ ∀ y, (putsB m n).any (fun a => y == a.1) = (m.take n).contains y
  | 0, _ => ⟨fun a ha => by simp [putsB] at ha, fun y => by simp [putsB]⟩
  | n + 1, h => by
    obtain ⟨h1, h2⟩ := puts_any m n (by omega)
    have e : putsB m (n + 1) = putB (putsB m n) (atI m n) := by unfold putsB; rw [List.range_succ, List.foldl_append]; rfl
    obtain ⟨h3, h4⟩ := put_any h1 (atI m n)
    rw [e]
    refine ⟨h3, fun y => ?_⟩
    rw [h4, h2, List.take_add_one, List.getElem?_eq_getElem (by omega), atI_get (by omega), Option.toList_some]
    simp only [List.contains_eq_any_beq, List.any_append, List.any_cons, List.any_nil, Bool.or_false]
theorem puts_get (m : List Int) (y : Int) : getB (putsB m m.length) y = m.contains y := by
  obtain ⟨h1, h2⟩ := puts_any m m.length (Nat.le_refl _)
  rw [get_any h1, h2, List.take_of_length_le (Nat.le_refl _)]
variable (hy n : Int) (c : Bool) (e : Int) (lp : List (Int × Int)) (b : Bulbs) (o : Span)
theorem L_h1_eq (m : List Int) (hm : m.length ≤ 1000000) : L_h1 ((hy, n, c, e, lp, m, 0), b, o, [], ()) = some ((hy, n, c, e, lp, ()), b, o, putsB m m.length, ()) := by
  have hc : clampL m.length = m.length := clampL_eq (by unfold maxL; omega)
  have e0 : (decF rInt m.length fun i => encF rInt m i) = m := decF_encF rInt m
  have e1 : (decF rPair lp.length fun i => encF rPair lp i) = lp := decF_encF rPair lp
  have := lim_fold (step := st_h1) (fun i M => ((hy, n, c, e, lp, m, (i : Int)), b, o, M, ())) m.length (fun M i => putB M (atI m i)) (fun M => ((hy, n, c, e, lp, ()), b, o, M, ())) (fun i hi M => ?_) (fun M => ?_) []
  · exact this
  · rw [sl_h1]
    have ha : numOf (encF rInt m i 0) = atI m i := rfl
    simp only [T.run_br, T.run_chk, T.run_ret, decide_eq_true_eq, Int.toNat_natCast, hc, Nat.zero_add, ha, e0, e1]
    rw [if_pos (by omega), if_pos (by omega), w64_in (n := (i : Int) + 1) (by omega) (by omega), put_B]; rfl
  · rw [sl_h1]
    simp only [T.run_br, T.run_ret, decide_eq_true_eq, hc, Nat.zero_add, e1, decF_encF]
    rw [if_neg (by omega)]
/-- A pair names a glass. -/
def inP (id : Int) (p : Int × Int) : Bool := p.1 == id || p.2 == id
def atP (l : List (Int × Int)) (i : Nat) : Int × Int := (numOf (encF rPair l i 0), numOf (encF rPair l i 1))
theorem atP_get {l : List (Int × Int)} {i : Nat} (h : i < l.length) : atP l i = l[i] := by unfold atP; rw [encF_at (List.getElem?_eq_getElem h)]; rfl
theorem foldAll (id : Int) (q : Bool) : ∀ k, k ≤ lp.length → (List.range k).foldl (fun a i => a && inP id (atP lp i)) q = (q && (lp.take k).all (inP id))
  | 0, _ => by simp
  | k + 1, h => by
    rw [List.range_succ, List.foldl_append, foldAll id q k (by omega), List.take_add_one, List.getElem?_eq_getElem (by omega), List.foldl_cons, List.foldl_nil, atP_get (by omega), Option.toList_some]
    simp only [List.all_append, List.all_cons, List.all_nil, Bool.and_true, Bool.and_assoc]
theorem L_h3_eq (i : Int) (q : Bool) (M : List (Int × Bool)) (g : Glass) (hl : lp.length ≤ 1000000) : L_h3 ((hy, n, c, e, lp, i, q, 0), b, o, M, g, ()) = some ((hy, n, c, e, lp, i, q && lp.all (inP g.id)), b, o, M, g, ()) := by
  have hc : clampL lp.length = lp.length := clampL_eq (by unfold maxL; omega)
  have e1 : (decF rPair lp.length fun i => encF rPair lp i) = lp := decF_encF rPair lp
  have := lim_fold (step := st_h3) (fun k a => ((hy, n, c, e, lp, i, a, (k : Int)), b, o, M, g, ())) lp.length (fun a k => a && inP g.id (atP lp k)) (fun a => ((hy, n, c, e, lp, i, a), b, o, M, g, ())) (fun k hk a => ?_) (fun a => ?_) q
  · rw [foldAll lp g.id q lp.length (Nat.le_refl _), List.take_of_length_le (Nat.le_refl _)] at this
    exact this
  · rw [sl_h3]
    simp only [T.run_br, T.run_chk, T.run_ret, decide_eq_true_eq, Int.toNat_natCast, hc, Nat.zero_add, e1, decF_encF]
    have hp : inP g.id (atP lp k) = (numOf (encF rPair lp k 0) == g.id || numOf (encF rPair lp k 1) == g.id) := rfl
    have hk1 : (k : Int) < (lp.length : Int) := by omega
    have hk2 : (0 : Int) ≤ (k : Int) ∧ (k : Int) < (lp.length : Int) := ⟨by omega, hk1⟩
    rw [hp, w64_in (n := (k : Int) + 1) (by omega) (by omega)]
    simp only [if_pos hk1, if_pos hk2]
    cases a with
    | false => rfl
    | true =>
      rw [if_pos rfl]
      cases h0 : (numOf (encF rPair lp k 0) == g.id) with
      | true => rfl
      | false => rw [if_neg (by decide)]; rfl
  · rw [sl_h3]
    simp only [T.run_br, T.run_ret, decide_eq_true_eq, hc, Nat.zero_add, e1, decF_encF]
    rw [if_neg (by omega)]
/-- A glass is as the law says. -/
def goodG (M : List (Int × Bool)) (g : Glass) : Prop := (decide (0 < lp.length) && lp.all (inP g.id)) = getB M g.id ∧ (e = 0 → o.lo ≤ n → n ≤ o.hi → g.shown.lo ≤ IntKind.i64.wrap (g.dense + n) ∧ IntKind.i64.wrap (g.dense + n) ≤ g.shown.hi)
theorem L_h2_eq (M : List (Int × Bool)) (hl : lp.length ≤ 1000000) (hg : ∀ k, k < len b.glasses → (gls b.glasses k).hydro = hy → goodG n e lp o M (gls b.glasses k)) : L_h2 ((hy, n, c, e, lp, 0), b, o, M, ()) = some (.inr c) := by
  have hc : clampL lp.length = lp.length := clampL_eq (by unfold maxL; omega)
  have e1 : (decF rPair lp.length fun i => encF rPair lp i) = lp := decF_encF rPair lp
  have l1 := K.len_le b.glasses; have l2 := K.len_le' b.glasses
  refine lim_all (step := st_h2) (fun i => ((hy, n, c, e, lp, (i : Int)), b, o, M, ())) (len b.glasses) (fun i hi => ?_) ?_
  · rw [sl_h2]
    simp only [T.run_br, T.run_chk, T.run_ret, decide_eq_true_eq, Int.toNat_natCast, hc, Nat.zero_add, e1, decF_encF]
    rw [if_pos (by omega), if_pos (by omega), w64_in (n := (i : Int) + 1) (by omega) (by omega)]
    have hh : (b.glasses.g i 1 != hy) = ((gls b.glasses i).hydro != hy) := rfl
    rw [hh]
    by_cases h : (gls b.glasses i).hydro = hy
    · obtain ⟨g1, g2⟩ := hg i hi h
      rw [if_neg (by simp [h]), L_h3_eq _ _ _ _ _ _ _ _ _ _ _ hl, T.run_some]
      have hq : decide ((lp.length : Int) > 0) = decide (0 < lp.length) := by apply decide_eq_decide.2; omega
      simp only [T.run_br, T.run_ret, hc, e1, decF_encF, hq]
      have hb : truthOf (mraw ⟨[.int .i64, .bool], encF rIntB M⟩ (mfind ⟨[.int .i64, .bool], encF rIntB M⟩ (.int .i64 (gls b.glasses i).id) M.length) (.bool false) 1) = getB M (gls b.glasses i).id := rfl
      rw [hb, g1, if_neg (by simp), w64_in (n := (i : Int) + 1) (by omega) (by omega)]
      by_cases he : e = 0
      · rw [if_pos (by simp [he])]
        by_cases h1 : o.lo ≤ n
        · rw [if_pos (by simpa using h1)]
          by_cases h2 : n ≤ o.hi
          · have := g2 he h1 h2
            rw [if_pos (by simpa using h2), if_neg (by simp; omega), if_neg (by simp; omega)]; rfl
          · rw [if_neg (by simpa using h2)]; rfl
        · rw [if_neg (by simpa using h1)]; rfl
      · rw [if_neg (by simp [he])]; rfl
    · rw [if_pos (by simp [h])]; rfl
  · rw [sl_h2]
    simp only [T.run_br, T.run_ret, decide_eq_true_eq]
    rw [if_neg (by omega)]
end K
end Go.Proofs.YtjbhooodjmjdkaaGreat
/-! KHy3 -/
namespace Go.Proofs.YtjbhooodjmjdkaaGreat
open Ev K
set_option maxRecDepth 100000
namespace K
theorem bulbs_none {b : Bulbs} (hb : CheckBulbs b = 0) : (∀ i, i < len b.hydros → e_rc1 b i = none) ∧ ∀ k, k < len b.glasses → e_rc2 b k = none := by
  rw [← r_bulbs_is] at hb
  unfold r_bulbs at hb
  split at hb
  · cases hb
  split at hb
  · cases hb
  cases h1 : (List.range (len b.hydros)).findSome? (e_rc1 b) with
  | some e =>
    rw [h1] at hb
    have : e = 0 := hb
    obtain ⟨j, _, hj⟩ := List.exists_of_findSome?_eq_some h1
    exact absurd (by rw [hj, this]) (rc1_ne (b := b) (i := j))
  | none =>
    rw [h1] at hb
    cases h2 : (List.range (len b.glasses)).findSome? (e_rc2 b) with
    | some e =>
      rw [h2] at hb
      have : e = 0 := hb
      obtain ⟨j, _, hj⟩ := List.exists_of_findSome?_eq_some h2
      exact absurd (by rw [hj, this]) (rc2_ne (b := b) (i := j))
    | none => exact ⟨fun i hi => (List.findSome?_eq_none_iff.1 h1) i (List.mem_range.2 hi), fun k hk => (List.findSome?_eq_none_iff.1 h2) k (List.mem_range.2 hk)⟩
theorem not9 {o : Option Int} {n : Nat} {f : Nat → Option Int} (ho : o = (List.range n).findSome? f) (hf : ∀ i, f i ≠ some 9) (e : Int) (he : e ≠ 9) : orr id e o ≠ 9 := by
  subst ho
  cases h : (List.range n).findSome? f with
  | none => exact he
  | some x =>
    obtain ⟨j, _, hj⟩ := List.exists_of_findSome?_eq_some h
    exact fun e => hf j (by rw [hj]; exact congrArg some e)
theorem bulbs_ne9 (b : Bulbs) : CheckBulbs b ≠ 9 := by
  rw [← r_bulbs_is]
  unfold r_bulbs
  split
  · decide
  split
  · decide
  refine not9 rfl (fun i => ?_) _ (not9 rfl (fun i => ?_) _ (by decide))
  · unfold e_rc1
    split
    · exact fun h => by cases h
    split
    · exact fun h => by cases h
    split <;> exact fun h => by cases h
  · unfold e_rc2
    iterate 6
      split
      · exact fun h => by cases h
    exact fun h => by cases h
theorem hyd_ok {b : Bulbs} (hb : CheckBulbs b = 0) {i : Nat} (hi : i < len b.hydros) : -100 ≤ (hyd b.hydros i).off.lo ∧ (hyd b.hydros i).off.lo ≤ (hyd b.hydros i).off.hi ∧ (hyd b.hydros i).off.hi ≤ 100 := by
  have h := (bulbs_none hb).1 i hi
  unfold e_rc1 at h
  split at h
  · cases h
  split at h
  · cases h
  · rename_i hc
    rw [r_span_is] at hc
    unfold spans at hc
    simp at hc
    omega
theorem gls_ok {b : Bulbs} (hb : CheckBulbs b = 0) {k : Nat} (hk : k < len b.glasses) : 1 ≤ (gls b.glasses k).id ∧ 900 ≤ (gls b.glasses k).dense ∧ (gls b.glasses k).dense ≤ 1100 ∧ 0 ≤ (gls b.glasses k).shown.lo ∧ (gls b.glasses k).shown.lo ≤ (gls b.glasses k).shown.hi ∧ (gls b.glasses k).shown.hi ≤ 2000 := by
  have h := (bulbs_none hb).2 k hk
  unfold e_rc2 at h
  split at h
  · cases h
  rename_i h1
  split at h
  · cases h
  split at h
  · cases h
  split at h
  · cases h
  · rename_i hc
    rw [r_span_is] at hc
    unfold spans at hc
    rw [r_id_is] at h1
    unfold within at h1
    simp at hc h1
    omega
/-- A glass of a hydrometer is one of the list. -/
theorem mem_gl {b : Bulbs} {n : Int} {g : GlassE} : g ∈ glassesL b n ↔ ∃ k, k < len b.glasses ∧ (gls b.glasses k).hydro = n ∧ g = toldOf (gls b.glasses k) := by
  unfold glassesL
  rw [List.mem_map]
  constructor
  · rintro ⟨k, hk, rfl⟩
    obtain ⟨h1, h2⟩ := List.mem_filter.1 hk
    exact ⟨k, List.mem_range.1 h1, by simpa using h2, rfl⟩
  · rintro ⟨k, h1, h2, rfl⟩
    exact ⟨k, List.mem_filter.2 ⟨List.mem_range.2 h1, by simpa using h2⟩, rfl⟩
theorem told_ok {b : Bulbs} (hb : CheckBulbs b = 0) {n : Int} {g : GlassE} (h : g ∈ glassesL b n) : 1 ≤ g.g.id ∧ g.errors.lo = g.g.shown.lo - g.g.dense ∧ g.errors.hi = g.g.shown.hi - g.g.dense ∧ g.errors.lo ≤ g.errors.hi ∧ 900 ≤ g.g.dense ∧ g.g.dense ≤ 1100 ∧ 0 ≤ g.g.shown.lo ∧ g.g.shown.hi ≤ 2000 := by
  obtain ⟨k, hk, _, rfl⟩ := mem_gl.1 h
  obtain ⟨h1, h2, h3, h4, h5, h6⟩ := gls_ok hb hk
  have e1 : (toldOf (gls b.glasses k)).errors.lo = IntKind.i64.wrap ((gls b.glasses k).shown.lo - (gls b.glasses k).dense) := rfl
  have e2 : (toldOf (gls b.glasses k)).errors.hi = IntKind.i64.wrap ((gls b.glasses k).shown.hi - (gls b.glasses k).dense) := rfl
  have e3 : (toldOf (gls b.glasses k)).g = gls b.glasses k := rfl
  rw [w64_in (by omega) (by omega)] at e1 e2
  rw [e1, e2, e3]
  refine ⟨h1, rfl, rfl, by omega, h2, h3, h4, h6⟩
theorem void_iff (s : Span) : void s = false ↔ s.lo ≤ s.hi := by unfold void; simp
theorem meet_lo_le (a b : Span) (c : Int) : (meet a b).lo ≤ c ↔ a.lo ≤ c ∧ b.lo ≤ c := by unfold meet; simp only; split <;> omega
theorem le_meet_hi (a b : Span) (c : Int) : c ≤ (meet a b).hi ↔ c ≤ a.hi ∧ c ≤ b.hi := by unfold meet; simp only; split <;> omega
theorem fold_lo (but c : Int) : ∀ (L : List GlassE) (s : Span), (L.foldl (fun c g => if (g.g.id != but) = true then meet c g.errors else c) s).lo ≤ c ↔ s.lo ≤ c ∧ ∀ g ∈ L, g.g.id ≠ but → g.errors.lo ≤ c
  | [], s => by simp
  | x :: L, s => by
    rw [List.foldl_cons, fold_lo but c L]
    by_cases h : x.g.id = but
    · rw [if_neg (by simp [h])]
      simp [h]
    · rw [if_pos (by simp [h]), meet_lo_le]
      simp only [List.forall_mem_cons, ne_eq, h, not_false_eq_true, true_imp_iff, and_assoc]
theorem fold_hi (but c : Int) : ∀ (L : List GlassE) (s : Span), c ≤ (L.foldl (fun c g => if (g.g.id != but) = true then meet c g.errors else c) s).hi ↔ c ≤ s.hi ∧ ∀ g ∈ L, g.g.id ≠ but → c ≤ g.errors.hi
  | [], s => by simp
  | x :: L, s => by
    rw [List.foldl_cons, fold_hi but c L]
    by_cases h : x.g.id = but
    · rw [if_neg (by simp [h])]
      simp [h]
    · rw [if_pos (by simp [h]), le_meet_hi]
      simp only [List.forall_mem_cons, ne_eq, h, not_false_eq_true, true_imp_iff, and_assoc]
theorem errs_lo (b : Bulbs) (h : Hydro) (but c : Int) : (errs b h but).lo ≤ c ↔ h.off.lo ≤ c ∧ ∀ g ∈ glassesL b h.id, g.g.id ≠ but → g.errors.lo ≤ c := fold_lo but c _ _
theorem errs_hi (b : Bulbs) (h : Hydro) (but c : Int) : c ≤ (errs b h but).hi ↔ c ≤ h.off.hi ∧ ∀ g ∈ glassesL b h.id, g.g.id ≠ but → c ≤ g.errors.hi := fold_hi but c _ _
/-- Errors that all allow: if each two allow one. -/
theorem errs_ok (b : Bulbs) (h : Hydro) (but : Int) : void (errs b h but) = false ↔ (h.off.lo ≤ h.off.hi ∧ ∀ g ∈ glassesL b h.id, g.g.id ≠ but → h.off.lo ≤ g.errors.hi) ∧
    ∀ g ∈ glassesL b h.id, g.g.id ≠ but → g.errors.lo ≤ h.off.hi ∧ ∀ k ∈ glassesL b h.id, k.g.id ≠ but → g.errors.lo ≤ k.errors.hi := by
  rw [void_iff, errs_lo, errs_hi]
  constructor
  · rintro ⟨h1, h2⟩
    exact ⟨h1, fun g hg hn => (errs_hi b h but _).1 (h2 g hg hn)⟩
  · rintro ⟨h1, h2⟩
    exact ⟨h1, fun g hg hn => (errs_hi b h but _).2 (h2 g hg hn)⟩
theorem mem_ci {g x : GlassE} {p : Int × Int} : p ∈ ci1 g x ↔ (g.g.id < x.g.id ∧ void (meet g.errors x.errors) = true) ∧ p = (g.g.id, x.g.id) := by
  unfold ci1 ciP
  split
  · rename_i h
    simp only [Bool.and_eq_true, decide_eq_true_eq] at h
    simp [h]
  · rename_i h
    simp only [Bool.and_eq_true, decide_eq_true_eq] at h
    simp [h]
theorem mem_co {b : Bulbs} {n : Int} {h : Hydro} {g : GlassE} {p : Int × Int} : p ∈ co1 b n h g ↔ (void (meet g.errors h.off) = true ∧ p = (0, g.g.id)) ∨ ∃ x ∈ glassesL b n, (g.g.id < x.g.id ∧ void (meet g.errors x.errors) = true) ∧ p = (g.g.id, x.g.id) := by
  unfold co1
  rw [List.mem_append, List.mem_flatMap]
  refine or_congr ?_ ⟨fun ⟨x, hx, hp⟩ => ⟨x, hx, mem_ci.1 hp⟩, fun ⟨x, hx, hp⟩ => ⟨x, hx, mem_ci.2 hp⟩⟩
  split
  · rename_i hv; simp [hv]
  · rename_i hv; simp [hv]
theorem mem_cla {a : Bulbs × Int} {p : Int × Int} : p ∈ claL a ↔ ∃ g ∈ glassesL a.1 a.2, (void (meet g.errors (hydro a).1.off) = true ∧ p = (0, g.g.id)) ∨ ∃ x ∈ glassesL a.1 a.2, (g.g.id < x.g.id ∧ void (meet g.errors x.errors) = true) ∧ p = (g.g.id, x.g.id) := by
  unfold claL
  rw [List.mem_flatMap]
  exact ⟨fun ⟨g, hg, h⟩ => ⟨g, hg, mem_co.1 h⟩, fun ⟨g, hg, h⟩ => ⟨g, hg, mem_co.2 h⟩⟩
theorem meet_void (a b : Span) (ha : a.lo ≤ a.hi) (hb : b.lo ≤ b.hi) : void (meet a b) = true ↔ ¬ (a.lo ≤ b.hi ∧ b.lo ≤ a.hi) := by
  rw [← Bool.not_eq_false, void_iff, meet_lo_le, le_meet_hi, le_meet_hi]
  constructor <;> intro h h2 <;> exact h (by omega)
variable {a : Bulbs × Int} (hb : CheckBulbs a.1 = 0) {i : Nat} (hi : i < len a.1.hydros) (hid : (hyd a.1.hydros i).id = a.2) (hh : (hydro a).1 = hyd a.1.hydros i)
include hb hi hid hh
/-- Without a glass there are errors that all others allow exactly if it stands in all pairs. -/
theorem errs_pairs (but : Int) (hbut : but = 0 ∨ 1 ≤ but) : void (errs a.1 (hyd a.1.hydros i) but) = false ↔ ∀ p ∈ claL a, but ≠ 0 ∧ (p.1 = but ∨ p.2 = but) := by
  have ho := hyd_ok hb hi
  rw [errs_ok, hid]
  constructor
  · rintro ⟨⟨_, h1⟩, h2⟩ p hp
    obtain ⟨g, hg, h⟩ := mem_cla.1 hp
    rw [hh] at h
    have tg := told_ok hb hg
    rcases h with ⟨hv, rfl⟩ | ⟨x, hx, ⟨hlt, hv⟩, rfl⟩
    · by_cases e : g.g.id = but
      · exact ⟨by omega, .inr e⟩
      · rw [meet_void _ _ tg.2.2.2.1 (by omega)] at hv
        exact absurd ⟨(h2 g hg e).1, h1 g hg e⟩ hv
    · have tx := told_ok hb hx
      by_cases e : g.g.id = but
      · exact ⟨by omega, .inl e⟩
      by_cases e2 : x.g.id = but
      · exact ⟨by omega, .inr e2⟩
      rw [meet_void _ _ tg.2.2.2.1 tx.2.2.2.1] at hv
      exact absurd ⟨(h2 g hg e).2 x hx e2, (h2 x hx e2).2 g hg e⟩ hv
  · intro h
    have hoff : ∀ g ∈ glassesL a.1 a.2, g.g.id ≠ but → g.errors.lo ≤ (hyd a.1.hydros i).off.hi ∧ (hyd a.1.hydros i).off.lo ≤ g.errors.hi := by
      intro g hg hne
      have tg := told_ok hb hg
      apply Decidable.byContradiction
      intro hc
      have := h (0, g.g.id) (mem_cla.2 ⟨g, hg, .inl ⟨by rw [hh]; exact (meet_void _ _ tg.2.2.2.1 (by omega)).2 hc, rfl⟩⟩)
      simp only at this
      omega
    have hpair : ∀ g ∈ glassesL a.1 a.2, ∀ k ∈ glassesL a.1 a.2, g.g.id ≠ but → k.g.id ≠ but → g.g.id < k.g.id → g.errors.lo ≤ k.errors.hi ∧ k.errors.lo ≤ g.errors.hi := by
      intro g hg k hk n1 n2 hlt
      have tg := told_ok hb hg; have tk := told_ok hb hk
      apply Decidable.byContradiction
      intro hc
      have := h (g.g.id, k.g.id) (mem_cla.2 ⟨g, hg, .inr ⟨k, hk, ⟨hlt, (meet_void _ _ tg.2.2.2.1 tk.2.2.2.1).2 hc⟩, rfl⟩⟩)
      simp only at this
      omega
    refine ⟨⟨ho.2.1, fun g hg hne => (hoff g hg hne).2⟩, fun g hg hne => ⟨(hoff g hg hne).1, fun k hk hnk => ?_⟩⟩
    have tg := told_ok hb hg
    rcases Int.lt_trichotomy g.g.id k.g.id with hlt | heq | hgt
    · exact (hpair g hg k hk hne hnk hlt).1
    · have e1 := glassesL_al hb hg; have e2 := glassesL_al hb hk
      rw [heq, ← e2] at e1
      rw [e1] at tg ⊢
      exact tg.2.2.2.1
    · exact (hpair k hk g hg hnk hne hgt).2
theorem cla_empty : void (errs a.1 (hyd a.1.hydros i) 0) = false ↔ claL a = [] := by
  rw [errs_pairs hb hi hid hh 0 (.inl rfl)]
  constructor
  · intro h
    cases hc : claL a with
    | nil => rfl
    | cons p l => exact absurd rfl (h p (by rw [hc]; simp)).1
  · intro h p hp
    rw [h] at hp; cases hp
end K
end Go.Proofs.YtjbhooodjmjdkaaGreat
/-! KHy4 -/
namespace Go.Proofs.YtjbhooodjmjdkaaGreat
open Ev K
set_option maxRecDepth 100000
def D_lh := DecL.cons dBulbs (.cons (dI .i64) (.last (dI .i64) 0))
theorem fn_lh : ∀ a, (callT1 P BKHy13 30 7 D_lh dB) a = T.run (
  .br (!few (Prod.fst a)) (
    .ret (true)) (
    .br (CheckBulbs (Prod.fst a) != (0 : Int)) (
      .br (CheckBulbs (Prod.fst a) != (0 : Int)) (
        .br (CheckBulbs (Prod.fst a) != (9 : Int)) (
          .br (Prod.snd (cla (Prod.fst a, Prod.fst (Prod.snd a))) == CheckBulbs (Prod.fst a)) (
            .ret (Prod.snd (blm (Prod.fst a, Prod.fst (Prod.snd a))) == CheckBulbs (Prod.fst a))) (
            .ret (false))) (
          .br (Prod.snd (cla (Prod.fst a, Prod.fst (Prod.snd a))) != (0 : Int)) (
            .ret (false)) (
            .br (Prod.snd (blm (Prod.fst a, Prod.fst (Prod.snd a))) != (0 : Int)) (
              .ret (false)) (
              .br (!(CheckBulbs (Prod.fst a) == (0 : Int)) == ((↑(clampL (List.length (Prod.fst (cla (Prod.fst a, Prod.fst (Prod.snd a)))))) : Int) == (0 : Int))) (
                .ret (false)) (
                .br (CheckBulbs (Prod.fst a) == (0 : Int)) (
                  .br (decide ((↑(clampL (List.length (Prod.fst (blm (Prod.fst a, Prod.fst (Prod.snd a)))))) : Int) > (0 : Int))) (
                    .ret (false)) (
                    .obs (L_h1 ((Prod.fst (Prod.snd a), Prod.snd (Prod.snd a), true, CheckBulbs (Prod.fst a), decF rPair (List.length (Prod.fst (cla (Prod.fst a, Prod.fst (Prod.snd a))))) fun i => encF rPair (Prod.fst (cla (Prod.fst a, Prod.fst (Prod.snd a)))) ((0 : Nat) + i), decF rInt (List.length (Prod.fst (blm (Prod.fst a, Prod.fst (Prod.snd a))))) fun i => encF rInt (Prod.fst (blm (Prod.fst a, Prod.fst (Prod.snd a)))) ((0 : Nat) + i), (0 : Int)), Prod.fst a, Span.mk (0 : Int) (0 : Int), decF rIntB (0 : Nat) fun x x_1 => AV.top, PUnit.unit)) fun x0 =>
                      .obs (L_h2 ((Prod.fst (Prod.fst x0), Prod.fst (Prod.snd (Prod.fst x0)), Prod.fst (Prod.snd (Prod.snd (Prod.fst x0))), Prod.fst (Prod.snd (Prod.snd (Prod.snd (Prod.fst x0)))), decF rPair (List.length (Prod.fst (Prod.snd (Prod.snd (Prod.snd (Prod.snd (Prod.fst x0))))))) fun i => encF rPair (Prod.fst (Prod.snd (Prod.snd (Prod.snd (Prod.snd (Prod.fst x0)))))) ((0 : Nat) + i), (0 : Int)), Prod.fst (Prod.snd x0), Prod.fst (Prod.snd (Prod.snd x0)), decF rIntB (List.length (Prod.fst (Prod.snd (Prod.snd (Prod.snd x0))))) (encF rIntB (Prod.fst (Prod.snd (Prod.snd (Prod.snd x0))))), PUnit.unit)) fun x1 =>
                        .sum (x1) (fun x2 =>
                          .ret (x2)) (fun x2 =>
                          .ret (x2)))) (
                  .obs (L_h1 ((Prod.fst (Prod.snd a), Prod.snd (Prod.snd a), true, CheckBulbs (Prod.fst a), decF rPair (List.length (Prod.fst (cla (Prod.fst a, Prod.fst (Prod.snd a))))) fun i => encF rPair (Prod.fst (cla (Prod.fst a, Prod.fst (Prod.snd a)))) ((0 : Nat) + i), decF rInt (List.length (Prod.fst (blm (Prod.fst a, Prod.fst (Prod.snd a))))) fun i => encF rInt (Prod.fst (blm (Prod.fst a, Prod.fst (Prod.snd a)))) ((0 : Nat) + i), (0 : Int)), Prod.fst a, Span.mk (0 : Int) (0 : Int), decF rIntB (0 : Nat) fun x x_1 => AV.top, PUnit.unit)) fun x0 =>
                    .obs (L_h2 ((Prod.fst (Prod.fst x0), Prod.fst (Prod.snd (Prod.fst x0)), Prod.fst (Prod.snd (Prod.snd (Prod.fst x0))), Prod.fst (Prod.snd (Prod.snd (Prod.snd (Prod.fst x0)))), decF rPair (List.length (Prod.fst (Prod.snd (Prod.snd (Prod.snd (Prod.snd (Prod.fst x0))))))) fun i => encF rPair (Prod.fst (Prod.snd (Prod.snd (Prod.snd (Prod.snd (Prod.fst x0)))))) ((0 : Nat) + i), (0 : Int)), Prod.fst (Prod.snd x0), Prod.fst (Prod.snd (Prod.snd x0)), decF rIntB (List.length (Prod.fst (Prod.snd (Prod.snd (Prod.snd x0))))) (encF rIntB (Prod.fst (Prod.snd (Prod.snd (Prod.snd x0))))), PUnit.unit)) fun x1 =>
                      .sum (x1) (fun x2 =>
                        .ret (x2)) (fun x2 =>
                        .ret (x2)))))))) (
        .br (Prod.snd (cla (Prod.fst a, Prod.fst (Prod.snd a))) != (0 : Int)) (
          .ret (false)) (
          .br (Prod.snd (blm (Prod.fst a, Prod.fst (Prod.snd a))) != (0 : Int)) (
            .ret (false)) (
            .br (!(CheckBulbs (Prod.fst a) == (0 : Int)) == ((↑(clampL (List.length (Prod.fst (cla (Prod.fst a, Prod.fst (Prod.snd a)))))) : Int) == (0 : Int))) (
              .ret (false)) (
              .br (CheckBulbs (Prod.fst a) == (0 : Int)) (
                .br (decide ((↑(clampL (List.length (Prod.fst (blm (Prod.fst a, Prod.fst (Prod.snd a)))))) : Int) > (0 : Int))) (
                  .ret (false)) (
                  .obs (L_h1 ((Prod.fst (Prod.snd a), Prod.snd (Prod.snd a), true, CheckBulbs (Prod.fst a), decF rPair (List.length (Prod.fst (cla (Prod.fst a, Prod.fst (Prod.snd a))))) fun i => encF rPair (Prod.fst (cla (Prod.fst a, Prod.fst (Prod.snd a)))) ((0 : Nat) + i), decF rInt (List.length (Prod.fst (blm (Prod.fst a, Prod.fst (Prod.snd a))))) fun i => encF rInt (Prod.fst (blm (Prod.fst a, Prod.fst (Prod.snd a)))) ((0 : Nat) + i), (0 : Int)), Prod.fst a, Span.mk (0 : Int) (0 : Int), decF rIntB (0 : Nat) fun x x_1 => AV.top, PUnit.unit)) fun x0 =>
                    .obs (L_h2 ((Prod.fst (Prod.fst x0), Prod.fst (Prod.snd (Prod.fst x0)), Prod.fst (Prod.snd (Prod.snd (Prod.fst x0))), Prod.fst (Prod.snd (Prod.snd (Prod.snd (Prod.fst x0)))), decF rPair (List.length (Prod.fst (Prod.snd (Prod.snd (Prod.snd (Prod.snd (Prod.fst x0))))))) fun i => encF rPair (Prod.fst (Prod.snd (Prod.snd (Prod.snd (Prod.snd (Prod.fst x0)))))) ((0 : Nat) + i), (0 : Int)), Prod.fst (Prod.snd x0), Prod.fst (Prod.snd (Prod.snd x0)), decF rIntB (List.length (Prod.fst (Prod.snd (Prod.snd (Prod.snd x0))))) (encF rIntB (Prod.fst (Prod.snd (Prod.snd (Prod.snd x0))))), PUnit.unit)) fun x1 =>
                      .sum (x1) (fun x2 =>
                        .ret (x2)) (fun x2 =>
                        .ret (x2)))) (
                .obs (L_h1 ((Prod.fst (Prod.snd a), Prod.snd (Prod.snd a), true, CheckBulbs (Prod.fst a), decF rPair (List.length (Prod.fst (cla (Prod.fst a, Prod.fst (Prod.snd a))))) fun i => encF rPair (Prod.fst (cla (Prod.fst a, Prod.fst (Prod.snd a)))) ((0 : Nat) + i), decF rInt (List.length (Prod.fst (blm (Prod.fst a, Prod.fst (Prod.snd a))))) fun i => encF rInt (Prod.fst (blm (Prod.fst a, Prod.fst (Prod.snd a)))) ((0 : Nat) + i), (0 : Int)), Prod.fst a, Span.mk (0 : Int) (0 : Int), decF rIntB (0 : Nat) fun x x_1 => AV.top, PUnit.unit)) fun x0 =>
                  .obs (L_h2 ((Prod.fst (Prod.fst x0), Prod.fst (Prod.snd (Prod.fst x0)), Prod.fst (Prod.snd (Prod.snd (Prod.fst x0))), Prod.fst (Prod.snd (Prod.snd (Prod.snd (Prod.fst x0)))), decF rPair (List.length (Prod.fst (Prod.snd (Prod.snd (Prod.snd (Prod.snd (Prod.fst x0))))))) fun i => encF rPair (Prod.fst (Prod.snd (Prod.snd (Prod.snd (Prod.snd (Prod.fst x0)))))) ((0 : Nat) + i), (0 : Int)), Prod.fst (Prod.snd x0), Prod.fst (Prod.snd (Prod.snd x0)), decF rIntB (List.length (Prod.fst (Prod.snd (Prod.snd (Prod.snd x0))))) (encF rIntB (Prod.fst (Prod.snd (Prod.snd (Prod.snd x0))))), PUnit.unit)) fun x1 =>
                    .sum (x1) (fun x2 =>
                      .ret (x2)) (fun x2 =>
                      .ret (x2)))))))) (
      .br (Prod.snd (off (Prod.fst a, Prod.fst (Prod.snd a))) != (0 : Int)) (
        .br (Prod.snd (off (Prod.fst a, Prod.fst (Prod.snd a))) != (9 : Int)) (
          .br (Prod.snd (cla (Prod.fst a, Prod.fst (Prod.snd a))) == Prod.snd (off (Prod.fst a, Prod.fst (Prod.snd a)))) (
            .ret (Prod.snd (blm (Prod.fst a, Prod.fst (Prod.snd a))) == Prod.snd (off (Prod.fst a, Prod.fst (Prod.snd a))))) (
            .ret (false))) (
          .br (Prod.snd (cla (Prod.fst a, Prod.fst (Prod.snd a))) != (0 : Int)) (
            .ret (false)) (
            .br (Prod.snd (blm (Prod.fst a, Prod.fst (Prod.snd a))) != (0 : Int)) (
              .ret (false)) (
              .br (!(Prod.snd (off (Prod.fst a, Prod.fst (Prod.snd a))) == (0 : Int)) == ((↑(clampL (List.length (Prod.fst (cla (Prod.fst a, Prod.fst (Prod.snd a)))))) : Int) == (0 : Int))) (
                .ret (false)) (
                .br (Prod.snd (off (Prod.fst a, Prod.fst (Prod.snd a))) == (0 : Int)) (
                  .br (decide ((↑(clampL (List.length (Prod.fst (blm (Prod.fst a, Prod.fst (Prod.snd a)))))) : Int) > (0 : Int))) (
                    .ret (false)) (
                    .obs (L_h1 ((Prod.fst (Prod.snd a), Prod.snd (Prod.snd a), true, Prod.snd (off (Prod.fst a, Prod.fst (Prod.snd a))), decF rPair (List.length (Prod.fst (cla (Prod.fst a, Prod.fst (Prod.snd a))))) fun i => encF rPair (Prod.fst (cla (Prod.fst a, Prod.fst (Prod.snd a)))) ((0 : Nat) + i), decF rInt (List.length (Prod.fst (blm (Prod.fst a, Prod.fst (Prod.snd a))))) fun i => encF rInt (Prod.fst (blm (Prod.fst a, Prod.fst (Prod.snd a)))) ((0 : Nat) + i), (0 : Int)), Prod.fst a, Prod.fst (off (Prod.fst a, Prod.fst (Prod.snd a))), decF rIntB (0 : Nat) fun x x_1 => AV.top, PUnit.unit)) fun x0 =>
                      .obs (L_h2 ((Prod.fst (Prod.fst x0), Prod.fst (Prod.snd (Prod.fst x0)), Prod.fst (Prod.snd (Prod.snd (Prod.fst x0))), Prod.fst (Prod.snd (Prod.snd (Prod.snd (Prod.fst x0)))), decF rPair (List.length (Prod.fst (Prod.snd (Prod.snd (Prod.snd (Prod.snd (Prod.fst x0))))))) fun i => encF rPair (Prod.fst (Prod.snd (Prod.snd (Prod.snd (Prod.snd (Prod.fst x0)))))) ((0 : Nat) + i), (0 : Int)), Prod.fst (Prod.snd x0), Prod.fst (Prod.snd (Prod.snd x0)), decF rIntB (List.length (Prod.fst (Prod.snd (Prod.snd (Prod.snd x0))))) (encF rIntB (Prod.fst (Prod.snd (Prod.snd (Prod.snd x0))))), PUnit.unit)) fun x1 =>
                        .sum (x1) (fun x2 =>
                          .ret (x2)) (fun x2 =>
                          .ret (x2)))) (
                  .obs (L_h1 ((Prod.fst (Prod.snd a), Prod.snd (Prod.snd a), true, Prod.snd (off (Prod.fst a, Prod.fst (Prod.snd a))), decF rPair (List.length (Prod.fst (cla (Prod.fst a, Prod.fst (Prod.snd a))))) fun i => encF rPair (Prod.fst (cla (Prod.fst a, Prod.fst (Prod.snd a)))) ((0 : Nat) + i), decF rInt (List.length (Prod.fst (blm (Prod.fst a, Prod.fst (Prod.snd a))))) fun i => encF rInt (Prod.fst (blm (Prod.fst a, Prod.fst (Prod.snd a)))) ((0 : Nat) + i), (0 : Int)), Prod.fst a, Prod.fst (off (Prod.fst a, Prod.fst (Prod.snd a))), decF rIntB (0 : Nat) fun x x_1 => AV.top, PUnit.unit)) fun x0 =>
                    .obs (L_h2 ((Prod.fst (Prod.fst x0), Prod.fst (Prod.snd (Prod.fst x0)), Prod.fst (Prod.snd (Prod.snd (Prod.fst x0))), Prod.fst (Prod.snd (Prod.snd (Prod.snd (Prod.fst x0)))), decF rPair (List.length (Prod.fst (Prod.snd (Prod.snd (Prod.snd (Prod.snd (Prod.fst x0))))))) fun i => encF rPair (Prod.fst (Prod.snd (Prod.snd (Prod.snd (Prod.snd (Prod.fst x0)))))) ((0 : Nat) + i), (0 : Int)), Prod.fst (Prod.snd x0), Prod.fst (Prod.snd (Prod.snd x0)), decF rIntB (List.length (Prod.fst (Prod.snd (Prod.snd (Prod.snd x0))))) (encF rIntB (Prod.fst (Prod.snd (Prod.snd (Prod.snd x0))))), PUnit.unit)) fun x1 =>
                      .sum (x1) (fun x2 =>
                        .ret (x2)) (fun x2 =>
                        .ret (x2)))))))) (
        .br (Prod.snd (cla (Prod.fst a, Prod.fst (Prod.snd a))) != (0 : Int)) (
          .ret (false)) (
          .br (Prod.snd (blm (Prod.fst a, Prod.fst (Prod.snd a))) != (0 : Int)) (
            .ret (false)) (
            .br (!(Prod.snd (off (Prod.fst a, Prod.fst (Prod.snd a))) == (0 : Int)) == ((↑(clampL (List.length (Prod.fst (cla (Prod.fst a, Prod.fst (Prod.snd a)))))) : Int) == (0 : Int))) (
              .ret (false)) (
              .br (Prod.snd (off (Prod.fst a, Prod.fst (Prod.snd a))) == (0 : Int)) (
                .br (decide ((↑(clampL (List.length (Prod.fst (blm (Prod.fst a, Prod.fst (Prod.snd a)))))) : Int) > (0 : Int))) (
                  .ret (false)) (
                  .obs (L_h1 ((Prod.fst (Prod.snd a), Prod.snd (Prod.snd a), true, Prod.snd (off (Prod.fst a, Prod.fst (Prod.snd a))), decF rPair (List.length (Prod.fst (cla (Prod.fst a, Prod.fst (Prod.snd a))))) fun i => encF rPair (Prod.fst (cla (Prod.fst a, Prod.fst (Prod.snd a)))) ((0 : Nat) + i), decF rInt (List.length (Prod.fst (blm (Prod.fst a, Prod.fst (Prod.snd a))))) fun i => encF rInt (Prod.fst (blm (Prod.fst a, Prod.fst (Prod.snd a)))) ((0 : Nat) + i), (0 : Int)), Prod.fst a, Prod.fst (off (Prod.fst a, Prod.fst (Prod.snd a))), decF rIntB (0 : Nat) fun x x_1 => AV.top, PUnit.unit)) fun x0 =>
                    .obs (L_h2 ((Prod.fst (Prod.fst x0), Prod.fst (Prod.snd (Prod.fst x0)), Prod.fst (Prod.snd (Prod.snd (Prod.fst x0))), Prod.fst (Prod.snd (Prod.snd (Prod.snd (Prod.fst x0)))), decF rPair (List.length (Prod.fst (Prod.snd (Prod.snd (Prod.snd (Prod.snd (Prod.fst x0))))))) fun i => encF rPair (Prod.fst (Prod.snd (Prod.snd (Prod.snd (Prod.snd (Prod.fst x0)))))) ((0 : Nat) + i), (0 : Int)), Prod.fst (Prod.snd x0), Prod.fst (Prod.snd (Prod.snd x0)), decF rIntB (List.length (Prod.fst (Prod.snd (Prod.snd (Prod.snd x0))))) (encF rIntB (Prod.fst (Prod.snd (Prod.snd (Prod.snd x0))))), PUnit.unit)) fun x1 =>
                      .sum (x1) (fun x2 =>
                        .ret (x2)) (fun x2 =>
                        .ret (x2)))) (
                .obs (L_h1 ((Prod.fst (Prod.snd a), Prod.snd (Prod.snd a), true, Prod.snd (off (Prod.fst a, Prod.fst (Prod.snd a))), decF rPair (List.length (Prod.fst (cla (Prod.fst a, Prod.fst (Prod.snd a))))) fun i => encF rPair (Prod.fst (cla (Prod.fst a, Prod.fst (Prod.snd a)))) ((0 : Nat) + i), decF rInt (List.length (Prod.fst (blm (Prod.fst a, Prod.fst (Prod.snd a))))) fun i => encF rInt (Prod.fst (blm (Prod.fst a, Prod.fst (Prod.snd a)))) ((0 : Nat) + i), (0 : Int)), Prod.fst a, Prod.fst (off (Prod.fst a, Prod.fst (Prod.snd a))), decF rIntB (0 : Nat) fun x x_1 => AV.top, PUnit.unit)) fun x0 =>
                  .obs (L_h2 ((Prod.fst (Prod.fst x0), Prod.fst (Prod.snd (Prod.fst x0)), Prod.fst (Prod.snd (Prod.snd (Prod.fst x0))), Prod.fst (Prod.snd (Prod.snd (Prod.snd (Prod.fst x0)))), decF rPair (List.length (Prod.fst (Prod.snd (Prod.snd (Prod.snd (Prod.snd (Prod.fst x0))))))) fun i => encF rPair (Prod.fst (Prod.snd (Prod.snd (Prod.snd (Prod.snd (Prod.fst x0)))))) ((0 : Nat) + i), (0 : Int)), Prod.fst (Prod.snd x0), Prod.fst (Prod.snd (Prod.snd x0)), decF rIntB (List.length (Prod.fst (Prod.snd (Prod.snd (Prod.snd x0))))) (encF rIntB (Prod.fst (Prod.snd (Prod.snd (Prod.snd x0))))), PUnit.unit)) fun x1 =>
                    .sum (x1) (fun x2 =>
                      .ret (x2)) (fun x2 =>
                      .ret (x2)))))))))) := fun a => by kernel_rfl
namespace K
theorem hydro_found {b : Bulbs} {n : Int} (h : (hydro (b, n)).2 = true) : ∃ i, i < len b.hydros ∧ (hyd b.hydros i).id = n ∧ (hydro (b, n)).1 = hyd b.hydros i := by
  rw [hydro_is] at h ⊢
  cases hf : first (p_rhydro b n) (len b.hydros) with
  | none => rw [hf] at h; cases h
  | some i =>
    obtain ⟨h1, h2, _⟩ := first_spec hf
    have h3 : p_rhydro b n i = ((hyd b.hydros i).id == n) := rfl
    rw [h3] at h2
    exact ⟨i, h1, by simpa using h2, rfl⟩
theorem blm_mem {a : Bulbs × Int} {x : Int} : x ∈ blmL a ↔ ∃ g ∈ glassesL a.1 a.2, g.g.id = x ∧ void (errs a.1 (hydro a).1 x) = false := by
  unfold blmL
  rw [List.mem_flatMap]
  constructor
  · rintro ⟨g, hg, h⟩
    unfold blm1 at h
    split at h
    · rename_i hv
      rw [List.mem_singleton] at h; subst h
      exact ⟨g, hg, rfl, by simpa using hv⟩
    · cases h
  · rintro ⟨g, hg, rfl, hv⟩
    refine ⟨g, hg, ?_⟩
    unfold blm1
    rw [if_pos (by simp [hv])]; simp
/-- Glasses that clash, those that are blamed, and the errors, in the case that there is a hydrometer. -/
theorem law_core {b : Bulbs} {hy : Int} (hb : CheckBulbs b = 0) (hf : (hydro (b, hy)).2 = true) (n : Int) :
    (cla (b, hy)).2 = 0 ∧ (blm (b, hy)).2 = 0 ∧ ((off (b, hy)).2 = 0 ∨ (off (b, hy)).2 = 9) ∧ (((off (b, hy)).2 = 0) ↔ (cla (b, hy)).1 = []) ∧ ((off (b, hy)).2 = 0 → (blm (b, hy)).1 = []) ∧
    ∀ k, k < len b.glasses → (gls b.glasses k).hydro = hy → goodG n (off (b, hy)).2 (cla (b, hy)).1 (off (b, hy)).1 (putsB (blm (b, hy)).1 (blm (b, hy)).1.length) (gls b.glasses k) := by
  obtain ⟨i, hi, hid, hh⟩ := hydro_found hf
  have hcla : cla (b, hy) = (sortP (claL (b, hy)), 0) := by unfold cla; rw [if_neg (by simp [hb]), if_neg (by simp [hf])]
  have hperm : (sortP (claL (b, hy))).Perm (claL (b, hy)) := (sortF_spec swoP _).1
  have hempty : (sortP (claL (b, hy))) = [] ↔ void (errs b (hyd b.hydros i) 0) = false := by
    rw [cla_empty (a := (b, hy)) hb hi hid hh]
    exact ⟨fun h => List.Perm.eq_nil (by rw [h] at hperm; exact hperm.symm), fun h => List.Perm.eq_nil (hperm.trans (by rw [h]))⟩
  have hoff : off (b, hy) = if void (errs b (hyd b.hydros i) 0) = true then (⟨0, 0⟩, 9) else (errs b (hyd b.hydros i) 0, 0) := by
    unfold off
    simp only
    rw [if_neg (by simp [hf]), hh]
  have hblm : blm (b, hy) = if (!void (errs b (hyd b.hydros i) 0)) = true then ([], 0) else (sortL (blmL (b, hy)), 0) := by
    unfold blm
    rw [if_neg (by simp [hb]), if_neg (by simp [hf]), hh]
  have hmem : ∀ k, k < len b.glasses → (gls b.glasses k).hydro = hy → toldOf (gls b.glasses k) ∈ glassesL b hy := fun k h1 h2 => mem_gl.2 ⟨k, h1, h2, rfl⟩
  cases hv : void (errs b (hyd b.hydros i) 0) with
  | false =>
    rw [hv] at hoff hblm
    simp only [Bool.false_eq_true, if_false, Bool.not_false, if_true] at hoff hblm
    have he := hempty.2 hv
    rw [hcla, hoff, hblm, he]
    refine ⟨rfl, rfl, .inl rfl, ⟨fun _ => rfl, fun _ => rfl⟩, fun _ => rfl, fun k hk hhy => ⟨?_, fun _ h1 h2 => ?_⟩⟩
    · rw [puts_get]; rfl
    · have hg := hmem k hk hhy
      have tg := told_ok hb hg
      have ho := hyd_ok hb hi
      have e3 : (toldOf (gls b.glasses k)).g = gls b.glasses k := rfl
      rw [e3] at tg
      have l1 := (errs_lo b (hyd b.hydros i) 0 n).1 h1
      have l2 := (errs_hi b (hyd b.hydros i) 0 n).1 h2
      rw [hid] at l1 l2
      have l3 := l1.2 _ hg (by rw [e3]; omega)
      have l4 := l2.2 _ hg (by rw [e3]; omega)
      rw [w64_in (by omega) (by omega)]
      omega
  | true =>
    rw [hv] at hoff hblm
    simp only [if_true, Bool.not_true, Bool.false_eq_true, if_false] at hoff hblm
    have hne : sortP (claL (b, hy)) ≠ [] := fun h => by rw [hempty.1 h] at hv; cases hv
    rw [hcla, hoff, hblm]
    refine ⟨rfl, rfl, .inr rfl, ⟨fun h => by (have : (9 : Int) = 0 := h); omega, fun h => absurd h hne⟩, fun h => by (have : (9 : Int) = 0 := h); omega, fun k hk hhy => ⟨?_, fun h => by (have : (9 : Int) = 0 := h); omega⟩⟩
    have hg := hmem k hk hhy
    have tg := told_ok hb hg
    have e3 : (toldOf (gls b.glasses k)).g = gls b.glasses k := rfl
    rw [e3] at tg
    rw [puts_get]
    have h1 : decide (0 < (sortP (claL (b, hy))).length) = true := decide_eq_true (List.length_pos_iff.2 hne)
    rw [h1, Bool.true_and]
    apply Bool.eq_iff_iff.2
    rw [List.all_eq_true, List.contains_iff_mem, (sortL_perm (blmL (b, hy))).mem_iff, blm_mem]
    have hp := errs_pairs (a := (b, hy)) hb hi hid hh (gls b.glasses k).id (.inr tg.1)
    constructor
    · intro h
      refine ⟨_, hg, rfl, ?_⟩
      rw [hh]
      refine hp.2 fun p hpm => ⟨by omega, ?_⟩
      have := h p (hperm.mem_iff.2 hpm)
      simpa [inP] using this
    · rintro ⟨g, _, _, hv2⟩ p hpm
      rw [hh] at hv2
      have := (hp.1 hv2 p (hperm.mem_iff.1 hpm)).2
      simpa [inP] using this
theorem lawHydros_eq (a : Bulbs × Int × Int) : callT1 P BKHy13 30 7 D_lh dB a = some (lawT a) := by
  obtain ⟨b, hy, n⟩ := a
  show _ = some true
  rw [fn_lh]
  have ez : (decF rIntB 0 fun x x_1 => AV.top) = ([] : List (Int × Bool)) := rfl
  simp only [decF_enc0, ez]
  rw [T.run_br]
  split
  · rfl
  rw [T.run_br]
  split
  · rename_i hb
    have c1 : cla (b, hy) = ([], CheckBulbs b) := by unfold cla; rw [if_pos hb]
    have c2 : blm (b, hy) = ([], CheckBulbs b) := by unfold blm; rw [if_pos hb]
    have h9 : (CheckBulbs b != 9) = true := by simp [bulbs_ne9]
    rw [c1, c2, T.run_br, if_pos hb, T.run_br, if_pos h9, T.run_br, if_pos (by simp), T.run_ret]
    simp
  · rename_i hb
    have hb : CheckBulbs b = 0 := by simpa using hb
    by_cases hf : (hydro (b, hy)).2 = true
    · obtain ⟨h1, h2, h3, h4, h5, h6⟩ := law_core hb hf n
      have hl := cla_le (b, hy); have hm := blm_le (b, hy)
      have hc : clampL (cla (b, hy)).1.length = (cla (b, hy)).1.length := clampL_eq (by unfold maxL; omega)
      have hc2 : clampL (blm (b, hy)).1.length = (blm (b, hy)).1.length := clampL_eq (by unfold maxL; omega)
      have key : ∀ (e : Int), (off (b, hy)).2 = e → T.run (.obs (L_h1 ((hy, n, true, e, (cla (b, hy)).1, (blm (b, hy)).1, 0), b, (off (b, hy)).1, [], ())) fun x0 => .obs (L_h2 ((x0.1.1, x0.1.2.1, x0.1.2.2.1, x0.1.2.2.2.1, x0.1.2.2.2.2.1, 0), x0.2.1, x0.2.2.1, decF rIntB x0.2.2.2.1.length (encF rIntB x0.2.2.2.1), ())) fun x1 => .sum x1 (fun x2 => .ret x2) (fun x2 => .ret x2)) = some true := by
        intro e he
        rw [L_h1_eq _ _ _ _ _ _ _ _ (by omega), T.run_some]
        simp only [decF_encF]
        rw [L_h2_eq _ _ _ _ _ _ _ _ (by omega) (by rw [← he]; exact h6), T.run_some]
        rfl
      rcases h3 with e | e
      · have hn := h4.1 e
        rw [T.run_br, if_neg (by simp [e]), T.run_br, if_neg (by simp [h1]), T.run_br, if_neg (by simp [h2]), T.run_br, if_neg (by simp [e, hn, clampL, maxL]), T.run_br, if_pos (by simp [e]), T.run_br, if_neg (by simp [h5 e, clampL, maxL])]
        exact key _ rfl
      · have hn : (cla (b, hy)).1 ≠ [] := fun h => by have := h4.2 h; omega
        have hlen : ((((cla (b, hy)).1.length : Nat) : Int) == 0) = false := by
          have := List.length_pos_iff.2 hn
          simp; omega
        rw [T.run_br, if_pos (by simp [e]), T.run_br, if_neg (by simp [e]), T.run_br, if_neg (by simp [h1]), T.run_br, if_neg (by simp [h2]), T.run_br, if_neg (by rw [hc, hlen]; simp [e]), T.run_br, if_neg (by simp [e])]
        exact key _ rfl
    · have hf : (hydro (b, hy)).2 = false := by simpa using hf
      have c1 : cla (b, hy) = ([], 5) := by unfold cla; rw [if_neg (by simp [hb]), if_pos (by simp [hf])]
      have c2 : blm (b, hy) = ([], 5) := by unfold blm; rw [if_neg (by simp [hb]), if_pos (by simp [hf])]
      have c3 : (off (b, hy)).2 = 5 := by
        unfold off
        simp only
        rw [if_pos (by simp [hf])]
      rw [c1, c2, c3]
      rfl
end K
end Go.Proofs.YtjbhooodjmjdkaaGreat
