/- Parts of the proof, one behind the other: KX5, KN12. No conditions. -/
import Derived.Test.YtkajafmphemedaaBb6
/-! KX5 -/
namespace Go.Proofs.Ytkajafmphemedaa
open Ev K
set_option maxRecDepth 100000
def K.setM : Nat → Survey → Span → Survey
  | 0, x, s => { x with m0 := s }
  | 1, x, s => { x with m1 := s }
  | 2, x, s => { x with m2 := s }
  | 3, x, s => { x with m3 := s }
  | 4, x, s => { x with m4 := s }
  | _, x, s => { x with m5 := s }
def K.getM : Nat → Survey → Span
  | 0, x => x.m0
  | 1, x => x.m1
  | 2, x => x.m2
  | 3, x => x.m3
  | 4, x => x.m4
  | _, x => x.m5
theorem K.setM_again : ∀ (k : Nat) (x : Survey) (s t : Span), setM k (setM k x s) t = setM k x t
  | 0, _, _, _ => rfl
  | 1, _, _, _ => rfl
  | 2, _, _, _ => rfl
  | 3, _, _, _ => rfl
  | 4, _, _, _ => rfl
  | _ + 5, _, _, _ => rfl
/-- How many masses there are, if that is more. -/
noncomputable def K.moreOf (m : Span) (a : Int) : Int := if IntKind.i64.wrap (IntKind.i64.wrap (m.hi - m.lo) + 1) > a then IntKind.i64.wrap (IntKind.i64.wrap (m.hi - m.lo) + 1) else a
noncomputable def K.useStep (s : Ship) (b : Bulbs) (k : Nat) (x : Survey) (n a : Int) : Int := if (check (b, setM k x ⟨n, n⟩) == 0) = true then moreOf (massOf s b (setM k x ⟨n, n⟩)) a else a
noncomputable def K.useOf (s : Ship) (b : Bulbs) (k : Nat) (x : Survey) : Int := (List.range ((getM k x).hi - (getM k x).lo + 1).toNat).foldl (fun a (i : Nat) => useStep s b k x ((getM k x).lo + (i : Int)) a) 0
noncomputable def K.r_useStep (s : Ship) (b : Bulbs) (k : Nat) (x : Survey) (n a : Int) : Int := if r_none (r_six (setM k x ⟨n, n⟩)) = true then a else moreOf (r_mass s b (setM k x ⟨n, n⟩)) a
noncomputable def K.r_useOf (s : Ship) (b : Bulbs) (k : Nat) (x : Survey) : Int := (List.range ((getM k x).hi - (getM k x).lo + 1).toNat).foldl (fun a (i : Nat) => r_useStep s b k x ((getM k x).lo + (i : Int)) a) 0
/-- The survey at the head of a round. -/
def K.useX (k : Nat) (x : Survey) (lo : Int) : Nat → Survey
  | 0 => x
  | i + 1 => setM k x ⟨lo + (i : Int), lo + (i : Int)⟩
theorem K.useX_set (k : Nat) (x : Survey) (lo : Int) (i : Nat) (s : Span) : setM k (useX k x lo i) s = setM k x s := by
  cases i with
  | zero => rfl
  | succ i => exact setM_again k x _ _
theorem K.setM_at : ∀ (k : Nat) (x : Survey) (s : Span), getM k (setM k x s) = s
  | 0, _, _ => rfl
  | 1, _, _ => rfl
  | 2, _, _ => rfl
  | 3, _, _ => rfl
  | 4, _, _ => rfl
  | _ + 5, _, _ => rfl
theorem K.dens_set (b : Bulbs) : ∀ (k : Nat) (x : Survey) (s : Span), density (b, setM k x s) = density (b, x)
  | 0, _, _ => rfl
  | 1, _, _ => rfl
  | 2, _, _ => rfl
  | 3, _, _ => rfl
  | 4, _, _ => rfl
  | _ + 5, _, _ => rfl
theorem K.getM_ok {x : Survey} (g : K.Good x) : ∀ k, MarkOk (getM k x)
  | 0 => g.m0
  | 1 => g.m1
  | 2 => g.m2
  | 3 => g.m3
  | 4 => g.m4
  | _ + 5 => g.m5
theorem K.setM_ok {x : Survey} (g : K.Good x) {s : Span} (h : MarkOk s) : ∀ k, K.Good (setM k x s)
  | 0 => ⟨g.id, g.tick, g.sag, g.shown, h, g.m1, g.m2, g.m3, g.m4, g.m5⟩
  | 1 => ⟨g.id, g.tick, g.sag, g.shown, g.m0, h, g.m2, g.m3, g.m4, g.m5⟩
  | 2 => ⟨g.id, g.tick, g.sag, g.shown, g.m0, g.m1, h, g.m3, g.m4, g.m5⟩
  | 3 => ⟨g.id, g.tick, g.sag, g.shown, g.m0, g.m1, g.m2, h, g.m4, g.m5⟩
  | 4 => ⟨g.id, g.tick, g.sag, g.shown, g.m0, g.m1, g.m2, g.m3, h, g.m5⟩
  | _ + 5 => ⟨g.id, g.tick, g.sag, g.shown, g.m0, g.m1, g.m2, g.m3, g.m4, h⟩
theorem K.one_ok {x : Survey} (g : K.Good x) (k : Nat) {n : Int} (h1 : (getM k x).lo ≤ n) (h2 : n ≤ (getM k x).hi) : K.Good (setM k x ⟨n, n⟩) := by
  obtain ⟨a, b, c, d⟩ := getM_ok g k
  exact setM_ok g ⟨by simp only; omega, by simp only; omega, by simp only; omega, by simp only; omega⟩ k
theorem K.hull_ok {s : Ship} {b : Bulbs} {x : Survey} (hs : ShipOk s) (hc : check (b, x) = 0) : massOk s x = true := by
  obtain ⟨g, d, e⟩ := check_ok hc
  exact (massOk_is hs g e).1
theorem K.six_bool {x : Survey} (g : K.Good x) : r_none (r_six x) = !(extremes x).2 := by
  cases he : (extremes x).2 with
  | false => exact six_none g he
  | true => obtain ⟨e1, e2⟩ := six_is g he; rw [e1, r_none_is, void_false.2 e2]; rfl
/-- When the masses may be counted. -/
noncomputable def K.useG (s : Ship) (b : Bulbs) (x : Survey) : Bool := hullCheck s == 0 && Check (b, x) == 0
theorem K.useG_ok {s : Ship} {b : Bulbs} {x : Survey} (h : useG s b x = true) : ShipOk s ∧ CheckBulbs b = 0 ∧ K.Good x ∧ (density (b, x)).2 = 0 ∧ (extremes x).2 = true := by
  unfold useG at h
  rw [Bool.and_eq_true] at h
  exact ⟨ship_ok (eq_of_beq h.1), Check_ok (eq_of_beq h.2)⟩
def D_us0 := DecL.cons dShip (.cons dBulbs (.cons dSurvey (.last (dIl 0) 0)))
def S_us0 := DecS.mk0 (.skips 3 (.unit (dIl 0) (.unit (dLp 0 0 0 0) (.unit (dLp 1 0 0 0) (.unit (dLp 2 0 0 0) (.skips 2 (.cons (dI .i64) (.unit (dLp 3 0 0 0) (.last (dI .i64) 36)))))))))  (.flat 27 lShip (.flat 31 lBulbs (.flat 36 lSurvey (.flat 33 lSpan .nil))))
def X_us0 := DecX.one (.exit 0) [9] (DecS.mk1 (.skips 9 (.last (dI .i64) 38)))
noncomputable def K.st_us0 := loopT1 P BKN112 30 48 33 [11, 9, 6, 5, 4, 3, 10] S_us0 X_us0
theorem sl_us0 : ∀ s, (K.st_us0) s = T.run (
  .br (decide (Prod.snd (Prod.fst s) ≤ Span.hi (Prod.fst (Prod.snd (Prod.snd (Prod.snd (Prod.snd s))))))) (
    .br (check (Prod.fst (Prod.snd (Prod.snd s)), Survey.mk (Survey.id (Prod.fst (Prod.snd (Prod.snd (Prod.snd s))))) (Survey.tick (Prod.fst (Prod.snd (Prod.snd (Prod.snd s))))) (Span.mk (Prod.snd (Prod.fst s)) (Prod.snd (Prod.fst s))) (Survey.m1 (Prod.fst (Prod.snd (Prod.snd (Prod.snd s))))) (Survey.m2 (Prod.fst (Prod.snd (Prod.snd (Prod.snd s))))) (Survey.m3 (Prod.fst (Prod.snd (Prod.snd (Prod.snd s))))) (Survey.m4 (Prod.fst (Prod.snd (Prod.snd (Prod.snd s))))) (Survey.m5 (Prod.fst (Prod.snd (Prod.snd (Prod.snd s))))) (Survey.sag (Prod.fst (Prod.snd (Prod.snd (Prod.snd s))))) (Survey.hydro (Prod.fst (Prod.snd (Prod.snd (Prod.snd s))))) (Survey.shown (Prod.fst (Prod.snd (Prod.snd (Prod.snd s)))))) == (0 : Int)) (
      .chk (massOk (Prod.fst (Prod.snd s)) (Survey.mk (Survey.id (Prod.fst (Prod.snd (Prod.snd (Prod.snd s))))) (Survey.tick (Prod.fst (Prod.snd (Prod.snd (Prod.snd s))))) (Span.mk (Prod.snd (Prod.fst s)) (Prod.snd (Prod.fst s))) (Survey.m1 (Prod.fst (Prod.snd (Prod.snd (Prod.snd s))))) (Survey.m2 (Prod.fst (Prod.snd (Prod.snd (Prod.snd s))))) (Survey.m3 (Prod.fst (Prod.snd (Prod.snd (Prod.snd s))))) (Survey.m4 (Prod.fst (Prod.snd (Prod.snd (Prod.snd s))))) (Survey.m5 (Prod.fst (Prod.snd (Prod.snd (Prod.snd s))))) (Survey.sag (Prod.fst (Prod.snd (Prod.snd (Prod.snd s))))) (Survey.hydro (Prod.fst (Prod.snd (Prod.snd (Prod.snd s))))) (Survey.shown (Prod.fst (Prod.snd (Prod.snd (Prod.snd s))))))) <|
      .ret (Sum.inl ((if IntKind.wrap IntKind.i64 (IntKind.wrap IntKind.i64 (Span.hi (massOf (Prod.fst (Prod.snd s)) (Prod.fst (Prod.snd (Prod.snd s))) (Survey.mk (Survey.id (Prod.fst (Prod.snd (Prod.snd (Prod.snd s))))) (Survey.tick (Prod.fst (Prod.snd (Prod.snd (Prod.snd s))))) (Span.mk (Prod.snd (Prod.fst s)) (Prod.snd (Prod.fst s))) (Survey.m1 (Prod.fst (Prod.snd (Prod.snd (Prod.snd s))))) (Survey.m2 (Prod.fst (Prod.snd (Prod.snd (Prod.snd s))))) (Survey.m3 (Prod.fst (Prod.snd (Prod.snd (Prod.snd s))))) (Survey.m4 (Prod.fst (Prod.snd (Prod.snd (Prod.snd s))))) (Survey.m5 (Prod.fst (Prod.snd (Prod.snd (Prod.snd s))))) (Survey.sag (Prod.fst (Prod.snd (Prod.snd (Prod.snd s))))) (Survey.hydro (Prod.fst (Prod.snd (Prod.snd (Prod.snd s))))) (Survey.shown (Prod.fst (Prod.snd (Prod.snd (Prod.snd s))))))) - Span.lo (massOf (Prod.fst (Prod.snd s)) (Prod.fst (Prod.snd (Prod.snd s))) (Survey.mk (Survey.id (Prod.fst (Prod.snd (Prod.snd (Prod.snd s))))) (Survey.tick (Prod.fst (Prod.snd (Prod.snd (Prod.snd s))))) (Span.mk (Prod.snd (Prod.fst s)) (Prod.snd (Prod.fst s))) (Survey.m1 (Prod.fst (Prod.snd (Prod.snd (Prod.snd s))))) (Survey.m2 (Prod.fst (Prod.snd (Prod.snd (Prod.snd s))))) (Survey.m3 (Prod.fst (Prod.snd (Prod.snd (Prod.snd s))))) (Survey.m4 (Prod.fst (Prod.snd (Prod.snd (Prod.snd s))))) (Survey.m5 (Prod.fst (Prod.snd (Prod.snd (Prod.snd s))))) (Survey.sag (Prod.fst (Prod.snd (Prod.snd (Prod.snd s))))) (Survey.hydro (Prod.fst (Prod.snd (Prod.snd (Prod.snd s))))) (Survey.shown (Prod.fst (Prod.snd (Prod.snd (Prod.snd s)))))))) + (1 : Int)) > Prod.fst (Prod.fst s) then IntKind.wrap IntKind.i64 (IntKind.wrap IntKind.i64 (Span.hi (massOf (Prod.fst (Prod.snd s)) (Prod.fst (Prod.snd (Prod.snd s))) (Survey.mk (Survey.id (Prod.fst (Prod.snd (Prod.snd (Prod.snd s))))) (Survey.tick (Prod.fst (Prod.snd (Prod.snd (Prod.snd s))))) (Span.mk (Prod.snd (Prod.fst s)) (Prod.snd (Prod.fst s))) (Survey.m1 (Prod.fst (Prod.snd (Prod.snd (Prod.snd s))))) (Survey.m2 (Prod.fst (Prod.snd (Prod.snd (Prod.snd s))))) (Survey.m3 (Prod.fst (Prod.snd (Prod.snd (Prod.snd s))))) (Survey.m4 (Prod.fst (Prod.snd (Prod.snd (Prod.snd s))))) (Survey.m5 (Prod.fst (Prod.snd (Prod.snd (Prod.snd s))))) (Survey.sag (Prod.fst (Prod.snd (Prod.snd (Prod.snd s))))) (Survey.hydro (Prod.fst (Prod.snd (Prod.snd (Prod.snd s))))) (Survey.shown (Prod.fst (Prod.snd (Prod.snd (Prod.snd s))))))) - Span.lo (massOf (Prod.fst (Prod.snd s)) (Prod.fst (Prod.snd (Prod.snd s))) (Survey.mk (Survey.id (Prod.fst (Prod.snd (Prod.snd (Prod.snd s))))) (Survey.tick (Prod.fst (Prod.snd (Prod.snd (Prod.snd s))))) (Span.mk (Prod.snd (Prod.fst s)) (Prod.snd (Prod.fst s))) (Survey.m1 (Prod.fst (Prod.snd (Prod.snd (Prod.snd s))))) (Survey.m2 (Prod.fst (Prod.snd (Prod.snd (Prod.snd s))))) (Survey.m3 (Prod.fst (Prod.snd (Prod.snd (Prod.snd s))))) (Survey.m4 (Prod.fst (Prod.snd (Prod.snd (Prod.snd s))))) (Survey.m5 (Prod.fst (Prod.snd (Prod.snd (Prod.snd s))))) (Survey.sag (Prod.fst (Prod.snd (Prod.snd (Prod.snd s))))) (Survey.hydro (Prod.fst (Prod.snd (Prod.snd (Prod.snd s))))) (Survey.shown (Prod.fst (Prod.snd (Prod.snd (Prod.snd s)))))))) + (1 : Int)) else Prod.fst (Prod.fst s), IntKind.wrap IntKind.i64 (Prod.snd (Prod.fst s) + (1 : Int))), Prod.fst (Prod.snd s), Prod.fst (Prod.snd (Prod.snd s)), Survey.mk (Survey.id (Prod.fst (Prod.snd (Prod.snd (Prod.snd s))))) (Survey.tick (Prod.fst (Prod.snd (Prod.snd (Prod.snd s))))) (Span.mk (Prod.snd (Prod.fst s)) (Prod.snd (Prod.fst s))) (Survey.m1 (Prod.fst (Prod.snd (Prod.snd (Prod.snd s))))) (Survey.m2 (Prod.fst (Prod.snd (Prod.snd (Prod.snd s))))) (Survey.m3 (Prod.fst (Prod.snd (Prod.snd (Prod.snd s))))) (Survey.m4 (Prod.fst (Prod.snd (Prod.snd (Prod.snd s))))) (Survey.m5 (Prod.fst (Prod.snd (Prod.snd (Prod.snd s))))) (Survey.sag (Prod.fst (Prod.snd (Prod.snd (Prod.snd s))))) (Survey.hydro (Prod.fst (Prod.snd (Prod.snd (Prod.snd s))))) (Survey.shown (Prod.fst (Prod.snd (Prod.snd (Prod.snd s))))), Prod.fst (Prod.snd (Prod.snd (Prod.snd (Prod.snd s)))), PUnit.unit))) (
      .ret (Sum.inl ((Prod.fst (Prod.fst s), IntKind.wrap IntKind.i64 (Prod.snd (Prod.fst s) + (1 : Int))), Prod.fst (Prod.snd s), Prod.fst (Prod.snd (Prod.snd s)), Survey.mk (Survey.id (Prod.fst (Prod.snd (Prod.snd (Prod.snd s))))) (Survey.tick (Prod.fst (Prod.snd (Prod.snd (Prod.snd s))))) (Span.mk (Prod.snd (Prod.fst s)) (Prod.snd (Prod.fst s))) (Survey.m1 (Prod.fst (Prod.snd (Prod.snd (Prod.snd s))))) (Survey.m2 (Prod.fst (Prod.snd (Prod.snd (Prod.snd s))))) (Survey.m3 (Prod.fst (Prod.snd (Prod.snd (Prod.snd s))))) (Survey.m4 (Prod.fst (Prod.snd (Prod.snd (Prod.snd s))))) (Survey.m5 (Prod.fst (Prod.snd (Prod.snd (Prod.snd s))))) (Survey.sag (Prod.fst (Prod.snd (Prod.snd (Prod.snd s))))) (Survey.hydro (Prod.fst (Prod.snd (Prod.snd (Prod.snd s))))) (Survey.shown (Prod.fst (Prod.snd (Prod.snd (Prod.snd s))))), Prod.fst (Prod.snd (Prod.snd (Prod.snd (Prod.snd s)))), PUnit.unit)))) (
    .ret (Sum.inr (Prod.fst (Prod.fst s))))) := fun s => by kernel_rfl
noncomputable def K.L_us0 := lim K.st_us0
theorem K.L_us0_eq (s : Ship) (b : Bulbs) (x : Survey) (hs : ShipOk s) (g : K.Good x) : K.L_us0 ((0, (getM 0 x).lo), s, b, x, getM 0 x, ()) = some (useOf s b 0 x) := by
  obtain ⟨o1, o2, o3, o4⟩ := getM_ok g 0
  have key := lim_fold (step := K.st_us0) (fun (i : Nat) (a : Int) => ((a, (getM 0 x).lo + (i : Int)), s, b, useX 0 x (getM 0 x).lo i, getM 0 x, ())) ((getM 0 x).hi - (getM 0 x).lo + 1).toNat (fun a (i : Nat) => useStep s b 0 x ((getM 0 x).lo + (i : Int)) a) id (fun i hi a => ?_) (fun a => ?_) 0
  · have e0 : (getM 0 x).lo + ((0 : Nat) : Int) = (getM 0 x).lo := by omega
    simp only [e0] at key
    exact key
  · rw [sl_us0]
    refine Eq.trans (T.run_br _ _ _) ?_
    rw [if_pos (by simp only [decide_eq_true_eq]; omega)]
    unfold useStep
    rw [← useX_set 0 x (getM 0 x).lo i ⟨(getM 0 x).lo + (i : Int), (getM 0 x).lo + (i : Int)⟩]
    have e1 : IntKind.wrap IntKind.i64 ((getM 0 x).lo + (i : Int) + 1) = (getM 0 x).lo + ((i + 1 : Nat) : Int) := by rw [w64_in (by omega) (by omega)]; omega
    have e2 : useX 0 x (getM 0 x).lo (i + 1) = setM 0 (useX 0 x (getM 0 x).lo i) ⟨(getM 0 x).lo + (i : Int), (getM 0 x).lo + (i : Int)⟩ := by rw [useX_set]; rfl
    rw [e2]
    by_cases hc : (check (b, setM 0 (useX 0 x (getM 0 x).lo i) ⟨(getM 0 x).lo + (i : Int), (getM 0 x).lo + (i : Int)⟩) == 0) = true
    · rw [if_pos hc]
      refine Eq.trans (T.run_br _ _ _) ((if_pos hc).trans ?_)
      refine chk_step (hull_ok hs (eq_of_beq hc)) ?_
      rw [T.run_ret, e1]; rfl
    · rw [if_neg hc]
      refine Eq.trans (T.run_br _ _ _) ((if_neg hc).trans ?_)
      rw [T.run_ret, e1]; rfl
  · rw [sl_us0]
    simp only [T.run_br, T.run_chk, T.run_ret, decide_eq_true_eq]
    rw [if_neg (by omega)]; rfl
noncomputable def BKX51 : Tab := BKN112.addNode 48 33 (nodeE [11, 9, 6, 5, 4, 3, 10] S_us0 X_us0 (fun s => .obs (K.L_us0 s) .ret))
theorem tKX51 : TabOk P BKX51 := TabOk.addLoop (d := 30) okP tKN112 (by kernel_rfl) (by kernel_rfl) (fun s r h => obs_ret h)
theorem fn_us0 : ∀ a, (callT1 P BKX51 30 48 D_us0 (dI .i64)) a = T.run (
  .obs (L_us0 (((0 : Int), Span.lo (Survey.m0 (Prod.fst (Prod.snd (Prod.snd a))))), Prod.fst a, Prod.fst (Prod.snd a), Prod.fst (Prod.snd (Prod.snd a)), Survey.m0 (Prod.fst (Prod.snd (Prod.snd a))), PUnit.unit)) fun x0 =>
    .ret (x0)) := fun a => by kernel_rfl
theorem K.us0_eq (s : Ship) (b : Bulbs) (x : Survey) (hs : ShipOk s) (g : K.Good x) : callT1 P BKX51 30 48 D_us0 (dI .i64) (s, b, x, ()) = some (useOf s b 0 x) := by
  rw [fn_us0]
  show T.run (.obs (L_us0 ((0, (getM 0 x).lo), s, b, x, getM 0 x, ())) _) = _
  rw [L_us0_eq s b x hs g]; rfl
theorem us0_pc (s : Ship) (b : Bulbs) (x : Survey) (hs : ShipOk s) (g : K.Good x) : PC P 48 (D_us0.enc (s, b, x, ())) ((dI .i64).enc (useOf s b 0 x)) := call_of okP tKX51 (K.us0_eq s b x hs g)

def D_ur0 := DecL.cons dShip (.cons dBulbs (.cons dSurvey (.last (dIl 0) 0)))
def S_ur0 := DecS.mk0 (.skips 3 (.unit (dIl 0) (.unit (dLp 0 0 0 0) (.unit (dLp 1 0 0 0) (.unit (dLp 2 0 0 0) (.skips 2 (.cons (dI .i64) (.unit (dLp 3 0 0 0) (.last (dI .i64) 35)))))))))  (.flat 27 lShip (.flat 31 lBulbs (.flat 36 lSurvey (.flat 33 lSpan .nil))))
def X_ur0 := DecX.one (.exit 0) [9] (DecS.mk1 (.skips 9 (.last (dI .i64) 37)))
noncomputable def K.st_ur0 := loopT1 P BKX51 30 49 33 [11, 9, 6, 5, 4, 3, 10] S_ur0 X_ur0
theorem sl_ur0 : ∀ s, (K.st_ur0) s = T.run (
  .br (decide (Prod.snd (Prod.fst s) ≤ Span.hi (Prod.fst (Prod.snd (Prod.snd (Prod.snd (Prod.snd s))))))) (
    .chk (sixOk (Survey.mk (Survey.id (Prod.fst (Prod.snd (Prod.snd (Prod.snd s))))) (Survey.tick (Prod.fst (Prod.snd (Prod.snd (Prod.snd s))))) (Span.mk (Prod.snd (Prod.fst s)) (Prod.snd (Prod.fst s))) (Survey.m1 (Prod.fst (Prod.snd (Prod.snd (Prod.snd s))))) (Survey.m2 (Prod.fst (Prod.snd (Prod.snd (Prod.snd s))))) (Survey.m3 (Prod.fst (Prod.snd (Prod.snd (Prod.snd s))))) (Survey.m4 (Prod.fst (Prod.snd (Prod.snd (Prod.snd s))))) (Survey.m5 (Prod.fst (Prod.snd (Prod.snd (Prod.snd s))))) (Survey.sag (Prod.fst (Prod.snd (Prod.snd (Prod.snd s))))) (Survey.hydro (Prod.fst (Prod.snd (Prod.snd (Prod.snd s))))) (Survey.shown (Prod.fst (Prod.snd (Prod.snd (Prod.snd s))))))) <|
    .br (r_none (r_six (Survey.mk (Survey.id (Prod.fst (Prod.snd (Prod.snd (Prod.snd s))))) (Survey.tick (Prod.fst (Prod.snd (Prod.snd (Prod.snd s))))) (Span.mk (Prod.snd (Prod.fst s)) (Prod.snd (Prod.fst s))) (Survey.m1 (Prod.fst (Prod.snd (Prod.snd (Prod.snd s))))) (Survey.m2 (Prod.fst (Prod.snd (Prod.snd (Prod.snd s))))) (Survey.m3 (Prod.fst (Prod.snd (Prod.snd (Prod.snd s))))) (Survey.m4 (Prod.fst (Prod.snd (Prod.snd (Prod.snd s))))) (Survey.m5 (Prod.fst (Prod.snd (Prod.snd (Prod.snd s))))) (Survey.sag (Prod.fst (Prod.snd (Prod.snd (Prod.snd s))))) (Survey.hydro (Prod.fst (Prod.snd (Prod.snd (Prod.snd s))))) (Survey.shown (Prod.fst (Prod.snd (Prod.snd (Prod.snd s)))))))) (
      .ret (Sum.inl ((Prod.fst (Prod.fst s), IntKind.wrap IntKind.i64 (Prod.snd (Prod.fst s) + (1 : Int))), Prod.fst (Prod.snd s), Prod.fst (Prod.snd (Prod.snd s)), Survey.mk (Survey.id (Prod.fst (Prod.snd (Prod.snd (Prod.snd s))))) (Survey.tick (Prod.fst (Prod.snd (Prod.snd (Prod.snd s))))) (Span.mk (Prod.snd (Prod.fst s)) (Prod.snd (Prod.fst s))) (Survey.m1 (Prod.fst (Prod.snd (Prod.snd (Prod.snd s))))) (Survey.m2 (Prod.fst (Prod.snd (Prod.snd (Prod.snd s))))) (Survey.m3 (Prod.fst (Prod.snd (Prod.snd (Prod.snd s))))) (Survey.m4 (Prod.fst (Prod.snd (Prod.snd (Prod.snd s))))) (Survey.m5 (Prod.fst (Prod.snd (Prod.snd (Prod.snd s))))) (Survey.sag (Prod.fst (Prod.snd (Prod.snd (Prod.snd s))))) (Survey.hydro (Prod.fst (Prod.snd (Prod.snd (Prod.snd s))))) (Survey.shown (Prod.fst (Prod.snd (Prod.snd (Prod.snd s))))), Prod.fst (Prod.snd (Prod.snd (Prod.snd (Prod.snd s)))), PUnit.unit))) (
      .chk (r_massOk (Prod.fst (Prod.snd s)) (Survey.mk (Survey.id (Prod.fst (Prod.snd (Prod.snd (Prod.snd s))))) (Survey.tick (Prod.fst (Prod.snd (Prod.snd (Prod.snd s))))) (Span.mk (Prod.snd (Prod.fst s)) (Prod.snd (Prod.fst s))) (Survey.m1 (Prod.fst (Prod.snd (Prod.snd (Prod.snd s))))) (Survey.m2 (Prod.fst (Prod.snd (Prod.snd (Prod.snd s))))) (Survey.m3 (Prod.fst (Prod.snd (Prod.snd (Prod.snd s))))) (Survey.m4 (Prod.fst (Prod.snd (Prod.snd (Prod.snd s))))) (Survey.m5 (Prod.fst (Prod.snd (Prod.snd (Prod.snd s))))) (Survey.sag (Prod.fst (Prod.snd (Prod.snd (Prod.snd s))))) (Survey.hydro (Prod.fst (Prod.snd (Prod.snd (Prod.snd s))))) (Survey.shown (Prod.fst (Prod.snd (Prod.snd (Prod.snd s))))))) <|
      .ret (Sum.inl ((if IntKind.wrap IntKind.i64 (IntKind.wrap IntKind.i64 (Span.hi (r_mass (Prod.fst (Prod.snd s)) (Prod.fst (Prod.snd (Prod.snd s))) (Survey.mk (Survey.id (Prod.fst (Prod.snd (Prod.snd (Prod.snd s))))) (Survey.tick (Prod.fst (Prod.snd (Prod.snd (Prod.snd s))))) (Span.mk (Prod.snd (Prod.fst s)) (Prod.snd (Prod.fst s))) (Survey.m1 (Prod.fst (Prod.snd (Prod.snd (Prod.snd s))))) (Survey.m2 (Prod.fst (Prod.snd (Prod.snd (Prod.snd s))))) (Survey.m3 (Prod.fst (Prod.snd (Prod.snd (Prod.snd s))))) (Survey.m4 (Prod.fst (Prod.snd (Prod.snd (Prod.snd s))))) (Survey.m5 (Prod.fst (Prod.snd (Prod.snd (Prod.snd s))))) (Survey.sag (Prod.fst (Prod.snd (Prod.snd (Prod.snd s))))) (Survey.hydro (Prod.fst (Prod.snd (Prod.snd (Prod.snd s))))) (Survey.shown (Prod.fst (Prod.snd (Prod.snd (Prod.snd s))))))) - Span.lo (r_mass (Prod.fst (Prod.snd s)) (Prod.fst (Prod.snd (Prod.snd s))) (Survey.mk (Survey.id (Prod.fst (Prod.snd (Prod.snd (Prod.snd s))))) (Survey.tick (Prod.fst (Prod.snd (Prod.snd (Prod.snd s))))) (Span.mk (Prod.snd (Prod.fst s)) (Prod.snd (Prod.fst s))) (Survey.m1 (Prod.fst (Prod.snd (Prod.snd (Prod.snd s))))) (Survey.m2 (Prod.fst (Prod.snd (Prod.snd (Prod.snd s))))) (Survey.m3 (Prod.fst (Prod.snd (Prod.snd (Prod.snd s))))) (Survey.m4 (Prod.fst (Prod.snd (Prod.snd (Prod.snd s))))) (Survey.m5 (Prod.fst (Prod.snd (Prod.snd (Prod.snd s))))) (Survey.sag (Prod.fst (Prod.snd (Prod.snd (Prod.snd s))))) (Survey.hydro (Prod.fst (Prod.snd (Prod.snd (Prod.snd s))))) (Survey.shown (Prod.fst (Prod.snd (Prod.snd (Prod.snd s)))))))) + (1 : Int)) > Prod.fst (Prod.fst s) then IntKind.wrap IntKind.i64 (IntKind.wrap IntKind.i64 (Span.hi (r_mass (Prod.fst (Prod.snd s)) (Prod.fst (Prod.snd (Prod.snd s))) (Survey.mk (Survey.id (Prod.fst (Prod.snd (Prod.snd (Prod.snd s))))) (Survey.tick (Prod.fst (Prod.snd (Prod.snd (Prod.snd s))))) (Span.mk (Prod.snd (Prod.fst s)) (Prod.snd (Prod.fst s))) (Survey.m1 (Prod.fst (Prod.snd (Prod.snd (Prod.snd s))))) (Survey.m2 (Prod.fst (Prod.snd (Prod.snd (Prod.snd s))))) (Survey.m3 (Prod.fst (Prod.snd (Prod.snd (Prod.snd s))))) (Survey.m4 (Prod.fst (Prod.snd (Prod.snd (Prod.snd s))))) (Survey.m5 (Prod.fst (Prod.snd (Prod.snd (Prod.snd s))))) (Survey.sag (Prod.fst (Prod.snd (Prod.snd (Prod.snd s))))) (Survey.hydro (Prod.fst (Prod.snd (Prod.snd (Prod.snd s))))) (Survey.shown (Prod.fst (Prod.snd (Prod.snd (Prod.snd s))))))) - Span.lo (r_mass (Prod.fst (Prod.snd s)) (Prod.fst (Prod.snd (Prod.snd s))) (Survey.mk (Survey.id (Prod.fst (Prod.snd (Prod.snd (Prod.snd s))))) (Survey.tick (Prod.fst (Prod.snd (Prod.snd (Prod.snd s))))) (Span.mk (Prod.snd (Prod.fst s)) (Prod.snd (Prod.fst s))) (Survey.m1 (Prod.fst (Prod.snd (Prod.snd (Prod.snd s))))) (Survey.m2 (Prod.fst (Prod.snd (Prod.snd (Prod.snd s))))) (Survey.m3 (Prod.fst (Prod.snd (Prod.snd (Prod.snd s))))) (Survey.m4 (Prod.fst (Prod.snd (Prod.snd (Prod.snd s))))) (Survey.m5 (Prod.fst (Prod.snd (Prod.snd (Prod.snd s))))) (Survey.sag (Prod.fst (Prod.snd (Prod.snd (Prod.snd s))))) (Survey.hydro (Prod.fst (Prod.snd (Prod.snd (Prod.snd s))))) (Survey.shown (Prod.fst (Prod.snd (Prod.snd (Prod.snd s)))))))) + (1 : Int)) else Prod.fst (Prod.fst s), IntKind.wrap IntKind.i64 (Prod.snd (Prod.fst s) + (1 : Int))), Prod.fst (Prod.snd s), Prod.fst (Prod.snd (Prod.snd s)), Survey.mk (Survey.id (Prod.fst (Prod.snd (Prod.snd (Prod.snd s))))) (Survey.tick (Prod.fst (Prod.snd (Prod.snd (Prod.snd s))))) (Span.mk (Prod.snd (Prod.fst s)) (Prod.snd (Prod.fst s))) (Survey.m1 (Prod.fst (Prod.snd (Prod.snd (Prod.snd s))))) (Survey.m2 (Prod.fst (Prod.snd (Prod.snd (Prod.snd s))))) (Survey.m3 (Prod.fst (Prod.snd (Prod.snd (Prod.snd s))))) (Survey.m4 (Prod.fst (Prod.snd (Prod.snd (Prod.snd s))))) (Survey.m5 (Prod.fst (Prod.snd (Prod.snd (Prod.snd s))))) (Survey.sag (Prod.fst (Prod.snd (Prod.snd (Prod.snd s))))) (Survey.hydro (Prod.fst (Prod.snd (Prod.snd (Prod.snd s))))) (Survey.shown (Prod.fst (Prod.snd (Prod.snd (Prod.snd s))))), Prod.fst (Prod.snd (Prod.snd (Prod.snd (Prod.snd s)))), PUnit.unit)))) (
    .ret (Sum.inr (Prod.fst (Prod.fst s))))) := fun s => by kernel_rfl
noncomputable def K.L_ur0 := lim K.st_ur0
theorem K.L_ur0_eq (s : Ship) (b : Bulbs) (x : Survey) (hs : ShipOk s) (g : K.Good x) : K.L_ur0 ((0, (getM 0 x).lo), s, b, x, getM 0 x, ()) = some (r_useOf s b 0 x) := by
  obtain ⟨o1, o2, o3, o4⟩ := getM_ok g 0
  have key := lim_fold (step := K.st_ur0) (fun (i : Nat) (a : Int) => ((a, (getM 0 x).lo + (i : Int)), s, b, useX 0 x (getM 0 x).lo i, getM 0 x, ())) ((getM 0 x).hi - (getM 0 x).lo + 1).toNat (fun a (i : Nat) => r_useStep s b 0 x ((getM 0 x).lo + (i : Int)) a) id (fun i hi a => ?_) (fun a => ?_) 0
  · have e0 : (getM 0 x).lo + ((0 : Nat) : Int) = (getM 0 x).lo := by omega
    simp only [e0] at key
    exact key
  · rw [sl_ur0]
    refine Eq.trans (T.run_br _ _ _) ?_
    rw [if_pos (by simp only [decide_eq_true_eq]; omega)]
    unfold r_useStep
    rw [← useX_set 0 x (getM 0 x).lo i ⟨(getM 0 x).lo + (i : Int), (getM 0 x).lo + (i : Int)⟩]
    have e1 : IntKind.wrap IntKind.i64 ((getM 0 x).lo + (i : Int) + 1) = (getM 0 x).lo + ((i + 1 : Nat) : Int) := by rw [w64_in (by omega) (by omega)]; omega
    have e2 : useX 0 x (getM 0 x).lo (i + 1) = setM 0 (useX 0 x (getM 0 x).lo i) ⟨(getM 0 x).lo + (i : Int), (getM 0 x).lo + (i : Int)⟩ := by rw [useX_set]; rfl
    rw [e2]
    have gy : K.Good (setM 0 (useX 0 x (getM 0 x).lo i) ⟨(getM 0 x).lo + (i : Int), (getM 0 x).lo + (i : Int)⟩) := by rw [useX_set]; exact one_ok g 0 (by omega) (by omega)
    refine chk_step (six_ok gy) ?_
    by_cases hc : r_none (r_six (setM 0 (useX 0 x (getM 0 x).lo i) ⟨(getM 0 x).lo + (i : Int), (getM 0 x).lo + (i : Int)⟩)) = true
    · rw [if_pos hc]
      refine Eq.trans (T.run_br _ _ _) ((if_pos hc).trans ?_)
      rw [T.run_ret, e1]; rfl
    · rw [if_neg hc]
      refine Eq.trans (T.run_br _ _ _) ((if_neg hc).trans ?_)
      rw [six_bool gy] at hc
      refine chk_step (massOk_is hs gy (by simpa using hc)).2 ?_
      rw [T.run_ret, e1]; rfl
  · rw [sl_ur0]
    simp only [T.run_br, T.run_chk, T.run_ret, decide_eq_true_eq]
    rw [if_neg (by omega)]; rfl
noncomputable def BKX52 : Tab := BKX51.addNode 49 33 (nodeE [11, 9, 6, 5, 4, 3, 10] S_ur0 X_ur0 (fun s => .obs (K.L_ur0 s) .ret))
theorem tKX52 : TabOk P BKX52 := TabOk.addLoop (d := 30) okP tKX51 (by kernel_rfl) (by kernel_rfl) (fun s r h => obs_ret h)
theorem fn_ur0 : ∀ a, (callT1 P BKX52 30 49 D_ur0 (dI .i64)) a = T.run (
  .obs (L_ur0 (((0 : Int), Span.lo (Survey.m0 (Prod.fst (Prod.snd (Prod.snd a))))), Prod.fst a, Prod.fst (Prod.snd a), Prod.fst (Prod.snd (Prod.snd a)), Survey.m0 (Prod.fst (Prod.snd (Prod.snd a))), PUnit.unit)) fun x0 =>
    .ret (x0)) := fun a => by kernel_rfl
theorem K.ur0_eq (s : Ship) (b : Bulbs) (x : Survey) (hs : ShipOk s) (g : K.Good x) : callT1 P BKX52 30 49 D_ur0 (dI .i64) (s, b, x, ()) = some (r_useOf s b 0 x) := by
  rw [fn_ur0]
  show T.run (.obs (L_ur0 ((0, (getM 0 x).lo), s, b, x, getM 0 x, ())) _) = _
  rw [L_ur0_eq s b x hs g]; rfl
theorem ur0_pc (s : Ship) (b : Bulbs) (x : Survey) (hs : ShipOk s) (g : K.Good x) : PC P 49 (D_ur0.enc (s, b, x, ())) ((dI .i64).enc (r_useOf s b 0 x)) := call_of okP tKX52 (K.ur0_eq s b x hs g)

def D_us1 := DecL.cons dShip (.cons dBulbs (.cons dSurvey (.last (dIl 1) 0)))
def S_us1 := DecS.mk0 (.skips 3 (.unit (dIl 1) (.unit (dLp 0 0 0 0) (.unit (dLp 1 0 0 0) (.unit (dLp 2 0 0 0) (.skips 2 (.cons (dI .i64) (.unit (dLp 3 0 0 0) (.last (dI .i64) 36)))))))))  (.flat 27 lShip (.flat 31 lBulbs (.flat 36 lSurvey (.flat 33 lSpan .nil))))
def X_us1 := DecX.one (.exit 0) [9] (DecS.mk1 (.skips 9 (.last (dI .i64) 38)))
noncomputable def K.st_us1 := loopT1 P BKX52 30 48 33 [11, 9, 6, 5, 4, 3, 10] S_us1 X_us1
theorem sl_us1 : ∀ s, (K.st_us1) s = T.run (
  .br (decide (Prod.snd (Prod.fst s) ≤ Span.hi (Prod.fst (Prod.snd (Prod.snd (Prod.snd (Prod.snd s))))))) (
    .br (check (Prod.fst (Prod.snd (Prod.snd s)), Survey.mk (Survey.id (Prod.fst (Prod.snd (Prod.snd (Prod.snd s))))) (Survey.tick (Prod.fst (Prod.snd (Prod.snd (Prod.snd s))))) (Survey.m0 (Prod.fst (Prod.snd (Prod.snd (Prod.snd s))))) (Span.mk (Prod.snd (Prod.fst s)) (Prod.snd (Prod.fst s))) (Survey.m2 (Prod.fst (Prod.snd (Prod.snd (Prod.snd s))))) (Survey.m3 (Prod.fst (Prod.snd (Prod.snd (Prod.snd s))))) (Survey.m4 (Prod.fst (Prod.snd (Prod.snd (Prod.snd s))))) (Survey.m5 (Prod.fst (Prod.snd (Prod.snd (Prod.snd s))))) (Survey.sag (Prod.fst (Prod.snd (Prod.snd (Prod.snd s))))) (Survey.hydro (Prod.fst (Prod.snd (Prod.snd (Prod.snd s))))) (Survey.shown (Prod.fst (Prod.snd (Prod.snd (Prod.snd s)))))) == (0 : Int)) (
      .chk (massOk (Prod.fst (Prod.snd s)) (Survey.mk (Survey.id (Prod.fst (Prod.snd (Prod.snd (Prod.snd s))))) (Survey.tick (Prod.fst (Prod.snd (Prod.snd (Prod.snd s))))) (Survey.m0 (Prod.fst (Prod.snd (Prod.snd (Prod.snd s))))) (Span.mk (Prod.snd (Prod.fst s)) (Prod.snd (Prod.fst s))) (Survey.m2 (Prod.fst (Prod.snd (Prod.snd (Prod.snd s))))) (Survey.m3 (Prod.fst (Prod.snd (Prod.snd (Prod.snd s))))) (Survey.m4 (Prod.fst (Prod.snd (Prod.snd (Prod.snd s))))) (Survey.m5 (Prod.fst (Prod.snd (Prod.snd (Prod.snd s))))) (Survey.sag (Prod.fst (Prod.snd (Prod.snd (Prod.snd s))))) (Survey.hydro (Prod.fst (Prod.snd (Prod.snd (Prod.snd s))))) (Survey.shown (Prod.fst (Prod.snd (Prod.snd (Prod.snd s))))))) <|
      .ret (Sum.inl ((if IntKind.wrap IntKind.i64 (IntKind.wrap IntKind.i64 (Span.hi (massOf (Prod.fst (Prod.snd s)) (Prod.fst (Prod.snd (Prod.snd s))) (Survey.mk (Survey.id (Prod.fst (Prod.snd (Prod.snd (Prod.snd s))))) (Survey.tick (Prod.fst (Prod.snd (Prod.snd (Prod.snd s))))) (Survey.m0 (Prod.fst (Prod.snd (Prod.snd (Prod.snd s))))) (Span.mk (Prod.snd (Prod.fst s)) (Prod.snd (Prod.fst s))) (Survey.m2 (Prod.fst (Prod.snd (Prod.snd (Prod.snd s))))) (Survey.m3 (Prod.fst (Prod.snd (Prod.snd (Prod.snd s))))) (Survey.m4 (Prod.fst (Prod.snd (Prod.snd (Prod.snd s))))) (Survey.m5 (Prod.fst (Prod.snd (Prod.snd (Prod.snd s))))) (Survey.sag (Prod.fst (Prod.snd (Prod.snd (Prod.snd s))))) (Survey.hydro (Prod.fst (Prod.snd (Prod.snd (Prod.snd s))))) (Survey.shown (Prod.fst (Prod.snd (Prod.snd (Prod.snd s))))))) - Span.lo (massOf (Prod.fst (Prod.snd s)) (Prod.fst (Prod.snd (Prod.snd s))) (Survey.mk (Survey.id (Prod.fst (Prod.snd (Prod.snd (Prod.snd s))))) (Survey.tick (Prod.fst (Prod.snd (Prod.snd (Prod.snd s))))) (Survey.m0 (Prod.fst (Prod.snd (Prod.snd (Prod.snd s))))) (Span.mk (Prod.snd (Prod.fst s)) (Prod.snd (Prod.fst s))) (Survey.m2 (Prod.fst (Prod.snd (Prod.snd (Prod.snd s))))) (Survey.m3 (Prod.fst (Prod.snd (Prod.snd (Prod.snd s))))) (Survey.m4 (Prod.fst (Prod.snd (Prod.snd (Prod.snd s))))) (Survey.m5 (Prod.fst (Prod.snd (Prod.snd (Prod.snd s))))) (Survey.sag (Prod.fst (Prod.snd (Prod.snd (Prod.snd s))))) (Survey.hydro (Prod.fst (Prod.snd (Prod.snd (Prod.snd s))))) (Survey.shown (Prod.fst (Prod.snd (Prod.snd (Prod.snd s)))))))) + (1 : Int)) > Prod.fst (Prod.fst s) then IntKind.wrap IntKind.i64 (IntKind.wrap IntKind.i64 (Span.hi (massOf (Prod.fst (Prod.snd s)) (Prod.fst (Prod.snd (Prod.snd s))) (Survey.mk (Survey.id (Prod.fst (Prod.snd (Prod.snd (Prod.snd s))))) (Survey.tick (Prod.fst (Prod.snd (Prod.snd (Prod.snd s))))) (Survey.m0 (Prod.fst (Prod.snd (Prod.snd (Prod.snd s))))) (Span.mk (Prod.snd (Prod.fst s)) (Prod.snd (Prod.fst s))) (Survey.m2 (Prod.fst (Prod.snd (Prod.snd (Prod.snd s))))) (Survey.m3 (Prod.fst (Prod.snd (Prod.snd (Prod.snd s))))) (Survey.m4 (Prod.fst (Prod.snd (Prod.snd (Prod.snd s))))) (Survey.m5 (Prod.fst (Prod.snd (Prod.snd (Prod.snd s))))) (Survey.sag (Prod.fst (Prod.snd (Prod.snd (Prod.snd s))))) (Survey.hydro (Prod.fst (Prod.snd (Prod.snd (Prod.snd s))))) (Survey.shown (Prod.fst (Prod.snd (Prod.snd (Prod.snd s))))))) - Span.lo (massOf (Prod.fst (Prod.snd s)) (Prod.fst (Prod.snd (Prod.snd s))) (Survey.mk (Survey.id (Prod.fst (Prod.snd (Prod.snd (Prod.snd s))))) (Survey.tick (Prod.fst (Prod.snd (Prod.snd (Prod.snd s))))) (Survey.m0 (Prod.fst (Prod.snd (Prod.snd (Prod.snd s))))) (Span.mk (Prod.snd (Prod.fst s)) (Prod.snd (Prod.fst s))) (Survey.m2 (Prod.fst (Prod.snd (Prod.snd (Prod.snd s))))) (Survey.m3 (Prod.fst (Prod.snd (Prod.snd (Prod.snd s))))) (Survey.m4 (Prod.fst (Prod.snd (Prod.snd (Prod.snd s))))) (Survey.m5 (Prod.fst (Prod.snd (Prod.snd (Prod.snd s))))) (Survey.sag (Prod.fst (Prod.snd (Prod.snd (Prod.snd s))))) (Survey.hydro (Prod.fst (Prod.snd (Prod.snd (Prod.snd s))))) (Survey.shown (Prod.fst (Prod.snd (Prod.snd (Prod.snd s)))))))) + (1 : Int)) else Prod.fst (Prod.fst s), IntKind.wrap IntKind.i64 (Prod.snd (Prod.fst s) + (1 : Int))), Prod.fst (Prod.snd s), Prod.fst (Prod.snd (Prod.snd s)), Survey.mk (Survey.id (Prod.fst (Prod.snd (Prod.snd (Prod.snd s))))) (Survey.tick (Prod.fst (Prod.snd (Prod.snd (Prod.snd s))))) (Survey.m0 (Prod.fst (Prod.snd (Prod.snd (Prod.snd s))))) (Span.mk (Prod.snd (Prod.fst s)) (Prod.snd (Prod.fst s))) (Survey.m2 (Prod.fst (Prod.snd (Prod.snd (Prod.snd s))))) (Survey.m3 (Prod.fst (Prod.snd (Prod.snd (Prod.snd s))))) (Survey.m4 (Prod.fst (Prod.snd (Prod.snd (Prod.snd s))))) (Survey.m5 (Prod.fst (Prod.snd (Prod.snd (Prod.snd s))))) (Survey.sag (Prod.fst (Prod.snd (Prod.snd (Prod.snd s))))) (Survey.hydro (Prod.fst (Prod.snd (Prod.snd (Prod.snd s))))) (Survey.shown (Prod.fst (Prod.snd (Prod.snd (Prod.snd s))))), Prod.fst (Prod.snd (Prod.snd (Prod.snd (Prod.snd s)))), PUnit.unit))) (
      .ret (Sum.inl ((Prod.fst (Prod.fst s), IntKind.wrap IntKind.i64 (Prod.snd (Prod.fst s) + (1 : Int))), Prod.fst (Prod.snd s), Prod.fst (Prod.snd (Prod.snd s)), Survey.mk (Survey.id (Prod.fst (Prod.snd (Prod.snd (Prod.snd s))))) (Survey.tick (Prod.fst (Prod.snd (Prod.snd (Prod.snd s))))) (Survey.m0 (Prod.fst (Prod.snd (Prod.snd (Prod.snd s))))) (Span.mk (Prod.snd (Prod.fst s)) (Prod.snd (Prod.fst s))) (Survey.m2 (Prod.fst (Prod.snd (Prod.snd (Prod.snd s))))) (Survey.m3 (Prod.fst (Prod.snd (Prod.snd (Prod.snd s))))) (Survey.m4 (Prod.fst (Prod.snd (Prod.snd (Prod.snd s))))) (Survey.m5 (Prod.fst (Prod.snd (Prod.snd (Prod.snd s))))) (Survey.sag (Prod.fst (Prod.snd (Prod.snd (Prod.snd s))))) (Survey.hydro (Prod.fst (Prod.snd (Prod.snd (Prod.snd s))))) (Survey.shown (Prod.fst (Prod.snd (Prod.snd (Prod.snd s))))), Prod.fst (Prod.snd (Prod.snd (Prod.snd (Prod.snd s)))), PUnit.unit)))) (
    .ret (Sum.inr (Prod.fst (Prod.fst s))))) := fun s => by kernel_rfl
noncomputable def K.L_us1 := lim K.st_us1
theorem K.L_us1_eq (s : Ship) (b : Bulbs) (x : Survey) (hs : ShipOk s) (g : K.Good x) : K.L_us1 ((0, (getM 1 x).lo), s, b, x, getM 1 x, ()) = some (useOf s b 1 x) := by
  obtain ⟨o1, o2, o3, o4⟩ := getM_ok g 1
  have key := lim_fold (step := K.st_us1) (fun (i : Nat) (a : Int) => ((a, (getM 1 x).lo + (i : Int)), s, b, useX 1 x (getM 1 x).lo i, getM 1 x, ())) ((getM 1 x).hi - (getM 1 x).lo + 1).toNat (fun a (i : Nat) => useStep s b 1 x ((getM 1 x).lo + (i : Int)) a) id (fun i hi a => ?_) (fun a => ?_) 0
  · have e0 : (getM 1 x).lo + ((0 : Nat) : Int) = (getM 1 x).lo := by omega
    simp only [e0] at key
    exact key
  · rw [sl_us1]
    refine Eq.trans (T.run_br _ _ _) ?_
    rw [if_pos (by simp only [decide_eq_true_eq]; omega)]
    unfold useStep
    rw [← useX_set 1 x (getM 1 x).lo i ⟨(getM 1 x).lo + (i : Int), (getM 1 x).lo + (i : Int)⟩]
    have e1 : IntKind.wrap IntKind.i64 ((getM 1 x).lo + (i : Int) + 1) = (getM 1 x).lo + ((i + 1 : Nat) : Int) := by rw [w64_in (by omega) (by omega)]; omega
    have e2 : useX 1 x (getM 1 x).lo (i + 1) = setM 1 (useX 1 x (getM 1 x).lo i) ⟨(getM 1 x).lo + (i : Int), (getM 1 x).lo + (i : Int)⟩ := by rw [useX_set]; rfl
    rw [e2]
    by_cases hc : (check (b, setM 1 (useX 1 x (getM 1 x).lo i) ⟨(getM 1 x).lo + (i : Int), (getM 1 x).lo + (i : Int)⟩) == 0) = true
    · rw [if_pos hc]
      refine Eq.trans (T.run_br _ _ _) ((if_pos hc).trans ?_)
      refine chk_step (hull_ok hs (eq_of_beq hc)) ?_
      rw [T.run_ret, e1]; rfl
    · rw [if_neg hc]
      refine Eq.trans (T.run_br _ _ _) ((if_neg hc).trans ?_)
      rw [T.run_ret, e1]; rfl
  · rw [sl_us1]
    simp only [T.run_br, T.run_chk, T.run_ret, decide_eq_true_eq]
    rw [if_neg (by omega)]; rfl
noncomputable def BKX53 : Tab := BKX52.addNode 48 33 (nodeE [11, 9, 6, 5, 4, 3, 10] S_us1 X_us1 (fun s => .obs (K.L_us1 s) .ret))
theorem tKX53 : TabOk P BKX53 := TabOk.addLoop (d := 30) okP tKX52 (by kernel_rfl) (by kernel_rfl) (fun s r h => obs_ret h)
theorem fn_us1 : ∀ a, (callT1 P BKX53 30 48 D_us1 (dI .i64)) a = T.run (
  .obs (L_us1 (((0 : Int), Span.lo (Survey.m1 (Prod.fst (Prod.snd (Prod.snd a))))), Prod.fst a, Prod.fst (Prod.snd a), Prod.fst (Prod.snd (Prod.snd a)), Survey.m1 (Prod.fst (Prod.snd (Prod.snd a))), PUnit.unit)) fun x0 =>
    .ret (x0)) := fun a => by kernel_rfl
theorem K.us1_eq (s : Ship) (b : Bulbs) (x : Survey) (hs : ShipOk s) (g : K.Good x) : callT1 P BKX53 30 48 D_us1 (dI .i64) (s, b, x, ()) = some (useOf s b 1 x) := by
  rw [fn_us1]
  show T.run (.obs (L_us1 ((0, (getM 1 x).lo), s, b, x, getM 1 x, ())) _) = _
  rw [L_us1_eq s b x hs g]; rfl
theorem us1_pc (s : Ship) (b : Bulbs) (x : Survey) (hs : ShipOk s) (g : K.Good x) : PC P 48 (D_us1.enc (s, b, x, ())) ((dI .i64).enc (useOf s b 1 x)) := call_of okP tKX53 (K.us1_eq s b x hs g)

def D_ur1 := DecL.cons dShip (.cons dBulbs (.cons dSurvey (.last (dIl 1) 0)))
def S_ur1 := DecS.mk0 (.skips 3 (.unit (dIl 1) (.unit (dLp 0 0 0 0) (.unit (dLp 1 0 0 0) (.unit (dLp 2 0 0 0) (.skips 2 (.cons (dI .i64) (.unit (dLp 3 0 0 0) (.last (dI .i64) 35)))))))))  (.flat 27 lShip (.flat 31 lBulbs (.flat 36 lSurvey (.flat 33 lSpan .nil))))
def X_ur1 := DecX.one (.exit 0) [9] (DecS.mk1 (.skips 9 (.last (dI .i64) 37)))
noncomputable def K.st_ur1 := loopT1 P BKX53 30 49 33 [11, 9, 6, 5, 4, 3, 10] S_ur1 X_ur1
theorem sl_ur1 : ∀ s, (K.st_ur1) s = T.run (
  .br (decide (Prod.snd (Prod.fst s) ≤ Span.hi (Prod.fst (Prod.snd (Prod.snd (Prod.snd (Prod.snd s))))))) (
    .chk (sixOk (Survey.mk (Survey.id (Prod.fst (Prod.snd (Prod.snd (Prod.snd s))))) (Survey.tick (Prod.fst (Prod.snd (Prod.snd (Prod.snd s))))) (Survey.m0 (Prod.fst (Prod.snd (Prod.snd (Prod.snd s))))) (Span.mk (Prod.snd (Prod.fst s)) (Prod.snd (Prod.fst s))) (Survey.m2 (Prod.fst (Prod.snd (Prod.snd (Prod.snd s))))) (Survey.m3 (Prod.fst (Prod.snd (Prod.snd (Prod.snd s))))) (Survey.m4 (Prod.fst (Prod.snd (Prod.snd (Prod.snd s))))) (Survey.m5 (Prod.fst (Prod.snd (Prod.snd (Prod.snd s))))) (Survey.sag (Prod.fst (Prod.snd (Prod.snd (Prod.snd s))))) (Survey.hydro (Prod.fst (Prod.snd (Prod.snd (Prod.snd s))))) (Survey.shown (Prod.fst (Prod.snd (Prod.snd (Prod.snd s))))))) <|
    .br (r_none (r_six (Survey.mk (Survey.id (Prod.fst (Prod.snd (Prod.snd (Prod.snd s))))) (Survey.tick (Prod.fst (Prod.snd (Prod.snd (Prod.snd s))))) (Survey.m0 (Prod.fst (Prod.snd (Prod.snd (Prod.snd s))))) (Span.mk (Prod.snd (Prod.fst s)) (Prod.snd (Prod.fst s))) (Survey.m2 (Prod.fst (Prod.snd (Prod.snd (Prod.snd s))))) (Survey.m3 (Prod.fst (Prod.snd (Prod.snd (Prod.snd s))))) (Survey.m4 (Prod.fst (Prod.snd (Prod.snd (Prod.snd s))))) (Survey.m5 (Prod.fst (Prod.snd (Prod.snd (Prod.snd s))))) (Survey.sag (Prod.fst (Prod.snd (Prod.snd (Prod.snd s))))) (Survey.hydro (Prod.fst (Prod.snd (Prod.snd (Prod.snd s))))) (Survey.shown (Prod.fst (Prod.snd (Prod.snd (Prod.snd s)))))))) (
      .ret (Sum.inl ((Prod.fst (Prod.fst s), IntKind.wrap IntKind.i64 (Prod.snd (Prod.fst s) + (1 : Int))), Prod.fst (Prod.snd s), Prod.fst (Prod.snd (Prod.snd s)), Survey.mk (Survey.id (Prod.fst (Prod.snd (Prod.snd (Prod.snd s))))) (Survey.tick (Prod.fst (Prod.snd (Prod.snd (Prod.snd s))))) (Survey.m0 (Prod.fst (Prod.snd (Prod.snd (Prod.snd s))))) (Span.mk (Prod.snd (Prod.fst s)) (Prod.snd (Prod.fst s))) (Survey.m2 (Prod.fst (Prod.snd (Prod.snd (Prod.snd s))))) (Survey.m3 (Prod.fst (Prod.snd (Prod.snd (Prod.snd s))))) (Survey.m4 (Prod.fst (Prod.snd (Prod.snd (Prod.snd s))))) (Survey.m5 (Prod.fst (Prod.snd (Prod.snd (Prod.snd s))))) (Survey.sag (Prod.fst (Prod.snd (Prod.snd (Prod.snd s))))) (Survey.hydro (Prod.fst (Prod.snd (Prod.snd (Prod.snd s))))) (Survey.shown (Prod.fst (Prod.snd (Prod.snd (Prod.snd s))))), Prod.fst (Prod.snd (Prod.snd (Prod.snd (Prod.snd s)))), PUnit.unit))) (
      .chk (r_massOk (Prod.fst (Prod.snd s)) (Survey.mk (Survey.id (Prod.fst (Prod.snd (Prod.snd (Prod.snd s))))) (Survey.tick (Prod.fst (Prod.snd (Prod.snd (Prod.snd s))))) (Survey.m0 (Prod.fst (Prod.snd (Prod.snd (Prod.snd s))))) (Span.mk (Prod.snd (Prod.fst s)) (Prod.snd (Prod.fst s))) (Survey.m2 (Prod.fst (Prod.snd (Prod.snd (Prod.snd s))))) (Survey.m3 (Prod.fst (Prod.snd (Prod.snd (Prod.snd s))))) (Survey.m4 (Prod.fst (Prod.snd (Prod.snd (Prod.snd s))))) (Survey.m5 (Prod.fst (Prod.snd (Prod.snd (Prod.snd s))))) (Survey.sag (Prod.fst (Prod.snd (Prod.snd (Prod.snd s))))) (Survey.hydro (Prod.fst (Prod.snd (Prod.snd (Prod.snd s))))) (Survey.shown (Prod.fst (Prod.snd (Prod.snd (Prod.snd s))))))) <|
      .ret (Sum.inl ((if IntKind.wrap IntKind.i64 (IntKind.wrap IntKind.i64 (Span.hi (r_mass (Prod.fst (Prod.snd s)) (Prod.fst (Prod.snd (Prod.snd s))) (Survey.mk (Survey.id (Prod.fst (Prod.snd (Prod.snd (Prod.snd s))))) (Survey.tick (Prod.fst (Prod.snd (Prod.snd (Prod.snd s))))) (Survey.m0 (Prod.fst (Prod.snd (Prod.snd (Prod.snd s))))) (Span.mk (Prod.snd (Prod.fst s)) (Prod.snd (Prod.fst s))) (Survey.m2 (Prod.fst (Prod.snd (Prod.snd (Prod.snd s))))) (Survey.m3 (Prod.fst (Prod.snd (Prod.snd (Prod.snd s))))) (Survey.m4 (Prod.fst (Prod.snd (Prod.snd (Prod.snd s))))) (Survey.m5 (Prod.fst (Prod.snd (Prod.snd (Prod.snd s))))) (Survey.sag (Prod.fst (Prod.snd (Prod.snd (Prod.snd s))))) (Survey.hydro (Prod.fst (Prod.snd (Prod.snd (Prod.snd s))))) (Survey.shown (Prod.fst (Prod.snd (Prod.snd (Prod.snd s))))))) - Span.lo (r_mass (Prod.fst (Prod.snd s)) (Prod.fst (Prod.snd (Prod.snd s))) (Survey.mk (Survey.id (Prod.fst (Prod.snd (Prod.snd (Prod.snd s))))) (Survey.tick (Prod.fst (Prod.snd (Prod.snd (Prod.snd s))))) (Survey.m0 (Prod.fst (Prod.snd (Prod.snd (Prod.snd s))))) (Span.mk (Prod.snd (Prod.fst s)) (Prod.snd (Prod.fst s))) (Survey.m2 (Prod.fst (Prod.snd (Prod.snd (Prod.snd s))))) (Survey.m3 (Prod.fst (Prod.snd (Prod.snd (Prod.snd s))))) (Survey.m4 (Prod.fst (Prod.snd (Prod.snd (Prod.snd s))))) (Survey.m5 (Prod.fst (Prod.snd (Prod.snd (Prod.snd s))))) (Survey.sag (Prod.fst (Prod.snd (Prod.snd (Prod.snd s))))) (Survey.hydro (Prod.fst (Prod.snd (Prod.snd (Prod.snd s))))) (Survey.shown (Prod.fst (Prod.snd (Prod.snd (Prod.snd s)))))))) + (1 : Int)) > Prod.fst (Prod.fst s) then IntKind.wrap IntKind.i64 (IntKind.wrap IntKind.i64 (Span.hi (r_mass (Prod.fst (Prod.snd s)) (Prod.fst (Prod.snd (Prod.snd s))) (Survey.mk (Survey.id (Prod.fst (Prod.snd (Prod.snd (Prod.snd s))))) (Survey.tick (Prod.fst (Prod.snd (Prod.snd (Prod.snd s))))) (Survey.m0 (Prod.fst (Prod.snd (Prod.snd (Prod.snd s))))) (Span.mk (Prod.snd (Prod.fst s)) (Prod.snd (Prod.fst s))) (Survey.m2 (Prod.fst (Prod.snd (Prod.snd (Prod.snd s))))) (Survey.m3 (Prod.fst (Prod.snd (Prod.snd (Prod.snd s))))) (Survey.m4 (Prod.fst (Prod.snd (Prod.snd (Prod.snd s))))) (Survey.m5 (Prod.fst (Prod.snd (Prod.snd (Prod.snd s))))) (Survey.sag (Prod.fst (Prod.snd (Prod.snd (Prod.snd s))))) (Survey.hydro (Prod.fst (Prod.snd (Prod.snd (Prod.snd s))))) (Survey.shown (Prod.fst (Prod.snd (Prod.snd (Prod.snd s))))))) - Span.lo (r_mass (Prod.fst (Prod.snd s)) (Prod.fst (Prod.snd (Prod.snd s))) (Survey.mk (Survey.id (Prod.fst (Prod.snd (Prod.snd (Prod.snd s))))) (Survey.tick (Prod.fst (Prod.snd (Prod.snd (Prod.snd s))))) (Survey.m0 (Prod.fst (Prod.snd (Prod.snd (Prod.snd s))))) (Span.mk (Prod.snd (Prod.fst s)) (Prod.snd (Prod.fst s))) (Survey.m2 (Prod.fst (Prod.snd (Prod.snd (Prod.snd s))))) (Survey.m3 (Prod.fst (Prod.snd (Prod.snd (Prod.snd s))))) (Survey.m4 (Prod.fst (Prod.snd (Prod.snd (Prod.snd s))))) (Survey.m5 (Prod.fst (Prod.snd (Prod.snd (Prod.snd s))))) (Survey.sag (Prod.fst (Prod.snd (Prod.snd (Prod.snd s))))) (Survey.hydro (Prod.fst (Prod.snd (Prod.snd (Prod.snd s))))) (Survey.shown (Prod.fst (Prod.snd (Prod.snd (Prod.snd s)))))))) + (1 : Int)) else Prod.fst (Prod.fst s), IntKind.wrap IntKind.i64 (Prod.snd (Prod.fst s) + (1 : Int))), Prod.fst (Prod.snd s), Prod.fst (Prod.snd (Prod.snd s)), Survey.mk (Survey.id (Prod.fst (Prod.snd (Prod.snd (Prod.snd s))))) (Survey.tick (Prod.fst (Prod.snd (Prod.snd (Prod.snd s))))) (Survey.m0 (Prod.fst (Prod.snd (Prod.snd (Prod.snd s))))) (Span.mk (Prod.snd (Prod.fst s)) (Prod.snd (Prod.fst s))) (Survey.m2 (Prod.fst (Prod.snd (Prod.snd (Prod.snd s))))) (Survey.m3 (Prod.fst (Prod.snd (Prod.snd (Prod.snd s))))) (Survey.m4 (Prod.fst (Prod.snd (Prod.snd (Prod.snd s))))) (Survey.m5 (Prod.fst (Prod.snd (Prod.snd (Prod.snd s))))) (Survey.sag (Prod.fst (Prod.snd (Prod.snd (Prod.snd s))))) (Survey.hydro (Prod.fst (Prod.snd (Prod.snd (Prod.snd s))))) (Survey.shown (Prod.fst (Prod.snd (Prod.snd (Prod.snd s))))), Prod.fst (Prod.snd (Prod.snd (Prod.snd (Prod.snd s)))), PUnit.unit)))) (
    .ret (Sum.inr (Prod.fst (Prod.fst s))))) := fun s => by kernel_rfl
noncomputable def K.L_ur1 := lim K.st_ur1
theorem K.L_ur1_eq (s : Ship) (b : Bulbs) (x : Survey) (hs : ShipOk s) (g : K.Good x) : K.L_ur1 ((0, (getM 1 x).lo), s, b, x, getM 1 x, ()) = some (r_useOf s b 1 x) := by
  obtain ⟨o1, o2, o3, o4⟩ := getM_ok g 1
  have key := lim_fold (step := K.st_ur1) (fun (i : Nat) (a : Int) => ((a, (getM 1 x).lo + (i : Int)), s, b, useX 1 x (getM 1 x).lo i, getM 1 x, ())) ((getM 1 x).hi - (getM 1 x).lo + 1).toNat (fun a (i : Nat) => r_useStep s b 1 x ((getM 1 x).lo + (i : Int)) a) id (fun i hi a => ?_) (fun a => ?_) 0
  · have e0 : (getM 1 x).lo + ((0 : Nat) : Int) = (getM 1 x).lo := by omega
    simp only [e0] at key
    exact key
  · rw [sl_ur1]
    refine Eq.trans (T.run_br _ _ _) ?_
    rw [if_pos (by simp only [decide_eq_true_eq]; omega)]
    unfold r_useStep
    rw [← useX_set 1 x (getM 1 x).lo i ⟨(getM 1 x).lo + (i : Int), (getM 1 x).lo + (i : Int)⟩]
    have e1 : IntKind.wrap IntKind.i64 ((getM 1 x).lo + (i : Int) + 1) = (getM 1 x).lo + ((i + 1 : Nat) : Int) := by rw [w64_in (by omega) (by omega)]; omega
    have e2 : useX 1 x (getM 1 x).lo (i + 1) = setM 1 (useX 1 x (getM 1 x).lo i) ⟨(getM 1 x).lo + (i : Int), (getM 1 x).lo + (i : Int)⟩ := by rw [useX_set]; rfl
    rw [e2]
    have gy : K.Good (setM 1 (useX 1 x (getM 1 x).lo i) ⟨(getM 1 x).lo + (i : Int), (getM 1 x).lo + (i : Int)⟩) := by rw [useX_set]; exact one_ok g 1 (by omega) (by omega)
    refine chk_step (six_ok gy) ?_
    by_cases hc : r_none (r_six (setM 1 (useX 1 x (getM 1 x).lo i) ⟨(getM 1 x).lo + (i : Int), (getM 1 x).lo + (i : Int)⟩)) = true
    · rw [if_pos hc]
      refine Eq.trans (T.run_br _ _ _) ((if_pos hc).trans ?_)
      rw [T.run_ret, e1]; rfl
    · rw [if_neg hc]
      refine Eq.trans (T.run_br _ _ _) ((if_neg hc).trans ?_)
      rw [six_bool gy] at hc
      refine chk_step (massOk_is hs gy (by simpa using hc)).2 ?_
      rw [T.run_ret, e1]; rfl
  · rw [sl_ur1]
    simp only [T.run_br, T.run_chk, T.run_ret, decide_eq_true_eq]
    rw [if_neg (by omega)]; rfl
noncomputable def BKX54 : Tab := BKX53.addNode 49 33 (nodeE [11, 9, 6, 5, 4, 3, 10] S_ur1 X_ur1 (fun s => .obs (K.L_ur1 s) .ret))
theorem tKX54 : TabOk P BKX54 := TabOk.addLoop (d := 30) okP tKX53 (by kernel_rfl) (by kernel_rfl) (fun s r h => obs_ret h)
theorem fn_ur1 : ∀ a, (callT1 P BKX54 30 49 D_ur1 (dI .i64)) a = T.run (
  .obs (L_ur1 (((0 : Int), Span.lo (Survey.m1 (Prod.fst (Prod.snd (Prod.snd a))))), Prod.fst a, Prod.fst (Prod.snd a), Prod.fst (Prod.snd (Prod.snd a)), Survey.m1 (Prod.fst (Prod.snd (Prod.snd a))), PUnit.unit)) fun x0 =>
    .ret (x0)) := fun a => by kernel_rfl
theorem K.ur1_eq (s : Ship) (b : Bulbs) (x : Survey) (hs : ShipOk s) (g : K.Good x) : callT1 P BKX54 30 49 D_ur1 (dI .i64) (s, b, x, ()) = some (r_useOf s b 1 x) := by
  rw [fn_ur1]
  show T.run (.obs (L_ur1 ((0, (getM 1 x).lo), s, b, x, getM 1 x, ())) _) = _
  rw [L_ur1_eq s b x hs g]; rfl
theorem ur1_pc (s : Ship) (b : Bulbs) (x : Survey) (hs : ShipOk s) (g : K.Good x) : PC P 49 (D_ur1.enc (s, b, x, ())) ((dI .i64).enc (r_useOf s b 1 x)) := call_of okP tKX54 (K.ur1_eq s b x hs g)

def D_us2 := DecL.cons dShip (.cons dBulbs (.cons dSurvey (.last (dIl 2) 0)))
def S_us2 := DecS.mk0 (.skips 3 (.unit (dIl 2) (.unit (dLp 0 0 0 0) (.unit (dLp 1 0 0 0) (.unit (dLp 2 0 0 0) (.skips 2 (.cons (dI .i64) (.unit (dLp 3 0 0 0) (.last (dI .i64) 36)))))))))  (.flat 27 lShip (.flat 31 lBulbs (.flat 36 lSurvey (.flat 33 lSpan .nil))))
def X_us2 := DecX.one (.exit 0) [9] (DecS.mk1 (.skips 9 (.last (dI .i64) 38)))
noncomputable def K.st_us2 := loopT1 P BKX54 30 48 33 [11, 9, 6, 5, 4, 3, 10] S_us2 X_us2
theorem sl_us2 : ∀ s, (K.st_us2) s = T.run (
  .br (decide (Prod.snd (Prod.fst s) ≤ Span.hi (Prod.fst (Prod.snd (Prod.snd (Prod.snd (Prod.snd s))))))) (
    .br (check (Prod.fst (Prod.snd (Prod.snd s)), Survey.mk (Survey.id (Prod.fst (Prod.snd (Prod.snd (Prod.snd s))))) (Survey.tick (Prod.fst (Prod.snd (Prod.snd (Prod.snd s))))) (Survey.m0 (Prod.fst (Prod.snd (Prod.snd (Prod.snd s))))) (Survey.m1 (Prod.fst (Prod.snd (Prod.snd (Prod.snd s))))) (Span.mk (Prod.snd (Prod.fst s)) (Prod.snd (Prod.fst s))) (Survey.m3 (Prod.fst (Prod.snd (Prod.snd (Prod.snd s))))) (Survey.m4 (Prod.fst (Prod.snd (Prod.snd (Prod.snd s))))) (Survey.m5 (Prod.fst (Prod.snd (Prod.snd (Prod.snd s))))) (Survey.sag (Prod.fst (Prod.snd (Prod.snd (Prod.snd s))))) (Survey.hydro (Prod.fst (Prod.snd (Prod.snd (Prod.snd s))))) (Survey.shown (Prod.fst (Prod.snd (Prod.snd (Prod.snd s)))))) == (0 : Int)) (
      .chk (massOk (Prod.fst (Prod.snd s)) (Survey.mk (Survey.id (Prod.fst (Prod.snd (Prod.snd (Prod.snd s))))) (Survey.tick (Prod.fst (Prod.snd (Prod.snd (Prod.snd s))))) (Survey.m0 (Prod.fst (Prod.snd (Prod.snd (Prod.snd s))))) (Survey.m1 (Prod.fst (Prod.snd (Prod.snd (Prod.snd s))))) (Span.mk (Prod.snd (Prod.fst s)) (Prod.snd (Prod.fst s))) (Survey.m3 (Prod.fst (Prod.snd (Prod.snd (Prod.snd s))))) (Survey.m4 (Prod.fst (Prod.snd (Prod.snd (Prod.snd s))))) (Survey.m5 (Prod.fst (Prod.snd (Prod.snd (Prod.snd s))))) (Survey.sag (Prod.fst (Prod.snd (Prod.snd (Prod.snd s))))) (Survey.hydro (Prod.fst (Prod.snd (Prod.snd (Prod.snd s))))) (Survey.shown (Prod.fst (Prod.snd (Prod.snd (Prod.snd s))))))) <|
      .ret (Sum.inl ((if IntKind.wrap IntKind.i64 (IntKind.wrap IntKind.i64 (Span.hi (massOf (Prod.fst (Prod.snd s)) (Prod.fst (Prod.snd (Prod.snd s))) (Survey.mk (Survey.id (Prod.fst (Prod.snd (Prod.snd (Prod.snd s))))) (Survey.tick (Prod.fst (Prod.snd (Prod.snd (Prod.snd s))))) (Survey.m0 (Prod.fst (Prod.snd (Prod.snd (Prod.snd s))))) (Survey.m1 (Prod.fst (Prod.snd (Prod.snd (Prod.snd s))))) (Span.mk (Prod.snd (Prod.fst s)) (Prod.snd (Prod.fst s))) (Survey.m3 (Prod.fst (Prod.snd (Prod.snd (Prod.snd s))))) (Survey.m4 (Prod.fst (Prod.snd (Prod.snd (Prod.snd s))))) (Survey.m5 (Prod.fst (Prod.snd (Prod.snd (Prod.snd s))))) (Survey.sag (Prod.fst (Prod.snd (Prod.snd (Prod.snd s))))) (Survey.hydro (Prod.fst (Prod.snd (Prod.snd (Prod.snd s))))) (Survey.shown (Prod.fst (Prod.snd (Prod.snd (Prod.snd s))))))) - Span.lo (massOf (Prod.fst (Prod.snd s)) (Prod.fst (Prod.snd (Prod.snd s))) (Survey.mk (Survey.id (Prod.fst (Prod.snd (Prod.snd (Prod.snd s))))) (Survey.tick (Prod.fst (Prod.snd (Prod.snd (Prod.snd s))))) (Survey.m0 (Prod.fst (Prod.snd (Prod.snd (Prod.snd s))))) (Survey.m1 (Prod.fst (Prod.snd (Prod.snd (Prod.snd s))))) (Span.mk (Prod.snd (Prod.fst s)) (Prod.snd (Prod.fst s))) (Survey.m3 (Prod.fst (Prod.snd (Prod.snd (Prod.snd s))))) (Survey.m4 (Prod.fst (Prod.snd (Prod.snd (Prod.snd s))))) (Survey.m5 (Prod.fst (Prod.snd (Prod.snd (Prod.snd s))))) (Survey.sag (Prod.fst (Prod.snd (Prod.snd (Prod.snd s))))) (Survey.hydro (Prod.fst (Prod.snd (Prod.snd (Prod.snd s))))) (Survey.shown (Prod.fst (Prod.snd (Prod.snd (Prod.snd s)))))))) + (1 : Int)) > Prod.fst (Prod.fst s) then IntKind.wrap IntKind.i64 (IntKind.wrap IntKind.i64 (Span.hi (massOf (Prod.fst (Prod.snd s)) (Prod.fst (Prod.snd (Prod.snd s))) (Survey.mk (Survey.id (Prod.fst (Prod.snd (Prod.snd (Prod.snd s))))) (Survey.tick (Prod.fst (Prod.snd (Prod.snd (Prod.snd s))))) (Survey.m0 (Prod.fst (Prod.snd (Prod.snd (Prod.snd s))))) (Survey.m1 (Prod.fst (Prod.snd (Prod.snd (Prod.snd s))))) (Span.mk (Prod.snd (Prod.fst s)) (Prod.snd (Prod.fst s))) (Survey.m3 (Prod.fst (Prod.snd (Prod.snd (Prod.snd s))))) (Survey.m4 (Prod.fst (Prod.snd (Prod.snd (Prod.snd s))))) (Survey.m5 (Prod.fst (Prod.snd (Prod.snd (Prod.snd s))))) (Survey.sag (Prod.fst (Prod.snd (Prod.snd (Prod.snd s))))) (Survey.hydro (Prod.fst (Prod.snd (Prod.snd (Prod.snd s))))) (Survey.shown (Prod.fst (Prod.snd (Prod.snd (Prod.snd s))))))) - Span.lo (massOf (Prod.fst (Prod.snd s)) (Prod.fst (Prod.snd (Prod.snd s))) (Survey.mk (Survey.id (Prod.fst (Prod.snd (Prod.snd (Prod.snd s))))) (Survey.tick (Prod.fst (Prod.snd (Prod.snd (Prod.snd s))))) (Survey.m0 (Prod.fst (Prod.snd (Prod.snd (Prod.snd s))))) (Survey.m1 (Prod.fst (Prod.snd (Prod.snd (Prod.snd s))))) (Span.mk (Prod.snd (Prod.fst s)) (Prod.snd (Prod.fst s))) (Survey.m3 (Prod.fst (Prod.snd (Prod.snd (Prod.snd s))))) (Survey.m4 (Prod.fst (Prod.snd (Prod.snd (Prod.snd s))))) (Survey.m5 (Prod.fst (Prod.snd (Prod.snd (Prod.snd s))))) (Survey.sag (Prod.fst (Prod.snd (Prod.snd (Prod.snd s))))) (Survey.hydro (Prod.fst (Prod.snd (Prod.snd (Prod.snd s))))) (Survey.shown (Prod.fst (Prod.snd (Prod.snd (Prod.snd s)))))))) + (1 : Int)) else Prod.fst (Prod.fst s), IntKind.wrap IntKind.i64 (Prod.snd (Prod.fst s) + (1 : Int))), Prod.fst (Prod.snd s), Prod.fst (Prod.snd (Prod.snd s)), Survey.mk (Survey.id (Prod.fst (Prod.snd (Prod.snd (Prod.snd s))))) (Survey.tick (Prod.fst (Prod.snd (Prod.snd (Prod.snd s))))) (Survey.m0 (Prod.fst (Prod.snd (Prod.snd (Prod.snd s))))) (Survey.m1 (Prod.fst (Prod.snd (Prod.snd (Prod.snd s))))) (Span.mk (Prod.snd (Prod.fst s)) (Prod.snd (Prod.fst s))) (Survey.m3 (Prod.fst (Prod.snd (Prod.snd (Prod.snd s))))) (Survey.m4 (Prod.fst (Prod.snd (Prod.snd (Prod.snd s))))) (Survey.m5 (Prod.fst (Prod.snd (Prod.snd (Prod.snd s))))) (Survey.sag (Prod.fst (Prod.snd (Prod.snd (Prod.snd s))))) (Survey.hydro (Prod.fst (Prod.snd (Prod.snd (Prod.snd s))))) (Survey.shown (Prod.fst (Prod.snd (Prod.snd (Prod.snd s))))), Prod.fst (Prod.snd (Prod.snd (Prod.snd (Prod.snd s)))), PUnit.unit))) (
      .ret (Sum.inl ((Prod.fst (Prod.fst s), IntKind.wrap IntKind.i64 (Prod.snd (Prod.fst s) + (1 : Int))), Prod.fst (Prod.snd s), Prod.fst (Prod.snd (Prod.snd s)), Survey.mk (Survey.id (Prod.fst (Prod.snd (Prod.snd (Prod.snd s))))) (Survey.tick (Prod.fst (Prod.snd (Prod.snd (Prod.snd s))))) (Survey.m0 (Prod.fst (Prod.snd (Prod.snd (Prod.snd s))))) (Survey.m1 (Prod.fst (Prod.snd (Prod.snd (Prod.snd s))))) (Span.mk (Prod.snd (Prod.fst s)) (Prod.snd (Prod.fst s))) (Survey.m3 (Prod.fst (Prod.snd (Prod.snd (Prod.snd s))))) (Survey.m4 (Prod.fst (Prod.snd (Prod.snd (Prod.snd s))))) (Survey.m5 (Prod.fst (Prod.snd (Prod.snd (Prod.snd s))))) (Survey.sag (Prod.fst (Prod.snd (Prod.snd (Prod.snd s))))) (Survey.hydro (Prod.fst (Prod.snd (Prod.snd (Prod.snd s))))) (Survey.shown (Prod.fst (Prod.snd (Prod.snd (Prod.snd s))))), Prod.fst (Prod.snd (Prod.snd (Prod.snd (Prod.snd s)))), PUnit.unit)))) (
    .ret (Sum.inr (Prod.fst (Prod.fst s))))) := fun s => by kernel_rfl
noncomputable def K.L_us2 := lim K.st_us2
theorem K.L_us2_eq (s : Ship) (b : Bulbs) (x : Survey) (hs : ShipOk s) (g : K.Good x) : K.L_us2 ((0, (getM 2 x).lo), s, b, x, getM 2 x, ()) = some (useOf s b 2 x) := by
  obtain ⟨o1, o2, o3, o4⟩ := getM_ok g 2
  have key := lim_fold (step := K.st_us2) (fun (i : Nat) (a : Int) => ((a, (getM 2 x).lo + (i : Int)), s, b, useX 2 x (getM 2 x).lo i, getM 2 x, ())) ((getM 2 x).hi - (getM 2 x).lo + 1).toNat (fun a (i : Nat) => useStep s b 2 x ((getM 2 x).lo + (i : Int)) a) id (fun i hi a => ?_) (fun a => ?_) 0
  · have e0 : (getM 2 x).lo + ((0 : Nat) : Int) = (getM 2 x).lo := by omega
    simp only [e0] at key
    exact key
  · rw [sl_us2]
    refine Eq.trans (T.run_br _ _ _) ?_
    rw [if_pos (by simp only [decide_eq_true_eq]; omega)]
    unfold useStep
    rw [← useX_set 2 x (getM 2 x).lo i ⟨(getM 2 x).lo + (i : Int), (getM 2 x).lo + (i : Int)⟩]
    have e1 : IntKind.wrap IntKind.i64 ((getM 2 x).lo + (i : Int) + 1) = (getM 2 x).lo + ((i + 1 : Nat) : Int) := by rw [w64_in (by omega) (by omega)]; omega
    have e2 : useX 2 x (getM 2 x).lo (i + 1) = setM 2 (useX 2 x (getM 2 x).lo i) ⟨(getM 2 x).lo + (i : Int), (getM 2 x).lo + (i : Int)⟩ := by rw [useX_set]; rfl
    rw [e2]
    by_cases hc : (check (b, setM 2 (useX 2 x (getM 2 x).lo i) ⟨(getM 2 x).lo + (i : Int), (getM 2 x).lo + (i : Int)⟩) == 0) = true
    · rw [if_pos hc]
      refine Eq.trans (T.run_br _ _ _) ((if_pos hc).trans ?_)
      refine chk_step (hull_ok hs (eq_of_beq hc)) ?_
      rw [T.run_ret, e1]; rfl
    · rw [if_neg hc]
      refine Eq.trans (T.run_br _ _ _) ((if_neg hc).trans ?_)
      rw [T.run_ret, e1]; rfl
  · rw [sl_us2]
    simp only [T.run_br, T.run_chk, T.run_ret, decide_eq_true_eq]
    rw [if_neg (by omega)]; rfl
noncomputable def BKX55 : Tab := BKX54.addNode 48 33 (nodeE [11, 9, 6, 5, 4, 3, 10] S_us2 X_us2 (fun s => .obs (K.L_us2 s) .ret))
theorem tKX55 : TabOk P BKX55 := TabOk.addLoop (d := 30) okP tKX54 (by kernel_rfl) (by kernel_rfl) (fun s r h => obs_ret h)
theorem fn_us2 : ∀ a, (callT1 P BKX55 30 48 D_us2 (dI .i64)) a = T.run (
  .obs (L_us2 (((0 : Int), Span.lo (Survey.m2 (Prod.fst (Prod.snd (Prod.snd a))))), Prod.fst a, Prod.fst (Prod.snd a), Prod.fst (Prod.snd (Prod.snd a)), Survey.m2 (Prod.fst (Prod.snd (Prod.snd a))), PUnit.unit)) fun x0 =>
    .ret (x0)) := fun a => by kernel_rfl
theorem K.us2_eq (s : Ship) (b : Bulbs) (x : Survey) (hs : ShipOk s) (g : K.Good x) : callT1 P BKX55 30 48 D_us2 (dI .i64) (s, b, x, ()) = some (useOf s b 2 x) := by
  rw [fn_us2]
  show T.run (.obs (L_us2 ((0, (getM 2 x).lo), s, b, x, getM 2 x, ())) _) = _
  rw [L_us2_eq s b x hs g]; rfl
theorem us2_pc (s : Ship) (b : Bulbs) (x : Survey) (hs : ShipOk s) (g : K.Good x) : PC P 48 (D_us2.enc (s, b, x, ())) ((dI .i64).enc (useOf s b 2 x)) := call_of okP tKX55 (K.us2_eq s b x hs g)

def D_ur2 := DecL.cons dShip (.cons dBulbs (.cons dSurvey (.last (dIl 2) 0)))
def S_ur2 := DecS.mk0 (.skips 3 (.unit (dIl 2) (.unit (dLp 0 0 0 0) (.unit (dLp 1 0 0 0) (.unit (dLp 2 0 0 0) (.skips 2 (.cons (dI .i64) (.unit (dLp 3 0 0 0) (.last (dI .i64) 35)))))))))  (.flat 27 lShip (.flat 31 lBulbs (.flat 36 lSurvey (.flat 33 lSpan .nil))))
def X_ur2 := DecX.one (.exit 0) [9] (DecS.mk1 (.skips 9 (.last (dI .i64) 37)))
noncomputable def K.st_ur2 := loopT1 P BKX55 30 49 33 [11, 9, 6, 5, 4, 3, 10] S_ur2 X_ur2
theorem sl_ur2 : ∀ s, (K.st_ur2) s = T.run (
  .br (decide (Prod.snd (Prod.fst s) ≤ Span.hi (Prod.fst (Prod.snd (Prod.snd (Prod.snd (Prod.snd s))))))) (
    .chk (sixOk (Survey.mk (Survey.id (Prod.fst (Prod.snd (Prod.snd (Prod.snd s))))) (Survey.tick (Prod.fst (Prod.snd (Prod.snd (Prod.snd s))))) (Survey.m0 (Prod.fst (Prod.snd (Prod.snd (Prod.snd s))))) (Survey.m1 (Prod.fst (Prod.snd (Prod.snd (Prod.snd s))))) (Span.mk (Prod.snd (Prod.fst s)) (Prod.snd (Prod.fst s))) (Survey.m3 (Prod.fst (Prod.snd (Prod.snd (Prod.snd s))))) (Survey.m4 (Prod.fst (Prod.snd (Prod.snd (Prod.snd s))))) (Survey.m5 (Prod.fst (Prod.snd (Prod.snd (Prod.snd s))))) (Survey.sag (Prod.fst (Prod.snd (Prod.snd (Prod.snd s))))) (Survey.hydro (Prod.fst (Prod.snd (Prod.snd (Prod.snd s))))) (Survey.shown (Prod.fst (Prod.snd (Prod.snd (Prod.snd s))))))) <|
    .br (r_none (r_six (Survey.mk (Survey.id (Prod.fst (Prod.snd (Prod.snd (Prod.snd s))))) (Survey.tick (Prod.fst (Prod.snd (Prod.snd (Prod.snd s))))) (Survey.m0 (Prod.fst (Prod.snd (Prod.snd (Prod.snd s))))) (Survey.m1 (Prod.fst (Prod.snd (Prod.snd (Prod.snd s))))) (Span.mk (Prod.snd (Prod.fst s)) (Prod.snd (Prod.fst s))) (Survey.m3 (Prod.fst (Prod.snd (Prod.snd (Prod.snd s))))) (Survey.m4 (Prod.fst (Prod.snd (Prod.snd (Prod.snd s))))) (Survey.m5 (Prod.fst (Prod.snd (Prod.snd (Prod.snd s))))) (Survey.sag (Prod.fst (Prod.snd (Prod.snd (Prod.snd s))))) (Survey.hydro (Prod.fst (Prod.snd (Prod.snd (Prod.snd s))))) (Survey.shown (Prod.fst (Prod.snd (Prod.snd (Prod.snd s)))))))) (
      .ret (Sum.inl ((Prod.fst (Prod.fst s), IntKind.wrap IntKind.i64 (Prod.snd (Prod.fst s) + (1 : Int))), Prod.fst (Prod.snd s), Prod.fst (Prod.snd (Prod.snd s)), Survey.mk (Survey.id (Prod.fst (Prod.snd (Prod.snd (Prod.snd s))))) (Survey.tick (Prod.fst (Prod.snd (Prod.snd (Prod.snd s))))) (Survey.m0 (Prod.fst (Prod.snd (Prod.snd (Prod.snd s))))) (Survey.m1 (Prod.fst (Prod.snd (Prod.snd (Prod.snd s))))) (Span.mk (Prod.snd (Prod.fst s)) (Prod.snd (Prod.fst s))) (Survey.m3 (Prod.fst (Prod.snd (Prod.snd (Prod.snd s))))) (Survey.m4 (Prod.fst (Prod.snd (Prod.snd (Prod.snd s))))) (Survey.m5 (Prod.fst (Prod.snd (Prod.snd (Prod.snd s))))) (Survey.sag (Prod.fst (Prod.snd (Prod.snd (Prod.snd s))))) (Survey.hydro (Prod.fst (Prod.snd (Prod.snd (Prod.snd s))))) (Survey.shown (Prod.fst (Prod.snd (Prod.snd (Prod.snd s))))), Prod.fst (Prod.snd (Prod.snd (Prod.snd (Prod.snd s)))), PUnit.unit))) (
      .chk (r_massOk (Prod.fst (Prod.snd s)) (Survey.mk (Survey.id (Prod.fst (Prod.snd (Prod.snd (Prod.snd s))))) (Survey.tick (Prod.fst (Prod.snd (Prod.snd (Prod.snd s))))) (Survey.m0 (Prod.fst (Prod.snd (Prod.snd (Prod.snd s))))) (Survey.m1 (Prod.fst (Prod.snd (Prod.snd (Prod.snd s))))) (Span.mk (Prod.snd (Prod.fst s)) (Prod.snd (Prod.fst s))) (Survey.m3 (Prod.fst (Prod.snd (Prod.snd (Prod.snd s))))) (Survey.m4 (Prod.fst (Prod.snd (Prod.snd (Prod.snd s))))) (Survey.m5 (Prod.fst (Prod.snd (Prod.snd (Prod.snd s))))) (Survey.sag (Prod.fst (Prod.snd (Prod.snd (Prod.snd s))))) (Survey.hydro (Prod.fst (Prod.snd (Prod.snd (Prod.snd s))))) (Survey.shown (Prod.fst (Prod.snd (Prod.snd (Prod.snd s))))))) <|
      .ret (Sum.inl ((if IntKind.wrap IntKind.i64 (IntKind.wrap IntKind.i64 (Span.hi (r_mass (Prod.fst (Prod.snd s)) (Prod.fst (Prod.snd (Prod.snd s))) (Survey.mk (Survey.id (Prod.fst (Prod.snd (Prod.snd (Prod.snd s))))) (Survey.tick (Prod.fst (Prod.snd (Prod.snd (Prod.snd s))))) (Survey.m0 (Prod.fst (Prod.snd (Prod.snd (Prod.snd s))))) (Survey.m1 (Prod.fst (Prod.snd (Prod.snd (Prod.snd s))))) (Span.mk (Prod.snd (Prod.fst s)) (Prod.snd (Prod.fst s))) (Survey.m3 (Prod.fst (Prod.snd (Prod.snd (Prod.snd s))))) (Survey.m4 (Prod.fst (Prod.snd (Prod.snd (Prod.snd s))))) (Survey.m5 (Prod.fst (Prod.snd (Prod.snd (Prod.snd s))))) (Survey.sag (Prod.fst (Prod.snd (Prod.snd (Prod.snd s))))) (Survey.hydro (Prod.fst (Prod.snd (Prod.snd (Prod.snd s))))) (Survey.shown (Prod.fst (Prod.snd (Prod.snd (Prod.snd s))))))) - Span.lo (r_mass (Prod.fst (Prod.snd s)) (Prod.fst (Prod.snd (Prod.snd s))) (Survey.mk (Survey.id (Prod.fst (Prod.snd (Prod.snd (Prod.snd s))))) (Survey.tick (Prod.fst (Prod.snd (Prod.snd (Prod.snd s))))) (Survey.m0 (Prod.fst (Prod.snd (Prod.snd (Prod.snd s))))) (Survey.m1 (Prod.fst (Prod.snd (Prod.snd (Prod.snd s))))) (Span.mk (Prod.snd (Prod.fst s)) (Prod.snd (Prod.fst s))) (Survey.m3 (Prod.fst (Prod.snd (Prod.snd (Prod.snd s))))) (Survey.m4 (Prod.fst (Prod.snd (Prod.snd (Prod.snd s))))) (Survey.m5 (Prod.fst (Prod.snd (Prod.snd (Prod.snd s))))) (Survey.sag (Prod.fst (Prod.snd (Prod.snd (Prod.snd s))))) (Survey.hydro (Prod.fst (Prod.snd (Prod.snd (Prod.snd s))))) (Survey.shown (Prod.fst (Prod.snd (Prod.snd (Prod.snd s)))))))) + (1 : Int)) > Prod.fst (Prod.fst s) then IntKind.wrap IntKind.i64 (IntKind.wrap IntKind.i64 (Span.hi (r_mass (Prod.fst (Prod.snd s)) (Prod.fst (Prod.snd (Prod.snd s))) (Survey.mk (Survey.id (Prod.fst (Prod.snd (Prod.snd (Prod.snd s))))) (Survey.tick (Prod.fst (Prod.snd (Prod.snd (Prod.snd s))))) (Survey.m0 (Prod.fst (Prod.snd (Prod.snd (Prod.snd s))))) (Survey.m1 (Prod.fst (Prod.snd (Prod.snd (Prod.snd s))))) (Span.mk (Prod.snd (Prod.fst s)) (Prod.snd (Prod.fst s))) (Survey.m3 (Prod.fst (Prod.snd (Prod.snd (Prod.snd s))))) (Survey.m4 (Prod.fst (Prod.snd (Prod.snd (Prod.snd s))))) (Survey.m5 (Prod.fst (Prod.snd (Prod.snd (Prod.snd s))))) (Survey.sag (Prod.fst (Prod.snd (Prod.snd (Prod.snd s))))) (Survey.hydro (Prod.fst (Prod.snd (Prod.snd (Prod.snd s))))) (Survey.shown (Prod.fst (Prod.snd (Prod.snd (Prod.snd s))))))) - Span.lo (r_mass (Prod.fst (Prod.snd s)) (Prod.fst (Prod.snd (Prod.snd s))) (Survey.mk (Survey.id (Prod.fst (Prod.snd (Prod.snd (Prod.snd s))))) (Survey.tick (Prod.fst (Prod.snd (Prod.snd (Prod.snd s))))) (Survey.m0 (Prod.fst (Prod.snd (Prod.snd (Prod.snd s))))) (Survey.m1 (Prod.fst (Prod.snd (Prod.snd (Prod.snd s))))) (Span.mk (Prod.snd (Prod.fst s)) (Prod.snd (Prod.fst s))) (Survey.m3 (Prod.fst (Prod.snd (Prod.snd (Prod.snd s))))) (Survey.m4 (Prod.fst (Prod.snd (Prod.snd (Prod.snd s))))) (Survey.m5 (Prod.fst (Prod.snd (Prod.snd (Prod.snd s))))) (Survey.sag (Prod.fst (Prod.snd (Prod.snd (Prod.snd s))))) (Survey.hydro (Prod.fst (Prod.snd (Prod.snd (Prod.snd s))))) (Survey.shown (Prod.fst (Prod.snd (Prod.snd (Prod.snd s)))))))) + (1 : Int)) else Prod.fst (Prod.fst s), IntKind.wrap IntKind.i64 (Prod.snd (Prod.fst s) + (1 : Int))), Prod.fst (Prod.snd s), Prod.fst (Prod.snd (Prod.snd s)), Survey.mk (Survey.id (Prod.fst (Prod.snd (Prod.snd (Prod.snd s))))) (Survey.tick (Prod.fst (Prod.snd (Prod.snd (Prod.snd s))))) (Survey.m0 (Prod.fst (Prod.snd (Prod.snd (Prod.snd s))))) (Survey.m1 (Prod.fst (Prod.snd (Prod.snd (Prod.snd s))))) (Span.mk (Prod.snd (Prod.fst s)) (Prod.snd (Prod.fst s))) (Survey.m3 (Prod.fst (Prod.snd (Prod.snd (Prod.snd s))))) (Survey.m4 (Prod.fst (Prod.snd (Prod.snd (Prod.snd s))))) (Survey.m5 (Prod.fst (Prod.snd (Prod.snd (Prod.snd s))))) (Survey.sag (Prod.fst (Prod.snd (Prod.snd (Prod.snd s))))) (Survey.hydro (Prod.fst (Prod.snd (Prod.snd (Prod.snd s))))) (Survey.shown (Prod.fst (Prod.snd (Prod.snd (Prod.snd s))))), Prod.fst (Prod.snd (Prod.snd (Prod.snd (Prod.snd s)))), PUnit.unit)))) (
    .ret (Sum.inr (Prod.fst (Prod.fst s))))) := fun s => by kernel_rfl
noncomputable def K.L_ur2 := lim K.st_ur2
theorem K.L_ur2_eq (s : Ship) (b : Bulbs) (x : Survey) (hs : ShipOk s) (g : K.Good x) : K.L_ur2 ((0, (getM 2 x).lo), s, b, x, getM 2 x, ()) = some (r_useOf s b 2 x) := by
  obtain ⟨o1, o2, o3, o4⟩ := getM_ok g 2
  have key := lim_fold (step := K.st_ur2) (fun (i : Nat) (a : Int) => ((a, (getM 2 x).lo + (i : Int)), s, b, useX 2 x (getM 2 x).lo i, getM 2 x, ())) ((getM 2 x).hi - (getM 2 x).lo + 1).toNat (fun a (i : Nat) => r_useStep s b 2 x ((getM 2 x).lo + (i : Int)) a) id (fun i hi a => ?_) (fun a => ?_) 0
  · have e0 : (getM 2 x).lo + ((0 : Nat) : Int) = (getM 2 x).lo := by omega
    simp only [e0] at key
    exact key
  · rw [sl_ur2]
    refine Eq.trans (T.run_br _ _ _) ?_
    rw [if_pos (by simp only [decide_eq_true_eq]; omega)]
    unfold r_useStep
    rw [← useX_set 2 x (getM 2 x).lo i ⟨(getM 2 x).lo + (i : Int), (getM 2 x).lo + (i : Int)⟩]
    have e1 : IntKind.wrap IntKind.i64 ((getM 2 x).lo + (i : Int) + 1) = (getM 2 x).lo + ((i + 1 : Nat) : Int) := by rw [w64_in (by omega) (by omega)]; omega
    have e2 : useX 2 x (getM 2 x).lo (i + 1) = setM 2 (useX 2 x (getM 2 x).lo i) ⟨(getM 2 x).lo + (i : Int), (getM 2 x).lo + (i : Int)⟩ := by rw [useX_set]; rfl
    rw [e2]
    have gy : K.Good (setM 2 (useX 2 x (getM 2 x).lo i) ⟨(getM 2 x).lo + (i : Int), (getM 2 x).lo + (i : Int)⟩) := by rw [useX_set]; exact one_ok g 2 (by omega) (by omega)
    refine chk_step (six_ok gy) ?_
    by_cases hc : r_none (r_six (setM 2 (useX 2 x (getM 2 x).lo i) ⟨(getM 2 x).lo + (i : Int), (getM 2 x).lo + (i : Int)⟩)) = true
    · rw [if_pos hc]
      refine Eq.trans (T.run_br _ _ _) ((if_pos hc).trans ?_)
      rw [T.run_ret, e1]; rfl
    · rw [if_neg hc]
      refine Eq.trans (T.run_br _ _ _) ((if_neg hc).trans ?_)
      rw [six_bool gy] at hc
      refine chk_step (massOk_is hs gy (by simpa using hc)).2 ?_
      rw [T.run_ret, e1]; rfl
  · rw [sl_ur2]
    simp only [T.run_br, T.run_chk, T.run_ret, decide_eq_true_eq]
    rw [if_neg (by omega)]; rfl
noncomputable def BKX56 : Tab := BKX55.addNode 49 33 (nodeE [11, 9, 6, 5, 4, 3, 10] S_ur2 X_ur2 (fun s => .obs (K.L_ur2 s) .ret))
theorem tKX56 : TabOk P BKX56 := TabOk.addLoop (d := 30) okP tKX55 (by kernel_rfl) (by kernel_rfl) (fun s r h => obs_ret h)
theorem fn_ur2 : ∀ a, (callT1 P BKX56 30 49 D_ur2 (dI .i64)) a = T.run (
  .obs (L_ur2 (((0 : Int), Span.lo (Survey.m2 (Prod.fst (Prod.snd (Prod.snd a))))), Prod.fst a, Prod.fst (Prod.snd a), Prod.fst (Prod.snd (Prod.snd a)), Survey.m2 (Prod.fst (Prod.snd (Prod.snd a))), PUnit.unit)) fun x0 =>
    .ret (x0)) := fun a => by kernel_rfl
theorem K.ur2_eq (s : Ship) (b : Bulbs) (x : Survey) (hs : ShipOk s) (g : K.Good x) : callT1 P BKX56 30 49 D_ur2 (dI .i64) (s, b, x, ()) = some (r_useOf s b 2 x) := by
  rw [fn_ur2]
  show T.run (.obs (L_ur2 ((0, (getM 2 x).lo), s, b, x, getM 2 x, ())) _) = _
  rw [L_ur2_eq s b x hs g]; rfl
theorem ur2_pc (s : Ship) (b : Bulbs) (x : Survey) (hs : ShipOk s) (g : K.Good x) : PC P 49 (D_ur2.enc (s, b, x, ())) ((dI .i64).enc (r_useOf s b 2 x)) := call_of okP tKX56 (K.ur2_eq s b x hs g)

def D_us3 := DecL.cons dShip (.cons dBulbs (.cons dSurvey (.last (dIl 3) 0)))
def S_us3 := DecS.mk0 (.skips 3 (.unit (dIl 3) (.unit (dLp 0 0 0 0) (.unit (dLp 1 0 0 0) (.unit (dLp 2 0 0 0) (.skips 2 (.cons (dI .i64) (.unit (dLp 3 0 0 0) (.last (dI .i64) 36)))))))))  (.flat 27 lShip (.flat 31 lBulbs (.flat 36 lSurvey (.flat 33 lSpan .nil))))
def X_us3 := DecX.one (.exit 0) [9] (DecS.mk1 (.skips 9 (.last (dI .i64) 38)))
noncomputable def K.st_us3 := loopT1 P BKX56 30 48 33 [11, 9, 6, 5, 4, 3, 10] S_us3 X_us3
theorem sl_us3 : ∀ s, (K.st_us3) s = T.run (
  .br (decide (Prod.snd (Prod.fst s) ≤ Span.hi (Prod.fst (Prod.snd (Prod.snd (Prod.snd (Prod.snd s))))))) (
    .br (check (Prod.fst (Prod.snd (Prod.snd s)), Survey.mk (Survey.id (Prod.fst (Prod.snd (Prod.snd (Prod.snd s))))) (Survey.tick (Prod.fst (Prod.snd (Prod.snd (Prod.snd s))))) (Survey.m0 (Prod.fst (Prod.snd (Prod.snd (Prod.snd s))))) (Survey.m1 (Prod.fst (Prod.snd (Prod.snd (Prod.snd s))))) (Survey.m2 (Prod.fst (Prod.snd (Prod.snd (Prod.snd s))))) (Span.mk (Prod.snd (Prod.fst s)) (Prod.snd (Prod.fst s))) (Survey.m4 (Prod.fst (Prod.snd (Prod.snd (Prod.snd s))))) (Survey.m5 (Prod.fst (Prod.snd (Prod.snd (Prod.snd s))))) (Survey.sag (Prod.fst (Prod.snd (Prod.snd (Prod.snd s))))) (Survey.hydro (Prod.fst (Prod.snd (Prod.snd (Prod.snd s))))) (Survey.shown (Prod.fst (Prod.snd (Prod.snd (Prod.snd s)))))) == (0 : Int)) (
      .chk (massOk (Prod.fst (Prod.snd s)) (Survey.mk (Survey.id (Prod.fst (Prod.snd (Prod.snd (Prod.snd s))))) (Survey.tick (Prod.fst (Prod.snd (Prod.snd (Prod.snd s))))) (Survey.m0 (Prod.fst (Prod.snd (Prod.snd (Prod.snd s))))) (Survey.m1 (Prod.fst (Prod.snd (Prod.snd (Prod.snd s))))) (Survey.m2 (Prod.fst (Prod.snd (Prod.snd (Prod.snd s))))) (Span.mk (Prod.snd (Prod.fst s)) (Prod.snd (Prod.fst s))) (Survey.m4 (Prod.fst (Prod.snd (Prod.snd (Prod.snd s))))) (Survey.m5 (Prod.fst (Prod.snd (Prod.snd (Prod.snd s))))) (Survey.sag (Prod.fst (Prod.snd (Prod.snd (Prod.snd s))))) (Survey.hydro (Prod.fst (Prod.snd (Prod.snd (Prod.snd s))))) (Survey.shown (Prod.fst (Prod.snd (Prod.snd (Prod.snd s))))))) <|
      .ret (Sum.inl ((if IntKind.wrap IntKind.i64 (IntKind.wrap IntKind.i64 (Span.hi (massOf (Prod.fst (Prod.snd s)) (Prod.fst (Prod.snd (Prod.snd s))) (Survey.mk (Survey.id (Prod.fst (Prod.snd (Prod.snd (Prod.snd s))))) (Survey.tick (Prod.fst (Prod.snd (Prod.snd (Prod.snd s))))) (Survey.m0 (Prod.fst (Prod.snd (Prod.snd (Prod.snd s))))) (Survey.m1 (Prod.fst (Prod.snd (Prod.snd (Prod.snd s))))) (Survey.m2 (Prod.fst (Prod.snd (Prod.snd (Prod.snd s))))) (Span.mk (Prod.snd (Prod.fst s)) (Prod.snd (Prod.fst s))) (Survey.m4 (Prod.fst (Prod.snd (Prod.snd (Prod.snd s))))) (Survey.m5 (Prod.fst (Prod.snd (Prod.snd (Prod.snd s))))) (Survey.sag (Prod.fst (Prod.snd (Prod.snd (Prod.snd s))))) (Survey.hydro (Prod.fst (Prod.snd (Prod.snd (Prod.snd s))))) (Survey.shown (Prod.fst (Prod.snd (Prod.snd (Prod.snd s))))))) - Span.lo (massOf (Prod.fst (Prod.snd s)) (Prod.fst (Prod.snd (Prod.snd s))) (Survey.mk (Survey.id (Prod.fst (Prod.snd (Prod.snd (Prod.snd s))))) (Survey.tick (Prod.fst (Prod.snd (Prod.snd (Prod.snd s))))) (Survey.m0 (Prod.fst (Prod.snd (Prod.snd (Prod.snd s))))) (Survey.m1 (Prod.fst (Prod.snd (Prod.snd (Prod.snd s))))) (Survey.m2 (Prod.fst (Prod.snd (Prod.snd (Prod.snd s))))) (Span.mk (Prod.snd (Prod.fst s)) (Prod.snd (Prod.fst s))) (Survey.m4 (Prod.fst (Prod.snd (Prod.snd (Prod.snd s))))) (Survey.m5 (Prod.fst (Prod.snd (Prod.snd (Prod.snd s))))) (Survey.sag (Prod.fst (Prod.snd (Prod.snd (Prod.snd s))))) (Survey.hydro (Prod.fst (Prod.snd (Prod.snd (Prod.snd s))))) (Survey.shown (Prod.fst (Prod.snd (Prod.snd (Prod.snd s)))))))) + (1 : Int)) > Prod.fst (Prod.fst s) then IntKind.wrap IntKind.i64 (IntKind.wrap IntKind.i64 (Span.hi (massOf (Prod.fst (Prod.snd s)) (Prod.fst (Prod.snd (Prod.snd s))) (Survey.mk (Survey.id (Prod.fst (Prod.snd (Prod.snd (Prod.snd s))))) (Survey.tick (Prod.fst (Prod.snd (Prod.snd (Prod.snd s))))) (Survey.m0 (Prod.fst (Prod.snd (Prod.snd (Prod.snd s))))) (Survey.m1 (Prod.fst (Prod.snd (Prod.snd (Prod.snd s))))) (Survey.m2 (Prod.fst (Prod.snd (Prod.snd (Prod.snd s))))) (Span.mk (Prod.snd (Prod.fst s)) (Prod.snd (Prod.fst s))) (Survey.m4 (Prod.fst (Prod.snd (Prod.snd (Prod.snd s))))) (Survey.m5 (Prod.fst (Prod.snd (Prod.snd (Prod.snd s))))) (Survey.sag (Prod.fst (Prod.snd (Prod.snd (Prod.snd s))))) (Survey.hydro (Prod.fst (Prod.snd (Prod.snd (Prod.snd s))))) (Survey.shown (Prod.fst (Prod.snd (Prod.snd (Prod.snd s))))))) - Span.lo (massOf (Prod.fst (Prod.snd s)) (Prod.fst (Prod.snd (Prod.snd s))) (Survey.mk (Survey.id (Prod.fst (Prod.snd (Prod.snd (Prod.snd s))))) (Survey.tick (Prod.fst (Prod.snd (Prod.snd (Prod.snd s))))) (Survey.m0 (Prod.fst (Prod.snd (Prod.snd (Prod.snd s))))) (Survey.m1 (Prod.fst (Prod.snd (Prod.snd (Prod.snd s))))) (Survey.m2 (Prod.fst (Prod.snd (Prod.snd (Prod.snd s))))) (Span.mk (Prod.snd (Prod.fst s)) (Prod.snd (Prod.fst s))) (Survey.m4 (Prod.fst (Prod.snd (Prod.snd (Prod.snd s))))) (Survey.m5 (Prod.fst (Prod.snd (Prod.snd (Prod.snd s))))) (Survey.sag (Prod.fst (Prod.snd (Prod.snd (Prod.snd s))))) (Survey.hydro (Prod.fst (Prod.snd (Prod.snd (Prod.snd s))))) (Survey.shown (Prod.fst (Prod.snd (Prod.snd (Prod.snd s)))))))) + (1 : Int)) else Prod.fst (Prod.fst s), IntKind.wrap IntKind.i64 (Prod.snd (Prod.fst s) + (1 : Int))), Prod.fst (Prod.snd s), Prod.fst (Prod.snd (Prod.snd s)), Survey.mk (Survey.id (Prod.fst (Prod.snd (Prod.snd (Prod.snd s))))) (Survey.tick (Prod.fst (Prod.snd (Prod.snd (Prod.snd s))))) (Survey.m0 (Prod.fst (Prod.snd (Prod.snd (Prod.snd s))))) (Survey.m1 (Prod.fst (Prod.snd (Prod.snd (Prod.snd s))))) (Survey.m2 (Prod.fst (Prod.snd (Prod.snd (Prod.snd s))))) (Span.mk (Prod.snd (Prod.fst s)) (Prod.snd (Prod.fst s))) (Survey.m4 (Prod.fst (Prod.snd (Prod.snd (Prod.snd s))))) (Survey.m5 (Prod.fst (Prod.snd (Prod.snd (Prod.snd s))))) (Survey.sag (Prod.fst (Prod.snd (Prod.snd (Prod.snd s))))) (Survey.hydro (Prod.fst (Prod.snd (Prod.snd (Prod.snd s))))) (Survey.shown (Prod.fst (Prod.snd (Prod.snd (Prod.snd s))))), Prod.fst (Prod.snd (Prod.snd (Prod.snd (Prod.snd s)))), PUnit.unit))) (
      .ret (Sum.inl ((Prod.fst (Prod.fst s), IntKind.wrap IntKind.i64 (Prod.snd (Prod.fst s) + (1 : Int))), Prod.fst (Prod.snd s), Prod.fst (Prod.snd (Prod.snd s)), Survey.mk (Survey.id (Prod.fst (Prod.snd (Prod.snd (Prod.snd s))))) (Survey.tick (Prod.fst (Prod.snd (Prod.snd (Prod.snd s))))) (Survey.m0 (Prod.fst (Prod.snd (Prod.snd (Prod.snd s))))) (Survey.m1 (Prod.fst (Prod.snd (Prod.snd (Prod.snd s))))) (Survey.m2 (Prod.fst (Prod.snd (Prod.snd (Prod.snd s))))) (Span.mk (Prod.snd (Prod.fst s)) (Prod.snd (Prod.fst s))) (Survey.m4 (Prod.fst (Prod.snd (Prod.snd (Prod.snd s))))) (Survey.m5 (Prod.fst (Prod.snd (Prod.snd (Prod.snd s))))) (Survey.sag (Prod.fst (Prod.snd (Prod.snd (Prod.snd s))))) (Survey.hydro (Prod.fst (Prod.snd (Prod.snd (Prod.snd s))))) (Survey.shown (Prod.fst (Prod.snd (Prod.snd (Prod.snd s))))), Prod.fst (Prod.snd (Prod.snd (Prod.snd (Prod.snd s)))), PUnit.unit)))) (
    .ret (Sum.inr (Prod.fst (Prod.fst s))))) := fun s => by kernel_rfl
noncomputable def K.L_us3 := lim K.st_us3
theorem K.L_us3_eq (s : Ship) (b : Bulbs) (x : Survey) (hs : ShipOk s) (g : K.Good x) : K.L_us3 ((0, (getM 3 x).lo), s, b, x, getM 3 x, ()) = some (useOf s b 3 x) := by
  obtain ⟨o1, o2, o3, o4⟩ := getM_ok g 3
  have key := lim_fold (step := K.st_us3) (fun (i : Nat) (a : Int) => ((a, (getM 3 x).lo + (i : Int)), s, b, useX 3 x (getM 3 x).lo i, getM 3 x, ())) ((getM 3 x).hi - (getM 3 x).lo + 1).toNat (fun a (i : Nat) => useStep s b 3 x ((getM 3 x).lo + (i : Int)) a) id (fun i hi a => ?_) (fun a => ?_) 0
  · have e0 : (getM 3 x).lo + ((0 : Nat) : Int) = (getM 3 x).lo := by omega
    simp only [e0] at key
    exact key
  · rw [sl_us3]
    refine Eq.trans (T.run_br _ _ _) ?_
    rw [if_pos (by simp only [decide_eq_true_eq]; omega)]
    unfold useStep
    rw [← useX_set 3 x (getM 3 x).lo i ⟨(getM 3 x).lo + (i : Int), (getM 3 x).lo + (i : Int)⟩]
    have e1 : IntKind.wrap IntKind.i64 ((getM 3 x).lo + (i : Int) + 1) = (getM 3 x).lo + ((i + 1 : Nat) : Int) := by rw [w64_in (by omega) (by omega)]; omega
    have e2 : useX 3 x (getM 3 x).lo (i + 1) = setM 3 (useX 3 x (getM 3 x).lo i) ⟨(getM 3 x).lo + (i : Int), (getM 3 x).lo + (i : Int)⟩ := by rw [useX_set]; rfl
    rw [e2]
    by_cases hc : (check (b, setM 3 (useX 3 x (getM 3 x).lo i) ⟨(getM 3 x).lo + (i : Int), (getM 3 x).lo + (i : Int)⟩) == 0) = true
    · rw [if_pos hc]
      refine Eq.trans (T.run_br _ _ _) ((if_pos hc).trans ?_)
      refine chk_step (hull_ok hs (eq_of_beq hc)) ?_
      rw [T.run_ret, e1]; rfl
    · rw [if_neg hc]
      refine Eq.trans (T.run_br _ _ _) ((if_neg hc).trans ?_)
      rw [T.run_ret, e1]; rfl
  · rw [sl_us3]
    simp only [T.run_br, T.run_chk, T.run_ret, decide_eq_true_eq]
    rw [if_neg (by omega)]; rfl
noncomputable def BKX57 : Tab := BKX56.addNode 48 33 (nodeE [11, 9, 6, 5, 4, 3, 10] S_us3 X_us3 (fun s => .obs (K.L_us3 s) .ret))
theorem tKX57 : TabOk P BKX57 := TabOk.addLoop (d := 30) okP tKX56 (by kernel_rfl) (by kernel_rfl) (fun s r h => obs_ret h)
theorem fn_us3 : ∀ a, (callT1 P BKX57 30 48 D_us3 (dI .i64)) a = T.run (
  .obs (L_us3 (((0 : Int), Span.lo (Survey.m3 (Prod.fst (Prod.snd (Prod.snd a))))), Prod.fst a, Prod.fst (Prod.snd a), Prod.fst (Prod.snd (Prod.snd a)), Survey.m3 (Prod.fst (Prod.snd (Prod.snd a))), PUnit.unit)) fun x0 =>
    .ret (x0)) := fun a => by kernel_rfl
theorem K.us3_eq (s : Ship) (b : Bulbs) (x : Survey) (hs : ShipOk s) (g : K.Good x) : callT1 P BKX57 30 48 D_us3 (dI .i64) (s, b, x, ()) = some (useOf s b 3 x) := by
  rw [fn_us3]
  show T.run (.obs (L_us3 ((0, (getM 3 x).lo), s, b, x, getM 3 x, ())) _) = _
  rw [L_us3_eq s b x hs g]; rfl
theorem us3_pc (s : Ship) (b : Bulbs) (x : Survey) (hs : ShipOk s) (g : K.Good x) : PC P 48 (D_us3.enc (s, b, x, ())) ((dI .i64).enc (useOf s b 3 x)) := call_of okP tKX57 (K.us3_eq s b x hs g)

def D_ur3 := DecL.cons dShip (.cons dBulbs (.cons dSurvey (.last (dIl 3) 0)))
def S_ur3 := DecS.mk0 (.skips 3 (.unit (dIl 3) (.unit (dLp 0 0 0 0) (.unit (dLp 1 0 0 0) (.unit (dLp 2 0 0 0) (.skips 2 (.cons (dI .i64) (.unit (dLp 3 0 0 0) (.last (dI .i64) 35)))))))))  (.flat 27 lShip (.flat 31 lBulbs (.flat 36 lSurvey (.flat 33 lSpan .nil))))
def X_ur3 := DecX.one (.exit 0) [9] (DecS.mk1 (.skips 9 (.last (dI .i64) 37)))
noncomputable def K.st_ur3 := loopT1 P BKX57 30 49 33 [11, 9, 6, 5, 4, 3, 10] S_ur3 X_ur3
theorem sl_ur3 : ∀ s, (K.st_ur3) s = T.run (
  .br (decide (Prod.snd (Prod.fst s) ≤ Span.hi (Prod.fst (Prod.snd (Prod.snd (Prod.snd (Prod.snd s))))))) (
    .chk (sixOk (Survey.mk (Survey.id (Prod.fst (Prod.snd (Prod.snd (Prod.snd s))))) (Survey.tick (Prod.fst (Prod.snd (Prod.snd (Prod.snd s))))) (Survey.m0 (Prod.fst (Prod.snd (Prod.snd (Prod.snd s))))) (Survey.m1 (Prod.fst (Prod.snd (Prod.snd (Prod.snd s))))) (Survey.m2 (Prod.fst (Prod.snd (Prod.snd (Prod.snd s))))) (Span.mk (Prod.snd (Prod.fst s)) (Prod.snd (Prod.fst s))) (Survey.m4 (Prod.fst (Prod.snd (Prod.snd (Prod.snd s))))) (Survey.m5 (Prod.fst (Prod.snd (Prod.snd (Prod.snd s))))) (Survey.sag (Prod.fst (Prod.snd (Prod.snd (Prod.snd s))))) (Survey.hydro (Prod.fst (Prod.snd (Prod.snd (Prod.snd s))))) (Survey.shown (Prod.fst (Prod.snd (Prod.snd (Prod.snd s))))))) <|
    .br (r_none (r_six (Survey.mk (Survey.id (Prod.fst (Prod.snd (Prod.snd (Prod.snd s))))) (Survey.tick (Prod.fst (Prod.snd (Prod.snd (Prod.snd s))))) (Survey.m0 (Prod.fst (Prod.snd (Prod.snd (Prod.snd s))))) (Survey.m1 (Prod.fst (Prod.snd (Prod.snd (Prod.snd s))))) (Survey.m2 (Prod.fst (Prod.snd (Prod.snd (Prod.snd s))))) (Span.mk (Prod.snd (Prod.fst s)) (Prod.snd (Prod.fst s))) (Survey.m4 (Prod.fst (Prod.snd (Prod.snd (Prod.snd s))))) (Survey.m5 (Prod.fst (Prod.snd (Prod.snd (Prod.snd s))))) (Survey.sag (Prod.fst (Prod.snd (Prod.snd (Prod.snd s))))) (Survey.hydro (Prod.fst (Prod.snd (Prod.snd (Prod.snd s))))) (Survey.shown (Prod.fst (Prod.snd (Prod.snd (Prod.snd s)))))))) (
      .ret (Sum.inl ((Prod.fst (Prod.fst s), IntKind.wrap IntKind.i64 (Prod.snd (Prod.fst s) + (1 : Int))), Prod.fst (Prod.snd s), Prod.fst (Prod.snd (Prod.snd s)), Survey.mk (Survey.id (Prod.fst (Prod.snd (Prod.snd (Prod.snd s))))) (Survey.tick (Prod.fst (Prod.snd (Prod.snd (Prod.snd s))))) (Survey.m0 (Prod.fst (Prod.snd (Prod.snd (Prod.snd s))))) (Survey.m1 (Prod.fst (Prod.snd (Prod.snd (Prod.snd s))))) (Survey.m2 (Prod.fst (Prod.snd (Prod.snd (Prod.snd s))))) (Span.mk (Prod.snd (Prod.fst s)) (Prod.snd (Prod.fst s))) (Survey.m4 (Prod.fst (Prod.snd (Prod.snd (Prod.snd s))))) (Survey.m5 (Prod.fst (Prod.snd (Prod.snd (Prod.snd s))))) (Survey.sag (Prod.fst (Prod.snd (Prod.snd (Prod.snd s))))) (Survey.hydro (Prod.fst (Prod.snd (Prod.snd (Prod.snd s))))) (Survey.shown (Prod.fst (Prod.snd (Prod.snd (Prod.snd s))))), Prod.fst (Prod.snd (Prod.snd (Prod.snd (Prod.snd s)))), PUnit.unit))) (
      .chk (r_massOk (Prod.fst (Prod.snd s)) (Survey.mk (Survey.id (Prod.fst (Prod.snd (Prod.snd (Prod.snd s))))) (Survey.tick (Prod.fst (Prod.snd (Prod.snd (Prod.snd s))))) (Survey.m0 (Prod.fst (Prod.snd (Prod.snd (Prod.snd s))))) (Survey.m1 (Prod.fst (Prod.snd (Prod.snd (Prod.snd s))))) (Survey.m2 (Prod.fst (Prod.snd (Prod.snd (Prod.snd s))))) (Span.mk (Prod.snd (Prod.fst s)) (Prod.snd (Prod.fst s))) (Survey.m4 (Prod.fst (Prod.snd (Prod.snd (Prod.snd s))))) (Survey.m5 (Prod.fst (Prod.snd (Prod.snd (Prod.snd s))))) (Survey.sag (Prod.fst (Prod.snd (Prod.snd (Prod.snd s))))) (Survey.hydro (Prod.fst (Prod.snd (Prod.snd (Prod.snd s))))) (Survey.shown (Prod.fst (Prod.snd (Prod.snd (Prod.snd s))))))) <|
      .ret (Sum.inl ((if IntKind.wrap IntKind.i64 (IntKind.wrap IntKind.i64 (Span.hi (r_mass (Prod.fst (Prod.snd s)) (Prod.fst (Prod.snd (Prod.snd s))) (Survey.mk (Survey.id (Prod.fst (Prod.snd (Prod.snd (Prod.snd s))))) (Survey.tick (Prod.fst (Prod.snd (Prod.snd (Prod.snd s))))) (Survey.m0 (Prod.fst (Prod.snd (Prod.snd (Prod.snd s))))) (Survey.m1 (Prod.fst (Prod.snd (Prod.snd (Prod.snd s))))) (Survey.m2 (Prod.fst (Prod.snd (Prod.snd (Prod.snd s))))) (Span.mk (Prod.snd (Prod.fst s)) (Prod.snd (Prod.fst s))) (Survey.m4 (Prod.fst (Prod.snd (Prod.snd (Prod.snd s))))) (Survey.m5 (Prod.fst (Prod.snd (Prod.snd (Prod.snd s))))) (Survey.sag (Prod.fst (Prod.snd (Prod.snd (Prod.snd s))))) (Survey.hydro (Prod.fst (Prod.snd (Prod.snd (Prod.snd s))))) (Survey.shown (Prod.fst (Prod.snd (Prod.snd (Prod.snd s))))))) - Span.lo (r_mass (Prod.fst (Prod.snd s)) (Prod.fst (Prod.snd (Prod.snd s))) (Survey.mk (Survey.id (Prod.fst (Prod.snd (Prod.snd (Prod.snd s))))) (Survey.tick (Prod.fst (Prod.snd (Prod.snd (Prod.snd s))))) (Survey.m0 (Prod.fst (Prod.snd (Prod.snd (Prod.snd s))))) (Survey.m1 (Prod.fst (Prod.snd (Prod.snd (Prod.snd s))))) (Survey.m2 (Prod.fst (Prod.snd (Prod.snd (Prod.snd s))))) (Span.mk (Prod.snd (Prod.fst s)) (Prod.snd (Prod.fst s))) (Survey.m4 (Prod.fst (Prod.snd (Prod.snd (Prod.snd s))))) (Survey.m5 (Prod.fst (Prod.snd (Prod.snd (Prod.snd s))))) (Survey.sag (Prod.fst (Prod.snd (Prod.snd (Prod.snd s))))) (Survey.hydro (Prod.fst (Prod.snd (Prod.snd (Prod.snd s))))) (Survey.shown (Prod.fst (Prod.snd (Prod.snd (Prod.snd s)))))))) + (1 : Int)) > Prod.fst (Prod.fst s) then IntKind.wrap IntKind.i64 (IntKind.wrap IntKind.i64 (Span.hi (r_mass (Prod.fst (Prod.snd s)) (Prod.fst (Prod.snd (Prod.snd s))) (Survey.mk (Survey.id (Prod.fst (Prod.snd (Prod.snd (Prod.snd s))))) (Survey.tick (Prod.fst (Prod.snd (Prod.snd (Prod.snd s))))) (Survey.m0 (Prod.fst (Prod.snd (Prod.snd (Prod.snd s))))) (Survey.m1 (Prod.fst (Prod.snd (Prod.snd (Prod.snd s))))) (Survey.m2 (Prod.fst (Prod.snd (Prod.snd (Prod.snd s))))) (Span.mk (Prod.snd (Prod.fst s)) (Prod.snd (Prod.fst s))) (Survey.m4 (Prod.fst (Prod.snd (Prod.snd (Prod.snd s))))) (Survey.m5 (Prod.fst (Prod.snd (Prod.snd (Prod.snd s))))) (Survey.sag (Prod.fst (Prod.snd (Prod.snd (Prod.snd s))))) (Survey.hydro (Prod.fst (Prod.snd (Prod.snd (Prod.snd s))))) (Survey.shown (Prod.fst (Prod.snd (Prod.snd (Prod.snd s))))))) - Span.lo (r_mass (Prod.fst (Prod.snd s)) (Prod.fst (Prod.snd (Prod.snd s))) (Survey.mk (Survey.id (Prod.fst (Prod.snd (Prod.snd (Prod.snd s))))) (Survey.tick (Prod.fst (Prod.snd (Prod.snd (Prod.snd s))))) (Survey.m0 (Prod.fst (Prod.snd (Prod.snd (Prod.snd s))))) (Survey.m1 (Prod.fst (Prod.snd (Prod.snd (Prod.snd s))))) (Survey.m2 (Prod.fst (Prod.snd (Prod.snd (Prod.snd s))))) (Span.mk (Prod.snd (Prod.fst s)) (Prod.snd (Prod.fst s))) (Survey.m4 (Prod.fst (Prod.snd (Prod.snd (Prod.snd s))))) (Survey.m5 (Prod.fst (Prod.snd (Prod.snd (Prod.snd s))))) (Survey.sag (Prod.fst (Prod.snd (Prod.snd (Prod.snd s))))) (Survey.hydro (Prod.fst (Prod.snd (Prod.snd (Prod.snd s))))) (Survey.shown (Prod.fst (Prod.snd (Prod.snd (Prod.snd s)))))))) + (1 : Int)) else Prod.fst (Prod.fst s), IntKind.wrap IntKind.i64 (Prod.snd (Prod.fst s) + (1 : Int))), Prod.fst (Prod.snd s), Prod.fst (Prod.snd (Prod.snd s)), Survey.mk (Survey.id (Prod.fst (Prod.snd (Prod.snd (Prod.snd s))))) (Survey.tick (Prod.fst (Prod.snd (Prod.snd (Prod.snd s))))) (Survey.m0 (Prod.fst (Prod.snd (Prod.snd (Prod.snd s))))) (Survey.m1 (Prod.fst (Prod.snd (Prod.snd (Prod.snd s))))) (Survey.m2 (Prod.fst (Prod.snd (Prod.snd (Prod.snd s))))) (Span.mk (Prod.snd (Prod.fst s)) (Prod.snd (Prod.fst s))) (Survey.m4 (Prod.fst (Prod.snd (Prod.snd (Prod.snd s))))) (Survey.m5 (Prod.fst (Prod.snd (Prod.snd (Prod.snd s))))) (Survey.sag (Prod.fst (Prod.snd (Prod.snd (Prod.snd s))))) (Survey.hydro (Prod.fst (Prod.snd (Prod.snd (Prod.snd s))))) (Survey.shown (Prod.fst (Prod.snd (Prod.snd (Prod.snd s))))), Prod.fst (Prod.snd (Prod.snd (Prod.snd (Prod.snd s)))), PUnit.unit)))) (
    .ret (Sum.inr (Prod.fst (Prod.fst s))))) := fun s => by kernel_rfl
noncomputable def K.L_ur3 := lim K.st_ur3
theorem K.L_ur3_eq (s : Ship) (b : Bulbs) (x : Survey) (hs : ShipOk s) (g : K.Good x) : K.L_ur3 ((0, (getM 3 x).lo), s, b, x, getM 3 x, ()) = some (r_useOf s b 3 x) := by
  obtain ⟨o1, o2, o3, o4⟩ := getM_ok g 3
  have key := lim_fold (step := K.st_ur3) (fun (i : Nat) (a : Int) => ((a, (getM 3 x).lo + (i : Int)), s, b, useX 3 x (getM 3 x).lo i, getM 3 x, ())) ((getM 3 x).hi - (getM 3 x).lo + 1).toNat (fun a (i : Nat) => r_useStep s b 3 x ((getM 3 x).lo + (i : Int)) a) id (fun i hi a => ?_) (fun a => ?_) 0
  · have e0 : (getM 3 x).lo + ((0 : Nat) : Int) = (getM 3 x).lo := by omega
    simp only [e0] at key
    exact key
  · rw [sl_ur3]
    refine Eq.trans (T.run_br _ _ _) ?_
    rw [if_pos (by simp only [decide_eq_true_eq]; omega)]
    unfold r_useStep
    rw [← useX_set 3 x (getM 3 x).lo i ⟨(getM 3 x).lo + (i : Int), (getM 3 x).lo + (i : Int)⟩]
    have e1 : IntKind.wrap IntKind.i64 ((getM 3 x).lo + (i : Int) + 1) = (getM 3 x).lo + ((i + 1 : Nat) : Int) := by rw [w64_in (by omega) (by omega)]; omega
    have e2 : useX 3 x (getM 3 x).lo (i + 1) = setM 3 (useX 3 x (getM 3 x).lo i) ⟨(getM 3 x).lo + (i : Int), (getM 3 x).lo + (i : Int)⟩ := by rw [useX_set]; rfl
    rw [e2]
    have gy : K.Good (setM 3 (useX 3 x (getM 3 x).lo i) ⟨(getM 3 x).lo + (i : Int), (getM 3 x).lo + (i : Int)⟩) := by rw [useX_set]; exact one_ok g 3 (by omega) (by omega)
    refine chk_step (six_ok gy) ?_
    by_cases hc : r_none (r_six (setM 3 (useX 3 x (getM 3 x).lo i) ⟨(getM 3 x).lo + (i : Int), (getM 3 x).lo + (i : Int)⟩)) = true
    · rw [if_pos hc]
      refine Eq.trans (T.run_br _ _ _) ((if_pos hc).trans ?_)
      rw [T.run_ret, e1]; rfl
    · rw [if_neg hc]
      refine Eq.trans (T.run_br _ _ _) ((if_neg hc).trans ?_)
      rw [six_bool gy] at hc
      refine chk_step (massOk_is hs gy (by simpa using hc)).2 ?_
      rw [T.run_ret, e1]; rfl
  · rw [sl_ur3]
    simp only [T.run_br, T.run_chk, T.run_ret, decide_eq_true_eq]
    rw [if_neg (by omega)]; rfl
noncomputable def BKX58 : Tab := BKX57.addNode 49 33 (nodeE [11, 9, 6, 5, 4, 3, 10] S_ur3 X_ur3 (fun s => .obs (K.L_ur3 s) .ret))
theorem tKX58 : TabOk P BKX58 := TabOk.addLoop (d := 30) okP tKX57 (by kernel_rfl) (by kernel_rfl) (fun s r h => obs_ret h)
theorem fn_ur3 : ∀ a, (callT1 P BKX58 30 49 D_ur3 (dI .i64)) a = T.run (
  .obs (L_ur3 (((0 : Int), Span.lo (Survey.m3 (Prod.fst (Prod.snd (Prod.snd a))))), Prod.fst a, Prod.fst (Prod.snd a), Prod.fst (Prod.snd (Prod.snd a)), Survey.m3 (Prod.fst (Prod.snd (Prod.snd a))), PUnit.unit)) fun x0 =>
    .ret (x0)) := fun a => by kernel_rfl
theorem K.ur3_eq (s : Ship) (b : Bulbs) (x : Survey) (hs : ShipOk s) (g : K.Good x) : callT1 P BKX58 30 49 D_ur3 (dI .i64) (s, b, x, ()) = some (r_useOf s b 3 x) := by
  rw [fn_ur3]
  show T.run (.obs (L_ur3 ((0, (getM 3 x).lo), s, b, x, getM 3 x, ())) _) = _
  rw [L_ur3_eq s b x hs g]; rfl
theorem ur3_pc (s : Ship) (b : Bulbs) (x : Survey) (hs : ShipOk s) (g : K.Good x) : PC P 49 (D_ur3.enc (s, b, x, ())) ((dI .i64).enc (r_useOf s b 3 x)) := call_of okP tKX58 (K.ur3_eq s b x hs g)

def D_us4 := DecL.cons dShip (.cons dBulbs (.cons dSurvey (.last (dIl 4) 0)))
def S_us4 := DecS.mk0 (.skips 3 (.unit (dIl 4) (.unit (dLp 0 0 0 0) (.unit (dLp 1 0 0 0) (.unit (dLp 2 0 0 0) (.skips 2 (.cons (dI .i64) (.unit (dLp 3 0 0 0) (.last (dI .i64) 36)))))))))  (.flat 27 lShip (.flat 31 lBulbs (.flat 36 lSurvey (.flat 33 lSpan .nil))))
def X_us4 := DecX.one (.exit 0) [9] (DecS.mk1 (.skips 9 (.last (dI .i64) 38)))
noncomputable def K.st_us4 := loopT1 P BKX58 30 48 33 [11, 9, 6, 5, 4, 3, 10] S_us4 X_us4
theorem sl_us4 : ∀ s, (K.st_us4) s = T.run (
  .br (decide (Prod.snd (Prod.fst s) ≤ Span.hi (Prod.fst (Prod.snd (Prod.snd (Prod.snd (Prod.snd s))))))) (
    .br (check (Prod.fst (Prod.snd (Prod.snd s)), Survey.mk (Survey.id (Prod.fst (Prod.snd (Prod.snd (Prod.snd s))))) (Survey.tick (Prod.fst (Prod.snd (Prod.snd (Prod.snd s))))) (Survey.m0 (Prod.fst (Prod.snd (Prod.snd (Prod.snd s))))) (Survey.m1 (Prod.fst (Prod.snd (Prod.snd (Prod.snd s))))) (Survey.m2 (Prod.fst (Prod.snd (Prod.snd (Prod.snd s))))) (Survey.m3 (Prod.fst (Prod.snd (Prod.snd (Prod.snd s))))) (Span.mk (Prod.snd (Prod.fst s)) (Prod.snd (Prod.fst s))) (Survey.m5 (Prod.fst (Prod.snd (Prod.snd (Prod.snd s))))) (Survey.sag (Prod.fst (Prod.snd (Prod.snd (Prod.snd s))))) (Survey.hydro (Prod.fst (Prod.snd (Prod.snd (Prod.snd s))))) (Survey.shown (Prod.fst (Prod.snd (Prod.snd (Prod.snd s)))))) == (0 : Int)) (
      .chk (massOk (Prod.fst (Prod.snd s)) (Survey.mk (Survey.id (Prod.fst (Prod.snd (Prod.snd (Prod.snd s))))) (Survey.tick (Prod.fst (Prod.snd (Prod.snd (Prod.snd s))))) (Survey.m0 (Prod.fst (Prod.snd (Prod.snd (Prod.snd s))))) (Survey.m1 (Prod.fst (Prod.snd (Prod.snd (Prod.snd s))))) (Survey.m2 (Prod.fst (Prod.snd (Prod.snd (Prod.snd s))))) (Survey.m3 (Prod.fst (Prod.snd (Prod.snd (Prod.snd s))))) (Span.mk (Prod.snd (Prod.fst s)) (Prod.snd (Prod.fst s))) (Survey.m5 (Prod.fst (Prod.snd (Prod.snd (Prod.snd s))))) (Survey.sag (Prod.fst (Prod.snd (Prod.snd (Prod.snd s))))) (Survey.hydro (Prod.fst (Prod.snd (Prod.snd (Prod.snd s))))) (Survey.shown (Prod.fst (Prod.snd (Prod.snd (Prod.snd s))))))) <|
      .ret (Sum.inl ((if IntKind.wrap IntKind.i64 (IntKind.wrap IntKind.i64 (Span.hi (massOf (Prod.fst (Prod.snd s)) (Prod.fst (Prod.snd (Prod.snd s))) (Survey.mk (Survey.id (Prod.fst (Prod.snd (Prod.snd (Prod.snd s))))) (Survey.tick (Prod.fst (Prod.snd (Prod.snd (Prod.snd s))))) (Survey.m0 (Prod.fst (Prod.snd (Prod.snd (Prod.snd s))))) (Survey.m1 (Prod.fst (Prod.snd (Prod.snd (Prod.snd s))))) (Survey.m2 (Prod.fst (Prod.snd (Prod.snd (Prod.snd s))))) (Survey.m3 (Prod.fst (Prod.snd (Prod.snd (Prod.snd s))))) (Span.mk (Prod.snd (Prod.fst s)) (Prod.snd (Prod.fst s))) (Survey.m5 (Prod.fst (Prod.snd (Prod.snd (Prod.snd s))))) (Survey.sag (Prod.fst (Prod.snd (Prod.snd (Prod.snd s))))) (Survey.hydro (Prod.fst (Prod.snd (Prod.snd (Prod.snd s))))) (Survey.shown (Prod.fst (Prod.snd (Prod.snd (Prod.snd s))))))) - Span.lo (massOf (Prod.fst (Prod.snd s)) (Prod.fst (Prod.snd (Prod.snd s))) (Survey.mk (Survey.id (Prod.fst (Prod.snd (Prod.snd (Prod.snd s))))) (Survey.tick (Prod.fst (Prod.snd (Prod.snd (Prod.snd s))))) (Survey.m0 (Prod.fst (Prod.snd (Prod.snd (Prod.snd s))))) (Survey.m1 (Prod.fst (Prod.snd (Prod.snd (Prod.snd s))))) (Survey.m2 (Prod.fst (Prod.snd (Prod.snd (Prod.snd s))))) (Survey.m3 (Prod.fst (Prod.snd (Prod.snd (Prod.snd s))))) (Span.mk (Prod.snd (Prod.fst s)) (Prod.snd (Prod.fst s))) (Survey.m5 (Prod.fst (Prod.snd (Prod.snd (Prod.snd s))))) (Survey.sag (Prod.fst (Prod.snd (Prod.snd (Prod.snd s))))) (Survey.hydro (Prod.fst (Prod.snd (Prod.snd (Prod.snd s))))) (Survey.shown (Prod.fst (Prod.snd (Prod.snd (Prod.snd s)))))))) + (1 : Int)) > Prod.fst (Prod.fst s) then IntKind.wrap IntKind.i64 (IntKind.wrap IntKind.i64 (Span.hi (massOf (Prod.fst (Prod.snd s)) (Prod.fst (Prod.snd (Prod.snd s))) (Survey.mk (Survey.id (Prod.fst (Prod.snd (Prod.snd (Prod.snd s))))) (Survey.tick (Prod.fst (Prod.snd (Prod.snd (Prod.snd s))))) (Survey.m0 (Prod.fst (Prod.snd (Prod.snd (Prod.snd s))))) (Survey.m1 (Prod.fst (Prod.snd (Prod.snd (Prod.snd s))))) (Survey.m2 (Prod.fst (Prod.snd (Prod.snd (Prod.snd s))))) (Survey.m3 (Prod.fst (Prod.snd (Prod.snd (Prod.snd s))))) (Span.mk (Prod.snd (Prod.fst s)) (Prod.snd (Prod.fst s))) (Survey.m5 (Prod.fst (Prod.snd (Prod.snd (Prod.snd s))))) (Survey.sag (Prod.fst (Prod.snd (Prod.snd (Prod.snd s))))) (Survey.hydro (Prod.fst (Prod.snd (Prod.snd (Prod.snd s))))) (Survey.shown (Prod.fst (Prod.snd (Prod.snd (Prod.snd s))))))) - Span.lo (massOf (Prod.fst (Prod.snd s)) (Prod.fst (Prod.snd (Prod.snd s))) (Survey.mk (Survey.id (Prod.fst (Prod.snd (Prod.snd (Prod.snd s))))) (Survey.tick (Prod.fst (Prod.snd (Prod.snd (Prod.snd s))))) (Survey.m0 (Prod.fst (Prod.snd (Prod.snd (Prod.snd s))))) (Survey.m1 (Prod.fst (Prod.snd (Prod.snd (Prod.snd s))))) (Survey.m2 (Prod.fst (Prod.snd (Prod.snd (Prod.snd s))))) (Survey.m3 (Prod.fst (Prod.snd (Prod.snd (Prod.snd s))))) (Span.mk (Prod.snd (Prod.fst s)) (Prod.snd (Prod.fst s))) (Survey.m5 (Prod.fst (Prod.snd (Prod.snd (Prod.snd s))))) (Survey.sag (Prod.fst (Prod.snd (Prod.snd (Prod.snd s))))) (Survey.hydro (Prod.fst (Prod.snd (Prod.snd (Prod.snd s))))) (Survey.shown (Prod.fst (Prod.snd (Prod.snd (Prod.snd s)))))))) + (1 : Int)) else Prod.fst (Prod.fst s), IntKind.wrap IntKind.i64 (Prod.snd (Prod.fst s) + (1 : Int))), Prod.fst (Prod.snd s), Prod.fst (Prod.snd (Prod.snd s)), Survey.mk (Survey.id (Prod.fst (Prod.snd (Prod.snd (Prod.snd s))))) (Survey.tick (Prod.fst (Prod.snd (Prod.snd (Prod.snd s))))) (Survey.m0 (Prod.fst (Prod.snd (Prod.snd (Prod.snd s))))) (Survey.m1 (Prod.fst (Prod.snd (Prod.snd (Prod.snd s))))) (Survey.m2 (Prod.fst (Prod.snd (Prod.snd (Prod.snd s))))) (Survey.m3 (Prod.fst (Prod.snd (Prod.snd (Prod.snd s))))) (Span.mk (Prod.snd (Prod.fst s)) (Prod.snd (Prod.fst s))) (Survey.m5 (Prod.fst (Prod.snd (Prod.snd (Prod.snd s))))) (Survey.sag (Prod.fst (Prod.snd (Prod.snd (Prod.snd s))))) (Survey.hydro (Prod.fst (Prod.snd (Prod.snd (Prod.snd s))))) (Survey.shown (Prod.fst (Prod.snd (Prod.snd (Prod.snd s))))), Prod.fst (Prod.snd (Prod.snd (Prod.snd (Prod.snd s)))), PUnit.unit))) (
      .ret (Sum.inl ((Prod.fst (Prod.fst s), IntKind.wrap IntKind.i64 (Prod.snd (Prod.fst s) + (1 : Int))), Prod.fst (Prod.snd s), Prod.fst (Prod.snd (Prod.snd s)), Survey.mk (Survey.id (Prod.fst (Prod.snd (Prod.snd (Prod.snd s))))) (Survey.tick (Prod.fst (Prod.snd (Prod.snd (Prod.snd s))))) (Survey.m0 (Prod.fst (Prod.snd (Prod.snd (Prod.snd s))))) (Survey.m1 (Prod.fst (Prod.snd (Prod.snd (Prod.snd s))))) (Survey.m2 (Prod.fst (Prod.snd (Prod.snd (Prod.snd s))))) (Survey.m3 (Prod.fst (Prod.snd (Prod.snd (Prod.snd s))))) (Span.mk (Prod.snd (Prod.fst s)) (Prod.snd (Prod.fst s))) (Survey.m5 (Prod.fst (Prod.snd (Prod.snd (Prod.snd s))))) (Survey.sag (Prod.fst (Prod.snd (Prod.snd (Prod.snd s))))) (Survey.hydro (Prod.fst (Prod.snd (Prod.snd (Prod.snd s))))) (Survey.shown (Prod.fst (Prod.snd (Prod.snd (Prod.snd s))))), Prod.fst (Prod.snd (Prod.snd (Prod.snd (Prod.snd s)))), PUnit.unit)))) (
    .ret (Sum.inr (Prod.fst (Prod.fst s))))) := fun s => by kernel_rfl
noncomputable def K.L_us4 := lim K.st_us4
theorem K.L_us4_eq (s : Ship) (b : Bulbs) (x : Survey) (hs : ShipOk s) (g : K.Good x) : K.L_us4 ((0, (getM 4 x).lo), s, b, x, getM 4 x, ()) = some (useOf s b 4 x) := by
  obtain ⟨o1, o2, o3, o4⟩ := getM_ok g 4
  have key := lim_fold (step := K.st_us4) (fun (i : Nat) (a : Int) => ((a, (getM 4 x).lo + (i : Int)), s, b, useX 4 x (getM 4 x).lo i, getM 4 x, ())) ((getM 4 x).hi - (getM 4 x).lo + 1).toNat (fun a (i : Nat) => useStep s b 4 x ((getM 4 x).lo + (i : Int)) a) id (fun i hi a => ?_) (fun a => ?_) 0
  · have e0 : (getM 4 x).lo + ((0 : Nat) : Int) = (getM 4 x).lo := by omega
    simp only [e0] at key
    exact key
  · rw [sl_us4]
    refine Eq.trans (T.run_br _ _ _) ?_
    rw [if_pos (by simp only [decide_eq_true_eq]; omega)]
    unfold useStep
    rw [← useX_set 4 x (getM 4 x).lo i ⟨(getM 4 x).lo + (i : Int), (getM 4 x).lo + (i : Int)⟩]
    have e1 : IntKind.wrap IntKind.i64 ((getM 4 x).lo + (i : Int) + 1) = (getM 4 x).lo + ((i + 1 : Nat) : Int) := by rw [w64_in (by omega) (by omega)]; omega
    have e2 : useX 4 x (getM 4 x).lo (i + 1) = setM 4 (useX 4 x (getM 4 x).lo i) ⟨(getM 4 x).lo + (i : Int), (getM 4 x).lo + (i : Int)⟩ := by rw [useX_set]; rfl
    rw [e2]
    by_cases hc : (check (b, setM 4 (useX 4 x (getM 4 x).lo i) ⟨(getM 4 x).lo + (i : Int), (getM 4 x).lo + (i : Int)⟩) == 0) = true
    · rw [if_pos hc]
      refine Eq.trans (T.run_br _ _ _) ((if_pos hc).trans ?_)
      refine chk_step (hull_ok hs (eq_of_beq hc)) ?_
      rw [T.run_ret, e1]; rfl
    · rw [if_neg hc]
      refine Eq.trans (T.run_br _ _ _) ((if_neg hc).trans ?_)
      rw [T.run_ret, e1]; rfl
  · rw [sl_us4]
    simp only [T.run_br, T.run_chk, T.run_ret, decide_eq_true_eq]
    rw [if_neg (by omega)]; rfl
noncomputable def BKX59 : Tab := BKX58.addNode 48 33 (nodeE [11, 9, 6, 5, 4, 3, 10] S_us4 X_us4 (fun s => .obs (K.L_us4 s) .ret))
theorem tKX59 : TabOk P BKX59 := TabOk.addLoop (d := 30) okP tKX58 (by kernel_rfl) (by kernel_rfl) (fun s r h => obs_ret h)
theorem fn_us4 : ∀ a, (callT1 P BKX59 30 48 D_us4 (dI .i64)) a = T.run (
  .obs (L_us4 (((0 : Int), Span.lo (Survey.m4 (Prod.fst (Prod.snd (Prod.snd a))))), Prod.fst a, Prod.fst (Prod.snd a), Prod.fst (Prod.snd (Prod.snd a)), Survey.m4 (Prod.fst (Prod.snd (Prod.snd a))), PUnit.unit)) fun x0 =>
    .ret (x0)) := fun a => by kernel_rfl
theorem K.us4_eq (s : Ship) (b : Bulbs) (x : Survey) (hs : ShipOk s) (g : K.Good x) : callT1 P BKX59 30 48 D_us4 (dI .i64) (s, b, x, ()) = some (useOf s b 4 x) := by
  rw [fn_us4]
  show T.run (.obs (L_us4 ((0, (getM 4 x).lo), s, b, x, getM 4 x, ())) _) = _
  rw [L_us4_eq s b x hs g]; rfl
theorem us4_pc (s : Ship) (b : Bulbs) (x : Survey) (hs : ShipOk s) (g : K.Good x) : PC P 48 (D_us4.enc (s, b, x, ())) ((dI .i64).enc (useOf s b 4 x)) := call_of okP tKX59 (K.us4_eq s b x hs g)

def D_ur4 := DecL.cons dShip (.cons dBulbs (.cons dSurvey (.last (dIl 4) 0)))
def S_ur4 := DecS.mk0 (.skips 3 (.unit (dIl 4) (.unit (dLp 0 0 0 0) (.unit (dLp 1 0 0 0) (.unit (dLp 2 0 0 0) (.skips 2 (.cons (dI .i64) (.unit (dLp 3 0 0 0) (.last (dI .i64) 35)))))))))  (.flat 27 lShip (.flat 31 lBulbs (.flat 36 lSurvey (.flat 33 lSpan .nil))))
def X_ur4 := DecX.one (.exit 0) [9] (DecS.mk1 (.skips 9 (.last (dI .i64) 37)))
noncomputable def K.st_ur4 := loopT1 P BKX59 30 49 33 [11, 9, 6, 5, 4, 3, 10] S_ur4 X_ur4
theorem sl_ur4 : ∀ s, (K.st_ur4) s = T.run (
  .br (decide (Prod.snd (Prod.fst s) ≤ Span.hi (Prod.fst (Prod.snd (Prod.snd (Prod.snd (Prod.snd s))))))) (
    .chk (sixOk (Survey.mk (Survey.id (Prod.fst (Prod.snd (Prod.snd (Prod.snd s))))) (Survey.tick (Prod.fst (Prod.snd (Prod.snd (Prod.snd s))))) (Survey.m0 (Prod.fst (Prod.snd (Prod.snd (Prod.snd s))))) (Survey.m1 (Prod.fst (Prod.snd (Prod.snd (Prod.snd s))))) (Survey.m2 (Prod.fst (Prod.snd (Prod.snd (Prod.snd s))))) (Survey.m3 (Prod.fst (Prod.snd (Prod.snd (Prod.snd s))))) (Span.mk (Prod.snd (Prod.fst s)) (Prod.snd (Prod.fst s))) (Survey.m5 (Prod.fst (Prod.snd (Prod.snd (Prod.snd s))))) (Survey.sag (Prod.fst (Prod.snd (Prod.snd (Prod.snd s))))) (Survey.hydro (Prod.fst (Prod.snd (Prod.snd (Prod.snd s))))) (Survey.shown (Prod.fst (Prod.snd (Prod.snd (Prod.snd s))))))) <|
    .br (r_none (r_six (Survey.mk (Survey.id (Prod.fst (Prod.snd (Prod.snd (Prod.snd s))))) (Survey.tick (Prod.fst (Prod.snd (Prod.snd (Prod.snd s))))) (Survey.m0 (Prod.fst (Prod.snd (Prod.snd (Prod.snd s))))) (Survey.m1 (Prod.fst (Prod.snd (Prod.snd (Prod.snd s))))) (Survey.m2 (Prod.fst (Prod.snd (Prod.snd (Prod.snd s))))) (Survey.m3 (Prod.fst (Prod.snd (Prod.snd (Prod.snd s))))) (Span.mk (Prod.snd (Prod.fst s)) (Prod.snd (Prod.fst s))) (Survey.m5 (Prod.fst (Prod.snd (Prod.snd (Prod.snd s))))) (Survey.sag (Prod.fst (Prod.snd (Prod.snd (Prod.snd s))))) (Survey.hydro (Prod.fst (Prod.snd (Prod.snd (Prod.snd s))))) (Survey.shown (Prod.fst (Prod.snd (Prod.snd (Prod.snd s)))))))) (
      .ret (Sum.inl ((Prod.fst (Prod.fst s), IntKind.wrap IntKind.i64 (Prod.snd (Prod.fst s) + (1 : Int))), Prod.fst (Prod.snd s), Prod.fst (Prod.snd (Prod.snd s)), Survey.mk (Survey.id (Prod.fst (Prod.snd (Prod.snd (Prod.snd s))))) (Survey.tick (Prod.fst (Prod.snd (Prod.snd (Prod.snd s))))) (Survey.m0 (Prod.fst (Prod.snd (Prod.snd (Prod.snd s))))) (Survey.m1 (Prod.fst (Prod.snd (Prod.snd (Prod.snd s))))) (Survey.m2 (Prod.fst (Prod.snd (Prod.snd (Prod.snd s))))) (Survey.m3 (Prod.fst (Prod.snd (Prod.snd (Prod.snd s))))) (Span.mk (Prod.snd (Prod.fst s)) (Prod.snd (Prod.fst s))) (Survey.m5 (Prod.fst (Prod.snd (Prod.snd (Prod.snd s))))) (Survey.sag (Prod.fst (Prod.snd (Prod.snd (Prod.snd s))))) (Survey.hydro (Prod.fst (Prod.snd (Prod.snd (Prod.snd s))))) (Survey.shown (Prod.fst (Prod.snd (Prod.snd (Prod.snd s))))), Prod.fst (Prod.snd (Prod.snd (Prod.snd (Prod.snd s)))), PUnit.unit))) (
      .chk (r_massOk (Prod.fst (Prod.snd s)) (Survey.mk (Survey.id (Prod.fst (Prod.snd (Prod.snd (Prod.snd s))))) (Survey.tick (Prod.fst (Prod.snd (Prod.snd (Prod.snd s))))) (Survey.m0 (Prod.fst (Prod.snd (Prod.snd (Prod.snd s))))) (Survey.m1 (Prod.fst (Prod.snd (Prod.snd (Prod.snd s))))) (Survey.m2 (Prod.fst (Prod.snd (Prod.snd (Prod.snd s))))) (Survey.m3 (Prod.fst (Prod.snd (Prod.snd (Prod.snd s))))) (Span.mk (Prod.snd (Prod.fst s)) (Prod.snd (Prod.fst s))) (Survey.m5 (Prod.fst (Prod.snd (Prod.snd (Prod.snd s))))) (Survey.sag (Prod.fst (Prod.snd (Prod.snd (Prod.snd s))))) (Survey.hydro (Prod.fst (Prod.snd (Prod.snd (Prod.snd s))))) (Survey.shown (Prod.fst (Prod.snd (Prod.snd (Prod.snd s))))))) <|
      .ret (Sum.inl ((if IntKind.wrap IntKind.i64 (IntKind.wrap IntKind.i64 (Span.hi (r_mass (Prod.fst (Prod.snd s)) (Prod.fst (Prod.snd (Prod.snd s))) (Survey.mk (Survey.id (Prod.fst (Prod.snd (Prod.snd (Prod.snd s))))) (Survey.tick (Prod.fst (Prod.snd (Prod.snd (Prod.snd s))))) (Survey.m0 (Prod.fst (Prod.snd (Prod.snd (Prod.snd s))))) (Survey.m1 (Prod.fst (Prod.snd (Prod.snd (Prod.snd s))))) (Survey.m2 (Prod.fst (Prod.snd (Prod.snd (Prod.snd s))))) (Survey.m3 (Prod.fst (Prod.snd (Prod.snd (Prod.snd s))))) (Span.mk (Prod.snd (Prod.fst s)) (Prod.snd (Prod.fst s))) (Survey.m5 (Prod.fst (Prod.snd (Prod.snd (Prod.snd s))))) (Survey.sag (Prod.fst (Prod.snd (Prod.snd (Prod.snd s))))) (Survey.hydro (Prod.fst (Prod.snd (Prod.snd (Prod.snd s))))) (Survey.shown (Prod.fst (Prod.snd (Prod.snd (Prod.snd s))))))) - Span.lo (r_mass (Prod.fst (Prod.snd s)) (Prod.fst (Prod.snd (Prod.snd s))) (Survey.mk (Survey.id (Prod.fst (Prod.snd (Prod.snd (Prod.snd s))))) (Survey.tick (Prod.fst (Prod.snd (Prod.snd (Prod.snd s))))) (Survey.m0 (Prod.fst (Prod.snd (Prod.snd (Prod.snd s))))) (Survey.m1 (Prod.fst (Prod.snd (Prod.snd (Prod.snd s))))) (Survey.m2 (Prod.fst (Prod.snd (Prod.snd (Prod.snd s))))) (Survey.m3 (Prod.fst (Prod.snd (Prod.snd (Prod.snd s))))) (Span.mk (Prod.snd (Prod.fst s)) (Prod.snd (Prod.fst s))) (Survey.m5 (Prod.fst (Prod.snd (Prod.snd (Prod.snd s))))) (Survey.sag (Prod.fst (Prod.snd (Prod.snd (Prod.snd s))))) (Survey.hydro (Prod.fst (Prod.snd (Prod.snd (Prod.snd s))))) (Survey.shown (Prod.fst (Prod.snd (Prod.snd (Prod.snd s)))))))) + (1 : Int)) > Prod.fst (Prod.fst s) then IntKind.wrap IntKind.i64 (IntKind.wrap IntKind.i64 (Span.hi (r_mass (Prod.fst (Prod.snd s)) (Prod.fst (Prod.snd (Prod.snd s))) (Survey.mk (Survey.id (Prod.fst (Prod.snd (Prod.snd (Prod.snd s))))) (Survey.tick (Prod.fst (Prod.snd (Prod.snd (Prod.snd s))))) (Survey.m0 (Prod.fst (Prod.snd (Prod.snd (Prod.snd s))))) (Survey.m1 (Prod.fst (Prod.snd (Prod.snd (Prod.snd s))))) (Survey.m2 (Prod.fst (Prod.snd (Prod.snd (Prod.snd s))))) (Survey.m3 (Prod.fst (Prod.snd (Prod.snd (Prod.snd s))))) (Span.mk (Prod.snd (Prod.fst s)) (Prod.snd (Prod.fst s))) (Survey.m5 (Prod.fst (Prod.snd (Prod.snd (Prod.snd s))))) (Survey.sag (Prod.fst (Prod.snd (Prod.snd (Prod.snd s))))) (Survey.hydro (Prod.fst (Prod.snd (Prod.snd (Prod.snd s))))) (Survey.shown (Prod.fst (Prod.snd (Prod.snd (Prod.snd s))))))) - Span.lo (r_mass (Prod.fst (Prod.snd s)) (Prod.fst (Prod.snd (Prod.snd s))) (Survey.mk (Survey.id (Prod.fst (Prod.snd (Prod.snd (Prod.snd s))))) (Survey.tick (Prod.fst (Prod.snd (Prod.snd (Prod.snd s))))) (Survey.m0 (Prod.fst (Prod.snd (Prod.snd (Prod.snd s))))) (Survey.m1 (Prod.fst (Prod.snd (Prod.snd (Prod.snd s))))) (Survey.m2 (Prod.fst (Prod.snd (Prod.snd (Prod.snd s))))) (Survey.m3 (Prod.fst (Prod.snd (Prod.snd (Prod.snd s))))) (Span.mk (Prod.snd (Prod.fst s)) (Prod.snd (Prod.fst s))) (Survey.m5 (Prod.fst (Prod.snd (Prod.snd (Prod.snd s))))) (Survey.sag (Prod.fst (Prod.snd (Prod.snd (Prod.snd s))))) (Survey.hydro (Prod.fst (Prod.snd (Prod.snd (Prod.snd s))))) (Survey.shown (Prod.fst (Prod.snd (Prod.snd (Prod.snd s)))))))) + (1 : Int)) else Prod.fst (Prod.fst s), IntKind.wrap IntKind.i64 (Prod.snd (Prod.fst s) + (1 : Int))), Prod.fst (Prod.snd s), Prod.fst (Prod.snd (Prod.snd s)), Survey.mk (Survey.id (Prod.fst (Prod.snd (Prod.snd (Prod.snd s))))) (Survey.tick (Prod.fst (Prod.snd (Prod.snd (Prod.snd s))))) (Survey.m0 (Prod.fst (Prod.snd (Prod.snd (Prod.snd s))))) (Survey.m1 (Prod.fst (Prod.snd (Prod.snd (Prod.snd s))))) (Survey.m2 (Prod.fst (Prod.snd (Prod.snd (Prod.snd s))))) (Survey.m3 (Prod.fst (Prod.snd (Prod.snd (Prod.snd s))))) (Span.mk (Prod.snd (Prod.fst s)) (Prod.snd (Prod.fst s))) (Survey.m5 (Prod.fst (Prod.snd (Prod.snd (Prod.snd s))))) (Survey.sag (Prod.fst (Prod.snd (Prod.snd (Prod.snd s))))) (Survey.hydro (Prod.fst (Prod.snd (Prod.snd (Prod.snd s))))) (Survey.shown (Prod.fst (Prod.snd (Prod.snd (Prod.snd s))))), Prod.fst (Prod.snd (Prod.snd (Prod.snd (Prod.snd s)))), PUnit.unit)))) (
    .ret (Sum.inr (Prod.fst (Prod.fst s))))) := fun s => by kernel_rfl
noncomputable def K.L_ur4 := lim K.st_ur4
theorem K.L_ur4_eq (s : Ship) (b : Bulbs) (x : Survey) (hs : ShipOk s) (g : K.Good x) : K.L_ur4 ((0, (getM 4 x).lo), s, b, x, getM 4 x, ()) = some (r_useOf s b 4 x) := by
  obtain ⟨o1, o2, o3, o4⟩ := getM_ok g 4
  have key := lim_fold (step := K.st_ur4) (fun (i : Nat) (a : Int) => ((a, (getM 4 x).lo + (i : Int)), s, b, useX 4 x (getM 4 x).lo i, getM 4 x, ())) ((getM 4 x).hi - (getM 4 x).lo + 1).toNat (fun a (i : Nat) => r_useStep s b 4 x ((getM 4 x).lo + (i : Int)) a) id (fun i hi a => ?_) (fun a => ?_) 0
  · have e0 : (getM 4 x).lo + ((0 : Nat) : Int) = (getM 4 x).lo := by omega
    simp only [e0] at key
    exact key
  · rw [sl_ur4]
    refine Eq.trans (T.run_br _ _ _) ?_
    rw [if_pos (by simp only [decide_eq_true_eq]; omega)]
    unfold r_useStep
    rw [← useX_set 4 x (getM 4 x).lo i ⟨(getM 4 x).lo + (i : Int), (getM 4 x).lo + (i : Int)⟩]
    have e1 : IntKind.wrap IntKind.i64 ((getM 4 x).lo + (i : Int) + 1) = (getM 4 x).lo + ((i + 1 : Nat) : Int) := by rw [w64_in (by omega) (by omega)]; omega
    have e2 : useX 4 x (getM 4 x).lo (i + 1) = setM 4 (useX 4 x (getM 4 x).lo i) ⟨(getM 4 x).lo + (i : Int), (getM 4 x).lo + (i : Int)⟩ := by rw [useX_set]; rfl
    rw [e2]
    have gy : K.Good (setM 4 (useX 4 x (getM 4 x).lo i) ⟨(getM 4 x).lo + (i : Int), (getM 4 x).lo + (i : Int)⟩) := by rw [useX_set]; exact one_ok g 4 (by omega) (by omega)
    refine chk_step (six_ok gy) ?_
    by_cases hc : r_none (r_six (setM 4 (useX 4 x (getM 4 x).lo i) ⟨(getM 4 x).lo + (i : Int), (getM 4 x).lo + (i : Int)⟩)) = true
    · rw [if_pos hc]
      refine Eq.trans (T.run_br _ _ _) ((if_pos hc).trans ?_)
      rw [T.run_ret, e1]; rfl
    · rw [if_neg hc]
      refine Eq.trans (T.run_br _ _ _) ((if_neg hc).trans ?_)
      rw [six_bool gy] at hc
      refine chk_step (massOk_is hs gy (by simpa using hc)).2 ?_
      rw [T.run_ret, e1]; rfl
  · rw [sl_ur4]
    simp only [T.run_br, T.run_chk, T.run_ret, decide_eq_true_eq]
    rw [if_neg (by omega)]; rfl
noncomputable def BKX510 : Tab := BKX59.addNode 49 33 (nodeE [11, 9, 6, 5, 4, 3, 10] S_ur4 X_ur4 (fun s => .obs (K.L_ur4 s) .ret))
theorem tKX510 : TabOk P BKX510 := TabOk.addLoop (d := 30) okP tKX59 (by kernel_rfl) (by kernel_rfl) (fun s r h => obs_ret h)
theorem fn_ur4 : ∀ a, (callT1 P BKX510 30 49 D_ur4 (dI .i64)) a = T.run (
  .obs (L_ur4 (((0 : Int), Span.lo (Survey.m4 (Prod.fst (Prod.snd (Prod.snd a))))), Prod.fst a, Prod.fst (Prod.snd a), Prod.fst (Prod.snd (Prod.snd a)), Survey.m4 (Prod.fst (Prod.snd (Prod.snd a))), PUnit.unit)) fun x0 =>
    .ret (x0)) := fun a => by kernel_rfl
theorem K.ur4_eq (s : Ship) (b : Bulbs) (x : Survey) (hs : ShipOk s) (g : K.Good x) : callT1 P BKX510 30 49 D_ur4 (dI .i64) (s, b, x, ()) = some (r_useOf s b 4 x) := by
  rw [fn_ur4]
  show T.run (.obs (L_ur4 ((0, (getM 4 x).lo), s, b, x, getM 4 x, ())) _) = _
  rw [L_ur4_eq s b x hs g]; rfl
theorem ur4_pc (s : Ship) (b : Bulbs) (x : Survey) (hs : ShipOk s) (g : K.Good x) : PC P 49 (D_ur4.enc (s, b, x, ())) ((dI .i64).enc (r_useOf s b 4 x)) := call_of okP tKX510 (K.ur4_eq s b x hs g)

def D_us5 := DecL.cons dShip (.cons dBulbs (.cons dSurvey (.last (dIl 5) 0)))
def S_us5 := DecS.mk0 (.skips 3 (.unit (dIl 5) (.unit (dLp 0 0 0 0) (.unit (dLp 1 0 0 0) (.unit (dLp 2 0 0 0) (.skips 2 (.cons (dI .i64) (.unit (dLp 3 0 0 0) (.last (dI .i64) 36)))))))))  (.flat 27 lShip (.flat 31 lBulbs (.flat 36 lSurvey (.flat 33 lSpan .nil))))
def X_us5 := DecX.one (.exit 0) [9] (DecS.mk1 (.skips 9 (.last (dI .i64) 38)))
noncomputable def K.st_us5 := loopT1 P BKX510 30 48 33 [11, 9, 6, 5, 4, 3, 10] S_us5 X_us5
theorem sl_us5 : ∀ s, (K.st_us5) s = T.run (
  .br (decide (Prod.snd (Prod.fst s) ≤ Span.hi (Prod.fst (Prod.snd (Prod.snd (Prod.snd (Prod.snd s))))))) (
    .br (check (Prod.fst (Prod.snd (Prod.snd s)), Survey.mk (Survey.id (Prod.fst (Prod.snd (Prod.snd (Prod.snd s))))) (Survey.tick (Prod.fst (Prod.snd (Prod.snd (Prod.snd s))))) (Survey.m0 (Prod.fst (Prod.snd (Prod.snd (Prod.snd s))))) (Survey.m1 (Prod.fst (Prod.snd (Prod.snd (Prod.snd s))))) (Survey.m2 (Prod.fst (Prod.snd (Prod.snd (Prod.snd s))))) (Survey.m3 (Prod.fst (Prod.snd (Prod.snd (Prod.snd s))))) (Survey.m4 (Prod.fst (Prod.snd (Prod.snd (Prod.snd s))))) (Span.mk (Prod.snd (Prod.fst s)) (Prod.snd (Prod.fst s))) (Survey.sag (Prod.fst (Prod.snd (Prod.snd (Prod.snd s))))) (Survey.hydro (Prod.fst (Prod.snd (Prod.snd (Prod.snd s))))) (Survey.shown (Prod.fst (Prod.snd (Prod.snd (Prod.snd s)))))) == (0 : Int)) (
      .chk (massOk (Prod.fst (Prod.snd s)) (Survey.mk (Survey.id (Prod.fst (Prod.snd (Prod.snd (Prod.snd s))))) (Survey.tick (Prod.fst (Prod.snd (Prod.snd (Prod.snd s))))) (Survey.m0 (Prod.fst (Prod.snd (Prod.snd (Prod.snd s))))) (Survey.m1 (Prod.fst (Prod.snd (Prod.snd (Prod.snd s))))) (Survey.m2 (Prod.fst (Prod.snd (Prod.snd (Prod.snd s))))) (Survey.m3 (Prod.fst (Prod.snd (Prod.snd (Prod.snd s))))) (Survey.m4 (Prod.fst (Prod.snd (Prod.snd (Prod.snd s))))) (Span.mk (Prod.snd (Prod.fst s)) (Prod.snd (Prod.fst s))) (Survey.sag (Prod.fst (Prod.snd (Prod.snd (Prod.snd s))))) (Survey.hydro (Prod.fst (Prod.snd (Prod.snd (Prod.snd s))))) (Survey.shown (Prod.fst (Prod.snd (Prod.snd (Prod.snd s))))))) <|
      .ret (Sum.inl ((if IntKind.wrap IntKind.i64 (IntKind.wrap IntKind.i64 (Span.hi (massOf (Prod.fst (Prod.snd s)) (Prod.fst (Prod.snd (Prod.snd s))) (Survey.mk (Survey.id (Prod.fst (Prod.snd (Prod.snd (Prod.snd s))))) (Survey.tick (Prod.fst (Prod.snd (Prod.snd (Prod.snd s))))) (Survey.m0 (Prod.fst (Prod.snd (Prod.snd (Prod.snd s))))) (Survey.m1 (Prod.fst (Prod.snd (Prod.snd (Prod.snd s))))) (Survey.m2 (Prod.fst (Prod.snd (Prod.snd (Prod.snd s))))) (Survey.m3 (Prod.fst (Prod.snd (Prod.snd (Prod.snd s))))) (Survey.m4 (Prod.fst (Prod.snd (Prod.snd (Prod.snd s))))) (Span.mk (Prod.snd (Prod.fst s)) (Prod.snd (Prod.fst s))) (Survey.sag (Prod.fst (Prod.snd (Prod.snd (Prod.snd s))))) (Survey.hydro (Prod.fst (Prod.snd (Prod.snd (Prod.snd s))))) (Survey.shown (Prod.fst (Prod.snd (Prod.snd (Prod.snd s))))))) - Span.lo (massOf (Prod.fst (Prod.snd s)) (Prod.fst (Prod.snd (Prod.snd s))) (Survey.mk (Survey.id (Prod.fst (Prod.snd (Prod.snd (Prod.snd s))))) (Survey.tick (Prod.fst (Prod.snd (Prod.snd (Prod.snd s))))) (Survey.m0 (Prod.fst (Prod.snd (Prod.snd (Prod.snd s))))) (Survey.m1 (Prod.fst (Prod.snd (Prod.snd (Prod.snd s))))) (Survey.m2 (Prod.fst (Prod.snd (Prod.snd (Prod.snd s))))) (Survey.m3 (Prod.fst (Prod.snd (Prod.snd (Prod.snd s))))) (Survey.m4 (Prod.fst (Prod.snd (Prod.snd (Prod.snd s))))) (Span.mk (Prod.snd (Prod.fst s)) (Prod.snd (Prod.fst s))) (Survey.sag (Prod.fst (Prod.snd (Prod.snd (Prod.snd s))))) (Survey.hydro (Prod.fst (Prod.snd (Prod.snd (Prod.snd s))))) (Survey.shown (Prod.fst (Prod.snd (Prod.snd (Prod.snd s)))))))) + (1 : Int)) > Prod.fst (Prod.fst s) then IntKind.wrap IntKind.i64 (IntKind.wrap IntKind.i64 (Span.hi (massOf (Prod.fst (Prod.snd s)) (Prod.fst (Prod.snd (Prod.snd s))) (Survey.mk (Survey.id (Prod.fst (Prod.snd (Prod.snd (Prod.snd s))))) (Survey.tick (Prod.fst (Prod.snd (Prod.snd (Prod.snd s))))) (Survey.m0 (Prod.fst (Prod.snd (Prod.snd (Prod.snd s))))) (Survey.m1 (Prod.fst (Prod.snd (Prod.snd (Prod.snd s))))) (Survey.m2 (Prod.fst (Prod.snd (Prod.snd (Prod.snd s))))) (Survey.m3 (Prod.fst (Prod.snd (Prod.snd (Prod.snd s))))) (Survey.m4 (Prod.fst (Prod.snd (Prod.snd (Prod.snd s))))) (Span.mk (Prod.snd (Prod.fst s)) (Prod.snd (Prod.fst s))) (Survey.sag (Prod.fst (Prod.snd (Prod.snd (Prod.snd s))))) (Survey.hydro (Prod.fst (Prod.snd (Prod.snd (Prod.snd s))))) (Survey.shown (Prod.fst (Prod.snd (Prod.snd (Prod.snd s))))))) - Span.lo (massOf (Prod.fst (Prod.snd s)) (Prod.fst (Prod.snd (Prod.snd s))) (Survey.mk (Survey.id (Prod.fst (Prod.snd (Prod.snd (Prod.snd s))))) (Survey.tick (Prod.fst (Prod.snd (Prod.snd (Prod.snd s))))) (Survey.m0 (Prod.fst (Prod.snd (Prod.snd (Prod.snd s))))) (Survey.m1 (Prod.fst (Prod.snd (Prod.snd (Prod.snd s))))) (Survey.m2 (Prod.fst (Prod.snd (Prod.snd (Prod.snd s))))) (Survey.m3 (Prod.fst (Prod.snd (Prod.snd (Prod.snd s))))) (Survey.m4 (Prod.fst (Prod.snd (Prod.snd (Prod.snd s))))) (Span.mk (Prod.snd (Prod.fst s)) (Prod.snd (Prod.fst s))) (Survey.sag (Prod.fst (Prod.snd (Prod.snd (Prod.snd s))))) (Survey.hydro (Prod.fst (Prod.snd (Prod.snd (Prod.snd s))))) (Survey.shown (Prod.fst (Prod.snd (Prod.snd (Prod.snd s)))))))) + (1 : Int)) else Prod.fst (Prod.fst s), IntKind.wrap IntKind.i64 (Prod.snd (Prod.fst s) + (1 : Int))), Prod.fst (Prod.snd s), Prod.fst (Prod.snd (Prod.snd s)), Survey.mk (Survey.id (Prod.fst (Prod.snd (Prod.snd (Prod.snd s))))) (Survey.tick (Prod.fst (Prod.snd (Prod.snd (Prod.snd s))))) (Survey.m0 (Prod.fst (Prod.snd (Prod.snd (Prod.snd s))))) (Survey.m1 (Prod.fst (Prod.snd (Prod.snd (Prod.snd s))))) (Survey.m2 (Prod.fst (Prod.snd (Prod.snd (Prod.snd s))))) (Survey.m3 (Prod.fst (Prod.snd (Prod.snd (Prod.snd s))))) (Survey.m4 (Prod.fst (Prod.snd (Prod.snd (Prod.snd s))))) (Span.mk (Prod.snd (Prod.fst s)) (Prod.snd (Prod.fst s))) (Survey.sag (Prod.fst (Prod.snd (Prod.snd (Prod.snd s))))) (Survey.hydro (Prod.fst (Prod.snd (Prod.snd (Prod.snd s))))) (Survey.shown (Prod.fst (Prod.snd (Prod.snd (Prod.snd s))))), Prod.fst (Prod.snd (Prod.snd (Prod.snd (Prod.snd s)))), PUnit.unit))) (
      .ret (Sum.inl ((Prod.fst (Prod.fst s), IntKind.wrap IntKind.i64 (Prod.snd (Prod.fst s) + (1 : Int))), Prod.fst (Prod.snd s), Prod.fst (Prod.snd (Prod.snd s)), Survey.mk (Survey.id (Prod.fst (Prod.snd (Prod.snd (Prod.snd s))))) (Survey.tick (Prod.fst (Prod.snd (Prod.snd (Prod.snd s))))) (Survey.m0 (Prod.fst (Prod.snd (Prod.snd (Prod.snd s))))) (Survey.m1 (Prod.fst (Prod.snd (Prod.snd (Prod.snd s))))) (Survey.m2 (Prod.fst (Prod.snd (Prod.snd (Prod.snd s))))) (Survey.m3 (Prod.fst (Prod.snd (Prod.snd (Prod.snd s))))) (Survey.m4 (Prod.fst (Prod.snd (Prod.snd (Prod.snd s))))) (Span.mk (Prod.snd (Prod.fst s)) (Prod.snd (Prod.fst s))) (Survey.sag (Prod.fst (Prod.snd (Prod.snd (Prod.snd s))))) (Survey.hydro (Prod.fst (Prod.snd (Prod.snd (Prod.snd s))))) (Survey.shown (Prod.fst (Prod.snd (Prod.snd (Prod.snd s))))), Prod.fst (Prod.snd (Prod.snd (Prod.snd (Prod.snd s)))), PUnit.unit)))) (
    .ret (Sum.inr (Prod.fst (Prod.fst s))))) := fun s => by kernel_rfl
noncomputable def K.L_us5 := lim K.st_us5
theorem K.L_us5_eq (s : Ship) (b : Bulbs) (x : Survey) (hs : ShipOk s) (g : K.Good x) : K.L_us5 ((0, (getM 5 x).lo), s, b, x, getM 5 x, ()) = some (useOf s b 5 x) := by
  obtain ⟨o1, o2, o3, o4⟩ := getM_ok g 5
  have key := lim_fold (step := K.st_us5) (fun (i : Nat) (a : Int) => ((a, (getM 5 x).lo + (i : Int)), s, b, useX 5 x (getM 5 x).lo i, getM 5 x, ())) ((getM 5 x).hi - (getM 5 x).lo + 1).toNat (fun a (i : Nat) => useStep s b 5 x ((getM 5 x).lo + (i : Int)) a) id (fun i hi a => ?_) (fun a => ?_) 0
  · have e0 : (getM 5 x).lo + ((0 : Nat) : Int) = (getM 5 x).lo := by omega
    simp only [e0] at key
    exact key
  · rw [sl_us5]
    refine Eq.trans (T.run_br _ _ _) ?_
    rw [if_pos (by simp only [decide_eq_true_eq]; omega)]
    unfold useStep
    rw [← useX_set 5 x (getM 5 x).lo i ⟨(getM 5 x).lo + (i : Int), (getM 5 x).lo + (i : Int)⟩]
    have e1 : IntKind.wrap IntKind.i64 ((getM 5 x).lo + (i : Int) + 1) = (getM 5 x).lo + ((i + 1 : Nat) : Int) := by rw [w64_in (by omega) (by omega)]; omega
    have e2 : useX 5 x (getM 5 x).lo (i + 1) = setM 5 (useX 5 x (getM 5 x).lo i) ⟨(getM 5 x).lo + (i : Int), (getM 5 x).lo + (i : Int)⟩ := by rw [useX_set]; rfl
    rw [e2]
    by_cases hc : (check (b, setM 5 (useX 5 x (getM 5 x).lo i) ⟨(getM 5 x).lo + (i : Int), (getM 5 x).lo + (i : Int)⟩) == 0) = true
    · rw [if_pos hc]
      refine Eq.trans (T.run_br _ _ _) ((if_pos hc).trans ?_)
      refine chk_step (hull_ok hs (eq_of_beq hc)) ?_
      rw [T.run_ret, e1]; rfl
    · rw [if_neg hc]
      refine Eq.trans (T.run_br _ _ _) ((if_neg hc).trans ?_)
      rw [T.run_ret, e1]; rfl
  · rw [sl_us5]
    simp only [T.run_br, T.run_chk, T.run_ret, decide_eq_true_eq]
    rw [if_neg (by omega)]; rfl
noncomputable def BKX511 : Tab := BKX510.addNode 48 33 (nodeE [11, 9, 6, 5, 4, 3, 10] S_us5 X_us5 (fun s => .obs (K.L_us5 s) .ret))
theorem tKX511 : TabOk P BKX511 := TabOk.addLoop (d := 30) okP tKX510 (by kernel_rfl) (by kernel_rfl) (fun s r h => obs_ret h)
theorem fn_us5 : ∀ a, (callT1 P BKX511 30 48 D_us5 (dI .i64)) a = T.run (
  .obs (L_us5 (((0 : Int), Span.lo (Survey.m5 (Prod.fst (Prod.snd (Prod.snd a))))), Prod.fst a, Prod.fst (Prod.snd a), Prod.fst (Prod.snd (Prod.snd a)), Survey.m5 (Prod.fst (Prod.snd (Prod.snd a))), PUnit.unit)) fun x0 =>
    .ret (x0)) := fun a => by kernel_rfl
theorem K.us5_eq (s : Ship) (b : Bulbs) (x : Survey) (hs : ShipOk s) (g : K.Good x) : callT1 P BKX511 30 48 D_us5 (dI .i64) (s, b, x, ()) = some (useOf s b 5 x) := by
  rw [fn_us5]
  show T.run (.obs (L_us5 ((0, (getM 5 x).lo), s, b, x, getM 5 x, ())) _) = _
  rw [L_us5_eq s b x hs g]; rfl
theorem us5_pc (s : Ship) (b : Bulbs) (x : Survey) (hs : ShipOk s) (g : K.Good x) : PC P 48 (D_us5.enc (s, b, x, ())) ((dI .i64).enc (useOf s b 5 x)) := call_of okP tKX511 (K.us5_eq s b x hs g)

def D_ur5 := DecL.cons dShip (.cons dBulbs (.cons dSurvey (.last (dIl 5) 0)))
def S_ur5 := DecS.mk0 (.skips 3 (.unit (dIl 5) (.unit (dLp 0 0 0 0) (.unit (dLp 1 0 0 0) (.unit (dLp 2 0 0 0) (.skips 2 (.cons (dI .i64) (.unit (dLp 3 0 0 0) (.last (dI .i64) 35)))))))))  (.flat 27 lShip (.flat 31 lBulbs (.flat 36 lSurvey (.flat 33 lSpan .nil))))
def X_ur5 := DecX.one (.exit 0) [9] (DecS.mk1 (.skips 9 (.last (dI .i64) 37)))
noncomputable def K.st_ur5 := loopT1 P BKX511 30 49 33 [11, 9, 6, 5, 4, 3, 10] S_ur5 X_ur5
theorem sl_ur5 : ∀ s, (K.st_ur5) s = T.run (
  .br (decide (Prod.snd (Prod.fst s) ≤ Span.hi (Prod.fst (Prod.snd (Prod.snd (Prod.snd (Prod.snd s))))))) (
    .chk (sixOk (Survey.mk (Survey.id (Prod.fst (Prod.snd (Prod.snd (Prod.snd s))))) (Survey.tick (Prod.fst (Prod.snd (Prod.snd (Prod.snd s))))) (Survey.m0 (Prod.fst (Prod.snd (Prod.snd (Prod.snd s))))) (Survey.m1 (Prod.fst (Prod.snd (Prod.snd (Prod.snd s))))) (Survey.m2 (Prod.fst (Prod.snd (Prod.snd (Prod.snd s))))) (Survey.m3 (Prod.fst (Prod.snd (Prod.snd (Prod.snd s))))) (Survey.m4 (Prod.fst (Prod.snd (Prod.snd (Prod.snd s))))) (Span.mk (Prod.snd (Prod.fst s)) (Prod.snd (Prod.fst s))) (Survey.sag (Prod.fst (Prod.snd (Prod.snd (Prod.snd s))))) (Survey.hydro (Prod.fst (Prod.snd (Prod.snd (Prod.snd s))))) (Survey.shown (Prod.fst (Prod.snd (Prod.snd (Prod.snd s))))))) <|
    .br (r_none (r_six (Survey.mk (Survey.id (Prod.fst (Prod.snd (Prod.snd (Prod.snd s))))) (Survey.tick (Prod.fst (Prod.snd (Prod.snd (Prod.snd s))))) (Survey.m0 (Prod.fst (Prod.snd (Prod.snd (Prod.snd s))))) (Survey.m1 (Prod.fst (Prod.snd (Prod.snd (Prod.snd s))))) (Survey.m2 (Prod.fst (Prod.snd (Prod.snd (Prod.snd s))))) (Survey.m3 (Prod.fst (Prod.snd (Prod.snd (Prod.snd s))))) (Survey.m4 (Prod.fst (Prod.snd (Prod.snd (Prod.snd s))))) (Span.mk (Prod.snd (Prod.fst s)) (Prod.snd (Prod.fst s))) (Survey.sag (Prod.fst (Prod.snd (Prod.snd (Prod.snd s))))) (Survey.hydro (Prod.fst (Prod.snd (Prod.snd (Prod.snd s))))) (Survey.shown (Prod.fst (Prod.snd (Prod.snd (Prod.snd s)))))))) (
      .ret (Sum.inl ((Prod.fst (Prod.fst s), IntKind.wrap IntKind.i64 (Prod.snd (Prod.fst s) + (1 : Int))), Prod.fst (Prod.snd s), Prod.fst (Prod.snd (Prod.snd s)), Survey.mk (Survey.id (Prod.fst (Prod.snd (Prod.snd (Prod.snd s))))) (Survey.tick (Prod.fst (Prod.snd (Prod.snd (Prod.snd s))))) (Survey.m0 (Prod.fst (Prod.snd (Prod.snd (Prod.snd s))))) (Survey.m1 (Prod.fst (Prod.snd (Prod.snd (Prod.snd s))))) (Survey.m2 (Prod.fst (Prod.snd (Prod.snd (Prod.snd s))))) (Survey.m3 (Prod.fst (Prod.snd (Prod.snd (Prod.snd s))))) (Survey.m4 (Prod.fst (Prod.snd (Prod.snd (Prod.snd s))))) (Span.mk (Prod.snd (Prod.fst s)) (Prod.snd (Prod.fst s))) (Survey.sag (Prod.fst (Prod.snd (Prod.snd (Prod.snd s))))) (Survey.hydro (Prod.fst (Prod.snd (Prod.snd (Prod.snd s))))) (Survey.shown (Prod.fst (Prod.snd (Prod.snd (Prod.snd s))))), Prod.fst (Prod.snd (Prod.snd (Prod.snd (Prod.snd s)))), PUnit.unit))) (
      .chk (r_massOk (Prod.fst (Prod.snd s)) (Survey.mk (Survey.id (Prod.fst (Prod.snd (Prod.snd (Prod.snd s))))) (Survey.tick (Prod.fst (Prod.snd (Prod.snd (Prod.snd s))))) (Survey.m0 (Prod.fst (Prod.snd (Prod.snd (Prod.snd s))))) (Survey.m1 (Prod.fst (Prod.snd (Prod.snd (Prod.snd s))))) (Survey.m2 (Prod.fst (Prod.snd (Prod.snd (Prod.snd s))))) (Survey.m3 (Prod.fst (Prod.snd (Prod.snd (Prod.snd s))))) (Survey.m4 (Prod.fst (Prod.snd (Prod.snd (Prod.snd s))))) (Span.mk (Prod.snd (Prod.fst s)) (Prod.snd (Prod.fst s))) (Survey.sag (Prod.fst (Prod.snd (Prod.snd (Prod.snd s))))) (Survey.hydro (Prod.fst (Prod.snd (Prod.snd (Prod.snd s))))) (Survey.shown (Prod.fst (Prod.snd (Prod.snd (Prod.snd s))))))) <|
      .ret (Sum.inl ((if IntKind.wrap IntKind.i64 (IntKind.wrap IntKind.i64 (Span.hi (r_mass (Prod.fst (Prod.snd s)) (Prod.fst (Prod.snd (Prod.snd s))) (Survey.mk (Survey.id (Prod.fst (Prod.snd (Prod.snd (Prod.snd s))))) (Survey.tick (Prod.fst (Prod.snd (Prod.snd (Prod.snd s))))) (Survey.m0 (Prod.fst (Prod.snd (Prod.snd (Prod.snd s))))) (Survey.m1 (Prod.fst (Prod.snd (Prod.snd (Prod.snd s))))) (Survey.m2 (Prod.fst (Prod.snd (Prod.snd (Prod.snd s))))) (Survey.m3 (Prod.fst (Prod.snd (Prod.snd (Prod.snd s))))) (Survey.m4 (Prod.fst (Prod.snd (Prod.snd (Prod.snd s))))) (Span.mk (Prod.snd (Prod.fst s)) (Prod.snd (Prod.fst s))) (Survey.sag (Prod.fst (Prod.snd (Prod.snd (Prod.snd s))))) (Survey.hydro (Prod.fst (Prod.snd (Prod.snd (Prod.snd s))))) (Survey.shown (Prod.fst (Prod.snd (Prod.snd (Prod.snd s))))))) - Span.lo (r_mass (Prod.fst (Prod.snd s)) (Prod.fst (Prod.snd (Prod.snd s))) (Survey.mk (Survey.id (Prod.fst (Prod.snd (Prod.snd (Prod.snd s))))) (Survey.tick (Prod.fst (Prod.snd (Prod.snd (Prod.snd s))))) (Survey.m0 (Prod.fst (Prod.snd (Prod.snd (Prod.snd s))))) (Survey.m1 (Prod.fst (Prod.snd (Prod.snd (Prod.snd s))))) (Survey.m2 (Prod.fst (Prod.snd (Prod.snd (Prod.snd s))))) (Survey.m3 (Prod.fst (Prod.snd (Prod.snd (Prod.snd s))))) (Survey.m4 (Prod.fst (Prod.snd (Prod.snd (Prod.snd s))))) (Span.mk (Prod.snd (Prod.fst s)) (Prod.snd (Prod.fst s))) (Survey.sag (Prod.fst (Prod.snd (Prod.snd (Prod.snd s))))) (Survey.hydro (Prod.fst (Prod.snd (Prod.snd (Prod.snd s))))) (Survey.shown (Prod.fst (Prod.snd (Prod.snd (Prod.snd s)))))))) + (1 : Int)) > Prod.fst (Prod.fst s) then IntKind.wrap IntKind.i64 (IntKind.wrap IntKind.i64 (Span.hi (r_mass (Prod.fst (Prod.snd s)) (Prod.fst (Prod.snd (Prod.snd s))) (Survey.mk (Survey.id (Prod.fst (Prod.snd (Prod.snd (Prod.snd s))))) (Survey.tick (Prod.fst (Prod.snd (Prod.snd (Prod.snd s))))) (Survey.m0 (Prod.fst (Prod.snd (Prod.snd (Prod.snd s))))) (Survey.m1 (Prod.fst (Prod.snd (Prod.snd (Prod.snd s))))) (Survey.m2 (Prod.fst (Prod.snd (Prod.snd (Prod.snd s))))) (Survey.m3 (Prod.fst (Prod.snd (Prod.snd (Prod.snd s))))) (Survey.m4 (Prod.fst (Prod.snd (Prod.snd (Prod.snd s))))) (Span.mk (Prod.snd (Prod.fst s)) (Prod.snd (Prod.fst s))) (Survey.sag (Prod.fst (Prod.snd (Prod.snd (Prod.snd s))))) (Survey.hydro (Prod.fst (Prod.snd (Prod.snd (Prod.snd s))))) (Survey.shown (Prod.fst (Prod.snd (Prod.snd (Prod.snd s))))))) - Span.lo (r_mass (Prod.fst (Prod.snd s)) (Prod.fst (Prod.snd (Prod.snd s))) (Survey.mk (Survey.id (Prod.fst (Prod.snd (Prod.snd (Prod.snd s))))) (Survey.tick (Prod.fst (Prod.snd (Prod.snd (Prod.snd s))))) (Survey.m0 (Prod.fst (Prod.snd (Prod.snd (Prod.snd s))))) (Survey.m1 (Prod.fst (Prod.snd (Prod.snd (Prod.snd s))))) (Survey.m2 (Prod.fst (Prod.snd (Prod.snd (Prod.snd s))))) (Survey.m3 (Prod.fst (Prod.snd (Prod.snd (Prod.snd s))))) (Survey.m4 (Prod.fst (Prod.snd (Prod.snd (Prod.snd s))))) (Span.mk (Prod.snd (Prod.fst s)) (Prod.snd (Prod.fst s))) (Survey.sag (Prod.fst (Prod.snd (Prod.snd (Prod.snd s))))) (Survey.hydro (Prod.fst (Prod.snd (Prod.snd (Prod.snd s))))) (Survey.shown (Prod.fst (Prod.snd (Prod.snd (Prod.snd s)))))))) + (1 : Int)) else Prod.fst (Prod.fst s), IntKind.wrap IntKind.i64 (Prod.snd (Prod.fst s) + (1 : Int))), Prod.fst (Prod.snd s), Prod.fst (Prod.snd (Prod.snd s)), Survey.mk (Survey.id (Prod.fst (Prod.snd (Prod.snd (Prod.snd s))))) (Survey.tick (Prod.fst (Prod.snd (Prod.snd (Prod.snd s))))) (Survey.m0 (Prod.fst (Prod.snd (Prod.snd (Prod.snd s))))) (Survey.m1 (Prod.fst (Prod.snd (Prod.snd (Prod.snd s))))) (Survey.m2 (Prod.fst (Prod.snd (Prod.snd (Prod.snd s))))) (Survey.m3 (Prod.fst (Prod.snd (Prod.snd (Prod.snd s))))) (Survey.m4 (Prod.fst (Prod.snd (Prod.snd (Prod.snd s))))) (Span.mk (Prod.snd (Prod.fst s)) (Prod.snd (Prod.fst s))) (Survey.sag (Prod.fst (Prod.snd (Prod.snd (Prod.snd s))))) (Survey.hydro (Prod.fst (Prod.snd (Prod.snd (Prod.snd s))))) (Survey.shown (Prod.fst (Prod.snd (Prod.snd (Prod.snd s))))), Prod.fst (Prod.snd (Prod.snd (Prod.snd (Prod.snd s)))), PUnit.unit)))) (
    .ret (Sum.inr (Prod.fst (Prod.fst s))))) := fun s => by kernel_rfl
noncomputable def K.L_ur5 := lim K.st_ur5
theorem K.L_ur5_eq (s : Ship) (b : Bulbs) (x : Survey) (hs : ShipOk s) (g : K.Good x) : K.L_ur5 ((0, (getM 5 x).lo), s, b, x, getM 5 x, ()) = some (r_useOf s b 5 x) := by
  obtain ⟨o1, o2, o3, o4⟩ := getM_ok g 5
  have key := lim_fold (step := K.st_ur5) (fun (i : Nat) (a : Int) => ((a, (getM 5 x).lo + (i : Int)), s, b, useX 5 x (getM 5 x).lo i, getM 5 x, ())) ((getM 5 x).hi - (getM 5 x).lo + 1).toNat (fun a (i : Nat) => r_useStep s b 5 x ((getM 5 x).lo + (i : Int)) a) id (fun i hi a => ?_) (fun a => ?_) 0
  · have e0 : (getM 5 x).lo + ((0 : Nat) : Int) = (getM 5 x).lo := by omega
    simp only [e0] at key
    exact key
  · rw [sl_ur5]
    refine Eq.trans (T.run_br _ _ _) ?_
    rw [if_pos (by simp only [decide_eq_true_eq]; omega)]
    unfold r_useStep
    rw [← useX_set 5 x (getM 5 x).lo i ⟨(getM 5 x).lo + (i : Int), (getM 5 x).lo + (i : Int)⟩]
    have e1 : IntKind.wrap IntKind.i64 ((getM 5 x).lo + (i : Int) + 1) = (getM 5 x).lo + ((i + 1 : Nat) : Int) := by rw [w64_in (by omega) (by omega)]; omega
    have e2 : useX 5 x (getM 5 x).lo (i + 1) = setM 5 (useX 5 x (getM 5 x).lo i) ⟨(getM 5 x).lo + (i : Int), (getM 5 x).lo + (i : Int)⟩ := by rw [useX_set]; rfl
    rw [e2]
    have gy : K.Good (setM 5 (useX 5 x (getM 5 x).lo i) ⟨(getM 5 x).lo + (i : Int), (getM 5 x).lo + (i : Int)⟩) := by rw [useX_set]; exact one_ok g 5 (by omega) (by omega)
    refine chk_step (six_ok gy) ?_
    by_cases hc : r_none (r_six (setM 5 (useX 5 x (getM 5 x).lo i) ⟨(getM 5 x).lo + (i : Int), (getM 5 x).lo + (i : Int)⟩)) = true
    · rw [if_pos hc]
      refine Eq.trans (T.run_br _ _ _) ((if_pos hc).trans ?_)
      rw [T.run_ret, e1]; rfl
    · rw [if_neg hc]
      refine Eq.trans (T.run_br _ _ _) ((if_neg hc).trans ?_)
      rw [six_bool gy] at hc
      refine chk_step (massOk_is hs gy (by simpa using hc)).2 ?_
      rw [T.run_ret, e1]; rfl
  · rw [sl_ur5]
    simp only [T.run_br, T.run_chk, T.run_ret, decide_eq_true_eq]
    rw [if_neg (by omega)]; rfl
noncomputable def BKX512 : Tab := BKX511.addNode 49 33 (nodeE [11, 9, 6, 5, 4, 3, 10] S_ur5 X_ur5 (fun s => .obs (K.L_ur5 s) .ret))
theorem tKX512 : TabOk P BKX512 := TabOk.addLoop (d := 30) okP tKX511 (by kernel_rfl) (by kernel_rfl) (fun s r h => obs_ret h)
theorem fn_ur5 : ∀ a, (callT1 P BKX512 30 49 D_ur5 (dI .i64)) a = T.run (
  .obs (L_ur5 (((0 : Int), Span.lo (Survey.m5 (Prod.fst (Prod.snd (Prod.snd a))))), Prod.fst a, Prod.fst (Prod.snd a), Prod.fst (Prod.snd (Prod.snd a)), Survey.m5 (Prod.fst (Prod.snd (Prod.snd a))), PUnit.unit)) fun x0 =>
    .ret (x0)) := fun a => by kernel_rfl
theorem K.ur5_eq (s : Ship) (b : Bulbs) (x : Survey) (hs : ShipOk s) (g : K.Good x) : callT1 P BKX512 30 49 D_ur5 (dI .i64) (s, b, x, ()) = some (r_useOf s b 5 x) := by
  rw [fn_ur5]
  show T.run (.obs (L_ur5 ((0, (getM 5 x).lo), s, b, x, getM 5 x, ())) _) = _
  rw [L_ur5_eq s b x hs g]; rfl
theorem ur5_pc (s : Ship) (b : Bulbs) (x : Survey) (hs : ShipOk s) (g : K.Good x) : PC P 49 (D_ur5.enc (s, b, x, ())) ((dI .i64).enc (r_useOf s b 5 x)) := call_of okP tKX512 (K.ur5_eq s b x hs g)

def D_us := DecL.cons dShip (.cons dBulbs (.cons dSurvey (.last (dI .i64) 0)))
theorem us_pc (a : Ship × Bulbs × Survey × Int) (r : Int) (h : (T.chk (useG a.1 a.2.1 a.2.2.1 && (decide (0 ≤ a.2.2.2) && decide (a.2.2.2 < 6))) (.ret (useOf a.1 a.2.1 a.2.2.2.toNat a.2.2.1))).run = some r) : PC P 48 (D_us.enc a) ((dI .i64).enc r) := by
  obtain ⟨s, b, x, m⟩ := a
  obtain ⟨g, e⟩ := chk_ret h
  subst e
  rw [Bool.and_eq_true, Bool.and_eq_true, decide_eq_true_eq, decide_eq_true_eq] at g
  obtain ⟨g1, g2, g3⟩ := g
  obtain ⟨hs, _, hg, _⟩ := useG_ok g1
  have hm : m = 0 ∨ m = 1 ∨ m = 2 ∨ m = 3 ∨ m = 4 ∨ m = 5 := by simp only at g2 g3; omega
  rcases hm with rfl | rfl | rfl | rfl | rfl | rfl
  · exact us0_pc s b x hs hg
  · exact us1_pc s b x hs hg
  · exact us2_pc s b x hs hg
  · exact us3_pc s b x hs hg
  · exact us4_pc s b x hs hg
  · exact us5_pc s b x hs hg
noncomputable def BKX513 : Tab := BKX512.addCall 48 (callE D_us (dI .i64) (fun a => .chk (useG a.1 a.2.1 a.2.2.1 && (decide (0 ≤ a.2.2.2) && decide (a.2.2.2 < 6))) (.ret (useOf a.1 a.2.1 a.2.2.2.toNat a.2.2.1))))
theorem tKX513 : TabOk P BKX513 := TabOk.addPC tKX512 (us_pc)

def D_ur := DecL.cons dShip (.cons dBulbs (.cons dSurvey (.last (dI .i64) 0)))
theorem ur_pc (a : Ship × Bulbs × Survey × Int) (r : Int) (h : (T.chk (useG a.1 a.2.1 a.2.2.1 && (decide (0 ≤ a.2.2.2) && decide (a.2.2.2 < 6))) (.ret (r_useOf a.1 a.2.1 a.2.2.2.toNat a.2.2.1))).run = some r) : PC P 49 (D_ur.enc a) ((dI .i64).enc r) := by
  obtain ⟨s, b, x, m⟩ := a
  obtain ⟨g, e⟩ := chk_ret h
  subst e
  rw [Bool.and_eq_true, Bool.and_eq_true, decide_eq_true_eq, decide_eq_true_eq] at g
  obtain ⟨g1, g2, g3⟩ := g
  obtain ⟨hs, _, hg, _⟩ := useG_ok g1
  have hm : m = 0 ∨ m = 1 ∨ m = 2 ∨ m = 3 ∨ m = 4 ∨ m = 5 := by simp only at g2 g3; omega
  rcases hm with rfl | rfl | rfl | rfl | rfl | rfl
  · exact ur0_pc s b x hs hg
  · exact ur1_pc s b x hs hg
  · exact ur2_pc s b x hs hg
  · exact ur3_pc s b x hs hg
  · exact ur4_pc s b x hs hg
  · exact ur5_pc s b x hs hg
noncomputable def BKX514 : Tab := BKX513.addCall 49 (callE D_ur (dI .i64) (fun a => .chk (useG a.1 a.2.1 a.2.2.1 && (decide (0 ≤ a.2.2.2) && decide (a.2.2.2 < 6))) (.ret (r_useOf a.1 a.2.1 a.2.2.2.toNat a.2.2.1))))
theorem tKX514 : TabOk P BKX514 := TabOk.addPC tKX513 (ur_pc)

end Go.Proofs.Ytkajafmphemedaa
/-! KN12 -/
namespace Go.Proofs.Ytkajafmphemedaa
open Ev K
set_option maxRecDepth 100000
theorem fn_r_ready : ∀ a, (callT1 P BKN112 30 43 D_rrdy (dI .i64)) a = T.run (
  .br (r_ship (Prod.fst a) != (0 : Int)) (
    .ret (r_ship (Prod.fst a))) (
    .ret (r_check (Prod.fst (Prod.snd a)) (Prod.snd (Prod.snd a))))) := fun a => by kernel_rfl
noncomputable def K.r_ready (a : Ship × Bulbs × Survey) : Int := (if (r_ship (Prod.fst a) != (0 : Int)) = true then r_ship (Prod.fst a) else r_check (Prod.fst (Prod.snd a)) (Prod.snd (Prod.snd a)))
theorem eq_r_ready (a : Ship × Bulbs × Survey) : (callT1 P BKN112 30 43 D_rrdy (dI .i64)) a = some (K.r_ready a) := (fn_r_ready a).trans (T.br_some rfl rfl)
noncomputable def BKN121 : Tab := BKN112.addCall 43 (callE D_rrdy (dI .i64) (fun a => .ret (K.r_ready a)))
theorem tKN121 : TabOk P BKN121 := TabOk.addFn (d := 30) okP tKN112 (fun a r h => by rw [eq_r_ready]; exact congrArg some (ret_some h))
def R_rVol := dTup (.cons dRange (.last (dI .i64) 0))
def D_rpos := DecL.cons (dShip) (.cons (dBulbs) (.cons (dSurvey) (.last (dI .i64) 0)))
def R_rpos := dTup (.cons dB (.last (dI .i64) 0))
theorem fn_rVol : ∀ a, (callT1 P BKN121 30 15 D_rrdy R_rVol) a = T.run (
  .br (r_ready a != (0 : Int)) (
    .ret ((Range.mk (Frac.mk (0 : Int) (0 : Int)) (Frac.mk (0 : Int) (0 : Int)), r_ready a))) (
    .chk (r_volOk (Prod.fst a) (Prod.snd (Prod.snd a))) <|
    .br (!Prod.snd (r_volumes (Prod.fst a) (Prod.snd (Prod.snd a)))) (
      .ret ((Range.mk (Frac.mk (0 : Int) (0 : Int)) (Frac.mk (0 : Int) (0 : Int)), (9 : Int)))) (
      .ret ((Prod.fst (r_volumes (Prod.fst a) (Prod.snd (Prod.snd a))), (0 : Int)))))) := fun a => by kernel_rfl
theorem fn_rMas : ∀ a, (callT1 P BKN121 30 16 D_rrdy R_off) a = T.run (
  .br (r_ready a != (0 : Int)) (
    .ret ((Span.mk (0 : Int) (0 : Int), r_ready a))) (
    .chk (r_massOk (Prod.fst a) (Prod.snd (Prod.snd a))) <|
    .br (r_none (r_mass (Prod.fst a) (Prod.fst (Prod.snd a)) (Prod.snd (Prod.snd a)))) (
      .ret ((Span.mk (0 : Int) (0 : Int), (9 : Int)))) (
      .ret ((r_mass (Prod.fst a) (Prod.fst (Prod.snd a)) (Prod.snd (Prod.snd a)), (0 : Int)))))) := fun a => by kernel_rfl
theorem fn_rPos : ∀ a, (callT1 P BKN121 30 18 D_rpos R_rpos) a = T.run (
  .br (r_ready (Prod.fst a, Prod.fst (Prod.snd a), Prod.fst (Prod.snd (Prod.snd a))) != (0 : Int)) (
    .ret ((false, r_ready (Prod.fst a, Prod.fst (Prod.snd a), Prod.fst (Prod.snd (Prod.snd a)))))) (
    .chk (r_massOk (Prod.fst a) (Prod.fst (Prod.snd (Prod.snd a)))) <|
    .br (decide (Prod.snd (Prod.snd (Prod.snd a)) ≥ Span.lo (r_mass (Prod.fst a) (Prod.fst (Prod.snd a)) (Prod.fst (Prod.snd (Prod.snd a)))))) (
      .ret ((decide (Prod.snd (Prod.snd (Prod.snd a)) ≤ Span.hi (r_mass (Prod.fst a) (Prod.fst (Prod.snd a)) (Prod.fst (Prod.snd (Prod.snd a))))), (0 : Int)))) (
      .ret ((false, (0 : Int)))))) := fun a => by kernel_rfl
def D_sck := DecL.cons (dShip) (.cons (dBulbs) (.last (dSurvey) 0))
theorem fn_checked : ∀ a, (callT1 P BKN121 30 38 D_sck (dI .i64)) a = T.run (
  .br (hullCheck (Prod.fst a) != (0 : Int)) (
    .ret (hullCheck (Prod.fst a))) (
    .ret (Check (Prod.snd a)))) := fun a => by kernel_rfl
noncomputable def K.checked (a : Ship × Bulbs × Survey) : Int := (if (hullCheck (Prod.fst a) != (0 : Int)) = true then hullCheck (Prod.fst a) else Check (Prod.snd a))
theorem eq_checked (a : Ship × Bulbs × Survey) : (callT1 P BKN121 30 38 D_sck (dI .i64)) a = some (K.checked a) := (fn_checked a).trans (T.br_some rfl rfl)
noncomputable def BKN122 : Tab := BKN121.addCall 38 (callE D_sck (dI .i64) (fun a => .ret (K.checked a)))
theorem tKN122 : TabOk P BKN122 := TabOk.addFn (d := 30) okP tKN121 (fun a r h => by rw [eq_checked]; exact congrArg some (ret_some h))
theorem fn_sVol : ∀ a, (callT1 P BKN122 30 14 D_rrdy R_rVol) a = T.run (
  .br (checked a != (0 : Int)) (
    .ret ((Range.mk (Frac.mk (0 : Int) (0 : Int)) (Frac.mk (0 : Int) (0 : Int)), checked a))) (
    .chk (decide ((0 : Nat) < len (Curve.knots (Ship.mean (Prod.fst a))))) <|
    .br (!Prod.snd (volumes (Prod.fst a) (Prod.snd (Prod.snd a)))) (
      .ret ((Range.mk (Frac.mk (0 : Int) (0 : Int)) (Frac.mk (0 : Int) (0 : Int)), (9 : Int)))) (
      .chk (lowOk (Prod.fst (Prod.fst (volumes (Prod.fst a) (Prod.snd (Prod.snd a)))))) <|
      .chk (lowOk (Prod.snd (Prod.fst (volumes (Prod.fst a) (Prod.snd (Prod.snd a)))))) <|
      .ret ((Range.mk (r_low (Prod.fst (Prod.fst (volumes (Prod.fst a) (Prod.snd (Prod.snd a)))))) (r_low (Prod.snd (Prod.fst (volumes (Prod.fst a) (Prod.snd (Prod.snd a)))))), (0 : Int)))))) := fun a => by kernel_rfl
theorem fn_sMas : ∀ a, (callT1 P BKN122 30 12 D_rrdy R_off) a = T.run (
  .br (checked a != (0 : Int)) (
    .ret ((Span.mk (0 : Int) (0 : Int), checked a))) (
    .chk (massOk (Prod.fst a) (Prod.snd (Prod.snd a))) <|
    .br (void (massOf (Prod.fst a) (Prod.fst (Prod.snd a)) (Prod.snd (Prod.snd a)))) (
      .ret ((Span.mk (0 : Int) (0 : Int), (9 : Int)))) (
      .ret ((massOf (Prod.fst a) (Prod.fst (Prod.snd a)) (Prod.snd (Prod.snd a)), (0 : Int)))))) := fun a => by kernel_rfl
theorem fn_sPos : ∀ a, (callT1 P BKN122 30 17 D_rpos R_rpos) a = T.run (
  .br (checked (Prod.fst a, Prod.fst (Prod.snd a), Prod.fst (Prod.snd (Prod.snd a))) != (0 : Int)) (
    .ret ((false, checked (Prod.fst a, Prod.fst (Prod.snd a), Prod.fst (Prod.snd (Prod.snd a)))))) (
    .chk (massOk (Prod.fst a) (Prod.fst (Prod.snd (Prod.snd a)))) <|
    .ret ((within (Prod.snd (Prod.snd (Prod.snd a))) (Span.lo (massOf (Prod.fst a) (Prod.fst (Prod.snd a)) (Prod.fst (Prod.snd (Prod.snd a))))) (Span.hi (massOf (Prod.fst a) (Prod.fst (Prod.snd a)) (Prod.fst (Prod.snd (Prod.snd a))))), (0 : Int))))) := fun a => by kernel_rfl
end Go.Proofs.Ytkajafmphemedaa
