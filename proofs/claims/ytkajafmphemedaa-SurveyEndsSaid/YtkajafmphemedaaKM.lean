/- The masses that are possible by a survey. No conditions. -/
import Derived.Test.YtkajafmphemedaaKL
namespace Go.Proofs.Ytkajafmphemedaa
open Ev K
set_option maxRecDepth 100000
/-- Sixteen times the mean draught that the table knows. -/
def K.ySpan (s : Ship) (x : Survey) : Span := meet ⟨IntKind.i64.wrap (sums16 (extremes x).1.1 - IntKind.i64.wrap (16 * s.mean.err)), IntKind.i64.wrap (sums16 (extremes x).1.2 + IntKind.i64.wrap (16 * s.mean.err))⟩
  ⟨IntKind.i64.wrap (16 * s.mean.knots.g 0 1), IntKind.i64.wrap (16 * s.mean.knots.g (len s.mean.knots - 1) 1)⟩
def K.volumes (s : Ship) (x : Survey) : (Frac × Frac) × Bool := if void (ySpan s x) = true then ((⟨0, 0⟩, ⟨0, 0⟩), false) else ((whereOf s.mean (ySpan s x).lo, whereOf s.mean (ySpan s x).hi), true)
theorem K.volumes_eq (a : Ship × Survey) (h : 0 < len a.1.mean.knots) : callT1 P BKL4 30 41 D_vol R_vol a = some (volumes a.1 a.2) := by
  have e1 := K.len_le a.1.mean.knots; have e2 := K.len_le' a.1.mean.knots
  rw [fn_vol, w64_in (n := (len a.1.mean.knots : Int) - 1) (by omega) (by omega), show ((len a.1.mean.knots : Int) - 1).toNat = len a.1.mean.knots - 1 by omega]
  refine chk_step (by simp; omega) (chk_step (by simp; omega) ?_)
  exact br_step (fun _ => rfl) (fun _ => chk_step (by simpa using h) (chk_step (by simpa using h) rfl))
noncomputable def BKM1 : Tab := BKL4.addCall 41 (callE D_vol R_vol (fun a => .chk (decide (0 < len a.1.mean.knots)) (.ret (K.volumes a.1 a.2))))
theorem tKM1 : TabOk P BKM1 := TabOk.addFn (d := 30) okP tKL4 (fun a r h => by obtain ⟨g, e⟩ := chk_ret h; subst e; exact K.volumes_eq a (by simpa using g))
def D_mass := DecL.cons (dShip) (.cons (dBulbs) (.last (dSurvey) 0))
theorem fn_mass : ∀ a, (callT1 P BKM1 30 39 D_mass dSpan) a = T.run (
  .chk (decide ((0 : Nat) < len (Curve.knots (Ship.mean (Prod.fst a))))) <|
  .br (!Prod.snd (volumes (Prod.fst a) (Prod.snd (Prod.snd a)))) (
    .ret (Span.mk (1 : Int) (0 : Int))) (
    .chk (!decide (IntKind.wrap IntKind.i64 ((25 : Int) * Frac.den (Prod.fst (Prod.fst (volumes (Prod.fst a) (Prod.snd (Prod.snd a)))))) = (0 : Int))) <|
    .chk (!decide (IntKind.wrap IntKind.i64 ((25 : Int) * Frac.den (Prod.snd (Prod.fst (volumes (Prod.fst a) (Prod.snd (Prod.snd a)))))) = (0 : Int))) <|
    .ret (meet (Span.mk (IntKind.wrap IntKind.i64 (Int.tdiv (IntKind.wrap IntKind.i64 (IntKind.wrap IntKind.i64 (IntKind.wrap IntKind.i64 (Frac.num (Prod.fst (Prod.fst (volumes (Prod.fst a) (Prod.snd (Prod.snd a))))) * Span.lo (Prod.fst (density (Prod.snd a)))) + IntKind.wrap IntKind.i64 ((25 : Int) * Frac.den (Prod.fst (Prod.fst (volumes (Prod.fst a) (Prod.snd (Prod.snd a))))))) - (1 : Int))) (IntKind.wrap IntKind.i64 ((25 : Int) * Frac.den (Prod.fst (Prod.fst (volumes (Prod.fst a) (Prod.snd (Prod.snd a))))))))) (IntKind.wrap IntKind.i64 (Int.tdiv (IntKind.wrap IntKind.i64 (Frac.num (Prod.snd (Prod.fst (volumes (Prod.fst a) (Prod.snd (Prod.snd a))))) * Span.hi (Prod.fst (density (Prod.snd a))))) (IntKind.wrap IntKind.i64 ((25 : Int) * Frac.den (Prod.snd (Prod.fst (volumes (Prod.fst a) (Prod.snd (Prod.snd a)))))))))) (Span.mk (Ship.light (Prod.fst a)) (rooms (Prod.fst a)))))) := fun a => by kernel_rfl
def K.massOk (s : Ship) (x : Survey) : Bool := decide (0 < len s.mean.knots) && (!(volumes s x).2 || (!decide (IntKind.i64.wrap (25 * (volumes s x).1.1.den) = 0) && !decide (IntKind.i64.wrap (25 * (volumes s x).1.2.den) = 0)))
noncomputable def K.massOf (s : Ship) (b : Bulbs) (x : Survey) : Span := if (!(volumes s x).2) = true then ⟨1, 0⟩ else
  meet ⟨IntKind.i64.wrap (Int.tdiv (IntKind.i64.wrap (IntKind.i64.wrap (IntKind.i64.wrap ((volumes s x).1.1.num * (density (b, x)).1.lo) + IntKind.i64.wrap (25 * (volumes s x).1.1.den)) - 1)) (IntKind.i64.wrap (25 * (volumes s x).1.1.den))),
    IntKind.i64.wrap (Int.tdiv (IntKind.i64.wrap ((volumes s x).1.2.num * (density (b, x)).1.hi)) (IntKind.i64.wrap (25 * (volumes s x).1.2.den)))⟩ ⟨s.light, rooms s⟩
theorem K.massOf_eq (a : Ship × Bulbs × Survey) (h : massOk a.1 a.2.2 = true) : callT1 P BKM1 30 39 D_mass dSpan a = some (massOf a.1 a.2.1 a.2.2) := by
  unfold massOk at h
  rw [Bool.and_eq_true] at h
  rw [fn_mass]
  refine chk_step h.1 (br_step (fun _ => rfl) (fun hn => ?_))
  have h2 := h.2
  rw [Bool.or_eq_true] at h2
  rcases h2 with h2 | h2
  · exact absurd h2 hn
  · rw [Bool.and_eq_true] at h2
    exact chk_step h2.1 (chk_step h2.2 rfl)
noncomputable def BKM2 : Tab := BKM1.addCall 39 (callE D_mass dSpan (fun a => .chk (massOk a.1 a.2.2) (.ret (massOf a.1 a.2.1 a.2.2))))
theorem tKM2 : TabOk P BKM2 := TabOk.addFn (d := 30) okP tKM1 (fun a r h => by obtain ⟨g, e⟩ := chk_ret h; subst e; exact K.massOf_eq a g)
end Go.Proofs.Ytkajafmphemedaa
