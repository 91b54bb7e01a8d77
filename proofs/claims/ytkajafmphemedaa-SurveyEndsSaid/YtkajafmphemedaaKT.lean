/- The ends of a survey's draughts: they are draughts, and all others lie between. No conditions. -/
import Derived.Test.YtkajafmphemedaaKP
import Derived.Test.YtkajafmphemedaaKEnds
namespace Go.Proofs.Ytkajafmphemedaa
open Ev K
set_option maxRecDepth 100000
namespace K
section
variable {x : Survey} (g : Good x)
include g
omit g in
theorem both_eq {a b : Span} (ha : -1000000 ≤ a.lo ∧ a.lo ≤ 1000000 ∧ -1000000 ≤ a.hi ∧ a.hi ≤ 1000000) (hb : -1000000 ≤ b.lo ∧ b.lo ≤ 1000000 ∧ -1000000 ≤ b.hi ∧ b.hi ≤ 1000000) : both a b = ⟨a.lo + b.lo, a.hi + b.hi⟩ := by
  unfold both; rw [w64_in (by omega) (by omega), w64_in (by omega) (by omega)]
theorem fore_eq : both x.m0 x.m1 = ⟨x.m0.lo + x.m1.lo, x.m0.hi + x.m1.hi⟩ := by
  obtain ⟨h1, h2, h3, h4⟩ := g.m0; obtain ⟨k1, k2, k3, k4⟩ := g.m1
  exact both_eq (by omega) (by omega)
theorem aft_eq : both x.m4 x.m5 = ⟨x.m4.lo + x.m5.lo, x.m4.hi + x.m5.hi⟩ := by
  obtain ⟨h1, h2, h3, h4⟩ := g.m4; obtain ⟨k1, k2, k3, k4⟩ := g.m5
  exact both_eq (by omega) (by omega)
theorem mid_eq : both x.m2 x.m3 = ⟨x.m2.lo + x.m3.lo, x.m2.hi + x.m3.hi⟩ := by
  obtain ⟨h1, h2, h3, h4⟩ := g.m2; obtain ⟨k1, k2, k3, k4⟩ := g.m3
  exact both_eq (by omega) (by omega)
theorem ends_eq : endsOf x = ⟨x.m0.lo + x.m1.lo + (x.m4.lo + x.m5.lo), x.m0.hi + x.m1.hi + (x.m4.hi + x.m5.hi)⟩ := by
  obtain ⟨h1, h2, h3, h4⟩ := g.m0; obtain ⟨k1, k2, k3, k4⟩ := g.m1
  obtain ⟨i1, i2, i3, i4⟩ := g.m4; obtain ⟨j1, j2, j3, j4⟩ := g.m5
  unfold endsOf; rw [fore_eq g, aft_eq g]
  exact both_eq (by simp only; omega) (by simp only; omega)
theorem bend_eq : bend x = 4 * x.sag := by
  obtain ⟨h1, h2⟩ := g.sag
  unfold bend; rw [w64_in (by omega) (by omega)]
theorem mids_eq : mids x = meet ⟨x.m2.lo + x.m3.lo, x.m2.hi + x.m3.hi⟩ ⟨-((4 * x.sag - (endsOf x).lo) / 2), ((endsOf x).hi + 4 * x.sag) / 2⟩ := by
  obtain ⟨h1, h2, h3, h4⟩ := g.m0; obtain ⟨k1, k2, k3, k4⟩ := g.m1
  obtain ⟨i1, i2, i3, i4⟩ := g.m4; obtain ⟨j1, j2, j3, j4⟩ := g.m5
  obtain ⟨s1, s2⟩ := g.sag
  have e := ends_eq g
  have e1 : (endsOf x).lo = x.m0.lo + x.m1.lo + (x.m4.lo + x.m5.lo) := by rw [e]
  have e2 : (endsOf x).hi = x.m0.hi + x.m1.hi + (x.m4.hi + x.m5.hi) := by rw [e]
  unfold mids
  rw [mid_eq g, bend_eq g, w64_in (n := 4 * x.sag - (endsOf x).lo) (by omega) (by omega), w64_in (n := (endsOf x).hi + 4 * x.sag) (by omega) (by omega), half_eq (by omega) (by omega), half_eq (by omega) (by omega), w64_in (by omega) (by omega)]
  rw [Int.zero_sub]
end
/-- The bounds of the middle, and of the ends' sums. -/
structure EndsOk (x : Survey) (l : Sums × Sums) : Prop where
  a0 : x.m2.lo + x.m3.lo ≤ l.1.middle ∧ l.1.middle ≤ x.m2.hi + x.m3.hi
  a1 : x.m2.lo + x.m3.lo ≤ l.2.middle ∧ l.2.middle ≤ x.m2.hi + x.m3.hi
  b0 : x.m0.lo + x.m1.lo + (x.m4.lo + x.m5.lo) ≤ l.1.ends ∧ l.1.ends ≤ x.m0.hi + x.m1.hi + (x.m4.hi + x.m5.hi)
  b1 : x.m0.lo + x.m1.lo + (x.m4.lo + x.m5.lo) ≤ l.2.ends ∧ l.2.ends ≤ x.m0.hi + x.m1.hi + (x.m4.hi + x.m5.hi)
  c0 : -(4 * x.sag) ≤ 2 * l.1.middle - l.1.ends ∧ 2 * l.1.middle - l.1.ends ≤ 4 * x.sag
  c1 : -(4 * x.sag) ≤ 2 * l.2.middle - l.2.ends ∧ 2 * l.2.middle - l.2.ends ≤ 4 * x.sag
  all : ∀ m n : Int, x.m2.lo + x.m3.lo ≤ m → m ≤ x.m2.hi + x.m3.hi → x.m0.lo + x.m1.lo + (x.m4.lo + x.m5.lo) ≤ n → n ≤ x.m0.hi + x.m1.hi + (x.m4.hi + x.m5.hi) → -(4 * x.sag) ≤ 2 * m - n → 2 * m - n ≤ 4 * x.sag →
    l.1.middle ≤ m ∧ m ≤ l.2.middle ∧ l.1.ends ≤ n ∧ n ≤ l.2.ends
theorem arith0 {a b e0 e1 s L U p q : Int} (hs : 0 ≤ s) (l1 : a ≤ L) (l2 : e0 - s ≤ 2 * L) (u1 : U ≤ b) (u2 : 2 * U ≤ e1 + s) (v : L ≤ U) (he : e0 ≤ e1) (hp : p = max (2 * L - s) e0) (hq : q = min (2 * U + s) e1) :
    (a ≤ L ∧ L ≤ b) ∧ (a ≤ U ∧ U ≤ b) ∧ (e0 ≤ p ∧ p ≤ e1) ∧ (e0 ≤ q ∧ q ≤ e1) ∧ (-s ≤ 2 * L - p ∧ 2 * L - p ≤ s) ∧ (-s ≤ 2 * U - q ∧ 2 * U - q ≤ s) := by
  refine ⟨⟨l1, ?_⟩, ⟨?_, u1⟩, ⟨?_, ?_⟩, ⟨?_, ?_⟩, ⟨?_, ?_⟩, ⟨?_, ?_⟩⟩ <;> omega
theorem arith1 {a b e0 e1 s L U p q m n : Int} (l3 : L = a ∨ 2 * L ≤ e0 - s + 1) (u3 : U = b ∨ e1 + s - 1 ≤ 2 * U) (hp : p = max (2 * L - s) e0) (hq : q = min (2 * U + s) e1)
    (t1 : a ≤ m) (t2 : m ≤ b) (t3 : e0 ≤ n) (t4 : n ≤ e1) (t5 : -s ≤ 2 * m - n) (t6 : 2 * m - n ≤ s) : L ≤ m ∧ m ≤ U ∧ p ≤ n ∧ n ≤ q := by
  have h1 : L ≤ m := by rcases l3 with h | h <;> omega
  have h2 : m ≤ U := by rcases u3 with h | h <;> omega
  refine ⟨h1, h2, ?_, ?_⟩ <;> omega
theorem low_arith {a e0 s L : Int} (h : L = if -((s - e0) / 2) > a then -((s - e0) / 2) else a) : a ≤ L ∧ e0 - s ≤ 2 * L ∧ (L = a ∨ 2 * L ≤ e0 - s + 1) := by
  split at h <;> refine ⟨?_, ?_, ?_⟩ <;> omega
theorem high_arith {b e1 s U : Int} (h : U = if (e1 + s) / 2 < b then (e1 + s) / 2 else b) : U ≤ b ∧ 2 * U ≤ e1 + s ∧ (U = b ∨ e1 + s - 1 ≤ 2 * U) := by
  split at h <;> refine ⟨?_, ?_, ?_⟩ <;> omega
theorem extremes_ok {x : Survey} (g : Good x) (h : (extremes x).2 = true) : EndsOk x (extremes x).1 := by
  have hv : void (mids x) = false := by
    cases hv : void (mids x) with
    | false => rfl
    | true => unfold extremes at h; rw [if_pos hv] at h; exact absurd h (by decide)
  obtain ⟨h1, h2, h3, h4⟩ := g.m0; obtain ⟨k1, k2, k3, k4⟩ := g.m1
  obtain ⟨p1, p2, p3, p4⟩ := g.m2; obtain ⟨q1, q2, q3, q4⟩ := g.m3
  obtain ⟨i1, i2, i3, i4⟩ := g.m4; obtain ⟨j1, j2, j3, j4⟩ := g.m5
  obtain ⟨s1, s2⟩ := g.sag
  have e := ends_eq g
  have e1 : (endsOf x).lo = x.m0.lo + x.m1.lo + (x.m4.lo + x.m5.lo) := by rw [e]
  have e2 : (endsOf x).hi = x.m0.hi + x.m1.hi + (x.m4.hi + x.m5.hi) := by rw [e]
  have hm := mids_eq g
  have v := void_false.1 hv
  have m1 : (mids x).lo = if -((4 * x.sag - (endsOf x).lo) / 2) > x.m2.lo + x.m3.lo then -((4 * x.sag - (endsOf x).lo) / 2) else x.m2.lo + x.m3.lo := by rw [hm]; rfl
  have m2 : (mids x).hi = if ((endsOf x).hi + 4 * x.sag) / 2 < x.m2.hi + x.m3.hi then ((endsOf x).hi + 4 * x.sag) / 2 else x.m2.hi + x.m3.hi := by rw [hm]; rfl
  obtain ⟨l1, l2, l3⟩ := low_arith m1
  obtain ⟨u1, u2, u3⟩ := high_arith m2
  have he : (extremes x).1 = (⟨if IntKind.i64.wrap (IntKind.i64.wrap (2 * (mids x).lo) - bend x) > (endsOf x).lo then IntKind.i64.wrap (IntKind.i64.wrap (2 * (mids x).lo) - bend x) else (endsOf x).lo, (mids x).lo⟩,
    ⟨if IntKind.i64.wrap (IntKind.i64.wrap (2 * (mids x).hi) + bend x) < (endsOf x).hi then IntKind.i64.wrap (IntKind.i64.wrap (2 * (mids x).hi) + bend x) else (endsOf x).hi, (mids x).hi⟩) := by
    unfold extremes; rw [if_neg (by rw [hv]; decide)]
  clear m1 m2 hm hv h e
  generalize (mids x).lo = L at *
  generalize (mids x).hi = U at *
  rw [bend_eq g, w64_in (n := 2 * L) (by omega) (by omega), w64_in (n := 2 * L - 4 * x.sag) (by omega) (by omega), w64_in (n := 2 * U) (by omega) (by omega), w64_in (n := 2 * U + 4 * x.sag) (by omega) (by omega)] at he
  have n1 : (if 2 * L - 4 * x.sag > (endsOf x).lo then 2 * L - 4 * x.sag else (endsOf x).lo) = max (2 * L - 4 * x.sag) (endsOf x).lo := by split <;> omega
  have n2 : (if 2 * U + 4 * x.sag < (endsOf x).hi then 2 * U + 4 * x.sag else (endsOf x).hi) = min (2 * U + 4 * x.sag) (endsOf x).hi := by split <;> omega
  rw [n1, n2] at he
  rw [he]
  rw [e1] at l2 l3
  rw [e2] at u2 u3
  rw [e1, e2]
  obtain ⟨r1, r2, r3, r4, r5, r6⟩ := arith0 (s := 4 * x.sag) (by omega) l1 l2 u1 u2 v (by omega) rfl rfl
  exact ⟨r1, r2, r3, r4, r5, r6, fun m n t1 t2 t3 t4 t5 t6 => by
    obtain ⟨w1, w2, w3, w4⟩ := arith1 l3 u3 rfl rfl t1 t2 t3 t4 t5 t6
    exact ⟨w1, w2, w3, w4⟩⟩
theorem parts_ok {a b : Span} {s : Int} (ha : -1000000 ≤ a.lo ∧ a.lo ≤ a.hi ∧ a.hi ≤ 1000000) (hb : -1000000 ≤ b.lo ∧ b.lo ≤ b.hi ∧ b.hi ≤ 1000000) (h : a.lo + b.lo ≤ s ∧ s ≤ a.hi + b.hi) :
    ∃ p q, parts (a, b, s) = (p, q) ∧ a.lo ≤ p ∧ p ≤ a.hi ∧ b.lo ≤ q ∧ q ≤ b.hi ∧ p + q = s := by
  unfold parts
  simp only
  rw [w64_in (n := s - b.lo) (by omega) (by omega)]
  split
  · rw [w64_in (n := s - (s - b.lo)) (by omega) (by omega)]; exact ⟨_, _, rfl, by omega, by omega, by omega, by omega, by omega⟩
  · rw [w64_in (n := s - a.hi) (by omega) (by omega)]; exact ⟨_, _, rfl, by omega, by omega, by omega, by omega, by omega⟩
/-- Six numbers are draughts of a survey. -/
def Draughts (x : Survey) (n : Int × Int × Int × Int × Int × Int) : Prop :=
  (x.m0.lo ≤ n.1 ∧ n.1 ≤ x.m0.hi) ∧ (x.m1.lo ≤ n.2.1 ∧ n.2.1 ≤ x.m1.hi) ∧ (x.m2.lo ≤ n.2.2.1 ∧ n.2.2.1 ≤ x.m2.hi) ∧ (x.m3.lo ≤ n.2.2.2.1 ∧ n.2.2.2.1 ≤ x.m3.hi) ∧ (x.m4.lo ≤ n.2.2.2.2.1 ∧ n.2.2.2.2.1 ≤ x.m4.hi) ∧ (x.m5.lo ≤ n.2.2.2.2.2 ∧ n.2.2.2.2.2 ≤ x.m5.hi) ∧
  -(4 * x.sag) ≤ 2 * (n.2.2.1 + n.2.2.2.1) - n.1 - n.2.1 - n.2.2.2.2.1 - n.2.2.2.2.2 ∧ 2 * (n.2.2.1 + n.2.2.2.1) - n.1 - n.2.1 - n.2.2.2.2.1 - n.2.2.2.2.2 ≤ 4 * x.sag
theorem bends_iff {x : Survey} (g : Good x) (n : Int × Int × Int × Int × Int × Int) : Bends (x, n) = true ↔ Draughts x n := by
  obtain ⟨h1, h2, h3, h4⟩ := g.m0; obtain ⟨k1, k2, k3, k4⟩ := g.m1
  obtain ⟨p1, p2, p3, p4⟩ := g.m2; obtain ⟨q1, q2, q3, q4⟩ := g.m3
  obtain ⟨i1, i2, i3, i4⟩ := g.m4; obtain ⟨j1, j2, j3, j4⟩ := g.m5
  obtain ⟨s1, s2⟩ := g.sag
  obtain ⟨a, b, c, d, e, f⟩ := n
  unfold Bends Draughts
  simp only
  by_cases c0 : within a x.m0.lo x.m0.hi = true
  case neg => exact ⟨fun h => by simp [c0] at h, fun h => absurd (within_iff.2 h.1) c0⟩
  by_cases c1 : within b x.m1.lo x.m1.hi = true
  case neg => exact ⟨fun h => by simp [c0, c1] at h, fun h => absurd (within_iff.2 h.2.1) c1⟩
  by_cases c2 : within c x.m2.lo x.m2.hi = true
  case neg => exact ⟨fun h => by simp [c0, c1, c2] at h, fun h => absurd (within_iff.2 h.2.2.1) c2⟩
  by_cases c3 : within d x.m3.lo x.m3.hi = true
  case neg => exact ⟨fun h => by simp [c0, c1, c2, c3] at h, fun h => absurd (within_iff.2 h.2.2.2.1) c3⟩
  by_cases c4 : within e x.m4.lo x.m4.hi = true
  case neg => exact ⟨fun h => by simp [c0, c1, c2, c3, c4] at h, fun h => absurd (within_iff.2 h.2.2.2.2.1) c4⟩
  by_cases c5 : within f x.m5.lo x.m5.hi = true
  case neg => exact ⟨fun h => by simp [c0, c1, c2, c3, c4, c5] at h, fun h => absurd (within_iff.2 h.2.2.2.2.2.1) c5⟩
  simp only [c0, c1, c2, c3, c4, c5]
  have d0 := within_iff.1 c0; have d1 := within_iff.1 c1; have d2 := within_iff.1 c2; have d3 := within_iff.1 c3; have d4 := within_iff.1 c4; have d5 := within_iff.1 c5
  rw [w64_in (n := c + d) (by omega) (by omega), w64_in (n := 2 * (c + d)) (by omega) (by omega), w64_in (n := 2 * (c + d) - a) (by omega) (by omega), w64_in (n := 2 * (c + d) - a - b) (by omega) (by omega), w64_in (n := 2 * (c + d) - a - b - e) (by omega) (by omega), w64_in (n := 2 * (c + d) - a - b - e - f) (by omega) (by omega), w64_in (n := -4 * x.sag) (by omega) (by omega), w64_in (n := 4 * x.sag) (by omega) (by omega)]
  simp only [Bool.not_true, Bool.false_eq_true, if_false, within_iff]
  constructor
  · intro h; refine ⟨d0, d1, d2, d3, d4, d5, ?_, ?_⟩ <;> omega
  · rintro ⟨_, _, _, _, _, _, h1, h2⟩; omega
theorem lsix_eq {x : Survey} (g : Good x) {n : Int × Int × Int × Int × Int × Int} (h : Draughts x n) : lsix n = n.1 + n.2.1 + n.2.2.2.2.1 + n.2.2.2.2.2 + 6 * (n.2.2.1 + n.2.2.2.1) := by
  obtain ⟨h1, h2, h3, h4⟩ := g.m0; obtain ⟨k1, k2, k3, k4⟩ := g.m1
  obtain ⟨p1, p2, p3, p4⟩ := g.m2; obtain ⟨q1, q2, q3, q4⟩ := g.m3
  obtain ⟨i1, i2, i3, i4⟩ := g.m4; obtain ⟨j1, j2, j3, j4⟩ := g.m5
  obtain ⟨a, b, c, d, e, f⟩ := n
  obtain ⟨d0, d1, d2, d3, d4, d5, _, _⟩ := h
  simp only at d0 d1 d2 d3 d4 d5 ⊢
  unfold lsix
  simp only
  rw [w64_in (n := a + b) (by omega) (by omega), w64_in (n := 6 * c) (by omega) (by omega), w64_in (n := a + b + 6 * c) (by omega) (by omega), w64_in (n := 6 * d) (by omega) (by omega), w64_in (n := a + b + 6 * c + 6 * d) (by omega) (by omega), w64_in (n := a + b + 6 * c + 6 * d + e) (by omega) (by omega), w64_in (by omega) (by omega)]
  omega
theorem marks_ok {x : Survey} (g : Good x) {l : Sums} (he : x.m0.lo + x.m1.lo + (x.m4.lo + x.m5.lo) ≤ l.ends ∧ l.ends ≤ x.m0.hi + x.m1.hi + (x.m4.hi + x.m5.hi)) (hm : x.m2.lo + x.m3.lo ≤ l.middle ∧ l.middle ≤ x.m2.hi + x.m3.hi)
    (hs : -(4 * x.sag) ≤ 2 * l.middle - l.ends ∧ 2 * l.middle - l.ends ≤ 4 * x.sag) : Draughts x (marks (x, l)) ∧ lsix (marks (x, l)) = sums16 l := by
  obtain ⟨h1, h2, h3, h4⟩ := g.m0; obtain ⟨k1, k2, k3, k4⟩ := g.m1
  obtain ⟨p1, p2, p3, p4⟩ := g.m2; obtain ⟨q1, q2, q3, q4⟩ := g.m3
  obtain ⟨i1, i2, i3, i4⟩ := g.m4; obtain ⟨j1, j2, j3, j4⟩ := g.m5
  obtain ⟨fo, af, e1, a1, a2, a3, a4, a5⟩ := parts_ok (a := ⟨x.m0.lo + x.m1.lo, x.m0.hi + x.m1.hi⟩) (b := ⟨x.m4.lo + x.m5.lo, x.m4.hi + x.m5.hi⟩) (s := l.ends) (by simp only; omega) (by simp only; omega) (by simp only; omega)
  simp only at a1 a2 a3 a4
  obtain ⟨n0, n1, e2, b1, b2, b3, b4, b5⟩ := parts_ok (a := x.m0) (b := x.m1) (s := fo) (by omega) (by omega) (by omega)
  obtain ⟨n2, n3, e3, c1, c2, c3, c4, c5⟩ := parts_ok (a := x.m2) (b := x.m3) (s := l.middle) (by omega) (by omega) (by omega)
  obtain ⟨n4, n5, e4, d1, d2, d3, d4, d5⟩ := parts_ok (a := x.m4) (b := x.m5) (s := af) (by omega) (by omega) (by omega)
  have hmk : marks (x, l) = (n0, n1, n2, n3, n4, n5) := by
    have : marks (x, l) = ((parts (x.m0, x.m1, (parts (both x.m0 x.m1, both x.m4 x.m5, l.ends)).1)).1, (parts (x.m0, x.m1, (parts (both x.m0 x.m1, both x.m4 x.m5, l.ends)).1)).2, (parts (x.m2, x.m3, l.middle)).1, (parts (x.m2, x.m3, l.middle)).2,
      (parts (x.m4, x.m5, (parts (both x.m0 x.m1, both x.m4 x.m5, l.ends)).2)).1, (parts (x.m4, x.m5, (parts (both x.m0 x.m1, both x.m4 x.m5, l.ends)).2)).2) := by unfold marks; rfl
    rw [this, fore_eq g, aft_eq g, e1]
    simp only
    rw [e2, e3, e4]
  have hd : Draughts x (n0, n1, n2, n3, n4, n5) := by
    unfold Draughts
    simp only
    exact ⟨⟨b1, b2⟩, ⟨b3, b4⟩, ⟨c1, c2⟩, ⟨c3, c4⟩, ⟨d1, d2⟩, ⟨d3, d4⟩, by omega, by omega⟩
  rw [hmk]
  refine ⟨hd, ?_⟩
  rw [lsix_eq g hd]
  unfold sums16
  simp only
  rw [w64_in (n := 6 * l.middle) (by omega) (by omega), w64_in (n := l.ends + 6 * l.middle) (by omega) (by omega)]
  omega
end K
end Go.Proofs.Ytkajafmphemedaa
