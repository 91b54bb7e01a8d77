/- SurveyMasses: for every input the law returns true, and the input reads as it did. No conditions. -/
import Derived.Test.YtkajafmphemedaaRows
import Derived.Test.YtkajafmphemedaaBx6
/-! KV6 -/
namespace Go.Proofs.Ytkajafmphemedaa
open Ev K
set_option maxRecDepth 100000
namespace K
structure RatioOk (f : Frac) : Prop where
  den : 0 < f.den
  den2 : f.den ≤ 2097152
  num : 0 ≤ f.num
  num2 : f.num ≤ 2000 * f.den
theorem gcd_mul_self {x r : Nat} : Nat.gcd (x * r) r = r := Nat.gcd_eq_right (Nat.dvd_mul_left r x)
theorem low_mul {x r : Int} (hx : 0 ≤ x) (hx2 : x ≤ 2000) (hr : 0 < r) : r_low ⟨x * r, r⟩ = ⟨x, 1⟩ := by
  have hg : gcdI (x * r) r = r := by
    unfold gcdI
    rw [Int.natAbs_mul, gcd_mul_self]; omega
  unfold r_low
  simp only
  rw [hg, Int.mul_tdiv_cancel _ (by omega), Int.tdiv_self (by omega), w64_in (n := x) (by omega) (by omega)]; rfl
theorem low_spec {f : Frac} (h : RatioOk f) : ∃ g a b : Int, 0 < g ∧ 0 < b ∧ 0 ≤ a ∧ f.num = g * a ∧ f.den = g * b ∧ r_low f = ⟨a, b⟩ := by
  obtain ⟨n, d⟩ := f
  obtain ⟨h1, h2, h3, h4⟩ := h
  simp only at h1 h2 h3 h4
  obtain ⟨n', rfl⟩ := Int.eq_ofNat_of_zero_le h3
  obtain ⟨d', rfl⟩ := Int.eq_ofNat_of_zero_le (Int.le_of_lt h1)
  have hd : 0 < d' := by omega
  have hg : 0 < Nat.gcd n' d' := Nat.gcd_pos_of_pos_right n' hd
  obtain ⟨a, ha⟩ := Nat.gcd_dvd_left n' d'
  obtain ⟨b, hb⟩ := Nat.gcd_dvd_right n' d'
  have e1 : n' / Nat.gcd n' d' = a := by rw [Nat.div_eq_iff_eq_mul_right hg ⟨a, ha⟩]; exact ha
  have e2 : d' / Nat.gcd n' d' = b := by rw [Nat.div_eq_iff_eq_mul_right hg ⟨b, hb⟩]; exact hb
  have ea : a ≤ n' := by rw [← e1]; exact Nat.div_le_self _ _
  have eb : b ≤ d' := by rw [← e2]; exact Nat.div_le_self _ _
  refine ⟨(Nat.gcd n' d' : Nat), a, b, by omega, ?_, by omega, ?_, ?_, ?_⟩
  · rcases Nat.eq_zero_or_pos b with e | e
    · rw [e, Nat.mul_zero] at hb; omega
    · omega
  · show (n' : Int) = _; rw [← Int.natCast_mul, ← ha]
  · show (d' : Int) = _; rw [← Int.natCast_mul, ← hb]
  · unfold r_low gcdI
    simp only [Int.natAbs_natCast]
    rw [← Int.ofNat_tdiv, ← Int.ofNat_tdiv, e1, e2, w64_in (by omega) (by omega), w64_in (by omega) (by omega)]
theorem low_good {f : Frac} (h : RatioOk f) : RatioOk (r_low f) := by
  obtain ⟨g, a, b, hg, hb, ha, e1, e2, e3⟩ := low_spec h
  rw [e3]
  obtain ⟨h1, h2, h3, h4⟩ := h
  rw [e1, e2] at h4; rw [e2] at h2
  have h5 : g * a ≤ g * (2000 * b) := by rw [Int.mul_left_comm]; exact h4
  have hb2 : 1 * b ≤ g * b := Int.mul_le_mul_of_nonneg_right (by omega) (by omega)
  exact ⟨hb, by rw [Int.one_mul] at hb2; exact Int.le_trans hb2 h2, ha, Int.le_of_mul_le_mul_left h5 hg⟩
theorem low_ok {f : Frac} (h : RatioOk f) : lowOk f = true := by
  obtain ⟨h1, h2, h3, h4⟩ := h
  unfold lowOk divOk gcdI
  have : 0 < Nat.gcd f.num.natAbs f.den.natAbs := Nat.gcd_pos_of_pos_right _ (by omega)
  simp only [Bool.and_eq_true, decide_eq_true_eq, Bool.not_eq_true', decide_eq_false_iff_not]
  refine ⟨⟨by omega, by omega, by omega⟩, by omega⟩
/-- The least mass of a volume, and the greatest. -/
def massLo (f : Frac) (d : Int) : Int := IntKind.i64.wrap (Int.tdiv (IntKind.i64.wrap (IntKind.i64.wrap (IntKind.i64.wrap (f.num * d) + IntKind.i64.wrap (25 * f.den)) - 1)) (IntKind.i64.wrap (25 * f.den)))
def massHi (f : Frac) (d : Int) : Int := IntKind.i64.wrap (Int.tdiv (IntKind.i64.wrap (f.num * d)) (IntKind.i64.wrap (25 * f.den)))
theorem prod_le {f : Frac} (h : RatioOk f) {d : Int} (h0 : 0 ≤ d) (h1 : d ≤ 1100) : 0 ≤ f.num * d ∧ f.num * d ≤ 4613734400000 := by
  obtain ⟨a1, a2, a3, a4⟩ := h
  refine ⟨Int.mul_nonneg a3 h0, ?_⟩
  have := Int.mul_le_mul (show f.num ≤ 4194304000 by omega) h1 h0 (by omega)
  exact this
theorem massLo_eq {f : Frac} (h : RatioOk f) {d : Int} (h0 : 0 ≤ d) (h1 : d ≤ 1100) : massLo f d = (f.num * d + 25 * f.den - 1) / (25 * f.den) := by
  obtain ⟨p0, p1⟩ := prod_le h h0 h1
  obtain ⟨a1, a2, a3, a4⟩ := h
  unfold massLo
  generalize f.num * d = p at *
  rw [w64_in (n := p) (by omega) (by omega), w64_in (n := 25 * f.den) (by omega) (by omega), w64_in (n := p + 25 * f.den) (by omega) (by omega), w64_in (n := p + 25 * f.den - 1) (by omega) (by omega), Int.tdiv_eq_ediv_of_nonneg (by omega)]
  have q1 := Int.ediv_nonneg (show 0 ≤ p + 25 * f.den - 1 by omega) (show 0 ≤ 25 * f.den by omega)
  have q2 := Int.ediv_le_self (25 * f.den) (show 0 ≤ p + 25 * f.den - 1 by omega)
  rw [w64_in (by omega) (by omega)]
theorem massHi_eq {f : Frac} (h : RatioOk f) {d : Int} (h0 : 0 ≤ d) (h1 : d ≤ 1100) : massHi f d = f.num * d / (25 * f.den) := by
  obtain ⟨p0, p1⟩ := prod_le h h0 h1
  obtain ⟨a1, a2, a3, a4⟩ := h
  unfold massHi
  generalize f.num * d = p at *
  rw [w64_in (n := p) (by omega) (by omega), w64_in (n := 25 * f.den) (by omega) (by omega), Int.tdiv_eq_ediv_of_nonneg (by omega)]
  have q1 := Int.ediv_nonneg (show 0 ≤ p by omega) (show 0 ≤ 25 * f.den by omega)
  have q2 := Int.ediv_le_self (25 * f.den) (show 0 ≤ p by omega)
  rw [w64_in (by omega) (by omega)]
theorem ceil_mul {g m n : Int} (hg : 0 < g) (hn : 0 < n) : (g * m + g * n - 1) / (g * n) = (m + n - 1) / n := by
  have hgn : 0 < g * n := Int.mul_pos hg hn
  have b1 : n * ((m + n - 1) / n) ≤ m + n - 1 := Int.mul_ediv_self_le (by omega)
  have b2 : m + n - 1 < n * ((m + n - 1) / n) + n := Int.lt_mul_ediv_self_add hn
  generalize (m + n - 1) / n = q at *
  refine Int.le_antisymm ?_ ?_
  · refine Int.le_of_lt_add_one ((Int.ediv_lt_iff_lt_mul hgn).2 ?_)
    have : g * m ≤ g * (n * q) := Int.mul_le_mul_of_nonneg_left (by omega) (by omega)
    rw [Int.add_mul, Int.one_mul, Int.mul_comm q, Int.mul_assoc]
    omega
  · refine (Int.le_ediv_iff_mul_le hgn).2 ?_
    have : g * (n * q) ≤ g * (m + n - 1) := Int.mul_le_mul_of_nonneg_left b1 (by omega)
    rw [Int.mul_sub, Int.mul_add, Int.mul_one] at this
    rw [Int.mul_comm q, Int.mul_assoc]
    omega
theorem massLo_low {f : Frac} (h : RatioOk f) {d : Int} (h0 : 0 ≤ d) (h1 : d ≤ 1100) : massLo (r_low f) d = massLo f d := by
  rw [massLo_eq h h0 h1, massLo_eq (low_good h) h0 h1]
  obtain ⟨g, a, b, hg, hb, ha, e1, e2, e3⟩ := low_spec h
  rw [e3, e1, e2]
  simp only
  rw [Int.mul_assoc, Int.mul_left_comm 25 g b, ceil_mul hg (by omega)]
theorem massHi_low {f : Frac} (h : RatioOk f) {d : Int} (h0 : 0 ≤ d) (h1 : d ≤ 1100) : massHi (r_low f) d = massHi f d := by
  rw [massHi_eq h h0 h1, massHi_eq (low_good h) h0 h1]
  obtain ⟨g, a, b, hg, hb, ha, e1, e2, e3⟩ := low_spec h
  rw [e3, e1, e2]
  simp only
  rw [Int.mul_assoc, Int.mul_left_comm 25 g b, Int.mul_ediv_mul_of_pos _ _ hg]
theorem rise_lt {c : Curve} (r : riseAll c) : ∀ k i, i + k + 1 < len c.knots → c.knots.g i 1 < c.knots.g (i + k + 1) 1 := by
  intro k
  induction k with
  | zero => intro i h; exact r i h
  | succ k ih => intro i h; have := ih i (by omega); have h2 := r (i + k + 1) (by omega); exact Int.lt_trans this h2
theorem ratioAt_eq {c : Curve} (o : CurveOk c) (r : riseAll c) {y : Int} {i : Nat} (hi : i + 1 < len c.knots) (h0 : 16 * c.knots.g i 1 ≤ y) (h1 : y ≤ 16 * c.knots.g (i + 1) 1) :
    ratioAt c.knots y i = ⟨c.knots.g i 0 * (16 * (c.knots.g (i + 1) 1 - c.knots.g i 1)) + (y - 16 * c.knots.g i 1) * (c.knots.g (i + 1) 0 - c.knots.g i 0), 16 * (c.knots.g (i + 1) 1 - c.knots.g i 1)⟩ ∧ RatioOk (ratioAt c.knots y i) := by
  have a0 := o.x i (by omega); have a1 := o.x (i + 1) hi
  have b0 := o.y i (by omega); have b1 := o.y (i + 1) hi
  have hr := r i hi; have hx := o.inc i hi
  unfold ratioAt riseAt
  generalize c.knots.g i 0 = x0 at *; generalize c.knots.g (i + 1) 0 = x1 at *
  generalize c.knots.g i 1 = y0 at *; generalize c.knots.g (i + 1) 1 = y1 at *
  rw [w64_in (n := y1 - y0) (by omega) (by omega), w64_in (n := 16 * (y1 - y0)) (by omega) (by omega), w64_in (n := 16 * y0) (by omega) (by omega), w64_in (n := y - 16 * y0) (by omega) (by omega), w64_in (n := x1 - x0) (by omega) (by omega)]
  have hR : 0 < 16 * (y1 - y0) ∧ 16 * (y1 - y0) ≤ 2097152 := by omega
  have hd : 0 ≤ y - 16 * y0 ∧ y - 16 * y0 ≤ 16 * (y1 - y0) := by omega
  generalize 16 * (y1 - y0) = R at *
  generalize y - 16 * y0 = d at *
  have m1 : 0 ≤ x0 * R := Int.mul_nonneg a0.1 (by omega)
  have m2 : 0 ≤ d * (x1 - x0) := Int.mul_nonneg hd.1 (by omega)
  have m3 : d * (x1 - x0) ≤ R * (x1 - x0) := Int.mul_le_mul_of_nonneg_right hd.2 (by omega)
  have m4 : R * (x1 - x0) = x1 * R - x0 * R := by rw [Int.mul_sub, Int.mul_comm R, Int.mul_comm R]
  have m5 : x1 * R ≤ 2000 * R := Int.mul_le_mul_of_nonneg_right a1.2 (by omega)
  rw [w64_in (n := x0 * R) (by omega) (by omega), w64_in (n := d * (x1 - x0)) (by omega) (by omega), w64_in (by omega) (by omega)]
  exact ⟨rfl, ⟨hR.1, hR.2, by simp only; omega, by simp only; omega⟩⟩
/-- Where a rising curve has a value: what both find. -/
theorem where_is {c : Curve} (o : CurveOk c) (r : riseAll c) {y : Int} (h0 : 16 * c.knots.g 0 1 ≤ y) (h1 : y ≤ 16 * c.knots.g (len c.knots - 1) 1) :
    whOk c y = true ∧ RatioOk (whereOf c y) ∧ r_where c y = r_low (whereOf c y) := by
  have hp := o.pos
  have e16 : ∀ i, i < len c.knots → IntKind.i64.wrap (16 * c.knots.g i 1) = 16 * c.knots.g i 1 := fun i hi => by have := o.y i hi; exact w64_in (by omega) (by omega)
  have hpr : ∀ i, i < len c.knots → (p_rwh c y i = true ↔ y ≤ 16 * c.knots.g i 1) := by
    intro i hi
    unfold p_rwh
    rw [show (knt c.knots i).y = c.knots.g i 1 from rfl, e16 i hi, Bool.not_eq_true', decide_eq_false_iff_not]; omega
  have hip : ∀ i, i + 1 < len c.knots → (inPiece c.knots y i = true ↔ 16 * c.knots.g i 1 ≤ y ∧ y ≤ 16 * c.knots.g (i + 1) 1) := by
    intro i hi
    unfold inPiece
    rw [e16 i (by omega), e16 (i + 1) hi, within_iff]
  cases hf : first (p_rwh c y) (len c.knots) with
  | none =>
    have := first_none' hf (len c.knots - 1) (by omega)
    rw [(hpr _ (by omega)).2 h1] at this; cases this
  | some i =>
    obtain ⟨f1, f2, f3⟩ := first_spec hf
    have f2' := (hpr i f1).1 f2
    have f3' : ∀ j, j < i → 16 * c.knots.g j 1 < y := fun j hj => by
      have := f3 j hj
      cases hq : decide (y ≤ 16 * c.knots.g j 1) with
      | true => rw [(hpr j (by omega)).2 (of_decide_eq_true hq)] at this; cases this
      | false => have := of_decide_eq_false hq; omega
    have hx := o.x i f1
    rcases Nat.eq_zero_or_pos i with hi | hi
    · subst hi
      have hy : y = 16 * c.knots.g 0 1 := by omega
      have hw : r_where c y = ⟨c.knots.g 0 0, 1⟩ := by
        unfold r_where; rw [hf]
        exact if_pos (show (IntKind.i64.wrap (16 * c.knots.g 0 1) == y) = true by rw [e16 0 f1, hy]; simp)
      have hok : whOk c y = true := by
        unfold whOk; rw [hf]
        show (IntKind.i64.wrap (16 * c.knots.g 0 1) == y || _) = true
        rw [e16 0 f1, hy]; simp
      by_cases hn : len c.knots = 1
      · have hwo : whereOf c y = ⟨c.knots.g 0 0, 1⟩ := by
          unfold whereOf; rw [hn]; rfl
        rw [hwo, hw]
        refine ⟨hok, ⟨by simp only; omega, by simp only; omega, by simp only; omega, by simp only; omega⟩, ?_⟩
        have := low_mul (x := c.knots.g 0 0) (r := 1) hx.1 hx.2 (by omega)
        rw [Int.mul_one] at this; exact this.symm
      · have hr := r 0 (by omega)
        have hfs : first (inPiece c.knots y) (len c.knots - 1) = some 0 := first_some (by omega) ((hip 0 (by omega)).2 ⟨h0, by rw [hy]; omega⟩) (fun j hj => absurd hj (by omega))
        have hwo : whereOf c y = ratioAt c.knots y 0 := by unfold whereOf; rw [hfs]
        obtain ⟨q1, q2⟩ := ratioAt_eq o r (i := 0) (by omega) h0 (by rw [hy]; omega)
        rw [hwo]
        refine ⟨hok, q2, ?_⟩
        rw [hw, q1, hy, Int.sub_self, Int.zero_mul, Int.add_zero, low_mul hx.1 hx.2 (by omega)]
    · obtain ⟨k, rfl⟩ : ∃ k, i = k + 1 := ⟨i - 1, by omega⟩
      have g0 := f3' k (by omega)
      have hr := r k f1
      have hfs : first (inPiece c.knots y) (len c.knots - 1) = some k := by
        refine first_some (by omega) ((hip k f1).2 ⟨by omega, f2'⟩) (fun j hj => ?_)
        cases hq : inPiece c.knots y j with
        | false => rfl
        | true => have := (hip j (by omega)).1 hq; have := f3' (j + 1) (by omega); omega
      have hwo : whereOf c y = ratioAt c.knots y k := by unfold whereOf; rw [hfs]
      obtain ⟨q1, q2⟩ := ratioAt_eq o r (i := k) f1 (by omega) f2'
      have hfr : whFrac c y (k + 1) = ratioAt c.knots y k := rfl
      rw [hwo]
      by_cases hy : 16 * c.knots.g (k + 1) 1 = y
      · have hok : whOk c y = true := by
          unfold whOk; rw [hf]
          show (IntKind.i64.wrap (16 * c.knots.g (k + 1) 1) == y || _) = true
          rw [e16 _ f1, hy]; simp
        have hw : r_where c y = ⟨c.knots.g (k + 1) 0, 1⟩ := by
          unfold r_where; rw [hf]
          exact if_pos (show (IntKind.i64.wrap (16 * c.knots.g (k + 1) 1) == y) = true by rw [e16 _ f1, hy]; simp)
        refine ⟨hok, q2, ?_⟩
        rw [hw, q1, ← hy]
        have e : c.knots.g k 0 * (16 * (c.knots.g (k + 1) 1 - c.knots.g k 1)) + (16 * c.knots.g (k + 1) 1 - 16 * c.knots.g k 1) * (c.knots.g (k + 1) 0 - c.knots.g k 0) = c.knots.g (k + 1) 0 * (16 * (c.knots.g (k + 1) 1 - c.knots.g k 1)) := by
          rw [← Int.mul_sub 16, Int.mul_comm (16 * (c.knots.g (k + 1) 1 - c.knots.g k 1)), ← Int.add_mul]; congr 1; omega
        rw [e, low_mul hx.1 hx.2 (by omega)]
      · have hne : (IntKind.i64.wrap (16 * (knt c.knots (k + 1)).y) == y) = false := by
          rw [show (knt c.knots (k + 1)).y = c.knots.g (k + 1) 1 from rfl, e16 _ f1]; simpa using hy
        have hok : whOk c y = true := by
          unfold whOk; rw [hf]
          simp only
          rw [hne, hfr, low_ok q2]; simp
        have hw : r_where c y = r_low (ratioAt c.knots y k) := by
          unfold r_where; rw [hf]
          simp only
          rw [hne, ← hfr]; rfl
        exact ⟨hok, q2, hw⟩
theorem dens_ok {b : Bulbs} {x : Survey} (hb : CheckBulbs b = 0) (hd : (density (b, x)).2 = 0) : r_density (b, x) = (density (b, x)).1 ∧ 900 ≤ (density (b, x)).1.lo ∧ (density (b, x)).1.lo ≤ (density (b, x)).1.hi ∧ (density (b, x)).1.hi ≤ 1100 := by
  have ho : (off (b, x.hydro)).2 = 0 := by
    unfold density at hd
    by_cases ho : (off (b, x.hydro)).2 = 0
    · exact ho
    · exfalso
      rw [if_pos (show ((off ((b, x).1, (b, x).2.hydro)).2 != 0) = true by simpa using ho)] at hd
      exact ho hd
  have e := density_is (x := x) hb ho
  cases hv : void (r_density (b, x)) with
  | true => rw [hv, if_pos rfl] at e; rw [e] at hd; cases hd
  | false =>
    rw [hv] at e
    rw [e]
    have v := void_false.1 hv
    refine ⟨rfl, ?_, v, ?_⟩
    · show 900 ≤ (r_density (b, x)).lo
      unfold r_density; simp only; split <;> omega
    · show (r_density (b, x)).hi ≤ 1100
      unfold r_density; simp only; split <;> omega
section
variable {s : Ship} {b : Bulbs} {x : Survey} (hs : ShipOk s) (hb : CheckBulbs b = 0) (hg : Good x) (hd : (density (b, x)).2 = 0) (he : (extremes x).2 = true)
include hg he in
theorem y_is : r_y s x = ySpan s x := by
  obtain ⟨e1, e2⟩ := six_is hg he
  unfold r_y ySpan; rw [e1]; rfl
include hs in
theorem y_bounds (h : void (ySpan s x) = false) : 16 * s.mean.knots.g 0 1 ≤ (ySpan s x).lo ∧ (ySpan s x).lo ≤ (ySpan s x).hi ∧ (ySpan s x).hi ≤ 16 * s.mean.knots.g (len s.mean.knots - 1) 1 := by
  have v := void_false.1 h
  have p := hs.mean.pos
  have a := hs.mean.y 0 p; have c := hs.mean.y (len s.mean.knots - 1) (by omega)
  refine ⟨?_, v, ?_⟩
  · unfold ySpan meet; simp only
    rw [w64_in (n := 16 * s.mean.knots.g 0 1) (by omega) (by omega)]; split <;> omega
  · unfold ySpan meet; simp only
    rw [w64_in (n := 16 * s.mean.knots.g (len s.mean.knots - 1) 1) (by omega) (by omega)]; split <;> omega
include hs in
theorem wheres (h : void (ySpan s x) = false) : (whOk s.mean (ySpan s x).lo = true ∧ RatioOk (whereOf s.mean (ySpan s x).lo) ∧ r_where s.mean (ySpan s x).lo = r_low (whereOf s.mean (ySpan s x).lo)) ∧
    (whOk s.mean (ySpan s x).hi = true ∧ RatioOk (whereOf s.mean (ySpan s x).hi) ∧ r_where s.mean (ySpan s x).hi = r_low (whereOf s.mean (ySpan s x).hi)) := by
  obtain ⟨a, b, c⟩ := y_bounds (x := x) hs h
  exact ⟨where_is hs.mean hs.rises a (by omega), where_is hs.mean hs.rises (by omega) c⟩
include hs hg he in
theorem volumes_is : r_volOk s x = true ∧ r_volumes s x = if void (ySpan s x) = true then (⟨⟨0, 0⟩, ⟨0, 0⟩⟩, false) else (⟨r_low (whereOf s.mean (ySpan s x).lo), r_low (whereOf s.mean (ySpan s x).hi)⟩, true) := by
  unfold r_volOk r_volumes
  rw [y_is hg he, six_ok hg, decide_eq_true hs.mean.pos]
  show (true && (true && (void (ySpan s x) || _))) = true ∧ (if void (ySpan s x) = true then _ else _) = _
  cases h : void (ySpan s x) with
  | true => exact ⟨rfl, rfl⟩
  | false =>
    obtain ⟨⟨a1, a2, a3⟩, b1, b2, b3⟩ := wheres (x := x) hs h
    rw [a1, b1, a3, b3]; exact ⟨rfl, rfl⟩
theorem den25 {f : Frac} (h : RatioOk f) : (!decide (IntKind.i64.wrap (25 * f.den) = 0)) = true := by
  obtain ⟨h1, h2, h3, h4⟩ := h
  rw [w64_in (by omega) (by omega), Bool.not_eq_true', decide_eq_false_iff_not]; omega
include hs hg he in
theorem massOk_is : massOk s x = true ∧ r_massOk s x = true := by
  obtain ⟨v1, v2⟩ := volumes_is hs hg he
  unfold massOk r_massOk volumes
  rw [v1, v2, decide_eq_true hs.mean.pos]
  cases h : void (ySpan s x) with
  | true => exact ⟨rfl, rfl⟩
  | false =>
    obtain ⟨⟨a1, a2, a3⟩, b1, b2, b3⟩ := wheres (x := x) hs h
    simp only [Bool.false_eq_true, if_false, Bool.not_true, Bool.false_or, Bool.true_and]
    rw [den25 a2, den25 b2, den25 (low_good a2), den25 (low_good b2)]; exact ⟨rfl, rfl⟩
theorem massOf_form : massOf s b x = if void (ySpan s x) = true then ⟨1, 0⟩ else meet ⟨massLo (whereOf s.mean (ySpan s x).lo) (density (b, x)).1.lo, massHi (whereOf s.mean (ySpan s x).hi) (density (b, x)).1.hi⟩ ⟨s.light, rooms s⟩ := by
  unfold massOf volumes massLo massHi
  cases h : void (ySpan s x) with
  | true => rfl
  | false => rfl
include hs hg he hb hd in
theorem mass_is : r_mass s b x = massOf s b x := by
  obtain ⟨v1, v2⟩ := volumes_is hs hg he
  obtain ⟨d1, d2, d3, d4⟩ := dens_ok hb hd
  rw [massOf_form]
  unfold r_mass
  rw [v2, d1]
  cases h : void (ySpan s x) with
  | true => rfl
  | false =>
    obtain ⟨⟨a1, a2, a3⟩, b1, b2, b3⟩ := wheres (x := x) hs h
    rw [← massLo_low a2 (by omega) (by omega), ← massHi_low b2 (by omega) (by omega)]
    unfold massLo massHi
    rw [Int.mul_comm (r_low (whereOf s.mean (ySpan s x).lo)).num, Int.mul_comm (r_low (whereOf s.mean (ySpan s x).hi)).num]
    rfl
end
end K
end Go.Proofs.Ytkajafmphemedaa
/-! KW1 -/
namespace Go.Proofs.Ytkajafmphemedaa
open Ev K
set_option maxRecDepth 100000
namespace K
theorem checked_ok {s : Ship} {b : Bulbs} {x : Survey} (h : checked (s, b, x) = 0) : ShipOk s ∧ CheckBulbs b = 0 ∧ Good x ∧ (density (b, x)).2 = 0 ∧ (extremes x).2 = true := by
  unfold checked at h
  obtain ⟨h1, h2⟩ := ite_err h
  exact ⟨ship_ok h1, Check_ok h2⟩
theorem ready_ok {s : Ship} {b : Bulbs} {x : Survey} (h : r_ready (s, b, x) = 0) : ShipOk s ∧ CheckBulbs b = 0 ∧ Good x ∧ (density (b, x)).2 = 0 ∧ (extremes x).2 = true := by
  rw [r_ready_is] at h; exact checked_ok h
theorem bne_zero {n : Int} (h : ¬ (n != 0) = true) : n = 0 := by simpa using h
end K
noncomputable def K.rVolumes (a : Ship × Bulbs × Survey) : Range × Int := if (r_ready a != 0) = true then (⟨⟨0, 0⟩, ⟨0, 0⟩⟩, r_ready a) else if (!(r_volumes a.1 a.2.2).2) = true then (⟨⟨0, 0⟩, ⟨0, 0⟩⟩, 9) else ((r_volumes a.1 a.2.2).1, 0)
theorem K.rVolumes_eq (a : Ship × Bulbs × Survey) : callT1 P BKN113 30 15 D_rrdy R_rVol a = some (rVolumes a) := by
  obtain ⟨s, b, x⟩ := a
  rw [fn_rVol]; unfold rVolumes
  refine br_step (fun _ => rfl) (fun h => ?_)
  obtain ⟨hs, hb, hg, hd, he⟩ := ready_ok (bne_zero h)
  exact chk_step (volumes_is hs hg he).1 (br_step (fun _ => rfl) (fun _ => rfl))
noncomputable def K.rMass (a : Ship × Bulbs × Survey) : Span × Int := if (r_ready a != 0) = true then (⟨0, 0⟩, r_ready a) else if r_none (r_mass a.1 a.2.1 a.2.2) = true then (⟨0, 0⟩, 9) else (r_mass a.1 a.2.1 a.2.2, 0)
theorem K.rMass_eq (a : Ship × Bulbs × Survey) : callT1 P BKN113 30 16 D_rrdy R_off a = some (rMass a) := by
  obtain ⟨s, b, x⟩ := a
  rw [fn_rMas]; unfold rMass
  refine br_step (fun _ => rfl) (fun h => ?_)
  obtain ⟨hs, hb, hg, hd, he⟩ := ready_ok (bne_zero h)
  exact chk_step (massOk_is hs hg he).2 (br_step (fun _ => rfl) (fun _ => rfl))
noncomputable def K.rPossible (a : Ship × Bulbs × Survey × Int) : Bool × Int := if (r_ready (a.1, a.2.1, a.2.2.1) != 0) = true then (false, r_ready (a.1, a.2.1, a.2.2.1)) else
  if decide (a.2.2.2 ≥ (r_mass a.1 a.2.1 a.2.2.1).lo) = true then (decide (a.2.2.2 ≤ (r_mass a.1 a.2.1 a.2.2.1).hi), 0) else (false, 0)
theorem K.rPossible_eq (a : Ship × Bulbs × Survey × Int) : callT1 P BKN113 30 18 D_rpos R_rpos a = some (rPossible a) := by
  obtain ⟨s, b, x, n⟩ := a
  rw [fn_rPos]; unfold rPossible
  refine br_step (fun _ => rfl) (fun h => ?_)
  obtain ⟨hs, hb, hg, hd, he⟩ := ready_ok (bne_zero h)
  exact chk_step (massOk_is hs hg he).2 (br_step (fun _ => rfl) (fun _ => rfl))
noncomputable def K.sVolumes (a : Ship × Bulbs × Survey) : Range × Int := if (checked a != 0) = true then (⟨⟨0, 0⟩, ⟨0, 0⟩⟩, checked a) else if (!(volumes a.1 a.2.2).2) = true then (⟨⟨0, 0⟩, ⟨0, 0⟩⟩, 9) else (⟨r_low (volumes a.1 a.2.2).1.1, r_low (volumes a.1 a.2.2).1.2⟩, 0)
theorem K.sVolumes_eq (a : Ship × Bulbs × Survey) : callT1 P BKN114 30 14 D_rrdy R_rVol a = some (sVolumes a) := by
  obtain ⟨s, b, x⟩ := a
  rw [fn_sVol]; unfold sVolumes
  refine br_step (fun _ => rfl) (fun h => ?_)
  obtain ⟨hs, hb, hg, hd, he⟩ := checked_ok (bne_zero h)
  refine chk_step (decide_eq_true hs.mean.pos) (br_step (fun _ => rfl) (fun hn => ?_))
  have hv : void (ySpan s x) = false := by
    cases hv : void (ySpan s x) with
    | false => rfl
    | true => exfalso; apply hn; show (!(volumes s x).2) = true; unfold volumes; rw [hv]; rfl
  obtain ⟨⟨a1, a2, a3⟩, b1, b2, b3⟩ := wheres (x := x) hs hv
  have e : volumes s x = ((whereOf s.mean (ySpan s x).lo, whereOf s.mean (ySpan s x).hi), true) := by unfold volumes; rw [hv]; rfl
  refine chk_step ?_ (chk_step ?_ rfl)
  · show lowOk (volumes s x).1.1 = true; rw [e]; exact low_ok a2
  · show lowOk (volumes s x).1.2 = true; rw [e]; exact low_ok b2
noncomputable def K.sMass (a : Ship × Bulbs × Survey) : Span × Int := if (checked a != 0) = true then (⟨0, 0⟩, checked a) else if void (massOf a.1 a.2.1 a.2.2) = true then (⟨0, 0⟩, 9) else (massOf a.1 a.2.1 a.2.2, 0)
theorem K.sMass_eq (a : Ship × Bulbs × Survey) : callT1 P BKN114 30 12 D_rrdy R_off a = some (sMass a) := by
  obtain ⟨s, b, x⟩ := a
  rw [fn_sMas]; unfold sMass
  refine br_step (fun _ => rfl) (fun h => ?_)
  obtain ⟨hs, hb, hg, hd, he⟩ := checked_ok (bne_zero h)
  exact chk_step (massOk_is hs hg he).1 (br_step (fun _ => rfl) (fun _ => rfl))
noncomputable def K.sPossible (a : Ship × Bulbs × Survey × Int) : Bool × Int := if (checked (a.1, a.2.1, a.2.2.1) != 0) = true then (false, checked (a.1, a.2.1, a.2.2.1)) else
  (within a.2.2.2 (massOf a.1 a.2.1 a.2.2.1).lo (massOf a.1 a.2.1 a.2.2.1).hi, 0)
theorem K.sPossible_eq (a : Ship × Bulbs × Survey × Int) : callT1 P BKN114 30 17 D_rpos R_rpos a = some (sPossible a) := by
  obtain ⟨s, b, x, n⟩ := a
  rw [fn_sPos]; unfold sPossible
  refine br_step (fun _ => rfl) (fun h => ?_)
  obtain ⟨hs, hb, hg, hd, he⟩ := checked_ok (bne_zero h)
  exact chk_step (massOk_is hs hg he).1 rfl
noncomputable def BKW11 : Tab := BKN114.addCall 15 (callE D_rrdy R_rVol (fun a => .ret (rVolumes a)))
theorem tKW11 : TabOk P BKW11 := TabOk.addPC tKN114 (fun a r h => by rw [← ret_some h]; exact call_of okP tKN113 (rVolumes_eq a))
noncomputable def BKW12 : Tab := BKW11.addCall 16 (callE D_rrdy R_off (fun a => .ret (rMass a)))
theorem tKW12 : TabOk P BKW12 := TabOk.addPC tKW11 (fun a r h => by rw [← ret_some h]; exact call_of okP tKN113 (rMass_eq a))
noncomputable def BKW13 : Tab := BKW12.addCall 18 (callE D_rpos R_rpos (fun a => .ret (rPossible a)))
theorem tKW13 : TabOk P BKW13 := TabOk.addPC tKW12 (fun a r h => by rw [← ret_some h]; exact call_of okP tKN113 (rPossible_eq a))
noncomputable def BKW14 : Tab := BKW13.addCall 14 (callE D_rrdy R_rVol (fun a => .ret (sVolumes a)))
theorem tKW14 : TabOk P BKW14 := TabOk.addPC tKW13 (fun a r h => by rw [← ret_some h]; exact call_of okP tKN114 (sVolumes_eq a))
noncomputable def BKW15 : Tab := BKW14.addCall 12 (callE D_rrdy R_off (fun a => .ret (sMass a)))
theorem tKW15 : TabOk P BKW15 := TabOk.addPC tKW14 (fun a r h => by rw [← ret_some h]; exact call_of okP tKN114 (sMass_eq a))
noncomputable def BKW16 : Tab := BKW15.addCall 17 (callE D_rpos R_rpos (fun a => .ret (sPossible a)))
theorem tKW16 : TabOk P BKW16 := TabOk.addPC tKW15 (fun a r h => by rw [← ret_some h]; exact call_of okP tKN114 (sPossible_eq a))
theorem K.rVolumes_is (a : Ship × Bulbs × Survey) : rVolumes a = sVolumes a := by
  obtain ⟨s, b, x⟩ := a
  unfold rVolumes sVolumes
  rw [r_ready_is]
  by_cases h : (checked (s, b, x) != 0) = true
  · rw [if_pos h, if_pos h]
  rw [if_neg h, if_neg h]
  obtain ⟨hs, hb, hg, hd, he⟩ := checked_ok (bne_zero h)
  simp only
  rw [(volumes_is hs hg he).2]
  unfold volumes
  cases void (ySpan s x) <;> rfl
theorem K.rMass_is (a : Ship × Bulbs × Survey) : rMass a = sMass a := by
  obtain ⟨s, b, x⟩ := a
  unfold rMass sMass
  rw [r_ready_is]
  by_cases h : (checked (s, b, x) != 0) = true
  · rw [if_pos h, if_pos h]
  rw [if_neg h, if_neg h]
  obtain ⟨hs, hb, hg, hd, he⟩ := checked_ok (bne_zero h)
  simp only
  rw [mass_is hs hb hg hd he]; rfl
theorem K.rPossible_is (a : Ship × Bulbs × Survey × Int) : rPossible a = sPossible a := by
  obtain ⟨s, b, x, n⟩ := a
  unfold rPossible sPossible
  rw [r_ready_is]
  simp only
  by_cases h : (checked (s, b, x) != 0) = true
  · rw [if_pos h, if_pos h]
  rw [if_neg h, if_neg h]
  obtain ⟨hs, hb, hg, hd, he⟩ := checked_ok (bne_zero h)
  rw [mass_is hs hb hg hd he]
  unfold within
  show (if decide ((massOf s b x).lo ≤ n) = true then _ else _) = _
  cases decide ((massOf s b x).lo ≤ n) <;> rfl
def D_lmass := DecL.cons dShip (.cons dBulbs (.cons dSurvey (.last (dI .i64) 0)))
theorem fn_lawMasses : ∀ a, (callT1 P BKW16 30 4 D_lmass dB) a = T.run (
  .br (!ship (Prod.fst a)) (
    .ret (true)) (
    .br (!few (Prod.fst (Prod.snd a))) (
      .ret (true)) (
      .br (Frac.num (Range.lo (Prod.fst (sVolumes (Prod.fst a, Prod.fst (Prod.snd a), Prod.fst (Prod.snd (Prod.snd a)))))) == Frac.num (Range.lo (Prod.fst (rVolumes (Prod.fst a, Prod.fst (Prod.snd a), Prod.fst (Prod.snd (Prod.snd a)))))) && Frac.den (Range.lo (Prod.fst (sVolumes (Prod.fst a, Prod.fst (Prod.snd a), Prod.fst (Prod.snd (Prod.snd a)))))) == Frac.den (Range.lo (Prod.fst (rVolumes (Prod.fst a, Prod.fst (Prod.snd a), Prod.fst (Prod.snd (Prod.snd a)))))) && (Frac.num (Range.hi (Prod.fst (sVolumes (Prod.fst a, Prod.fst (Prod.snd a), Prod.fst (Prod.snd (Prod.snd a)))))) == Frac.num (Range.hi (Prod.fst (rVolumes (Prod.fst a, Prod.fst (Prod.snd a), Prod.fst (Prod.snd (Prod.snd a)))))) && Frac.den (Range.hi (Prod.fst (sVolumes (Prod.fst a, Prod.fst (Prod.snd a), Prod.fst (Prod.snd (Prod.snd a)))))) == Frac.den (Range.hi (Prod.fst (rVolumes (Prod.fst a, Prod.fst (Prod.snd a), Prod.fst (Prod.snd (Prod.snd a)))))))) (
        .br (Prod.snd (sVolumes (Prod.fst a, Prod.fst (Prod.snd a), Prod.fst (Prod.snd (Prod.snd a)))) == Prod.snd (rVolumes (Prod.fst a, Prod.fst (Prod.snd a), Prod.fst (Prod.snd (Prod.snd a))))) (
          .br (Span.lo (Prod.fst (sMass (Prod.fst a, Prod.fst (Prod.snd a), Prod.fst (Prod.snd (Prod.snd a))))) == Span.lo (Prod.fst (rMass (Prod.fst a, Prod.fst (Prod.snd a), Prod.fst (Prod.snd (Prod.snd a))))) && Span.hi (Prod.fst (sMass (Prod.fst a, Prod.fst (Prod.snd a), Prod.fst (Prod.snd (Prod.snd a))))) == Span.hi (Prod.fst (rMass (Prod.fst a, Prod.fst (Prod.snd a), Prod.fst (Prod.snd (Prod.snd a)))))) (
            .br (Prod.snd (sMass (Prod.fst a, Prod.fst (Prod.snd a), Prod.fst (Prod.snd (Prod.snd a)))) == Prod.snd (rMass (Prod.fst a, Prod.fst (Prod.snd a), Prod.fst (Prod.snd (Prod.snd a))))) (
              .br (Prod.fst (sPossible a) == Prod.fst (rPossible a)) (
                .ret (Prod.snd (sPossible a) == Prod.snd (rPossible a))) (
                .ret (false))) (
              .ret (false))) (
            .ret (false))) (
          .ret (false))) (
        .ret (false))))) := fun a => by kernel_rfl
noncomputable def K.lawMasses (a : Ship × Bulbs × Survey × Int) : Bool := (if (!ship (Prod.fst a)) = true then true else (if (!few (Prod.fst (Prod.snd a))) = true then true else (if (Frac.num (Range.lo (Prod.fst (sVolumes (Prod.fst a, Prod.fst (Prod.snd a), Prod.fst (Prod.snd (Prod.snd a)))))) == Frac.num (Range.lo (Prod.fst (rVolumes (Prod.fst a, Prod.fst (Prod.snd a), Prod.fst (Prod.snd (Prod.snd a)))))) && Frac.den (Range.lo (Prod.fst (sVolumes (Prod.fst a, Prod.fst (Prod.snd a), Prod.fst (Prod.snd (Prod.snd a)))))) == Frac.den (Range.lo (Prod.fst (rVolumes (Prod.fst a, Prod.fst (Prod.snd a), Prod.fst (Prod.snd (Prod.snd a)))))) && (Frac.num (Range.hi (Prod.fst (sVolumes (Prod.fst a, Prod.fst (Prod.snd a), Prod.fst (Prod.snd (Prod.snd a)))))) == Frac.num (Range.hi (Prod.fst (rVolumes (Prod.fst a, Prod.fst (Prod.snd a), Prod.fst (Prod.snd (Prod.snd a)))))) && Frac.den (Range.hi (Prod.fst (sVolumes (Prod.fst a, Prod.fst (Prod.snd a), Prod.fst (Prod.snd (Prod.snd a)))))) == Frac.den (Range.hi (Prod.fst (rVolumes (Prod.fst a, Prod.fst (Prod.snd a), Prod.fst (Prod.snd (Prod.snd a)))))))) = true then (if (Prod.snd (sVolumes (Prod.fst a, Prod.fst (Prod.snd a), Prod.fst (Prod.snd (Prod.snd a)))) == Prod.snd (rVolumes (Prod.fst a, Prod.fst (Prod.snd a), Prod.fst (Prod.snd (Prod.snd a))))) = true then (if (Span.lo (Prod.fst (sMass (Prod.fst a, Prod.fst (Prod.snd a), Prod.fst (Prod.snd (Prod.snd a))))) == Span.lo (Prod.fst (rMass (Prod.fst a, Prod.fst (Prod.snd a), Prod.fst (Prod.snd (Prod.snd a))))) && Span.hi (Prod.fst (sMass (Prod.fst a, Prod.fst (Prod.snd a), Prod.fst (Prod.snd (Prod.snd a))))) == Span.hi (Prod.fst (rMass (Prod.fst a, Prod.fst (Prod.snd a), Prod.fst (Prod.snd (Prod.snd a)))))) = true then (if (Prod.snd (sMass (Prod.fst a, Prod.fst (Prod.snd a), Prod.fst (Prod.snd (Prod.snd a)))) == Prod.snd (rMass (Prod.fst a, Prod.fst (Prod.snd a), Prod.fst (Prod.snd (Prod.snd a))))) = true then (if (Prod.fst (sPossible a) == Prod.fst (rPossible a)) = true then Prod.snd (sPossible a) == Prod.snd (rPossible a) else false) else false) else false) else false) else false)))
theorem eq_lawMasses (a : Ship × Bulbs × Survey × Int) : (callT1 P BKW16 30 4 D_lmass dB) a = some (K.lawMasses a) := (fn_lawMasses a).trans (T.br_some rfl (T.br_some rfl (T.br_some (T.br_some (T.br_some (T.br_some (T.br_some rfl rfl) rfl) rfl) rfl) rfl)))
noncomputable def BKW17 : Tab := BKW16.addCall 4 (callE D_lmass dB (fun a => .ret (K.lawMasses a)))
theorem tKW17 : TabOk P BKW17 := TabOk.addFn (d := 30) okP tKW16 (fun a r h => by rw [eq_lawMasses]; exact congrArg some (ret_some h))
theorem K.lawMasses_true (a : Ship × Bulbs × Survey × Int) : lawMasses a = true := by
  unfold lawMasses
  simp only [rVolumes_is, rMass_is, rPossible_is, BEq.rfl, Bool.and_self, if_true, ite_self]
end Go.Proofs.Ytkajafmphemedaa
/-! KZMasses -/
namespace Go.Proofs.Ytkajafmphemedaa
open Ev K
open Go.ChangeShapes Go.WideShapes Go.RowKit
set_option maxRecDepth 100000
theorem law_pc (a) : PC P 4 (D_lmass.enc a) (.bool true) := by
  have h := eq_lawMasses a
  rw [lawMasses_true] at h
  exact call_of okP tKW16 h
theorem ownP : ownKnob P.godebug = none := by kernel_rfl
theorem laidP : laidOutB P = true := by kernel_rfl
theorem ub : P.underlying 4 = some .bool := by kernel_rfl
theorem surveyMasses_lifted (os : Os) (started : os.Started) (H : Type) (enc : TypeId × Value → H) :
    ReturnsInHanded {} Try.checked os 4 .any (Rows.surveyMassesSpec.pre6 enc Try.prog Try.f4 Rows.surveyMassesRow.domain false) (Rows.surveyMassesSpec.post enc Try.prog Try.f4 false true false false) := by
  refine returnsInHanded_of_change (C := Try.checked) ownP started (by kernel_rfl) Try.func4
    (ChangeSpec.witness6 (enc := enc) (C := Try.checked) false ⟨#[], #[.agg #[.int .i64 0, .int .i64 0, .int .i64 0, .int .i64 0, .slice none 0 0, .slice none 0 0, .int .i64 0, .slice none 0 0, .int .i64 0, .int .i64 0, .int .i64 0], .agg #[.slice none 0 0, .slice none 0 0], .agg (Array.replicate 18 (.int .i64 0)), .int .i64 0], []⟩ 8 (by kernel_rfl) (by kernel_rfl) (by kernel_rfl) (by kernel_rfl)) ?_
  intro W base args ds gs before hval hW _ _
  refine law_contract (P := Try.prog) D_lmass laidP (by kernel_rfl) rfl (fun ds hd => ?_) (fun W' b sp hd => trodAll_mk1 (shut_bool ub true)) (fun W' => ok_one (by kernel_rfl) rfl (okWide_bool_mk ub true)) (fun W base args ds p hval hA => ?_) law_pc W base args ds gs before hval hW
  · rw [Try.params4] at hd
    match ds, hd with
    | [a, b, c, d], _ => rfl
  · rw [Try.params4] at hA hval
    obtain ⟨v0, vs0, d0, ds0, p0, q0, e0, _, _, h0, r0⟩ := trodAll_cons hA
    obtain ⟨v1, vs1, d1, ds1, p1, q1, e1, _, _, h1, r1⟩ := trodAll_cons r0
    obtain ⟨v2, vs2, d2, ds2, p2, q2, e2, _, _, h2, r2⟩ := trodAll_cons r1
    obtain ⟨v3, vs3, d3, ds3, p3, q3, e3, _, _, h3, r3⟩ := trodAll_cons r2
    obtain ⟨e4, _, _⟩ := trodAll_nil r3
    subst e4; subst e3; subst e2; subst e1
    have ha : args = #[v0, v1, v2, v3] := by apply Array.ext'; exact e0
    subst ha
    exact rdL_cons (rp_ship (hval 0 _ v0 rfl rfl) h0) (rdL_cons (rp_bulbs (hval 1 _ v1 rfl rfl) h1) (rdL_cons (rp_survey (hval 2 _ v2 rfl rfl) h2) (rdL_last (rp_int (hval 3 _ v3 rfl rfl) h3))))
theorem surveyMasses_holds : Rows.SurveyMassesSaid :=
  OpenClaim.holds_of_wide 4 Try.f4 rfl rfl rfl rfl rfl rfl rfl ⟨rfl, rfl, rfl, rfl, rfl⟩ rfl rfl rfl rfl rfl (by kernel_rfl) Try.func4 (by kernel_rfl)
    (of_decide_eq_true (by kernel_rfl)) (by unfold Func.isWrapper; rw [if_neg (of_decide_eq_false (by kernel_rfl))]; exact ⟨rfl, rfl⟩)
    (fun os started H enc _ => surveyMasses_lifted os started H enc)
#print axioms surveyMasses_holds
end Go.Proofs.Ytkajafmphemedaa
