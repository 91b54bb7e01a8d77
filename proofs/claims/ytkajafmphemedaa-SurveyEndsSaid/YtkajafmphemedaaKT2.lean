/- The law of the ends holds, in plain Lean. No conditions. -/
import Derived.Test.YtkajafmphemedaaKT
namespace Go.Proofs.Ytkajafmphemedaa
open Ev K
set_option maxRecDepth 100000
namespace K
theorem sums16_eq {l : Sums} (h : -1000000 ≤ l.ends ∧ l.ends ≤ 1000000 ∧ -1000000 ≤ l.middle ∧ l.middle ≤ 1000000) : sums16 l = l.ends + 6 * l.middle := by
  unfold sums16; rw [w64_in (n := 6 * l.middle) (by omega) (by omega), w64_in (n := l.ends + 6 * l.middle) (by omega) (by omega)]
theorem between {x : Survey} (g : Good x) {l : Sums × Sums} (eo : EndsOk x l) {n : Int × Int × Int × Int × Int × Int} (hd : Draughts x n) : sums16 l.1 ≤ lsix n ∧ lsix n ≤ sums16 l.2 := by
  have hl := lsix_eq g hd
  obtain ⟨l0, l1⟩ := l
  obtain ⟨a0, a1, b0, b1, c0, c1, al⟩ := eo
  obtain ⟨h1, h2, h3, h4⟩ := g.m0; obtain ⟨k1, k2, k3, k4⟩ := g.m1
  obtain ⟨p1, p2, p3, p4⟩ := g.m2; obtain ⟨q1, q2, q3, q4⟩ := g.m3
  obtain ⟨i1, i2, i3, i4⟩ := g.m4; obtain ⟨j1, j2, j3, j4⟩ := g.m5
  obtain ⟨t0, t1, t2, t3, t4, t5, t6, t7⟩ := hd
  simp only at a0 a1 b0 b1 al
  have al' := al (n.2.2.1 + n.2.2.2.1) (n.1 + n.2.1 + n.2.2.2.2.1 + n.2.2.2.2.2) (by omega) (by omega) (by omega) (by omega) (by omega) (by omega)
  rw [hl, sums16_eq (l := l0) (by omega), sums16_eq (l := l1) (by omega)]
  exact ⟨by omega, by omega⟩
theorem lawEnds_true (a : Bulbs × Survey × Int × Int × Int × Int × Int × Int) : lawEnds a = true := by
  obtain ⟨b, x, n⟩ := a
  by_cases hc : Check (b, x) = 0
  · obtain ⟨_, g, _, he⟩ := Check_ok hc
    have eo := extremes_ok g he
    have hS : Sixteen (b, x) = (⟨sums16 (extremes x).1.1, sums16 (extremes x).1.2⟩, 0) := by unfold Sixteen; rw [if_neg (by rw [hc]; decide)]
    have hE : K.Ends (b, x) = (marks (x, (extremes x).1.1), marks (x, (extremes x).1.2), 0) := by
      have : K.Ends (b, x) = if (Check (b, x) != 0) = true then ((0, 0, 0, 0, 0, 0), (0, 0, 0, 0, 0, 0), Check (b, x)) else (marks (x, (extremes x).1.1), marks (x, (extremes x).1.2), 0) := by unfold K.Ends; rfl
      rw [this, if_neg (by rw [hc]; decide)]
    obtain ⟨d0, s0⟩ := marks_ok g eo.b0 eo.a0 eo.c0
    obtain ⟨d1, s1⟩ := marks_ok g eo.b1 eo.a1 eo.c1
    have hb0 := (bends_iff g _).2 d0
    have hb1 := (bends_iff g _).2 d1
    have hbt : ∀ n, Bends (x, n) = true → sums16 (extremes x).1.1 ≤ lsix n ∧ lsix n ≤ sums16 (extremes x).1.2 := fun n h => between g eo ((bends_iff g n).1 h)
    unfold lawEnds
    simp only [hS, hE]
    generalize sums16 (extremes x).1.1 = A at *
    generalize sums16 (extremes x).1.2 = B at *
    generalize marks (x, (extremes x).1.1) = M0 at *
    generalize marks (x, (extremes x).1.2) = M1 at *
    simp only [hb0, hb1, s0, s1]
    cases few b with
    | false => rfl
    | true =>
      cases hb : Bends (x, n) with
      | false => simp
      | true =>
        obtain ⟨r0, r1⟩ := hbt n hb
        simp [r0, r1]
  · have hS : (Sixteen (b, x)).2 = Check (b, x) := by unfold Sixteen; rw [if_pos (by simpa using hc)]
    have hE : (K.Ends (b, x)).2.2 = Check (b, x) := by unfold K.Ends; rw [if_pos (by simpa using hc)]
    unfold lawEnds
    simp only [hS, hE]
    generalize Check (b, x) = C at *
    cases few b with
    | false => rfl
    | true => simp [hc]
end K
end Go.Proofs.Ytkajafmphemedaa
