/- Plain laws of surveys: what a valid survey is, and the ends of its draughts. No conditions. -/
import Derived.Test.YtkajafmphemedaaKQ
namespace Go.Proofs.Ytkajafmphemedaa
open Ev K
set_option maxRecDepth 100000
namespace K
theorem ite_ok {c : Bool} {t u : Int} (hu : u ≠ 0) (h : (if c = true then t else u) = 0) : c = true ∧ t = 0 := by
  cases c with
  | true => exact ⟨rfl, h⟩
  | false => simp at h; exact absurd h hu
theorem ite_no {c : Bool} {t u : Int} (hu : u ≠ 0) (h : (if c = true then u else t) = 0) : c = false ∧ t = 0 := by
  cases c with
  | true => simp at h; exact absurd h hu
  | false => exact ⟨rfl, by simpa using h⟩
theorem ite_err {e t : Int} (h : (if (e != 0) = true then e else t) = 0) : e = 0 ∧ t = 0 := by
  by_cases h0 : e = 0
  · subst h0; simpa using h
  · simp [h0] at h
theorem within_iff {n lo hi : Int} : within n lo hi = true ↔ lo ≤ n ∧ n ≤ hi := by unfold within; simp
theorem spans_iff {s : Span} {lo hi : Int} : spans s lo hi = true ↔ lo ≤ s.lo ∧ s.lo ≤ s.hi ∧ s.hi ≤ hi := by unfold spans; simp
theorem void_false {s : Span} : void s = false ↔ s.lo ≤ s.hi := by unfold void; simp
theorem void_true {s : Span} : void s = true ↔ s.hi < s.lo := by unfold void; simp
structure MarkOk (s : Span) : Prop where
  lo : 0 ≤ s.lo
  le : s.lo ≤ s.hi
  hi : s.hi ≤ 65536
  w : s.hi - s.lo < 400
structure Good (x : Survey) : Prop where
  id : 1 ≤ x.id ∧ x.id ≤ 1099511627776
  tick : 0 ≤ x.tick ∧ x.tick ≤ 1048576
  sag : 0 ≤ x.sag ∧ x.sag ≤ 200
  shown : 0 ≤ x.shown.lo ∧ x.shown.lo ≤ x.shown.hi ∧ x.shown.hi ≤ 2000
  m0 : MarkOk x.m0
  m1 : MarkOk x.m1
  m2 : MarkOk x.m2
  m3 : MarkOk x.m3
  m4 : MarkOk x.m4
  m5 : MarkOk x.m5
theorem mark_ok {s : Span} (h1 : spans s 0 65536 = true) (h2 : IntKind.wrap IntKind.i64 (s.hi - s.lo) < 400) : MarkOk s := by
  obtain ⟨a, b, c⟩ := spans_iff.1 h1
  rw [w64_in (by omega) (by omega)] at h2
  exact ⟨a, b, c, h2⟩
/-- What a survey without an error is. -/
theorem check_ok {b : Bulbs} {x : Survey} (h : check (b, x) = 0) : Good x ∧ (density (b, x)).2 = 0 ∧ (extremes x).2 = true := by
  unfold check at h
  obtain ⟨h1, h⟩ := ite_ok (by decide) h
  obtain ⟨h2, h⟩ := ite_ok (by decide) h
  obtain ⟨h3, h⟩ := ite_ok (by decide) h
  obtain ⟨h4, h⟩ := ite_ok (by decide) h
  obtain ⟨a0, h⟩ := ite_ok (by decide) h
  obtain ⟨b0, h⟩ := ite_ok (by decide) h
  obtain ⟨a1, h⟩ := ite_ok (by decide) h
  obtain ⟨b1, h⟩ := ite_ok (by decide) h
  obtain ⟨a2, h⟩ := ite_ok (by decide) h
  obtain ⟨b2, h⟩ := ite_ok (by decide) h
  obtain ⟨a3, h⟩ := ite_ok (by decide) h
  obtain ⟨b3, h⟩ := ite_ok (by decide) h
  obtain ⟨a4, h⟩ := ite_ok (by decide) h
  obtain ⟨b4, h⟩ := ite_ok (by decide) h
  obtain ⟨a5, h⟩ := ite_ok (by decide) h
  obtain ⟨b5, h⟩ := ite_no (by decide) h
  obtain ⟨d, h⟩ := ite_err h
  obtain ⟨e, _⟩ := ite_no (by decide) h
  refine ⟨⟨within_iff.1 h1, within_iff.1 h2, within_iff.1 h3, spans_iff.1 h4, mark_ok a0 (by simpa using b0), mark_ok a1 (by simpa using b1), mark_ok a2 (by simpa using b2), mark_ok a3 (by simpa using b3), mark_ok a4 (by simpa using b4), mark_ok a5 (by simpa using b5)⟩, d, by simpa using e⟩
theorem Check_ok {b : Bulbs} {x : Survey} (h : Check (b, x) = 0) : CheckBulbs b = 0 ∧ Good x ∧ (density (b, x)).2 = 0 ∧ (extremes x).2 = true := by
  unfold Check at h
  obtain ⟨h1, h⟩ := ite_err h
  exact ⟨h1, check_ok h⟩
theorem tmod_two (n : Int) : Int.tmod n 2 = if 0 ≤ n then n % 2 else -((-n) % 2) := by
  split
  · rename_i h; rw [Int.tmod_eq_emod_of_nonneg h]
  · rename_i h
    have : n = -(-n) := by omega
    rw [this, Int.neg_tmod, Int.tmod_eq_emod_of_nonneg (by omega)]
    simp
theorem half_eq {n : Int} (h1 : -4611686018427387904 ≤ n) (h2 : n ≤ 4611686018427387904) : half n = n / 2 := by
  unfold half
  have ht := tmod_two n
  have hb : -1 ≤ Int.tmod n 2 ∧ Int.tmod n 2 ≤ 1 := by rw [ht]; split <;> omega
  rw [w64_in (n := Int.tmod n 2 + 2) (by omega) (by omega)]
  have e1 : Int.tmod (Int.tmod n 2 + 2) 2 = n % 2 := by
    rw [Int.tmod_eq_emod_of_nonneg (by omega), ht]; split <;> omega
  rw [e1, w64_in (n := n - n % 2) (by omega) (by omega)]
  have e2 : n - n % 2 = 2 * (n / 2) := by omega
  rw [e2, Int.mul_comm, Int.mul_tdiv_cancel _ (by decide), w64_in (by omega) (by omega)]
end K
end Go.Proofs.Ytkajafmphemedaa
