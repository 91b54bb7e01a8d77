/- What small functions return, and laws of loops. No conditions. -/
import Derived.Test.YtkajafmphemedaaKD
namespace Go.Proofs.Ytkajafmphemedaa
open Ev
namespace K

theorem w64_in {n : Int} (h1 : -9223372036854775808 ≤ n) (h2 : n ≤ 9223372036854775807) : IntKind.wrap IntKind.i64 n = n := by
  show IntKind.wrap IntKind.i64 n = n
  unfold IntKind.wrap
  simp [IntKind.bits, IntKind.signed]
  omega
def within (n lo hi : Int) : Bool := decide (lo ≤ n) && decide (n ≤ hi)
def spans (s : Span) (lo hi : Int) : Bool := decide (lo ≤ s.lo) && (decide (s.lo ≤ s.hi) && decide (s.hi ≤ hi))
def meet (a b : Span) : Span := ⟨if b.lo > a.lo then b.lo else a.lo, if b.hi < a.hi then b.hi else a.hi⟩
def void (s : Span) : Bool := decide (s.lo > s.hi)
def both (a b : Span) : Span := ⟨IntKind.i64.wrap (a.lo + b.lo), IntKind.i64.wrap (a.hi + b.hi)⟩
def half (n : Int) : Int := IntKind.i64.wrap (Int.tdiv (IntKind.i64.wrap (n - Int.tmod (IntKind.i64.wrap (Int.tmod n 2 + 2)) 2)) 2)
def sums16 (s : Sums) : Int := IntKind.i64.wrap (s.ends + IntKind.i64.wrap (6 * s.middle))
def toldOf (g : Glass) : GlassE := ⟨g, ⟨IntKind.i64.wrap (g.shown.lo - g.dense), IntKind.i64.wrap (g.shown.hi - g.dense)⟩⟩
def rise (p : Piece) : Int := IntKind.i64.wrap (p.q.y - p.p.y)
end K
/-- A number in a row. -/
def Ev.XS.g (x : XS) (i k : Nat) : Int := numOf (x.f (x.row + i) k)
namespace K
def len (x : XS) : Nat := clampL x.len
theorem len_le (x : XS) : len x ≤ 9223372036854775807 := clampL_le _
theorem len_le' (x : XS) : len x ≤ x.len := clampL_le' _
def hyd (x : XS) (i : Nat) : Hydro := ⟨x.g i 0, ⟨x.g i 1, x.g i 2⟩⟩
def gls (x : XS) (i : Nat) : Glass := ⟨x.g i 0, x.g i 1, x.g i 2, ⟨x.g i 3, x.g i 4⟩⟩
def knt (x : XS) (i : Nat) : Knot := ⟨x.g i 0, x.g i 1⟩
def svy (x : XS) (i : Nat) : Survey := ⟨x.g i 0, x.g i 1, ⟨x.g i 2, x.g i 3⟩, ⟨x.g i 4, x.g i 5⟩, ⟨x.g i 6, x.g i 7⟩, ⟨x.g i 8, x.g i 9⟩, ⟨x.g i 10, x.g i 11⟩, ⟨x.g i 12, x.g i 13⟩, x.g i 14, x.g i 15, ⟨x.g i 16, x.g i 17⟩⟩
def hld (x : XS) (i : Nat) : Hold := ⟨x.g i 0, x.g i 1, x.g i 2, x.g i 3⟩
/-- The glasses of a hydrometer. -/
def glassesL (b : Bulbs) (h : Int) : List GlassE := ((List.range (len b.glasses)).filter fun i => (gls b.glasses i).hydro == h).map fun i => toldOf (gls b.glasses i)
/-- The errors that a hydrometer can have, but for a glass. -/
def errs (b : Bulbs) (h : Hydro) (but : Int) : Span := (glassesL b h.id).foldl (fun c g => if g.g.id != but then meet c g.errors else c) h.off
/-- The pieces of a curve. -/
def piecesL (c : Curve) : List (Int × Piece) := (List.range (len c.knots - 1)).map fun (i : Nat) => ((i : Int), ⟨knt c.knots i, knt c.knots (i + 1)⟩)
/-- The first number below n with a property. -/
def first (p : Nat → Bool) (n : Nat) : Option Nat := (List.range n).find? p
def idx (p : Nat → Bool) (n : Nat) : Int := match first p n with
  | some i => i
  | none => -1
def found {α : Type} (at_ : Nat → α) (zero : α) (p : Nat → Bool) (n : Nat) : α × Int := match first p n with
  | some i => (at_ i, i)
  | none => (zero, -1)
theorem first_none {p : Nat → Bool} {n : Nat} (h : ∀ i, i < n → p i = false) : first p n = none := by
  unfold first; rw [List.find?_eq_none]; intro x hx; have := h x (List.mem_range.1 hx); simp [this]
theorem first_some {p : Nat → Bool} {n i : Nat} (hi : i < n) (hp : p i = true) (h : ∀ j, j < i → p j = false) : first p n = some i := by
  unfold first
  rw [List.find?_range_eq_some]
  exact ⟨hp, List.mem_range.2 hi, fun j hj => by simp [h j hj]⟩
theorem first_spec {p : Nat → Bool} {n i : Nat} (h : first p n = some i) : i < n ∧ p i = true ∧ ∀ j, j < i → p j = false := by
  unfold first at h
  rw [List.find?_range_eq_some] at h
  exact ⟨List.mem_range.1 h.2.1, h.1, fun j hj => by simpa using h.2.2 j hj⟩
theorem first_none' {p : Nat → Bool} {n : Nat} (h : first p n = none) : ∀ i, i < n → p i = false := by
  unfold first at h; rw [List.find?_eq_none] at h; intro i hi; simpa using h i (List.mem_range.2 hi)
end K
theorem obs_ret {ρ : Type} {o : Option ρ} {r : ρ} (h : (T.obs o T.ret).run = some r) : o = some r := by
  cases o with
  | none => simp [T.run] at h
  | some x => simpa [T.run] using h
theorem br_step {ρ : Type} {b : Bool} {t e : T ρ} {x y : ρ} (h1 : b = true → t.run = some x) (h2 : ¬ b = true → e.run = some y) : (T.br b t e).run = some (if b = true then x else y) := by
  cases b with
  | true => exact h1 rfl
  | false => exact h2 (by simp)
theorem chk_step {ρ : Type} {g : Bool} {t : T ρ} {r : Option ρ} (h1 : g = true) (h2 : t.run = r) : (T.chk g t).run = r := by subst h1; exact h2
theorem chk_ret {ρ : Type} {g : Bool} {x r : ρ} (h : (T.chk g (.ret x)).run = some r) : g = true ∧ x = r := by
  cases g with
  | true => exact ⟨rfl, by simpa [T.run] using h⟩
  | false => simp [T.run] at h
theorem ret_some {ρ : Type} {x r : ρ} (h : (T.ret x).run = some r) : x = r := by simpa [T.run] using h
/-- What comes of something that may not be there. -/
def K.orr {ε α : Type} (f : ε → α) (z : α) : Option ε → α
  | some x => f x
  | none => z
section
variable {σ ρ : Type} {step : σ → Option (σ ⊕ ρ)}
theorem lim_until (S : Nat → σ) : ∀ (n k : Nat), (∀ i, k ≤ i → i < k + n → step (S i) = some (.inl (S (i + 1)))) → lim step (S k) = lim step (S (k + n))
  | 0, _, _ => rfl
  | n + 1, k, h => by
    rw [lim_step (h k (Nat.le_refl _) (by omega)), lim_until S n (k + 1) (fun i h1 h2 => h i (by omega) (by omega))]
    congr 2; omega
/-- A search. -/
theorem lim_find (S : Nat → σ) (n : Nat) (p : Nat → Bool) (hit : Nat → ρ) (miss : ρ) (h1 : ∀ i, i < n → p i = true → step (S i) = some (.inr (hit i)))
    (h2 : ∀ i, i < n → p i = false → step (S i) = some (.inl (S (i + 1)))) (h3 : step (S n) = some (.inr miss)) : lim step (S 0) = some (match K.first p n with | some i => hit i | none => miss) := by
  cases hf : K.first p n with
  | none =>
    have := K.first_none' hf
    have e := lim_until S n 0 (fun i _ hi => h2 i (by omega) (this i (by omega)))
    rw [e, Nat.zero_add]; exact lim_done h3
  | some i =>
    obtain ⟨g1, g2, g3⟩ := K.first_spec hf
    have e := lim_until S i 0 (fun j _ hj => h2 j (by omega) (g3 j (by omega)))
    rw [e, Nat.zero_add]; exact lim_done (h1 i g1 g2)
section
variable (S : Nat → List (List AV × Bool) → σ) {n : Nat} (p : Nat → Bool) (e : Nat → List AV) {bs : Nat → Bool} (stop fin : List (List AV × Bool) → ρ)
  (h1 : ∀ i, i < n → ∀ out, p i = false → step (S i out) = some (.inl (S (i + 1) out)))
  (h2 : ∀ i, i < n → ∀ out, p i = true → bs out.length = true → step (S i out) = some (.inl (S (i + 1) ((e i, true) :: out))))
  (h3 : ∀ i, i < n → ∀ out, p i = true → bs out.length = false → step (S i out) = some (.inr (stop ((e i, false) :: out))))
  (h4 : ∀ out, step (S n out) = some (.inr (fin out)))
include h1 h2 h4
theorem lim_yields_all (hb : ∀ k, bs k = true) : ∀ k i out, i + k = n → lim step (S i out) = some (fin ((((List.range' i k).filter p).map fun i => (e i, true)).reverse ++ out))
  | 0, i, out, h => by
    have : i = n := by omega
    subst this; simp; exact lim_done (h4 out)
  | k + 1, i, out, h => by
    rw [List.range'_succ]
    cases hp : p i with
    | false => rw [lim_step (h1 i (by omega) out hp), lim_yields_all hb k (i + 1) out (by omega)]; simp [hp]
    | true => rw [lim_step (h2 i (by omega) out hp (hb _)), lim_yields_all hb k (i + 1) _ (by omega)]; simp [hp]
include h3
omit h4 in
theorem lim_yields_stop {m : Nat} {x : List AV} (hb : ∀ k, bs k = !(Nat.beq k m)) : ∀ k i out, i + k = n → out.length ≤ m → (((List.range' i k).filter p).map e)[m - out.length]? = some x →
    lim step (S i out) = some (stop ((x, false) :: (((((List.range' i k).filter p).map e).take (m - out.length)).map fun x => (x, true)).reverse ++ out))
  | 0, i, out, h, _, hx => by simp at hx
  | k + 1, i, out, h, hm, hx => by
    rw [List.range'_succ] at hx ⊢
    cases hp : p i with
    | false =>
      rw [lim_step (h1 i (by omega) out hp)]
      simp only [List.filter_cons, hp] at hx ⊢
      exact lim_yields_stop hb k (i + 1) out (by omega) hm (by simpa using hx)
    | true =>
      simp only [List.filter_cons, hp, if_true, List.map_cons] at hx ⊢
      by_cases hml : out.length = m
      · have hbf : bs out.length = false := by rw [hb, hml]; simp
        rw [lim_done (h3 i (by omega) out hp hbf)]
        rw [show m - out.length = 0 by omega] at hx ⊢
        simp at hx; subst hx; simp
      · have hbt : bs out.length = true := by rw [hb]; cases h : Nat.beq out.length m with
          | false => rfl
          | true => exact absurd (Nat.eq_of_beq_eq_true h) hml
        rw [lim_step (h2 i (by omega) out hp hbt)]
        have e1 : m - out.length = (m - (((e i, true) :: out).length)) + 1 := by simp; omega
        rw [e1] at hx ⊢
        rw [lim_yields_stop hb k (i + 1) _ (by omega) (by simp; omega) (by simpa using hx)]
        simp
end
theorem foldS_total {β : Type} {step : σ → β → Option (σ ⊕ ρ)} {f : σ → β → σ} (h : ∀ s x, step s x = some (.inl (f s x))) : ∀ (L : List β) (s : σ), foldS step L s = some (.inl (L.foldl f s))
  | [], s => rfl
  | x :: L, s => by simp only [foldS, h, List.foldl_cons]; exact foldS_total h L _
/-- A loop that looks for the first error. -/
theorem lim_err {ε : Type} (S : Nat → σ) (n : Nat) (e : Nat → Option ε) (hit : ε → ρ) (miss : ρ) (h : ∀ i, i < n → step (S i) = some (K.orr (fun x => .inr (hit x)) (.inl (S (i + 1))) (e i)))
    (h3 : step (S n) = some (.inr miss)) : lim step (S 0) = some (K.orr hit miss ((List.range n).findSome? e)) := by
  have key : ∀ k i, i + k = n → lim step (S i) = some (K.orr hit miss ((List.range' i k).findSome? e)) := by
    intro k
    induction k with
    | zero => intro i hi; have : i = n := by omega
              subst this; exact lim_done h3
    | succ k ih =>
      intro i hi
      have := h i (by omega)
      rw [List.range'_succ, List.findSome?_cons]
      cases he : e i with
      | some x => rw [he] at this; exact lim_done this
      | none => rw [he] at this; rw [lim_step this]; exact ih (i + 1) (by omega)
  rw [List.range_eq_range']; exact key n 0 (by omega)
/-- A loop that adds something up. -/
theorem lim_fold {α : Type} (S : Nat → α → σ) (n : Nat) (f : α → Nat → α) (fin : α → ρ) (h : ∀ i, i < n → ∀ a, step (S i a) = some (.inl (S (i + 1) (f a i)))) (h2 : ∀ a, step (S n a) = some (.inr (fin a))) (a : α) :
    lim step (S 0 a) = some (fin ((List.range n).foldl f a)) := by
  have key : ∀ k i a, i + k = n → lim step (S i a) = some (fin ((List.range' i k).foldl f a)) := by
    intro k
    induction k with
    | zero => intro i a hi; have : i = n := by omega
              subst this; exact lim_done (h2 a)
    | succ k ih => intro i a hi; rw [lim_step (h i (by omega) a), List.range'_succ, List.foldl_cons]; exact ih (i + 1) _ (by omega)
  rw [List.range_eq_range']; exact key n 0 a (by omega)
/-- A loop over 0 .. n-1 without a way out. -/
theorem lim_all (S : Nat → σ) (n : Nat) {r : ρ} (h : ∀ i, i < n → step (S i) = some (.inl (S (i + 1)))) (h2 : step (S n) = some (.inr r)) : lim step (S 0) = some r := by
  have e := lim_until S n 0 (fun i _ hi => h i (by omega))
  rw [e, Nat.zero_add]; exact lim_done h2
end
end Go.Proofs.Ytkajafmphemedaa
