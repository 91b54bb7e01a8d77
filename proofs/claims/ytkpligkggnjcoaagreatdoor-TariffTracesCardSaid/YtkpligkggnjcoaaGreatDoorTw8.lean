/- Parts of the proof, one behind the other: TP1, TG0, TP2, TP3, TG1, TRr. No conditions. -/
import Derived.Test.YtkpligkggnjcoaaGreatDoorTw7
/-! TP1 -/
namespace Go.Proofs.YtkpligkggnjcoaaGreatDoor
open Ev K
set_option maxRecDepth 100000
namespace K
@[ext] structure Trm where (per pay above upto : Int)
  deriving DecidableEq, Inhabited
@[ext] structure Rul where
  kind : Int
  due : List UInt8
  grades : List (List UInt8)
  terms : List Trm
  n : Int
  d : Int
  way : Int
  deriving DecidableEq, Inhabited
def smallB (b : UInt8) : Bool := decide (97 ≤ b.toNat ∧ b.toNat ≤ 122)
def digitB (b : UInt8) : Bool := decide (48 ≤ b.toNat ∧ b.toNat ≤ 57)
def plainB (b : UInt8) : Bool := smallB b || digitB b
def words : List Str := [[100, 117, 101], [111, 102], [102, 108, 97, 116], [112, 101, 114], [112, 97, 121], [97, 98, 111, 118, 101], [117, 112, 116, 111], [114, 101, 98, 97, 116, 101], [105, 110], [108, 101, 97, 115, 116], [109, 111, 115, 116], [114, 111, 117, 110, 100], [117, 112], [100, 111, 119, 110], [110, 101, 97, 114]]
def nameB (s : Str) : Bool := (decide (1 ≤ s.length ∧ s.length ≤ 24) && s.head?.any smallB) && (s.all plainB && !words.contains s)
def gradeB (s : Str) : Bool := s.isEmpty || nameB s
def trmOk (t : Trm) : Prop := (0 ≤ t.pay ∧ t.pay ≤ 10000) ∧ if t.per = 0 then t.above = 0 ∧ t.upto = 0 else (1 ≤ t.per ∧ t.per ≤ 65536) ∧ 0 ≤ t.above ∧ t.above < t.upto ∧ t.upto ≤ 65536
instance (t : Trm) : Decidable (trmOk t) := by unfold trmOk; infer_instance
def kindOk (r : Rul) : Prop :=
  if r.kind = 1 then (r.n = 0 ∧ r.d = 0 ∧ r.way = 0) ∧ (1 ≤ r.terms.length ∧ r.terms.length ≤ 6) ∧ ∀ t ∈ r.terms, trmOk t
  else r.terms = [] ∧ (
    if r.kind = 2 then (0 ≤ r.n ∧ r.n ≤ r.d) ∧ (1 ≤ r.d ∧ r.d ≤ 1000) ∧ r.way = 0
    else if r.kind = 3 ∨ r.kind = 4 then (0 ≤ r.n ∧ r.n ≤ 10000) ∧ r.d = 0 ∧ r.way = 0
    else r.kind = 5 ∧ (1 ≤ r.n ∧ r.n ≤ 10000) ∧ r.d = 0 ∧ (1 ≤ r.way ∧ r.way ≤ 3))
instance (r : Rul) : Decidable (kindOk r) := by unfold kindOk; infer_instance
def rulOk (r : Rul) : Prop := (nameB r.due = true ∧ r.grades.length ≤ 8) ∧ (∀ g ∈ r.grades, nameB g = true) ∧ r.grades.Nodup ∧ kindOk r
instance (r : Rul) : Decidable (rulOk r) := by unfold rulOk; infer_instance
def checkT (l : List Rul) : Int := if l.length > 30 then 2 else if ∀ r ∈ l, rulOk r then 0 else 7
theorem checkT_ok {l : List Rul} (h : checkT l = 0) : l.length ≤ 30 ∧ ∀ r ∈ l, rulOk r := by
  unfold checkT at h
  split at h
  · cases h
  · split at h
    · rename_i h1 h2; exact ⟨by omega, h2⟩
    · cases h
def forR (r : Rul) (due grade : Str) : Bool := r.due == due && (r.grades.isEmpty || r.grades.contains grade)
def paidT (t : Trm) (m : Int) : Int := if t.per = 0 then t.pay else t.pay * (max 0 (min m t.upto - t.above) + t.per - 1).tdiv t.per
def roundV (n way a : Int) : Int := if a = a - a.tmod n ∨ way = 2 ∨ (way = 3 ∧ 2 * (a - (a - a.tmod n)) < n) then a - a.tmod n else a - a.tmod n + n
def nextR (r : Rul) (a m : Int) : Int :=
  if r.kind = 1 then (r.terms.map fun t => paidT t m).foldl (· + ·) a
  else if r.kind = 2 then a - (a * r.n).tdiv r.d
  else if r.kind = 3 then max a r.n
  else if r.kind = 4 then min a r.n
  else roundV r.n r.way a
def penceL (l : List Rul) (due grade : Str) (m : Int) : Int := (l.filter fun r => forR r due grade).foldl (fun a r => nextR r a m) 0
theorem div_up {x p : Int} (hx : 0 ≤ x) (hp : 1 ≤ p) : 0 ≤ (x + p - 1).tdiv p ∧ (x + p - 1).tdiv p ≤ x := by
  rw [Int.tdiv_eq_ediv_of_nonneg (by omega)]
  refine ⟨Int.ediv_nonneg (by omega) (by omega), ?_⟩
  by_cases h0 : x = 0
  · subst h0
    rw [Int.ediv_eq_zero_of_lt (by omega) (by omega)]; exact Int.le_refl _
  · have h1 : x + p - 1 < (x + 1) * p := by
      have : (x + 1) * p = x * p + p := by rw [Int.add_mul, Int.one_mul]
      have h2 : x * 1 ≤ x * p := Int.mul_le_mul_of_nonneg_left hp hx
      omega
    have := Int.ediv_lt_of_lt_mul (by omega) h1
    omega
theorem paidT_bd {t : Trm} (h : trmOk t) {m : Int} (hm : 0 ≤ m ∧ m ≤ 65536) : 0 ≤ paidT t m ∧ paidT t m ≤ 655360000 := by
  obtain ⟨h1, h2⟩ := h
  unfold paidT
  by_cases hp : t.per = 0
  · rw [if_pos hp]; omega
  · rw [if_neg hp] at h2 ⊢
    obtain ⟨p1, p2, p3, p4⟩ := h2
    obtain ⟨d1, d2⟩ := div_up (x := max 0 (min m t.upto - t.above)) (p := t.per) (by omega) p1.1
    have d3 : max 0 (min m t.upto - t.above) ≤ 65536 := by omega
    generalize (max 0 (min m t.upto - t.above) + t.per - 1).tdiv t.per = q at d1 d2
    refine ⟨Int.mul_nonneg h1.1 d1, ?_⟩
    have := Int.mul_le_mul h1.2 (show q ≤ 65536 by omega) d1 (by decide)
    omega
theorem sum_bd {l : List Trm} (h : ∀ t ∈ l, trmOk t) {m : Int} (hm : 0 ≤ m ∧ m ≤ 65536) : ∀ {a : Int}, a ≤ (l.map fun t => paidT t m).foldl (· + ·) a ∧ (l.map fun t => paidT t m).foldl (· + ·) a ≤ a + l.length * 655360000 := by
  induction l with
  | nil => intro a; simp
  | cons t l ih =>
    intro a
    have hb := paidT_bd (h t (List.mem_cons_self ..)) hm
    have := ih (fun t ht => h t (List.mem_cons_of_mem _ ht)) (a := a + paidT t m)
    simp only [List.map_cons, List.foldl_cons, List.length_cons]
    omega
theorem roundV_bd {n way a : Int} (hn : 1 ≤ n) (ha : 0 ≤ a) : 0 ≤ roundV n way a ∧ roundV n way a ≤ a + n := by
  unfold roundV
  have h1 := Int.tmod_nonneg n ha
  have h2 : a.tmod n ≤ a := by
    rw [Int.tmod_eq_emod_of_nonneg ha]
    have h3 := Int.mul_ediv_add_emod a n
    have h4 : 0 ≤ n * (a / n) := Int.mul_nonneg (by omega) (Int.ediv_nonneg ha (by omega))
    omega
  split <;> omega
theorem nextR_bd {r : Rul} (h : kindOk r) {m : Int} (hm : 0 ≤ m ∧ m ≤ 65536) {a N : Int} (ha : 0 ≤ a ∧ a ≤ N) : 0 ≤ nextR r a m ∧ nextR r a m ≤ N + 4000000000 := by
  unfold kindOk at h
  unfold nextR
  by_cases k1 : r.kind = 1
  · rw [if_pos k1] at h ⊢
    have := sum_bd h.2.2 hm (a := a)
    have hl := h.2.1.2
    omega
  · rw [if_neg k1] at h ⊢
    have h := h.2
    by_cases k2 : r.kind = 2
    · rw [if_pos k2] at h ⊢
      have hd : 0 ≤ (a * r.n).tdiv r.d := Int.tdiv_nonneg (Int.mul_nonneg ha.1 h.1.1) (by omega)
      have hle : (a * r.n).tdiv r.d ≤ a := by
        rw [Int.tdiv_eq_ediv_of_nonneg (Int.mul_nonneg ha.1 h.1.1)]
        refine Int.ediv_le_of_le_mul (by omega) ?_
        exact Int.mul_le_mul_of_nonneg_left h.1.2 ha.1
      omega
    · rw [if_neg k2] at h ⊢
      by_cases k3 : r.kind = 3
      · rw [if_pos k3]
        rw [if_pos (.inl k3)] at h
        omega
      · rw [if_neg k3]
        by_cases k4 : r.kind = 4
        · rw [if_pos k4]
          rw [if_pos (.inr k4)] at h
          omega
        · rw [if_neg k4]
          rw [if_neg (by omega)] at h
          have := roundV_bd (way := r.way) h.2.1.1 ha.1
          have := h.2.1.2
          omega
theorem round_down {n a : Int} (ha : 0 ≤ a) : a.tdiv n * n = a - a.tmod n := by
  rw [Int.tdiv_eq_ediv_of_nonneg ha, Int.tmod_eq_emod_of_nonneg ha]
  have h3 := Int.mul_ediv_add_emod a n
  rw [Int.mul_comm] at h3
  omega
theorem round_up {n a : Int} (hn : 1 ≤ n) (ha : 0 ≤ a) : (a + n - 1).tdiv n * n = roundV n 1 a := by
  unfold roundV
  have h1 := Int.emod_nonneg a (show n ≠ 0 by omega)
  have h2 := Int.emod_lt_of_pos a (show 0 < n by omega)
  have h3 := Int.mul_ediv_add_emod a n
  rw [Int.tmod_eq_emod_of_nonneg ha, Int.tdiv_eq_ediv_of_nonneg (by omega)]
  generalize a / n = q at h3
  generalize a % n = r at h1 h2 h3
  have e : a + n - 1 = n * q + (r + n - 1) := by omega
  by_cases h0 : r = 0
  · rw [if_pos (.inl (by omega))]
    have : (a + n - 1) / n = q := by
      rw [e, Int.add_comm, Int.add_mul_ediv_left _ _ (by omega), Int.ediv_eq_zero_of_lt (by omega) (by omega)]; omega
    rw [this, Int.mul_comm]; omega
  · rw [if_neg (by omega)]
    have : (a + n - 1) / n = q + 1 := by
      have e2 : a + n - 1 = (r - 1) + n * (q + 1) := by rw [Int.mul_add, Int.mul_one]; omega
      rw [e2, Int.add_mul_ediv_left _ _ (by omega), Int.ediv_eq_zero_of_lt (by omega) (by omega)]; omega
    rw [this, Int.add_mul, Int.one_mul, Int.mul_comm]; omega
theorem round_near {n a : Int} (hn : 1 ≤ n) (ha : 0 ≤ a) : (2 * a + n).tdiv (2 * n) * n = roundV n 3 a := by
  unfold roundV
  have h1 := Int.emod_nonneg a (show n ≠ 0 by omega)
  have h2 := Int.emod_lt_of_pos a (show 0 < n by omega)
  have h3 := Int.mul_ediv_add_emod a n
  rw [Int.tmod_eq_emod_of_nonneg ha, Int.tdiv_eq_ediv_of_nonneg (by omega)]
  generalize a / n = q at h3
  generalize a % n = r at h1 h2 h3
  have hm : 2 * n * q = 2 * (n * q) := by rw [Int.mul_assoc]
  by_cases h0 : 2 * r < n
  · rw [if_pos (.inr (.inr ⟨rfl, by omega⟩))]
    have : (2 * a + n) / (2 * n) = q := by
      have e2 : 2 * a + n = (2 * r + n) + 2 * n * q := by omega
      rw [e2, Int.add_mul_ediv_left _ _ (by omega), Int.ediv_eq_zero_of_lt (by omega) (by omega)]; omega
    rw [this, Int.mul_comm]; omega
  · rw [if_neg (by omega)]
    have : (2 * a + n) / (2 * n) = q + 1 := by
      have e2 : 2 * a + n = (2 * r - n) + 2 * n * (q + 1) := by rw [Int.mul_add, Int.mul_one]; omega
      rw [e2, Int.add_mul_ediv_left _ _ (by omega), Int.ediv_eq_zero_of_lt (by omega) (by omega)]; omega
    rw [this, Int.add_mul, Int.one_mul, Int.mul_comm]; omega
end K
end Go.Proofs.YtkpligkggnjcoaaGreatDoor
/-! TG0 -/
namespace Go.Proofs.YtkpligkggnjcoaaGreatDoor
open Ev
set_option maxRecDepth 100000
namespace K
@[ext] structure Lot where
  grade : List UInt8
  mass : Int
  deriving DecidableEq, Inhabited
@[ext] structure Chrg where
  due : List UInt8
  pence : Int
  deriving DecidableEq, Inhabited
@[ext] structure Stg where (lo hi pence : Int)
  deriving DecidableEq, Inhabited
@[ext] structure Effc where (rule before after : Int)
  deriving DecidableEq, Inhabited
end K
open K
namespace Ev
def dStr : Dec (List UInt8) where
  enc l := .str l
  dec x := match x with
    | .str l => some l
    | _ => none
  ok x a h w A r v hv := by
    split at h
    · injection h with h; subst h; exact hv
    · cases h
end Ev
def rTrm : RowD Trm where
  wd := 4
  tags := [.int .i64, .int .i64, .int .i64, .int .i64]
  rd f := ⟨numOf (f 0), numOf (f 1), numOf (f 2), numOf (f 3)⟩
  wr a k := match k with
    | 0 => .int .i64 a.per
    | 1 => .int .i64 a.pay
    | 2 => .int .i64 a.above
    | _ => .int .i64 a.upto
  ok f k hk := by
    match k, hk with
    | 0, _ => rfl
    | 1, _ => rfl
    | 2, _ => rfl
    | 3, _ => rfl
    | k + 4, hk => omega
  good _ := rfl
def rLot : RowD Lot where
  wd := 2
  tags := [.str, .int .i64]
  rd f := ⟨textOf (f 0), numOf (f 1)⟩
  wr a k := match k with
    | 0 => .str a.grade
    | _ => .int .i64 a.mass
  ok f k hk := by
    match k, hk with
    | 0, _ => rfl
    | 1, _ => rfl
    | k + 2, hk => omega
  good _ := rfl
def rChrg : RowD Chrg where
  wd := 2
  tags := [.str, .int .i64]
  rd f := ⟨textOf (f 0), numOf (f 1)⟩
  wr a k := match k with
    | 0 => .str a.due
    | _ => .int .i64 a.pence
  ok f k hk := by
    match k, hk with
    | 0, _ => rfl
    | 1, _ => rfl
    | k + 2, hk => omega
  good _ := rfl
def rStg : RowD Stg where
  wd := 3
  tags := [.int .i64, .int .i64, .int .i64]
  rd f := ⟨numOf (f 0), numOf (f 1), numOf (f 2)⟩
  wr a k := match k with
    | 0 => .int .i64 a.lo
    | 1 => .int .i64 a.hi
    | _ => .int .i64 a.pence
  ok f k hk := by
    match k, hk with
    | 0, _ => rfl
    | 1, _ => rfl
    | 2, _ => rfl
    | k + 3, hk => omega
  good _ := rfl
def rEff : RowD Effc where
  wd := 3
  tags := [.int .i64, .int .i64, .int .i64]
  rd f := ⟨numOf (f 0), numOf (f 1), numOf (f 2)⟩
  wr a k := match k with
    | 0 => .int .i64 a.rule
    | 1 => .int .i64 a.before
    | _ => .int .i64 a.after
  ok f k hk := by
    match k, hk with
    | 0, _ => rfl
    | 1, _ => rfl
    | 2, _ => rfl
    | k + 3, hk => omega
  good _ := rfl
def nRul : RowN Rul where
  wd := 7
  tags := [.int .i64, .str, .sl 1 [.str], .sl 4 [.int .i64, .int .i64, .int .i64, .int .i64], .int .i64, .int .i64, .int .i64]
  rd f := ⟨numOf (f 0), textOf (f 1), listOf rStr (sliceOf 1 [.str] (f 2)), listOf rTrm (sliceOf 4 [.int .i64, .int .i64, .int .i64, .int .i64] (f 3)), numOf (f 4), numOf (f 5), numOf (f 6)⟩
  wr a k := match k with
    | 0 => .int .i64 a.kind
    | 1 => .str a.due
    | 2 => slOf rStr a.grades
    | 3 => slOf rTrm a.terms
    | 4 => .int .i64 a.n
    | 5 => .int .i64 a.d
    | _ => .int .i64 a.way
  ok f k hk w A u h := by
    match k, hk, h with
    | 0, _, h => exact h
    | 1, _, h => exact h
    | 2, _, h => exact slOf_rel (H := rStr) (x := sliceOf 1 [.str] (f 2)) rfl h
    | 3, _, h => exact slOf_rel (H := rTrm) (x := sliceOf 4 [.int .i64, .int .i64, .int .i64, .int .i64] (f 3)) rfl h
    | 4, _, h => exact h
    | 5, _, h => exact h
    | 6, _, h => exact h
    | k + 7, hk, _ => omega
  good a := by
    show (⟨a.kind, a.due, listOf rStr (slOf rStr a.grades), listOf rTrm (slOf rTrm a.terms), a.n, a.d, a.way⟩ : Rul) = a
    rw [listOf_slOf, listOf_slOf]
def lTar : DecL (List Rul) := .last (dRowsN nRul) 0
def dTar : Dec (List Rul) := dAgg lTar
def lTrm : DecL Trm := (DecL.cons (dI .i64) (.cons (dI .i64) (.cons (dI .i64) (.last (dI .i64) 0)))).iso (fun p => ⟨p.1, p.2.1, p.2.2.1, p.2.2.2⟩) (fun s => (s.per, s.pay, s.above, s.upto)) (fun _ => rfl)
def dTrm : Dec Trm := dAgg lTrm
def lRul : DecL Rul := (DecL.cons (dI .i64) (.cons dStr (.cons (dRows rStr) (.cons (dRows rTrm) (.cons (dI .i64) (.cons (dI .i64) (.last (dI .i64) 0))))))).iso (fun p => ⟨p.1, p.2.1, p.2.2.1, p.2.2.2.1, p.2.2.2.2.1, p.2.2.2.2.2.1, p.2.2.2.2.2.2⟩) (fun r => (r.kind, r.due, r.grades, r.terms, r.n, r.d, r.way)) (fun _ => rfl)
def dRul : Dec Rul := dAgg lRul
end Go.Proofs.YtkpligkggnjcoaaGreatDoor
/-! TP2 -/
namespace Go.Proofs.YtkpligkggnjcoaaGreatDoor
open Ev K
set_option maxRecDepth 100000
namespace K
def duesT (l : List Rul) : List Str := setS (l.map (·.due))
def gradesT (l : List Rul) : List Str := setS (l.flatMap (·.grades))
theorem mem_dues {l : List Rul} {d : Str} : d ∈ duesT l ↔ ∃ r ∈ l, r.due = d := ((setS_spec _).2 d).trans List.mem_map
def allL (l : List Rul) (due : Str) (c : List Lot) : Int := c.foldl (fun n x => n + penceL l due x.grade x.mass) 0
def billL (l : List Rul) (c : List Lot) : List Chrg := (duesT l).map fun d => ⟨d, allL l d c⟩
theorem all_same {l l' : List Rul} {d : Str} (h : ∀ g, (l.filter fun r => forR r d g) = l'.filter fun r => forR r d g) (c : List Lot) : allL l d c = allL l' d c := by
  unfold allL
  congr 1
  funext n x
  unfold penceL
  rw [h]
theorem all_none {l : List Rul} {d : Str} (h : ∀ r ∈ l, r.due ≠ d) (c : List Lot) : allL l d c = 0 := by
  have e : ∀ g, (l.filter fun r => forR r d g) = ([] : List Rul).filter fun r => forR r d g := fun g => by
    rw [List.filter_nil, List.filter_eq_nil_iff]
    intro r hr
    unfold forR
    simp [h r hr]
  rw [all_same e]
  unfold allL penceL
  induction c with
  | nil => rfl
  | cons x c ih => simpa using ih
theorem filter_erase {α : Type} (p : α → Bool) : ∀ {l : List α} {i : Nat} {x : α}, l[i]? = some x → p x = false → (l.eraseIdx i).filter p = l.filter p
  | [], i, x, h, _ => by cases h
  | y :: t, 0, x, h, hp => by
    simp only [List.getElem?_cons_zero, Option.some.injEq] at h
    subst h
    rw [List.eraseIdx_cons_zero, List.filter_cons_of_neg (by rw [hp]; exact Bool.false_ne_true)]
  | y :: t, i + 1, x, h, hp => by
    rw [List.getElem?_cons_succ] at h
    rw [List.eraseIdx_cons_succ, List.filter_cons, List.filter_cons, filter_erase p h hp]
theorem all_erase {l : List Rul} {i : Nat} {r : Rul} (h : l[i]? = some r) {d : Str} (hd : r.due ≠ d) (c : List Lot) : allL (l.eraseIdx i) d c = allL l d c :=
  all_same (fun g => filter_erase _ h (by unfold forR; simp [hd])) c
def lessV (l : List Rul) (d : Str) (c : List Lot) : Int := if d ∈ duesT l then allL l d c else 0
theorem less_eq (l : List Rul) (d : Str) (c : List Lot) : lessV l d c = allL l d c := by
  unfold lessV
  by_cases h : d ∈ duesT l
  · rw [if_pos h]
  · rw [if_neg h, all_none fun r hr e => h (mem_dues.2 ⟨r, hr, e⟩)]
theorem rest_any {l : List Rul} {i : Nat} {r : Rul} (h : l[i]? = some r) (c : List Lot) :
    ((billL l c).any fun x => lessV (l.eraseIdx i) x.due c != x.pence) = (allL (l.eraseIdx i) r.due c != allL l r.due c) := by
  unfold billL
  rw [List.any_map]
  apply Bool.eq_iff_iff.2
  rw [List.any_eq_true, bne_iff_ne]
  constructor
  · rintro ⟨d, hd, hne⟩
    have hne : lessV (l.eraseIdx i) d c ≠ allL l d c := bne_iff_ne.1 hne
    rw [less_eq] at hne
    by_cases e : r.due = d
    · subst e; exact hne
    · exact absurd (all_erase h e c) hne
  · intro hne
    refine ⟨r.due, mem_dues.2 ⟨r, List.mem_of_getElem? h, rfl⟩, ?_⟩
    refine bne_iff_ne.2 ?_
    show lessV (l.eraseIdx i) r.due c ≠ allL l r.due c
    rw [less_eq]; exact hne
def restsL (l : List Rul) (c : List Lot) : List Int := ((List.range l.length).filter fun i => allL (l.eraseIdx i) (l.getD i default).due c != allL l (l.getD i default).due c).map fun i : Nat => (i : Int)
def masses (lo hi : Int) : List Int := (List.range (hi + 1 - lo).toNat).map fun j : Nat => lo + (j : Int)
def duesAB (a b : List Rul) : List Str := setS (a.map (·.due) ++ b.map (·.due))
def gradesAB (a b : List Rul) : List Str := [] :: setS (a.flatMap (·.grades) ++ b.flatMap (·.grades))
def firstD (a b : List Rul) (lo hi : Int) (d g : Str) : Option Int := (masses lo hi).find? fun m => penceL a d g m != penceL b d g m
def differL (a b : List Rul) (lo hi : Int) : Option (Str × Str × Int) :=
  (duesAB a b).findSome? fun d => (gradesAB a b).findSome? fun g => (firstD a b lo hi d g).map fun m => (d, g, m)
def spareL (l : List Rul) (lo hi : Int) : List Int := ((List.range l.length).filter fun i => (differL l (l.eraseIdx i) lo hi).isNone).map fun i : Nat => (i : Int)
end K
end Go.Proofs.YtkpligkggnjcoaaGreatDoor
/-! TP3 -/
namespace Go.Proofs.YtkpligkggnjcoaaGreatDoor
open Ev K
set_option maxRecDepth 100000
namespace K
def stStep (out : List Stg) (m n : Int) : List Stg := match out.getLast? with
  | some s => if s.pence = n then out.dropLast ++ [⟨s.lo, m, n⟩] else out ++ [⟨m, m, n⟩]
  | none => [⟨m, m, n⟩]
def stagesK (f : Int → Int) (lo : Int) : Nat → List Stg
  | 0 => []
  | k + 1 => stStep (stagesK f lo k) (lo + k) (f (lo + k))
def stagesL (f : Int → Int) (lo hi : Int) : List Stg := stagesK f lo (hi + 1 - lo).toNat
def fromL (l : List Stg) (n : Int) : Option Int := (l.find? fun s => decide (s.pence ≥ n)).map (·.lo)
end K
end Go.Proofs.YtkpligkggnjcoaaGreatDoor
/-! TG1 -/
namespace Go.Proofs.YtkpligkggnjcoaaGreatDoor
open Ev K
set_option maxRecDepth 100000
namespace K
@[ext] structure Spn where (lo hi : Int)
  deriving DecidableEq, Inhabited
@[ext] structure Edn where
  id : Int
  frm : Int
  rules : List Rul
  deriving DecidableEq, Inhabited
end K
open K
def lSpn : DecL Spn := (DecL.cons (dI .i64) (.last (dI .i64) 0)).iso (fun p => ⟨p.1, p.2⟩) (fun s => (s.lo, s.hi)) (fun _ => rfl)
def dSpn : Dec Spn := dAgg lSpn
def lChrg : DecL Chrg := (DecL.cons dStr (.last (dI .i64) 0)).iso (fun p => ⟨p.1, p.2⟩) (fun s => (s.due, s.pence)) (fun _ => rfl)
def dInt : Dec Int := dI .i64
end Go.Proofs.YtkpligkggnjcoaaGreatDoor
/-! TRr -/
namespace Go.Proofs.YtkpligkggnjcoaaGreatDoor
open Ev K
set_option maxRecDepth 100000
def Ev.dW (k : IntKind) : Dec Int where
  enc n := .int k (k.wrap n)
  dec _ := none
  ok x a h := by cases h
section
variable {H : Type} {enc : TypeId × Value → H} {w : World}
theorem fl_int : flat P 8 3 = some [.int .i64] := by kernel_rfl
theorem fl_u8 : flat P 8 5 = some [.int .u8] := by kernel_rfl
theorem fl_str : flat P 8 9 = some [.str] := by kernel_rfl
theorem fl_term : flat P 8 86 = some (List.replicate 4 (.int .i64)) := by kernel_rfl
theorem fl_rule : flat P 8 68 = some [.int .i64, .str, .sl 9, .sl 86, .int .i64, .int .i64, .int .i64] := by kernel_rfl
theorem fl_tariff : flat P 8 25 = some [.sl 68] := by kernel_rfl
theorem fl_lot : flat P 8 149 = some [.str, .int .i64] := by kernel_rfl
theorem fl_lots : flat P 8 34 = some [.sl 149] := by kernel_rfl
theorem ag_int : aggB P 3 = some false := by kernel_rfl
theorem ag_u8 : aggB P 5 = some false := by kernel_rfl
theorem ag_str : aggB P 9 = some false := by kernel_rfl
theorem ag_tariff : aggB P 25 = some true := by kernel_rfl
theorem ag_lots : aggB P 34 = some false := by kernel_rfl
theorem rx_strs {v : Value} (h : CellR enc P w (.sl 9) v) : RdV w (dRows rStr) v := by
  obtain ⟨a, ha⟩ := rd_sl fl_str (by kernel_rfl) (by decide) (by decide) h
  exact ⟨decF rStr a.len fun i => a.f (a.row + i), (dRows rStr).ok _ _ rfl _ _ _ _ ha⟩
theorem rx_terms {v : Value} (h : CellR enc P w (.sl 86) v) : RdV w (dRows rTrm) v := by
  obtain ⟨a, ha⟩ := rd_sl fl_term (by kernel_rfl) (by decide) (by decide) h
  exact ⟨decF rTrm a.len fun i => a.f (a.row + i), (dRows rTrm).ok _ _ rfl _ _ _ _ ha⟩
theorem rx_lots {v : Value} (h : CellR enc P w (.sl 149) v) : RdV w (dRows rLot) v := by
  obtain ⟨a, ha⟩ := rd_sl fl_lot (by kernel_rfl) (by decide) (by decide) h
  exact ⟨decF rLot a.len fun i => a.f (a.row + i), (dRows rLot).ok _ _ rfl _ _ _ _ ha⟩
theorem row_rule (cs : List Value) (h : Cells enc P w [.int .i64, .str, .sl 9, .sl 86, .int .i64, .int .i64, .int .i64] cs) : ∃ a : Rul, ∀ k v, k < (nRul).wd → cs[k]? = some v → VR w noA noR (conf (ckAt (nRul).tags k) ((nRul).wr a k)) v := by
  obtain ⟨v0, cs0, rfl, c0, h⟩ := cells_cons h
  obtain ⟨v1, cs1, rfl, c1, h⟩ := cells_cons h
  obtain ⟨v2, cs2, rfl, c2, h⟩ := cells_cons h
  obtain ⟨v3, cs3, rfl, c3, h⟩ := cells_cons h
  obtain ⟨v4, cs4, rfl, c4, h⟩ := cells_cons h
  obtain ⟨v5, cs5, rfl, c5, h⟩ := cells_cons h
  obtain ⟨v6, cs6, rfl, c6, h⟩ := cells_cons h
  obtain rfl := cells_nil h
  obtain ⟨a0, e0⟩ := rd_int c0
  obtain ⟨a1, e1⟩ := rd_str c1
  obtain ⟨a2, e2⟩ := rx_strs c2
  obtain ⟨a3, e3⟩ := rx_terms c3
  obtain ⟨a4, e4⟩ := rd_int c4
  obtain ⟨a5, e5⟩ := rd_int c5
  obtain ⟨a6, e6⟩ := rd_int c6
  refine ⟨⟨a0, a1, a2, a3, a4, a5, a6⟩, fun k v hk hv => ?_⟩
  match k, hk, hv with
  | 0, _, hv => injection hv with hv; subst hv; exact e0
  | 1, _, hv => injection hv with hv; subst hv; exact e1
  | 2, _, hv => injection hv with hv; subst hv; exact e2
  | 3, _, hv => injection hv with hv; subst hv; exact e3
  | 4, _, hv => injection hv with hv; subst hv; exact e4
  | 5, _, hv => injection hv with hv; subst hv; exact e5
  | 6, _, hv => injection hv with hv; subst hv; exact e6
  | k + 7, hk, _ => exact absurd hk (Nat.not_lt.2 (Nat.le_add_left _ _))
theorem rx_rules {v : Value} (h : CellR enc P w (.sl 68) v) : RdV w (dRowsN nRul) v := rd_slN fl_rule (by kernel_rfl) rfl (by decide) row_rule h
variable {r : Reach} {b : Nat} {v : Value} {d : DataW H} {p : List MemPlace}
theorem rp_int (hok : Value.okWide P w r b 3 v) (h : DataW.Trod enc P w 0 (fun _ => true) true 3 v d p) : RdV w (dI .i64) v := rd_int (param_cell fl_int ag_int hok h)
theorem rp_str (hok : Value.okWide P w r b 9 v) (h : DataW.Trod enc P w 0 (fun _ => true) true 9 v d p) : RdV w dS v := rd_str (param_cell fl_str ag_str hok h)
theorem rp_lots (hok : Value.okWide P w r b 34 v) (h : DataW.Trod enc P w 0 (fun _ => true) true 34 v d p) : RdV w (dRows rLot) v := rx_lots (param_cell fl_lots ag_lots hok h)
theorem rp_tariff (hok : Value.okWide P w r b 25 v) (h : DataW.Trod enc P w 0 (fun _ => true) true 25 v d p) : RdV w dTar v := by
  obtain ⟨cs, rfl, hc⟩ := param_agg fl_tariff ag_tariff hok h
  obtain ⟨v0, cs0, e, c0, hc⟩ := cells_cons hc
  obtain rfl := cells_nil hc
  refine rdV_agg ?_
  rw [e]
  exact rdL_last (rx_rules c0)
end
end Go.Proofs.YtkpligkggnjcoaaGreatDoor
