/- Parts of the proof, one behind the other: LA2, LA3, LA4, LA5, LA6, LA7, LA8, LP2, LJ0, LA9, LAa, LAb, LAc, LAd, LAe, LAf, LAg, LAq, LS3, LS4, LS5. No conditions. -/
import Derived.Test.YtelpdkojdfnmiaaGreatLw10
/-! LA2 -/
namespace Go.Proofs.YtelpdkojdfnmiaaGreat
open Ev K
set_option maxRecDepth 100000
namespace K
theorem wI {i : Nat} (h : i ≤ 4000000) : IntKind.i64.wrap ((i : Int) + 1) = ((i + 1 : Nat) : Int) := by rw [w64_in (by omega) (by omega)]; rfl
theorem cS {n : Nat} (h : n ≤ 1000000) : clampL n = n := clampL_eq (by unfold maxL; omega)
theorem app3 {ρ : Type} (R : RowD ρ) (l : List ρ) (a : Nat) (h : a ≤ l.length) (g : Nat → Nat → AV) : decF R (a + 1 + (l.length - a)) (fun i => appG (a + 1) (appG a (appG 0 (fun _ _ => .top) fun i k => encF R l i k) g) (fun i k => encF R l (a + i) k) i) = l.take a ++ R.rd (g 0) :: l.drop a := by
 apply List.ext_getElem?
 intro i
 by_cases hi : i < a + 1 + (l.length - a)
 ·simp only [decF, List.getElem?_map, List.getElem?_range hi, Option.map_some]
  have hta : (l.take a).length = a := by rw [List.length_take]; omega
  rcases Nat.lt_trichotomy i a with h1 | h1 | h1
  ·have e : appG (a + 1) (appG a (appG 0 (fun _ _ => .top) fun i k => encF R l i k) g) (fun i k => encF R l (a + i) k) i = encF R l i := by
    funext k; unfold appG
    rw [show Nat.ble (a + 1) i = false by rw [← Bool.not_eq_true, Nat.ble_eq]; omega, show Nat.ble a i = false by rw [← Bool.not_eq_true, Nat.ble_eq]; omega, show Nat.ble 0 i = true by rw [Nat.ble_eq]; omega]
    simp
   rw [e, List.getElem?_append_left (by omega), List.getElem?_take_of_lt h1, List.getElem?_eq_getElem (by omega), encF_at (List.getElem?_eq_getElem (show i < l.length by omega)), R.good]
  ·subst h1
   have e : appG (i + 1) (appG i (appG 0 (fun _ _ => .top) fun i k => encF R l i k) g) (fun j k => encF R l (i + j) k) i = g 0 := by
    funext k; unfold appG
    rw [show Nat.ble (i + 1) i = false by rw [← Bool.not_eq_true, Nat.ble_eq]; omega, show Nat.ble i i = true by rw [Nat.ble_eq]; omega, Nat.sub_self]
   rw [e, List.getElem?_append_right (by omega), hta, Nat.sub_self]; rfl
  ·have e : appG (a + 1) (appG a (appG 0 (fun _ _ => .top) fun i k => encF R l i k) g) (fun i k => encF R l (a + i) k) i = encF R l (i - 1) := by
    funext k; unfold appG
    rw [show Nat.ble (a + 1) i = true by rw [Nat.ble_eq]; omega]
    simp only
    rw [show a + (i - (a + 1)) = i - 1 by omega]
   obtain ⟨j, rfl⟩ : ∃ j, i = a + 1 + j := ⟨i - (a + 1), by omega⟩
   rw [e, List.getElem?_append_right (by omega), hta, show a + 1 + j - a = j + 1 by omega, List.getElem?_cons_succ, List.getElem?_drop, show a + 1 + j - 1 = a + j by omega, List.getElem?_eq_getElem (by omega), encF_at (List.getElem?_eq_getElem (show a + j < l.length by omega)), R.good]
 ·rw [List.getElem?_eq_none (by simp [decF]; omega), List.getElem?_eq_none (by simp; omega)]
theorem r_ahead_iff (x y : Itm) : r_ahead (x, y) = true ↔ ltK x y := by
 unfold r_ahead ltK
 by_cases h1 : x.known < y.known
 ·simp [h1]
 ·by_cases h2 : x.known = y.known
  ·simp [h2]
  ·simp [h1, h2]
def atOf {α : Type} (p : α → Bool) (l : List α) : Nat := (l.takeWhile p).length
theorem atOf_le {α : Type} (p : α → Bool) (l : List α) : atOf p l ≤ l.length := (List.takeWhile_prefix p).length_le
theorem atOf_lt {α : Type} {p : α → Bool} : ∀ {l : List α} {i : Nat} {x : α}, i < atOf p l → l[i]? = some x → p x = true
 | [], i, x, h, _ => by simp [atOf] at h
 | y :: l, i, x, h, hx => by
  unfold atOf at h
  by_cases hy : p y = true
  ·rw [List.takeWhile_cons_of_pos hy] at h
   cases i with
   | zero => simp only [List.getElem?_cons_zero, Option.some.injEq] at hx; rw [← hx]; exact hy
   | succ i => exact atOf_lt (l := l) (i := i) (by simpa [atOf] using h) (by simpa using hx)
  ·rw [List.takeWhile_cons_of_neg hy] at h; simp at h
theorem atOf_at {α : Type} {p : α → Bool} : ∀ {l : List α} {x : α}, l[atOf p l]? = some x → p x = false
 | [], x, hx => by simp [atOf] at hx
 | y :: l, x, hx => by
  unfold atOf at hx
  by_cases hy : p y = true
  ·rw [List.takeWhile_cons_of_pos hy] at hx
   exact atOf_at (l := l) (by simpa [atOf] using hx)
  ·rw [List.takeWhile_cons_of_neg hy] at hx
   simp only [List.length_nil, List.getElem?_cons_zero, Option.some.injEq] at hx
   rw [← hx]; simpa using hy
theorem atOf_cons {α : Type} (p : α → Bool) (y : α) (l : List α) : atOf p (y :: l) = if p y then atOf p l + 1 else 0 := by
 unfold atOf
 by_cases hy : p y = true
 ·rw [List.takeWhile_cons_of_pos hy, if_pos hy]; rfl
 ·rw [List.takeWhile_cons_of_neg hy, if_neg hy]; rfl
def befI (x y : Itm) : Bool := decide (ltK y x)
theorem insR_at : ∀ (l : List Itm) (x : Itm), insR l x = if l[atOf (befI x) l]? = some x then l else l.take (atOf (befI x) l) ++ x :: l.drop (atOf (befI x) l)
 | [], x => by simp [insR, atOf]
 | y :: l, x => by
  unfold insR
  rw [atOf_cons]
  by_cases h : ltK y x
  ·have hb : befI x y = true := decide_eq_true h
   rw [if_pos h, hb, if_pos rfl, insR_at l x, List.getElem?_cons_succ, List.take_succ_cons, List.drop_succ_cons]
   split <;> rfl
  ·have hb : befI x y = false := decide_eq_false h
   rw [if_neg h, hb]
   simp only [Bool.false_eq_true, if_false, List.getElem?_cons_zero, Option.some.injEq, List.take_zero, List.drop_zero, List.nil_append]
theorem L_rs2_eq {l out : List Itm} (_hl : l.length ≤ 1000) (ho : out.length ≤ 1000) {i : Nat} {x : Itm} (hx : l[i]? = some x) : ∀ (d j : Nat), j + d = atOf (befI x) out → L_rs2 ((l, out.length, (i : Int), (j : Int)), out, ()) = some ((l, out.length, (i : Int), ((atOf (befI x) out : Nat) : Int)), out, ()) := by
 have hle := atOf_le (befI x) out
 obtain ⟨hi, _⟩ := List.getElem?_eq_some_iff.1 hx
 have hid : ∀ x : Itm, (⟨x.id, x.known, x.kind, x.day, x.bill, x.account, x.amount⟩ : Itm) = x := fun _ => rfl
 intro d
 induction d with
 | zero =>
  intro j hj
  refine lim_done ?_
  rw [sl_rs2]
  obtain rfl : j = atOf (befI x) out := by omega
  by_cases h : atOf (befI x) out < out.length
  ·have hy := List.getElem?_eq_getElem h
   have hp := atOf_at hy
   generalize out[atOf (befI x) out] = y at hy hp
   simp only [Int.toNat_natCast, Nat.zero_add, item_at hy, item_at hx, wr0, wr1, wr2, wr3, wr4, wr5, wr6, decF_encF, hid]
   refine br_t (decide_eq_true (by omega)) (chk_step (decide_eq_true (by omega)) (chk_step (decide_eq_true (by omega)) (br_f ?_ rfl)))
   rw [← Bool.not_eq_true, r_ahead_iff]
   unfold befI at hp; simpa using hp
  ·simp only [Nat.zero_add, decF_encF]
   exact br_f (decide_eq_false (by omega)) rfl
 | succ d ih =>
  intro j hj
  have hjo : j < out.length := by omega
  have hy := List.getElem?_eq_getElem hjo
  have hp := atOf_lt (show j < atOf (befI x) out by omega) hy
  generalize out[j] = y at hy hp
  refine (lim_step ?_).trans (ih (j + 1) (by omega))
  rw [sl_rs2]
  simp only [Int.toNat_natCast, Nat.zero_add, item_at hy, item_at hx, wr0, wr1, wr2, wr3, wr4, wr5, wr6, decF_encF, hid, wI (show j ≤ 4000000 by omega)]
  refine br_t (decide_eq_true (by omega)) (chk_step (decide_eq_true (by omega)) (chk_step (decide_eq_true (by omega)) (br_t ?_ rfl)))
  rw [r_ahead_iff]; unfold befI at hp; simpa using hp
theorem insR_len (l : List Itm) (x : Itm) : (insR l x).length ≤ l.length + 1 := by
 rw [insR_at]
 have := atOf_le (befI x) l
 split
 ·omega
 ·simp; omega
theorem L_rs1_eq {l : List Itm} (hl : l.length ≤ 500) : ∀ (d i : Nat) (out : List Itm), i + d = l.length → out.length ≤ i → ∃ out', out' = (l.drop i).foldl insR out ∧ L_rs1 ((l, out.length, (i : Int)), out, ()) = some (out'.length, out', ()) := by
 intro d
 induction d with
 | zero =>
  intro i out h ho
  refine ⟨_, rfl, lim_done ?_⟩
  rw [sl_rs1]
  simp only [cS (show l.length ≤ 1000000 by omega), decF_encF]
  refine br_f (decide_eq_false (by omega)) ?_
  rw [List.drop_of_length_le (by omega)]; rfl
 | succ d ih =>
  intro i out h ho
  have hi : i < l.length := by omega
  have hx := List.getElem?_eq_getElem hi
  have hdrop := List.drop_eq_getElem_cons hi
  generalize l[i] = x at hx hdrop
  have hin := insR_len out x
  obtain ⟨out', e1, e2⟩ := ih (i + 1) (insR out x) (by omega) (by omega)
  refine ⟨out', by rw [hdrop, List.foldl_cons]; exact e1, (lim_step ?_).trans e2⟩
  have hle := atOf_le (befI x) out
  rw [sl_rs1]
  simp only [cS (show l.length ≤ 1000000 by omega), Nat.zero_add, decF_encF]
  refine br_t (decide_eq_true (by omega)) (obs_step (L_rs2_eq (l := l) (out := out) (by omega) (by omega) hx (atOf (befI x) out) 0 (by omega)) ?_)
  have wi := wI (show i ≤ 4000000 by omega)
  have same : insR out x = out → (T.ret (Sum.inl ((l, out.length, ((i + 1 : Nat) : Int)), out, ())) : T (((List Itm × Nat × Int) × List Itm × Unit) ⊕ (Nat × List Itm × Unit))).run = some (.inl ((l, (insR out x).length, ((i + 1 : Nat) : Int)), insR out x, ())) := fun e => by rw [e]; rfl
  have ins : insR out x = out.take (atOf (befI x) out) ++ x :: out.drop (atOf (befI x) out) → (T.ret (Sum.inl ((l, atOf (befI x) out + 1 + (out.length - atOf (befI x) out), ((i + 1 : Nat) : Int)), out.take (atOf (befI x) out) ++ x :: out.drop (atOf (befI x) out), ())) : T (((List Itm × Nat × Int) × List Itm × Unit) ⊕ (Nat × List Itm × Unit))).run = some (.inl ((l, (insR out x).length, ((i + 1 : Nat) : Int)), insR out x, ())) := fun e => by
   rw [e]
   have : (out.take (atOf (befI x) out) ++ x :: out.drop (atOf (befI x) out)).length = atOf (befI x) out + 1 + (out.length - atOf (befI x) out) := by simp; omega
   rw [this]; rfl
  have hI := insR_at out x
  have key3 := app3 rItem out (atOf (befI x) out) hle (fun j k => ([(.int .i64 x.id : AV), .int .i64 x.known, .int .i64 x.kind, .int .i64 x.day, .int .i64 x.bill, .int .i64 x.account, .int .i64 x.amount][j * 7 + k]?).getD .top)
  by_cases hlt : atOf (befI x) out < out.length
  ·have hy := List.getElem?_eq_getElem hlt
   generalize out[atOf (befI x) out] = y at hy
   rw [hy] at hI
   simp only [Int.toNat_natCast, Nat.sub_zero, item_at hy, item_at hx, wr0, wr1, wr2, wr3, wr4, wr5, wr6, wi]
   refine br_t (decide_eq_true (by omega)) (chk_step (decide_eq_true (by omega)) (chk_step (decide_eq_true (by omega)) ?_))
   by_cases hyx : y = x
   ·rw [if_pos (by rw [hyx])] at hI
    exact br_t ((sameI_iff y x).2 hyx) (same hI)
   ·rw [if_neg (fun e => hyx (by injection e))] at hI
    refine br_f (by rw [← Bool.not_eq_true]; exact fun h => hyx ((sameI_iff y x).1 h)) ?_
    refine chk_step (by rw [Bool.and_true]; exact decide_eq_true (by omega)) (chk_step (decide_eq_true (by omega)) (chk_step (decide_eq_true (by omega)) (chk_step (decide_eq_true (by omega)) (chk_step (by rw [Bool.true_and]; exact decide_eq_true (by omega)) (chk_step (decide_eq_true (by omega)) ?_)))))
    exact Eq.trans (congrArg (fun L => (some (Sum.inl ((l, atOf (befI x) out + 1 + (out.length - atOf (befI x) out), ((i + 1 : Nat) : Int)), L, ())) : Option (((List Itm × Nat × Int) × List Itm × Unit) ⊕ (Nat × List Itm × Unit)))) key3) (ins hI)
  ·rw [List.getElem?_eq_none (by omega)] at hI
   rw [if_neg (by simp)] at hI
   simp only [Int.toNat_natCast, Nat.sub_zero, item_at hx, wr0, wr1, wr2, wr3, wr4, wr5, wr6, wi]
   refine br_f (decide_eq_false (by omega)) ?_
   refine chk_step (by rw [Bool.and_true]; exact decide_eq_true (by omega)) (chk_step (decide_eq_true (by omega)) (chk_step (decide_eq_true (by omega)) (chk_step (decide_eq_true (by omega)) (chk_step (by rw [Bool.true_and]; exact decide_eq_true (by omega)) (chk_step (decide_eq_true (by omega)) ?_)))))
   exact Eq.trans (congrArg (fun L => (some (Sum.inl ((l, atOf (befI x) out + 1 + (out.length - atOf (befI x) out), ((i + 1 : Nat) : Int)), L, ())) : Option (((List Itm × Nat × Int) × List Itm × Unit) ⊕ (Nat × List Itm × Unit)))) key3) (ins hI)
theorem rsorted_eq (l : List Itm) (hl : l.length ≤ 500) : freshT1 P BLA06 30 72 73 D_l rItem l = some (sortedR l) := by
 rw [fn_rsorted]
 obtain ⟨out, e1, e2⟩ := L_rs1_eq hl l.length 0 [] (by omega) (by simp)
 rw [List.drop_zero] at e1
 simp only [Nat.zero_add, decF_encF]
 refine obs_step e2 ?_
 rw [e1]; rfl
theorem bill_at {l : List RB} {i : Nat} {x : RB} (h : l[i]? = some x) : encN nBill l i = nBill.wr x := encN_at h
theorem decN_encN {ρ : Type} (R : RowN ρ) (l : List ρ) : decN R l.length (encN R l) = l := by
 apply List.ext_getElem?
 intro i
 by_cases hi : i < l.length
 ·simp only [decN, List.getElem?_map, List.getElem?_range hi, Option.map_some]
  rw [encN_at (List.getElem?_eq_getElem hi), R.good, List.getElem?_eq_getElem hi]
 ·rw [List.getElem?_eq_none (by simp [decN]; omega), List.getElem?_eq_none (by omega)]
theorem nb0 (x : RB) : numOf (nBill.wr x 0) = x.number := rfl
theorem nb1 (x : RB) : numOf (nBill.wr x 1) = x.day := rfl
theorem nb2 (x : RB) : numOf (nBill.wr x 2) = x.account := rfl
def atP {α : Type} (l : List α) (p : α → Bool) (j : Nat) : Bool := match l[j]? with
 | some y => p y
 | none => false
def billI (l : List RB) (n : Int) : Int := match billR l n with
 | some i => i
 | none => -1
theorem L_bi_eq (b : RBk) (n : Int) (hl : b.bills.length ≤ 1000) : L_bi ((n, 0), b, ()) = some (match first (atP b.bills fun y => y.number == n) b.bills.length with
  | some j => .inr ((j : Int), ())
  | none => .inl ((), ())) := by
 refine (lim_find (fun i : Nat => ((n, (i : Int)), b, ())) b.bills.length (atP b.bills fun y => y.number == n) (fun j => .inr ((j : Int), ())) (.inl ((), ())) (fun i hi hp => ?_) (fun i hi hp => ?_) ?_).trans ?_
 ·rw [sl_bi]
  have hy := List.getElem?_eq_getElem hi
  unfold atP at hp
  rw [hy] at hp
  simp only at hp
  simp only [cS (show b.bills.length ≤ 1000000 by omega), Int.toNat_natCast, Nat.zero_add, bill_at hy, nb0]
  exact br_t (decide_eq_true (by omega)) (chk_step (decide_eq_true (by omega)) (br_t hp rfl))
 ·rw [sl_bi]
  have hy := List.getElem?_eq_getElem hi
  unfold atP at hp
  rw [hy] at hp
  simp only at hp
  simp only [cS (show b.bills.length ≤ 1000000 by omega), Int.toNat_natCast, Nat.zero_add, bill_at hy, nb0, decF_encF, decN_encN, wI (show i ≤ 4000000 by omega)]
  exact br_t (decide_eq_true (by omega)) (chk_step (decide_eq_true (by omega)) (br_f hp rfl))
 ·rw [sl_bi]
  simp only [cS (show b.bills.length ≤ 1000000 by omega)]
  exact br_f (decide_eq_false (by omega)) rfl
 ·cases first (atP b.bills fun y => y.number == n) b.bills.length <;> rfl
theorem first_idx {α : Type} (l : List α) (p : α → Bool) : first (atP l p) l.length = l.findIdx? p := by
 cases hf : first (atP l p) l.length with
 | none =>
  symm
  rw [List.findIdx?_eq_none_iff]
  intro x hx
  obtain ⟨i, hi, rfl⟩ := List.getElem_of_mem hx
  have := first_none' hf i hi
  unfold atP at this
  rw [List.getElem?_eq_getElem hi] at this
  exact this
 | some j =>
  obtain ⟨h1, h2, h3⟩ := first_spec hf
  symm
  rw [List.findIdx?_eq_some_iff_getElem]
  unfold atP at h2
  rw [List.getElem?_eq_getElem h1] at h2
  refine ⟨h1, h2, fun i hi => ?_⟩
  have := h3 i hi
  unfold atP at this
  rw [List.getElem?_eq_getElem (show i < l.length by omega)] at this
  simpa using this
def M_rbill (a : RBk × Int) : T Int := .chk (decide (a.1.bills.length ≤ 1000)) (.ret (billI a.1.bills a.2))
theorem rbill_pc (a : RBk × Int) (r : Int) (h : (M_rbill a).run = some r) : PC P 74 (D_rbill.enc a) (dInt.enc r) := by
 obtain ⟨g, e⟩ := chk_ret h
 subst e
 refine call_of okP tLA11 ((fn_rbill a).trans ?_)
 simp only [Nat.zero_add, decF_encF, decN_encN]
 refine obs_step (L_bi_eq a.1 a.2 (of_decide_eq_true g)) ?_
 rw [first_idx a.1.bills (fun y => y.number == a.2)]
 unfold billI billR
 cases a.1.bills.findIdx? fun y => y.number == a.2 <;> rfl
theorem L_he_eq (l : List Bal) (n : Int) (hl : l.length ≤ 1000) : L_he ((l, n, 0), ()) = some (match first (atP l fun y => y.account == n) l.length with
  | some j => .inr ((l.getD j default).amount, ())
  | none => .inl ((), ())) := by
 refine (lim_find (fun i : Nat => ((l, n, (i : Int)), ())) l.length (atP l fun y => y.account == n) (fun j => .inr ((l.getD j default).amount, ())) (.inl ((), ())) (fun i hi hp => ?_) (fun i hi hp => ?_) ?_).trans ?_
 ·rw [sl_he]
  have hy := List.getElem?_eq_getElem hi
  unfold atP at hp
  rw [hy] at hp
  simp only at hp
  simp only [cS (show l.length ≤ 1000000 by omega), Int.toNat_natCast, Nat.zero_add, balr_at hy, bw0, bw1]
  refine br_t (decide_eq_true (by omega)) (chk_step (decide_eq_true (by omega)) (br_t hp (chk_step (decide_eq_true (by omega)) ?_)))
  rw [List.getD_eq_getElem?_getD, hy]; rfl
 ·rw [sl_he]
  have hy := List.getElem?_eq_getElem hi
  unfold atP at hp
  rw [hy] at hp
  simp only at hp
  simp only [cS (show l.length ≤ 1000000 by omega), Int.toNat_natCast, Nat.zero_add, balr_at hy, bw0, decF_encF, wI (show i ≤ 4000000 by omega)]
  exact br_t (decide_eq_true (by omega)) (chk_step (decide_eq_true (by omega)) (br_f hp rfl))
 ·rw [sl_he]
  simp only [cS (show l.length ≤ 1000000 by omega)]
  exact br_f (decide_eq_false (by omega)) rfl
 ·cases first (atP l fun y => y.account == n) l.length <;> rfl
def M_held (a : List Bal × Int) : T Int := .chk (decide (a.1.length ≤ 1000)) (.ret (heldB a.1 a.2))
theorem held_pc (a : List Bal × Int) (r : Int) (h : (M_held a).run = some r) : PC P 126 (D_held.enc a) (dInt.enc r) := by
 obtain ⟨l, n⟩ := a
 obtain ⟨g, e⟩ := chk_ret h
 subst e
 refine call_of okP tLA12 ((fn_held (l, n)).trans ?_)
 simp only [Nat.zero_add, decF_encF]
 refine obs_step (L_he_eq l n (of_decide_eq_true g)) ?_
 rw [first_idx l (fun y => y.account == n)]
 unfold heldB
 cases hf : l.findIdx? fun y => y.account == n with
 | none =>
  rw [List.findIdx?_eq_none_iff] at hf
  rw [List.find?_eq_none.2 (fun x hx => by have := hf x hx; simpa using this)]
  rfl
 | some j =>
  rw [List.findIdx?_eq_some_iff_getElem] at hf
  obtain ⟨h1, h2, h3⟩ := hf
  have hf2 : l.find? (fun b => b.account == n) = some l[j] := by
   rw [List.find?_eq_some_iff_getElem]
   exact ⟨h2, j, h1, rfl, fun i hi => by have := h3 i hi; simpa using this⟩
  rw [hf2]
  show some (l.getD j default).amount = some (l[j]).amount
  rw [List.getD_eq_getElem?_getD, List.getElem?_eq_getElem h1]; rfl
def befB (a : Int) (b : Bal) : Bool := decide (b.account < a)
theorem moreB_at : ∀ (l : List Bal) (a m : Int), moreB l a m = match l[atOf (befB a) l]? with
  | some b => if b.account = a then l.set (atOf (befB a) l) ⟨a, b.amount + m⟩ else l.take (atOf (befB a) l) ++ ⟨a, m⟩ :: l.drop (atOf (befB a) l)
  | none => l.take (atOf (befB a) l) ++ ⟨a, m⟩ :: l.drop (atOf (befB a) l)
 | [], a, m => by simp [moreB, atOf]
 | y :: l, a, m => by
  unfold moreB
  rw [atOf_cons]
  by_cases h : y.account < a
  ·have hb : befB a y = true := decide_eq_true h
   rw [if_pos h, hb, if_pos rfl, moreB_at l a m, List.getElem?_cons_succ, List.take_succ_cons, List.drop_succ_cons]
   cases l[atOf (befB a) l]? with
   | none => rfl
   | some b =>
    simp only
    split <;> rfl
  ·have hb : befB a y = false := decide_eq_false h
   rw [if_neg h, hb]
   simp only [Bool.false_eq_true, if_false, List.getElem?_cons_zero, List.take_zero, List.drop_zero, List.nil_append, List.set_cons_zero]
theorem L_mo_eq {l : List Bal} {a m : Int} (hl : l.length ≤ 1000) : ∀ (d j : Nat), j + d = atOf (befB a) l → L_mo ((l, a, m, (j : Int)), ()) = some ((l, a, m, ((atOf (befB a) l : Nat) : Int)), ()) := by
 have hle := atOf_le (befB a) l
 intro d
 induction d with
 | zero =>
  intro j hj
  refine lim_done ?_
  rw [sl_mo]
  obtain rfl : j = atOf (befB a) l := by omega
  by_cases h : atOf (befB a) l < l.length
  ·have hy := List.getElem?_eq_getElem h
   have hp := atOf_at hy
   generalize l[atOf (befB a) l] = y at hy hp
   simp only [cS (show l.length ≤ 1000000 by omega), Int.toNat_natCast, Nat.zero_add, balr_at hy, bw0, decF_encF]
   exact br_t (decide_eq_true (by omega)) (chk_step (decide_eq_true (by omega)) (br_f hp rfl))
  ·simp only [cS (show l.length ≤ 1000000 by omega), Nat.zero_add, decF_encF]
   exact br_f (decide_eq_false (by omega)) rfl
 | succ d ih =>
  intro j hj
  have hjl : j < l.length := by omega
  have hy := List.getElem?_eq_getElem hjl
  have hp := atOf_lt (show j < atOf (befB a) l by omega) hy
  generalize l[j] = y at hy hp
  refine (lim_step ?_).trans (ih (j + 1) (by omega))
  rw [sl_mo]
  simp only [cS (show l.length ≤ 1000000 by omega), Int.toNat_natCast, Nat.zero_add, balr_at hy, bw0, decF_encF, wI (show j ≤ 4000000 by omega)]
  exact br_t (decide_eq_true (by omega)) (chk_step (decide_eq_true (by omega)) (br_t hp rfl))
def amtB (m : Int) : Prop := -1000000000000 ≤ m ∧ m ≤ 1000000000000
instance (m : Int) : Decidable (amtB m) := by unfold amtB; infer_instance
def M_more (a : List Bal × Int × Int) : T (List Bal) := .chk (decide (a.1.length ≤ 1000 ∧ amtB a.2.2 ∧ ∀ b ∈ a.1, amtB b.amount)) (.ret (moreB a.1 a.2.1 a.2.2))
theorem decF_setB (l : List Bal) (i : Nat) (v : Int) {b : Bal} (hb : l[i]? = some b) : decF rBal l.length (fun j => setR i 1 1 [.int .i64 v] (appG 0 (fun _ _ => .top) fun i k => encF rBal l i k) j) = l.set i ⟨b.account, v⟩ := by
 have e0 : (appG 0 (fun _ _ => AV.top) fun i k => encF rBal l i k) = encF rBal l := by
  funext i k; unfold appG
  rw [show Nat.ble 0 i = true by rw [Nat.ble_eq]; omega]; simp
 rw [e0]
 apply List.ext_getElem?
 intro j
 by_cases hj : j < l.length
 ·rw [List.getElem?_set]
  simp only [decF, List.getElem?_map, List.getElem?_range hj, Option.map_some]
  by_cases e : i = j
  ·subst e
   rw [if_pos rfl, if_pos hj]
   have hbq : Nat.beq i i = true := by simp
   have h0 : setR i 1 1 [AV.int IntKind.i64 v] (encF rBal l) i 0 = encF rBal l i 0 := by simp only [setR, hbq]; rfl
   have h1 : setR i 1 1 [AV.int IntKind.i64 v] (encF rBal l) i 1 = .int .i64 v := by simp only [setR, hbq]; rfl
   show some (⟨numOf (setR i 1 1 [AV.int IntKind.i64 v] (encF rBal l) i 0), numOf (setR i 1 1 [AV.int IntKind.i64 v] (encF rBal l) i 1)⟩ : Bal) = _
   rw [h0, h1, balr_at hb]; rfl
  ·rw [if_neg e]
   have hbq : Nat.beq j i = false := by rw [← Bool.not_eq_true, Nat.beq_eq]; omega
   have hy := List.getElem?_eq_getElem hj
   have e2 : (fun k => setR i 1 1 [AV.int IntKind.i64 v] (encF rBal l) j k) = encF rBal l j := by
    funext k; simp only [setR, hbq]; rfl
   rw [show setR i 1 1 [AV.int IntKind.i64 v] (encF rBal l) j = encF rBal l j from e2, encF_at hy, rBal.good, hy]
 ·rw [List.getElem?_eq_none (by simp [decF]; omega), List.getElem?_eq_none (by simp; omega)]
theorem more_f (a : List Bal × Int × Int) (r : List Bal) (h : (M_more a).run = some r) : freshT1 P BLA13 30 78 38 D_more rBal a = some r := by
 obtain ⟨l, a, m⟩ := a
 obtain ⟨g, e⟩ := chk_ret h
 subst e
 obtain ⟨hl, hm, hb⟩ := of_decide_eq_true g
 simp only at hl hm hb
 rw [fn_more]
 have hle := atOf_le (befB a) l
 simp only [Nat.zero_add, decF_encF]
 refine obs_step (L_mo_eq hl (atOf (befB a) l) 0 (by omega)) ?_
 have hM := moreB_at l a m
 have key3 := app3 rBal l (atOf (befB a) l) hle (fun j k => ([(.int .i64 a : AV), .int .i64 m][j * 2 + k]?).getD .top)
 have ins : moreB l a m = l.take (atOf (befB a) l) ++ ⟨a, m⟩ :: l.drop (atOf (befB a) l) → some (decF rBal (atOf (befB a) l + 1 + (l.length - atOf (befB a) l)) fun i => appG (atOf (befB a) l + 1) (appG (atOf (befB a) l) (appG 0 (fun _ _ => .top) fun i k => encF rBal l i k) (fun j k => ([(.int .i64 a : AV), .int .i64 m][j * 2 + k]?).getD .top)) (fun i k => encF rBal l (atOf (befB a) l + i) k) i) = some (moreB l a m) := fun e => by
  rw [key3, e]; rfl
 dsimp only
 refine chk_step (decide_eq_true (by omega)) ?_
 by_cases hlt : atOf (befB a) l < l.length
 ·have hy := List.getElem?_eq_getElem hlt
  have hmem := List.getElem_mem hlt
  generalize l[atOf (befB a) l] = y at hy hmem
  rw [hy] at hM
  simp only at hM
  have hya := hb y hmem
  unfold amtB at hya hm
  simp only [cS (show l.length ≤ 1000000 by omega), Int.toNat_natCast, Nat.sub_zero, balr_at hy, bw0]
  refine br_t (decide_eq_true (by omega)) (chk_step (decide_eq_true (by omega)) ?_)
  by_cases hay : y.account = a
  ·rw [if_pos hay] at hM
   refine br_t (beq_iff_eq.2 hay) (chk_step (decide_eq_true (by omega)) (chk_step (decide_eq_true (by omega)) ?_))
   have e1 : numOf (appG 0 (fun _ _ => AV.top) (fun i k => encF rBal l i k) (atOf (befB a) l) 1) = y.amount := by
    unfold appG
    rw [show Nat.ble 0 (atOf (befB a) l) = true by rw [Nat.ble_eq]; omega]
    simp only [Nat.sub_zero]
    rw [balr_at hy]; rfl
   rw [e1, w64_in (by omega) (by omega), hM]
   show some (decF rBal l.length fun j => setR (atOf (befB a) l) 1 1 [.int .i64 (y.amount + m)] (appG 0 (fun _ _ => .top) fun i k => encF rBal l i k) j) = _
   rw [decF_setB l _ _ hy, hay]
  ·rw [if_neg hay] at hM
   refine br_f (by rw [beq_eq_false_iff_ne]; exact hay) (chk_step (by rw [Bool.and_true]; exact decide_eq_true (by omega)) (chk_step (decide_eq_true (by omega)) (chk_step (decide_eq_true (by omega)) (chk_step (by rw [Bool.true_and]; exact decide_eq_true (by omega)) (chk_step (decide_eq_true (by omega)) ?_)))))
   exact ins hM
 ·rw [List.getElem?_eq_none (by omega)] at hM
  simp only at hM
  simp only [cS (show l.length ≤ 1000000 by omega), Int.toNat_natCast, Nat.sub_zero]
  refine br_f (decide_eq_false (by omega)) (chk_step (by rw [Bool.and_true]; exact decide_eq_true (by omega)) (chk_step (decide_eq_true (by omega)) (chk_step (decide_eq_true (by omega)) (chk_step (by rw [Bool.true_and]; exact decide_eq_true (by omega)) (chk_step (decide_eq_true (by omega)) ?_)))))
  exact ins hM
def befN (n b : Int) : Bool := decide (b < n)
theorem addL_at : ∀ (l : List Int) (n : Int), addL l n = l.take (atOf (befN n) l) ++ n :: l.drop (atOf (befN n) l)
 | [], n => by simp [addL, atOf]
 | y :: l, n => by
  unfold addL
  rw [atOf_cons]
  by_cases h : y < n
  ·have hb : befN n y = true := decide_eq_true h
   rw [if_pos h, hb, if_pos rfl, addL_at l n, List.take_succ_cons, List.drop_succ_cons]; rfl
  ·have hb : befN n y = false := decide_eq_false h
   rw [if_neg h, hb]
   simp only [Bool.false_eq_true, if_false, List.take_zero, List.drop_zero, List.nil_append]
theorem L_ad_eq {l : List Int} {n : Int} (hl : l.length ≤ 1000) : ∀ (d j : Nat), j + d = atOf (befN n) l → L_ad ((l, n, (j : Int)), ()) = some ((l, n, ((atOf (befN n) l : Nat) : Int)), ()) := by
 have hle := atOf_le (befN n) l
 intro d
 induction d with
 | zero =>
  intro j hj
  refine lim_done ?_
  rw [sl_ad]
  obtain rfl : j = atOf (befN n) l := by omega
  by_cases h : atOf (befN n) l < l.length
  ·have hy := List.getElem?_eq_getElem h
   have hp := atOf_at hy
   generalize l[atOf (befN n) l] = y at hy hp
   simp only [cS (show l.length ≤ 1000000 by omega), Int.toNat_natCast, Nat.zero_add, int_at hy, iw0, decF_encF]
   exact br_t (decide_eq_true (by omega)) (chk_step (decide_eq_true (by omega)) (br_f hp rfl))
  ·simp only [cS (show l.length ≤ 1000000 by omega), Nat.zero_add, decF_encF]
   exact br_f (decide_eq_false (by omega)) rfl
 | succ d ih =>
  intro j hj
  have hjl : j < l.length := by omega
  have hy := List.getElem?_eq_getElem hjl
  have hp := atOf_lt (show j < atOf (befN n) l by omega) hy
  generalize l[j] = y at hy hp
  refine (lim_step ?_).trans (ih (j + 1) (by omega))
  rw [sl_ad]
  simp only [cS (show l.length ≤ 1000000 by omega), Int.toNat_natCast, Nat.zero_add, int_at hy, iw0, decF_encF, wI (show j ≤ 4000000 by omega)]
  exact br_t (decide_eq_true (by omega)) (chk_step (decide_eq_true (by omega)) (br_t hp rfl))
def M_add (a : List Int × Int) : T (List Int) := .chk (decide (a.1.length ≤ 1000)) (.ret (addL a.1 a.2))
theorem add_f (a : List Int × Int) (r : List Int) (h : (M_add a).run = some r) : freshT1 P BLA14 30 85 3 D_add rInt a = some r := by
 obtain ⟨l, n⟩ := a
 obtain ⟨g, e⟩ := chk_ret h
 subst e
 have hl := of_decide_eq_true g
 simp only at hl
 rw [fn_add]
 have hle := atOf_le (befN n) l
 simp only [Nat.zero_add, decF_encF]
 refine obs_step (L_ad_eq hl (atOf (befN n) l) 0 (by omega)) ?_
 have key3 := app3 rInt l (atOf (befN n) l) hle (fun j k => ([(.int .i64 n : AV)][j * 1 + k]?).getD .top)
 simp only [Int.toNat_natCast, Nat.sub_zero]
 refine chk_step (by rw [Bool.and_true]; exact decide_eq_true (by omega)) (chk_step (decide_eq_true (by omega)) (chk_step (decide_eq_true (by omega)) (chk_step (by rw [Bool.true_and]; exact decide_eq_true (by omega)) (chk_step (decide_eq_true (by omega)) ?_))))
 rw [addL_at]
 refine Eq.trans ?_ (congrArg some key3)
 rfl
end K
noncomputable def BLA21 : Tab := BLA14.addTurn 72 (freshE 73 D_l rItem (fun l => .chk (decide (l.length ≤ 500)) (.ret (K.sortedR l))))
theorem tLA21 : TabOk P BLA21 := TabOk.addFC tLA14 (D := D_l) (R := rItem) (M := (fun l => .chk (decide (l.length ≤ 500)) (.ret (K.sortedR l)))) (fun a r h => by obtain ⟨g, e⟩ := chk_ret h; subst e; exact fresh_of (d := 30) okP tLA06 (K.rsorted_eq a (of_decide_eq_true g)))
noncomputable def BLA22 : Tab := BLA21.addCall 74 (callE D_rbill dInt K.M_rbill)
theorem tLA22 : TabOk P BLA22 := TabOk.addPC tLA21 (K.rbill_pc)
noncomputable def BLA23 : Tab := BLA22.addCall 126 (callE D_held dInt K.M_held)
theorem tLA23 : TabOk P BLA23 := TabOk.addPC tLA22 (K.held_pc)
noncomputable def BLA24 : Tab := BLA23.addTurn 78 (freshE 38 D_more rBal K.M_more)
theorem tLA24 : TabOk P BLA24 := TabOk.addFC tLA23 (D := D_more) (R := rBal) (M := K.M_more) (fun a r h => fresh_of (d := 30) okP tLA13 (K.more_f a r h))
noncomputable def BLA25 : Tab := BLA24.addTurn 85 (freshE 3 D_add rInt K.M_add)
theorem tLA25 : TabOk P BLA25 := TabOk.addFC tLA24 (D := D_add) (R := rInt) (M := K.M_add) (fun a r h => fresh_of (d := 30) okP tLA14 (K.add_f a r h))
end Go.Proofs.YtelpdkojdfnmiaaGreat
/-! LA3 -/
namespace Go.Proofs.YtelpdkojdfnmiaaGreat
open Ev K
set_option maxRecDepth 100000
set_option maxHeartbeats 0
def D_rbad := DecL.cons dBkR (.last dItem 0)
noncomputable def K.r_bad (a : RBk × Itm) : Option (Bool) := T.run (
 let q1 := decF rBal (List.length (RBk.bonds a.1)) fun i => encF rBal (RBk.bonds a.1) ((0 : Nat) + i);
 let q12 := Itm.kind a.2 == (4 : Int);
 let q3 := decF rBal (List.length (RBk.paid a.1)) fun i => encF rBal (RBk.paid a.1) ((0 : Nat) + i);
 let q10 := decide (List.length q3 ≤ (1000 : Nat));
 let q9 := decide (heldB q3 (Itm.account a.2) < Itm.amount a.2);
 let q11 := Itm.kind a.2 == (6 : Int);
 let q6 := decide (List.length q1 ≤ (1000 : Nat));
 let q5 := decide (heldB q1 (Itm.account a.2) < Itm.amount a.2);
 let q7 : T _ := .br q11 (
         .chk q6 <|
         .ret q5) (
         .ret (false));
 let q8 : T _ := .br q11 (
        .chk q6 <|
        .ret q5) (
        .ret (false));
 let q2 : T _ := .br q12 (
       .chk q10 <|
       .br q9 (
        .ret (true)) q7) q8;
 let q4 := decN nBill (List.length (RBk.bills a.1)) fun i => encN nBill (RBk.bills a.1) ((0 : Nat) + i);
 let q13 := decide (billI q4 (Itm.bill a.2) < (0 : Int));
 .br (Itm.kind a.2 == (7 : Int)) (
  .ret (decide (Itm.day a.2 ≤ RBk.closed a.1))) (
  .chk (decide (List.length q4 ≤ (1000 : Nat))) <|
  .br (decide (IntKind.wrap IntKind.i64 (RBk.closed a.1 + (1 : Int)) > (728 : Int))) (
   .ret (true)) (
   .br (Itm.kind a.2 == (1 : Int)) (
    .br (decide (billI q4 (Itm.bill a.2) ≥ (0 : Int))) (
     .ret (true)) (
     .br (Itm.kind a.2 == (2 : Int)) (
      .br q13 (
       .ret (true)) (
       .br q12 (
        .chk q10 <|
        .br q9 (
         .ret (true)) (
         .br q11 (
          .chk q6 <|
          .ret q5) (
          .ret (false)))) q7)) q2)) (
    .br (Itm.kind a.2 == (2 : Int)) (
     .br q13 (
      .ret (true)) q2) (
     .br q12 (
      .chk q10 <|
      .br q9 (
       .ret (true)) q8) (
      .br q11 (
       .chk q6 <|
       .ret q5) (
       .ret (false))))))))
theorem eq_r_bad (a : RBk × Itm) : (callT1 P BLA25 30 108 D_rbad dB) a = K.r_bad a := by kernel_rfl
noncomputable def BLA31 : Tab := BLA25.addCall 108 (callE D_rbad dB (fun a => .obs (K.r_bad a) .ret))
theorem tLA31 : TabOk P BLA31 := TabOk.addFn (d := 30) okP tLA25 (fun a r h => by rw [eq_r_bad]; exact obs_ret h)
noncomputable def BLA32 : Tab := BLA31.addInl 73
theorem tLA32 : TabOk P BLA32 := TabOk.addInl tLA31
noncomputable def BLA33 : Tab := BLA32.addInl 109
theorem tLA33 : TabOk P BLA33 := TabOk.addInl tLA32
noncomputable def BLA34 : Tab := BLA33.addPiv 25 [13]
theorem tLA34 : TabOk P BLA34 := TabOk.addPiv tLA33
abbrev BkRP := Int × Nat × Nat × Nat × Nat × Nat × Nat
def lBkO : DecL BkRP := .cons dInt (.cons (dO 2) (.cons (dO 3) (.cons (dO 4) (.cons (dO 5) (.cons (dO 6) (.last (dO 7) 0))))))
def lBkX : DecL BkRP := .cons dInt (.cons (dO 2) (.cons (dO 3) (.cons (dO 4) (.cons (dO 5) (.cons (dO 6) (.last (dO 7) 0))))))
abbrev KpObj := Unit × BkRP × List Pst × List Int × List RB × List Bal × List Bal × List Itm × List Itm × Unit
def O_kp : DecB KpObj := .flat 54 (.tops 8) (.flat 52 lBkO (.rows 23 rPost (.rows 3 rInt (.rowsN 124 nBill (.rows 38 rBal (.rows 38 rBal (.rows 73 rItem (.rows 73 rItem .nil))))))))
abbrev KpObjX := Unit × BkRP × List Pst × List Int × List RB × List Bal × List Bal × List Itm × Unit
def O_kpx : DecB KpObjX := .flat 54 (.tops 8) (.flat 52 lBkX (.rows 23 rPost (.rows 3 rInt (.rowsN 124 nBill (.rows 38 rBal (.rows 38 rBal (.rows 73 rItem .nil)))))))
def S_kp := DecS.ghostF 7 1 23 4 [.int .i64, .int .i64, .int .i64, .int .i64] (DecS.ghostF 7 2 3 1 [.int .i64] (DecS.ghostF 7 3 124 4 [.int .i64, .int .i64, .int .i64, .sl 2 [.int .i64, .int .i64]] (DecS.ghostF 7 4 38 2 [.int .i64, .int .i64] (DecS.ghostF 7 5 38 2 [.int .i64, .int .i64] (DecS.ghostF 7 6 73 7 [.int .i64, .int .i64, .int .i64, .int .i64, .int .i64, .int .i64, .int .i64] (DecS.mk0 (.skip (.cons (dInt) (.skips 2 (.unit (dLp 0 0 0 0) (.skips 2 (.unit (dLp 1 0 0 0) (.cons (dO 8) (.last (dInt) 35)))))))) O_kp))))))
def X_kp := DecX.one (.exit 0) [4, 7] (DecS.mk0 (.skips 4 (.unit (dLp 0 0 0 0) (.skips 2 (.unit (dLp 1 0 0 0) (.tops 37))))) O_kpx)
noncomputable def K.st_kp := loopT1 P BLA34 30 25 81 [9, 7, 8, 1, 4] S_kp X_kp
theorem sl_kp : ∀ s, (K.st_kp) s = T.run (
 let q18 := s.2.2.2.2.2.2.2.2.1;
 let q54 := List.length q18;
 let q62 := encF rItem q18;
 let q3 := s.2.2.2.2.2.2.2.2.2.1;
 let q5 := Int.toNat s.1.2.2;
 let q25 := (0 : Nat);
 let q13 := numOf (encF rItem q3 q5 q25);
 let q42 := encF rItem q3 q5 (nat_lit 1);
 let q29 := encF rItem q3 q5 (nat_lit 2);
 let q37 := encF rItem q3 q5 (nat_lit 3);
 let q24 := numOf (encF rItem q3 q5 (nat_lit 4));
 let q11 := numOf (encF rItem q3 q5 (nat_lit 5));
 let q57 := encF rItem q3 q5 (nat_lit 6);
 let q12 := numOf q57;
 let q1 := appG q54 q62 fun i k => Option.getD [AV.int IntKind.i64 q13, AV.int IntKind.i64 (numOf q42), AV.int IntKind.i64 (numOf q29), AV.int IntKind.i64 (numOf q37), AV.int IntKind.i64 q24, AV.int IntKind.i64 q11, AV.int IntKind.i64 q12][(q25 + i) * (7 : Nat) + k]? AV.top;
 let q10 := s.2.2.2.2.2.1;
 let q38 := List.length q10;
 let q17 := decN nBill q38 fun i => encN nBill q10 (q25 + i);
 let q2 := Int.toNat (billI q17 q24);
 let q48 := s.2.2.1.1;
 let q50 := (1 : Int);
 let q4 := if IntKind.wrap IntKind.i64 (q48 + q50) > numOf q37 then IntKind.wrap IntKind.i64 (q48 + q50) else numOf q37;
 let q59 := (0 : Int);
 let q6 := IntKind.wrap IntKind.i64 (q59 - numOf q57);
 let q21 := s.2.2.2.2.2.2.2.1;
 let q35 := List.length q21;
 let q7 := decF rBal q35 fun i => encF rBal q21 (q25 + i);
 let q27 := s.2.2.2.1;
 let q47 := (2 : Nat);
 let q33 := List.length q27 + q47;
 let q45 := (140737488355328 : Nat);
 let q8 := decide (q33 * (32 : Nat) ≤ q45 ∧ List.length q27 + q47 ≤ nat_lit 9223372036854775807);
 let q23 := List.length s.2.2.2.2.2.2.1;
 let q9 := decF rBal q23 fun i => encF rBal s.2.2.2.2.2.2.1 (q25 + i);
 let q14 := (s.1.1, s.1.2.1, IntKind.wrap IntKind.i64 (s.1.2.2 + q50));
 let q15 := encN nBill q10 q2 (nat_lit 3);
 let q16 := (1 : Nat);
 let q28 := List.length s.2.2.2.2.1;
 let q19 := decF rInt q28 fun i => encF rInt s.2.2.2.2.1 (q25 + i);
 let q39 := encF rItem q3;
 let q20 := Get.f (Get.mk (RowD.tags rItem) q39) q5 (q25 + q16 + q16 + q16 + q16 + q16 + q16);
 let q22 := Get.f (Get.mk (RowD.tags rItem) q39) q5 (q25 + q16 + q16 + q16 + q16 + q16);
 let q26 := encF rBal s.2.2.2.2.2.2.1;
 let q55 := encN nBill q10 q2 (nat_lit 1);
 let q30 := if IntKind.wrap IntKind.i64 (q48 + q50) > numOf q55 then IntKind.wrap IntKind.i64 (q48 + q50) else numOf q55;
 let q31 := encF rInt s.2.2.2.2.1;
 let q46 := (↑(clampL (slLen q15)) : Int) - q50;
 let q32 := numOf q57 - numOf (slF q15 (slRow q15 + Int.toNat (IntKind.wrap IntKind.i64 q46)) (nat_lit 1));
 let q34 := List.length q27;
 let q36 := List.length q18 + q16;
 let q40 := encF rPost q27;
 let q41 := encN nBill q10;
 let q43 := encF rBal q21;
 let q44 := List.length q3;
 let q49 := s.2.2.1.2.2.2.2.2.1;
 let q51 := s.2.2.1.2.2.1;
 let q52 := s.2.2.1.2.2.2.1;
 let q53 := decide (q59 ≤ s.1.2.2 ∧ s.1.2.2 < (↑s.1.2.1 : Int));
 let q56 := s.2.2.1.2.2.2.2.1;
 let q58 := (1000 : Nat);
 let q60 := q25 + slLen q15 + q16;
 let q61 := q25 + List.length q10;
 let q63 := RowD.tags rBal;
 let q64 := (4 : Nat);
 let q65 := numOf (encN nBill q10 q2 (nat_lit 2));
 let q66 := moreB q9 q11 q12;
 let q67 := moreB q7 q11 q12;
 let q68 := moreB q9 q11 q6;
 let q69 := moreB q7 q11 q6;
 .br (decide (s.1.2.2 < (↑s.1.2.1 : Int))) (
  .chk q53 <|
  .br (decide (numOf q42 ≤ s.1.1)) (
   .chk q53 <|
   .obs (r_bad (RBk.mk q48 (decF rPost q34 fun i => encF rPost q27 (q25 + i)) q19 q17 q9 q7 (decF rItem q54 fun i => encF rItem q18 (q25 + i)), Itm.mk q13 (numOf q42) (numOf q29) (numOf q37) q24 q11 q12)) fun x0 =>
    .br (x0) (
     .chk (decide (List.length q19 ≤ q58)) <|
     .ret (Sum.inl (q14, PUnit.unit, (q48, s.2.2.1.2.1, List.length (K.addL q19 q13), s.2.2.1.2.2.2), decF rPost q34 q40, decF rInt (List.length (K.addL q19 q13)) (encF rInt (K.addL q19 q13)), decN nBill q38 q41, decF rBal q23 q26, decF rBal q35 q43, decF rItem q54 q62, decF rItem q44 q39, PUnit.unit))) (
     .chk (decide (q36 * (56 : Nat) ≤ q45 ∧ List.length q18 + q16 ≤ nat_lit 9223372036854775807)) <|
     .br (numOf q29 == q50) (
      .chk (decide ((List.length q10 + q16) * (48 : Nat) ≤ q45 ∧ List.length q10 + q16 ≤ nat_lit 9223372036854775807)) <|
      .chk q8 <|
      .ret (Sum.inl (q14, PUnit.unit, (q48, List.length q27 + q47, q51, List.length q10 + q16, q56, q49, List.length q18 + q16), decF rPost q33 (appG q34 q40 fun i k => Option.getD [AV.int IntKind.i64 q13, AV.int IntKind.i64 q4, AV.int IntKind.i64 q11, AV.int IntKind.i64 q12, AV.int IntKind.i64 q13, AV.int IntKind.i64 q4, AV.int IntKind.i64 (2 : Int), AV.int IntKind.i64 q6][(q25 + i) * q64 + k]? AV.top), decF rInt q28 q31, decN nBill (List.length q10 + q16) (appG q38 q41 fun i k => Option.getD [AV.int IntKind.i64 q24, AV.int IntKind.i64 (numOf q37), AV.int IntKind.i64 q11, AV.xsl q47 (nat_lit 1) (Get.mk [CK.int IntKind.i64, CK.int IntKind.i64] fun i k => Option.getD [AV.int IntKind.i64 (numOf q42), AV.int IntKind.i64 q12][i * q47 + k]? AV.top) q25 q16 (some q16)][(q25 + i) * q64 + k]? AV.top), decF rBal q23 q26, decF rBal q35 q43, decF rItem q36 q1, decF rItem q44 q39, PUnit.unit))) (
      .br (numOf q29 == (2 : Int)) (
       .chk (decide (List.length q17 ≤ q58)) <|
       .chk (decide (q59 ≤ billI q17 q24 ∧ billI q17 q24 < (↑q52 : Int))) <|
       .chk (decide (q59 ≤ IntKind.wrap IntKind.i64 q46 ∧ IntKind.wrap IntKind.i64 q46 < (↑(slLen q15) : Int))) <|
       .chk (decide ((q25 + slLen q15) * (16 : Nat) ≤ q45 ∧ q25 + slLen q15 ≤ nat_lit 9223372036854775807)) <|
       .chk (decide (q60 * (16 : Nat) ≤ q45 ∧ q25 + slLen q15 + q16 ≤ nat_lit 9223372036854775807)) <|
       .chk (decide (q61 * (48 : Nat) ≤ q45 ∧ q25 + List.length q10 ≤ nat_lit 9223372036854775807)) <|
       .chk (decide (q59 ≤ billI q17 q24 ∧ billI q17 q24 < (↑q61 : Int))) <|
       .chk q8 <|
       .ret (Sum.inl (q14, PUnit.unit, (q48, List.length q27 + q47, q51, q25 + List.length q10, q56, q49, List.length q18 + q16), decF rPost q33 (appG q34 q40 fun i k => Option.getD [AV.int IntKind.i64 q13, AV.int IntKind.i64 q30, AV.int IntKind.i64 q65, AV.int IntKind.i64 (IntKind.wrap IntKind.i64 q32), AV.int IntKind.i64 q13, AV.int IntKind.i64 q30, AV.int IntKind.i64 (2 : Int), AV.int IntKind.i64 (IntKind.wrap IntKind.i64 (q59 - IntKind.wrap IntKind.i64 q32))][(q25 + i) * q64 + k]? AV.top), decF rInt q28 q31, decN nBill q61 (setR q2 q25 (nat_lit 4) [AV.int IntKind.i64 (numOf (encN nBill q10 q2 q25)), AV.int IntKind.i64 (numOf q55), AV.int IntKind.i64 q65, AV.xsl q47 q60 (Get.mk [CK.int IntKind.i64, CK.int IntKind.i64] (appG (q25 + slLen q15) (appG q25 (fun _x _x_1 => AV.top) fun i k => slF q15 (slRow q15 + i) k) fun i k => Option.getD [AV.int IntKind.i64 (numOf q42), AV.int IntKind.i64 q12][(q25 + i) * q47 + k]? AV.top)) q25 q60 none] (appG q25 (fun _x _x_1 => AV.top) q41)), decF rBal q23 q26, decF rBal q35 q43, decF rItem q36 q1, decF rItem q44 q39, PUnit.unit))) (
       .br (numOf q29 == (3 : Int)) (
        .chk (decide (List.length q9 ≤ q58 ∧ amtB q12 ∧ ∀ (b : Bal), b ∈ Prod.fst (decF rBal q23 fun i => Get.f (Get.mk q63 q26) (q25 + i), numOf q22, numOf q20) → amtB (Bal.amount b))) <|
        .chk q8 <|
        .ret (Sum.inl (q14, PUnit.unit, (q48, List.length q27 + q47, q51, q52, List.length q66, q49, List.length q18 + q16), decF rPost q33 (appG q34 q40 fun i k => Option.getD [AV.int IntKind.i64 q13, AV.int IntKind.i64 q4, AV.int IntKind.i64 q50, AV.int IntKind.i64 q12, AV.int IntKind.i64 q13, AV.int IntKind.i64 q4, AV.int IntKind.i64 q11, AV.int IntKind.i64 q6][(q25 + i) * q64 + k]? AV.top), decF rInt q28 q31, decN nBill q38 q41, decF rBal (List.length q66) (encF rBal q66), decF rBal q35 q43, decF rItem q36 q1, decF rItem q44 q39, PUnit.unit))) (
        .br (numOf q29 == (4 : Int)) (
         .chk (decide (List.length q9 ≤ q58 ∧ amtB q6 ∧ ∀ (b : Bal), b ∈ Prod.fst (decF rBal q23 fun i => Get.f (Get.mk q63 q26) (q25 + i), numOf q22, IntKind.wrap IntKind.i64 (q59 - numOf q20)) → amtB (Bal.amount b))) <|
         .chk q8 <|
         .ret (Sum.inl (q14, PUnit.unit, (q48, List.length q27 + q47, q51, q52, List.length q68, q49, List.length q18 + q16), decF rPost q33 (appG q34 q40 fun i k => Option.getD [AV.int IntKind.i64 q13, AV.int IntKind.i64 q4, AV.int IntKind.i64 q11, AV.int IntKind.i64 q12, AV.int IntKind.i64 q13, AV.int IntKind.i64 q4, AV.int IntKind.i64 q50, AV.int IntKind.i64 q6][(q25 + i) * q64 + k]? AV.top), decF rInt q28 q31, decN nBill q38 q41, decF rBal (List.length q68) (encF rBal q68), decF rBal q35 q43, decF rItem q36 q1, decF rItem q44 q39, PUnit.unit))) (
         .br (numOf q29 == (5 : Int)) (
          .chk (decide (List.length q7 ≤ q58 ∧ amtB q12 ∧ ∀ (b : Bal), b ∈ Prod.fst (decF rBal q35 fun i => Get.f (Get.mk q63 q43) (q25 + i), numOf q22, numOf q20) → amtB (Bal.amount b))) <|
          .chk q8 <|
          .ret (Sum.inl (q14, PUnit.unit, (q48, List.length q27 + q47, q51, q52, q56, List.length q67, List.length q18 + q16), decF rPost q33 (appG q34 q40 fun i k => Option.getD [AV.int IntKind.i64 q13, AV.int IntKind.i64 q4, AV.int IntKind.i64 q50, AV.int IntKind.i64 q12, AV.int IntKind.i64 q13, AV.int IntKind.i64 q4, AV.int IntKind.i64 (3 : Int), AV.int IntKind.i64 q6][(q25 + i) * q64 + k]? AV.top), decF rInt q28 q31, decN nBill q38 q41, decF rBal q23 q26, decF rBal (List.length q67) (encF rBal q67), decF rItem q36 q1, decF rItem q44 q39, PUnit.unit))) (
          .br (numOf q29 == (6 : Int)) (
           .chk (decide (List.length q7 ≤ q58 ∧ amtB q6 ∧ ∀ (b : Bal), b ∈ Prod.fst (decF rBal q35 fun i => Get.f (Get.mk q63 q43) (q25 + i), numOf q22, IntKind.wrap IntKind.i64 (q59 - numOf q20)) → amtB (Bal.amount b))) <|
           .chk q8 <|
           .ret (Sum.inl (q14, PUnit.unit, (q48, List.length q27 + q47, q51, q52, q56, List.length q69, List.length q18 + q16), decF rPost q33 (appG q34 q40 fun i k => Option.getD [AV.int IntKind.i64 q13, AV.int IntKind.i64 q4, AV.int IntKind.i64 (3 : Int), AV.int IntKind.i64 q12, AV.int IntKind.i64 q13, AV.int IntKind.i64 q4, AV.int IntKind.i64 q50, AV.int IntKind.i64 q6][(q25 + i) * q64 + k]? AV.top), decF rInt q28 q31, decN nBill q38 q41, decF rBal q23 q26, decF rBal (List.length q69) (encF rBal q69), decF rItem q36 q1, decF rItem q44 q39, PUnit.unit))) (
           .ret (Sum.inl (q14, PUnit.unit, (numOf q37, s.2.2.1.2.1, q51, q52, q56, q49, List.length q18 + q16), decF rPost q34 q40, decF rInt q28 q31, decN nBill q38 q41, decF rBal q23 q26, decF rBal q35 q43, decF rItem q36 q1, decF rItem q44 q39, PUnit.unit)))))))))) (
   .ret (Sum.inl (q14, PUnit.unit, s.2.2.1, decF rPost q34 q40, decF rInt q28 q31, decN nBill q38 q41, decF rBal q23 q26, decF rBal q35 q43, decF rItem q54 q62, decF rItem q44 q39, PUnit.unit)))) (
  .ret (Sum.inr (PUnit.unit, PUnit.unit, s.2.2.1, decF rPost q34 q40, decF rInt q28 q31, decN nBill q38 q41, decF rBal q23 q26, decF rBal q35 q43, decF rItem q54 q62, PUnit.unit)))) := fun s => by kernel_rfl
end Go.Proofs.YtelpdkojdfnmiaaGreat
/-! LA4 -/
namespace Go.Proofs.YtelpdkojdfnmiaaGreat
open Ev K
set_option maxRecDepth 100000
namespace K
def kpO (l : List Itm) (b : RBk) : KpObj := ((), (b.closed, b.p.length, b.refused.length, b.bills.length, b.paid.length, b.bonds.length, b.stands.length), b.p, b.refused, b.bills, b.paid, b.bonds, b.stands, l, ())
theorem pushD (l : List Pst) (a b c d a' b' c' d' : Int) : decF rPost (l.length + 2) (appG l.length (encF rPost l) fun i k => ([(.int .i64 a : AV), .int .i64 b, .int .i64 c, .int .i64 d, .int .i64 a', .int .i64 b', .int .i64 c', .int .i64 d'][i * 4 + k]?).getD .top) = l ++ [⟨a, b, c, d⟩, ⟨a', b', c', d'⟩] := decF_app rPost l 2 _
theorem decN_app {ρ : Type} (R : RowN ρ) (l : List ρ) (m : Nat) (g : Nat → Nat → AV) : decN R (l.length + m) (appG l.length (encN R l) g) = l ++ decN R m g := by
 apply List.ext_getElem?
 intro i
 simp only [decN, List.getElem?_map]
 by_cases h : i < l.length
 ·have e : appG l.length (encN R l) g i = encN R l i := by
   funext k; unfold appG; rw [show Nat.ble l.length i = false by rw [← Bool.not_eq_true, Nat.ble_eq]; omega]
  rw [List.getElem?_append_left h, List.getElem?_range (by omega), List.getElem?_eq_getElem h, Option.map_some, e, encN_at (List.getElem?_eq_getElem h), R.good]
 ·have e : appG l.length (encN R l) g i = g (i - l.length) := by
   funext k; unfold appG; rw [show Nat.ble l.length i = true by rw [Nat.ble_eq]; omega]
  rw [List.getElem?_append_right (by omega), List.getElem?_map]
  by_cases h2 : i < l.length + m
  ·rw [List.getElem?_range h2, List.getElem?_range (by omega), Option.map_some, Option.map_some, e]
  ·rw [List.getElem?_eq_none (by simp; omega), List.getElem?_eq_none (by simp; omega)]; rfl
theorem pushR (l : List RB) (a b c u v : Int) : decN nBill (l.length + 1) (appG l.length (encN nBill l) fun i k => ([(.int .i64 a : AV), .int .i64 b, .int .i64 c, .xsl 2 1 ⟨[CK.int IntKind.i64, CK.int IntKind.i64], fun i k => ([(.int .i64 u : AV), .int .i64 v][i * 2 + k]?).getD .top⟩ 0 1 (some 1)][i * 4 + k]?).getD .top) = l ++ [⟨a, b, c, [⟨u, v⟩]⟩] := decN_app nBill l 1 _
theorem sl3 (x : RB) : nBill.wr x 3 = slOf rChg x.l := rfl
theorem setN {ρ : Type} (R : RowN ρ) (l : List ρ) (q : Nat) (y : ρ) (hq : q < l.length) (xs : List AV) (hx : R.rd (fun k => (xs[k]?).getD .top) = y) (hw : R.wd = xs.length) (hr : ∀ f g : Nat → AV, (∀ k, k < R.wd → f k = g k) → R.rd f = R.rd g) : decN R l.length (setR q 0 xs.length xs (appG 0 (fun _ _ => .top) (encN R l))) = l.set q y := by
 apply List.ext_getElem?
 intro i
 simp only [decN, List.getElem?_map, List.getElem?_set]
 by_cases h : i < l.length
 ·rw [List.getElem?_range h, Option.map_some]
  by_cases e : q = i
  ·subst e
   rw [if_pos rfl, if_pos hq, ← hx]
   congr 1
   apply hr
   intro k hk
   unfold setR
   have hb : (Nat.beq q q && (Nat.ble 0 k && Nat.blt k (0 + xs.length))) = true := by
    simp [Nat.blt_eq]; omega
   rw [hb]; simp
  ·rw [if_neg e, List.getElem?_eq_getElem h]
   congr 1
   have e2 : setR q 0 xs.length xs (appG 0 (fun _ _ => .top) (encN R l)) i = encN R l i := by
    funext k; unfold setR
    have hb : (Nat.beq i q && (Nat.ble 0 k && Nat.blt k (0 + xs.length))) = false := by
     rw [show Nat.beq i q = false by rw [← Bool.not_eq_true, Nat.beq_eq]; exact fun h => e h.symm]; rfl
    rw [hb]; simp only
    unfold appG; rw [show Nat.ble 0 i = true by rw [Nat.ble_eq]; omega]; rfl
   rw [e2, encN_at (List.getElem?_eq_getElem h), R.good]
 ·rw [List.getElem?_eq_none (by simp; omega)]
  by_cases e : q = i
  ·subst e; exact absurd hq h
  ·rw [if_neg e, List.getElem?_eq_none (by omega)]; rfl
theorem billI_ge (l : List RB) (n : Int) : decide (billI l n ≥ 0) = (billR l n).isSome := by
 unfold billI
 cases billR l n with
 | none => rfl
 | some q => simp only [Option.isSome_some, decide_eq_true_eq]; omega
theorem billI_lt (l : List RB) (n : Int) : decide (billI l n < 0) = !(billR l n).isSome := by
 unfold billI
 cases billR l n with
 | none => rfl
 | some q => simp only [Option.isSome_some, Bool.not_true, decide_eq_false_iff_not]; omega
set_option maxHeartbeats 0 in
theorem r_bad_eq {b : RBk} {x : Itm} (h1 : b.bills.length ≤ 1000) (h2 : b.paid.length ≤ 1000) (h3 : b.bonds.length ≤ 1000) (h4 : -1 ≤ b.closed) (h5 : b.closed ≤ 1000000) : r_bad (b, x) = some (badR b x) := by
 unfold r_bad
 have w1 : IntKind.i64.wrap (b.closed + 1) = b.closed + 1 := w64_in (by omega) (by omega)
 have g1 : decide (b.bills.length ≤ 1000) = true := decide_eq_true h1
 have g2 : decide (b.paid.length ≤ 1000) = true := decide_eq_true h2
 have g3 : decide (b.bonds.length ≤ 1000) = true := decide_eq_true h3
 simp only [Nat.zero_add, decF_encF, decN_encN, billI_ge, billI_lt, w1]
 unfold badR
 by_cases k7 : x.kind = 7
 ·refine br_t (by rw [beq_iff_eq]; exact k7) ?_
  rw [if_pos k7]; rfl
 refine br_f (by rw [beq_eq_false_iff_ne]; exact k7) ?_
 rw [if_neg k7]
 refine chk_step g1 ?_
 by_cases c1 : b.closed + 1 > 728
 ·refine br_t (decide_eq_true c1) ?_
  rw [decide_eq_true c1]; rfl
 refine br_f (decide_eq_false c1) ?_
 rw [decide_eq_false c1]
 by_cases k1 : x.kind = 1
 ·refine br_t (by rw [beq_iff_eq]; exact k1) ?_
  cases hb : (billR b.bills x.bill).isSome <;> simp [k1, T.run]
 refine br_f (by rw [beq_eq_false_iff_ne]; exact k1) ?_
 by_cases k2 : x.kind = 2
 ·refine br_t (by rw [beq_iff_eq]; exact k2) ?_
  cases hb : (billR b.bills x.bill).isSome <;> simp [k2, T.run]
 refine br_f (by rw [beq_eq_false_iff_ne]; exact k2) ?_
 by_cases k4 : x.kind = 4
 ·refine br_t (by rw [beq_iff_eq]; exact k4) (chk_step g2 ?_)
  by_cases hb : heldB b.paid x.account < x.amount <;> simp [k4, hb, T.run]
 refine br_f (by rw [beq_eq_false_iff_ne]; exact k4) ?_
 by_cases k6 : x.kind = 6
 ·refine br_t (by rw [beq_iff_eq]; exact k6) (chk_step g3 ?_)
  simp [k6, T.run]
 refine br_f (by rw [beq_eq_false_iff_ne]; exact k6) ?_
 simp [k1, k2, k4, k6, T.run]
theorem sl_len (l : List Chg) : slLen (slOf rChg l) = l.length := rfl
theorem sl_row (l : List Chg) : slRow (slOf rChg l) = 0 := rfl
theorem sl_f (l : List Chg) : slF (slOf rChg l) = encF rChg l := rfl
theorem last_amt (l : List Chg) (h : 1 ≤ l.length) : numOf (encF rChg l (l.length - 1) 1) = lastA l := by
 have hl : l[l.length - 1]? = some l[l.length - 1] := List.getElem?_eq_getElem (by omega)
 rw [encF_at hl]
 show (l[l.length - 1]).amount = _
 unfold lastA
 rw [List.getLastD_eq_getLast?, List.getLast?_eq_getElem?, hl]; rfl
theorem last_mem (l : List Chg) (h : 1 ≤ l.length) : ∃ c ∈ l, lastA l = c.amount := by
 refine ⟨l[l.length - 1], List.getElem_mem _, ?_⟩
 unfold lastA
 rw [List.getLastD_eq_getLast?, List.getLast?_eq_getElem?, List.getElem?_eq_getElem (by omega)]; rfl
theorem mendL (l : List Chg) (u v : Int) : decF rChg (l.length + 1) (fun i => appG l.length (appG 0 (fun _ _ => .top) fun i k => encF rChg l (0 + i) k) (fun i k => ([(.int .i64 u : AV), .int .i64 v][i * 2 + k]?).getD .top) (0 + i)) = l ++ [⟨u, v⟩] := by
 simp only [Nat.zero_add]
 refine decF_push' (l := l) ?_ _
 refine Eq.trans (decF_ext fun i _ => ?_) (decF_encF rChg l)
 rfl
theorem mendR (l : List RB) (q : Nat) (y : RB) (hq : q < l.length) (u v : Int) : decN nBill l.length (setR q 0 4 [.int .i64 y.number, .int .i64 y.day, .int .i64 y.account, .xsl 2 (y.l.length + 1) ⟨[CK.int IntKind.i64, CK.int IntKind.i64], appG y.l.length (appG 0 (fun _ _ => .top) fun i k => encF rChg y.l (0 + i) k) (fun i k => ([(.int .i64 u : AV), .int .i64 v][i * 2 + k]?).getD .top)⟩ 0 (y.l.length + 1) none] (appG 0 (fun _ _ => .top) (encN nBill l))) = l.set q { y with l := y.l ++ [⟨u, v⟩] } := by
 refine setN nBill l q _ hq [.int .i64 y.number, .int .i64 y.day, .int .i64 y.account, .xsl 2 (y.l.length + 1) ⟨[CK.int IntKind.i64, CK.int IntKind.i64], appG y.l.length (appG 0 (fun _ _ => .top) fun i k => encF rChg y.l (0 + i) k) (fun i k => ([(.int .i64 u : AV), .int .i64 v][i * 2 + k]?).getD .top)⟩ 0 (y.l.length + 1) none] ?_ rfl ?_
 ·show (⟨y.number, y.day, y.account, decF rChg (y.l.length + 1) _⟩ : RB) = _
  rw [← mendL]; rfl
 ·intro f g h
  show (⟨_, _, _, _⟩ : RB) = ⟨_, _, _, _⟩
  rw [h 0 (by decide), h 1 (by decide), h 2 (by decide), h 3 (by decide)]
structure KOk (n : Nat) (b : RBk) : Prop where
 c1 : -1 ≤ b.closed
 c2 : b.closed ≤ 1000000
 p : b.p.length ≤ 2 * n
 refused : b.refused.length ≤ n
 bills : b.bills.length ≤ n
 paid : b.paid.length ≤ n
 bonds : b.bonds.length ≤ n
 stands : b.stands.length ≤ n
 l : ∀ y ∈ b.bills, 1 ≤ y.l.length ∧ y.l.length ≤ n ∧ ∀ c ∈ y.l, -16777216 ≤ c.amount ∧ c.amount ≤ 16777216
 pa : ∀ y ∈ b.paid, -((n : Int) * 16777216) ≤ y.amount ∧ y.amount ≤ (n : Int) * 16777216
 bo : ∀ y ∈ b.bonds, -((n : Int) * 16777216) ≤ y.amount ∧ y.amount ≤ (n : Int) * 16777216
set_option maxHeartbeats 0 in
theorem kp_step {known : Int} {l : List Itm} {i : Nat} {b : RBk} {x : Itm} {n : Nat} (hx : l[i]? = some x) (hok : x.Ok) (hb : KOk n b) (hn : n ≤ 500) (hkn : x.known ≤ known) (hl : l.length ≤ 1000000) :
  st_kp ((known, l.length, (i : Int)), kpO l b) = some (.inl ((known, l.length, ((i + 1 : Nat) : Int)), kpO l (doneR b x))) := by
 rw [sl_kp]
 obtain ⟨hi, _⟩ := List.getElem?_eq_some_iff.1 hx
 obtain ⟨c1, c2, c3, c4, c5, c6, c7, c8, c9, ca, cb⟩ := hb
 obtain ⟨x1, x2, x3, x4, x5, x6, x7⟩ := hok
 have w3 : IntKind.i64.wrap ((i : Int) + 1) = ((i + 1 : Nat) : Int) := by rw [w64_in (by omega) (by omega)]; rfl
 have w1 : IntKind.i64.wrap (b.closed + 1) = b.closed + 1 := w64_in (by omega) (by omega)
 have w2 : IntKind.i64.wrap (0 - x.amount) = 0 - x.amount := w64_in (by omega) (by omega)
 have hbad := r_bad_eq (b := b) (x := x) (by omega) (by omega) (by omega) c1 c2
 have hmax : ∀ d : Int, (if b.closed + 1 > d then b.closed + 1 else d) = max d (b.closed + 1) := fun d => by split <;> omega
 have hid : (⟨x.id, x.known, x.kind, x.day, x.bill, x.account, x.amount⟩ : Itm) = x := rfl
 generalize ho : kpO l (doneR b x) = o
 simp only [kpO, Int.toNat_natCast, Nat.zero_add, item_at hx, wr0, wr1, wr2, wr3, wr4, wr5, wr6, decF_encF, decN_encN, w1, w2, w3, hmax, pushD, pushR, pushT, hid]
 refine br_t (decide_eq_true (by omega)) (chk_step (decide_eq_true (by omega)) (br_t (decide_eq_true (by omega)) (chk_step (decide_eq_true (by omega)) ?_)))
 refine obs_step hbad ?_
 have gp : decide ((b.p.length + 2) * 32 ≤ 140737488355328 ∧ b.p.length + 2 ≤ 9223372036854775807) = true := decide_eq_true (by omega)
 have hN : (n : Int) * 16777216 ≤ 8388608000 := by omega
 cases hbv : badR b x with
 | true =>
  refine br_t rfl (chk_step (decide_eq_true (by omega)) ?_)
  rw [← ho]; unfold doneR; rw [if_pos hbv]; rfl
 | false =>
 refine br_f rfl (chk_step (decide_eq_true (by omega)) ?_)
 have hnb : ¬(badR b x = true) := by rw [hbv]; exact Bool.false_ne_true
 by_cases k1 : x.kind = 1
 ·refine br_t (by rw [beq_iff_eq]; exact k1) (chk_step (decide_eq_true (by omega)) (chk_step gp ?_))
  rw [← ho]; unfold doneR; rw [if_neg hnb]; simp only [if_pos k1, kpO, twoR, List.length_append, List.length_cons, List.length_nil]; rfl
 refine br_f (by rw [beq_eq_false_iff_ne]; exact k1) ?_
 by_cases k2 : x.kind = 2
 ·refine br_t (by rw [beq_iff_eq]; exact k2) ?_
  have hq : ∃ q, billR b.bills x.bill = some q := by
   cases hq : billR b.bills x.bill with
   | some q => exact ⟨q, rfl⟩
   | none => exact absurd (by unfold badR; rw [hq]; simp [k2]) hnb
  obtain ⟨q, hq⟩ := hq
  obtain ⟨hlt, _, _⟩ := List.findIdx?_eq_some_iff_getElem.1 hq
  have hs := List.getElem?_eq_getElem hlt
  have eb : billI b.bills x.bill = (q : Int) := by unfold billI; rw [hq]
  obtain ⟨y1, y2, y3⟩ := c9 _ (List.getElem_mem hlt)
  have hg : b.bills.getD q default = b.bills[q] := by rw [List.getD_eq_getElem?_getD, hs]; rfl
  generalize b.bills[q] = y at hs y1 y2 y3 hg
  obtain ⟨c, hc, hla⟩ := last_mem y.l y1
  have hcb := y3 c hc
  have v0 : IntKind.i64.wrap ((y.l.length : Int) - 1) = ((y.l.length - 1 : Nat) : Int) := by rw [w64_in (by omega) (by omega)]; omega
  have v1 : IntKind.i64.wrap (x.amount - lastA y.l) = x.amount - lastA y.l := w64_in (by omega) (by omega)
  have v2 : IntKind.i64.wrap (0 - (x.amount - lastA y.l)) = 0 - (x.amount - lastA y.l) := w64_in (by omega) (by omega)
  simp only [eb, Int.toNat_natCast, encN_at hs, sl3, nb0, nb1, nb2, sl_len, sl_row, sl_f, cS (show y.l.length ≤ 1000000 by omega), v0, Nat.zero_add, last_amt y.l y1, v1, v2]
  refine chk_step (decide_eq_true (by omega)) (chk_step (decide_eq_true (by omega)) (chk_step (decide_eq_true (by omega)) (chk_step (decide_eq_true (by omega)) (chk_step (decide_eq_true (by omega)) (chk_step (decide_eq_true (by omega)) (chk_step (decide_eq_true (by omega)) (chk_step gp ?_)))))))
  have hm := mendR b.bills q y hlt x.known x.amount
  simp only [Nat.zero_add] at hm
  rw [hm, ← ho]; unfold doneR; rw [if_neg hnb]; simp only [if_neg k1, if_pos k2, hq, hg, kpO, twoR, List.length_append, List.length_cons, List.length_nil, List.length_set]; rfl
 refine br_f (by rw [beq_eq_false_iff_ne]; exact k2) ?_
 by_cases k3 : x.kind = 3
 ·refine br_t (by rw [beq_iff_eq]; exact k3) (chk_step (decide_eq_true ⟨by omega, by unfold amtB; omega, fun y hy => by have := ca y hy; unfold amtB; omega⟩) (chk_step gp ?_))
  rw [← ho]; unfold doneR; rw [if_neg hnb]; simp only [if_neg k1, if_neg k2, if_pos k3, kpO, twoR, List.length_append, List.length_cons, List.length_nil]; rfl
 refine br_f (by rw [beq_eq_false_iff_ne]; exact k3) ?_
 by_cases k4 : x.kind = 4
 ·refine br_t (by rw [beq_iff_eq]; exact k4) (chk_step (decide_eq_true ⟨by omega, by unfold amtB; omega, fun y hy => by have := ca y hy; unfold amtB; omega⟩) (chk_step gp ?_))
  rw [← ho]; unfold doneR; rw [if_neg hnb]; simp only [if_neg k1, if_neg k2, if_neg k3, if_pos k4, kpO, twoR, List.length_append, List.length_cons, List.length_nil]; rfl
 refine br_f (by rw [beq_eq_false_iff_ne]; exact k4) ?_
 by_cases k5 : x.kind = 5
 ·refine br_t (by rw [beq_iff_eq]; exact k5) (chk_step (decide_eq_true ⟨by omega, by unfold amtB; omega, fun y hy => by have := cb y hy; unfold amtB; omega⟩) (chk_step gp ?_))
  rw [← ho]; unfold doneR; rw [if_neg hnb]; simp only [if_neg k1, if_neg k2, if_neg k3, if_neg k4, if_pos k5, kpO, twoR, List.length_append, List.length_cons, List.length_nil]; rfl
 refine br_f (by rw [beq_eq_false_iff_ne]; exact k5) ?_
 by_cases k6 : x.kind = 6
 ·refine br_t (by rw [beq_iff_eq]; exact k6) (chk_step (decide_eq_true ⟨by omega, by unfold amtB; omega, fun y hy => by have := cb y hy; unfold amtB; omega⟩) (chk_step gp ?_))
  rw [← ho]; unfold doneR; rw [if_neg hnb]; simp only [if_neg k1, if_neg k2, if_neg k3, if_neg k4, if_neg k5, if_pos k6, kpO, twoR, List.length_append, List.length_cons, List.length_nil]; rfl
 refine br_f (by rw [beq_eq_false_iff_ne]; exact k6) ?_
 rw [← ho]; unfold doneR; rw [if_neg hnb]; simp only [if_neg k1, if_neg k2, if_neg k3, if_neg k4, if_neg k5, if_neg k6, kpO, List.length_append, List.length_cons, List.length_nil]; rfl
end K
end Go.Proofs.YtelpdkojdfnmiaaGreat
/-! LA5 -/
namespace Go.Proofs.YtelpdkojdfnmiaaGreat
open Ev K
set_option maxRecDepth 100000
namespace K
theorem moreB_len5 (l : List Bal) (a m : Int) : (moreB l a m).length ≤ l.length + 1 := by
 induction l with
 | nil => simp [moreB]
 | cons b t ih => 
  unfold moreB; simp only [List.length_cons] at ih ⊢
  split
  ·simp only [List.length_cons]; omega
  ·split <;> simp only [List.length_cons] <;> omega
theorem moreB_bd (N M : Int) (_hM : 0 ≤ M) (hN : 0 ≤ N) (a m : Int) (hm : -M ≤ m ∧ m ≤ M) (l : List Bal) (h : ∀ y ∈ l, -N ≤ y.amount ∧ y.amount ≤ N) : ∀ y ∈ moreB l a m, -(N + M) ≤ y.amount ∧ y.amount ≤ N + M := by
 induction l with
 | nil => intro y hy; simp only [moreB, List.mem_singleton] at hy; subst hy; simp only; omega
 | cons b t ih =>
  have hb := h b (List.mem_cons_self ..)
  have ht := fun y hy => h y (List.mem_cons_of_mem _ hy)
  intro y hy
  unfold moreB at hy
  split at hy
  ·rcases List.mem_cons.1 hy with e | e
   ·subst e; omega
   ·exact ih ht y e
  ·split at hy
   ·rcases List.mem_cons.1 hy with e | e
    ·subst e; simp only; omega
    ·have := ht y e; omega
   ·rcases List.mem_cons.1 hy with e | e
    ·subst e; simp only; omega
    ·have := h y e; omega
theorem addL_len (l : List Int) (n : Int) : (addL l n).length = l.length + 1 := by
 induction l with
 | nil => rfl
 | cons b t ih => unfold addL; split <;> simp [ih]
theorem KOk.mono {n m : Nat} {b : RBk} (h : KOk n b) (hm : n ≤ m) : KOk m b := by
 obtain ⟨c1, c2, c3, c4, c5, c6, c7, c8, c9, ca, cb⟩ := h
 refine ⟨c1, c2, by omega, by omega, by omega, by omega, by omega, by omega, fun y hy => ?_, fun y hy => ?_, fun y hy => ?_⟩
 ·obtain ⟨h1, h2, h3⟩ := c9 y hy; exact ⟨h1, by omega, h3⟩
 ·have := ca y hy; omega
 ·have := cb y hy; omega
set_option maxHeartbeats 0 in
theorem KOk.done {n : Nat} {b : RBk} (h : KOk n b) {x : Itm} (hx : x.Ok) (hn : n ≤ 1000) : KOk (n + 1) (doneR b x) := by
 have h' := h.mono (Nat.le_succ n)
 obtain ⟨x1, x2, x3, x4, x5, x6, x7⟩ := hx
 obtain ⟨c1, c2, c3, c4, c5, c6, c7, c8, c9, ca, cb⟩ := h
 obtain ⟨d1, d2, d3, d4, d5, d6, d7, d8, d9, da, db⟩ := h'
 have hc : ((n + 1 : Nat) : Int) * 16777216 = (n : Int) * 16777216 + 16777216 := by omega
 have hbd : ∀ (l : List Bal) (m : Int), (-16777216 ≤ m ∧ m ≤ 16777216) → (∀ y ∈ l, -((n : Int) * 16777216) ≤ y.amount ∧ y.amount ≤ (n : Int) * 16777216) → ∀ y ∈ moreB l x.account m, -(((n + 1 : Nat) : Int) * 16777216) ≤ y.amount ∧ y.amount ≤ ((n + 1 : Nat) : Int) * 16777216 := fun l m hm hl y hy => by
  have := moreB_bd ((n : Int) * 16777216) 16777216 (by omega) (by omega) x.account m hm l hl y hy; omega
 have mp := moreB_len5 b.paid x.account
 have mb := moreB_len5 b.bonds x.account
 unfold doneR
 split
 ·exact ⟨c1, c2, d3, by rw [addL_len]; omega, d5, d6, d7, d8, d9, da, db⟩
 have hs : (b.stands ++ [x]).length ≤ n + 1 := by simp; omega
 have hp : ∀ y z : Pst, (b.p ++ [y, z]).length ≤ 2 * (n + 1) := fun y z => by simp; omega
 simp only
 split
 ·refine ⟨c1, c2, hp _ _, d4, by show (b.bills ++ [_]).length ≤ _; simp; omega, d6, d7, hs, ?_, da, db⟩
  intro y hy
  rcases List.mem_append.1 hy with e | e
  ·exact d9 y e
  ·rw [List.mem_singleton] at e; subst e
   refine ⟨by simp, by simp, fun c hc => ?_⟩
   rw [List.mem_singleton] at hc; subst hc; simp only; omega
 split
 ·split
  ·rename_i q hq
   obtain ⟨hlt, _, _⟩ := List.findIdx?_eq_some_iff_getElem.1 hq
   refine ⟨c1, c2, hp _ _, d4, by show (b.bills.set _ _).length ≤ _; simp; omega, d6, d7, hs, ?_, da, db⟩
   intro y hy
   rcases List.mem_or_eq_of_mem_set hy with e | e
   ·exact d9 y e
   ·have hg : b.bills.getD q default = b.bills[q] := by rw [List.getD_eq_getElem?_getD, List.getElem?_eq_getElem hlt]; rfl
    rw [hg] at e
    obtain ⟨e1, e2, e3⟩ := c9 _ (List.getElem_mem hlt)
    subst e
    refine ⟨by simp, by simp; omega, fun c hc => ?_⟩
    rcases List.mem_append.1 hc with f | f
    ·exact e3 c f
    ·rw [List.mem_singleton] at f; subst f; simp only; omega
  ·exact ⟨c1, c2, d3, d4, d5, d6, d7, hs, d9, da, db⟩
 split
 ·exact ⟨c1, c2, hp _ _, d4, d5, by have := mp x.amount; show (moreB _ _ _).length ≤ _; omega, d7, hs, d9, hbd _ _ (by omega) ca, db⟩
 split
 ·exact ⟨c1, c2, hp _ _, d4, d5, by have := mp (0 - x.amount); show (moreB _ _ _).length ≤ _; omega, d7, hs, d9, hbd _ _ (by omega) ca, db⟩
 split
 ·exact ⟨c1, c2, hp _ _, d4, d5, d6, by have := mb x.amount; show (moreB _ _ _).length ≤ _; omega, hs, d9, da, hbd _ _ (by omega) cb⟩
 split
 ·exact ⟨c1, c2, hp _ _, d4, d5, d6, by have := mb (0 - x.amount); show (moreB _ _ _).length ≤ _; omega, hs, d9, da, hbd _ _ (by omega) cb⟩
 ·exact ⟨by simp only; omega, by simp only; omega, d3, d4, d5, d6, d7, hs, d9, da, db⟩
theorem KOk.zero : KOk 0 rb0 := ⟨by decide, by decide, by decide, by decide, by decide, by decide, by decide, by decide, by simp [rb0], by simp [rb0], by simp [rb0]⟩
end K
end Go.Proofs.YtelpdkojdfnmiaaGreat
/-! LA6 -/
namespace Go.Proofs.YtelpdkojdfnmiaaGreat
open Ev K
set_option maxRecDepth 100000
set_option maxHeartbeats 0
noncomputable def K.L_kp := lim K.st_kp
namespace K
def kpX (b : RBk) : KpObjX := ((), (b.closed, b.p.length, b.refused.length, b.bills.length, b.paid.length, b.bonds.length, b.stands.length), b.p, b.refused, b.bills, b.paid, b.bonds, b.stands, ())
theorem L_kp_eq {known : Int} {l : List Itm} (hl : l.length ≤ 500) (hf : ∀ x ∈ l, x.Ok) : ∀ (d i : Nat) (b : RBk), i + d = l.length → KOk i b →
  L_kp ((known, l.length, (i : Int)), kpO l b) = some ((), kpX (((l.drop i).filter fun x => decide (x.known ≤ known)).foldl doneR b)) := by
 intro d
 induction d with
 | zero =>
  intro i b h hb
  refine lim_done ?_
  rw [sl_kp]
  generalize ho : kpX _ = o
  simp only [kpO, decF_encF, decN_encN]
  refine br_f (decide_eq_false (by omega)) ?_
  rw [← ho, List.drop_of_length_le (by omega)]; rfl
 | succ d ih =>
  intro i b h hb
  have hi : i < l.length := by omega
  have hx := List.getElem?_eq_getElem hi
  have hm := List.getElem_mem hi
  have hdrop := List.drop_eq_getElem_cons hi
  generalize l[i] = x at hx hm hdrop
  by_cases hkn : x.known ≤ known
  ·refine (lim_step (kp_step hx (hf x hm) hb (by omega) hkn (by omega))).trans ?_
   rw [show lim st_kp = L_kp from rfl, ih (i + 1) (doneR b x) (by omega) (hb.done (hf x hm) (by omega)), hdrop, List.filter_cons_of_pos (by simpa using hkn), List.foldl_cons]
  ·refine (lim_step (s' := ((known, l.length, ((i + 1 : Nat) : Int)), kpO l b)) ?_).trans ?_
   ·rw [sl_kp]
    have w3 : IntKind.i64.wrap ((i : Int) + 1) = ((i + 1 : Nat) : Int) := by rw [w64_in (by omega) (by omega)]; rfl
    simp only [kpO, Int.toNat_natCast, Nat.zero_add, item_at hx, wr1, decF_encF, decN_encN, w3]
    refine br_t (decide_eq_true (by omega)) (chk_step (decide_eq_true (by omega)) (br_f (decide_eq_false (by omega)) rfl))
   ·rw [show lim st_kp = L_kp from rfl, ih (i + 1) b (by omega) (hb.mono (by omega)), hdrop, List.filter_cons_of_neg (by simpa using hkn)]
end K
noncomputable def BLA61 : Tab := BLA34.addNode 25 81 (nodeE [9, 7, 8, 1, 4] S_kp X_kp (fun s => .obs (K.L_kp s) .ret))
theorem tLA61 : TabOk P BLA61 := TabOk.addLoop (d := 30) okP tLA34 (by kernel_rfl) (by kernel_rfl) (fun s r h => obs_ret h)
end Go.Proofs.YtelpdkojdfnmiaaGreat
/-! LA7 -/
namespace Go.Proofs.YtelpdkojdfnmiaaGreat
open Ev K
set_option maxRecDepth 100000
set_option maxHeartbeats 0
def lKept : DecL (RBk × Int) := (DecL.cons dInt (.cons (dRows rPost) (.cons (dRows rInt) (.cons (dRowsN nBill) (.cons (dRows rBal) (.cons (dRows rBal) (.cons (dRows rItem) (.last dInt 0)))))))).iso (fun p => (⟨p.1, p.2.1, p.2.2.1, p.2.2.2.1, p.2.2.2.2.1, p.2.2.2.2.2.1, p.2.2.2.2.2.2.1⟩, p.2.2.2.2.2.2.2)) (fun k => (k.1.closed, k.1.p, k.1.refused, k.1.bills, k.1.paid, k.1.bonds, k.1.stands, k.2)) (fun _ => rfl)
def dKept : Dec (RBk × Int) := dAgg lKept
def D_kp := DecL.cons (dRows rItem) (.last dInt 0)
theorem fn_keep : ∀ a, (callT1 P BLA61 30 25 D_kp dKept) a = T.run (
 let q2 := (0 : Nat);
 let q1 := decF rItem (List.length a.1) fun i => encF rItem a.1 (q2 + i);
 .br (checkV q1 != (0 : Int)) (
  .ret ((RBk.mk (0 : Int) [] [] [] [] [] [], checkV q1))) (
  .br (!r_day a.2) (
   .ret ((RBk.mk (0 : Int) [] [] [] [] [] [], (1 : Int)))) (
   .chk (decide (List.length q1 ≤ (500 : Nat))) <|
   .obs (L_kp ((a.2, List.length (sortedR q1), (0 : Int)), PUnit.unit, ((-1 : Int), q2, q2, q2, q2, q2, q2), decF rPost q2 fun _x _x_1 => AV.top, decF rInt q2 fun _x _x_1 => AV.top, decN nBill q2 fun _x _x_1 => AV.top, decF rBal q2 fun _x _x_1 => AV.top, decF rBal q2 fun _x _x_1 => AV.top, decF rItem q2 fun _x _x_1 => AV.top, decF rItem (List.length (sortedR q1)) (encF rItem (sortedR q1)), PUnit.unit)) fun x0 =>
    .ret ((RBk.mk x0.2.2.1.1 (decF rPost (List.length x0.2.2.2.1) fun i => encF rPost x0.2.2.2.1 (q2 + i)) (decF rInt (List.length x0.2.2.2.2.1) fun i => encF rInt x0.2.2.2.2.1 (q2 + i)) (decN nBill (List.length x0.2.2.2.2.2.1) fun i => encN nBill x0.2.2.2.2.2.1 (q2 + i)) (decF rBal (List.length x0.2.2.2.2.2.2.1) fun i => encF rBal x0.2.2.2.2.2.2.1 (q2 + i)) (decF rBal (List.length x0.2.2.2.2.2.2.2.1) fun i => encF rBal x0.2.2.2.2.2.2.2.1 (q2 + i)) (decF rItem (List.length x0.2.2.2.2.2.2.2.2.1) fun i => encF rItem x0.2.2.2.2.2.2.2.2.1 (q2 + i)), (0 : Int)))))) := fun a => by kernel_rfl
end Go.Proofs.YtelpdkojdfnmiaaGreat
/-! LA8 -/
namespace Go.Proofs.YtelpdkojdfnmiaaGreat
open Ev K
set_option maxRecDepth 100000
set_option maxHeartbeats 0
namespace K
noncomputable def keepV (l : List Itm) (known : Int) : RBk × Int :=
 if checkV l ≠ 0 then (⟨0, [], [], [], [], [], []⟩, checkV l) else if r_day known = true then (keepR l known, 0) else (⟨0, [], [], [], [], [], []⟩, 1)
theorem rkeep_eq (a : List Itm × Int) : callT1 P BLA61 30 25 D_kp dKept a = some (keepV a.1 a.2) := by
 obtain ⟨l, known⟩ := a
 rw [fn_keep]
 unfold keepV
 simp only [Nat.zero_add, decF_encF]
 by_cases hc : checkV l = 0
 ·refine br_f (by rw [hc]; rfl) ?_
  rw [if_neg (fun h => h hc)]
  by_cases hd : r_day known = true
  ·refine br_f (by rw [hd]; rfl) ?_
   rw [if_pos hd]
   obtain ⟨k1, k2, k3⟩ := checkV_ok hc
   have ho : One l := fun x hx y hy e => by
    obtain ⟨i, hi, rfl⟩ := List.getElem_of_mem hx
    obtain ⟨j, hj, rfl⟩ := List.getElem_of_mem hy
    rcases Nat.lt_trichotomy i j with h | h | h
    ·exact k3 i j _ _ h (List.getElem?_eq_getElem hi) (List.getElem?_eq_getElem hj) e
    ·subst h; rfl
    ·exact (k3 j i _ _ h (List.getElem?_eq_getElem hj) (List.getElem?_eq_getElem hi) e.symm).symm
   refine chk_step (decide_eq_true (by omega)) ?_
   rw [sortedR_eq ho]
   have hs := srt_len l
   have key := L_kp_eq (known := known) (l := srt l) (by omega) (fun x hx => (k2 x (srt_mem hx)).ok) (srt l).length 0 rb0 (by omega) KOk.zero
   refine obs_step key ?_
   rw [List.drop_zero]
   show some _ = some _
   unfold keepR
   generalize List.foldl doneR rb0 _ = b
   simp only [kpX, decN_encN]
  ·refine br_t (by rw [Bool.not_eq_true] at hd; rw [hd]; rfl) ?_
   rw [if_neg hd]; rfl
 ·refine br_t (by simpa using hc) ?_
  rw [if_pos hc]; rfl
end K
noncomputable def BLA81 : Tab := BLA61.addCall 25 (callE D_kp dKept (fun a => .ret (K.keepV a.1 a.2)))
theorem tLA81 : TabOk P BLA81 := TabOk.addPC tLA61 (fun a r h => by rw [← ret_some h]; exact call_of okP tLA61 (K.rkeep_eq a))
end Go.Proofs.YtelpdkojdfnmiaaGreat
/-! LP2 -/
namespace Go.Proofs.YtelpdkojdfnmiaaGreat
open Ev K
set_option maxRecDepth 100000
namespace K
def balStep (behind : Int) (l : List Bal) (p : Pst) : List Bal := if p.day ≤ behind then moreB l p.account p.amount else l
def balR (ps : List Pst) (behind : Int) : List Bal := ps.foldl (balStep behind) []
theorem mp_fold (behind : Int) : ∀ (ps : List Pst) (m : List (Int × Int)) (l : List Bal), Mp m l → Mp (ps.foldl (sumStep behind) m) (ps.foldl (balStep behind) l)
 | [], _, _, h => h
 | p :: ps, m, l, h => by
  refine mp_fold behind ps _ _ ?_
  unfold sumStep balStep
  split
  ·exact h.more _ _ _ rfl
  ·exact h
theorem mp_sum (ps : List Pst) (behind : Int) : Mp (sumP ps behind) (balR ps behind) := mp_fold behind ps _ _ Mp.nil
def sumI (l : List Int) : Int := l.sum
def sumA (ps : List Pst) (a behind : Int) : Int := sumI ((ps.filter fun p => decide (p.account = a ∧ p.day ≤ behind)).map (·.amount))
theorem held_more : ∀ {l : List Bal}, l.Pairwise (fun x y => x.account < y.account) → ∀ (a m c : Int), heldB (moreB l a m) c = heldB l c + if a = c then m else 0
 | [], _, a, m, c => by
  unfold moreB heldB
  by_cases h : a = c
  ·subst h; simp
  ·simp [h]
 | b :: t, hs, a, m, c => by
  have hh := List.pairwise_cons.1 hs
  unfold moreB
  have cons : ∀ (x : Bal) (t : List Bal), heldB (x :: t) c = if x.account = c then x.amount else heldB t c := fun x t => by
   unfold heldB
   by_cases h : x.account = c
   ·rw [List.find?_cons_of_pos (by simpa using h), if_pos h]
   ·rw [List.find?_cons_of_neg (by simpa using h), if_neg h]
  by_cases h1 : b.account < a
  ·rw [if_pos h1, cons, cons, held_more hh.2]
   by_cases h2 : b.account = c
   ·rw [if_pos h2, if_pos h2, if_neg (by omega)]; omega
   ·rw [if_neg h2, if_neg h2]
  ·rw [if_neg h1]
   by_cases h2 : b.account = a
   ·rw [if_pos h2, cons, cons]
    simp only
    by_cases h3 : a = c
    ·rw [if_pos h3, if_pos (by omega), if_pos h3]
    ·rw [if_neg h3, if_neg (by omega), if_neg h3]; omega
   ·rw [if_neg h2, cons]
    simp only
    by_cases h3 : a = c
    ·rw [if_pos h3, if_pos h3]
     have : heldB (b :: t) c = 0 := by
      unfold heldB
      rw [List.find?_eq_none.2]
      intro x hx
      rcases List.mem_cons.1 hx with e | hx
      ·subst e; simp; omega
      ·have := hh.1 x hx; simp; omega
     omega
    ·rw [if_neg h3, if_neg h3]; omega
theorem held_balR (ps : List Pst) (behind a : Int) : heldB (balR ps behind) a = sumA ps a behind := by
 have key : ∀ (ps : List Pst) (m : List (Int × Int)) (l : List Bal), Mp m l → heldB (ps.foldl (balStep behind) l) a = heldB l a + sumA ps a behind := by
  intro ps
  induction ps with
  | nil => intro m l _; simp [sumA, sumI]
  | cons p ps ih =>
   intro m l hm
   rw [List.foldl_cons]
   unfold sumA at *
   by_cases h : p.day ≤ behind
   ·have e : balStep behind l p = moreB l p.account p.amount := if_pos h
    rw [e, ih _ _ (hm.more p.account p.amount _ rfl), held_more hm.sorted]
    by_cases h2 : p.account = a
    ·rw [if_pos h2, List.filter_cons_of_pos (by simp [h, h2]), List.map_cons]; simp only [sumI, List.sum_cons]; omega
    ·rw [if_neg h2, List.filter_cons_of_neg (by simp [h2])]; omega
   ·have e : balStep behind l p = l := if_neg h
    rw [e, ih _ _ hm, List.filter_cons_of_neg (by simp; intro _; omega)]
 have := key ps [] [] Mp.nil
 unfold balR; rw [this]; simp [heldB]
theorem look_sum (ps : List Pst) (behind a : Int) : lookM (sumP ps behind) a = sumA ps a behind := by rw [← (mp_sum ps behind).held, held_balR]
structure Pr where (x : Itm) (on a b m : Int)
def Pr.two (z : Pr) : List Pst := [⟨z.x.id, z.on, z.a, z.m⟩, ⟨z.x.id, z.on, z.b, -z.m⟩]
def pairs (zs : List Pr) : List Pst := zs.flatMap Pr.two
theorem pairs_app (a b : List Pr) : pairs (a ++ b) = pairs a ++ pairs b := List.flatMap_append ..
def isPair (l : List Pst) : Prop := ∃ zs, l = pairs zs
theorem isPair.app {l : List Pst} (h : isPair l) (x : Itm) (on a b m : Int) : isPair (l ++ [⟨x.id, on, a, m⟩, ⟨x.id, on, b, -m⟩]) := by
 obtain ⟨zs, rfl⟩ := h
 exact ⟨zs ++ [⟨x, on, a, b, m⟩], by rw [pairs_app]; rfl⟩
end K
end Go.Proofs.YtelpdkojdfnmiaaGreat
/-! LJ0 -/
namespace Go.Proofs.YtelpdkojdfnmiaaGreat
open Ev K
set_option maxRecDepth 100000
namespace K
theorem one_ck {l : List Itm} (hc : checkV l = 0) : One l := by
 obtain ⟨_, _, k3⟩ := checkV_ok hc
 exact fun x hx y hy e => by
  obtain ⟨i, hi, rfl⟩ := List.getElem_of_mem hx
  obtain ⟨j, hj, rfl⟩ := List.getElem_of_mem hy
  rcases Nat.lt_trichotomy i j with h | h | h
  ·exact k3 i j _ _ h (List.getElem?_eq_getElem hi) (List.getElem?_eq_getElem hj) e
  ·subst h; rfl
  ·exact (k3 j i _ _ h (List.getElem?_eq_getElem hj) (List.getElem?_eq_getElem hi) e.symm).symm
theorem keep_ok {l : List Itm} {known : Int} (h : askedV l [known] = 0) : keepV l known = (keepR l known, 0) := by
 obtain ⟨hc, hd⟩ := ask_check h
 unfold keepV
 rw [if_neg (fun h => h hc), if_pos ((r_day_iff known).2 (hd known (List.mem_singleton.2 rfl)))]
theorem keep_bad {l : List Itm} {known : Int} (h : ¬ askedV l [known] = 0) : keepV l known = (⟨0, [], [], [], [], [], []⟩, askedV l [known]) := by
 unfold keepV
 by_cases hc : checkV l = 0
 ·have hd : ¬ dayOk known := fun hd => h (by
   unfold askedV; rw [if_neg (fun h => h hc), if_pos (fun n hn => by rw [List.mem_singleton.1 hn]; exact hd)])
  have e : askedV l [known] = 1 := by
   unfold askedV; rw [if_neg (fun h => h hc), if_neg (fun e => hd (e known (List.mem_singleton.2 rfl)))]
  rw [if_neg (fun h => h hc), if_neg (fun e => hd ((r_day_iff known).1 e)), e]
 ·have e : askedV l [known] = checkV l := by unfold askedV; rw [if_pos hc]
  rw [if_pos hc, e]
section
variable {l : List Itm} (hc : checkV l = 0) (known : Int)
include hc
theorem rel_ok : Rel (foldB (knownOn known (srt l))) (keepR l known) := rel_keep (checkV_ok hc).2.1 (one_ck hc) known
theorem kr_p : (keepR l known).p = (readB l known).posts := (rel_ok hc known).p
end
end K
end Go.Proofs.YtelpdkojdfnmiaaGreat
/-! LA9 -/
namespace Go.Proofs.YtelpdkojdfnmiaaGreat
open Ev K
set_option maxRecDepth 100000
def D_rsum := DecL.cons dBkR (.cons dInt (.last dInt 0))
def S_su := DecS.mk0 (.skip (.cons (dInt) (.cons (dInt) (.unit (dLp 0 0 0 0) (.skips 3 (.cons (dInt) (.last (dInt) 34))))))) (.flat 52 lBkR .nil)
def X_su := DecX.one (.exit 0) [7] (DecS.mk0 (.skips 7 (.last (dInt) 35)) .nil)
noncomputable def K.st_su := loopT1 P BLA81 30 77 25 [8, 3, 7, 2, 1] S_su X_su
theorem sl_su : ∀ s, (K.st_su) s = T.run (
 let q12 := s.1.2.2.2;
 let q9 := RBk.p s.2.1;
 let q11 := (0 : Nat);
 let q8 := decF rPost (List.length q9) fun i => encF rPost q9 (q11 + i);
 let q3 := decF rInt (List.length (RBk.refused s.2.1)) fun i => encF rInt (RBk.refused s.2.1) (q11 + i);
 let q5 := decN nBill (List.length (RBk.bills s.2.1)) fun i => encN nBill (RBk.bills s.2.1) (q11 + i);
 let q7 := decF rBal (List.length (RBk.paid s.2.1)) fun i => encF rBal (RBk.paid s.2.1) (q11 + i);
 let q6 := decF rBal (List.length (RBk.bonds s.2.1)) fun i => encF rBal (RBk.bonds s.2.1) (q11 + i);
 let q4 := decF rItem (List.length (RBk.stands s.2.1)) fun i => encF rItem (RBk.stands s.2.1) (q11 + i);
 let q1 := Sum.inl ((s.1.1, s.1.2.1, s.1.2.2.1, IntKind.wrap IntKind.i64 (q12 + (1 : Int))), RBk.mk (RBk.closed s.2.1) q8 q3 q5 q7 q6 q4, PUnit.unit);
 let q2 := decide ((0 : Int) ≤ q12 ∧ q12 < (↑(List.length q9) : Int));
 let q10 := q11 + Int.toNat q12;
 .br (decide (q12 < (↑(clampL (List.length q9)) : Int))) (
  .chk q2 <|
  .br (numOf (encF rPost q9 q10 (nat_lit 2)) == s.1.1) (
   .chk q2 <|
   .br (decide (numOf (encF rPost q9 q10 (nat_lit 1)) ≤ s.1.2.1)) (
    .chk q2 <|
    .ret (Sum.inl ((s.1.1, s.1.2.1, IntKind.wrap IntKind.i64 (s.1.2.2.1 + numOf (encF rPost q9 q10 (nat_lit 3))), IntKind.wrap IntKind.i64 (q12 + (1 : Int))), RBk.mk (RBk.closed s.2.1) q8 q3 q5 q7 q6 q4, PUnit.unit))) (
    .ret q1)) (
   .ret q1)) (
  .ret (Sum.inr (s.1.2.2.1, PUnit.unit)))) := fun s => by kernel_rfl
noncomputable def K.L_su := lim K.st_su
noncomputable def BLA91 : Tab := BLA81.addNode 77 25 (nodeE [8, 3, 7, 2, 1] S_su X_su (fun s => .obs (K.L_su s) .ret))
theorem tLA91 : TabOk P BLA91 := TabOk.addLoop (d := 30) okP tLA81 (by kernel_rfl) (by kernel_rfl) (fun s r h => obs_ret h)
theorem fn_rsum : ∀ a, (callT1 P BLA91 30 77 D_rsum dInt) a = T.run (
 .obs (L_su ((a.2.1, a.2.2, (0 : Int), (0 : Int)), RBk.mk (RBk.closed a.1) (decF rPost (List.length (RBk.p a.1)) fun i => encF rPost (RBk.p a.1) ((0 : Nat) + i)) (decF rInt (List.length (RBk.refused a.1)) fun i => encF rInt (RBk.refused a.1) ((0 : Nat) + i)) (decN nBill (List.length (RBk.bills a.1)) fun i => encN nBill (RBk.bills a.1) ((0 : Nat) + i)) (decF rBal (List.length (RBk.paid a.1)) fun i => encF rBal (RBk.paid a.1) ((0 : Nat) + i)) (decF rBal (List.length (RBk.bonds a.1)) fun i => encF rBal (RBk.bonds a.1) ((0 : Nat) + i)) (decF rItem (List.length (RBk.stands a.1)) fun i => encF rItem (RBk.stands a.1) ((0 : Nat) + i)), PUnit.unit)) fun x0 =>
  .ret x0.1) := fun a => by kernel_rfl
end Go.Proofs.YtelpdkojdfnmiaaGreat
/-! LAa -/
namespace Go.Proofs.YtelpdkojdfnmiaaGreat
open Ev K
set_option maxRecDepth 100000
namespace K
theorem sumA_nil (acc day : Int) : sumA [] acc day = 0 := rfl
theorem sumA_cons (x : Pst) (ps : List Pst) (acc day : Int) : sumA (x :: ps) acc day = (if x.account = acc ∧ x.day ≤ day then x.amount else 0) + sumA ps acc day := by
 unfold sumA sumI
 by_cases h : x.account = acc ∧ x.day ≤ day
 ·rw [List.filter_cons_of_pos (by simpa using h), if_pos h, List.map_cons, List.sum_cons]
 ·rw [List.filter_cons_of_neg (by simpa using h), if_neg h, Int.zero_add]
theorem L_su_eq {b : RBk} (hl : b.p.length ≤ 1000) (ha : ∀ p ∈ b.p, amtOk p.amount) (acc day : Int) : ∀ (d i : Nat) (n : Int), i + d = b.p.length → -((i : Int) * 16777216) ≤ n ∧ n ≤ (i : Int) * 16777216 →
  L_su ((acc, day, n, (i : Int)), b, ()) = some (n + sumA (b.p.drop i) acc day, ())
 := by
 intro d
 induction d with
 | zero =>
  intro i n h hn
  refine lim_done ?_
  rw [sl_su]
  simp only [cS (show b.p.length ≤ 1000000 by omega)]
  refine br_f (decide_eq_false (by omega)) ?_
  rw [List.drop_of_length_le (by omega), sumA_nil, Int.add_zero]; rfl
 | succ d ih =>
  intro i n h hn
  have hi : i < b.p.length := by omega
  have hx := List.getElem?_eq_getElem hi
  have hm := ha _ (List.getElem_mem hi)
  rw [List.drop_eq_getElem_cons hi, sumA_cons]
  generalize b.p[i] = x at hx hm
  unfold amtOk at hm
  have w : IntKind.i64.wrap ((i : Int) + 1) = ((i + 1 : Nat) : Int) := by rw [w64_in (by omega) (by omega)]; rfl
  have w2 : IntKind.i64.wrap (n + x.amount) = n + x.amount := w64_in (by omega) (by omega)
  rw [← Int.add_assoc]
  refine (lim_step ?_).trans (ih (i + 1) (n + if x.account = acc ∧ x.day ≤ day then x.amount else 0) (by omega) (by split <;> omega))
  rw [sl_su]
  simp only [cS (show b.p.length ≤ 1000000 by omega), Int.toNat_natCast, Nat.zero_add, post_at hx, pw1, pw2, pw3, decF_encF, decN_encN, w, w2]
  refine br_t (decide_eq_true (by omega)) (chk_step (decide_eq_true (by omega)) ?_)
  by_cases h1 : x.account = acc
  ·refine br_t (beq_iff_eq.2 h1) ?_
   refine chk_step (decide_eq_true (by omega)) ?_
   by_cases h2 : x.day ≤ day
   ·rw [if_pos ⟨h1, h2⟩]
    exact br_t (decide_eq_true h2) (chk_step (decide_eq_true (by omega)) rfl)
   ·rw [if_neg (fun h => h2 h.2), Int.add_zero]
    exact br_f (decide_eq_false h2) rfl
  ·rw [if_neg (fun h => h1 h.1), Int.add_zero]
   exact br_f (by rw [beq_eq_false_iff_ne]; exact h1) rfl
def psOk (l : List Pst) : Bool := decide (l.length ≤ 1000 ∧ ∀ p ∈ l, amtOk p.amount)
def M_rsum (a : RBk × Int × Int) : T Int := .chk (psOk a.1.p) (.ret (sumA a.1.p a.2.1 a.2.2))
theorem rsum_pc (a : RBk × Int × Int) (r : Int) (h : (M_rsum a).run = some r) : PC P 77 (D_rsum.enc a) (dInt.enc r) := by
 obtain ⟨b, acc, day⟩ := a
 obtain ⟨g, e⟩ := chk_ret h
 subst e
 obtain ⟨g1, g2⟩ := of_decide_eq_true g
 simp only at g1
 refine call_of okP tLA91 ((fn_rsum (b, acc, day)).trans ?_)
 simp only [Nat.zero_add, decF_encF, decN_encN]
 have key := L_su_eq g1 g2 acc day b.p.length 0 0 (by omega) (by omega)
 rw [List.drop_zero, Int.zero_add] at key
 exact obs_step key rfl
end K
noncomputable def BLAa1 : Tab := BLA91.addCall 77 (callE D_rsum dInt K.M_rsum)
theorem tLAa1 : TabOk P BLAa1 := TabOk.addPC tLA91 (K.rsum_pc)
end Go.Proofs.YtelpdkojdfnmiaaGreat
/-! LAb -/
namespace Go.Proofs.YtelpdkojdfnmiaaGreat
open Ev K
set_option maxRecDepth 100000
end Go.Proofs.YtelpdkojdfnmiaaGreat
/-! LAc -/
namespace Go.Proofs.YtelpdkojdfnmiaaGreat
open Ev K
set_option maxRecDepth 100000
def O_sd : DecB (Span × Unit × (RBk × Int) × (Int × Int × Nat) × List Pst × Unit) := .flat 45 lSpan (.flat 80 (.tops 4) (.flat 54 lKept (.flat 41 (lStmO 4) (.rows 23 rPost .nil))))
def S_sd2 := DecS.ghostF 11 2 23 4 [.int .i64, .int .i64, .int .i64, .int .i64] (DecS.mk0 (.skip (.cons (dInt) (.skips 4 (.unit (dLp 0 0 0 0) (.skip (.unit (dLp 1 0 0 0) (.unit (dLp 2 0 0 0) (.skip (.unit (dLp 3 0 0 0) (.cons (dInt) (.last (dInt) 94))))))))))) O_sd)
def X_sd2 := DecX.one (.exit 2) [1, 6, 8, 9, 11, 12] (DecS.mk0 (.skip (.cons (dInt) (.skips 4 (.unit (dLp 0 0 0 0) (.skip (.unit (dLp 1 0 0 0) (.unit (dLp 2 0 0 0) (.skip (.unit (dLp 3 0 0 0) (.last (dInt) 95)))))))))) O_sd)
noncomputable def K.st_sd2 := loopT1 P BLAa1 30 42 97 [13, 11, 9, 1, 12, 8, 6] S_sd2 X_sd2
theorem sl_sd2 : ∀ s, (K.st_sd2) s = T.run (
 let q7 := s.2.2.2.1.1;
 let q3 := RBk.p q7;
 let q9 := (0 : Nat);
 let q1 := (RBk.mk (RBk.closed q7) (decF rPost (List.length q3) fun i => encF rPost q3 (q9 + i)) (decF rInt (List.length (RBk.refused q7)) fun i => encF rInt (RBk.refused q7) (q9 + i)) (decN nBill (List.length (RBk.bills q7)) fun i => encN nBill (RBk.bills q7) (q9 + i)) (decF rBal (List.length (RBk.paid q7)) fun i => encF rBal (RBk.paid q7) (q9 + i)) (decF rBal (List.length (RBk.bonds q7)) fun i => encF rBal (RBk.bonds q7) (q9 + i)) (decF rItem (List.length (RBk.stands q7)) fun i => encF rItem (RBk.stands q7) (q9 + i)), s.2.2.2.1.2);
 let q8 := (s.1.1, s.1.2.1, IntKind.wrap IntKind.i64 (s.1.2.2 + (1 : Int)));
 let q6 := s.2.2.2.2.2.1;
 let q2 := Sum.inl (q8, s.2.1, PUnit.unit, q1, s.2.2.2.2.1, decF rPost (List.length q6) (encF rPost q6), PUnit.unit);
 let q4 := q9 + Int.toNat s.1.2.2;
 let q5 := decide ((0 : Int) ≤ s.1.2.2 ∧ s.1.2.2 < (↑(List.length q3) : Int));
 .br (decide (s.1.2.2 < (↑(clampL (List.length q3)) : Int))) (
  .chk q5 <|
  .br (numOf (encF rPost q3 q4 (nat_lit 1)) == s.1.2.1) (
   .chk q5 <|
   .br (numOf (encF rPost q3 q4 (nat_lit 2)) == s.1.1) (
    .chk q5 <|
    .chk (decide ((List.length q6 + (1 : Nat)) * (32 : Nat) ≤ (140737488355328 : Nat) ∧ List.length q6 + (1 : Nat) ≤ nat_lit 9223372036854775807)) <|
    .ret (Sum.inl (q8, s.2.1, PUnit.unit, q1, (s.2.2.2.2.1.1, s.2.2.2.2.1.2.1, List.length q6 + (1 : Nat)), decF rPost (List.length q6 + (1 : Nat)) (appG (List.length q6) (encF rPost q6) fun i k => Option.getD [AV.int IntKind.i64 (numOf (encF rPost q3 q4 q9)), AV.int IntKind.i64 (numOf (encF rPost q3 q4 (nat_lit 1))), AV.int IntKind.i64 (numOf (encF rPost q3 q4 (nat_lit 2))), AV.int IntKind.i64 (numOf (encF rPost q3 q4 (nat_lit 3)))][(q9 + i) * (4 : Nat) + k]? AV.top), PUnit.unit))) (
    .ret q2)) (
   .ret q2)) (
  .ret (Sum.inr ((s.1.1, s.1.2.1), s.2.1, PUnit.unit, q1, s.2.2.2.2.1, decF rPost (List.length q6) (encF rPost q6), PUnit.unit)))) := fun s => by kernel_rfl
noncomputable def K.L_sd2 := lim K.st_sd2
noncomputable def BLAc1 : Tab := BLAa1.addNode 42 97 (nodeE [13, 11, 9, 1, 12, 8, 6] S_sd2 X_sd2 (fun s => .obs (K.L_sd2 s) .ret))
theorem tLAc1 : TabOk P BLAc1 := TabOk.addLoop (d := 30) okP tLAa1 (by kernel_rfl) (by kernel_rfl) (fun s r h => obs_ret h)
def S_sd1 := DecS.ghostF 11 2 23 4 [.int .i64, .int .i64, .int .i64, .int .i64] (DecS.mk0 (.skip (.cons (dInt) (.skips 4 (.unit (dLp 0 0 0 0) (.skip (.unit (dLp 1 0 0 0) (.unit (dLp 2 0 0 0) (.skip (.unit (dLp 3 0 0 0) (.last (dInt) 95)))))))))) O_sd)
def X_sd1 := DecX.one (.exit 0) [8, 11] (DecS.mk0 (.skips 8 (.unit (dLp 0 0 0 0) (.skips 2 (.unit (dLp 1 0 0 0) (.tops 96))))) (.flat 80 (.tops 4) (.flat 41 (lStmO 2) (.rows 23 rPost .nil))))
noncomputable def K.st_sd1 := loopT1 P BLAc1 30 42 73 [11, 9, 1, 12, 8, 6] S_sd1 X_sd1
theorem sl_sd1 : ∀ s, (K.st_sd1) s = T.run (
 let q1 := s.2.2.2.1.1;
 let q2 := (0 : Nat);
 let q3 := s.2.2.2.2.2.1;
 .br (decide (s.1.2 ≤ Span.hi s.2.1)) (
  .obs (L_sd2 ((s.1.1, s.1.2, (0 : Int)), s.2.1, PUnit.unit, (RBk.mk (RBk.closed q1) (decF rPost (List.length (RBk.p q1)) fun i => encF rPost (RBk.p q1) (q2 + i)) (decF rInt (List.length (RBk.refused q1)) fun i => encF rInt (RBk.refused q1) (q2 + i)) (decN nBill (List.length (RBk.bills q1)) fun i => encN nBill (RBk.bills q1) (q2 + i)) (decF rBal (List.length (RBk.paid q1)) fun i => encF rBal (RBk.paid q1) (q2 + i)) (decF rBal (List.length (RBk.bonds q1)) fun i => encF rBal (RBk.bonds q1) (q2 + i)) (decF rItem (List.length (RBk.stands q1)) fun i => encF rItem (RBk.stands q1) (q2 + i)), s.2.2.2.1.2), s.2.2.2.2.1, decF rPost (List.length q3) (encF rPost q3), PUnit.unit)) fun x0 =>
 let q4 := x0.2.2.2.1.1;
   .ret (Sum.inl ((x0.1.1, IntKind.wrap IntKind.i64 (x0.1.2 + (1 : Int))), x0.2.1, PUnit.unit, (RBk.mk (RBk.closed q4) (decF rPost (List.length (RBk.p q4)) fun i => encF rPost (RBk.p q4) (q2 + i)) (decF rInt (List.length (RBk.refused q4)) fun i => encF rInt (RBk.refused q4) (q2 + i)) (decN nBill (List.length (RBk.bills q4)) fun i => encN nBill (RBk.bills q4) (q2 + i)) (decF rBal (List.length (RBk.paid q4)) fun i => encF rBal (RBk.paid q4) (q2 + i)) (decF rBal (List.length (RBk.bonds q4)) fun i => encF rBal (RBk.bonds q4) (q2 + i)) (decF rItem (List.length (RBk.stands q4)) fun i => encF rItem (RBk.stands q4) (q2 + i)), x0.2.2.2.1.2), x0.2.2.2.2.1, decF rPost (List.length x0.2.2.2.2.2.1) (encF rPost x0.2.2.2.2.2.1), PUnit.unit))) (
  .ret (Sum.inr (PUnit.unit, PUnit.unit, s.2.2.2.2.1, decF rPost (List.length q3) (encF rPost q3), PUnit.unit)))) := fun s => by kernel_rfl
noncomputable def K.L_sd1 := lim K.st_sd1
noncomputable def BLAc2 : Tab := BLAc1.addNode 42 73 (nodeE [11, 9, 1, 12, 8, 6] S_sd1 X_sd1 (fun s => .obs (K.L_sd1 s) .ret))
theorem tLAc2 : TabOk P BLAc2 := TabOk.addLoop (d := 30) okP tLAc1 (by kernel_rfl) (by kernel_rfl) (fun s r h => obs_ret h)
theorem fn_rstate : ∀ a, (callT1 P BLAc2 30 42 D_state (dAgg (.cons dInt (.cons dInt (.cons (dRows rPost) (.last dInt 0)))))) a = T.run (
 let q5 := (0 : Nat);
 let q1 := keepV (decF rItem (List.length a.1) fun i => encF rItem a.1 (q5 + i)) a.2.2.2;
 let q3 := q1.1;
 let q2 := decF rPost (List.length (RBk.p q3)) fun i => encF rPost (RBk.p q3) (q5 + i);
 let q6 := (0 : Int);
 let q4 := (q6, q6, [], (1 : Int));
 let q7 := a.2.2.1;
 .br (q1.2 != q6) (
  .ret ((q6, q6, [], q1.2))) (
  .br (!r_account a.2.1) (
   .ret q4) (
   .br (decide (Span.lo q7 < q6)) (
    .ret q4) (
    .br (decide (Span.lo q7 > Span.hi q7)) (
     .ret q4) (
     .br (decide (Span.hi q7 > (728 : Int))) (
      .ret q4) (
      .chk (psOk q2) <|
      .chk (psOk q2) <|
      .obs (L_sd1 ((a.2.1, Span.lo q7), q7, PUnit.unit, (RBk.mk (RBk.closed q3) q2 (decF rInt (List.length (RBk.refused q3)) fun i => encF rInt (RBk.refused q3) (q5 + i)) (decN nBill (List.length (RBk.bills q3)) fun i => encN nBill (RBk.bills q3) (q5 + i)) (decF rBal (List.length (RBk.paid q3)) fun i => encF rBal (RBk.paid q3) (q5 + i)) (decF rBal (List.length (RBk.bonds q3)) fun i => encF rBal (RBk.bonds q3) (q5 + i)) (decF rItem (List.length (RBk.stands q3)) fun i => encF rItem (RBk.stands q3) (q5 + i)), q1.2), (sumA q2 a.2.1 (IntKind.wrap IntKind.i64 (Span.lo q7 - (1 : Int))), sumA q2 a.2.1 (Span.hi q7), q5), decF rPost q5 fun _x _x_1 => AV.top, PUnit.unit)) fun x0 =>
       .ret ((x0.2.2.1.1, x0.2.2.1.2.1, decF rPost (List.length x0.2.2.2.1) fun i => encF rPost x0.2.2.2.1 (q5 + i), q6)))))))) := fun a => by kernel_rfl
end Go.Proofs.YtelpdkojdfnmiaaGreat
/-! LAd -/
namespace Go.Proofs.YtelpdkojdfnmiaaGreat
open Ev K
set_option maxRecDepth 100000
namespace K
theorem r_account_iff (n : Int) : r_account n = true ↔ acOk n := by
 unfold r_account acOk r_other
 by_cases h : r_within (n, 1, 3) = true
 ·rw [if_pos h]
  have := (r_within_iff n 1 3).1 h
  exact ⟨fun _ => by omega, fun _ => rfl⟩
 ·rw [if_neg h]
  have h' := mt (r_within_iff n 1 3).2 h
  rw [r_within_iff]; omega
theorem ps_keep {l : List Itm} (hc : checkV l = 0) (known : Int) : psOk (keepR l known).p = true := by rw [kr_p hc]; exact chk_bal hc known
theorem not_t {b : Bool} {p : Prop} (h : b = true ↔ p) (hp : ¬ p) : (!b) = true := by
 rw [Bool.not_eq_true', ← Bool.not_eq_true]; exact fun e => hp (h.1 e)
theorem not_f {b : Bool} {p : Prop} (h : b = true ↔ p) (hp : p) : (!b) = false := by rw [h.2 hp]; rfl
end K
end Go.Proofs.YtelpdkojdfnmiaaGreat
/-! LAe -/
namespace Go.Proofs.YtelpdkojdfnmiaaGreat
open Ev K
set_option maxRecDepth 100000
namespace K
end K
end Go.Proofs.YtelpdkojdfnmiaaGreat
/-! LAf -/
namespace Go.Proofs.YtelpdkojdfnmiaaGreat
open Ev K
set_option maxRecDepth 100000
namespace K
end K
end Go.Proofs.YtelpdkojdfnmiaaGreat
/-! LAg -/
namespace Go.Proofs.YtelpdkojdfnmiaaGreat
open Ev K
set_option maxRecDepth 100000
namespace K
def dayP (acc d : Int) (p : Pst) : Bool := decide (p.day = d ∧ p.account = acc)
theorem L_sd2_eq {b : RBk} (e acc dd bf af : Int) (sp : Span) (hl : b.p.length ≤ 1000) : ∀ (d i : Nat) (out : List Pst), i + d = b.p.length → out.length + d ≤ 1000000 →
  L_sd2 ((acc, dd, (i : Int)), sp, (), (b, e), (bf, af, out.length), out, ()) = some ((acc, dd), sp, (), (b, e), (bf, af, (out ++ (b.p.drop i).filter (dayP acc dd)).length), out ++ (b.p.drop i).filter (dayP acc dd), ()) := by
 intro d
 induction d with
 | zero =>
  intro i out h ho
  refine lim_done ?_
  rw [sl_sd2]
  simp only [cS (show b.p.length ≤ 1000000 by omega), Nat.zero_add, decF_encF, decN_encN]
  refine br_f (decide_eq_false (by omega)) ?_
  rw [List.drop_of_length_le (by omega)]; simp; rfl
 | succ d ih =>
  intro i out h ho
  have hi : i < b.p.length := by omega
  have hx := List.getElem?_eq_getElem hi
  rw [List.drop_eq_getElem_cons hi]
  generalize b.p[i] = x at hx
  have w : IntKind.i64.wrap ((i : Int) + 1) = ((i + 1 : Nat) : Int) := by rw [w64_in (by omega) (by omega)]; rfl
  have hid : (⟨x.item, x.day, x.account, x.amount⟩ : Pst) = x := rfl
  by_cases hp : x.day = dd ∧ x.account = acc
  ·rw [List.filter_cons_of_pos (by simpa [dayP] using hp)]
   have e2 : ∀ t : List Pst, out ++ x :: t = (out ++ [x]) ++ t := fun t => by simp
   rw [e2]
   refine (lim_step ?_).trans (ih (i + 1) (out ++ [x]) (by omega) (by rw [List.length_append]; simp only [List.length_singleton]; omega))
   rw [sl_sd2]
   simp only [cS (show b.p.length ≤ 1000000 by omega), Int.toNat_natCast, Nat.zero_add, post_at hx, pw0, pw1, pw2, pw3, decF_encF, decN_encN, w, pushP, hid]
   refine br_t (decide_eq_true (by omega)) (chk_step (decide_eq_true (by omega)) (br_t (beq_iff_eq.2 hp.1) (chk_step (decide_eq_true (by omega)) (br_t (beq_iff_eq.2 hp.2) (chk_step (decide_eq_true (by omega)) (chk_step (decide_eq_true (by omega)) ?_))))))
   rw [List.length_append]; rfl
  ·rw [List.filter_cons_of_neg (by simpa [dayP] using hp)]
   refine (lim_step ?_).trans (ih (i + 1) out (by omega) (by omega))
   rw [sl_sd2]
   simp only [cS (show b.p.length ≤ 1000000 by omega), Int.toNat_natCast, Nat.zero_add, post_at hx, pw1, pw2, decF_encF, decN_encN, w]
   refine br_t (decide_eq_true (by omega)) (chk_step (decide_eq_true (by omega)) ?_)
   by_cases h1 : x.day = dd
   ·exact br_t (beq_iff_eq.2 h1) (chk_step (decide_eq_true (by omega)) (br_f (by rw [beq_eq_false_iff_ne]; exact fun h2 => hp ⟨h1, h2⟩) rfl))
   ·exact br_f (by rw [beq_eq_false_iff_ne]; exact h1) rfl
def dayL (ps : List Pst) (acc : Int) : Int → Nat → List Pst
 | _, 0 => []
 | d, n + 1 => ps.filter (dayP acc d) ++ dayL ps acc (d + 1) n
theorem L_sd1_eq {b : RBk} (e acc bf af : Int) (sp : Span) (hl : b.p.length ≤ 1000) (hsp : sp.hi ≤ 728) : ∀ (n : Nat) (dd : Int) (out : List Pst), 0 ≤ dd → dd + n = sp.hi + 1 → (out.length : Int) ≤ 1000 * dd →
  L_sd1 ((acc, dd), sp, (), (b, e), (bf, af, out.length), out, ()) = some ((), (), (bf, af, (out ++ dayL b.p acc dd n).length), out ++ dayL b.p acc dd n, ()) := by
 intro n
 induction n with
 | zero =>
  intro dd out h0 h ho
  refine lim_done ?_
  rw [sl_sd1]
  simp only [decF_encF]
  refine br_f (decide_eq_false (by omega)) ?_
  simp only [dayL, List.append_nil]; rfl
 | succ n ih =>
  intro dd out h0 h ho
  have w : IntKind.i64.wrap (dd + 1) = dd + 1 := w64_in (by omega) (by omega)
  have hf := List.length_filter_le (dayP acc dd) b.p
  have key := L_sd2_eq (b := b) e acc dd bf af sp hl b.p.length 0 out (by omega) (by omega)
  rw [List.drop_zero] at key
  simp only [dayL]
  rw [← List.append_assoc]
  refine (lim_step ?_).trans (ih (dd + 1) (out ++ b.p.filter (dayP acc dd)) (by omega) (by omega) (by rw [List.length_append]; omega))
  rw [sl_sd1]
  simp only [Nat.zero_add, decF_encF, decN_encN]
  refine br_t (decide_eq_true (by omega)) ?_
  refine obs_step key ?_
  simp only [w]; rfl
theorem dayL_mem (ps : List Pst) (acc : Int) : ∀ (n : Nat) (d : Int), ∀ p ∈ dayL ps acc d n, d ≤ p.day
 | 0, _, p, h => by cases h
 | n + 1, d, p, h => by
  rcases List.mem_append.1 h with h | h
  ·have := (List.mem_filter.1 h).2
   unfold dayP at this
   have := (of_decide_eq_true this).1; omega
  ·have := dayL_mem ps acc n (d + 1) p h; omega
theorem dayL_sd (ps : List Pst) (acc : Int) : ∀ (n : Nat) (d : Int), Sd (dayL ps acc d n)
 | 0, _ => List.Pairwise.nil
 | n + 1, d => by
  refine sd_app.2 ⟨?_, dayL_sd ps acc n (d + 1), fun x hx y hy => ?_⟩
  ·refine List.Pairwise.imp_of_mem (R := fun _ _ => True) (fun {x y} hx hy _ => ?_) (List.pairwise_of_forall fun _ _ => trivial)
   have h1 := (List.mem_filter.1 hx).2
   have h2 := (List.mem_filter.1 hy).2
   unfold dayP at h1 h2
   have := (of_decide_eq_true h1).1; have := (of_decide_eq_true h2).1; omega
  ·have h1 := (List.mem_filter.1 hx).2
   unfold dayP at h1
   have := (of_decide_eq_true h1).1
   have := dayL_mem ps acc n (d + 1) y hy; omega
theorem dayL_day (ps : List Pst) (acc c : Int) : ∀ (n : Nat) (d : Int), (dayL ps acc d n).filter (fun x => x.day == c) = if d ≤ c ∧ c < d + n then ps.filter (dayP acc c) else []
 | 0, d => by rw [if_neg (by omega)]; rfl
 | n + 1, d => by
  simp only [dayL]
  rw [List.filter_append, dayL_day ps acc c n (d + 1), List.filter_filter]
  by_cases h : c = d
  ·subst h
   rw [if_neg (by omega), if_pos (by omega), List.append_nil]
   apply List.filter_congr
   intro x _
   unfold dayP
   by_cases h1 : x.day = c <;> simp [h1]
  ·have e : (ps.filter fun a => (a.day == c) && dayP acc d a) = [] := by
    rw [List.filter_eq_nil_iff]
    intro x _
    unfold dayP
    simp only [Bool.and_eq_true, beq_iff_eq, decide_eq_true_eq]; omega
   rw [e, List.nil_append]
   by_cases h2 : d + 1 ≤ c ∧ c < d + 1 + n
   ·rw [if_pos h2, if_pos (by omega)]
   ·rw [if_neg h2, if_neg (by omega)]
theorem dayL_lines (ps : List Pst) (acc : Int) (sp : Span) (n : Nat) (h : sp.lo + n = sp.hi + 1) : dayL ps acc sp.lo n = stB (ps.filter (onLine acc sp)) := by
 refine stB_of (fun c => ?_) (dayL_sd ps acc n sp.lo)
 rw [dayL_day, List.filter_filter]
 by_cases h2 : sp.lo ≤ c ∧ c < sp.lo + n
 ·rw [if_pos h2]
  apply List.filter_congr
  intro x _
  unfold dayP onLine
  by_cases h1 : x.day = c
  ·subst h1
   by_cases h3 : x.account = acc
   ·simp [h3]; omega
   ·simp [h3]
  ·simp [h1]
 ·rw [if_neg h2, List.filter_eq_nil_iff]
  intro x _
  unfold onLine
  simp only [Bool.and_eq_true, beq_iff_eq, decide_eq_true_eq]; omega
def flatS (v : Stm × Int) : Int × Int × List Pst × Int := (v.1.before, v.1.after, v.1.lines, v.2)
theorem rstate_eq (a : List Itm × Int × Span × Int) : callT1 P BLAc2 30 42 D_state (dAgg (.cons dInt (.cons dInt (.cons (dRows rPost) (.last dInt 0))))) a = some (flatS (stateV a.1 a.2.1 a.2.2.1 a.2.2.2)) := by
 obtain ⟨l, acc, sp, known⟩ := a
 rw [fn_rstate]; unfold stateV stateE
 simp only [Nat.zero_add, decF_encF, decN_encN]
 by_cases h : askedV l [known] = 0
 ·have hc := (ask_check h).1
  rw [keep_ok h, h]
  refine br_f rfl ?_
  by_cases ha : acOk acc
  ·refine br_f (not_f (r_account_iff acc) ha) ?_
   have e0 : orV (orV 0 (accountE acc)) (if spanOk sp then 0 else 1) = if spanOk sp then 0 else 1 := by
    unfold accountE; rw [if_pos ha]; rfl
   rw [e0]
   by_cases hs : spanOk sp
   ·have hq : (if spanOk sp then (0 : Int) else 1) = 0 := if_pos hs
    obtain ⟨s1, s2, s3⟩ := hs
    unfold dayOk at s1 s2
    rw [hq, if_pos rfl]
    have hp := ps_keep hc known
    obtain ⟨g1, g2⟩ := of_decide_eq_true hp
    refine br_f (decide_eq_false (by show ¬ sp.lo < 0; omega)) (br_f (decide_eq_false (by show ¬ sp.lo > sp.hi; omega)) (br_f (decide_eq_false (by show ¬ sp.hi > 728; omega)) (chk_step hp (chk_step hp ?_))))
    have hps := kr_p hc known
    unfold stm
    rw [← hps]
    generalize keepR l known = b at g1 g2
    obtain ⟨n, hn⟩ : ∃ n : Nat, sp.lo + n = sp.hi + 1 := ⟨(sp.hi + 1 - sp.lo).toNat, by omega⟩
    have w : IntKind.i64.wrap (sp.lo - 1) = sp.lo - 1 := w64_in (by omega) (by omega)
    have key := L_sd1_eq (b := b) 0 acc (sumA b.p acc (sp.lo - 1)) (sumA b.p acc sp.hi) sp g1 (by omega) n sp.lo [] (by omega) hn (by simp; omega)
    rw [w]
    refine obs_step key ?_
    simp only [List.nil_append]
    rw [dayL_lines b.p acc sp n hn, look_sum, look_sum]; rfl
   ·have hq : (if spanOk sp then (0 : Int) else 1) = 1 := if_neg hs
    rw [hq, if_neg (show ¬ (1 : Int) = 0 by decide)]
    by_cases c1 : sp.lo < 0
    ·exact br_t (decide_eq_true c1) rfl
    refine br_f (decide_eq_false c1) ?_
    by_cases c2 : sp.lo > sp.hi
    ·exact br_t (decide_eq_true c2) rfl
    refine br_f (decide_eq_false c2) (br_t (decide_eq_true ?_) rfl)
    unfold spanOk dayOk at hs
    show sp.hi > 728
    omega
  ·have e0 : orV (orV 0 (accountE acc)) (if spanOk sp then 0 else 1) = 1 := by
    unfold accountE; rw [if_neg ha]; rfl
   rw [e0, if_neg (show ¬ (1 : Int) = 0 by decide)]
   exact br_t (not_t (r_account_iff acc) ha) rfl
 ·have e0 : orV (orV (askedV l [known]) (accountE acc)) (if spanOk sp then 0 else 1) = askedV l [known] := by
   unfold orV; rw [if_pos h, if_pos h]
  rw [keep_bad h, e0, if_neg h]
  exact br_t (ne_t h) rfl
end K
end Go.Proofs.YtelpdkojdfnmiaaGreat
/-! LAq -/
namespace Go.Proofs.YtelpdkojdfnmiaaGreat
open Ev K
set_option maxRecDepth 100000
noncomputable def BLAq1 : Tab := BLAc2.addCall 42 (callE D_state (dAgg (.cons dInt (.cons dInt (.cons (dRows rPost) (.last dInt 0))))) (fun a => .ret (K.flatS (K.stateV a.1 a.2.1 a.2.2.1 a.2.2.2))))
theorem tLAq1 : TabOk P BLAq1 := TabOk.addPC tLAc2 (fun a r h => by rw [← ret_some h]; exact call_of okP tLAc2 (K.rstate_eq a))
def D_ckst := DecL.cons (dRows rItem) (.cons dInt (.cons dSpan (.cons dInt (.last dStm 0))))
theorem fn_rcks : ∀ a, (callT1 P BLAq1 30 44 D_ckst dInt) a = T.run (
 let q1 := stateV (decF rItem (List.length a.1) fun i => encF rItem a.1 ((0 : Nat) + i)) a.2.1 a.2.2.1 a.2.2.2.1;
 let q2 := decF rPost (List.length (Stm.lines a.2.2.2.2)) fun i => encF rPost (Stm.lines a.2.2.2.2) ((0 : Nat) + i);
 let q3 := Stm.lines q1.1;
 .br (q1.2 != (0 : Int)) (
  .ret q1.2) (
  .chk (decide (List.length q2 ≤ (1000000 : Nat) ∧ List.length (decF rPost (List.length q3) fun i => encF rPost q3 ((0 : Nat) + i)) ≤ (1000000 : Nat))) <|
  .br (!decide (q2 = decF rPost (List.length q3) fun i => encF rPost q3 ((0 : Nat) + i))) (
   .ret ((8 : Int))) (
   .br (Stm.before a.2.2.2.2 != Prod.fst (flatS q1)) (
    .ret ((8 : Int))) (
    .br (Stm.after a.2.2.2.2 != Stm.after q1.1) (
     .ret ((8 : Int))) (
     .ret ((0 : Int))))))) := fun a => by kernel_rfl
namespace K
def cksV (l : List Itm) (acc : Int) (sp : Span) (known : Int) (s : Stm) : Int := if (stateV l acc sp known).2 ≠ 0 then (stateV l acc sp known).2 else if s = (stateV l acc sp known).1 then 0 else 8
def M_cks (a : List Itm × Int × Span × Int × Stm) : T Int := .chk (decide (a.2.2.2.2.lines.length ≤ 1000000)) (.ret (cksV a.1 a.2.1 a.2.2.1 a.2.2.2.1 a.2.2.2.2))
theorem state_len (l : List Itm) (acc : Int) (sp : Span) (known : Int) : (stateV l acc sp known).1.lines.length ≤ 1000 := by
 unfold stateV
 by_cases h : stateE l acc sp known = 0
 ·rw [if_pos h]
  have h1 : askedV l [known] = 0 := Classical.byContradiction fun h1 => by
   unfold stateE orV at h
   rw [if_pos h1, if_pos h1] at h
   exact h1 h
  have hb := of_decide_eq_true (chk_bal (ask_check h1).1 known)
  have := List.length_filter_le (onLine acc sp) (readB l known).posts
  show (stB _).length ≤ 1000
  rw [stB_len]
  omega
 ·rw [if_neg h]; exact Nat.zero_le _
theorem rcks_pc (a : List Itm × Int × Span × Int × Stm) (r : Int) (h : (M_cks a).run = some r) : PC P 44 (D_ckst.enc a) (dInt.enc r) := by
 obtain ⟨l, acc, sp, known, s⟩ := a
 obtain ⟨g, e⟩ := chk_ret h
 subst e
 have g := of_decide_eq_true g
 simp only at g
 refine call_of okP tLAq1 ((fn_rcks (l, acc, sp, known, s)).trans ?_)
 have hlen := state_len l acc sp known
 simp only [Nat.zero_add, decF_encF]
 unfold cksV flatS
 generalize stateV l acc sp known = v at hlen
 obtain ⟨⟨b1, a1, l1⟩, e⟩ := v
 obtain ⟨b2, a2, l2⟩ := s
 simp only at hlen g
 by_cases h0 : e = 0
 ·subst h0
  refine br_f rfl (chk_step (decide_eq_true ⟨g, by show l1.length ≤ 1000000; omega⟩) ?_)
  rw [if_neg (fun h => h rfl)]
  by_cases h1 : l2 = l1
  ·refine br_f (by simp [h1]) ?_
   by_cases h2 : b2 = b1
   ·refine br_f (by simp [h2]) ?_
    by_cases h3 : a2 = a1
    ·refine br_f (by simp [h3]) ?_
     rw [if_pos (by rw [h1, h2, h3])]; rfl
    ·refine br_t (by simp [h3]) ?_
     rw [if_neg (fun e => h3 (by injection e))]; rfl
   ·refine br_t (by simp [h2]) ?_
    rw [if_neg (fun e => h2 (by injection e))]; rfl
  ·refine br_t (by simp [h1]) ?_
   rw [if_neg (fun e => h1 (by injection e))]; rfl
 ·rw [if_pos h0]; exact br_t (ne_t h0) rfl
end K
noncomputable def BLAq2 : Tab := BLAq1.addCall 44 (callE D_ckst dInt K.M_cks)
theorem tLAq2 : TabOk P BLAq2 := TabOk.addPC tLAq1 (K.rcks_pc)
end Go.Proofs.YtelpdkojdfnmiaaGreat
/-! LS3 -/
namespace Go.Proofs.YtelpdkojdfnmiaaGreat
open Ev K
set_option maxRecDepth 100000
def S_sw := DecS.rnd (.cons (dO 0) (.cons dInt (.cons dInt (.cons dInt (.skips 6 (.last dInt 27)))))) O_pT V_own
def X_sw := DecX.one (.exit 0) [] (DecS.rnd (.tops 38) O_pT V_own)
noncomputable def K.st_sw := loopT1 P BLS2i 30 164 9 [10, 1, 0, 2, 3] S_sw X_sw
theorem sl_sw : ∀ s, (K.st_sw) s = T.run (
 let q6 := s.1.2.2.2.2;
 let q1 := Int.toNat (IntKind.wrap IntKind.i64 (s.1.2.2.1 + q6));
 let q2 := Int.toNat (IntKind.wrap IntKind.i64 (s.1.2.1 + q6));
 let q3 := decide ((0 : Int) ≤ IntKind.wrap IntKind.i64 (s.1.2.2.1 + q6) ∧ IntKind.wrap IntKind.i64 (s.1.2.2.1 + q6) < (↑s.1.1 : Int));
 let q4 := decide ((0 : Int) ≤ IntKind.wrap IntKind.i64 (s.1.2.1 + q6) ∧ IntKind.wrap IntKind.i64 (s.1.2.1 + q6) < (↑s.1.1 : Int));
 let q5 := s.2.1.1.2;
 .br (decide (q6 < s.1.2.2.2.1)) (
  .chk q3 <|
  .chk q4 <|
  .chk q4 <|
  .chk q3 <|
  .ret (Sum.inl ((s.1.1, s.1.2.1, s.1.2.2.1, s.1.2.2.2.1, IntKind.wrap IntKind.i64 (q6 + (1 : Int))), ((s.2.1.1.1, decF rPost (List.length q5) (setR q1 (0 : Nat) (nat_lit 4) [AV.int IntKind.i64 (numOf (encF rPost q5 q2 (0 : Nat))), AV.int IntKind.i64 (numOf (encF rPost q5 q2 (nat_lit 1))), AV.int IntKind.i64 (numOf (encF rPost q5 q2 (nat_lit 2))), AV.int IntKind.i64 (numOf (encF rPost q5 q2 (nat_lit 3)))] (setR q2 (0 : Nat) (nat_lit 4) [AV.int IntKind.i64 (numOf (encF rPost q5 q1 (0 : Nat))), AV.int IntKind.i64 (numOf (encF rPost q5 q1 (nat_lit 1))), AV.int IntKind.i64 (numOf (encF rPost q5 q1 (nat_lit 2))), AV.int IntKind.i64 (numOf (encF rPost q5 q1 (nat_lit 3)))] (encF rPost q5)))), PUnit.unit), s.2.2))) (
  .ret (Sum.inr (PUnit.unit, ((s.2.1.1.1, decF rPost (List.length q5) (encF rPost q5)), PUnit.unit), s.2.2)))) := fun s => by kernel_rfl
noncomputable def K.L_sw := lim K.st_sw
noncomputable def BLS31 : Tab := BLS2i.addNode 164 9 (nodeE [10, 1, 0, 2, 3] S_sw X_sw (fun s => .obs (K.L_sw s) .ret))
theorem tLS31 : TabOk P BLS31 := TabOk.addLoop (d := 30) okP tLS2i (by kernel_rfl) (by kernel_rfl) (fun s r h => obs_ret h)
def D_sw : DecL (Int × Int × Int) := (DecL.cons dInt (.cons dInt (.cons dInt (.unit F_cmpD (.tops 0))))).iso (fun p => (p.1, p.2.1, p.2.2.1)) (fun p => (p.1, p.2.1, p.2.2, ())) (fun _ => rfl)
theorem fn_sw : ∀ a, (turnT1 P BLS31 30 164 D_sw rPost) a = T.run (
 .obs (L_sw ((List.length a.2.1, a.2.2.1, a.2.2.2.1, a.2.2.2.2, (0 : Int)), ((a.1, decF rPost (List.length a.2.1) (encF rPost a.2.1)), PUnit.unit), List.length a.2.1)) fun x0 =>
  .ret ((x0.2.1.1.1, decF rPost (List.length a.2.1) (encF rPost x0.2.1.1.2)))) := fun a => by kernel_rfl
namespace K
def swpL (l : List Pst) (a b n : Nat) : List Pst := l.take a ++ ((l.drop b).take n ++ ((l.drop (a + n)).take (b - (a + n)) ++ ((l.drop a).take n ++ l.drop (b + n))))
def M_sw (a : List Pst × Int × Int × Int) : T (List Pst) := .chk (decide (0 ≤ a.2.1 ∧ 0 ≤ a.2.2.2 ∧ a.2.1 + a.2.2.2 ≤ a.2.2.1 ∧ a.2.2.1 + a.2.2.2 ≤ a.1.length ∧ a.1.length ≤ 1000000)) (.ret (swpL a.1 a.2.1.toNat a.2.2.1.toNat a.2.2.2.toNat))
end K
end Go.Proofs.YtelpdkojdfnmiaaGreat
/-! LS4 -/
namespace Go.Proofs.YtelpdkojdfnmiaaGreat
open Ev K
set_option maxRecDepth 100000
namespace K
theorem two_set {α : Type} {P M Q : List α} {x y : α} : ((P ++ x :: (M ++ y :: Q)).set P.length y).set (P.length + 1 + M.length) x = P ++ y :: (M ++ x :: Q) := by
 rw [set_mid]
 have e : P ++ y :: (M ++ y :: Q) = (P ++ y :: M) ++ y :: Q := by simp
 have el : P.length + 1 + M.length = (P ++ y :: M).length := by simp; omega
 rw [e, el, set_mid]; simp
theorem two_get {α : Type} {P M Q : List α} {x y : α} : (P ++ x :: (M ++ y :: Q))[P.length]? = some x ∧ (P ++ x :: (M ++ y :: Q))[P.length + 1 + M.length]? = some y := by
 refine ⟨get_mid, ?_⟩
 have e : P ++ x :: (M ++ y :: Q) = (P ++ x :: M) ++ y :: Q := by simp
 have el : P.length + 1 + M.length = (P ++ x :: M).length := by simp; omega
 rw [e, el]; exact get_mid
theorem L_sw_eq (t : TypeId) (pre mid post : List Pst) (v N a b n : Nat) (hN : N ≤ 1000000) (ha : a = pre.length) : ∀ (X2 Y2 X1 Y1 : List Pst), X2.length = Y2.length → X1.length = Y1.length → n = X1.length + X2.length → b = pre.length + n + mid.length → N = b + n + post.length →
  L_sw ((N, (a : Int), (b : Int), (n : Int), (X1.length : Int)), ((t, pre ++ (Y1 ++ (X2 ++ (mid ++ (X1 ++ (Y2 ++ post)))))), ()), v) = some ((), ((t, pre ++ ((Y1 ++ Y2) ++ (mid ++ ((X1 ++ X2) ++ post)))), ()), v)
 | [], Y2, X1, Y1, h1, h2, hn, hb, hNN => by
  have : Y2 = [] := List.eq_nil_of_length_eq_zero h1.symm
  subst this
  refine lim_done ?_
  rw [sl_sw]
  simp only [decF_encF]
  refine br_f (decide_eq_false (by simp only [List.length_nil] at hn; omega)) ?_
  simp only [List.append_nil, List.nil_append]; rfl
 | x :: X2, [], X1, Y1, h1, _, _, _, _ => by simp at h1
 | x :: X2, y :: Y2, X1, Y1, h1, h2, hn, hb, hNN => by
  simp only [List.length_cons] at h1 hn
  have e0 : pre ++ (Y1 ++ (x :: X2 ++ (mid ++ (X1 ++ (y :: Y2 ++ post))))) = (pre ++ Y1) ++ x :: ((X2 ++ (mid ++ X1)) ++ y :: (Y2 ++ post)) := by simp
  have e1 : pre ++ ((Y1 ++ [y]) ++ (X2 ++ (mid ++ ((X1 ++ [x]) ++ (Y2 ++ post))))) = (pre ++ Y1) ++ y :: ((X2 ++ (mid ++ X1)) ++ x :: (Y2 ++ post)) := by simp
  have lP : (pre ++ Y1).length = a + X1.length := by rw [List.length_append]; omega
  have lM : (pre ++ Y1).length + 1 + (X2 ++ (mid ++ X1)).length = b + X1.length := by rw [List.length_append, List.length_append, List.length_append]; omega
  obtain ⟨g1, g2⟩ := two_get (P := pre ++ Y1) (M := X2 ++ (mid ++ X1)) (Q := Y2 ++ post) (x := x) (y := y)
  have g3 := two_set (P := pre ++ Y1) (M := X2 ++ (mid ++ X1)) (Q := Y2 ++ post) (x := x) (y := y)
  rw [lM] at g2 g3
  rw [lP] at g1 g3
  rw [← e0] at g1 g2 g3
  rw [← e1] at g3
  have w1 : IntKind.i64.wrap ((a : Int) + (X1.length : Int)) = ((a + X1.length : Nat) : Int) := by rw [w64_in (by omega) (by omega)]; rfl
  have w2 : IntKind.i64.wrap ((b : Int) + (X1.length : Int)) = ((b + X1.length : Nat) : Int) := by rw [w64_in (by omega) (by omega)]; rfl
  have w3 : IntKind.i64.wrap ((X1.length : Int) + 1) = ((X1 ++ [x]).length : Int) := by rw [w64_in (by omega) (by omega)]; simp
  have ih := L_sw_eq t pre mid post v N a b n hN ha X2 Y2 (X1 ++ [x]) (Y1 ++ [y]) (by omega) (by simp [h2]) (by simp; omega) hb hNN
  generalize hR : pre ++ (Y1 ++ (x :: X2 ++ (mid ++ (X1 ++ (y :: Y2 ++ post))))) = R at g1 g2 g3 ⊢
  have hs : st_sw ((N, (a : Int), (b : Int), (n : Int), (X1.length : Int)), ((t, R), ()), v) = some (.inl ((N, (a : Int), (b : Int), (n : Int), ((X1 ++ [x]).length : Int)), ((t, pre ++ ((Y1 ++ [y]) ++ (X2 ++ (mid ++ ((X1 ++ [x]) ++ (Y2 ++ post)))))), ()), v)) := by
   rw [sl_sw]
   simp only [w1, w2, w3, Int.toNat_natCast, post_at g1, post_at g2, pw0, pw1, pw2, pw3, decF_setP, decF_encF]
   refine br_t (decide_eq_true (by omega)) (chk_step (decide_eq_true (by omega)) (chk_step (decide_eq_true (by omega)) (chk_step (decide_eq_true (by omega)) (chk_step (decide_eq_true (by omega)) ?_))))
   rw [← g3]; rfl
  refine (lim_step hs).trans (Eq.trans ih ?_)
  simp
theorem sw_turn (t : TypeId) (pre X mid Y post : List Pst) (hXY : X.length = Y.length) (hl : pre.length + X.length + mid.length + Y.length + post.length ≤ 1000000) :
  turnT1 P BLS31 30 164 D_sw rPost (t, pre ++ (X ++ (mid ++ (Y ++ post))), (pre.length : Int), ((pre.length + X.length + mid.length : Nat) : Int), (X.length : Int)) = some (t, pre ++ (Y ++ (mid ++ (X ++ post)))) := by
 rw [fn_sw]
 simp only [decF_encF]
 have hlen : (pre ++ (X ++ (mid ++ (Y ++ post)))).length = pre.length + X.length + mid.length + X.length + post.length := by simp; omega
 have key := L_sw_eq t pre mid post (pre ++ (X ++ (mid ++ (Y ++ post)))).length (pre ++ (X ++ (mid ++ (Y ++ post)))).length pre.length (pre.length + X.length + mid.length) X.length (by omega) rfl X Y [] [] hXY rfl (by simp) rfl hlen
 simp only [List.nil_append] at key
 refine obs_step key ?_
 have h2 : (pre ++ (X ++ (mid ++ (Y ++ post)))).length = (pre ++ (Y ++ (mid ++ (X ++ post)))).length := by simp; omega
 simp only
 rw [h2, decF_encF]; rfl
theorem sw_split {l : List Pst} {a b n : Nat} (h1 : a + n ≤ b) (_h2 : b + n ≤ l.length) : l = l.take a ++ ((l.drop a).take n ++ ((l.drop (a + n)).take (b - (a + n)) ++ ((l.drop b).take n ++ l.drop (b + n)))) := by
 have e1 : l.drop (b + n) = (l.drop b).drop n := by rw [List.drop_drop]
 have e2 : l.drop b = (l.drop (a + n)).drop (b - (a + n)) := by rw [List.drop_drop, show a + n + (b - (a + n)) = b by omega]
 have e3 : l.drop (a + n) = (l.drop a).drop n := by rw [List.drop_drop]
 rw [e1, List.take_append_drop]
 conv => rhs; rw [show (l.drop (a + n)).take (b - (a + n)) ++ l.drop b = l.drop (a + n) by rw [e2, List.take_append_drop]]
 rw [e3, List.take_append_drop, List.take_append_drop]
theorem sw_mc (l : List Pst) (a : Int × Int × Int) (l' : List Pst) (h : (M_sw (l, a)).run = some l') : MC P 164 rPost.wd l.length ⟨rPost.tags, encF rPost l⟩ ⟨rPost.tags, encF rPost l'⟩ (D_sw.enc a) := by
 obtain ⟨x, y, z⟩ := a
 obtain ⟨g, e⟩ := chk_ret h
 subst e
 have g := of_decide_eq_true g
 simp only at g
 obtain ⟨a, rfl⟩ : ∃ a : Nat, x = a := ⟨x.toNat, by omega⟩
 obtain ⟨b, rfl⟩ : ∃ b : Nat, y = b := ⟨y.toNat, by omega⟩
 obtain ⟨n, rfl⟩ : ∃ n : Nat, z = n := ⟨z.toNat, by omega⟩
 refine turn_of (d := 30) okP tLS31 fun t => ?_
 have hsp := sw_split (l := l) (a := a) (b := b) (n := n) (by omega) (by omega)
 unfold swpL
 simp only [Int.toNat_natCast]
 have hl1 : (l.take a).length = a := by rw [List.length_take]; omega
 have hl2 : ((l.drop a).take n).length = n := by rw [List.length_take, List.length_drop]; omega
 have hl3 : ((l.drop (a + n)).take (b - (a + n))).length = b - (a + n) := by rw [List.length_take, List.length_drop]; omega
 have hl4 : ((l.drop b).take n).length = n := by rw [List.length_take, List.length_drop]; omega
 have hl5 : (l.drop (b + n)).length = l.length - (b + n) := List.length_drop
 generalize l.take a = pre at *
 generalize (l.drop a).take n = X at *
 generalize (l.drop (a + n)).take (b - (a + n)) = mid at *
 generalize (l.drop b).take n = Y at *
 generalize l.drop (b + n) = post at *
 have key := sw_turn t pre X mid Y post (by omega) (by omega)
 rw [← hsp, hl1, hl2, hl3, show a + n + (b - (a + n)) = b by omega] at key
 exact key
end K
noncomputable def BLS4s : Tab := BLS31.addTurn 164 (turnE D_sw rPost K.M_sw)
theorem tLS4s : TabOk P BLS4s := TabOk.addTurn tLS31 (turnE_cc K.sw_mc)
def E_rot : DecL (Nat × Int × Int × Int) := .cons (dO 0) (.skip (.cons dInt (.skip (.unit F_cmpD (.skips 5 (.cons dInt (.last dInt 46)))))))
def S_rot := DecS.rnd E_rot O_pT V_own
def X_rot := DecX.one (.exit 0) [10, 4, 2, 0] (DecS.rnd (.cons (dO 0) (.skip (.cons dInt (.skip (.unit F_cmpD (.skips 5 (.last dInt 47))))))) O_pT V_own)
noncomputable def K.st_rot := loopT1 P BLS4s 30 147 17 [11, 10, 4, 2, 0] S_rot X_rot
theorem sl_rot : ∀ s, (K.st_rot) s = T.run (
 let q4 := List.length s.2.1.1.2;
 let q1 := decF rPost q4 (encF rPost s.2.1.1.2);
 let q8 := s.1.2.1;
 let q6 := s.1.2.2.2;
 let q3 := s.1.2.2.1;
 let q2 := IntKind.wrap IntKind.i64 (q8 + q6) - q3;
 let q5 := q8 - q3;
 let q7 := Int.toNat (IntKind.wrap IntKind.i64 q5);
 .br (q3 != q6) (
  .br (decide (q3 > q6)) (
   .chk (decide ((0 : Int) ≤ IntKind.wrap IntKind.i64 q5 ∧ (0 : Int) ≤ q6 ∧ IntKind.wrap IntKind.i64 q5 + q6 ≤ q8 ∧ q8 + q6 ≤ (↑(List.length q1) : Int) ∧ List.length q1 ≤ (1000000 : Nat))) <|
   .ret (Sum.inl ((s.1.1, q8, IntKind.wrap IntKind.i64 (q3 - q6), q6), ((s.2.1.1.1, decF rPost q4 (encF rPost (swpL q1 q7 (Int.toNat q8) (Int.toNat q6)))), PUnit.unit), s.2.2))) (
   .chk (decide ((0 : Int) ≤ IntKind.wrap IntKind.i64 q5 ∧ (0 : Int) ≤ q3 ∧ IntKind.wrap IntKind.i64 q5 + q3 ≤ IntKind.wrap IntKind.i64 q2 ∧ IntKind.wrap IntKind.i64 q2 + q3 ≤ (↑(List.length q1) : Int) ∧ List.length q1 ≤ (1000000 : Nat))) <|
   .ret (Sum.inl ((s.1.1, q8, q3, IntKind.wrap IntKind.i64 (q6 - q3)), ((s.2.1.1.1, decF rPost q4 (encF rPost (swpL q1 q7 (Int.toNat (IntKind.wrap IntKind.i64 q2)) (Int.toNat q3)))), PUnit.unit), s.2.2)))) (
  .ret (Sum.inr ((s.1.1, q8, q3), ((s.2.1.1.1, decF rPost q4 (encF rPost s.2.1.1.2)), PUnit.unit), s.2.2)))) := fun s => by kernel_rfl
noncomputable def K.L_rot := lim K.st_rot
noncomputable def BLS41 : Tab := BLS4s.addNode 147 17 (nodeE [11, 10, 4, 2, 0] S_rot X_rot (fun s => .obs (K.L_rot s) .ret))
theorem tLS41 : TabOk P BLS41 := TabOk.addLoop (d := 30) okP tLS4s (by kernel_rfl) (by kernel_rfl) (fun s r h => obs_ret h)
theorem fn_rot : ∀ a, (turnT1 P BLS41 30 147 D_sw rPost) a = T.run (
 .obs (L_rot ((List.length a.2.1, a.2.2.2.1, IntKind.wrap IntKind.i64 (a.2.2.2.1 - a.2.2.1), IntKind.wrap IntKind.i64 (a.2.2.2.2 - a.2.2.2.1)), ((a.1, decF rPost (List.length a.2.1) (encF rPost a.2.1)), PUnit.unit), List.length a.2.1)) fun x0 =>
 let q1 := decF rPost (List.length x0.2.1.1.2) (encF rPost x0.2.1.1.2);
 let q2 := x0.1.2.1 - x0.1.2.2;
  .chk (decide ((0 : Int) ≤ IntKind.wrap IntKind.i64 q2 ∧ (0 : Int) ≤ x0.1.2.2 ∧ IntKind.wrap IntKind.i64 q2 + x0.1.2.2 ≤ x0.1.2.1 ∧ x0.1.2.1 + x0.1.2.2 ≤ (↑(List.length q1) : Int) ∧ List.length q1 ≤ (1000000 : Nat))) <|
  .ret ((x0.2.1.1.1, decF rPost (List.length a.2.1) (encF rPost (swpL q1 (Int.toNat (IntKind.wrap IntKind.i64 q2)) (Int.toNat x0.1.2.1) (Int.toNat x0.1.2.2)))))) := fun a => by kernel_rfl
end Go.Proofs.YtelpdkojdfnmiaaGreat
/-! LS5 -/
namespace Go.Proofs.YtelpdkojdfnmiaaGreat
open Ev K
set_option maxRecDepth 100000
namespace K
theorem swpL_eq (pre X mid Y post : List Pst) (hXY : X.length = Y.length) {a b n : Nat} (ha : a = pre.length) (hn : n = X.length) (hb : b = pre.length + X.length + mid.length) : swpL (pre ++ (X ++ (mid ++ (Y ++ post)))) a b n = pre ++ (Y ++ (mid ++ (X ++ post))) := by
 subst ha; subst hn; subst hb
 unfold swpL
 have d1 : (pre ++ (X ++ (mid ++ (Y ++ post)))).drop pre.length = X ++ (mid ++ (Y ++ post)) := List.drop_left
 have d2 : (pre ++ (X ++ (mid ++ (Y ++ post)))).drop (pre.length + X.length) = mid ++ (Y ++ post) := by rw [← List.drop_drop, d1]; exact List.drop_left
 have d3 : (pre ++ (X ++ (mid ++ (Y ++ post)))).drop (pre.length + X.length + mid.length) = Y ++ post := by rw [← List.drop_drop, d2]; exact List.drop_left
 have d4 : (pre ++ (X ++ (mid ++ (Y ++ post)))).drop (pre.length + X.length + mid.length + X.length) = post := by rw [← List.drop_drop, d3, hXY]; exact List.drop_left
 rw [d1, d2, d3, d4, List.take_left, List.take_left, show pre.length + X.length + mid.length - (pre.length + X.length) = mid.length by omega, List.take_left]
 conv => lhs; rw [hXY, List.take_left]
theorem L_rot_eq (t : TypeId) (v N m : Nat) (hN : N ≤ 1000000) : ∀ (n : Nat) (pre X Y post : List Pst), X.length + Y.length ≤ n → 1 ≤ X.length → 1 ≤ Y.length → m = pre.length + X.length → N = m + Y.length + post.length →
  ∃ pre' X' Y' post', X'.length = Y'.length ∧ m = pre'.length + X'.length ∧ N = m + Y'.length + post'.length ∧ pre' ++ (Y' ++ (X' ++ post')) = pre ++ (Y ++ (X ++ post)) ∧
   L_rot ((N, (m : Int), (X.length : Int), (Y.length : Int)), ((t, pre ++ (X ++ (Y ++ post))), ()), v) = some ((N, (m : Int), (X'.length : Int)), ((t, pre' ++ (X' ++ (Y' ++ post'))), ()), v)
 | 0, pre, X, Y, post, h, h1, _, _, _ => by omega
 | n + 1, pre, X, Y, post, h, h1, h2, hm, hNN => by
  have hlen : (pre ++ (X ++ (Y ++ post))).length = N := by simp; omega
  have w1 : IntKind.i64.wrap ((m : Int) - (X.length : Int)) = ((pre.length : Nat) : Int) := by rw [w64_in (by omega) (by omega)]; omega
  by_cases he : X.length = Y.length
  ·refine ⟨pre, X, Y, post, he, hm, hNN, rfl, lim_done ?_⟩
   rw [sl_rot]
   simp only [decF_encF]
   refine br_f (by rw [bne_eq_false_iff_eq]; omega) rfl
  ·by_cases hgt : X.length > Y.length
   ·have hX : X = X.take Y.length ++ X.drop Y.length := (List.take_append_drop _ _).symm
    have hx1 : (X.take Y.length).length = Y.length := by rw [List.length_take]; omega
    have hx2 : (X.drop Y.length).length = X.length - Y.length := List.length_drop
    generalize X.take Y.length = X1 at hX hx1
    generalize X.drop Y.length = X2 at hX hx2
    have hsw := swpL_eq pre X1 X2 Y post hx1 (a := pre.length) (b := m) (n := Y.length) rfl hx1.symm (by omega)
    have e0 : pre ++ (X ++ (Y ++ post)) = pre ++ (X1 ++ (X2 ++ (Y ++ post))) := by rw [hX]; simp
    obtain ⟨pre', X', Y', post', a1, a2, a3, a4, a5⟩ := L_rot_eq t v N m hN n (pre ++ Y) X2 X1 post (by omega) (by omega) (by omega) (by rw [List.length_append]; omega) (by omega)
    refine ⟨pre', X', Y', post', a1, a2, a3, by rw [a4, hX]; simp, (lim_step ?_).trans a5⟩
    rw [sl_rot]
    have w2 : IntKind.i64.wrap ((X.length : Int) - (Y.length : Int)) = (X2.length : Int) := by rw [w64_in (by omega) (by omega)]; omega
    have el : (pre ++ (X ++ (Y ++ post))).length = (pre ++ (Y ++ (X2 ++ (X1 ++ post)))).length := by rw [hX]; simp; omega
    simp only [decF_encF, w1, w2, Int.toNat_natCast]
    refine br_t (by rw [bne_iff_ne]; omega) (br_t (decide_eq_true (by omega)) (chk_step (decide_eq_true (by omega)) ?_))
    rw [e0, hsw, ← e0, el, decF_encF, hx1, List.append_assoc]; rfl
   ·have hlt : X.length < Y.length := by omega
    have hY : Y = Y.take (Y.length - X.length) ++ Y.drop (Y.length - X.length) := (List.take_append_drop _ _).symm
    have hy1 : (Y.take (Y.length - X.length)).length = Y.length - X.length := by rw [List.length_take]; omega
    have hy2 : (Y.drop (Y.length - X.length)).length = X.length := by rw [List.length_drop]; omega
    generalize Y.take (Y.length - X.length) = Y1 at hY hy1
    generalize Y.drop (Y.length - X.length) = Y2 at hY hy2
    have hsw := swpL_eq pre X Y1 Y2 post hy2.symm (a := pre.length) (b := m + (Y.length - X.length)) (n := X.length) rfl rfl (by omega)
    have e0 : pre ++ (X ++ (Y ++ post)) = pre ++ (X ++ (Y1 ++ (Y2 ++ post))) := by rw [hY]; simp
    obtain ⟨pre', X', Y', post', a1, a2, a3, a4, a5⟩ := L_rot_eq t v N m hN n pre Y2 Y1 (X ++ post) (by omega) (by omega) (by omega) (by omega) (by rw [List.length_append]; omega)
    refine ⟨pre', X', Y', post', a1, a2, a3, by rw [a4, hY]; simp, (lim_step ?_).trans a5⟩
    rw [sl_rot]
    have w2 : IntKind.i64.wrap ((m : Int) + (Y.length : Int)) = ((m + Y.length : Nat) : Int) := by rw [w64_in (by omega) (by omega)]; rfl
    have w3 : IntKind.i64.wrap (((m + Y.length : Nat) : Int) - (X.length : Int)) = ((m + (Y.length - X.length) : Nat) : Int) := by rw [w64_in (by omega) (by omega)]; omega
    have w4 : IntKind.i64.wrap ((Y.length : Int) - (X.length : Int)) = (Y1.length : Int) := by rw [w64_in (by omega) (by omega)]; omega
    have el : (pre ++ (X ++ (Y ++ post))).length = (pre ++ (Y2 ++ (Y1 ++ (X ++ post)))).length := by rw [hY]; simp; omega
    simp only [decF_encF, w1, w2, w3, w4, Int.toNat_natCast]
    refine br_t (by rw [bne_iff_ne]; omega) (br_f (decide_eq_false (by omega)) (chk_step (decide_eq_true (by omega)) ?_))
    rw [e0, hsw, ← e0, el, decF_encF, hy2]; rfl
theorem rot_turn (t : TypeId) (pre X Y post : List Pst) (h1 : 1 ≤ X.length) (h2 : 1 ≤ Y.length) (hl : pre.length + X.length + Y.length + post.length ≤ 1000000) :
  turnT1 P BLS41 30 147 D_sw rPost (t, pre ++ (X ++ (Y ++ post)), (pre.length : Int), ((pre.length + X.length : Nat) : Int), ((pre.length + X.length + Y.length : Nat) : Int)) = some (t, pre ++ (Y ++ (X ++ post))) := by
 rw [fn_rot]
 simp only [decF_encF]
 have w1 : IntKind.i64.wrap (((pre.length + X.length : Nat) : Int) - (pre.length : Int)) = (X.length : Int) := by rw [w64_in (by omega) (by omega)]; omega
 have w2 : IntKind.i64.wrap (((pre.length + X.length + Y.length : Nat) : Int) - ((pre.length + X.length : Nat) : Int)) = (Y.length : Int) := by rw [w64_in (by omega) (by omega)]; omega
 rw [w1, w2]
 have hlen : (pre ++ (X ++ (Y ++ post))).length = pre.length + X.length + Y.length + post.length := by simp; omega
 obtain ⟨pre', X', Y', post', a1, a2, a3, a4, a5⟩ := L_rot_eq t (pre ++ (X ++ (Y ++ post))).length (pre ++ (X ++ (Y ++ post))).length (pre.length + X.length) (by omega) (X.length + Y.length) pre X Y post (Nat.le_refl _) h1 h2 rfl hlen
 refine obs_step a5 ?_
 have hsw := swpL_eq pre' X' [] Y' post' a1 (a := pre'.length) (b := pre.length + X.length) (n := X'.length) rfl rfl (by simp; omega)
 simp only [List.nil_append] at hsw
 have w3 : IntKind.i64.wrap (((pre.length + X.length : Nat) : Int) - (X'.length : Int)) = (pre'.length : Int) := by rw [w64_in (by omega) (by omega)]; omega
 have hl2 : (pre' ++ (X' ++ (Y' ++ post'))).length = pre.length + X.length + Y.length + post.length := by simp; omega
 simp only [w3, Int.toNat_natCast, hsw]
 refine chk_step (decide_eq_true (by omega)) ?_
 have hl3 : (pre ++ (X ++ (Y ++ post))).length = (pre' ++ (Y' ++ (X' ++ post'))).length := by rw [a4]; simp; omega
 rw [hl3, decF_encF, a4]; rfl
def rotL (l : List Pst) (a m b : Nat) : List Pst := l.take a ++ ((l.drop m).take (b - m) ++ ((l.drop a).take (m - a) ++ l.drop b))
def M_rot (a : List Pst × Int × Int × Int) : T (List Pst) := .chk (decide (0 ≤ a.2.1 ∧ a.2.1 < a.2.2.1 ∧ a.2.2.1 < a.2.2.2 ∧ a.2.2.2 ≤ a.1.length ∧ a.1.length ≤ 1000000)) (.ret (rotL a.1 a.2.1.toNat a.2.2.1.toNat a.2.2.2.toNat))
theorem two_split {l : List Pst} {a m b : Nat} (h1 : a ≤ m) (h2 : m ≤ b) (_h3 : b ≤ l.length) : l = l.take a ++ ((l.drop a).take (m - a) ++ ((l.drop m).take (b - m) ++ l.drop b)) := by
 have e1 : l.drop b = (l.drop m).drop (b - m) := by rw [List.drop_drop, show m + (b - m) = b by omega]
 have e2 : l.drop m = (l.drop a).drop (m - a) := by rw [List.drop_drop, show a + (m - a) = m by omega]
 rw [e1, List.take_append_drop, e2, List.take_append_drop, List.take_append_drop]
theorem rot_mc (l : List Pst) (a : Int × Int × Int) (l' : List Pst) (h : (M_rot (l, a)).run = some l') : MC P 147 rPost.wd l.length ⟨rPost.tags, encF rPost l⟩ ⟨rPost.tags, encF rPost l'⟩ (D_sw.enc a) := by
 obtain ⟨x, y, z⟩ := a
 obtain ⟨g, e⟩ := chk_ret h
 subst e
 have g := of_decide_eq_true g
 simp only at g
 obtain ⟨a, rfl⟩ : ∃ a : Nat, x = a := ⟨x.toNat, by omega⟩
 obtain ⟨m, rfl⟩ : ∃ m : Nat, y = m := ⟨y.toNat, by omega⟩
 obtain ⟨b, rfl⟩ : ∃ b : Nat, z = b := ⟨z.toNat, by omega⟩
 refine turn_of (d := 30) okP tLS41 fun t => ?_
 have hsp := two_split (l := l) (a := a) (m := m) (b := b) (by omega) (by omega) (by omega)
 unfold rotL
 simp only [Int.toNat_natCast]
 have hl1 : (l.take a).length = a := by rw [List.length_take]; omega
 have hl2 : ((l.drop a).take (m - a)).length = m - a := by rw [List.length_take, List.length_drop]; omega
 have hl3 : ((l.drop m).take (b - m)).length = b - m := by rw [List.length_take, List.length_drop]; omega
 have hl5 : (l.drop b).length = l.length - b := List.length_drop
 generalize l.take a = pre at *
 generalize (l.drop a).take (m - a) = X at *
 generalize (l.drop m).take (b - m) = Y at *
 generalize l.drop b = post at *
 have key := rot_turn t pre X Y post (by omega) (by omega) (by omega)
 rw [← hsp, hl1, hl2, hl3, show a + (m - a) = m by omega, show m + (b - m) = b by omega] at key
 exact key
end K
noncomputable def BLS5r : Tab := BLS41.addTurn 147 (turnE D_sw rPost K.M_rot)
theorem tLS5r : TabOk P BLS5r := TabOk.addTurn tLS41 (turnE_cc K.rot_mc)
end Go.Proofs.YtelpdkojdfnmiaaGreat
