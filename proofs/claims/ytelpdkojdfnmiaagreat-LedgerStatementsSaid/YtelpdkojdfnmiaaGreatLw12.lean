/- LedgerStatements: for every input the law returns true, and the input reads as it did. No conditions. -/
import Derived.Test.YtelpdkojdfnmiaaGreatLw11
import Derived.Test.YtelpdkojdfnmiaaGreatRows
/-! LB0 -/
namespace Go.Proofs.YtelpdkojdfnmiaaGreat
open Ev K
set_option maxRecDepth 100000
end Go.Proofs.YtelpdkojdfnmiaaGreat
/-! LP0 -/
namespace Go.Proofs.YtelpdkojdfnmiaaGreat
open Ev K
open Go.Sort Go.Proofs
set_option maxRecDepth 100000
namespace K
def ltK (x y : Itm) : Prop := x.known < y.known ∨ x.known = y.known ∧ x.id < y.id
instance (x y : Itm) : Decidable (ltK x y) := by unfold ltK; infer_instance
theorem sortB_spec (l : List Bal) : (sortB l).Perm l ∧ (sortB l).Pairwise fun x y => ¬ y.account < x.account := by
  obtain ⟨h1, h2⟩ := sortF_spec swoB l
  exact ⟨h1, h2.imp fun h => by rw [ltB, decide_eq_false_iff_not] at h; exact h⟩
theorem uniq_of {α : Type} {R : α → α → Prop} (has : ∀ a b, R a b → R b a → False) : ∀ {l l' : List α}, l.Pairwise R → l'.Pairwise R → (∀ x, x ∈ l ↔ x ∈ l') → l = l'
  | [], [], _, _, _ => rfl
  | [], y :: t, _, _, h => by have := (h y).2 (List.mem_cons_self ..); cases this
  | x :: t, [], _, _, h => by have := (h x).1 (List.mem_cons_self ..); cases this
  | x :: t, y :: t', h1, h2, h => by
    have a1 := List.pairwise_cons.1 h1
    have a2 := List.pairwise_cons.1 h2
    have e : x = y := Classical.byContradiction fun hne => by
      have hx := (h x).1 (List.mem_cons_self ..)
      have hy := (h y).2 (List.mem_cons_self ..)
      rcases List.mem_cons.1 hx with e | hx
      · exact hne e
      rcases List.mem_cons.1 hy with e | hy
      · exact hne e.symm
      exact has _ _ (a1.1 y hy) (a2.1 x hx)
    subst e
    congr 1
    refine uniq_of has a1.2 a2.2 fun z => ⟨fun hz => ?_, fun hz => ?_⟩
    · rcases List.mem_cons.1 ((h z).1 (List.mem_cons_of_mem _ hz)) with e | h3
      · subst e; exact (has _ _ (a1.1 z hz) (a1.1 z hz)).elim
      · exact h3
    · rcases List.mem_cons.1 ((h z).2 (List.mem_cons_of_mem _ hz)) with e | h3
      · subst e; exact (has _ _ (a2.1 z hz) (a2.1 z hz)).elim
      · exact h3
end K
end Go.Proofs.YtelpdkojdfnmiaaGreat
/-! LP1 -/
namespace Go.Proofs.YtelpdkojdfnmiaaGreat
open Ev K
set_option maxRecDepth 100000
namespace K
@[ext] structure RB where (number day account : Int) (l : List Chg)
  deriving DecidableEq, Inhabited
@[ext] structure RBk where
  closed : Int
  p : List Pst
  refused : List Int
  bills : List RB
  paid : List Bal
  bonds : List Bal
  stands : List Itm
  deriving DecidableEq, Inhabited
def heldB (l : List Bal) (a : Int) : Int := match l.find? fun b => b.account == a with
  | some b => b.amount
  | none => 0
def moreB (l : List Bal) (a m : Int) : List Bal := match l with
  | [] => [⟨a, m⟩]
  | b :: t => if b.account < a then b :: moreB t a m else if b.account = a then ⟨a, b.amount + m⟩ :: t else ⟨a, m⟩ :: b :: t
def addL (l : List Int) (n : Int) : List Int := match l with
  | [] => [n]
  | b :: t => if b < n then b :: addL t n else n :: b :: t
def billR (l : List RB) (n : Int) : Option Nat := l.findIdx? fun b => b.number == n
def badR (b : RBk) (x : Itm) : Bool :=
  if x.kind = 7 then decide (x.day ≤ b.closed) else
  decide (b.closed + 1 > 728) || (decide (x.kind = 1) && (billR b.bills x.bill).isSome) || (decide (x.kind = 2) && !(billR b.bills x.bill).isSome) ||
    (decide (x.kind = 4) && decide (heldB b.paid x.account < x.amount)) || (decide (x.kind = 6) && decide (heldB b.bonds x.account < x.amount))
def twoR (b : RBk) (x : Itm) (day a c m : Int) : RBk := { b with p := b.p ++ [⟨x.id, max day (b.closed + 1), a, m⟩, ⟨x.id, max day (b.closed + 1), c, 0 - m⟩] }
def lastA (l : List Chg) : Int := (l.getLastD default).amount
def doneR (b : RBk) (x : Itm) : RBk :=
  if badR b x then { b with refused := addL b.refused x.id } else
  let b := { b with stands := b.stands ++ [x] }
  if x.kind = 1 then twoR { b with bills := b.bills ++ [⟨x.bill, x.day, x.account, [⟨x.known, x.amount⟩]⟩] } x x.day x.account 2 x.amount
  else if x.kind = 2 then (match billR b.bills x.bill with
    | some q => twoR { b with bills := b.bills.set q { b.bills.getD q default with l := (b.bills.getD q default).l ++ [⟨x.known, x.amount⟩] } } x (b.bills.getD q default).day (b.bills.getD q default).account 2 (x.amount - lastA (b.bills.getD q default).l)
    | none => b)
  else if x.kind = 3 then twoR { b with paid := moreB b.paid x.account x.amount } x x.day 1 x.account x.amount
  else if x.kind = 4 then twoR { b with paid := moreB b.paid x.account (0 - x.amount) } x x.day x.account 1 x.amount
  else if x.kind = 5 then twoR { b with bonds := moreB b.bonds x.account x.amount } x x.day 1 3 x.amount
  else if x.kind = 6 then twoR { b with bonds := moreB b.bonds x.account (0 - x.amount) } x x.day 3 1 x.amount
  else { b with closed := x.day }
def rb0 : RBk := ⟨-1, [], [], [], [], [], []⟩
structure Mp (m : List (Int × Int)) (l : List Bal) : Prop where
  keys : (m.map (·.1)).Nodup
  sorted : l.Pairwise fun x y => x.account < y.account
  mem : ∀ b, b ∈ l ↔ (b.account, b.amount) ∈ m
theorem Mp.nil : Mp [] [] := ⟨List.nodup_nil, List.Pairwise.nil, fun b => by simp⟩
theorem keys_uniq {m : List (Int × Int)} (h : (m.map (·.1)).Nodup) {a v w : Int} (h1 : (a, v) ∈ m) (h2 : (a, w) ∈ m) : v = w := by
  obtain ⟨i, hi, e1⟩ := List.getElem_of_mem h1
  obtain ⟨j, hj, e2⟩ := List.getElem_of_mem h2
  have := (List.getElem_inj (h₀ := by simpa using hi) (h₁ := by simpa using hj) h).1 (by simp [e1, e2])
  subst this; rw [e1] at e2; injection e2
theorem lookM_mem {m : List (Int × Int)} (h : (m.map (·.1)).Nodup) {a v : Int} (h1 : (a, v) ∈ m) : lookM m a = v := by
  unfold lookM
  cases hf : fM m a with
  | none =>
    unfold fM at hf
    rw [List.findIdx?_eq_none_iff] at hf
    have := hf _ h1
    simp at this
  | some i =>
    have hi := fM_some hf
    unfold fM at hf
    rw [List.findIdx?_eq_some_iff_getElem] at hf
    have hk : m[i].1 = a := (beq_iff_eq.1 hf.2.1).symm
    simp only
    rw [List.getD_eq_getElem?_getD, List.getElem?_eq_getElem hi]
    refine keys_uniq h (a := a) ?_ h1
    have : m[i] = (a, m[i].2) := by rw [← hk]
    simp only [Option.getD_some]
    rw [← this]; exact List.getElem_mem hi
theorem lookM_none {m : List (Int × Int)} {a : Int} (h : ∀ v, (a, v) ∉ m) : lookM m a = 0 := by
  unfold lookM
  cases hf : fM m a with
  | none => rfl
  | some i =>
    have hi := fM_some hf
    unfold fM at hf
    rw [List.findIdx?_eq_some_iff_getElem] at hf
    have hk : m[i].1 = a := (beq_iff_eq.1 hf.2.1).symm
    exfalso
    exact h m[i].2 (by rw [← hk]; exact List.getElem_mem hi)
theorem Mp.held {m : List (Int × Int)} {l : List Bal} (h : Mp m l) (a : Int) : heldB l a = lookM m a := by
  unfold heldB
  cases hf : l.find? fun b => b.account == a with
  | none =>
    rw [List.find?_eq_none] at hf
    refine (lookM_none fun v hv => ?_).symm
    have := hf ⟨a, v⟩ ((h.mem _).2 hv)
    simp at this
  | some b =>
    have hb := List.mem_of_find?_eq_some hf
    have he := List.find?_some hf
    simp only [beq_iff_eq] at he
    subst he
    exact (lookM_mem h.keys ((h.mem b).1 hb)).symm
theorem put_mem {m : List (Int × Int)} (h : (m.map (·.1)).Nodup) (n v : Int) (p : Int × Int) : p ∈ putM m n v ↔ p = (n, v) ∨ (p ∈ m ∧ p.1 ≠ n) := by
  unfold putM
  cases hf : fM m n with
  | none =>
    unfold fM at hf
    rw [List.findIdx?_eq_none_iff] at hf
    simp only [List.mem_append, List.mem_singleton]
    constructor
    · rintro (h1 | h1)
      · have := hf p h1
        exact .inr ⟨h1, fun e => by simp [e] at this⟩
      · exact .inl h1
    · rintro (h1 | h1)
      · exact .inr h1
      · exact .inl h1.1
  | some i =>
    have hi := fM_some hf
    unfold fM at hf
    rw [List.findIdx?_eq_some_iff_getElem] at hf
    have hk : m[i].1 = n := (beq_iff_eq.1 hf.2.1).symm
    simp only
    constructor
    · intro hp
      obtain ⟨j, hj, e⟩ := List.getElem_of_mem hp
      rw [List.length_set] at hj
      rw [List.getElem_set] at e
      split at e
      · exact .inl e.symm
      · rename_i hne
        refine .inr ⟨e ▸ List.getElem_mem hj, fun e2 => hne ?_⟩
        exact (List.getElem_inj (h₀ := by simpa using hi) (h₁ := by simpa using hj) h).1 (by simp [hk, e, e2])
    · rintro (e | ⟨hp, hne⟩)
      · subst e; exact List.mem_set hi _
      · obtain ⟨j, hj, e⟩ := List.getElem_of_mem hp
        have hij : i ≠ j := fun e2 => by subst e2; exact hne (by rw [← e]; exact hk)
        have : (m.set i (n, v))[j]'(by simpa using hj) = p := by rw [List.getElem_set_ne hij]; exact e
        rw [← this]; exact List.getElem_mem _
theorem moreB_mem : ∀ {l : List Bal} {a m : Int}, l.Pairwise (fun x y => x.account < y.account) → (moreB l a m).Pairwise (fun x y => x.account < y.account) ∧ ∀ b, b ∈ moreB l a m ↔ b = ⟨a, heldB l a + m⟩ ∨ (b ∈ l ∧ b.account ≠ a)
  | [], a, m, _ => ⟨List.pairwise_singleton .., fun b => by simp [moreB, heldB]⟩
  | c :: t, a, m, h => by
    have hh := List.pairwise_cons.1 h
    unfold moreB
    by_cases h1 : c.account < a
    · rw [if_pos h1]
      obtain ⟨b1, b2⟩ := moreB_mem (a := a) (m := m) hh.2
      have he : heldB (c :: t) a = heldB t a := by
        unfold heldB; rw [List.find?_cons_of_neg (by simp; omega)]
      refine ⟨List.pairwise_cons.2 ⟨fun z hz => ?_, b1⟩, fun b => ?_⟩
      · rcases (b2 z).1 hz with e | hz
        · subst e; exact h1
        · exact hh.1 z hz.1
      · rw [he, List.mem_cons, b2, List.mem_cons]
        constructor
        · rintro (e | e | e)
          · subst e; exact .inr ⟨.inl rfl, by omega⟩
          · exact .inl e
          · exact .inr ⟨.inr e.1, e.2⟩
        · rintro (e | ⟨e | e, h2⟩)
          · exact .inr (.inl e)
          · exact .inl e
          · exact .inr (.inr ⟨e, h2⟩)
    · rw [if_neg h1]
      by_cases h2 : c.account = a
      · rw [if_pos h2]
        have he : heldB (c :: t) a = c.amount := by
          unfold heldB; rw [List.find?_cons_of_pos (by simpa using h2)]
        refine ⟨List.pairwise_cons.2 ⟨fun z hz => by have := hh.1 z hz; show a < _; omega, hh.2⟩, fun b => ?_⟩
        rw [he, List.mem_cons, List.mem_cons]
        constructor
        · rintro (e | e)
          · exact .inl e
          · exact .inr ⟨.inr e, by have := hh.1 b e; omega⟩
        · rintro (e | ⟨e | e, h3⟩)
          · exact .inl e
          · subst e; exact absurd h2 h3
          · exact .inr e
      · rw [if_neg h2]
        have he : heldB (c :: t) a = 0 := by
          unfold heldB
          rw [List.find?_eq_none.2]
          intro b hb
          rcases List.mem_cons.1 hb with e | hb
          · subst e; simpa using h2
          · have := hh.1 b hb; simp; omega
        refine ⟨List.pairwise_cons.2 ⟨fun z hz => ?_, h⟩, fun b => ?_⟩
        · rcases List.mem_cons.1 hz with e | hz
          · subst e; show a < _; omega
          · have := hh.1 z hz; show a < _; omega
        · rw [he, Int.zero_add, List.mem_cons]
          constructor
          · rintro (e | e)
            · exact .inl e
            · refine .inr ⟨e, ?_⟩
              rcases List.mem_cons.1 e with e | e
              · subst e; exact h2
              · have := hh.1 b e; omega
          · rintro (e | e)
            · exact .inl e
            · exact .inr e.1
theorem Mp.more {m : List (Int × Int)} {l : List Bal} (h : Mp m l) (a v w : Int) (hw : w = lookM m a + v) : Mp (putM m a w) (moreB l a v) := by
  subst hw
  obtain ⟨h1, h2⟩ := moreB_mem (a := a) (m := v) h.sorted
  refine ⟨nodup_put h.keys, h1, fun b => ?_⟩
  rw [h2, put_mem h.keys, h.held, h.mem]
  constructor
  · rintro (e | e)
    · subst e; exact .inl rfl
    · exact .inr e
  · rintro (e | e)
    · injection e with e1 e2; exact .inl (Bal.ext e1 e2)
    · exact .inr e
theorem Mp.list {m : List (Int × Int)} {l : List Bal} (h : Mp m l) : listB m = l := by
  obtain ⟨h1, h2⟩ := sortB_spec (m.map balOf)
  have hk : (listB m).Pairwise fun x y => x.account < y.account := by
    have hn : ((listB m).map (·.account)).Nodup := by
      refine (h1.map _).nodup_iff.2 ?_
      rw [List.map_map]; exact h.keys
    have := (List.pairwise_map.1 hn).and h2
    exact this.imp fun ⟨a, b⟩ => by omega
  refine uniq_of (R := fun x y : Bal => x.account < y.account) (fun a b h1 h2 => by omega) hk h.sorted fun b => ?_
  rw [h.mem]
  refine h1.mem_iff.trans ?_
  rw [List.mem_map]
  constructor
  · rintro ⟨p, hp, rfl⟩; exact hp
  · intro hp; exact ⟨_, hp, rfl⟩
theorem addL_spec : ∀ {l : List Int} {n : Int}, l.Pairwise (· ≤ ·) → (addL l n).Pairwise (· ≤ ·) ∧ (addL l n).Perm (l ++ [n])
  | [], n, _ => ⟨List.pairwise_singleton .., List.Perm.refl _⟩
  | b :: t, n, h => by
    have hh := List.pairwise_cons.1 h
    unfold addL
    by_cases h1 : b < n
    · rw [if_pos h1]
      obtain ⟨a1, a2⟩ := addL_spec (n := n) hh.2
      refine ⟨List.pairwise_cons.2 ⟨fun z hz => ?_, a1⟩, a2.cons b⟩
      rcases List.mem_append.1 (a2.mem_iff.1 hz) with hz | hz
      · exact hh.1 z hz
      · simp only [List.mem_singleton] at hz; omega
    · rw [if_neg h1]
      refine ⟨List.pairwise_cons.2 ⟨fun z hz => ?_, h⟩, List.perm_append_comm (l₁ := [n])⟩
      rcases List.mem_cons.1 hz with e | hz
      · omega
      · have := hh.1 z hz; omega
def rbOf (b : Std × List Chg) : RB := ⟨b.1.no, b.1.item.day, b.1.item.account, b.2⟩
structure Rel (k : Bk) (b : RBk) : Prop where
  closed : b.closed = k.closed
  p : b.p = k.posts
  refused : b.refused.Pairwise (· ≤ ·) ∧ b.refused.Perm k.refused
  bills : b.bills = k.bills.map rbOf
  last : ∀ s ∈ k.bills, lastA s.2 = s.1.amount ∧ (0 ≤ s.1.item.day ∧ s.1.item.day ≤ 728)
  paid : Mp k.paid b.paid
  bonds : Mp k.bonds b.bonds
  stands : b.stands = k.taken
  low : -1 ≤ k.closed
theorem Rel.zero : Rel bk0 rb0 := ⟨rfl, rfl, ⟨List.Pairwise.nil, List.Perm.refl _⟩, rfl, (fun s h => by cases h), Mp.nil, Mp.nil, rfl, by decide⟩
theorem Rel.refuse {k : Bk} {b : RBk} (h : Rel k b) (x : Itm) : Rel (refuse k x) { b with refused := addL b.refused x.id } := by
  obtain ⟨a1, a2⟩ := addL_spec (n := x.id) h.refused.1
  exact ⟨h.closed, h.p, ⟨a1, a2.trans (h.refused.2.append_right _)⟩, h.bills, h.last, h.paid, h.bonds, h.stands, h.low⟩
theorem billR_eq {k : Bk} {b : RBk} (h : Rel k b) (n : Int) : billR b.bills n = fb k n := by
  unfold billR fb
  rw [h.bills, List.findIdx?_map]
  congr 1
  funext s
  show (s.1.no == n) = (n == s.1.no)
  exact Bool.beq_comm
theorem max_on (k : Bk) (b : RBk) (h : Rel k b) (d : Int) : max d (b.closed + 1) = onDay k d := by
  unfold onDay; rw [h.closed]; omega
theorem Rel.done {k : Bk} {b : RBk} (h : Rel k b) {x : Itm} (hx : x.Fm) : Rel (doItem k x) (doneR b x) := by
  have hm := max_on k b h
  have hl := h.low
  have hd := hx.2.2.1
  have hk := hx.2.2.2.2
  have hP : ∀ d, (onDay k d > 728 ↔ (k.closed + 1 > 728 ∨ d > 728)) := fun d => by unfold onDay; split <;> omega
  have hneg : ∀ m : Int, 0 - m = -m := fun m => by omega
  unfold doItem doneR
  by_cases k1 : x.kind = 1
  · rw [if_pos k1]
    have hbad : badR b x = (decide (k.closed + 1 > 728) || (fb k x.bill).isSome) := by
      unfold badR; rw [if_neg (by omega), h.closed, billR_eq h]; simp [k1]
    unfold doBill
    cases hf : fb k x.bill with
    | some q =>
      show Rel (K.refuse k x) _
      rw [if_pos (by rw [hbad, hf]; simp)]; exact h.refuse x
    | none =>
      simp only
      by_cases h7 : onDay k x.day > 728
      · rw [if_pos h7, if_pos (by rw [hbad, hf]; have := (hP x.day).1 h7; simp; omega)]; exact h.refuse x
      · rw [if_neg h7, if_neg (by rw [hbad, hf]; have := mt (hP x.day).2 h7; simp; omega)]
        simp only [k1, if_true]
        refine ⟨h.closed, ?_, h.refused, ?_, fun s hs => ?_, h.paid, h.bonds, ?_, hl⟩
        · simp only [twoR, stand, hm, h.p, hneg]
        · simp only [twoR, h.bills, List.map_append]; rfl
        · rcases List.mem_append.1 hs with hs | hs
          · exact h.last s hs
          · simp only [List.mem_singleton] at hs; subst hs; exact ⟨rfl, hd⟩
        · simp only [twoR, stand, h.stands]
  rw [if_neg k1]
  by_cases k2 : x.kind = 2
  · rw [if_pos k2]
    have hbad : badR b x = (decide (k.closed + 1 > 728) || !(fb k x.bill).isSome) := by
      unfold badR; rw [if_neg (by omega), h.closed, billR_eq h]; simp [k2]
    unfold doMend
    cases hf : fb k x.bill with
    | none =>
      show Rel (K.refuse k x) _
      rw [if_pos (by rw [hbad, hf]; simp)]; exact h.refuse x
    | some q =>
      have hq := fb_some hf
      have hg : k.bills.getD q default = k.bills[q] := by rw [List.getD_eq_getElem?_getD, List.getElem?_eq_getElem hq]; rfl
      have hmem := List.getElem_mem hq
      have hg2 : b.bills.getD q default = rbOf k.bills[q] := by rw [List.getD_eq_getElem?_getD, h.bills, List.getElem?_map, List.getElem?_eq_getElem hq]; rfl
      simp only [hg]
      generalize k.bills[q] = s at hmem hg2
      obtain ⟨e1, e2⟩ := h.last s hmem
      by_cases h7 : onDay k s.1.item.day > 728
      · rw [if_pos h7, if_pos (by rw [hbad, hf]; have := (hP s.1.item.day).1 h7; simp; omega)]; exact h.refuse x
      · rw [if_neg h7, if_neg (by rw [hbad, hf]; have := mt (hP s.1.item.day).2 h7; simp; omega), if_neg k1, if_pos k2]
        have e3 : billR b.bills x.bill = some q := (billR_eq h x.bill).trans hf
        simp only [e3, hg2]
        refine ⟨h.closed, ?_, h.refused, ?_, fun s' hs => ?_, h.paid, h.bonds, ?_, hl⟩
        · simp only [twoR, stand, hm, h.p, hneg, rbOf, e1]
        · simp only [twoR, h.bills, List.map_set]; rfl
        · rcases List.mem_or_eq_of_mem_set hs with hs | hs
          · exact h.last s' hs
          · subst hs; exact ⟨by simp [lastA], e2⟩
        · simp only [twoR, stand, h.stands]
  rw [if_neg k2]
  by_cases k3 : x.kind = 3
  · rw [if_pos k3]
    have hbad : badR b x = decide (k.closed + 1 > 728) := by
      unfold badR; rw [if_neg (by omega), h.closed]; simp [k3]
    unfold doPay
    by_cases h7 : onDay k x.day > 728
    · rw [if_pos h7, if_pos (by rw [hbad]; have := (hP x.day).1 h7; simp; omega)]; exact h.refuse x
    · rw [if_neg h7, if_neg (by rw [hbad]; have := mt (hP x.day).2 h7; simp; omega), if_neg k1, if_neg k2, if_pos k3]
      refine ⟨h.closed, ?_, h.refused, h.bills, h.last, h.paid.more _ _ _ rfl, h.bonds, ?_, hl⟩
      · simp only [twoR, stand, hm, h.p, hneg]
      · simp only [twoR, stand, h.stands]
  rw [if_neg k3]
  by_cases k4 : x.kind = 4
  · rw [if_pos k4]
    have hbad : badR b x = (decide (k.closed + 1 > 728) || decide (lookM k.paid x.account < x.amount)) := by
      unfold badR; rw [if_neg (by omega), h.closed, h.paid.held]; simp [k4]
    unfold doRefund
    by_cases h6 : lookM k.paid x.account < x.amount
    · rw [if_pos h6, if_pos (by rw [hbad]; simp [h6])]; exact h.refuse x
    rw [if_neg h6]
    by_cases h7 : onDay k x.day > 728
    · rw [if_pos h7, if_pos (by rw [hbad]; have := (hP x.day).1 h7; simp; omega)]; exact h.refuse x
    · rw [if_neg h7, if_neg (by rw [hbad]; have := mt (hP x.day).2 h7; simp; omega), if_neg k1, if_neg k2, if_neg k3, if_pos k4]
      refine ⟨h.closed, ?_, h.refused, h.bills, h.last, h.paid.more _ _ _ (by omega), h.bonds, ?_, hl⟩
      · simp only [twoR, stand, hm, h.p, hneg]
      · simp only [twoR, stand, h.stands]
  rw [if_neg k4]
  by_cases k5 : x.kind = 5
  · rw [if_pos k5]
    have hbad : badR b x = decide (k.closed + 1 > 728) := by
      unfold badR; rw [if_neg (by omega), h.closed]; simp [k5]
    unfold doBond
    by_cases h7 : onDay k x.day > 728
    · rw [if_pos h7, if_pos (by rw [hbad]; have := (hP x.day).1 h7; simp; omega)]; exact h.refuse x
    · rw [if_neg h7, if_neg (by rw [hbad]; have := mt (hP x.day).2 h7; simp; omega), if_neg k1, if_neg k2, if_neg k3, if_neg k4, if_pos k5]
      refine ⟨h.closed, ?_, h.refused, h.bills, h.last, h.paid, h.bonds.more _ _ _ rfl, ?_, hl⟩
      · simp only [twoR, stand, hm, h.p, hneg]
      · simp only [twoR, stand, h.stands]
  rw [if_neg k5]
  by_cases k6 : x.kind = 6
  · rw [if_pos k6]
    have hbad : badR b x = (decide (k.closed + 1 > 728) || decide (lookM k.bonds x.account < x.amount)) := by
      unfold badR; rw [if_neg (by omega), h.closed, h.bonds.held]; simp [k6]
    unfold doFree
    by_cases h6 : lookM k.bonds x.account < x.amount
    · rw [if_pos h6, if_pos (by rw [hbad]; simp [h6])]; exact h.refuse x
    rw [if_neg h6]
    by_cases h7 : onDay k x.day > 728
    · rw [if_pos h7, if_pos (by rw [hbad]; have := (hP x.day).1 h7; simp; omega)]; exact h.refuse x
    · rw [if_neg h7, if_neg (by rw [hbad]; have := mt (hP x.day).2 h7; simp; omega), if_neg k1, if_neg k2, if_neg k3, if_neg k4, if_neg k5, if_pos k6]
      refine ⟨h.closed, ?_, h.refused, h.bills, h.last, h.paid, h.bonds.more _ _ _ (by omega), ?_, hl⟩
      · simp only [twoR, stand, hm, h.p, hneg]
      · simp only [twoR, stand, h.stands]
  rw [if_neg k6]
  have k7 : x.kind = 7 := by omega
  have hbad : badR b x = decide (x.day ≤ k.closed) := by
    unfold badR; rw [if_pos k7, h.closed]
  unfold doShut
  by_cases h7 : x.day ≤ k.closed
  · rw [if_pos h7, if_pos (by rw [hbad]; simpa using h7)]; exact h.refuse x
  · rw [if_neg h7, if_neg (by rw [hbad]; simpa using h7), if_neg k1, if_neg k2, if_neg k3, if_neg k4, if_neg k5, if_neg k6]
    exact ⟨rfl, h.p, h.refused, h.bills, h.last, h.paid, h.bonds, by simp [h.stands], by show -1 ≤ x.day; omega⟩
end K
end Go.Proofs.YtelpdkojdfnmiaaGreat
/-! LP2 -/
namespace Go.Proofs.YtelpdkojdfnmiaaGreat
open Ev K
set_option maxRecDepth 100000
namespace K
def balStep (behind : Int) (l : List Bal) (p : Pst) : List Bal := if p.day ≤ behind then moreB l p.account p.amount else l
def balR (ps : List Pst) (behind : Int) : List Bal := ps.foldl (balStep behind) []
theorem mp_fold (behind : Int) : ∀ (ps : List Pst) (m : List (Int × Int)) (l : List Bal), Mp m l → Mp (ps.foldl (sumStep behind) m) (ps.foldl (balStep behind) l)
  | [], _, _, h => h
  | p :: ps, m, l, h => by
    refine mp_fold behind ps _ _ ?_
    unfold sumStep balStep
    split
    · exact h.more _ _ _ rfl
    · exact h
theorem mp_sum (ps : List Pst) (behind : Int) : Mp (sumP ps behind) (balR ps behind) := mp_fold behind ps _ _ Mp.nil
def sumI (l : List Int) : Int := l.sum
def sumA (ps : List Pst) (a behind : Int) : Int := sumI ((ps.filter fun p => decide (p.account = a ∧ p.day ≤ behind)).map (·.amount))
theorem held_more : ∀ {l : List Bal}, l.Pairwise (fun x y => x.account < y.account) → ∀ (a m c : Int), heldB (moreB l a m) c = heldB l c + if a = c then m else 0
  | [], _, a, m, c => by
    unfold moreB heldB
    by_cases h : a = c
    · subst h; simp
    · simp [h]
  | b :: t, hs, a, m, c => by
    have hh := List.pairwise_cons.1 hs
    unfold moreB
    have cons : ∀ (x : Bal) (t : List Bal), heldB (x :: t) c = if x.account = c then x.amount else heldB t c := fun x t => by
      unfold heldB
      by_cases h : x.account = c
      · rw [List.find?_cons_of_pos (by simpa using h), if_pos h]
      · rw [List.find?_cons_of_neg (by simpa using h), if_neg h]
    by_cases h1 : b.account < a
    · rw [if_pos h1, cons, cons, held_more hh.2]
      by_cases h2 : b.account = c
      · rw [if_pos h2, if_pos h2, if_neg (by omega)]; omega
      · rw [if_neg h2, if_neg h2]
    · rw [if_neg h1]
      by_cases h2 : b.account = a
      · rw [if_pos h2, cons, cons]
        simp only
        by_cases h3 : a = c
        · rw [if_pos h3, if_pos (by omega), if_pos h3]
        · rw [if_neg h3, if_neg (by omega), if_neg h3]; omega
      · rw [if_neg h2, cons]
        simp only
        by_cases h3 : a = c
        · rw [if_pos h3, if_pos h3]
          have : heldB (b :: t) c = 0 := by
            unfold heldB
            rw [List.find?_eq_none.2]
            intro x hx
            rcases List.mem_cons.1 hx with e | hx
            · subst e; simp; omega
            · have := hh.1 x hx; simp; omega
          omega
        · rw [if_neg h3, if_neg h3]; omega
theorem held_balR (ps : List Pst) (behind a : Int) : heldB (balR ps behind) a = sumA ps a behind := by
  have key : ∀ (ps : List Pst) (m : List (Int × Int)) (l : List Bal), Mp m l → heldB (ps.foldl (balStep behind) l) a = heldB l a + sumA ps a behind := by
    intro ps
    induction ps with
    | nil => intro m l _; simp [sumA, sumI]
    | cons p ps ih =>
      intro m l hm
      rw [List.foldl_cons]
      unfold sumA at *
      by_cases h : p.day ≤ behind
      · have e : balStep behind l p = moreB l p.account p.amount := if_pos h
        rw [e, ih _ _ (hm.more p.account p.amount _ rfl), held_more hm.sorted]
        by_cases h2 : p.account = a
        · rw [if_pos h2, List.filter_cons_of_pos (by simp [h, h2]), List.map_cons]; simp only [sumI, List.sum_cons]; omega
        · rw [if_neg h2, List.filter_cons_of_neg (by simp [h2])]; omega
      · have e : balStep behind l p = l := if_neg h
        rw [e, ih _ _ hm, List.filter_cons_of_neg (by simp; intro _; omega)]
  have := key ps [] [] Mp.nil
  unfold balR; rw [this]; simp [heldB]
theorem look_sum (ps : List Pst) (behind a : Int) : lookM (sumP ps behind) a = sumA ps a behind := by rw [← (mp_sum ps behind).held, held_balR]
theorem sumI_perm {l l' : List Int} (h : l.Perm l') : sumI l = sumI l' := by
  induction h with
  | nil => rfl
  | cons x _ ih => simp only [sumI, List.sum_cons] at *; omega
  | swap x y l => simp only [sumI, List.sum_cons]; omega
  | trans _ _ a b => exact a.trans b
theorem sumA_bound {ps : List Pst} (h : ∀ p ∈ ps, amtOk p.amount) (a d : Int) : -((ps.length : Int) * 16777216) ≤ sumA ps a d ∧ sumA ps a d ≤ (ps.length : Int) * 16777216 := by
  induction ps with
  | nil => simp [sumA, sumI]
  | cons p ps ih =>
    have h1 := ih fun q hq => h q (List.mem_cons_of_mem _ hq)
    have h2 := h p (List.mem_cons_self ..)
    unfold amtOk at h2
    unfold sumA at *
    rw [List.length_cons, List.filter_cons]
    split
    · simp only [List.map_cons, sumI, List.sum_cons] at *; omega
    · omega
structure Pr where (x : Itm) (on a b m : Int)
def Pr.two (z : Pr) : List Pst := [⟨z.x.id, z.on, z.a, z.m⟩, ⟨z.x.id, z.on, z.b, -z.m⟩]
def pairs (zs : List Pr) : List Pst := zs.flatMap Pr.two
theorem pairs_app (a b : List Pr) : pairs (a ++ b) = pairs a ++ pairs b := List.flatMap_append ..
def isPair (l : List Pst) : Prop := ∃ zs, l = pairs zs
theorem isPair.app {l : List Pst} (h : isPair l) (x : Itm) (on a b m : Int) : isPair (l ++ [⟨x.id, on, a, m⟩, ⟨x.id, on, b, -m⟩]) := by
  obtain ⟨zs, rfl⟩ := h
  exact ⟨zs ++ [⟨x, on, a, b, m⟩], by rw [pairs_app]; rfl⟩
end K
end Go.Proofs.YtelpdkojdfnmiaaGreat
/-! LB1 -/
namespace Go.Proofs.YtelpdkojdfnmiaaGreat
open Ev K
set_option maxRecDepth 100000
namespace K
theorem wrapS {a : Int} (h1 : -9000000000000000000 ≤ a) (h2 : a ≤ 9000000000000000000) : IntKind.i64.wrap a = a := w64_in (by omega) (by omega)
theorem wrapI {i : Nat} (h : i ≤ 4000000) : IntKind.i64.wrap ((i : Int) + 1) = ((i + 1 : Nat) : Int) := by rw [w64_in (by omega) (by omega)]; rfl
theorem clampS {n : Nat} (h : n ≤ 1000000) : clampL n = n := clampL_eq (by unfold maxL; omega)
end K
end Go.Proofs.YtelpdkojdfnmiaaGreat
/-! LB3 -/
namespace Go.Proofs.YtelpdkojdfnmiaaGreat
open Ev K
set_option maxRecDepth 100000
namespace K
theorem L_ls1_eq (l : List Itm) (acc hi known : Int) (a b c : Stm) (hl : c.lines.length ≤ 1000) (ha : ∀ p ∈ c.lines, amtOk p.amount) : ∀ (d i : Nat) (n : Int), i + d = c.lines.length → -(((i + 2000 : Nat) : Int) * 16777216) ≤ n ∧ n ≤ ((i + 2000 : Nat) : Int) * 16777216 →
    L_ls1 ((l, acc, hi, known, n, (i : Int)), a, b, c, ()) = some ((l, acc, hi, known, n + sumI ((c.lines.drop i).map (·.amount))), a, b, c, ()) := by
  intro d
  induction d with
  | zero =>
    intro i n h hb
    refine lim_done ?_
    rw [sl_ls1]
    simp only [Nat.zero_add, decF_encF, clampS (show c.lines.length ≤ 1000000 by omega)]
    refine br_f (decide_eq_false (by omega)) ?_
    rw [List.drop_of_length_le (by omega)]
    simp [sumI]; rfl
  | succ d ih0 =>
    intro i n h hb
    have hi' : i < c.lines.length := by omega
    have hx := List.getElem?_eq_getElem hi'
    have hm := ha _ (List.getElem_mem hi')
    have hdrop := List.drop_eq_getElem_cons hi'
    generalize c.lines[i] = x at hx hm hdrop
    unfold amtOk at hm
    have ih := ih0 (i + 1) (n + x.amount) (by omega) (by omega)
    have e : n + sumI ((c.lines.drop i).map (·.amount)) = n + x.amount + sumI ((c.lines.drop (i + 1)).map (·.amount)) := by
      rw [hdrop]; simp only [List.map_cons, sumI, List.sum_cons]; omega
    rw [e]
    refine (lim_step ?_).trans ih
    rw [sl_ls1]
    simp only [clampS (show c.lines.length ≤ 1000000 by omega), Int.toNat_natCast, Nat.zero_add, post_at hx, pw3, decF_encF, wrapI (show i ≤ 4000000 by omega), wrapS (show -9000000000000000000 ≤ n + x.amount by omega) (by omega)]
    exact br_t (decide_eq_true (by omega)) (chk_step (decide_eq_true (by omega)) rfl)
theorem orV_zero (a : Int) : orV a 0 = a := by
  unfold orV
  by_cases h : a ≠ 0
  · rw [if_pos h]
  · rw [if_neg h]; have : a = 0 := by simpa using h
    rw [this]
theorem sumA_span (ps : List Pst) (acc : Int) (sp : Span) (h : sp.lo - 1 ≤ sp.hi) : sumA ps acc (sp.lo - 1) + sumI ((ps.filter (onLine acc sp)).map (·.amount)) = sumA ps acc sp.hi := by
  induction ps with
  | nil => simp [sumA, sumI]
  | cons p ps ih =>
    unfold sumA at *
    by_cases h1 : p.account = acc
    · by_cases h2 : p.day ≤ sp.lo - 1
      · rw [List.filter_cons_of_pos (by simp [h1, h2]), List.filter_cons_of_neg (by simp [onLine]; omega), List.filter_cons_of_pos (by simp; omega)]
        simp only [List.map_cons, sumI, List.sum_cons] at *; omega
      · by_cases h3 : p.day ≤ sp.hi
        · rw [List.filter_cons_of_neg (by simp; omega), List.filter_cons_of_pos (by simp [onLine]; omega), List.filter_cons_of_pos (by simp; omega)]
          simp only [List.map_cons, sumI, List.sum_cons] at *; omega
        · rw [List.filter_cons_of_neg (by simp; omega), List.filter_cons_of_neg (by simp [onLine]; omega), List.filter_cons_of_neg (by simp; omega)]
          exact ih
    · rw [List.filter_cons_of_neg (by simp [h1]), List.filter_cons_of_neg (by simp [onLine, h1]), List.filter_cons_of_neg (by simp [h1])]
      exact ih
theorem lines_sum (ps : List Pst) (acc : Int) (sp : Span) : sumI (((stm ps acc sp).lines).map (·.amount)) = sumI ((ps.filter (onLine acc sp)).map (·.amount)) :=
  sumI_perm ((stB_perm _).map _)
theorem lines_app (ps : List Pst) (acc lo mid hi : Int) (h1 : lo ≤ mid) (h2 : mid < hi) : (stm ps acc ⟨lo, mid⟩).lines ++ (stm ps acc ⟨mid + 1, hi⟩).lines = (stm ps acc ⟨lo, hi⟩).lines := by
  refine stB_of (l := ps.filter (onLine acc ⟨lo, hi⟩)) ?_ (sd_app.2 ⟨stB_sd _, stB_sd _, fun x hx y hy => ?_⟩)
  · intro d
    show _ = List.filter _ (stB (ps.filter (onLine acc ⟨lo, mid⟩)) ++ stB (ps.filter (onLine acc ⟨mid + 1, hi⟩)))
    rw [List.filter_append, ← stB_eq _ d, ← stB_eq _ d, List.filter_filter, List.filter_filter, List.filter_filter]
    by_cases hd : d ≤ mid
    · have e1 : (ps.filter fun a => (a.day == d) && onLine acc ⟨mid + 1, hi⟩ a) = [] := by
        rw [List.filter_eq_nil_iff]; intro x _; simp [onLine]; omega
      rw [e1, List.append_nil]
      refine List.filter_congr fun x _ => ?_
      apply Bool.eq_iff_iff.2; simp [onLine]; omega
    · have e1 : (ps.filter fun a => (a.day == d) && onLine acc ⟨lo, mid⟩ a) = [] := by
        rw [List.filter_eq_nil_iff]; intro x _; simp [onLine]; omega
      rw [e1, List.nil_append]
      refine List.filter_congr fun x _ => ?_
      apply Bool.eq_iff_iff.2; simp [onLine]; omega
  · have h3 := (stB_perm _).mem_iff.1 hx; have h4 := (stB_perm _).mem_iff.1 hy
    have h5 := (List.mem_filter.1 h3).2; have h6 := (List.mem_filter.1 h4).2
    unfold onLine at h5 h6
    have h5 := of_decide_eq_true h5; have h6 := of_decide_eq_true h6
    simp only at h5 h6; omega
theorem app_two (a b : List Pst) : (decF rPost (a.length + b.length) fun i => appG a.length (appG 0 (fun _ _ => .top) fun i k => encF rPost a i k) (fun i k => encF rPost b i k) i) = a ++ b := by
  apply List.ext_getElem?
  intro i
  by_cases hi : i < a.length + b.length
  · simp only [decF, List.getElem?_map, List.getElem?_range hi, Option.map_some]
    by_cases h : i < a.length
    · have e : appG a.length (appG 0 (fun _ _ => .top) fun i k => encF rPost a i k) (fun i k => encF rPost b i k) i = encF rPost a i := by
        funext k; unfold appG
        rw [show Nat.ble a.length i = false by rw [← Bool.not_eq_true, Nat.ble_eq]; omega, show Nat.ble 0 i = true by rw [Nat.ble_eq]; omega]
        simp
      rw [e, List.getElem?_append_left h, List.getElem?_eq_getElem h, post_at (List.getElem?_eq_getElem h)]; rfl
    · have hj : i - a.length < b.length := by omega
      have e : appG a.length (appG 0 (fun _ _ => .top) fun i k => encF rPost a i k) (fun i k => encF rPost b i k) i = encF rPost b (i - a.length) := by
        funext k; unfold appG
        rw [show Nat.ble a.length i = true by rw [Nat.ble_eq]; omega]
      rw [e, List.getElem?_append_right (by omega), List.getElem?_eq_getElem hj, post_at (List.getElem?_eq_getElem hj)]; rfl
  · rw [List.getElem?_eq_none (by simp [decF]; omega), List.getElem?_eq_none (by simp; omega)]
theorem lwSt_eq (a : List Itm × Int × Int × Int × Int × Int) : callT1 P BLB21 30 5 D_l6 dB a = some true := by
  obtain ⟨l, acc, lo, mid, hi, known⟩ := a
  rw [fn_lwSt]
  simp only [Nat.zero_add, decF_encF]
  by_cases hfew : l_few l = true
  · refine br_f (by rw [hfew]; rfl) ?_
    by_cases g1 : lo < 0
    · exact br_t (decide_eq_true g1) rfl
    refine br_f (decide_eq_false g1) ?_
    by_cases g2 : mid < lo
    · exact br_t (decide_eq_true g2) rfl
    refine br_f (decide_eq_false g2) ?_
    by_cases g3 : hi ≤ mid
    · exact br_t (decide_eq_true g3) rfl
    refine br_f (decide_eq_false g3) ?_
    by_cases g4 : hi > 728
    · exact br_t (decide_eq_true g4) rfl
    refine br_f (decide_eq_false g4) ?_
    have w : IntKind.i64.wrap (mid + 1) = mid + 1 := w64_in (by omega) (by omega)
    have s1 : spanOk ⟨lo, mid⟩ := ⟨⟨by show 0 ≤ lo; omega, by show lo ≤ 728; omega⟩, ⟨by show 0 ≤ mid; omega, by show mid ≤ 728; omega⟩, by show lo ≤ mid; omega⟩
    have s2 : spanOk ⟨mid + 1, hi⟩ := ⟨⟨by show 0 ≤ mid + 1; omega, by show mid + 1 ≤ 728; omega⟩, ⟨by show 0 ≤ hi; omega, by show hi ≤ 728; omega⟩, by show mid + 1 ≤ hi; omega⟩
    have s3 : spanOk ⟨lo, hi⟩ := ⟨⟨by show 0 ≤ lo; omega, by show lo ≤ 728; omega⟩, ⟨by show 0 ≤ hi; omega, by show hi ≤ 728; omega⟩, by show lo ≤ hi; omega⟩
    have hE : ∀ sp, spanOk sp → stateE l acc sp known = orV (askedV l [known]) (accountE acc) := fun sp h => by
      unfold stateE; rw [if_pos h, orV_zero]
    have hV : ∀ sp, spanOk sp → (stateV l acc sp known).2 = orV (askedV l [known]) (accountE acc) := fun sp h => hE sp h
    rw [w, hV _ s1, hV _ s2, hV _ s3]
    refine br_f (by simp) (br_f (by simp) ?_)
    by_cases h0 : orV (askedV l [known]) (accountE acc) = 0
    · refine br_f (ne_f h0) ?_
      have hask : askedV l [known] = 0 := by unfold orV at h0; split at h0; rename_i h; exact absurd h0 h; rename_i h; simpa using h
      have hacc : accountE acc = 0 := by unfold orV at h0; split at h0; rename_i h; exact absurd h0 h; exact h0
      have hS : ∀ sp, spanOk sp → (stateV l acc sp known).1 = stm (readB l known).posts acc sp := fun sp h => by unfold stateV; rw [if_pos ((hE sp h).trans h0)]
      rw [hS _ s1, hS _ s2, hS _ s3]
      obtain ⟨hl, ha⟩ := of_decide_eq_true (chk_bal (ask_check hask).1 known)
      generalize hps : (readB l known).posts = ps at hl ha
      have hlen : ∀ sp, (stm ps acc sp).lines.length ≤ 1000 := fun sp => by
        show (stB _).length ≤ _
        rw [stB_len]; exact Nat.le_trans (List.length_filter_le _ _) hl
      have hmem : ∀ sp, ∀ p ∈ (stm ps acc sp).lines, amtOk p.amount := fun sp p hp => ha p (List.mem_filter.1 ((stB_perm _).mem_iff.1 hp)).1
      have hbf : ∀ sp, (stm ps acc sp).before = sumA ps acc (sp.lo - 1) := fun sp => look_sum ps _ acc
      have haf : ∀ sp, (stm ps acc sp).after = sumA ps acc sp.hi := fun sp => look_sum ps _ acc
      have hbd := sumA_bound ha acc (lo - 1)
      have key := L_ls1_eq l acc hi known (stm ps acc ⟨lo, mid⟩) (stm ps acc ⟨mid + 1, hi⟩) (stm ps acc ⟨lo, hi⟩) (hlen _) (hmem _) (stm ps acc ⟨lo, hi⟩).lines.length 0 (stm ps acc ⟨lo, hi⟩).before (by omega) (by rw [hbf]; simp only; omega)
      refine obs_step key ?_
      rw [List.drop_zero, lines_sum, hbf, sumA_span ps acc ⟨lo, hi⟩ (by simp only; omega)]
      have l1 := hlen ⟨lo, mid⟩; have l2 := hlen ⟨mid + 1, hi⟩; have l3 := hlen ⟨lo, hi⟩
      have hh : holdE l [hi, known] acc = 0 := by
        have h1 := ask_check hask
        have hd : ∀ n ∈ [hi, known], dayOk n := by
          intro n hn
          simp only [List.mem_cons, List.not_mem_nil, or_false] at hn
          rcases hn with rfl | rfl
          · exact s3.2.1
          · exact h1.2 _ (by simp)
        unfold holdE askedV
        rw [hacc, orV_zero, if_neg (by simpa using h1.1), if_pos hd]
      have hv : holdV l acc hi known = (sumA ps acc hi, 0) := by
        unfold holdV; rw [hh, if_pos rfl, hps, look_sum]
      simp only [hv, hbf, haf, app_two]
      refine chk_step (decide_eq_true (by omega)) (chk_step (decide_eq_true (by omega)) ?_)
      refine br_t (by simp) (br_t (by simp) (br_t (by simp) (br_t (by simp) (br_t (by simp) (br_t (by simp) (chk_step (decide_eq_true ⟨by rw [List.length_append]; omega, by omega⟩) ?_))))))
      rw [lines_app ps acc lo mid hi (by omega) (by omega)]
      simp [T.run]
    · exact br_t (ne_t h0) rfl
  · exact br_t (by rw [Bool.not_eq_true] at hfew; rw [hfew]; rfl) rfl
end K
end Go.Proofs.YtelpdkojdfnmiaaGreat
/-! LZ3 -/
namespace Go.Proofs.YtelpdkojdfnmiaaGreat
open Ev K
open Go.ChangeShapes Go.WideShapes Go.RowKit
set_option maxRecDepth 100000
theorem law_pc (a) : PC P 5 (D_l6.enc a) (.bool true) := by
  have h := lwSt_eq a
  exact call_of okP tLB21 h
theorem ownP : ownKnob P.godebug = none := by kernel_rfl
theorem laidP : laidOutB P = true := by kernel_rfl
theorem ub : P.underlying 4 = some .bool := by kernel_rfl
theorem ledgerStatements_lifted (os : Os) (started : os.Started) (H : Type) (enc : TypeId × Value → H) :
    ReturnsInHanded {} Tryz.checked os 5 .any (Rows.ledgerStatementsSpec.pre6 enc Tryz.prog Tryz.f5 Rows.ledgerStatementsRow.domain false) (Rows.ledgerStatementsSpec.post enc Tryz.prog Tryz.f5 false true false false) := by
  refine returnsInHanded_of_change (C := Tryz.checked) ownP started (by kernel_rfl) Tryz.func5
    (ChangeSpec.witness6 (enc := enc) (C := Tryz.checked) false ⟨#[], #[.slice none 0 0, .int .i64 0, .int .i64 0, .int .i64 0, .int .i64 0, .int .i64 0], []⟩ 8 (by kernel_rfl) (by kernel_rfl) (by kernel_rfl) (by kernel_rfl)) ?_
  intro W base args ds gs before hval hW _ _
  refine law_contract (P := Tryz.prog) D_l6 laidP (by kernel_rfl) rfl (fun ds hd => ?_) (fun W' b sp hd => trodAll_mk1 (shut_bool ub true)) (fun W' => ok_one (by kernel_rfl) rfl (okWide_bool_mk ub true)) (fun W base args ds p hval hA => ?_) law_pc W base args ds gs before hval hW
  · rw [Tryz.params5] at hd
    match ds, hd with
    | [a, b, c, d, e, f], _ => rfl
  · rw [Tryz.params5] at hA hval
    obtain ⟨v0, vs0, d0, ds0, p0, q0, e0, _, _, h0, r0⟩ := trodAll_cons hA
    obtain ⟨v1, vs1, d1, ds1, p1, q1, e1, _, _, h1, r1⟩ := trodAll_cons r0
    obtain ⟨v2, vs2, d2, ds2, p2, q2, e2, _, _, h2, r2⟩ := trodAll_cons r1
    obtain ⟨v3, vs3, d3, ds3, p3, q3, e3, _, _, h3, r3⟩ := trodAll_cons r2
    obtain ⟨v4, vs4, d4, ds4, p4, q4, e4, _, _, h4, r4⟩ := trodAll_cons r3
    obtain ⟨v5, vs5, d5, ds5, p5, q5, e5, _, _, h5, r5⟩ := trodAll_cons r4
    obtain ⟨e6, _, _⟩ := trodAll_nil r5
    subst e6; subst e5; subst e4; subst e3; subst e2; subst e1
    have ha : args = #[v0, v1, v2, v3, v4, v5] := by apply Array.ext'; exact e0
    subst ha
    exact rdL_cons (rp_items (hval 0 _ v0 rfl rfl) h0) (rdL_cons (rp_int (hval 1 _ v1 rfl rfl) h1) (rdL_cons (rp_int (hval 2 _ v2 rfl rfl) h2) (rdL_cons (rp_int (hval 3 _ v3 rfl rfl) h3) (rdL_cons (rp_int (hval 4 _ v4 rfl rfl) h4) (rdL_last (rp_int (hval 5 _ v5 rfl rfl) h5))))))
theorem ledgerStatements_holds : Rows.LedgerStatementsSaid :=
  OpenClaim.holds_of_wide 5 Tryz.f5 rfl rfl rfl rfl rfl rfl rfl ⟨rfl, rfl, rfl, rfl, rfl⟩ rfl rfl rfl rfl rfl (by kernel_rfl) Tryz.func5 (by kernel_rfl)
    (of_decide_eq_true (by kernel_rfl)) (by unfold Func.isWrapper; rw [if_neg (of_decide_eq_false (by kernel_rfl))]; exact ⟨rfl, rfl⟩)
    (fun os started H enc _ => ledgerStatements_lifted os started H enc)
#print axioms ledgerStatements_holds
end Go.Proofs.YtelpdkojdfnmiaaGreat
