/- LedgerBills: for every input the law returns true, and the input reads as it did. No conditions. -/
import Derived.Test.YtelpdkojdfnmiaaGreatLw11
import Derived.Test.YtelpdkojdfnmiaaGreatRows
/-! LA4 -/
namespace Go.Proofs.YtelpdkojdfnmiaaGreat
open Ev K
set_option maxRecDepth 100000
namespace K
def kpO (l : List Itm) (b : RBk) : KpObj := ((), (b.closed, b.p.length, b.refused.length, b.bills.length, b.paid.length, b.bonds.length, b.stands.length), b.p, b.refused, b.bills, b.paid, b.bonds, b.stands, l, ())
theorem pushD (l : List Pst) (a b c d a' b' c' d' : Int) : decF rPost (l.length + 2) (appG l.length (encF rPost l) fun i k => ([(.int .i64 a : AV), .int .i64 b, .int .i64 c, .int .i64 d, .int .i64 a', .int .i64 b', .int .i64 c', .int .i64 d'][i * 4 + k]?).getD .top) = l ++ [⟨a, b, c, d⟩, ⟨a', b', c', d'⟩] := decF_app rPost l 2 _
theorem decN_app {ρ : Type} (R : RowN ρ) (l : List ρ) (m : Nat) (g : Nat → Nat → AV) : decN R (l.length + m) (appG l.length (encN R l) g) = l ++ decN R m g := by
  apply List.ext_getElem?
  intro i
  simp only [decN, List.getElem?_map]
  by_cases h : i < l.length
  · have e : appG l.length (encN R l) g i = encN R l i := by
      funext k; unfold appG; rw [show Nat.ble l.length i = false by rw [← Bool.not_eq_true, Nat.ble_eq]; omega]
    rw [List.getElem?_append_left h, List.getElem?_range (by omega), List.getElem?_eq_getElem h, Option.map_some, e, encN_at (List.getElem?_eq_getElem h), R.good]
  · have e : appG l.length (encN R l) g i = g (i - l.length) := by
      funext k; unfold appG; rw [show Nat.ble l.length i = true by rw [Nat.ble_eq]; omega]
    rw [List.getElem?_append_right (by omega), List.getElem?_map]
    by_cases h2 : i < l.length + m
    · rw [List.getElem?_range h2, List.getElem?_range (by omega), Option.map_some, Option.map_some, e]
    · rw [List.getElem?_eq_none (by simp; omega), List.getElem?_eq_none (by simp; omega)]; rfl
theorem pushR (l : List RB) (a b c u v : Int) : decN nBill (l.length + 1) (appG l.length (encN nBill l) fun i k => ([(.int .i64 a : AV), .int .i64 b, .int .i64 c, .xsl 2 1 ⟨[CK.int IntKind.i64, CK.int IntKind.i64], fun i k => ([(.int .i64 u : AV), .int .i64 v][i * 2 + k]?).getD .top⟩ 0 1 (some 1)][i * 4 + k]?).getD .top) = l ++ [⟨a, b, c, [⟨u, v⟩]⟩] := decN_app nBill l 1 _
theorem sl3 (x : RB) : nBill.wr x 3 = slOf rChg x.l := rfl
theorem setN {ρ : Type} (R : RowN ρ) (l : List ρ) (q : Nat) (y : ρ) (hq : q < l.length) (xs : List AV) (hx : R.rd (fun k => (xs[k]?).getD .top) = y) (hw : R.wd = xs.length) (hr : ∀ f g : Nat → AV, (∀ k, k < R.wd → f k = g k) → R.rd f = R.rd g) : decN R l.length (setR q 0 xs.length xs (appG 0 (fun _ _ => .top) (encN R l))) = l.set q y := by
  apply List.ext_getElem?
  intro i
  simp only [decN, List.getElem?_map, List.getElem?_set]
  by_cases h : i < l.length
  · rw [List.getElem?_range h, Option.map_some]
    by_cases e : q = i
    · subst e
      rw [if_pos rfl, if_pos hq, ← hx]
      congr 1
      apply hr
      intro k hk
      unfold setR
      have hb : (Nat.beq q q && (Nat.ble 0 k && Nat.blt k (0 + xs.length))) = true := by
        simp [Nat.blt_eq]; omega
      rw [hb]; simp
    · rw [if_neg e, List.getElem?_eq_getElem h]
      congr 1
      have e2 : setR q 0 xs.length xs (appG 0 (fun _ _ => .top) (encN R l)) i = encN R l i := by
        funext k; unfold setR
        have hb : (Nat.beq i q && (Nat.ble 0 k && Nat.blt k (0 + xs.length))) = false := by
          rw [show Nat.beq i q = false by rw [← Bool.not_eq_true, Nat.beq_eq]; exact fun h => e h.symm]; rfl
        rw [hb]; simp only
        unfold appG; rw [show Nat.ble 0 i = true by rw [Nat.ble_eq]; omega]; rfl
      rw [e2, encN_at (List.getElem?_eq_getElem h), R.good]
  · rw [List.getElem?_eq_none (by simp; omega)]
    by_cases e : q = i
    · subst e; exact absurd hq h
    · rw [if_neg e, List.getElem?_eq_none (by omega)]; rfl
theorem billI_ge (l : List RB) (n : Int) : decide (billI l n ≥ 0) = (billR l n).isSome := by
  unfold billI
  cases billR l n with
  | none => rfl
  | some q => simp only [Option.isSome_some, decide_eq_true_eq]; omega
theorem billI_lt (l : List RB) (n : Int) : decide (billI l n < 0) = !(billR l n).isSome := by
  unfold billI
  cases billR l n with
  | none => rfl
  | some q => simp only [Option.isSome_some, Bool.not_true, decide_eq_false_iff_not]; omega
set_option maxHeartbeats 0 in
theorem r_bad_eq {b : RBk} {x : Itm} (h1 : b.bills.length ≤ 1000) (h2 : b.paid.length ≤ 1000) (h3 : b.bonds.length ≤ 1000) (h4 : -1 ≤ b.closed) (h5 : b.closed ≤ 1000000) : r_bad (b, x) = some (badR b x) := by
  unfold r_bad
  have w1 : IntKind.i64.wrap (b.closed + 1) = b.closed + 1 := w64_in (by omega) (by omega)
  have g1 : decide (b.bills.length ≤ 1000) = true := decide_eq_true h1
  have g2 : decide (b.paid.length ≤ 1000) = true := decide_eq_true h2
  have g3 : decide (b.bonds.length ≤ 1000) = true := decide_eq_true h3
  simp only [Nat.zero_add, decF_encF, decN_encN, billI_ge, billI_lt, w1]
  unfold badR
  by_cases k7 : x.kind = 7
  · refine br_t (by rw [beq_iff_eq]; exact k7) ?_
    rw [if_pos k7]; rfl
  refine br_f (by rw [beq_eq_false_iff_ne]; exact k7) ?_
  rw [if_neg k7]
  refine chk_step g1 ?_
  by_cases c1 : b.closed + 1 > 728
  · refine br_t (decide_eq_true c1) ?_
    rw [decide_eq_true c1]; rfl
  refine br_f (decide_eq_false c1) ?_
  rw [decide_eq_false c1]
  by_cases k1 : x.kind = 1
  · refine br_t (by rw [beq_iff_eq]; exact k1) ?_
    cases hb : (billR b.bills x.bill).isSome <;> simp [k1, T.run]
  refine br_f (by rw [beq_eq_false_iff_ne]; exact k1) ?_
  by_cases k2 : x.kind = 2
  · refine br_t (by rw [beq_iff_eq]; exact k2) ?_
    cases hb : (billR b.bills x.bill).isSome <;> simp [k2, T.run]
  refine br_f (by rw [beq_eq_false_iff_ne]; exact k2) ?_
  by_cases k4 : x.kind = 4
  · refine br_t (by rw [beq_iff_eq]; exact k4) (chk_step g2 ?_)
    by_cases hb : heldB b.paid x.account < x.amount <;> simp [k4, hb, T.run]
  refine br_f (by rw [beq_eq_false_iff_ne]; exact k4) ?_
  by_cases k6 : x.kind = 6
  · refine br_t (by rw [beq_iff_eq]; exact k6) (chk_step g3 ?_)
    simp [k6, T.run]
  refine br_f (by rw [beq_eq_false_iff_ne]; exact k6) ?_
  simp [k1, k2, k4, k6, T.run]
theorem sl_len (l : List Chg) : slLen (slOf rChg l) = l.length := rfl
theorem sl_row (l : List Chg) : slRow (slOf rChg l) = 0 := rfl
theorem sl_f (l : List Chg) : slF (slOf rChg l) = encF rChg l := rfl
theorem last_amt (l : List Chg) (h : 1 ≤ l.length) : numOf (encF rChg l (l.length - 1) 1) = lastA l := by
  have hl : l[l.length - 1]? = some l[l.length - 1] := List.getElem?_eq_getElem (by omega)
  rw [encF_at hl]
  show (l[l.length - 1]).amount = _
  unfold lastA
  rw [List.getLastD_eq_getLast?, List.getLast?_eq_getElem?, hl]; rfl
theorem last_mem (l : List Chg) (h : 1 ≤ l.length) : ∃ c ∈ l, lastA l = c.amount := by
  refine ⟨l[l.length - 1], List.getElem_mem _, ?_⟩
  unfold lastA
  rw [List.getLastD_eq_getLast?, List.getLast?_eq_getElem?, List.getElem?_eq_getElem (by omega)]; rfl
theorem mendL (l : List Chg) (u v : Int) : decF rChg (l.length + 1) (fun i => appG l.length (appG 0 (fun _ _ => .top) fun i k => encF rChg l (0 + i) k) (fun i k => ([(.int .i64 u : AV), .int .i64 v][i * 2 + k]?).getD .top) (0 + i)) = l ++ [⟨u, v⟩] := by
  simp only [Nat.zero_add]
  refine decF_push' (l := l) ?_ _
  refine Eq.trans (decF_ext fun i _ => ?_) (decF_encF rChg l)
  rfl
theorem mendR (l : List RB) (q : Nat) (y : RB) (hq : q < l.length) (u v : Int) : decN nBill l.length (setR q 0 4 [.int .i64 y.number, .int .i64 y.day, .int .i64 y.account, .xsl 2 (y.l.length + 1) ⟨[CK.int IntKind.i64, CK.int IntKind.i64], appG y.l.length (appG 0 (fun _ _ => .top) fun i k => encF rChg y.l (0 + i) k) (fun i k => ([(.int .i64 u : AV), .int .i64 v][i * 2 + k]?).getD .top)⟩ 0 (y.l.length + 1) none] (appG 0 (fun _ _ => .top) (encN nBill l))) = l.set q { y with l := y.l ++ [⟨u, v⟩] } := by
  refine setN nBill l q _ hq [.int .i64 y.number, .int .i64 y.day, .int .i64 y.account, .xsl 2 (y.l.length + 1) ⟨[CK.int IntKind.i64, CK.int IntKind.i64], appG y.l.length (appG 0 (fun _ _ => .top) fun i k => encF rChg y.l (0 + i) k) (fun i k => ([(.int .i64 u : AV), .int .i64 v][i * 2 + k]?).getD .top)⟩ 0 (y.l.length + 1) none] ?_ rfl ?_
  · show (⟨y.number, y.day, y.account, decF rChg (y.l.length + 1) _⟩ : RB) = _
    rw [← mendL]; rfl
  · intro f g h
    show (⟨_, _, _, _⟩ : RB) = ⟨_, _, _, _⟩
    rw [h 0 (by decide), h 1 (by decide), h 2 (by decide), h 3 (by decide)]
structure KOk (n : Nat) (b : RBk) : Prop where
  c1 : -1 ≤ b.closed
  c2 : b.closed ≤ 1000000
  p : b.p.length ≤ 2 * n
  refused : b.refused.length ≤ n
  bills : b.bills.length ≤ n
  paid : b.paid.length ≤ n
  bonds : b.bonds.length ≤ n
  stands : b.stands.length ≤ n
  l : ∀ y ∈ b.bills, 1 ≤ y.l.length ∧ y.l.length ≤ n ∧ ∀ c ∈ y.l, -16777216 ≤ c.amount ∧ c.amount ≤ 16777216
  pa : ∀ y ∈ b.paid, -((n : Int) * 16777216) ≤ y.amount ∧ y.amount ≤ (n : Int) * 16777216
  bo : ∀ y ∈ b.bonds, -((n : Int) * 16777216) ≤ y.amount ∧ y.amount ≤ (n : Int) * 16777216
set_option maxHeartbeats 0 in
theorem kp_step {known : Int} {l : List Itm} {i : Nat} {b : RBk} {x : Itm} {n : Nat} (hx : l[i]? = some x) (hok : x.Ok) (hb : KOk n b) (hn : n ≤ 500) (hkn : x.known ≤ known) (hl : l.length ≤ 1000000) :
    st_kp ((known, l.length, (i : Int)), kpO l b) = some (.inl ((known, l.length, ((i + 1 : Nat) : Int)), kpO l (doneR b x))) := by
  rw [sl_kp]
  obtain ⟨hi, _⟩ := List.getElem?_eq_some_iff.1 hx
  obtain ⟨c1, c2, c3, c4, c5, c6, c7, c8, c9, ca, cb⟩ := hb
  obtain ⟨x1, x2, x3, x4, x5, x6, x7⟩ := hok
  have w3 : IntKind.i64.wrap ((i : Int) + 1) = ((i + 1 : Nat) : Int) := by rw [w64_in (by omega) (by omega)]; rfl
  have w1 : IntKind.i64.wrap (b.closed + 1) = b.closed + 1 := w64_in (by omega) (by omega)
  have w2 : IntKind.i64.wrap (0 - x.amount) = 0 - x.amount := w64_in (by omega) (by omega)
  have hbad := r_bad_eq (b := b) (x := x) (by omega) (by omega) (by omega) c1 c2
  have hmax : ∀ d : Int, (if b.closed + 1 > d then b.closed + 1 else d) = max d (b.closed + 1) := fun d => by split <;> omega
  have hid : (⟨x.id, x.known, x.kind, x.day, x.bill, x.account, x.amount⟩ : Itm) = x := rfl
  generalize ho : kpO l (doneR b x) = o
  simp only [kpO, Int.toNat_natCast, Nat.zero_add, item_at hx, wr0, wr1, wr2, wr3, wr4, wr5, wr6, decF_encF, decN_encN, w1, w2, w3, hmax, pushD, pushR, pushT, hid]
  refine br_t (decide_eq_true (by omega)) (chk_step (decide_eq_true (by omega)) (br_t (decide_eq_true (by omega)) (chk_step (decide_eq_true (by omega)) ?_)))
  refine obs_step hbad ?_
  have gp : decide ((b.p.length + 2) * 32 ≤ 140737488355328 ∧ b.p.length + 2 ≤ 9223372036854775807) = true := decide_eq_true (by omega)
  have hN : (n : Int) * 16777216 ≤ 8388608000 := by omega
  cases hbv : badR b x with
  | true =>
    refine br_t rfl (chk_step (decide_eq_true (by omega)) ?_)
    rw [← ho]; unfold doneR; rw [if_pos hbv]; rfl
  | false =>
  refine br_f rfl (chk_step (decide_eq_true (by omega)) ?_)
  have hnb : ¬(badR b x = true) := by rw [hbv]; exact Bool.false_ne_true
  by_cases k1 : x.kind = 1
  · refine br_t (by rw [beq_iff_eq]; exact k1) (chk_step (decide_eq_true (by omega)) (chk_step gp ?_))
    rw [← ho]; unfold doneR; rw [if_neg hnb]; simp only [if_pos k1, kpO, twoR, List.length_append, List.length_cons, List.length_nil]; rfl
  refine br_f (by rw [beq_eq_false_iff_ne]; exact k1) ?_
  by_cases k2 : x.kind = 2
  · refine br_t (by rw [beq_iff_eq]; exact k2) ?_
    have hq : ∃ q, billR b.bills x.bill = some q := by
      cases hq : billR b.bills x.bill with
      | some q => exact ⟨q, rfl⟩
      | none => exact absurd (by unfold badR; rw [hq]; simp [k2]) hnb
    obtain ⟨q, hq⟩ := hq
    obtain ⟨hlt, _, _⟩ := List.findIdx?_eq_some_iff_getElem.1 hq
    have hs := List.getElem?_eq_getElem hlt
    have eb : billI b.bills x.bill = (q : Int) := by unfold billI; rw [hq]
    obtain ⟨y1, y2, y3⟩ := c9 _ (List.getElem_mem hlt)
    have hg : b.bills.getD q default = b.bills[q] := by rw [List.getD_eq_getElem?_getD, hs]; rfl
    generalize b.bills[q] = y at hs y1 y2 y3 hg
    obtain ⟨c, hc, hla⟩ := last_mem y.l y1
    have hcb := y3 c hc
    have v0 : IntKind.i64.wrap ((y.l.length : Int) - 1) = ((y.l.length - 1 : Nat) : Int) := by rw [w64_in (by omega) (by omega)]; omega
    have v1 : IntKind.i64.wrap (x.amount - lastA y.l) = x.amount - lastA y.l := w64_in (by omega) (by omega)
    have v2 : IntKind.i64.wrap (0 - (x.amount - lastA y.l)) = 0 - (x.amount - lastA y.l) := w64_in (by omega) (by omega)
    simp only [eb, Int.toNat_natCast, encN_at hs, sl3, nb0, nb1, nb2, sl_len, sl_row, sl_f, cS (show y.l.length ≤ 1000000 by omega), v0, Nat.zero_add, last_amt y.l y1, v1, v2]
    refine chk_step (decide_eq_true (by omega)) (chk_step (decide_eq_true (by omega)) (chk_step (decide_eq_true (by omega)) (chk_step (decide_eq_true (by omega)) (chk_step (decide_eq_true (by omega)) (chk_step (decide_eq_true (by omega)) (chk_step (decide_eq_true (by omega)) (chk_step gp ?_)))))))
    have hm := mendR b.bills q y hlt x.known x.amount
    simp only [Nat.zero_add] at hm
    rw [hm, ← ho]; unfold doneR; rw [if_neg hnb]; simp only [if_neg k1, if_pos k2, hq, hg, kpO, twoR, List.length_append, List.length_cons, List.length_nil, List.length_set]; rfl
  refine br_f (by rw [beq_eq_false_iff_ne]; exact k2) ?_
  by_cases k3 : x.kind = 3
  · refine br_t (by rw [beq_iff_eq]; exact k3) (chk_step (decide_eq_true ⟨by omega, by unfold amtB; omega, fun y hy => by have := ca y hy; unfold amtB; omega⟩) (chk_step gp ?_))
    rw [← ho]; unfold doneR; rw [if_neg hnb]; simp only [if_neg k1, if_neg k2, if_pos k3, kpO, twoR, List.length_append, List.length_cons, List.length_nil]; rfl
  refine br_f (by rw [beq_eq_false_iff_ne]; exact k3) ?_
  by_cases k4 : x.kind = 4
  · refine br_t (by rw [beq_iff_eq]; exact k4) (chk_step (decide_eq_true ⟨by omega, by unfold amtB; omega, fun y hy => by have := ca y hy; unfold amtB; omega⟩) (chk_step gp ?_))
    rw [← ho]; unfold doneR; rw [if_neg hnb]; simp only [if_neg k1, if_neg k2, if_neg k3, if_pos k4, kpO, twoR, List.length_append, List.length_cons, List.length_nil]; rfl
  refine br_f (by rw [beq_eq_false_iff_ne]; exact k4) ?_
  by_cases k5 : x.kind = 5
  · refine br_t (by rw [beq_iff_eq]; exact k5) (chk_step (decide_eq_true ⟨by omega, by unfold amtB; omega, fun y hy => by have := cb y hy; unfold amtB; omega⟩) (chk_step gp ?_))
    rw [← ho]; unfold doneR; rw [if_neg hnb]; simp only [if_neg k1, if_neg k2, if_neg k3, if_neg k4, if_pos k5, kpO, twoR, List.length_append, List.length_cons, List.length_nil]; rfl
  refine br_f (by rw [beq_eq_false_iff_ne]; exact k5) ?_
  by_cases k6 : x.kind = 6
  · refine br_t (by rw [beq_iff_eq]; exact k6) (chk_step (decide_eq_true ⟨by omega, by unfold amtB; omega, fun y hy => by have := cb y hy; unfold amtB; omega⟩) (chk_step gp ?_))
    rw [← ho]; unfold doneR; rw [if_neg hnb]; simp only [if_neg k1, if_neg k2, if_neg k3, if_neg k4, if_neg k5, if_pos k6, kpO, twoR, List.length_append, List.length_cons, List.length_nil]; rfl
  refine br_f (by rw [beq_eq_false_iff_ne]; exact k6) ?_
  rw [← ho]; unfold doneR; rw [if_neg hnb]; simp only [if_neg k1, if_neg k2, if_neg k3, if_neg k4, if_neg k5, if_neg k6, kpO, List.length_append, List.length_cons, List.length_nil]; rfl
end K
end Go.Proofs.YtelpdkojdfnmiaaGreat
/-! LA5 -/
namespace Go.Proofs.YtelpdkojdfnmiaaGreat
open Ev K
set_option maxRecDepth 100000
namespace K
theorem moreB_len5 (l : List Bal) (a m : Int) : (moreB l a m).length ≤ l.length + 1 := by
  induction l with
  | nil => simp [moreB]
  | cons b t ih => 
    unfold moreB; simp only [List.length_cons] at ih ⊢
    split
    · simp only [List.length_cons]; omega
    · split <;> simp only [List.length_cons] <;> omega
theorem moreB_bd (N M : Int) (_hM : 0 ≤ M) (hN : 0 ≤ N) (a m : Int) (hm : -M ≤ m ∧ m ≤ M) (l : List Bal) (h : ∀ y ∈ l, -N ≤ y.amount ∧ y.amount ≤ N) : ∀ y ∈ moreB l a m, -(N + M) ≤ y.amount ∧ y.amount ≤ N + M := by
  induction l with
  | nil => intro y hy; simp only [moreB, List.mem_singleton] at hy; subst hy; simp only; omega
  | cons b t ih =>
    have hb := h b (List.mem_cons_self ..)
    have ht := fun y hy => h y (List.mem_cons_of_mem _ hy)
    intro y hy
    unfold moreB at hy
    split at hy
    · rcases List.mem_cons.1 hy with e | e
      · subst e; omega
      · exact ih ht y e
    · split at hy
      · rcases List.mem_cons.1 hy with e | e
        · subst e; simp only; omega
        · have := ht y e; omega
      · rcases List.mem_cons.1 hy with e | e
        · subst e; simp only; omega
        · have := h y e; omega
theorem addL_len (l : List Int) (n : Int) : (addL l n).length = l.length + 1 := by
  induction l with
  | nil => rfl
  | cons b t ih => unfold addL; split <;> simp [ih]
theorem KOk.mono {n m : Nat} {b : RBk} (h : KOk n b) (hm : n ≤ m) : KOk m b := by
  obtain ⟨c1, c2, c3, c4, c5, c6, c7, c8, c9, ca, cb⟩ := h
  refine ⟨c1, c2, by omega, by omega, by omega, by omega, by omega, by omega, fun y hy => ?_, fun y hy => ?_, fun y hy => ?_⟩
  · obtain ⟨h1, h2, h3⟩ := c9 y hy; exact ⟨h1, by omega, h3⟩
  · have := ca y hy; omega
  · have := cb y hy; omega
set_option maxHeartbeats 0 in
theorem KOk.done {n : Nat} {b : RBk} (h : KOk n b) {x : Itm} (hx : x.Ok) (hn : n ≤ 1000) : KOk (n + 1) (doneR b x) := by
  have h' := h.mono (Nat.le_succ n)
  obtain ⟨x1, x2, x3, x4, x5, x6, x7⟩ := hx
  obtain ⟨c1, c2, c3, c4, c5, c6, c7, c8, c9, ca, cb⟩ := h
  obtain ⟨d1, d2, d3, d4, d5, d6, d7, d8, d9, da, db⟩ := h'
  have hc : ((n + 1 : Nat) : Int) * 16777216 = (n : Int) * 16777216 + 16777216 := by omega
  have hbd : ∀ (l : List Bal) (m : Int), (-16777216 ≤ m ∧ m ≤ 16777216) → (∀ y ∈ l, -((n : Int) * 16777216) ≤ y.amount ∧ y.amount ≤ (n : Int) * 16777216) → ∀ y ∈ moreB l x.account m, -(((n + 1 : Nat) : Int) * 16777216) ≤ y.amount ∧ y.amount ≤ ((n + 1 : Nat) : Int) * 16777216 := fun l m hm hl y hy => by
    have := moreB_bd ((n : Int) * 16777216) 16777216 (by omega) (by omega) x.account m hm l hl y hy; omega
  have mp := moreB_len5 b.paid x.account
  have mb := moreB_len5 b.bonds x.account
  unfold doneR
  split
  · exact ⟨c1, c2, d3, by rw [addL_len]; omega, d5, d6, d7, d8, d9, da, db⟩
  have hs : (b.stands ++ [x]).length ≤ n + 1 := by simp; omega
  have hp : ∀ y z : Pst, (b.p ++ [y, z]).length ≤ 2 * (n + 1) := fun y z => by simp; omega
  simp only
  split
  · refine ⟨c1, c2, hp _ _, d4, by show (b.bills ++ [_]).length ≤ _; simp; omega, d6, d7, hs, ?_, da, db⟩
    intro y hy
    rcases List.mem_append.1 hy with e | e
    · exact d9 y e
    · rw [List.mem_singleton] at e; subst e
      refine ⟨by simp, by simp, fun c hc => ?_⟩
      rw [List.mem_singleton] at hc; subst hc; simp only; omega
  split
  · split
    · rename_i q hq
      obtain ⟨hlt, _, _⟩ := List.findIdx?_eq_some_iff_getElem.1 hq
      refine ⟨c1, c2, hp _ _, d4, by show (b.bills.set _ _).length ≤ _; simp; omega, d6, d7, hs, ?_, da, db⟩
      intro y hy
      rcases List.mem_or_eq_of_mem_set hy with e | e
      · exact d9 y e
      · have hg : b.bills.getD q default = b.bills[q] := by rw [List.getD_eq_getElem?_getD, List.getElem?_eq_getElem hlt]; rfl
        rw [hg] at e
        obtain ⟨e1, e2, e3⟩ := c9 _ (List.getElem_mem hlt)
        subst e
        refine ⟨by simp, by simp; omega, fun c hc => ?_⟩
        rcases List.mem_append.1 hc with f | f
        · exact e3 c f
        · rw [List.mem_singleton] at f; subst f; simp only; omega
    · exact ⟨c1, c2, d3, d4, d5, d6, d7, hs, d9, da, db⟩
  split
  · exact ⟨c1, c2, hp _ _, d4, d5, by have := mp x.amount; show (moreB _ _ _).length ≤ _; omega, d7, hs, d9, hbd _ _ (by omega) ca, db⟩
  split
  · exact ⟨c1, c2, hp _ _, d4, d5, by have := mp (0 - x.amount); show (moreB _ _ _).length ≤ _; omega, d7, hs, d9, hbd _ _ (by omega) ca, db⟩
  split
  · exact ⟨c1, c2, hp _ _, d4, d5, d6, by have := mb x.amount; show (moreB _ _ _).length ≤ _; omega, hs, d9, da, hbd _ _ (by omega) cb⟩
  split
  · exact ⟨c1, c2, hp _ _, d4, d5, d6, by have := mb (0 - x.amount); show (moreB _ _ _).length ≤ _; omega, hs, d9, da, hbd _ _ (by omega) cb⟩
  · exact ⟨by simp only; omega, by simp only; omega, d3, d4, d5, d6, d7, hs, d9, da, db⟩
theorem KOk.zero : KOk 0 rb0 := ⟨by decide, by decide, by decide, by decide, by decide, by decide, by decide, by decide, by simp [rb0], by simp [rb0], by simp [rb0]⟩
end K
end Go.Proofs.YtelpdkojdfnmiaaGreat
/-! LA6 -/
namespace Go.Proofs.YtelpdkojdfnmiaaGreat
open Ev K
set_option maxRecDepth 100000
set_option maxHeartbeats 0
noncomputable def K.L_kp := lim K.st_kp
namespace K
def kpX (b : RBk) : KpObjX := ((), (b.closed, b.p.length, b.refused.length, b.bills.length, b.paid.length, b.bonds.length, b.stands.length), b.p, b.refused, b.bills, b.paid, b.bonds, b.stands, ())
theorem L_kp_eq {known : Int} {l : List Itm} (hl : l.length ≤ 500) (hf : ∀ x ∈ l, x.Ok) : ∀ (d i : Nat) (b : RBk), i + d = l.length → KOk i b →
    L_kp ((known, l.length, (i : Int)), kpO l b) = some ((), kpX (((l.drop i).filter fun x => decide (x.known ≤ known)).foldl doneR b)) := by
  intro d
  induction d with
  | zero =>
    intro i b h hb
    refine lim_done ?_
    rw [sl_kp]
    generalize ho : kpX _ = o
    simp only [kpO, decF_encF, decN_encN]
    refine br_f (decide_eq_false (by omega)) ?_
    rw [← ho, List.drop_of_length_le (by omega)]; rfl
  | succ d ih =>
    intro i b h hb
    have hi : i < l.length := by omega
    have hx := List.getElem?_eq_getElem hi
    have hm := List.getElem_mem hi
    have hdrop := List.drop_eq_getElem_cons hi
    generalize l[i] = x at hx hm hdrop
    by_cases hkn : x.known ≤ known
    · refine (lim_step (kp_step hx (hf x hm) hb (by omega) hkn (by omega))).trans ?_
      rw [show lim st_kp = L_kp from rfl, ih (i + 1) (doneR b x) (by omega) (hb.done (hf x hm) (by omega)), hdrop, List.filter_cons_of_pos (by simpa using hkn), List.foldl_cons]
    · refine (lim_step (s' := ((known, l.length, ((i + 1 : Nat) : Int)), kpO l b)) ?_).trans ?_
      · rw [sl_kp]
        have w3 : IntKind.i64.wrap ((i : Int) + 1) = ((i + 1 : Nat) : Int) := by rw [w64_in (by omega) (by omega)]; rfl
        simp only [kpO, Int.toNat_natCast, Nat.zero_add, item_at hx, wr1, decF_encF, decN_encN, w3]
        refine br_t (decide_eq_true (by omega)) (chk_step (decide_eq_true (by omega)) (br_f (decide_eq_false (by omega)) rfl))
      · rw [show lim st_kp = L_kp from rfl, ih (i + 1) b (by omega) (hb.mono (by omega)), hdrop, List.filter_cons_of_neg (by simpa using hkn)]
end K
noncomputable def BLA61 : Tab := BLA34.addNode 25 81 (nodeE [9, 7, 8, 1, 4] S_kp X_kp (fun s => .obs (K.L_kp s) .ret))
theorem tLA61 : TabOk P BLA61 := TabOk.addLoop (d := 30) okP tLA34 (by kernel_rfl) (by kernel_rfl) (fun s r h => obs_ret h)
end Go.Proofs.YtelpdkojdfnmiaaGreat
/-! LA7 -/
namespace Go.Proofs.YtelpdkojdfnmiaaGreat
open Ev K
set_option maxRecDepth 100000
set_option maxHeartbeats 0
def lKept : DecL (RBk × Int) := (DecL.cons dInt (.cons (dRows rPost) (.cons (dRows rInt) (.cons (dRowsN nBill) (.cons (dRows rBal) (.cons (dRows rBal) (.cons (dRows rItem) (.last dInt 0)))))))).iso (fun p => (⟨p.1, p.2.1, p.2.2.1, p.2.2.2.1, p.2.2.2.2.1, p.2.2.2.2.2.1, p.2.2.2.2.2.2.1⟩, p.2.2.2.2.2.2.2)) (fun k => (k.1.closed, k.1.p, k.1.refused, k.1.bills, k.1.paid, k.1.bonds, k.1.stands, k.2)) (fun _ => rfl)
def dKept : Dec (RBk × Int) := dAgg lKept
def D_kp := DecL.cons (dRows rItem) (.last dInt 0)
theorem fn_keep : ∀ a, (callT1 P BLA61 30 25 D_kp dKept) a = T.run (
 let q2 := (0 : Nat);
 let q1 := decF rItem (List.length a.1) fun i => encF rItem a.1 (q2 + i);
  .br (checkV q1 != (0 : Int)) (
    .ret ((RBk.mk (0 : Int) [] [] [] [] [] [], checkV q1))) (
    .br (!r_day a.2) (
      .ret ((RBk.mk (0 : Int) [] [] [] [] [] [], (1 : Int)))) (
      .chk (decide (List.length q1 ≤ (500 : Nat))) <|
      .obs (L_kp ((a.2, List.length (sortedR q1), (0 : Int)), PUnit.unit, ((-1 : Int), q2, q2, q2, q2, q2, q2), decF rPost q2 fun _x _x_1 => AV.top, decF rInt q2 fun _x _x_1 => AV.top, decN nBill q2 fun _x _x_1 => AV.top, decF rBal q2 fun _x _x_1 => AV.top, decF rBal q2 fun _x _x_1 => AV.top, decF rItem q2 fun _x _x_1 => AV.top, decF rItem (List.length (sortedR q1)) (encF rItem (sortedR q1)), PUnit.unit)) fun x0 =>
        .ret ((RBk.mk x0.2.2.1.1 (decF rPost (List.length x0.2.2.2.1) fun i => encF rPost x0.2.2.2.1 (q2 + i)) (decF rInt (List.length x0.2.2.2.2.1) fun i => encF rInt x0.2.2.2.2.1 (q2 + i)) (decN nBill (List.length x0.2.2.2.2.2.1) fun i => encN nBill x0.2.2.2.2.2.1 (q2 + i)) (decF rBal (List.length x0.2.2.2.2.2.2.1) fun i => encF rBal x0.2.2.2.2.2.2.1 (q2 + i)) (decF rBal (List.length x0.2.2.2.2.2.2.2.1) fun i => encF rBal x0.2.2.2.2.2.2.2.1 (q2 + i)) (decF rItem (List.length x0.2.2.2.2.2.2.2.2.1) fun i => encF rItem x0.2.2.2.2.2.2.2.2.1 (q2 + i)), (0 : Int)))))) := fun a => by kernel_rfl
end Go.Proofs.YtelpdkojdfnmiaaGreat
/-! LA8 -/
namespace Go.Proofs.YtelpdkojdfnmiaaGreat
open Ev K
set_option maxRecDepth 100000
set_option maxHeartbeats 0
namespace K
noncomputable def keepV (l : List Itm) (known : Int) : RBk × Int :=
  if checkV l ≠ 0 then (⟨0, [], [], [], [], [], []⟩, checkV l) else if r_day known = true then (keepR l known, 0) else (⟨0, [], [], [], [], [], []⟩, 1)
theorem rkeep_eq (a : List Itm × Int) : callT1 P BLA61 30 25 D_kp dKept a = some (keepV a.1 a.2) := by
  obtain ⟨l, known⟩ := a
  rw [fn_keep]
  unfold keepV
  simp only [Nat.zero_add, decF_encF]
  by_cases hc : checkV l = 0
  · refine br_f (by rw [hc]; rfl) ?_
    rw [if_neg (fun h => h hc)]
    by_cases hd : r_day known = true
    · refine br_f (by rw [hd]; rfl) ?_
      rw [if_pos hd]
      obtain ⟨k1, k2, k3⟩ := checkV_ok hc
      have ho : One l := fun x hx y hy e => by
        obtain ⟨i, hi, rfl⟩ := List.getElem_of_mem hx
        obtain ⟨j, hj, rfl⟩ := List.getElem_of_mem hy
        rcases Nat.lt_trichotomy i j with h | h | h
        · exact k3 i j _ _ h (List.getElem?_eq_getElem hi) (List.getElem?_eq_getElem hj) e
        · subst h; rfl
        · exact (k3 j i _ _ h (List.getElem?_eq_getElem hj) (List.getElem?_eq_getElem hi) e.symm).symm
      refine chk_step (decide_eq_true (by omega)) ?_
      rw [sortedR_eq ho]
      have hs := srt_len l
      have key := L_kp_eq (known := known) (l := srt l) (by omega) (fun x hx => (k2 x (srt_mem hx)).ok) (srt l).length 0 rb0 (by omega) KOk.zero
      refine obs_step key ?_
      rw [List.drop_zero]
      show some _ = some _
      unfold keepR
      generalize List.foldl doneR rb0 _ = b
      simp only [kpX, decN_encN]
    · refine br_t (by rw [Bool.not_eq_true] at hd; rw [hd]; rfl) ?_
      rw [if_neg hd]; rfl
  · refine br_t (by simpa using hc) ?_
    rw [if_pos hc]; rfl
end K
noncomputable def BLA81 : Tab := BLA61.addCall 25 (callE D_kp dKept (fun a => .ret (K.keepV a.1 a.2)))
theorem tLA81 : TabOk P BLA81 := TabOk.addPC tLA61 (fun a r h => by rw [← ret_some h]; exact call_of okP tLA61 (K.rkeep_eq a))
end Go.Proofs.YtelpdkojdfnmiaaGreat
/-! LP2 -/
namespace Go.Proofs.YtelpdkojdfnmiaaGreat
open Ev K
set_option maxRecDepth 100000
namespace K
def balStep (behind : Int) (l : List Bal) (p : Pst) : List Bal := if p.day ≤ behind then moreB l p.account p.amount else l
def balR (ps : List Pst) (behind : Int) : List Bal := ps.foldl (balStep behind) []
theorem mp_fold (behind : Int) : ∀ (ps : List Pst) (m : List (Int × Int)) (l : List Bal), Mp m l → Mp (ps.foldl (sumStep behind) m) (ps.foldl (balStep behind) l)
  | [], _, _, h => h
  | p :: ps, m, l, h => by
    refine mp_fold behind ps _ _ ?_
    unfold sumStep balStep
    split
    · exact h.more _ _ _ rfl
    · exact h
theorem mp_sum (ps : List Pst) (behind : Int) : Mp (sumP ps behind) (balR ps behind) := mp_fold behind ps _ _ Mp.nil
theorem listB_sum (ps : List Pst) (behind : Int) : listB (sumP ps behind) = balR ps behind := (mp_sum ps behind).list
theorem moreB_len : ∀ (l : List Bal) (a m : Int), (moreB l a m).length ≤ l.length + 1
  | [], _, _ => by simp [moreB]
  | b :: t, a, m => by
    unfold moreB
    have := moreB_len t a m
    split
    · simp only [List.length_cons]; omega
    · split <;> simp only [List.length_cons] <;> omega
def sumI (l : List Int) : Int := l.sum
def sumA (ps : List Pst) (a behind : Int) : Int := sumI ((ps.filter fun p => decide (p.account = a ∧ p.day ≤ behind)).map (·.amount))
theorem held_more : ∀ {l : List Bal}, l.Pairwise (fun x y => x.account < y.account) → ∀ (a m c : Int), heldB (moreB l a m) c = heldB l c + if a = c then m else 0
  | [], _, a, m, c => by
    unfold moreB heldB
    by_cases h : a = c
    · subst h; simp
    · simp [h]
  | b :: t, hs, a, m, c => by
    have hh := List.pairwise_cons.1 hs
    unfold moreB
    have cons : ∀ (x : Bal) (t : List Bal), heldB (x :: t) c = if x.account = c then x.amount else heldB t c := fun x t => by
      unfold heldB
      by_cases h : x.account = c
      · rw [List.find?_cons_of_pos (by simpa using h), if_pos h]
      · rw [List.find?_cons_of_neg (by simpa using h), if_neg h]
    by_cases h1 : b.account < a
    · rw [if_pos h1, cons, cons, held_more hh.2]
      by_cases h2 : b.account = c
      · rw [if_pos h2, if_pos h2, if_neg (by omega)]; omega
      · rw [if_neg h2, if_neg h2]
    · rw [if_neg h1]
      by_cases h2 : b.account = a
      · rw [if_pos h2, cons, cons]
        simp only
        by_cases h3 : a = c
        · rw [if_pos h3, if_pos (by omega), if_pos h3]
        · rw [if_neg h3, if_neg (by omega), if_neg h3]; omega
      · rw [if_neg h2, cons]
        simp only
        by_cases h3 : a = c
        · rw [if_pos h3, if_pos h3]
          have : heldB (b :: t) c = 0 := by
            unfold heldB
            rw [List.find?_eq_none.2]
            intro x hx
            rcases List.mem_cons.1 hx with e | hx
            · subst e; simp; omega
            · have := hh.1 x hx; simp; omega
          omega
        · rw [if_neg h3, if_neg h3]; omega
theorem held_balR (ps : List Pst) (behind a : Int) : heldB (balR ps behind) a = sumA ps a behind := by
  have key : ∀ (ps : List Pst) (m : List (Int × Int)) (l : List Bal), Mp m l → heldB (ps.foldl (balStep behind) l) a = heldB l a + sumA ps a behind := by
    intro ps
    induction ps with
    | nil => intro m l _; simp [sumA, sumI]
    | cons p ps ih =>
      intro m l hm
      rw [List.foldl_cons]
      unfold sumA at *
      by_cases h : p.day ≤ behind
      · have e : balStep behind l p = moreB l p.account p.amount := if_pos h
        rw [e, ih _ _ (hm.more p.account p.amount _ rfl), held_more hm.sorted]
        by_cases h2 : p.account = a
        · rw [if_pos h2, List.filter_cons_of_pos (by simp [h, h2]), List.map_cons]; simp only [sumI, List.sum_cons]; omega
        · rw [if_neg h2, List.filter_cons_of_neg (by simp [h2])]; omega
      · have e : balStep behind l p = l := if_neg h
        rw [e, ih _ _ hm, List.filter_cons_of_neg (by simp; intro _; omega)]
  have := key ps [] [] Mp.nil
  unfold balR; rw [this]; simp [heldB]
theorem look_sum (ps : List Pst) (behind a : Int) : lookM (sumP ps behind) a = sumA ps a behind := by rw [← (mp_sum ps behind).held, held_balR]
structure Pr where (x : Itm) (on a b m : Int)
def Pr.two (z : Pr) : List Pst := [⟨z.x.id, z.on, z.a, z.m⟩, ⟨z.x.id, z.on, z.b, -z.m⟩]
def pairs (zs : List Pr) : List Pst := zs.flatMap Pr.two
theorem pairs_app (a b : List Pr) : pairs (a ++ b) = pairs a ++ pairs b := List.flatMap_append ..
def isPair (l : List Pst) : Prop := ∃ zs, l = pairs zs
theorem isPair.app {l : List Pst} (h : isPair l) (x : Itm) (on a b m : Int) : isPair (l ++ [⟨x.id, on, a, m⟩, ⟨x.id, on, b, -m⟩]) := by
  obtain ⟨zs, rfl⟩ := h
  exact ⟨zs ++ [⟨x, on, a, b, m⟩], by rw [pairs_app]; rfl⟩
end K
end Go.Proofs.YtelpdkojdfnmiaaGreat
/-! LJ0 -/
namespace Go.Proofs.YtelpdkojdfnmiaaGreat
open Ev K
set_option maxRecDepth 100000
namespace K
theorem one_ck {l : List Itm} (hc : checkV l = 0) : One l := by
  obtain ⟨_, _, k3⟩ := checkV_ok hc
  exact fun x hx y hy e => by
    obtain ⟨i, hi, rfl⟩ := List.getElem_of_mem hx
    obtain ⟨j, hj, rfl⟩ := List.getElem_of_mem hy
    rcases Nat.lt_trichotomy i j with h | h | h
    · exact k3 i j _ _ h (List.getElem?_eq_getElem hi) (List.getElem?_eq_getElem hj) e
    · subst h; rfl
    · exact (k3 j i _ _ h (List.getElem?_eq_getElem hj) (List.getElem?_eq_getElem hi) e.symm).symm
theorem keep_ok {l : List Itm} {known : Int} (h : askedV l [known] = 0) : keepV l known = (keepR l known, 0) := by
  obtain ⟨hc, hd⟩ := ask_check h
  unfold keepV
  rw [if_neg (fun h => h hc), if_pos ((r_day_iff known).2 (hd known (List.mem_singleton.2 rfl)))]
theorem keep_bad {l : List Itm} {known : Int} (h : ¬ askedV l [known] = 0) : keepV l known = (⟨0, [], [], [], [], [], []⟩, askedV l [known]) := by
  unfold keepV
  by_cases hc : checkV l = 0
  · have hd : ¬ dayOk known := fun hd => h (by
      unfold askedV; rw [if_neg (fun h => h hc), if_pos (fun n hn => by rw [List.mem_singleton.1 hn]; exact hd)])
    have e : askedV l [known] = 1 := by
      unfold askedV; rw [if_neg (fun h => h hc), if_neg (fun e => hd (e known (List.mem_singleton.2 rfl)))]
    rw [if_neg (fun h => h hc), if_neg (fun e => hd ((r_day_iff known).1 e)), e]
  · have e : askedV l [known] = checkV l := by unfold askedV; rw [if_pos hc]
    rw [if_pos hc, e]
section
variable {l : List Itm} (hc : checkV l = 0) (known : Int)
include hc
theorem rel_ok : Rel (foldB (knownOn known (srt l))) (keepR l known) := rel_keep (checkV_ok hc).2.1 (one_ck hc) known
theorem kr_p : (keepR l known).p = (readB l known).posts := (rel_ok hc known).p
theorem kr_bills : (keepR l known).bills = (readB l known).bills.map rbOf := (rel_ok hc known).bills
theorem kr_bonds : (keepR l known).bonds = listB (readB l known).bonds := (rel_ok hc known).bonds.list.symm
theorem kr_stands : (keepR l known).stands = (readB l known).taken := (rel_ok hc known).stands
theorem kr_last : ∀ s ∈ (readB l known).bills, lastA s.2 = s.1.amount := fun s hs => ((rel_ok hc known).last s hs).1
end
end K
end Go.Proofs.YtelpdkojdfnmiaaGreat
/-! LA9 -/
namespace Go.Proofs.YtelpdkojdfnmiaaGreat
open Ev K
set_option maxRecDepth 100000
def D_rsum := DecL.cons dBkR (.cons dInt (.last dInt 0))
def S_su := DecS.mk0 (.skip (.cons (dInt) (.cons (dInt) (.unit (dLp 0 0 0 0) (.skips 3 (.cons (dInt) (.last (dInt) 34))))))) (.flat 52 lBkR .nil)
def X_su := DecX.one (.exit 0) [7] (DecS.mk0 (.skips 7 (.last (dInt) 35)) .nil)
noncomputable def K.st_su := loopT1 P BLA81 30 77 25 [8, 3, 7, 2, 1] S_su X_su
theorem sl_su : ∀ s, (K.st_su) s = T.run (
 let q12 := s.1.2.2.2;
 let q9 := RBk.p s.2.1;
 let q11 := (0 : Nat);
 let q8 := decF rPost (List.length q9) fun i => encF rPost q9 (q11 + i);
 let q3 := decF rInt (List.length (RBk.refused s.2.1)) fun i => encF rInt (RBk.refused s.2.1) (q11 + i);
 let q5 := decN nBill (List.length (RBk.bills s.2.1)) fun i => encN nBill (RBk.bills s.2.1) (q11 + i);
 let q7 := decF rBal (List.length (RBk.paid s.2.1)) fun i => encF rBal (RBk.paid s.2.1) (q11 + i);
 let q6 := decF rBal (List.length (RBk.bonds s.2.1)) fun i => encF rBal (RBk.bonds s.2.1) (q11 + i);
 let q4 := decF rItem (List.length (RBk.stands s.2.1)) fun i => encF rItem (RBk.stands s.2.1) (q11 + i);
 let q1 := Sum.inl ((s.1.1, s.1.2.1, s.1.2.2.1, IntKind.wrap IntKind.i64 (q12 + (1 : Int))), RBk.mk (RBk.closed s.2.1) q8 q3 q5 q7 q6 q4, PUnit.unit);
 let q2 := decide ((0 : Int) ≤ q12 ∧ q12 < (↑(List.length q9) : Int));
 let q10 := q11 + Int.toNat q12;
  .br (decide (q12 < (↑(clampL (List.length q9)) : Int))) (
    .chk q2 <|
    .br (numOf (encF rPost q9 q10 (nat_lit 2)) == s.1.1) (
      .chk q2 <|
      .br (decide (numOf (encF rPost q9 q10 (nat_lit 1)) ≤ s.1.2.1)) (
        .chk q2 <|
        .ret (Sum.inl ((s.1.1, s.1.2.1, IntKind.wrap IntKind.i64 (s.1.2.2.1 + numOf (encF rPost q9 q10 (nat_lit 3))), IntKind.wrap IntKind.i64 (q12 + (1 : Int))), RBk.mk (RBk.closed s.2.1) q8 q3 q5 q7 q6 q4, PUnit.unit))) (
        .ret q1)) (
      .ret q1)) (
    .ret (Sum.inr (s.1.2.2.1, PUnit.unit)))) := fun s => by kernel_rfl
noncomputable def K.L_su := lim K.st_su
noncomputable def BLA91 : Tab := BLA81.addNode 77 25 (nodeE [8, 3, 7, 2, 1] S_su X_su (fun s => .obs (K.L_su s) .ret))
theorem tLA91 : TabOk P BLA91 := TabOk.addLoop (d := 30) okP tLA81 (by kernel_rfl) (by kernel_rfl) (fun s r h => obs_ret h)
theorem fn_rsum : ∀ a, (callT1 P BLA91 30 77 D_rsum dInt) a = T.run (
  .obs (L_su ((a.2.1, a.2.2, (0 : Int), (0 : Int)), RBk.mk (RBk.closed a.1) (decF rPost (List.length (RBk.p a.1)) fun i => encF rPost (RBk.p a.1) ((0 : Nat) + i)) (decF rInt (List.length (RBk.refused a.1)) fun i => encF rInt (RBk.refused a.1) ((0 : Nat) + i)) (decN nBill (List.length (RBk.bills a.1)) fun i => encN nBill (RBk.bills a.1) ((0 : Nat) + i)) (decF rBal (List.length (RBk.paid a.1)) fun i => encF rBal (RBk.paid a.1) ((0 : Nat) + i)) (decF rBal (List.length (RBk.bonds a.1)) fun i => encF rBal (RBk.bonds a.1) ((0 : Nat) + i)) (decF rItem (List.length (RBk.stands a.1)) fun i => encF rItem (RBk.stands a.1) ((0 : Nat) + i)), PUnit.unit)) fun x0 =>
    .ret x0.1) := fun a => by kernel_rfl
end Go.Proofs.YtelpdkojdfnmiaaGreat
/-! LAa -/
namespace Go.Proofs.YtelpdkojdfnmiaaGreat
open Ev K
set_option maxRecDepth 100000
namespace K
theorem sumA_nil (acc day : Int) : sumA [] acc day = 0 := rfl
theorem sumA_cons (x : Pst) (ps : List Pst) (acc day : Int) : sumA (x :: ps) acc day = (if x.account = acc ∧ x.day ≤ day then x.amount else 0) + sumA ps acc day := by
  unfold sumA sumI
  by_cases h : x.account = acc ∧ x.day ≤ day
  · rw [List.filter_cons_of_pos (by simpa using h), if_pos h, List.map_cons, List.sum_cons]
  · rw [List.filter_cons_of_neg (by simpa using h), if_neg h, Int.zero_add]
theorem L_su_eq {b : RBk} (hl : b.p.length ≤ 1000) (ha : ∀ p ∈ b.p, amtOk p.amount) (acc day : Int) : ∀ (d i : Nat) (n : Int), i + d = b.p.length → -((i : Int) * 16777216) ≤ n ∧ n ≤ (i : Int) * 16777216 →
    L_su ((acc, day, n, (i : Int)), b, ()) = some (n + sumA (b.p.drop i) acc day, ())
  := by
  intro d
  induction d with
  | zero =>
    intro i n h hn
    refine lim_done ?_
    rw [sl_su]
    simp only [cS (show b.p.length ≤ 1000000 by omega)]
    refine br_f (decide_eq_false (by omega)) ?_
    rw [List.drop_of_length_le (by omega), sumA_nil, Int.add_zero]; rfl
  | succ d ih =>
    intro i n h hn
    have hi : i < b.p.length := by omega
    have hx := List.getElem?_eq_getElem hi
    have hm := ha _ (List.getElem_mem hi)
    rw [List.drop_eq_getElem_cons hi, sumA_cons]
    generalize b.p[i] = x at hx hm
    unfold amtOk at hm
    have w : IntKind.i64.wrap ((i : Int) + 1) = ((i + 1 : Nat) : Int) := by rw [w64_in (by omega) (by omega)]; rfl
    have w2 : IntKind.i64.wrap (n + x.amount) = n + x.amount := w64_in (by omega) (by omega)
    rw [← Int.add_assoc]
    refine (lim_step ?_).trans (ih (i + 1) (n + if x.account = acc ∧ x.day ≤ day then x.amount else 0) (by omega) (by split <;> omega))
    rw [sl_su]
    simp only [cS (show b.p.length ≤ 1000000 by omega), Int.toNat_natCast, Nat.zero_add, post_at hx, pw1, pw2, pw3, decF_encF, decN_encN, w, w2]
    refine br_t (decide_eq_true (by omega)) (chk_step (decide_eq_true (by omega)) ?_)
    by_cases h1 : x.account = acc
    · refine br_t (beq_iff_eq.2 h1) ?_
      refine chk_step (decide_eq_true (by omega)) ?_
      by_cases h2 : x.day ≤ day
      · rw [if_pos ⟨h1, h2⟩]
        exact br_t (decide_eq_true h2) (chk_step (decide_eq_true (by omega)) rfl)
      · rw [if_neg (fun h => h2 h.2), Int.add_zero]
        exact br_f (decide_eq_false h2) rfl
    · rw [if_neg (fun h => h1 h.1), Int.add_zero]
      exact br_f (by rw [beq_eq_false_iff_ne]; exact h1) rfl
def psOk (l : List Pst) : Bool := decide (l.length ≤ 1000 ∧ ∀ p ∈ l, amtOk p.amount)
def M_rsum (a : RBk × Int × Int) : T Int := .chk (psOk a.1.p) (.ret (sumA a.1.p a.2.1 a.2.2))
theorem rsum_pc (a : RBk × Int × Int) (r : Int) (h : (M_rsum a).run = some r) : PC P 77 (D_rsum.enc a) (dInt.enc r) := by
  obtain ⟨b, acc, day⟩ := a
  obtain ⟨g, e⟩ := chk_ret h
  subst e
  obtain ⟨g1, g2⟩ := of_decide_eq_true g
  simp only at g1
  refine call_of okP tLA91 ((fn_rsum (b, acc, day)).trans ?_)
  simp only [Nat.zero_add, decF_encF, decN_encN]
  have key := L_su_eq g1 g2 acc day b.p.length 0 0 (by omega) (by omega)
  rw [List.drop_zero, Int.zero_add] at key
  exact obs_step key rfl
end K
noncomputable def BLAa1 : Tab := BLA91.addCall 77 (callE D_rsum dInt K.M_rsum)
theorem tLAa1 : TabOk P BLAa1 := TabOk.addPC tLA91 (K.rsum_pc)
theorem fn_rhold : ∀ a, (callT1 P BLAa1 30 37 D_l4 R_ii) a = T.run (
 let q1 := keepV (decF rItem (List.length a.1) fun i => encF rItem a.1 ((0 : Nat) + i)) a.2.2.2;
 let q2 := decF rPost (List.length (RBk.p q1.1)) fun i => encF rPost (RBk.p q1.1) ((0 : Nat) + i);
  .br (q1.2 != (0 : Int)) (
    .ret (((0 : Int), q1.2))) (
    .br (!r_day a.2.2.1) (
      .ret (((0 : Int), (1 : Int)))) (
      .br (!r_account a.2.1) (
        .ret (((0 : Int), (1 : Int)))) (
        .chk (psOk q2) <|
        .ret ((sumA q2 a.2.1 a.2.2.1, (0 : Int))))))) := fun a => by kernel_rfl
theorem fn_ramt : ∀ a, (callT1 P BLAa1 30 45 D_l3 R_ii) a = T.run (
 let q4 := keepV (decF rItem (List.length a.1) fun i => encF rItem a.1 ((0 : Nat) + i)) a.2.2;
 let q1 := RBk.bills q4.1;
 let q3 := decN nBill (List.length q1) fun i => encN nBill q1 ((0 : Nat) + i);
 let q2 := encN nBill q1 ((0 : Nat) + Int.toNat (billI q3 a.2.1)) (nat_lit 3);
 let q5 := (↑(clampL (slLen q2)) : Int) - (1 : Int);
 let q6 := (0 : Int);
  .br (q4.2 != q6) (
    .ret ((q6, q4.2))) (
    .br (!r_within (a.2.1, (1 : Int), (1099511627776 : Int))) (
      .ret ((q6, (1 : Int)))) (
      .chk (decide (List.length q3 ≤ (1000 : Nat))) <|
      .br (decide (billI q3 a.2.1 < q6)) (
        .ret ((q6, (5 : Int)))) (
        .chk (decide (q6 ≤ billI q3 a.2.1 ∧ billI q3 a.2.1 < (↑(List.length q1) : Int))) <|
        .chk (decide (q6 ≤ IntKind.wrap IntKind.i64 q5 ∧ IntKind.wrap IntKind.i64 q5 < (↑(slLen q2) : Int))) <|
        .ret ((numOf (slF q2 (slRow q2 + Int.toNat (IntKind.wrap IntKind.i64 q5)) (nat_lit 1)), q6)))))) := fun a => by kernel_rfl
theorem fn_rhist : ∀ a, (callT1 P BLAa1 30 47 D_ln (dAgg (.cons (dRows rChg) (.last dInt 0)))) a = T.run (
 let q3 := keepV (decF rItem (List.length a.1) fun i => encF rItem a.1 ((0 : Nat) + i)) (728 : Int);
 let q1 := RBk.bills q3.1;
 let q2 := decN nBill (List.length q1) fun i => encN nBill q1 ((0 : Nat) + i);
 let q4 := encN nBill q1 ((0 : Nat) + Int.toNat (billI q2 a.2)) (nat_lit 3);
  .br (q3.2 != (0 : Int)) (
    .ret (([], q3.2))) (
    .br (!r_within (a.2, (1 : Int), (1099511627776 : Int))) (
      .ret (([], (1 : Int)))) (
      .chk (decide (List.length q2 ≤ (1000 : Nat))) <|
      .br (decide (billI q2 a.2 < (0 : Int))) (
        .ret (([], (5 : Int)))) (
        .chk (decide ((0 : Int) ≤ billI q2 a.2 ∧ billI q2 a.2 < (↑(List.length q1) : Int))) <|
        .ret ((decF rChg (slLen q4) fun i => slF q4 (slRow q4 + i), (0 : Int))))))) := fun a => by kernel_rfl
theorem fn_rbonds : ∀ a, (callT1 P BLAa1 30 30 D_ln (dAgg (.cons (dRows rBal) (.last dInt 0)))) a = T.run (
  .ret ((decF rBal (List.length (RBk.bonds (Prod.fst (keepV (decF rItem (List.length a.1) fun i => encF rItem a.1 ((0 : Nat) + i)) a.2)))) fun i => encF rBal (RBk.bonds (Prod.fst (keepV (decF rItem (List.length a.1) fun i => encF rItem a.1 ((0 : Nat) + i)) a.2))) ((0 : Nat) + i), Prod.snd (keepV (decF rItem (List.length a.1) fun i => encF rItem a.1 ((0 : Nat) + i)) a.2)))) := fun a => by kernel_rfl
theorem fn_rsortd : ∀ a, (callT1 P BLAa1 30 52 D_l (dAgg (.cons (dRows rItem) (.last dInt 0)))) a = T.run (
  .br (checkV (decF rItem (List.length a) fun i => encF rItem a ((0 : Nat) + i)) != (0 : Int)) (
    .ret (([], checkV (decF rItem (List.length a) fun i => encF rItem a ((0 : Nat) + i))))) (
    .chk (decide (List.length (decF rItem (List.length a) fun i => encF rItem a ((0 : Nat) + i)) ≤ (500 : Nat))) <|
    .ret ((decF rItem (List.length (sortedR (decF rItem (List.length a) fun i => encF rItem a ((0 : Nat) + i)))) fun i => encF rItem (sortedR (decF rItem (List.length a) fun i => encF rItem a ((0 : Nat) + i))) ((0 : Nat) + i), (0 : Int))))) := fun a => by kernel_rfl
end Go.Proofs.YtelpdkojdfnmiaaGreat
/-! LAb -/
namespace Go.Proofs.YtelpdkojdfnmiaaGreat
open Ev K
set_option maxRecDepth 100000
def lHeld : DecL (List Bal × Int) := DecL.cons (dRows rBal) (.last dInt 0)
def S_ba := DecS.ghost 9 38 2 [.int .i64, .int .i64] (DecS.mk0 (.skip (.cons (dInt) (.skips 4 (.unit (dLp 0 0 0 0) (.unit (dLp 1 0 0 0) (.skip (.cons (dO 2) (.last (dInt) 49)))))))) (.flat 63 (.tops 2) (.flat 54 lKept (.rows 38 rBal .nil))))
def X_ba := DecX.one (.exit 0) [6, 9] (DecS.mk0 (.skips 6 (.unit (dLp 0 0 0 0) (.skips 2 (.last (dO 1) 50)))) (.flat 63 (.tops 2) (.rows 38 rBal .nil)))
noncomputable def K.st_ba := loopT1 P BLAa1 30 38 73 [10, 7, 9, 1, 6] S_ba X_ba
theorem sl_ba : ∀ s, (K.st_ba) s = T.run (
 let q6 := s.2.2.1.1;
 let q10 := RBk.p q6;
 let q14 := List.length q10;
 let q7 := (0 : Nat);
 let q1 := (RBk.mk (RBk.closed q6) (decF rPost q14 fun i => encF rPost q10 (q7 + i)) (decF rInt (List.length (RBk.refused q6)) fun i => encF rInt (RBk.refused q6) (q7 + i)) (decN nBill (List.length (RBk.bills q6)) fun i => encN nBill (RBk.bills q6) (q7 + i)) (decF rBal (List.length (RBk.paid q6)) fun i => encF rBal (RBk.paid q6) (q7 + i)) (decF rBal (List.length (RBk.bonds q6)) fun i => encF rBal (RBk.bonds q6) (q7 + i)) (decF rItem (List.length (RBk.stands q6)) fun i => encF rItem (RBk.stands q6) (q7 + i)), s.2.2.1.2);
 let q8 := List.length s.2.2.2.1;
 let q11 := decF rBal q8 fun i => encF rBal s.2.2.2.1 (q7 + i);
 let q5 := q7 + Int.toNat s.1.2.2;
 let q12 := numOf (encF rPost q10 q5 (nat_lit 3));
 let q2 := moreB q11 (numOf (encF rPost q10 q5 (nat_lit 2))) q12;
 let q3 := Get.mk (RowD.tags rPost) (encF rPost (Prod.fst (Prod.snd ((fun k => (RBk.closed k.1, RBk.p k.1, RBk.refused k.1, RBk.bills k.1, RBk.paid k.1, RBk.bonds k.1, RBk.stands k.1, k.2)) s.2.2.1))));
 let q4 := decide ((0 : Int) ≤ s.1.2.2 ∧ s.1.2.2 < (↑q14 : Int));
 let q9 := (3 : Nat);
 let q13 := encF rBal s.2.2.2.1;
  .br (decide (s.1.2.2 < (↑(clampL q14) : Int))) (
    .chk q4 <|
    .br (decide (numOf (encF rPost q10 q5 (nat_lit 1)) ≤ s.1.1)) (
      .chk q4 <|
      .chk q4 <|
      .chk (decide (List.length q11 ≤ (1000 : Nat) ∧ amtB q12 ∧ ∀ (b : Bal), b ∈ Prod.fst (decF rBal q8 fun i => Get.f (Get.mk (RowD.tags rBal) q13) (q7 + i), numOf (Get.f q3 q5 (q7 + Field.offset #[Field.mk "Item" q9 q7 false "" "" q7, Field.mk "Day" q9 (1 : Nat) false "" "" (8 : Nat), Field.mk "Account" q9 (2 : Nat) false "" "" (16 : Nat), Field.mk "Amount" q9 q9 false "" "" (24 : Nat)][(2 : Nat)])), numOf (Get.f q3 q5 (q7 + Field.offset #[Field.mk "Item" q9 q7 false "" "" q7, Field.mk "Day" q9 (1 : Nat) false "" "" (8 : Nat), Field.mk "Account" q9 (2 : Nat) false "" "" (16 : Nat), Field.mk "Amount" q9 q9 false "" "" (24 : Nat)][q9]))) → amtB (Bal.amount b))) <|
      .ret (Sum.inl ((s.1.1, List.length q2, IntKind.wrap IntKind.i64 (s.1.2.2 + (1 : Int))), PUnit.unit, q1, decF rBal (List.length q2) (encF rBal q2), PUnit.unit))) (
      .ret (Sum.inl ((s.1.1, s.1.2.1, IntKind.wrap IntKind.i64 (s.1.2.2 + (1 : Int))), PUnit.unit, q1, decF rBal q8 q13, PUnit.unit)))) (
    .ret (Sum.inr (s.1.2.1, PUnit.unit, decF rBal q8 q13, PUnit.unit)))) := fun s => by kernel_rfl
noncomputable def K.L_ba := lim K.st_ba
noncomputable def BLAb1 : Tab := BLAa1.addNode 38 73 (nodeE [10, 7, 9, 1, 6] S_ba X_ba (fun s => .obs (K.L_ba s) .ret))
theorem tLAb1 : TabOk P BLAb1 := TabOk.addLoop (d := 30) okP tLAa1 (by kernel_rfl) (by kernel_rfl) (fun s r h => obs_ret h)
theorem fn_rbal : ∀ a, (callT1 P BLAb1 30 38 D_l3 (dAgg lHeld)) a = T.run (
 let q3 := (0 : Nat);
 let q1 := keepV (decF rItem (List.length a.1) fun i => encF rItem a.1 (q3 + i)) a.2.2;
 let q2 := q1.1;
  .br (q1.2 != (0 : Int)) (
    .ret (([], q1.2))) (
    .br (!r_day a.2.1) (
      .ret (([], (1 : Int)))) (
      .obs (L_ba ((a.2.1, q3, (0 : Int)), PUnit.unit, (RBk.mk (RBk.closed q2) (decF rPost (List.length (RBk.p q2)) fun i => encF rPost (RBk.p q2) (q3 + i)) (decF rInt (List.length (RBk.refused q2)) fun i => encF rInt (RBk.refused q2) (q3 + i)) (decN nBill (List.length (RBk.bills q2)) fun i => encN nBill (RBk.bills q2) (q3 + i)) (decF rBal (List.length (RBk.paid q2)) fun i => encF rBal (RBk.paid q2) (q3 + i)) (decF rBal (List.length (RBk.bonds q2)) fun i => encF rBal (RBk.bonds q2) (q3 + i)) (decF rItem (List.length (RBk.stands q2)) fun i => encF rItem (RBk.stands q2) (q3 + i)), q1.2), decF rBal q3 fun _x _x_1 => AV.top, PUnit.unit)) fun x0 =>
        .ret ((decF rBal (List.length x0.2.2.1) fun i => encF rBal x0.2.2.1 (q3 + i), (0 : Int)))))) := fun a => by kernel_rfl
def S_rf := DecS.ghost 6 73 7 [.int .i64, .int .i64, .int .i64, .int .i64, .int .i64, .int .i64, .int .i64] (DecS.mk0 (.skips 4 (.unit (dLp 0 0 0 0) (.unit (dLp 1 0 0 0) (.cons (dO 2) (.last (dInt) 57))))) (.flat 68 (.tops 2) (.flat 54 lKept (.rows 73 rItem .nil))))
def X_rf := DecX.one (.exit 0) [4, 6] (DecS.mk0 (.skips 4 (.unit (dLp 0 0 0 0) (.skip (.last (dO 1) 58)))) (.flat 68 (.tops 2) (.rows 73 rItem .nil)))
noncomputable def K.st_rf := loopT1 P BLAb1 30 32 49 [7, 6, 5, 4] S_rf X_rf
theorem sl_rf : ∀ s, (K.st_rf) s = T.run (
 let q12 := s.2.2.1.1;
 let q19 := RBk.bills q12;
 let q14 := (0 : Nat);
 let q3 := decN nBill (List.length q19) fun i => encN nBill q19 (q14 + i);
 let q5 := RBk.stands q12;
 let q4 := q14 + Int.toNat s.1.2;
 let q7 := numOf (encF rItem q5 q4 (nat_lit 4));
 let q18 := (0 : Int);
 let q1 := if billI q3 q7 > q18 then billI q3 q7 else q18;
 let q2 := (RBk.mk (RBk.closed q12) (decF rPost (List.length (RBk.p q12)) fun i => encF rPost (RBk.p q12) (q14 + i)) (decF rInt (List.length (RBk.refused q12)) fun i => encF rInt (RBk.refused q12) (q14 + i)) q3 (decF rBal (List.length (RBk.paid q12)) fun i => encF rBal (RBk.paid q12) (q14 + i)) (decF rBal (List.length (RBk.bonds q12)) fun i => encF rBal (RBk.bonds q12) (q14 + i)) (decF rItem (List.length q5) fun i => encF rItem q5 (q14 + i)), s.2.2.1.2);
 let q6 := encN nBill q19 (q14 + Int.toNat q1) (nat_lit 3);
 let q13 := s.2.2.2.1;
 let q15 := List.length q13 + (1 : Nat);
 let q8 := decide (q15 * (56 : Nat) ≤ (140737488355328 : Nat) ∧ List.length q13 + (1 : Nat) ≤ nat_lit 9223372036854775807);
 let q9 := encF rItem q5 q4 (nat_lit 2);
 let q10 := (↑(clampL (slLen q6)) : Int) - (1 : Int);
 let q11 := (List.length q13 + (1 : Nat), IntKind.wrap IntKind.i64 (s.1.2 + (1 : Int)));
 let q16 := List.length q13;
 let q17 := encF rItem q13;
 let q20 := numOf (encF rItem q5 q4 (nat_lit 1));
 let q21 := numOf (encF rItem q5 q4 (nat_lit 3));
 let q22 := numOf (encF rItem q5 q4 (nat_lit 5));
  .br (decide (s.1.2 < (↑(clampL (List.length q5)) : Int))) (
    .chk (decide (q18 ≤ s.1.2 ∧ s.1.2 < (↑(List.length q5) : Int))) <|
    .br (numOf q9 == (2 : Int)) (
      .ret (Sum.inl ((s.1.1, IntKind.wrap IntKind.i64 (s.1.2 + (1 : Int))), PUnit.unit, q2, decF rItem q16 q17, PUnit.unit))) (
      .br (numOf q9 == (1 : Int)) (
        .chk (decide (List.length q3 ≤ (1000 : Nat))) <|
        .chk (decide ((q18 ≤ if billI q3 q7 > q18 then billI q3 q7 else q18) ∧ q1 < (↑(List.length q19) : Int))) <|
        .chk (decide (q18 ≤ IntKind.wrap IntKind.i64 q10 ∧ IntKind.wrap IntKind.i64 q10 < (↑(slLen q6) : Int))) <|
        .chk q8 <|
        .ret (Sum.inl (q11, PUnit.unit, q2, decF rItem q15 (appG q16 q17 fun i k => Option.getD [AV.int IntKind.i64 (numOf (encF rItem q5 q4 q14)), AV.int IntKind.i64 q20, AV.int IntKind.i64 (numOf q9), AV.int IntKind.i64 q21, AV.int IntKind.i64 q7, AV.int IntKind.i64 q22, AV.int IntKind.i64 (numOf (slF q6 (slRow q6 + Int.toNat (IntKind.wrap IntKind.i64 q10)) (nat_lit 1)))][(q14 + i) * (7 : Nat) + k]? AV.top), PUnit.unit))) (
        .chk q8 <|
        .ret (Sum.inl (q11, PUnit.unit, q2, decF rItem q15 (appG q16 q17 fun i k => Option.getD [AV.int IntKind.i64 (numOf (encF rItem q5 q4 q14)), AV.int IntKind.i64 q20, AV.int IntKind.i64 (numOf q9), AV.int IntKind.i64 q21, AV.int IntKind.i64 q7, AV.int IntKind.i64 q22, AV.int IntKind.i64 (numOf (encF rItem q5 q4 (nat_lit 6)))][(q14 + i) * (7 : Nat) + k]? AV.top), PUnit.unit))))) (
    .ret (Sum.inr (s.1.1, PUnit.unit, decF rItem q16 q17, PUnit.unit)))) := fun s => by kernel_rfl
noncomputable def K.L_rf := lim K.st_rf
noncomputable def BLAb2 : Tab := BLAb1.addNode 32 49 (nodeE [7, 6, 5, 4] S_rf X_rf (fun s => .obs (K.L_rf s) .ret))
theorem tLAb2 : TabOk P BLAb2 := TabOk.addLoop (d := 30) okP tLAb1 (by kernel_rfl) (by kernel_rfl) (fun s r h => obs_ret h)
theorem fn_rfin : ∀ a, (callT1 P BLAb2 30 32 D_ln (dAgg (.cons (dRows rItem) (.last dInt 0)))) a = T.run (
 let q3 := (0 : Nat);
 let q1 := keepV (decF rItem (List.length a.1) fun i => encF rItem a.1 (q3 + i)) a.2;
 let q2 := q1.1;
  .br (q1.2 != (0 : Int)) (
    .ret (([], q1.2))) (
    .obs (L_rf ((q3, (0 : Int)), PUnit.unit, (RBk.mk (RBk.closed q2) (decF rPost (List.length (RBk.p q2)) fun i => encF rPost (RBk.p q2) (q3 + i)) (decF rInt (List.length (RBk.refused q2)) fun i => encF rInt (RBk.refused q2) (q3 + i)) (decN nBill (List.length (RBk.bills q2)) fun i => encN nBill (RBk.bills q2) (q3 + i)) (decF rBal (List.length (RBk.paid q2)) fun i => encF rBal (RBk.paid q2) (q3 + i)) (decF rBal (List.length (RBk.bonds q2)) fun i => encF rBal (RBk.bonds q2) (q3 + i)) (decF rItem (List.length (RBk.stands q2)) fun i => encF rItem (RBk.stands q2) (q3 + i)), q1.2), decF rItem q3 fun _x _x_1 => AV.top, PUnit.unit)) fun x0 =>
      .ret ((decF rItem (List.length x0.2.2.1) fun i => encF rItem x0.2.2.1 (q3 + i), (0 : Int))))) := fun a => by kernel_rfl
def S_rm := DecS.ghost 9 3 1 [.int .i64] (DecS.mk0 (.skips 6 (.unit (dLp 0 0 0 0) (.unit (dLp 1 0 0 0) (.unit (dLp 2 0 0 0) (.cons (dO 3) (.last (dInt) 69)))))) (.flat 92 (.tops 2) (.flat 54 lKept (.flat 54 lKept (.rows 3 rInt .nil)))))
def X_rm := DecX.one (.exit 0) [6, 9] (DecS.mk0 (.skips 6 (.unit (dLp 0 0 0 0) (.skips 2 (.last (dO 1) 70)))) (.flat 92 (.tops 2) (.rows 3 rInt .nil)))
noncomputable def K.st_rm := loopT1 P BLAb2 30 49 89 [10, 9, 8, 7, 6] S_rm X_rm
theorem sl_rm : ∀ s, (K.st_rm) s = T.run (
 let q6 := s.2.2.2.1.1;
 let q7 := (0 : Nat);
 let q15 := RBk.bills q6;
 let q1 := (RBk.mk (RBk.closed q6) (decF rPost (List.length (RBk.p q6)) fun i => encF rPost (RBk.p q6) (q7 + i)) (decF rInt (List.length (RBk.refused q6)) fun i => encF rInt (RBk.refused q6) (q7 + i)) (decN nBill (List.length q15) fun i => encN nBill q15 (q7 + i)) (decF rBal (List.length (RBk.paid q6)) fun i => encF rBal (RBk.paid q6) (q7 + i)) (decF rBal (List.length (RBk.bonds q6)) fun i => encF rBal (RBk.bonds q6) (q7 + i)) (decF rItem (List.length (RBk.stands q6)) fun i => encF rItem (RBk.stands q6) (q7 + i)), s.2.2.2.1.2);
 let q8 := s.2.2.1.1;
 let q12 := RBk.bills q8;
 let q16 := List.length q12;
 let q2 := (RBk.mk (RBk.closed q8) (decF rPost (List.length (RBk.p q8)) fun i => encF rPost (RBk.p q8) (q7 + i)) (decF rInt (List.length (RBk.refused q8)) fun i => encF rInt (RBk.refused q8) (q7 + i)) (decN nBill q16 fun i => encN nBill q12 (q7 + i)) (decF rBal (List.length (RBk.paid q8)) fun i => encF rBal (RBk.paid q8) (q7 + i)) (decF rBal (List.length (RBk.bonds q8)) fun i => encF rBal (RBk.bonds q8) (q7 + i)) (decF rItem (List.length (RBk.stands q8)) fun i => encF rItem (RBk.stands q8) (q7 + i)), s.2.2.1.2);
 let q14 := q7 + Int.toNat s.1.2;
 let q3 := encN nBill q15 q14 (nat_lit 3);
 let q4 := encN nBill q12 q14 (nat_lit 3);
 let q13 := List.length s.2.2.2.2.1;
 let q11 := decF rInt q13 fun i => encF rInt s.2.2.2.2.1 (q7 + i);
 let q5 := K.addL q11 (numOf (encN nBill q12 q14 q7));
 let q9 := (↑(clampL (slLen q4)) : Int) - (1 : Int);
 let q10 := (↑(clampL (slLen q3)) : Int) - (1 : Int);
  .br (decide (s.1.2 < (↑(clampL q16) : Int))) (
    .chk (decide ((0 : Int) ≤ s.1.2 ∧ s.1.2 < (↑q16 : Int))) <|
    .chk (decide ((0 : Int) ≤ s.1.2 ∧ s.1.2 < (↑(List.length q15) : Int))) <|
    .chk (decide ((0 : Int) ≤ IntKind.wrap IntKind.i64 q9 ∧ IntKind.wrap IntKind.i64 q9 < (↑(slLen q4) : Int))) <|
    .chk (decide ((0 : Int) ≤ IntKind.wrap IntKind.i64 q10 ∧ IntKind.wrap IntKind.i64 q10 < (↑(slLen q3) : Int))) <|
    .br (numOf (slF q4 (slRow q4 + Int.toNat (IntKind.wrap IntKind.i64 q9)) (nat_lit 1)) != numOf (slF q3 (slRow q3 + Int.toNat (IntKind.wrap IntKind.i64 q10)) (nat_lit 1))) (
      .chk (decide (List.length q11 ≤ (1000 : Nat))) <|
      .ret (Sum.inl ((List.length q5, IntKind.wrap IntKind.i64 (s.1.2 + (1 : Int))), PUnit.unit, q2, q1, decF rInt (List.length q5) (encF rInt q5), PUnit.unit))) (
      .ret (Sum.inl ((s.1.1, IntKind.wrap IntKind.i64 (s.1.2 + (1 : Int))), PUnit.unit, q2, q1, decF rInt q13 (encF rInt s.2.2.2.2.1), PUnit.unit)))) (
    .ret (Sum.inr (s.1.1, PUnit.unit, decF rInt q13 (encF rInt s.2.2.2.2.1), PUnit.unit)))) := fun s => by kernel_rfl
noncomputable def K.L_rm := lim K.st_rm
noncomputable def BLAb3 : Tab := BLAb2.addNode 49 89 (nodeE [10, 9, 8, 7, 6] S_rm X_rm (fun s => .obs (K.L_rm s) .ret))
theorem tLAb3 : TabOk P BLAb3 := TabOk.addLoop (d := 30) okP tLAb2 (by kernel_rfl) (by kernel_rfl) (fun s r h => obs_ret h)
theorem fn_rmov : ∀ a, (callT1 P BLAb3 30 49 D_l3 (dAgg (.cons (dRows rInt) (.last dInt 0)))) a = T.run (
 let q4 := (0 : Nat);
 let q1 := decF rItem (List.length a.1) fun i => encF rItem a.1 (q4 + i);
 let q5 := keepV q1 a.2.1;
 let q2 := q5.1;
 let q6 := keepV q1 a.2.2;
 let q3 := q6.1;
  .br (q5.2 != (0 : Int)) (
    .ret (([], q5.2))) (
    .br (q6.2 != (0 : Int)) (
      .ret (([], q6.2))) (
      .br (decide (a.2.1 > a.2.2)) (
        .ret (([], (1 : Int)))) (
        .obs (L_rm ((q4, (0 : Int)), PUnit.unit, (RBk.mk (RBk.closed q2) (decF rPost (List.length (RBk.p q2)) fun i => encF rPost (RBk.p q2) (q4 + i)) (decF rInt (List.length (RBk.refused q2)) fun i => encF rInt (RBk.refused q2) (q4 + i)) (decN nBill (List.length (RBk.bills q2)) fun i => encN nBill (RBk.bills q2) (q4 + i)) (decF rBal (List.length (RBk.paid q2)) fun i => encF rBal (RBk.paid q2) (q4 + i)) (decF rBal (List.length (RBk.bonds q2)) fun i => encF rBal (RBk.bonds q2) (q4 + i)) (decF rItem (List.length (RBk.stands q2)) fun i => encF rItem (RBk.stands q2) (q4 + i)), q5.2), (RBk.mk (RBk.closed q3) (decF rPost (List.length (RBk.p q3)) fun i => encF rPost (RBk.p q3) (q4 + i)) (decF rInt (List.length (RBk.refused q3)) fun i => encF rInt (RBk.refused q3) (q4 + i)) (decN nBill (List.length (RBk.bills q3)) fun i => encN nBill (RBk.bills q3) (q4 + i)) (decF rBal (List.length (RBk.paid q3)) fun i => encF rBal (RBk.paid q3) (q4 + i)) (decF rBal (List.length (RBk.bonds q3)) fun i => encF rBal (RBk.bonds q3) (q4 + i)) (decF rItem (List.length (RBk.stands q3)) fun i => encF rItem (RBk.stands q3) (q4 + i)), q6.2), decF rInt q4 fun _x _x_1 => AV.top, PUnit.unit)) fun x0 =>
          .ret ((decF rInt (List.length x0.2.2.1) fun i => encF rInt x0.2.2.1 (q4 + i), (0 : Int))))))) := fun a => by kernel_rfl
end Go.Proofs.YtelpdkojdfnmiaaGreat
/-! LAc -/
namespace Go.Proofs.YtelpdkojdfnmiaaGreat
open Ev K
set_option maxRecDepth 100000
def O_sd : DecB (Span × Unit × (RBk × Int) × (Int × Int × Nat) × List Pst × Unit) := .flat 45 lSpan (.flat 80 (.tops 4) (.flat 54 lKept (.flat 41 (lStmO 4) (.rows 23 rPost .nil))))
def S_sd2 := DecS.ghostF 11 2 23 4 [.int .i64, .int .i64, .int .i64, .int .i64] (DecS.mk0 (.skip (.cons (dInt) (.skips 4 (.unit (dLp 0 0 0 0) (.skip (.unit (dLp 1 0 0 0) (.unit (dLp 2 0 0 0) (.skip (.unit (dLp 3 0 0 0) (.cons (dInt) (.last (dInt) 94))))))))))) O_sd)
def X_sd2 := DecX.one (.exit 2) [1, 6, 8, 9, 11, 12] (DecS.mk0 (.skip (.cons (dInt) (.skips 4 (.unit (dLp 0 0 0 0) (.skip (.unit (dLp 1 0 0 0) (.unit (dLp 2 0 0 0) (.skip (.unit (dLp 3 0 0 0) (.last (dInt) 95)))))))))) O_sd)
noncomputable def K.st_sd2 := loopT1 P BLAb3 30 42 97 [13, 11, 9, 1, 12, 8, 6] S_sd2 X_sd2
theorem sl_sd2 : ∀ s, (K.st_sd2) s = T.run (
 let q7 := s.2.2.2.1.1;
 let q3 := RBk.p q7;
 let q9 := (0 : Nat);
 let q1 := (RBk.mk (RBk.closed q7) (decF rPost (List.length q3) fun i => encF rPost q3 (q9 + i)) (decF rInt (List.length (RBk.refused q7)) fun i => encF rInt (RBk.refused q7) (q9 + i)) (decN nBill (List.length (RBk.bills q7)) fun i => encN nBill (RBk.bills q7) (q9 + i)) (decF rBal (List.length (RBk.paid q7)) fun i => encF rBal (RBk.paid q7) (q9 + i)) (decF rBal (List.length (RBk.bonds q7)) fun i => encF rBal (RBk.bonds q7) (q9 + i)) (decF rItem (List.length (RBk.stands q7)) fun i => encF rItem (RBk.stands q7) (q9 + i)), s.2.2.2.1.2);
 let q8 := (s.1.1, s.1.2.1, IntKind.wrap IntKind.i64 (s.1.2.2 + (1 : Int)));
 let q6 := s.2.2.2.2.2.1;
 let q2 := Sum.inl (q8, s.2.1, PUnit.unit, q1, s.2.2.2.2.1, decF rPost (List.length q6) (encF rPost q6), PUnit.unit);
 let q4 := q9 + Int.toNat s.1.2.2;
 let q5 := decide ((0 : Int) ≤ s.1.2.2 ∧ s.1.2.2 < (↑(List.length q3) : Int));
  .br (decide (s.1.2.2 < (↑(clampL (List.length q3)) : Int))) (
    .chk q5 <|
    .br (numOf (encF rPost q3 q4 (nat_lit 1)) == s.1.2.1) (
      .chk q5 <|
      .br (numOf (encF rPost q3 q4 (nat_lit 2)) == s.1.1) (
        .chk q5 <|
        .chk (decide ((List.length q6 + (1 : Nat)) * (32 : Nat) ≤ (140737488355328 : Nat) ∧ List.length q6 + (1 : Nat) ≤ nat_lit 9223372036854775807)) <|
        .ret (Sum.inl (q8, s.2.1, PUnit.unit, q1, (s.2.2.2.2.1.1, s.2.2.2.2.1.2.1, List.length q6 + (1 : Nat)), decF rPost (List.length q6 + (1 : Nat)) (appG (List.length q6) (encF rPost q6) fun i k => Option.getD [AV.int IntKind.i64 (numOf (encF rPost q3 q4 q9)), AV.int IntKind.i64 (numOf (encF rPost q3 q4 (nat_lit 1))), AV.int IntKind.i64 (numOf (encF rPost q3 q4 (nat_lit 2))), AV.int IntKind.i64 (numOf (encF rPost q3 q4 (nat_lit 3)))][(q9 + i) * (4 : Nat) + k]? AV.top), PUnit.unit))) (
        .ret q2)) (
      .ret q2)) (
    .ret (Sum.inr ((s.1.1, s.1.2.1), s.2.1, PUnit.unit, q1, s.2.2.2.2.1, decF rPost (List.length q6) (encF rPost q6), PUnit.unit)))) := fun s => by kernel_rfl
noncomputable def K.L_sd2 := lim K.st_sd2
noncomputable def BLAc1 : Tab := BLAb3.addNode 42 97 (nodeE [13, 11, 9, 1, 12, 8, 6] S_sd2 X_sd2 (fun s => .obs (K.L_sd2 s) .ret))
theorem tLAc1 : TabOk P BLAc1 := TabOk.addLoop (d := 30) okP tLAb3 (by kernel_rfl) (by kernel_rfl) (fun s r h => obs_ret h)
def S_sd1 := DecS.ghostF 11 2 23 4 [.int .i64, .int .i64, .int .i64, .int .i64] (DecS.mk0 (.skip (.cons (dInt) (.skips 4 (.unit (dLp 0 0 0 0) (.skip (.unit (dLp 1 0 0 0) (.unit (dLp 2 0 0 0) (.skip (.unit (dLp 3 0 0 0) (.last (dInt) 95)))))))))) O_sd)
def X_sd1 := DecX.one (.exit 0) [8, 11] (DecS.mk0 (.skips 8 (.unit (dLp 0 0 0 0) (.skips 2 (.unit (dLp 1 0 0 0) (.tops 96))))) (.flat 80 (.tops 4) (.flat 41 (lStmO 2) (.rows 23 rPost .nil))))
noncomputable def K.st_sd1 := loopT1 P BLAc1 30 42 73 [11, 9, 1, 12, 8, 6] S_sd1 X_sd1
theorem sl_sd1 : ∀ s, (K.st_sd1) s = T.run (
 let q1 := s.2.2.2.1.1;
 let q2 := (0 : Nat);
 let q3 := s.2.2.2.2.2.1;
  .br (decide (s.1.2 ≤ Span.hi s.2.1)) (
    .obs (L_sd2 ((s.1.1, s.1.2, (0 : Int)), s.2.1, PUnit.unit, (RBk.mk (RBk.closed q1) (decF rPost (List.length (RBk.p q1)) fun i => encF rPost (RBk.p q1) (q2 + i)) (decF rInt (List.length (RBk.refused q1)) fun i => encF rInt (RBk.refused q1) (q2 + i)) (decN nBill (List.length (RBk.bills q1)) fun i => encN nBill (RBk.bills q1) (q2 + i)) (decF rBal (List.length (RBk.paid q1)) fun i => encF rBal (RBk.paid q1) (q2 + i)) (decF rBal (List.length (RBk.bonds q1)) fun i => encF rBal (RBk.bonds q1) (q2 + i)) (decF rItem (List.length (RBk.stands q1)) fun i => encF rItem (RBk.stands q1) (q2 + i)), s.2.2.2.1.2), s.2.2.2.2.1, decF rPost (List.length q3) (encF rPost q3), PUnit.unit)) fun x0 =>
 let q4 := x0.2.2.2.1.1;
      .ret (Sum.inl ((x0.1.1, IntKind.wrap IntKind.i64 (x0.1.2 + (1 : Int))), x0.2.1, PUnit.unit, (RBk.mk (RBk.closed q4) (decF rPost (List.length (RBk.p q4)) fun i => encF rPost (RBk.p q4) (q2 + i)) (decF rInt (List.length (RBk.refused q4)) fun i => encF rInt (RBk.refused q4) (q2 + i)) (decN nBill (List.length (RBk.bills q4)) fun i => encN nBill (RBk.bills q4) (q2 + i)) (decF rBal (List.length (RBk.paid q4)) fun i => encF rBal (RBk.paid q4) (q2 + i)) (decF rBal (List.length (RBk.bonds q4)) fun i => encF rBal (RBk.bonds q4) (q2 + i)) (decF rItem (List.length (RBk.stands q4)) fun i => encF rItem (RBk.stands q4) (q2 + i)), x0.2.2.2.1.2), x0.2.2.2.2.1, decF rPost (List.length x0.2.2.2.2.2.1) (encF rPost x0.2.2.2.2.2.1), PUnit.unit))) (
    .ret (Sum.inr (PUnit.unit, PUnit.unit, s.2.2.2.2.1, decF rPost (List.length q3) (encF rPost q3), PUnit.unit)))) := fun s => by kernel_rfl
noncomputable def K.L_sd1 := lim K.st_sd1
noncomputable def BLAc2 : Tab := BLAc1.addNode 42 73 (nodeE [11, 9, 1, 12, 8, 6] S_sd1 X_sd1 (fun s => .obs (K.L_sd1 s) .ret))
theorem tLAc2 : TabOk P BLAc2 := TabOk.addLoop (d := 30) okP tLAc1 (by kernel_rfl) (by kernel_rfl) (fun s r h => obs_ret h)
theorem fn_rstate : ∀ a, (callT1 P BLAc2 30 42 D_state (dAgg (.cons dInt (.cons dInt (.cons (dRows rPost) (.last dInt 0)))))) a = T.run (
 let q5 := (0 : Nat);
 let q1 := keepV (decF rItem (List.length a.1) fun i => encF rItem a.1 (q5 + i)) a.2.2.2;
 let q3 := q1.1;
 let q2 := decF rPost (List.length (RBk.p q3)) fun i => encF rPost (RBk.p q3) (q5 + i);
 let q6 := (0 : Int);
 let q4 := (q6, q6, [], (1 : Int));
 let q7 := a.2.2.1;
  .br (q1.2 != q6) (
    .ret ((q6, q6, [], q1.2))) (
    .br (!r_account a.2.1) (
      .ret q4) (
      .br (decide (Span.lo q7 < q6)) (
        .ret q4) (
        .br (decide (Span.lo q7 > Span.hi q7)) (
          .ret q4) (
          .br (decide (Span.hi q7 > (728 : Int))) (
            .ret q4) (
            .chk (psOk q2) <|
            .chk (psOk q2) <|
            .obs (L_sd1 ((a.2.1, Span.lo q7), q7, PUnit.unit, (RBk.mk (RBk.closed q3) q2 (decF rInt (List.length (RBk.refused q3)) fun i => encF rInt (RBk.refused q3) (q5 + i)) (decN nBill (List.length (RBk.bills q3)) fun i => encN nBill (RBk.bills q3) (q5 + i)) (decF rBal (List.length (RBk.paid q3)) fun i => encF rBal (RBk.paid q3) (q5 + i)) (decF rBal (List.length (RBk.bonds q3)) fun i => encF rBal (RBk.bonds q3) (q5 + i)) (decF rItem (List.length (RBk.stands q3)) fun i => encF rItem (RBk.stands q3) (q5 + i)), q1.2), (sumA q2 a.2.1 (IntKind.wrap IntKind.i64 (Span.lo q7 - (1 : Int))), sumA q2 a.2.1 (Span.hi q7), q5), decF rPost q5 fun _x _x_1 => AV.top, PUnit.unit)) fun x0 =>
              .ret ((x0.2.2.1.1, x0.2.2.1.2.1, decF rPost (List.length x0.2.2.2.1) fun i => encF rPost x0.2.2.2.1 (q5 + i), q6)))))))) := fun a => by kernel_rfl
end Go.Proofs.YtelpdkojdfnmiaaGreat
/-! LAd -/
namespace Go.Proofs.YtelpdkojdfnmiaaGreat
open Ev K
set_option maxRecDepth 100000
namespace K
theorem r_account_iff (n : Int) : r_account n = true ↔ acOk n := by
  unfold r_account acOk r_other
  by_cases h : r_within (n, 1, 3) = true
  · rw [if_pos h]
    have := (r_within_iff n 1 3).1 h
    exact ⟨fun _ => by omega, fun _ => rfl⟩
  · rw [if_neg h]
    have h' := mt (r_within_iff n 1 3).2 h
    rw [r_within_iff]; omega
theorem ask_cons (l : List Itm) (day : Int) (days : List Int) : askedV l (day :: days) = if askedV l days = 0 then (if dayOk day then 0 else 1) else askedV l days := by
  unfold askedV
  by_cases hc : checkV l = 0
  · simp only [hc, ne_eq, not_true, if_false]
    by_cases hd : ∀ n ∈ days, dayOk n
    · rw [if_pos hd, if_pos rfl]
      by_cases h : dayOk day
      · rw [if_pos h, if_pos (fun n hn => by rcases List.mem_cons.1 hn with e | e; exact e ▸ h; exact hd n e)]
      · rw [if_neg h, if_neg (fun e => h (e day (List.mem_cons_self ..)))]
    · rw [if_neg hd, if_neg (show ¬ (1 : Int) = 0 by decide), if_neg (fun e => hd fun n hn => e n (List.mem_cons_of_mem _ hn))]
  · rw [if_pos hc, if_pos hc, if_neg hc]
theorem kok_fold : ∀ (l : List Itm) (n : Nat) (b : RBk), KOk n b → (∀ x ∈ l, x.Ok) → n + l.length ≤ 500 → KOk (n + l.length) (l.foldl doneR b)
  | [], _, _, h, _, _ => h
  | x :: l, n, b, h, hf, hn => by
    simp only [List.length_cons] at hn
    have := kok_fold l (n + 1) (doneR b x) (h.done (hf x (List.mem_cons_self ..)) (by omega)) (fun y hy => hf y (List.mem_cons_of_mem _ hy)) (by omega)
    rw [List.foldl_cons, List.length_cons, show n + (l.length + 1) = n + 1 + l.length by omega]; exact this
theorem kok_keep {l : List Itm} (hc : checkV l = 0) (known : Int) : KOk 500 (keepR l known) := by
  obtain ⟨c1, c2, _⟩ := checkV_ok hc
  have hs := srt_len l
  have hf := List.length_filter_le (fun x : Itm => decide (x.known ≤ known)) (srt l)
  have := kok_fold ((srt l).filter fun x => decide (x.known ≤ known)) 0 rb0 KOk.zero (fun x hx => (c2 x (srt_mem (List.mem_filter.1 hx).1)).ok) (by omega)
  exact this.mono (by omega)
theorem ps_keep {l : List Itm} (hc : checkV l = 0) (known : Int) : psOk (keepR l known).p = true := by rw [kr_p hc]; exact chk_bal hc known
theorem not_t {b : Bool} {p : Prop} (h : b = true ↔ p) (hp : ¬ p) : (!b) = true := by
  rw [Bool.not_eq_true', ← Bool.not_eq_true]; exact fun e => hp (h.1 e)
theorem not_f {b : Bool} {p : Prop} (h : b = true ↔ p) (hp : p) : (!b) = false := by rw [h.2 hp]; rfl
theorem rhold_eq (a : List Itm × Int × Int × Int) : callT1 P BLAa1 30 37 D_l4 R_ii a = some (holdV a.1 a.2.1 a.2.2.1 a.2.2.2) := by
  obtain ⟨l, acc, day, known⟩ := a
  rw [fn_rhold]
  simp only [Nat.zero_add, decF_encF]
  unfold holdV holdE
  rw [ask_cons]
  by_cases h : askedV l [known] = 0
  · have hc := (ask_check h).1
    rw [keep_ok h, if_pos h]
    refine br_f rfl ?_
    by_cases hd : dayOk day
    · rw [if_pos hd]
      refine br_f (not_f (r_day_iff day) hd) ?_
      unfold orV accountE
      by_cases ha : acOk acc
      · refine br_f (not_f (r_account_iff acc) ha) (chk_step (ps_keep hc known) ?_)
        rw [if_pos ha, kr_p hc, look_sum]; rfl
      · rw [if_neg ha]; exact br_t (not_t (r_account_iff acc) ha) rfl
    · rw [if_neg hd]; exact br_t (not_t (r_day_iff day) hd) rfl
  · rw [keep_bad h, if_neg h]
    have e : orV (askedV l [known]) (accountE acc) = askedV l [known] := if_pos h
    rw [e, if_neg h]
    exact br_t (ne_t h) rfl
theorem billR_map (k : Bk) (n : Int) : billR (k.bills.map rbOf) n = fb k n := by
  unfold billR fb
  rw [List.findIdx?_map]
  congr 1
  funext s
  show (s.1.no == n) = (n == s.1.no)
  exact Bool.beq_comm
theorem r_bill_iff (n : Int) : r_within (n, 1, 1099511627776) = true ↔ billOk n := r_within_iff n 1 1099511627776
theorem ramt_eq (a : List Itm × Int × Int) : callT1 P BLAa1 30 45 D_l3 R_ii a = some (amountV a.1 a.2.1 a.2.2) := by
  obtain ⟨l, number, known⟩ := a
  rw [fn_ramt]; unfold amountV
  simp only [Nat.zero_add, decF_encF, decN_encN]
  by_cases h : askedV l [known] = 0
  · have hc := (ask_check h).1
    rw [if_pos h, keep_ok h]
    refine br_f rfl ?_
    by_cases hb : billOk number
    · rw [if_pos hb]
      have hk := kok_keep hc known
      have hlast := kr_last hc known
      have hm := kr_bills hc known
      generalize keepR l known = b at hk hm
      generalize readB l known = k at hlast hm
      have hbl := hk.bills
      have hr : billR b.bills number = fb k number := by rw [hm, billR_map]
      refine br_f (not_f (r_bill_iff number) hb) (chk_step (decide_eq_true (by show b.bills.length ≤ 1000; omega)) ?_)
      show T.run _ = some (match fb k number with | some q => _ | none => _)
      rw [← hr]
      cases hq : billR b.bills number with
      | none =>
        have eb : billI b.bills number = -1 := by unfold billI; rw [hq]
        simp only [eb]; rfl
      | some q =>
        have hlt : q < k.bills.length := fb_some (hr ▸ hq)
        have hs := List.getElem?_eq_getElem hlt
        have hmem := List.getElem_mem hlt
        have hg : k.bills.getD q default = k.bills[q] := by rw [List.getD_eq_getElem?_getD, hs]; rfl
        have hll := hlast _ hmem
        have eb : billI b.bills number = (q : Int) := by unfold billI; rw [hq]
        have hs2 : b.bills[q]? = some (rbOf k.bills[q]) := by rw [hm, List.getElem?_map, hs]; rfl
        obtain ⟨y1, y2, _⟩ := hk.l _ (List.mem_of_getElem? hs2)
        have hlb : b.bills.length = k.bills.length := by rw [hm, List.length_map]
        simp only [hg]
        generalize k.bills[q] = s at hs2 y1 y2 hll
        have v0 : IntKind.i64.wrap (((rbOf s).l.length : Int) - 1) = (((rbOf s).l.length - 1 : Nat) : Int) := by rw [w64_in (by omega) (by omega)]; omega
        simp only [eb, Int.toNat_natCast, encN_at hs2, sl3, sl_len, sl_row, sl_f, cS (show (rbOf s).l.length ≤ 1000000 by omega), v0, Nat.zero_add, last_amt (rbOf s).l y1]
        refine br_f (decide_eq_false (by omega)) (chk_step (decide_eq_true (by omega)) (chk_step (decide_eq_true (by omega)) ?_))
        show some (lastA s.2, _) = _
        rw [hll]
    · rw [if_neg hb]; exact br_t (not_t (r_bill_iff number) hb) rfl
  · rw [if_neg h, keep_bad h]; exact br_t (ne_t h) rfl
theorem ask728 (l : List Itm) : askedV l [728] = checkV l := by
  unfold askedV
  by_cases h : checkV l = 0
  · rw [if_neg (fun e => e h), if_pos (fun n hn => by rw [List.mem_singleton.1 hn]; decide), h]
  · rw [if_pos h]
theorem rhist_eq (a : List Itm × Int) : callT1 P BLAa1 30 47 D_ln (dAgg (.cons (dRows rChg) (.last dInt 0))) a = some (historyV a.1 a.2) := by
  obtain ⟨l, number⟩ := a
  rw [fn_rhist]; unfold historyV
  rw [← ask728]
  simp only [Nat.zero_add, decF_encF, decN_encN]
  by_cases h : askedV l [728] = 0
  · have hc := (ask_check h).1
    rw [if_pos h, keep_ok h]
    refine br_f rfl ?_
    by_cases hb : billOk number
    · rw [if_pos hb]
      have hk := kok_keep hc 728
      have hm := kr_bills hc 728
      generalize keepR l 728 = b at hk hm
      generalize readB l 728 = k at hm
      have hbl := hk.bills
      have hr : billR b.bills number = fb k number := by rw [hm, billR_map]
      refine br_f (not_f (r_bill_iff number) hb) (chk_step (decide_eq_true (by show b.bills.length ≤ 1000; omega)) ?_)
      show T.run _ = some (match fb k number with | some q => _ | none => _)
      rw [← hr]
      cases hq : billR b.bills number with
      | none =>
        have eb : billI b.bills number = -1 := by unfold billI; rw [hq]
        simp only [eb]; rfl
      | some q =>
        have hlt : q < k.bills.length := fb_some (hr ▸ hq)
        have hs := List.getElem?_eq_getElem hlt
        have hg : k.bills.getD q default = k.bills[q] := by rw [List.getD_eq_getElem?_getD, hs]; rfl
        have eb : billI b.bills number = (q : Int) := by unfold billI; rw [hq]
        have hs2 : b.bills[q]? = some (rbOf k.bills[q]) := by rw [hm, List.getElem?_map, hs]; rfl
        have hlb : b.bills.length = k.bills.length := by rw [hm, List.length_map]
        simp only [hg]
        generalize k.bills[q] = s at hs2
        simp only [eb, Int.toNat_natCast, encN_at hs2, sl3, sl_len, sl_row, sl_f, Nat.zero_add, decF_encF]
        exact br_f (decide_eq_false (by omega)) (chk_step (decide_eq_true (by omega)) rfl)
    · rw [if_neg hb]; exact br_t (not_t (r_bill_iff number) hb) rfl
  · rw [if_neg h, keep_bad h]; exact br_t (ne_t h) rfl
theorem rbonds_eq (a : List Itm × Int) : callT1 P BLAa1 30 30 D_ln (dAgg (.cons (dRows rBal) (.last dInt 0))) a = some (bondsV a.1 a.2) := by
  obtain ⟨l, known⟩ := a
  rw [fn_rbonds]; unfold bondsV
  simp only [Nat.zero_add, decF_encF]
  by_cases h : askedV l [known] = 0
  · rw [if_pos h, keep_ok h, h, ← kr_bonds (ask_check h).1]; rfl
  · rw [if_neg h, keep_bad h]; rfl
theorem rsortd_eq (l : List Itm) : callT1 P BLAa1 30 52 D_l (dAgg (.cons (dRows rItem) (.last dInt 0))) l = some (lSortedV l) := by
  rw [fn_rsortd]; unfold lSortedV
  simp only [Nat.zero_add, decF_encF]
  by_cases h : checkV l = 0
  · obtain ⟨c1, _, _⟩ := checkV_ok h
    rw [if_pos h, h, sortedR_eq (one_ck h)]
    exact br_f rfl (chk_step (decide_eq_true (by omega)) rfl)
  · rw [if_neg h]; exact br_t (ne_t h) rfl
end K
noncomputable def BLAd1 : Tab := BLAc2.addCall 37 (callE D_l4 R_ii (fun a => .ret (K.holdV a.1 a.2.1 a.2.2.1 a.2.2.2)))
theorem tLAd1 : TabOk P BLAd1 := TabOk.addPC tLAc2 (fun a r h => by rw [← ret_some h]; exact call_of okP tLAa1 (K.rhold_eq a))
noncomputable def BLAd2 : Tab := BLAd1.addCall 45 (callE D_l3 R_ii (fun a => .ret (K.amountV a.1 a.2.1 a.2.2)))
theorem tLAd2 : TabOk P BLAd2 := TabOk.addPC tLAd1 (fun a r h => by rw [← ret_some h]; exact call_of okP tLAa1 (K.ramt_eq a))
noncomputable def BLAd3 : Tab := BLAd2.addCall 47 (callE D_ln (dAgg (.cons (dRows rChg) (.last dInt 0))) (fun a => .ret (K.historyV a.1 a.2)))
theorem tLAd3 : TabOk P BLAd3 := TabOk.addPC tLAd2 (fun a r h => by rw [← ret_some h]; exact call_of okP tLAa1 (K.rhist_eq a))
noncomputable def BLAd4 : Tab := BLAd3.addCall 30 (callE D_ln (dAgg (.cons (dRows rBal) (.last dInt 0))) (fun a => .ret (K.bondsV a.1 a.2)))
theorem tLAd4 : TabOk P BLAd4 := TabOk.addPC tLAd3 (fun a r h => by rw [← ret_some h]; exact call_of okP tLAa1 (K.rbonds_eq a))
noncomputable def BLAd5 : Tab := BLAd4.addCall 52 (callE D_l (dAgg (.cons (dRows rItem) (.last dInt 0))) (fun a => .ret (K.lSortedV a)))
theorem tLAd5 : TabOk P BLAd5 := TabOk.addPC tLAd4 (fun a r h => by rw [← ret_some h]; exact call_of okP tLAa1 (K.rsortd_eq a))
end Go.Proofs.YtelpdkojdfnmiaaGreat
/-! LAe -/
namespace Go.Proofs.YtelpdkojdfnmiaaGreat
open Ev K
set_option maxRecDepth 100000
namespace K
theorem L_ba_eq {b : RBk} (e day : Int) (hl : b.p.length ≤ 1000) (ha : ∀ p ∈ b.p, amtOk p.amount) : ∀ (d i : Nat) (out : List Bal), i + d = b.p.length → out.length ≤ i → (∀ y ∈ out, -((i : Int) * 16777216) ≤ y.amount ∧ y.amount ≤ (i : Int) * 16777216) →
    L_ba ((day, out.length, (i : Int)), (), (b, e), out, ()) = some (((b.p.drop i).foldl (balStep day) out).length, (), (b.p.drop i).foldl (balStep day) out, ()) := by
  intro d
  induction d with
  | zero =>
    intro i out h ho hb
    refine lim_done ?_
    rw [sl_ba]
    simp only [cS (show b.p.length ≤ 1000000 by omega), decF_encF]
    refine br_f (decide_eq_false (by omega)) ?_
    rw [List.drop_of_length_le (by omega)]; rfl
  | succ d ih =>
    intro i out h ho hb
    have hi : i < b.p.length := by omega
    have hx := List.getElem?_eq_getElem hi
    have hm := ha _ (List.getElem_mem hi)
    rw [List.drop_eq_getElem_cons hi, List.foldl_cons]
    generalize b.p[i] = x at hx hm
    unfold amtOk at hm
    have w : IntKind.i64.wrap ((i : Int) + 1) = ((i + 1 : Nat) : Int) := by rw [w64_in (by omega) (by omega)]; rfl
    have hlen := moreB_len out x.account x.amount
    have hbd := moreB_bd ((i : Int) * 16777216) 16777216 (by omega) (by omega) x.account x.amount (by omega) out hb
    refine (lim_step ?_).trans (ih (i + 1) (balStep day out x) (by omega) (by unfold balStep; split <;> omega) (by
      unfold balStep; split
      · intro y hy; have := hbd y hy; omega
      · intro y hy; have := hb y hy; omega))
    rw [sl_ba]
    simp only [cS (show b.p.length ≤ 1000000 by omega), Int.toNat_natCast, Nat.zero_add, post_at hx, pw1, pw2, pw3, decF_encF, decN_encN, w]
    refine br_t (decide_eq_true (by omega)) (chk_step (decide_eq_true (by omega)) ?_)
    unfold balStep
    by_cases hd : x.day ≤ day
    · rw [if_pos hd]
      exact br_t (decide_eq_true hd) (chk_step (decide_eq_true (by omega)) (chk_step (decide_eq_true (by omega)) (chk_step (decide_eq_true ⟨by omega, by unfold amtB; omega, fun y hy => by have := hb y hy; unfold amtB; omega⟩) rfl)))
    · rw [if_neg hd]
      exact br_f (decide_eq_false hd) rfl
theorem rbal_eq (a : List Itm × Int × Int) : callT1 P BLAb1 30 38 D_l3 (dAgg lHeld) a = some (balancesV a.1 a.2.1 a.2.2) := by
  obtain ⟨l, day, known⟩ := a
  rw [fn_rbal]; unfold balancesV
  simp only [Nat.zero_add, decF_encF, decN_encN]
  rw [ask_cons]
  by_cases h : askedV l [known] = 0
  · have hc := (ask_check h).1
    rw [keep_ok h, if_pos h]
    refine br_f rfl ?_
    by_cases hd : dayOk day
    · rw [if_pos hd]
      refine br_f (not_f (r_day_iff day) hd) ?_
      obtain ⟨g1, g2⟩ := of_decide_eq_true (ps_keep hc known)
      rw [if_pos rfl, listB_sum, ← kr_p hc]
      generalize keepR l known = b at g1 g2
      have key := L_ba_eq (b := b) 0 day g1 g2 b.p.length 0 [] (by omega) (by simp) (by simp)
      refine obs_step key ?_
      simp only [List.drop_zero]; rfl
    · rw [if_neg hd]; exact br_t (not_t (r_day_iff day) hd) rfl
  · rw [keep_bad h, if_neg h, if_neg h]
    exact br_t (ne_t h) rfl
theorem L_rf_eq {b : RBk} {k : Bk} (e : Int) (hk : KOk 500 b) (hm : b.bills = k.bills.map rbOf) (hst : b.stands = k.taken) (hlast : ∀ s ∈ k.bills, lastA s.2 = s.1.amount) (htk : TkOk k) : ∀ (d i : Nat) (out : List Itm), i + d = b.stands.length → out.length ≤ i →
    L_rf ((out.length, (i : Int)), (), (b, e), out, ()) = some ((out ++ (b.stands.drop i).filterMap (finItem k)).length, (), out ++ (b.stands.drop i).filterMap (finItem k), ()) := by
  have hsl := hk.stands
  have hbl := hk.bills
  intro d
  induction d with
  | zero =>
    intro i out h ho
    refine lim_done ?_
    rw [sl_rf]
    simp only [cS (show b.stands.length ≤ 1000000 by omega), decF_encF]
    refine br_f (decide_eq_false (by omega)) ?_
    rw [List.drop_of_length_le (by omega)]; simp; rfl
  | succ d ih =>
    intro i out h ho
    have hi : i < b.stands.length := by omega
    have hx := List.getElem?_eq_getElem hi
    have hmm : b.stands[i] ∈ k.taken := hst ▸ List.getElem_mem hi
    rw [List.drop_eq_getElem_cons hi, List.filterMap_cons]
    generalize b.stands[i] = x at hx hmm
    have w : IntKind.i64.wrap ((i : Int) + 1) = ((i + 1 : Nat) : Int) := by rw [w64_in (by omega) (by omega)]; rfl
    have hid : (⟨x.id, x.known, x.kind, x.day, x.bill, x.account, x.amount⟩ : Itm) = x := rfl
    by_cases k2 : x.kind = 2
    · have e : finItem k x = none := by unfold finItem; rw [if_pos k2]
      rw [e]
      refine (lim_step ?_).trans (ih (i + 1) out (by omega) (by omega))
      rw [sl_rf]
      simp only [cS (show b.stands.length ≤ 1000000 by omega), Int.toNat_natCast, Nat.zero_add, item_at hx, wr0, wr1, wr2, wr3, wr4, wr5, wr6, decF_encF, decN_encN, w]
      exact br_t (decide_eq_true (by omega)) (chk_step (decide_eq_true (by omega)) (br_t (beq_iff_eq.2 k2) rfl))
    · by_cases k1 : x.kind = 1
      · obtain ⟨q, hq⟩ := htk x hmm k1
        have hql := fb_some hq
        have hs := List.getElem?_eq_getElem hql
        have hll := hlast _ (List.getElem_mem hql)
        have e : finItem k x = some { x with amount := (k.bills.getD q default).1.amount } := by unfold finItem; rw [if_neg k2, if_pos k1, hq]
        have hg : k.bills.getD q default = k.bills[q] := by rw [List.getD_eq_getElem?_getD, hs]; rfl
        have hs2 : b.bills[q]? = some (rbOf k.bills[q]) := by rw [hm, List.getElem?_map, hs]; rfl
        have eb : billI b.bills x.bill = (q : Int) := by unfold billI; rw [hm, billR_map, hq]
        obtain ⟨y1, y2, _⟩ := hk.l _ (List.mem_of_getElem? hs2)
        have hlb : b.bills.length = k.bills.length := by rw [hm, List.length_map]
        rw [e, hg]
        generalize k.bills[q] = s at hs2 y1 y2 hll
        have e2 : ∀ t : List Itm, out ++ { x with amount := s.1.amount } :: t = (out ++ [{ x with amount := s.1.amount }]) ++ t := fun t => by simp
        rw [e2]
        refine (lim_step ?_).trans (ih (i + 1) (out ++ [(⟨x.id, x.known, x.kind, x.day, x.bill, x.account, s.1.amount⟩ : Itm)]) (by omega) (by simp; omega))
        rw [sl_rf]
        have v0 : IntKind.i64.wrap (((rbOf s).l.length : Int) - 1) = (((rbOf s).l.length - 1 : Nat) : Int) := by rw [w64_in (by omega) (by omega)]; omega
        have hmax : (if (q : Int) > 0 then (q : Int) else 0) = (q : Int) := by split <;> omega
        simp only [cS (show b.stands.length ≤ 1000000 by omega), Int.toNat_natCast, Nat.zero_add, item_at hx, wr0, wr1, wr2, wr3, wr4, wr5, wr6, decF_encF, decN_encN, w, eb, hmax, encN_at hs2, sl3, sl_len, sl_row, sl_f, cS (show (rbOf s).l.length ≤ 1000000 by omega), v0, last_amt (rbOf s).l y1, pushT']
        refine br_t (decide_eq_true (by omega)) (chk_step (decide_eq_true (by omega)) (br_f (by rw [beq_eq_false_iff_ne]; exact k2) (br_t (beq_iff_eq.2 k1) (chk_step (decide_eq_true (by omega)) (chk_step (decide_eq_true (by omega)) (chk_step (decide_eq_true (by omega)) (chk_step (decide_eq_true (by omega)) ?_)))))))
        rw [show lastA (rbOf s).l = s.1.amount from hll, List.length_append]; rfl
      · have e : finItem k x = some x := by unfold finItem; rw [if_neg k2, if_neg k1]
        rw [e]
        have e2 : ∀ t : List Itm, out ++ x :: t = (out ++ [x]) ++ t := fun t => by simp
        rw [e2]
        refine (lim_step ?_).trans (ih (i + 1) (out ++ [x]) (by omega) (by simp; omega))
        rw [sl_rf]
        simp only [cS (show b.stands.length ≤ 1000000 by omega), Int.toNat_natCast, Nat.zero_add, item_at hx, wr0, wr1, wr2, wr3, wr4, wr5, wr6, decF_encF, decN_encN, w, pushT', hid]
        refine br_t (decide_eq_true (by omega)) (chk_step (decide_eq_true (by omega)) (br_f (by rw [beq_eq_false_iff_ne]; exact k2) (br_f (by rw [beq_eq_false_iff_ne]; exact k1) (chk_step (decide_eq_true (by omega)) ?_))))
        rw [List.length_append]; rfl
theorem rfin_eq (a : List Itm × Int) : callT1 P BLAb2 30 32 D_ln (dAgg (.cons (dRows rItem) (.last dInt 0))) a = some (finalV a.1 a.2) := by
  obtain ⟨l, known⟩ := a
  rw [fn_rfin]; unfold finalV finL
  simp only [Nat.zero_add, decF_encF, decN_encN]
  by_cases h : askedV l [known] = 0
  · have hc := (ask_check h).1
    rw [if_pos h, keep_ok h, h]
    refine br_f rfl ?_
    have hk := kok_keep hc known
    have hm := kr_bills hc known
    have hst := kr_stands hc known
    have hlast := kr_last hc known
    have htk := read_tk l known
    rw [← hst]
    generalize keepR l known = b at hk hm hst
    have key := L_rf_eq 0 hk hm hst hlast htk b.stands.length 0 [] (by omega) (by simp)
    refine obs_step key ?_
    simp only [List.drop_zero, List.nil_append]; rfl
  · rw [if_neg h, keep_bad h]; exact br_t (ne_t h) rfl
end K
noncomputable def BLAe1 : Tab := BLAd5.addCall 38 (callE D_l3 (dAgg lHeld) (fun a => .ret (K.balancesV a.1 a.2.1 a.2.2)))
theorem tLAe1 : TabOk P BLAe1 := TabOk.addPC tLAd5 (fun a r h => by rw [← ret_some h]; exact call_of okP tLAb1 (K.rbal_eq a))
noncomputable def BLAe2 : Tab := BLAe1.addCall 32 (callE D_ln (dAgg (.cons (dRows rItem) (.last dInt 0))) (fun a => .ret (K.finalV a.1 a.2)))
theorem tLAe2 : TabOk P BLAe2 := TabOk.addPC tLAe1 (fun a r h => by rw [← ret_some h]; exact call_of okP tLAb2 (K.rfin_eq a))
end Go.Proofs.YtelpdkojdfnmiaaGreat
/-! LAf -/
namespace Go.Proofs.YtelpdkojdfnmiaaGreat
open Ev K
set_option maxRecDepth 100000
namespace K
def mvP (z : RB × RB) : Bool := lastA z.1.l != lastA z.2.l
def mvStep (out : List Int) (z : RB × RB) : List Int := if mvP z then addL out z.1.number else out
theorem L_rm_eq {b c : RBk} (e f : Int) (hb : KOk 500 b) (hc : KOk 500 c) (hle : b.bills.length ≤ c.bills.length) : ∀ (d i : Nat) (out : List Int), i + d = b.bills.length → out.length ≤ i →
    L_rm ((out.length, (i : Int)), (), (b, e), (c, f), out, ()) = some ((((b.bills.zip c.bills).drop i).foldl mvStep out).length, (), ((b.bills.zip c.bills).drop i).foldl mvStep out, ()) := by
  have hbl := hb.bills
  have hz : (b.bills.zip c.bills).length = b.bills.length := by rw [List.length_zip]; omega
  intro d
  induction d with
  | zero =>
    intro i out h ho
    refine lim_done ?_
    rw [sl_rm]
    simp only [cS (show b.bills.length ≤ 1000000 by omega), decF_encF]
    refine br_f (decide_eq_false (by omega)) ?_
    rw [List.drop_of_length_le (by omega)]; rfl
  | succ d ih =>
    intro i out h ho
    have hi : i < b.bills.length := by omega
    have hj : i < c.bills.length := by omega
    have hx := List.getElem?_eq_getElem hi
    have hy := List.getElem?_eq_getElem hj
    obtain ⟨x1, x2, _⟩ := hb.l _ (List.getElem_mem hi)
    obtain ⟨y1, y2, _⟩ := hc.l _ (List.getElem_mem hj)
    have hd := List.drop_eq_getElem_cons (l := b.bills.zip c.bills) (i := i) (by omega)
    rw [List.getElem_zip] at hd
    rw [hd, List.foldl_cons]
    generalize b.bills[i] = x at hx x1 x2
    generalize c.bills[i] = y at hy y1 y2
    have w : IntKind.i64.wrap ((i : Int) + 1) = ((i + 1 : Nat) : Int) := by rw [w64_in (by omega) (by omega)]; rfl
    have hlen : (mvStep out (x, y)).length ≤ out.length + 1 := by
      unfold mvStep; split
      · exact Nat.le_of_eq (addL_len ..)
      · omega
    refine (lim_step ?_).trans (ih (i + 1) (mvStep out (x, y)) (by omega) (by omega))
    rw [sl_rm]
    have v1 : IntKind.i64.wrap ((x.l.length : Int) - 1) = ((x.l.length - 1 : Nat) : Int) := by rw [w64_in (by omega) (by omega)]; omega
    have v2 : IntKind.i64.wrap ((y.l.length : Int) - 1) = ((y.l.length - 1 : Nat) : Int) := by rw [w64_in (by omega) (by omega)]; omega
    simp only [cS (show b.bills.length ≤ 1000000 by omega), Int.toNat_natCast, Nat.zero_add, encN_at hx, encN_at hy, sl3, nb0, sl_len, sl_row, sl_f, cS (show x.l.length ≤ 1000000 by omega), cS (show y.l.length ≤ 1000000 by omega), v1, v2, last_amt x.l x1, last_amt y.l y1, decF_encF, decN_encN, w]
    refine br_t (decide_eq_true (by omega)) (chk_step (decide_eq_true (by omega)) (chk_step (decide_eq_true (by omega)) (chk_step (decide_eq_true (by omega)) (chk_step (decide_eq_true (by omega)) ?_))))
    unfold mvStep
    cases hp : mvP (x, y) with
    | true =>
      rw [if_pos rfl]
      exact br_t hp (chk_step (decide_eq_true (by omega)) rfl)
    | false =>
      rw [if_neg Bool.false_ne_true]
      exact br_f hp rfl
theorem mv_fold : ∀ (Z : List (RB × RB)) (out : List Int), out.Pairwise (· ≤ ·) → (Z.foldl mvStep out).Pairwise (· ≤ ·) ∧ (Z.foldl mvStep out).Perm (out ++ (Z.filter mvP).map (·.1.number))
  | [], out, h => ⟨h, by simp⟩
  | z :: Z, out, h => by
    rw [List.foldl_cons]
    unfold mvStep
    cases hp : mvP z with
    | true =>
      rw [if_pos rfl, List.filter_cons_of_pos hp, List.map_cons]
      obtain ⟨a1, a2⟩ := addL_spec (n := z.1.number) h
      obtain ⟨b1, b2⟩ := mv_fold Z _ a1
      refine ⟨b1, b2.trans ((a2.append_right _).trans ?_)⟩
      rw [List.append_assoc]; exact List.Perm.refl _
    | false =>
      rw [if_neg Bool.false_ne_true, List.filter_cons_of_neg (by rw [hp]; exact Bool.false_ne_true)]
      exact mv_fold Z out h
def nos (k : Bk) : List Int := k.bills.map (·.1.no)
theorem nos_do (k : Bk) (x : Itm) : nos (doItem k x) = nos k ∨ (nos (doItem k x) = nos k ++ [x.bill] ∧ x.bill ∉ nos k) := by
  unfold K.doItem
  split
  · unfold doBill; split
    · exact .inl rfl
    · rename_i hf
      split
      · exact .inl rfl
      · refine .inr ⟨by unfold nos; rw [List.map_append]; rfl, fun hm => ?_⟩
        unfold fb at hf
        rw [List.findIdx?_eq_none_iff] at hf
        obtain ⟨s, hs, e⟩ := List.mem_map.1 hm
        have := hf s hs
        rw [← e] at this; simp at this
  split
  · unfold doMend; split
    · exact .inl rfl
    · rename_i q hq
      split
      · exact .inl rfl
      · have hql := fb_some hq
        have hg : k.bills.getD q default = k.bills[q] := by rw [List.getD_eq_getElem?_getD, List.getElem?_eq_getElem hql]; rfl
        refine .inl ?_
        unfold nos
        show (k.bills.set q _).map _ = _
        rw [List.map_set]
        refine set_same ?_
        rw [List.getElem?_map, List.getElem?_eq_getElem hql, hg]; rfl
  split
  · unfold doPay; split <;> exact .inl rfl
  split
  · unfold doRefund; split
    · exact .inl rfl
    · split <;> exact .inl rfl
  split
  · unfold doBond; split <;> exact .inl rfl
  split
  · unfold doFree; split
    · exact .inl rfl
    · split <;> exact .inl rfl
  · unfold doShut; split <;> exact .inl rfl
theorem nos_fold : ∀ (l : List Itm) (k : Bk), (nos k).Nodup → (nos (l.foldl doItem k)).Nodup ∧ ∃ t, nos (l.foldl doItem k) = nos k ++ t
  | [], k, h => ⟨h, [], by simp⟩
  | x :: l, k, h => by
    rw [List.foldl_cons]
    rcases nos_do k x with e | ⟨e, hn⟩
    · obtain ⟨h1, t, h2⟩ := nos_fold l (doItem k x) (e ▸ h)
      exact ⟨h1, t, e ▸ h2⟩
    · have hnd : (nos (doItem k x)).Nodup := by
        rw [e, List.nodup_append]
        exact ⟨h, by simp, fun a ha b hb => by rw [List.mem_singleton] at hb; subst hb; exact fun e => hn (e ▸ ha)⟩
      obtain ⟨h1, t, h2⟩ := nos_fold l (doItem k x) hnd
      exact ⟨h1, [x.bill] ++ t, by rw [h2, e, List.append_assoc]⟩
theorem nos_read (l : List Itm) {a b : Int} (h : a ≤ b) : (nos (readB l b)).Nodup ∧ ∃ t, nos (readB l b) = nos (readB l a) ++ t := by
  obtain ⟨t, ht⟩ := known_pre h (srt l)
  have h0 := nos_fold (knownOn a (srt l)) bk0 List.nodup_nil
  have h1 := nos_fold t (foldB (knownOn a (srt l))) h0.1
  rw [← fold_app, ← ht] at h1
  exact h1
theorem fbL_at {now : Bls} (hn : (now.map (·.1.no)).Nodup) {i : Nat} {s : Std × List Chg} (h : now[i]? = some s) : amtL now s.1.no = s.1.amount := by
  obtain ⟨hi, e⟩ := List.getElem?_eq_some_iff.1 h
  have hf : fbL now s.1.no = some i := by
    unfold fbL
    rw [List.findIdx?_eq_some_iff_getElem]
    refine ⟨hi, by rw [e]; simp, fun j hj hb => ?_⟩
    rw [beq_iff_eq] at hb
    have := (List.getElem_inj (h₀ := show j < (now.map (·.1.no)).length by rw [List.length_map]; omega) (h₁ := show i < (now.map (·.1.no)).length by rw [List.length_map]; omega) hn).1 (by rw [List.getElem_map, List.getElem_map, e]; exact hb.symm)
    omega
  unfold amtL
  rw [hf]
  show (now.getD i default).1.amount = _
  rw [List.getD_eq_getElem?_getD, h]; rfl
theorem moved_zip {now m : Bls} (hn : (now.map (·.1.no)).Nodup) {t : List Int} (hp : now.map (·.1.no) = m.map (·.1.no) ++ t) (h1 : ∀ s ∈ now, lastA s.2 = s.1.amount) (h2 : ∀ s ∈ m, lastA s.2 = s.1.amount) :
    (((m.map rbOf).zip (now.map rbOf)).filter mvP).map (·.1.number) = (m.filter (mvd now)).map (·.1.no) := by
  have hlen : m.length ≤ now.length := by
    have := congrArg List.length hp
    simp only [List.length_map, List.length_append] at this; omega
  have e1 : m = (m.zip now).map Prod.fst := (List.map_fst_zip (by omega)).symm
  have e2 : (m.map rbOf).zip (now.map rbOf) = (m.zip now).map (Prod.map rbOf rbOf) := (List.zip_map ..)
  rw [e2, List.filter_map, List.map_map]
  conv => rhs; rw [e1, List.filter_map, List.map_map]
  have e3 : (m.zip now).filter (mvP ∘ Prod.map rbOf rbOf) = (m.zip now).filter (mvd now ∘ Prod.fst) := by
    apply List.filter_congr
    intro q hq
    obtain ⟨i, hi, e⟩ := List.getElem_of_mem hq
    rw [List.length_zip] at hi
    rw [List.getElem_zip] at e
    subst e
    have ha : m[i]? = some m[i] := List.getElem?_eq_getElem (by omega)
    have hb : now[i]? = some now[i] := List.getElem?_eq_getElem (by omega)
    have hno : (m[i]).1.no = (now[i]).1.no := by
      have := congrArg (·[i]?) hp
      simp only [List.getElem?_map] at this
      rw [List.getElem?_append_left (by rw [List.length_map]; omega), List.getElem?_map, ha, hb] at this
      simp only [Option.map_some, Option.some.injEq] at this
      exact this.symm
    show (lastA (m[i]).2 != lastA (now[i]).2) = (amtL now (m[i]).1.no != (m[i]).1.amount)
    rw [hno, fbL_at hn hb, h1 _ (List.getElem_mem _), h2 _ (List.getElem_mem _)]
    exact bne_comm
  rw [e3]
  exact List.map_congr_left fun q _ => rfl
theorem rmov_eq (a : List Itm × Int × Int) : callT1 P BLAb3 30 49 D_l3 (dAgg (.cons (dRows rInt) (.last dInt 0))) a = some (movedV a.1 a.2.1 a.2.2) := by
  obtain ⟨l, fr, to⟩ := a
  rw [fn_rmov]; unfold movedV
  simp only [Nat.zero_add, decF_encF, decN_encN]
  have hask : askedV l [fr, to] = if askedV l [fr] = 0 then askedV l [to] else askedV l [fr] := by
    rw [ask_cons]
    unfold askedV
    by_cases hc : checkV l = 0
    · simp only [hc, ne_eq, not_true, if_false, List.mem_singleton, forall_eq]
      by_cases h1 : dayOk fr <;> by_cases h2 : dayOk to <;> simp [h1, h2]
    · simp [hc]
  rw [hask]
  by_cases h : askedV l [fr] = 0
  · have hc := (ask_check h).1
    rw [keep_ok h, if_pos h]
    refine br_f rfl ?_
    by_cases h2 : askedV l [to] = 0
    · rw [keep_ok h2, h2]
      refine br_f rfl ?_
      rw [if_neg (fun h => h rfl)]
      by_cases hlt : fr > to
      · rw [if_pos hlt]; exact br_t (decide_eq_true hlt) rfl
      · rw [if_neg hlt]
        refine br_f (decide_eq_false hlt) ?_
        obtain ⟨hn, t, hp⟩ := nos_read l (show fr ≤ to by omega)
        have hz := moved_zip hn hp (kr_last hc to) (kr_last hc fr)
        have hlen : (readB l fr).bills.length ≤ (readB l to).bills.length := by
          have := congrArg List.length hp
          unfold nos at this
          simp only [List.length_map, List.length_append] at this; omega
        rw [← kr_bills hc fr, ← kr_bills hc to] at hz
        have hle : (keepR l fr).bills.length ≤ (keepR l to).bills.length := by rw [kr_bills hc fr, kr_bills hc to, List.length_map, List.length_map]; exact hlen
        have k1 := kok_keep hc fr
        have k2 := kok_keep hc to
        unfold movedF
        rw [← hz]
        generalize keepR l fr = b at k1 hle
        generalize keepR l to = c at k2 hle
        have key := L_rm_eq 0 0 k1 k2 hle b.bills.length 0 [] (by omega) (by simp)
        refine obs_step key ?_
        obtain ⟨m1, m2⟩ := mv_fold (b.bills.zip c.bills) [] List.Pairwise.nil
        rw [List.nil_append] at m2
        rw [sortL_unique m2 m1]
        simp only [List.drop_zero]; rfl
    · rw [keep_bad h2, if_pos h2]
      exact br_t (ne_t h2) rfl
  · rw [keep_bad h, if_neg h, if_pos h]
    exact br_t (ne_t h) rfl
end K
noncomputable def BLAf1 : Tab := BLAe2.addCall 49 (callE D_l3 (dAgg (.cons (dRows rInt) (.last dInt 0))) (fun a => .ret (K.movedV a.1 a.2.1 a.2.2)))
theorem tLAf1 : TabOk P BLAf1 := TabOk.addPC tLAe2 (fun a r h => by rw [← ret_some h]; exact call_of okP tLAb3 (K.rmov_eq a))
end Go.Proofs.YtelpdkojdfnmiaaGreat
/-! LAg -/
namespace Go.Proofs.YtelpdkojdfnmiaaGreat
open Ev K
set_option maxRecDepth 100000
namespace K
def dayP (acc d : Int) (p : Pst) : Bool := decide (p.day = d ∧ p.account = acc)
theorem L_sd2_eq {b : RBk} (e acc dd bf af : Int) (sp : Span) (hl : b.p.length ≤ 1000) : ∀ (d i : Nat) (out : List Pst), i + d = b.p.length → out.length + d ≤ 1000000 →
    L_sd2 ((acc, dd, (i : Int)), sp, (), (b, e), (bf, af, out.length), out, ()) = some ((acc, dd), sp, (), (b, e), (bf, af, (out ++ (b.p.drop i).filter (dayP acc dd)).length), out ++ (b.p.drop i).filter (dayP acc dd), ()) := by
  intro d
  induction d with
  | zero =>
    intro i out h ho
    refine lim_done ?_
    rw [sl_sd2]
    simp only [cS (show b.p.length ≤ 1000000 by omega), Nat.zero_add, decF_encF, decN_encN]
    refine br_f (decide_eq_false (by omega)) ?_
    rw [List.drop_of_length_le (by omega)]; simp; rfl
  | succ d ih =>
    intro i out h ho
    have hi : i < b.p.length := by omega
    have hx := List.getElem?_eq_getElem hi
    rw [List.drop_eq_getElem_cons hi]
    generalize b.p[i] = x at hx
    have w : IntKind.i64.wrap ((i : Int) + 1) = ((i + 1 : Nat) : Int) := by rw [w64_in (by omega) (by omega)]; rfl
    have hid : (⟨x.item, x.day, x.account, x.amount⟩ : Pst) = x := rfl
    by_cases hp : x.day = dd ∧ x.account = acc
    · rw [List.filter_cons_of_pos (by simpa [dayP] using hp)]
      have e2 : ∀ t : List Pst, out ++ x :: t = (out ++ [x]) ++ t := fun t => by simp
      rw [e2]
      refine (lim_step ?_).trans (ih (i + 1) (out ++ [x]) (by omega) (by rw [List.length_append]; simp only [List.length_singleton]; omega))
      rw [sl_sd2]
      simp only [cS (show b.p.length ≤ 1000000 by omega), Int.toNat_natCast, Nat.zero_add, post_at hx, pw0, pw1, pw2, pw3, decF_encF, decN_encN, w, pushP, hid]
      refine br_t (decide_eq_true (by omega)) (chk_step (decide_eq_true (by omega)) (br_t (beq_iff_eq.2 hp.1) (chk_step (decide_eq_true (by omega)) (br_t (beq_iff_eq.2 hp.2) (chk_step (decide_eq_true (by omega)) (chk_step (decide_eq_true (by omega)) ?_))))))
      rw [List.length_append]; rfl
    · rw [List.filter_cons_of_neg (by simpa [dayP] using hp)]
      refine (lim_step ?_).trans (ih (i + 1) out (by omega) (by omega))
      rw [sl_sd2]
      simp only [cS (show b.p.length ≤ 1000000 by omega), Int.toNat_natCast, Nat.zero_add, post_at hx, pw1, pw2, decF_encF, decN_encN, w]
      refine br_t (decide_eq_true (by omega)) (chk_step (decide_eq_true (by omega)) ?_)
      by_cases h1 : x.day = dd
      · exact br_t (beq_iff_eq.2 h1) (chk_step (decide_eq_true (by omega)) (br_f (by rw [beq_eq_false_iff_ne]; exact fun h2 => hp ⟨h1, h2⟩) rfl))
      · exact br_f (by rw [beq_eq_false_iff_ne]; exact h1) rfl
def dayL (ps : List Pst) (acc : Int) : Int → Nat → List Pst
  | _, 0 => []
  | d, n + 1 => ps.filter (dayP acc d) ++ dayL ps acc (d + 1) n
theorem L_sd1_eq {b : RBk} (e acc bf af : Int) (sp : Span) (hl : b.p.length ≤ 1000) (hsp : sp.hi ≤ 728) : ∀ (n : Nat) (dd : Int) (out : List Pst), 0 ≤ dd → dd + n = sp.hi + 1 → (out.length : Int) ≤ 1000 * dd →
    L_sd1 ((acc, dd), sp, (), (b, e), (bf, af, out.length), out, ()) = some ((), (), (bf, af, (out ++ dayL b.p acc dd n).length), out ++ dayL b.p acc dd n, ()) := by
  intro n
  induction n with
  | zero =>
    intro dd out h0 h ho
    refine lim_done ?_
    rw [sl_sd1]
    simp only [decF_encF]
    refine br_f (decide_eq_false (by omega)) ?_
    simp only [dayL, List.append_nil]; rfl
  | succ n ih =>
    intro dd out h0 h ho
    have w : IntKind.i64.wrap (dd + 1) = dd + 1 := w64_in (by omega) (by omega)
    have hf := List.length_filter_le (dayP acc dd) b.p
    have key := L_sd2_eq (b := b) e acc dd bf af sp hl b.p.length 0 out (by omega) (by omega)
    rw [List.drop_zero] at key
    simp only [dayL]
    rw [← List.append_assoc]
    refine (lim_step ?_).trans (ih (dd + 1) (out ++ b.p.filter (dayP acc dd)) (by omega) (by omega) (by rw [List.length_append]; omega))
    rw [sl_sd1]
    simp only [Nat.zero_add, decF_encF, decN_encN]
    refine br_t (decide_eq_true (by omega)) ?_
    refine obs_step key ?_
    simp only [w]; rfl
theorem dayL_mem (ps : List Pst) (acc : Int) : ∀ (n : Nat) (d : Int), ∀ p ∈ dayL ps acc d n, d ≤ p.day
  | 0, _, p, h => by cases h
  | n + 1, d, p, h => by
    rcases List.mem_append.1 h with h | h
    · have := (List.mem_filter.1 h).2
      unfold dayP at this
      have := (of_decide_eq_true this).1; omega
    · have := dayL_mem ps acc n (d + 1) p h; omega
theorem dayL_sd (ps : List Pst) (acc : Int) : ∀ (n : Nat) (d : Int), Sd (dayL ps acc d n)
  | 0, _ => List.Pairwise.nil
  | n + 1, d => by
    refine sd_app.2 ⟨?_, dayL_sd ps acc n (d + 1), fun x hx y hy => ?_⟩
    · refine List.Pairwise.imp_of_mem (R := fun _ _ => True) (fun {x y} hx hy _ => ?_) (List.pairwise_of_forall fun _ _ => trivial)
      have h1 := (List.mem_filter.1 hx).2
      have h2 := (List.mem_filter.1 hy).2
      unfold dayP at h1 h2
      have := (of_decide_eq_true h1).1; have := (of_decide_eq_true h2).1; omega
    · have h1 := (List.mem_filter.1 hx).2
      unfold dayP at h1
      have := (of_decide_eq_true h1).1
      have := dayL_mem ps acc n (d + 1) y hy; omega
theorem dayL_day (ps : List Pst) (acc c : Int) : ∀ (n : Nat) (d : Int), (dayL ps acc d n).filter (fun x => x.day == c) = if d ≤ c ∧ c < d + n then ps.filter (dayP acc c) else []
  | 0, d => by rw [if_neg (by omega)]; rfl
  | n + 1, d => by
    simp only [dayL]
    rw [List.filter_append, dayL_day ps acc c n (d + 1), List.filter_filter]
    by_cases h : c = d
    · subst h
      rw [if_neg (by omega), if_pos (by omega), List.append_nil]
      apply List.filter_congr
      intro x _
      unfold dayP
      by_cases h1 : x.day = c <;> simp [h1]
    · have e : (ps.filter fun a => (a.day == c) && dayP acc d a) = [] := by
        rw [List.filter_eq_nil_iff]
        intro x _
        unfold dayP
        simp only [Bool.and_eq_true, beq_iff_eq, decide_eq_true_eq]; omega
      rw [e, List.nil_append]
      by_cases h2 : d + 1 ≤ c ∧ c < d + 1 + n
      · rw [if_pos h2, if_pos (by omega)]
      · rw [if_neg h2, if_neg (by omega)]
theorem dayL_lines (ps : List Pst) (acc : Int) (sp : Span) (n : Nat) (h : sp.lo + n = sp.hi + 1) : dayL ps acc sp.lo n = stB (ps.filter (onLine acc sp)) := by
  refine stB_of (fun c => ?_) (dayL_sd ps acc n sp.lo)
  rw [dayL_day, List.filter_filter]
  by_cases h2 : sp.lo ≤ c ∧ c < sp.lo + n
  · rw [if_pos h2]
    apply List.filter_congr
    intro x _
    unfold dayP onLine
    by_cases h1 : x.day = c
    · subst h1
      by_cases h3 : x.account = acc
      · simp [h3]; omega
      · simp [h3]
    · simp [h1]
  · rw [if_neg h2, List.filter_eq_nil_iff]
    intro x _
    unfold onLine
    simp only [Bool.and_eq_true, beq_iff_eq, decide_eq_true_eq]; omega
def flatS (v : Stm × Int) : Int × Int × List Pst × Int := (v.1.before, v.1.after, v.1.lines, v.2)
theorem rstate_eq (a : List Itm × Int × Span × Int) : callT1 P BLAc2 30 42 D_state (dAgg (.cons dInt (.cons dInt (.cons (dRows rPost) (.last dInt 0))))) a = some (flatS (stateV a.1 a.2.1 a.2.2.1 a.2.2.2)) := by
  obtain ⟨l, acc, sp, known⟩ := a
  rw [fn_rstate]; unfold stateV stateE
  simp only [Nat.zero_add, decF_encF, decN_encN]
  by_cases h : askedV l [known] = 0
  · have hc := (ask_check h).1
    rw [keep_ok h, h]
    refine br_f rfl ?_
    by_cases ha : acOk acc
    · refine br_f (not_f (r_account_iff acc) ha) ?_
      have e0 : orV (orV 0 (accountE acc)) (if spanOk sp then 0 else 1) = if spanOk sp then 0 else 1 := by
        unfold accountE; rw [if_pos ha]; rfl
      rw [e0]
      by_cases hs : spanOk sp
      · have hq : (if spanOk sp then (0 : Int) else 1) = 0 := if_pos hs
        obtain ⟨s1, s2, s3⟩ := hs
        unfold dayOk at s1 s2
        rw [hq, if_pos rfl]
        have hp := ps_keep hc known
        obtain ⟨g1, g2⟩ := of_decide_eq_true hp
        refine br_f (decide_eq_false (by show ¬ sp.lo < 0; omega)) (br_f (decide_eq_false (by show ¬ sp.lo > sp.hi; omega)) (br_f (decide_eq_false (by show ¬ sp.hi > 728; omega)) (chk_step hp (chk_step hp ?_))))
        have hps := kr_p hc known
        unfold stm
        rw [← hps]
        generalize keepR l known = b at g1 g2
        obtain ⟨n, hn⟩ : ∃ n : Nat, sp.lo + n = sp.hi + 1 := ⟨(sp.hi + 1 - sp.lo).toNat, by omega⟩
        have w : IntKind.i64.wrap (sp.lo - 1) = sp.lo - 1 := w64_in (by omega) (by omega)
        have key := L_sd1_eq (b := b) 0 acc (sumA b.p acc (sp.lo - 1)) (sumA b.p acc sp.hi) sp g1 (by omega) n sp.lo [] (by omega) hn (by simp; omega)
        rw [w]
        refine obs_step key ?_
        simp only [List.nil_append]
        rw [dayL_lines b.p acc sp n hn, look_sum, look_sum]; rfl
      · have hq : (if spanOk sp then (0 : Int) else 1) = 1 := if_neg hs
        rw [hq, if_neg (show ¬ (1 : Int) = 0 by decide)]
        by_cases c1 : sp.lo < 0
        · exact br_t (decide_eq_true c1) rfl
        refine br_f (decide_eq_false c1) ?_
        by_cases c2 : sp.lo > sp.hi
        · exact br_t (decide_eq_true c2) rfl
        refine br_f (decide_eq_false c2) (br_t (decide_eq_true ?_) rfl)
        unfold spanOk dayOk at hs
        show sp.hi > 728
        omega
    · have e0 : orV (orV 0 (accountE acc)) (if spanOk sp then 0 else 1) = 1 := by
        unfold accountE; rw [if_neg ha]; rfl
      rw [e0, if_neg (show ¬ (1 : Int) = 0 by decide)]
      exact br_t (not_t (r_account_iff acc) ha) rfl
  · have e0 : orV (orV (askedV l [known]) (accountE acc)) (if spanOk sp then 0 else 1) = askedV l [known] := by
      unfold orV; rw [if_pos h, if_pos h]
    rw [keep_bad h, e0, if_neg h]
    exact br_t (ne_t h) rfl
end K
noncomputable def BLAg1 : Tab := BLAf1.addCall 42 (callE D_state (dAgg (.cons dInt (.cons dInt (.cons (dRows rPost) (.last dInt 0))))) (fun a => .ret (K.flatS (K.stateV a.1 a.2.1 a.2.2.1 a.2.2.2))))
theorem tLAg1 : TabOk P BLAg1 := TabOk.addPC tLAf1 (fun a r h => by rw [← ret_some h]; exact call_of okP tLAc2 (K.rstate_eq a))
end Go.Proofs.YtelpdkojdfnmiaaGreat
/-! LLc -/
namespace Go.Proofs.YtelpdkojdfnmiaaGreat
open Ev K
set_option maxRecDepth 100000
theorem fn_lwBi : ∀ a, (callT1 P BLAg1 30 13 D_l4 dB) a = T.run (
 let q1 := decF rItem (List.length a.1) fun i => encF rItem a.1 ((0 : Nat) + i);
 let q4 := movedV q1 a.2.2.1 a.2.2.2;
 let q9 := q4.1;
 let q2 := decF rInt (List.length q9) fun i => encF rInt q9 ((0 : Nat) + i);
 let q8 := historyV q1 a.2.1;
 let q5 := q8.1;
 let q3 := decF rChg (List.length q5) fun i => encF rChg q5 ((0 : Nat) + i);
 let q6 := amountV q1 a.2.1 a.2.2.2;
 let q7 := (1000000 : Nat);
  .br (!l_few q1) (
    .ret (true)) (
    .br (q6.1 == q6.1) (
      .br (q6.2 == q6.2) (
        .chk (decide (List.length q3 ≤ q7 ∧ List.length q3 ≤ q7)) <|
        .br (decide (q3 = decF rChg (List.length q5) fun i => encF rChg q5 ((0 : Nat) + i))) (
          .br (q8.2 == q8.2) (
            .chk (decide (List.length q2 ≤ q7 ∧ List.length q2 ≤ q7)) <|
            .br (decide (q2 = decF rInt (List.length q9) fun i => encF rInt q9 ((0 : Nat) + i))) (
              .ret (q4.2 == q4.2)) (
              .ret (false))) (
            .ret (false))) (
          .ret (false))) (
        .ret (false))) (
      .ret (false)))) := fun a => by kernel_rfl
end Go.Proofs.YtelpdkojdfnmiaaGreat
/-! LLd -/
namespace Go.Proofs.YtelpdkojdfnmiaaGreat
open Ev K
set_option maxRecDepth 100000
namespace K
theorem hist_len (l : List Itm) (n : Int) : (historyV l n).1.length ≤ 1000 := by
  unfold historyV
  by_cases h : checkV l = 0
  · rw [if_pos h]
    by_cases hb : billOk n
    · rw [if_pos hb]
      cases hf : fb (readB l 728) n with
      | none => exact Nat.zero_le _
      | some q =>
        have hq := fb_some hf
        have hs := List.getElem?_eq_getElem hq
        have hg : (readB l 728).bills.getD q default = (readB l 728).bills[q] := by rw [List.getD_eq_getElem?_getD, hs]; rfl
        have hm : rbOf (readB l 728).bills[q] ∈ (keepR l 728).bills := by rw [kr_bills h]; exact List.mem_map_of_mem (List.getElem_mem hq)
        obtain ⟨_, h2, _⟩ := (kok_keep h 728).l _ hm
        show ((readB l 728).bills.getD q default).2.length ≤ 1000
        rw [hg]
        exact Nat.le_trans h2 (by decide)
    · rw [if_neg hb]; exact Nat.zero_le _
  · rw [if_neg h]; exact Nat.zero_le _
theorem moved_len (l : List Itm) (a b : Int) : (movedV l a b).1.length ≤ 1000 := by
  unfold movedV
  by_cases h : askedV l [a, b] ≠ 0
  · rw [if_pos h]; exact Nat.zero_le _
  · rw [if_neg h]
    by_cases h2 : a > b
    · rw [if_pos h2]; exact Nat.zero_le _
    · rw [if_neg h2]
      have hc : checkV l = 0 := (ask_check (Classical.not_not.1 h)).1
      have hk := (kok_keep hc a).bills
      rw [kr_bills hc, List.length_map] at hk
      show (sortL _).length ≤ 1000
      rw [sortL_length, List.length_map]
      have := List.length_filter_le (mvd (readB l b).bills) (readB l a).bills
      omega
theorem lwBi_eq (a : List Itm × Int × Int × Int) : callT1 P BLAg1 30 13 D_l4 dB a = some true := by
  obtain ⟨l, n, fr, to⟩ := a
  rw [fn_lwBi]
  simp only [Nat.zero_add, decF_encF]
  have h1 := hist_len l n
  have h2 := moved_len l fr to
  by_cases hfew : l_few l = true
  · refine br_f (by rw [hfew]; rfl) (br_t (beq_self_eq_true _) (br_t (beq_self_eq_true _) (chk_step (decide_eq_true (by omega)) (br_t (by simp) (br_t (beq_self_eq_true _) (chk_step (decide_eq_true (by omega)) (br_t (by simp) ?_)))))))
    show some _ = some true
    rw [beq_self_eq_true]
  · exact br_t (by rw [Bool.not_eq_true] at hfew; rw [hfew]; rfl) rfl
end K
end Go.Proofs.YtelpdkojdfnmiaaGreat
/-! LZ9 -/
namespace Go.Proofs.YtelpdkojdfnmiaaGreat
open Ev K
open Go.ChangeShapes Go.WideShapes Go.RowKit
set_option maxRecDepth 100000
theorem law_pc (a) : PC P 13 (D_l4.enc a) (.bool true) := by
  have h := lwBi_eq a
  exact call_of okP tLAg1 h
theorem ownP : ownKnob P.godebug = none := by kernel_rfl
theorem laidP : laidOutB P = true := by kernel_rfl
theorem ub : P.underlying 4 = some .bool := by kernel_rfl
theorem ledgerBills_lifted (os : Os) (started : os.Started) (H : Type) (enc : TypeId × Value → H) :
    ReturnsInHanded {} Tryz.checked os 13 .any (Rows.ledgerBillsSpec.pre6 enc Tryz.prog Tryz.f13 Rows.ledgerBillsRow.domain false) (Rows.ledgerBillsSpec.post enc Tryz.prog Tryz.f13 false true false false) := by
  refine returnsInHanded_of_change (C := Tryz.checked) ownP started (by kernel_rfl) Tryz.func13
    (ChangeSpec.witness6 (enc := enc) (C := Tryz.checked) false ⟨#[], #[.slice none 0 0, .int .i64 0, .int .i64 0, .int .i64 0], []⟩ 8 (by kernel_rfl) (by kernel_rfl) (by kernel_rfl) (by kernel_rfl)) ?_
  intro W base args ds gs before hval hW _ _
  refine law_contract (P := Tryz.prog) D_l4 laidP (by kernel_rfl) rfl (fun ds hd => ?_) (fun W' b sp hd => trodAll_mk1 (shut_bool ub true)) (fun W' => ok_one (by kernel_rfl) rfl (okWide_bool_mk ub true)) (fun W base args ds p hval hA => ?_) law_pc W base args ds gs before hval hW
  · rw [Tryz.params13] at hd
    match ds, hd with
    | [a, b, c, d], _ => rfl
  · rw [Tryz.params13] at hA hval
    obtain ⟨v0, vs0, d0, ds0, p0, q0, e0, _, _, h0, r0⟩ := trodAll_cons hA
    obtain ⟨v1, vs1, d1, ds1, p1, q1, e1, _, _, h1, r1⟩ := trodAll_cons r0
    obtain ⟨v2, vs2, d2, ds2, p2, q2, e2, _, _, h2, r2⟩ := trodAll_cons r1
    obtain ⟨v3, vs3, d3, ds3, p3, q3, e3, _, _, h3, r3⟩ := trodAll_cons r2
    obtain ⟨e4, _, _⟩ := trodAll_nil r3
    subst e4; subst e3; subst e2; subst e1
    have ha : args = #[v0, v1, v2, v3] := by apply Array.ext'; exact e0
    subst ha
    exact rdL_cons (rp_items (hval 0 _ v0 rfl rfl) h0) (rdL_cons (rp_int (hval 1 _ v1 rfl rfl) h1) (rdL_cons (rp_int (hval 2 _ v2 rfl rfl) h2) (rdL_last (rp_int (hval 3 _ v3 rfl rfl) h3))))
theorem ledgerBills_holds : Rows.LedgerBillsSaid :=
  OpenClaim.holds_of_wide 13 Tryz.f13 rfl rfl rfl rfl rfl rfl rfl ⟨rfl, rfl, rfl, rfl, rfl⟩ rfl rfl rfl rfl rfl (by kernel_rfl) Tryz.func13 (by kernel_rfl)
    (of_decide_eq_true (by kernel_rfl)) (by unfold Func.isWrapper; rw [if_neg (of_decide_eq_false (by kernel_rfl))]; exact ⟨rfl, rfl⟩)
    (fun os started H enc _ => ledgerBills_lifted os started H enc)
#print axioms ledgerBills_holds
end Go.Proofs.YtelpdkojdfnmiaaGreat
