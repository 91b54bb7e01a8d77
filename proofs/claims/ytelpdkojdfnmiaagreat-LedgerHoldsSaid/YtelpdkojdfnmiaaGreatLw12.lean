/- LedgerHolds: for every input the law returns true, and the input reads as it did. No conditions. -/
import Derived.Test.YtelpdkojdfnmiaaGreatLw11
import Derived.Test.YtelpdkojdfnmiaaGreatRows
/-! LA4 -/
namespace Go.Proofs.YtelpdkojdfnmiaaGreat
open Ev K
set_option maxRecDepth 100000
namespace K
def kpO (l : List Itm) (b : RBk) : KpObj := ((), (b.closed, b.p.length, b.refused.length, b.bills.length, b.paid.length, b.bonds.length, b.stands.length), b.p, b.refused, b.bills, b.paid, b.bonds, b.stands, l, ())
theorem pushD (l : List Pst) (a b c d a' b' c' d' : Int) : decF rPost (l.length + 2) (appG l.length (encF rPost l) fun i k => ([(.int .i64 a : AV), .int .i64 b, .int .i64 c, .int .i64 d, .int .i64 a', .int .i64 b', .int .i64 c', .int .i64 d'][i * 4 + k]?).getD .top) = l ++ [⟨a, b, c, d⟩, ⟨a', b', c', d'⟩] := decF_app rPost l 2 _
theorem decN_app {ρ : Type} (R : RowN ρ) (l : List ρ) (m : Nat) (g : Nat → Nat → AV) : decN R (l.length + m) (appG l.length (encN R l) g) = l ++ decN R m g := by
  apply List.ext_getElem?
  intro i
  simp only [decN, List.getElem?_map]
  by_cases h : i < l.length
  · have e : appG l.length (encN R l) g i = encN R l i := by
      funext k; unfold appG; rw [show Nat.ble l.length i = false by rw [← Bool.not_eq_true, Nat.ble_eq]; omega]
    rw [List.getElem?_append_left h, List.getElem?_range (by omega), List.getElem?_eq_getElem h, Option.map_some, e, encN_at (List.getElem?_eq_getElem h), R.good]
  · have e : appG l.length (encN R l) g i = g (i - l.length) := by
      funext k; unfold appG; rw [show Nat.ble l.length i = true by rw [Nat.ble_eq]; omega]
    rw [List.getElem?_append_right (by omega), List.getElem?_map]
    by_cases h2 : i < l.length + m
    · rw [List.getElem?_range h2, List.getElem?_range (by omega), Option.map_some, Option.map_some, e]
    · rw [List.getElem?_eq_none (by simp; omega), List.getElem?_eq_none (by simp; omega)]; rfl
theorem pushR (l : List RB) (a b c u v : Int) : decN nBill (l.length + 1) (appG l.length (encN nBill l) fun i k => ([(.int .i64 a : AV), .int .i64 b, .int .i64 c, .xsl 2 1 ⟨[CK.int IntKind.i64, CK.int IntKind.i64], fun i k => ([(.int .i64 u : AV), .int .i64 v][i * 2 + k]?).getD .top⟩ 0 1 (some 1)][i * 4 + k]?).getD .top) = l ++ [⟨a, b, c, [⟨u, v⟩]⟩] := decN_app nBill l 1 _
theorem sl3 (x : RB) : nBill.wr x 3 = slOf rChg x.l := rfl
theorem setN {ρ : Type} (R : RowN ρ) (l : List ρ) (q : Nat) (y : ρ) (hq : q < l.length) (xs : List AV) (hx : R.rd (fun k => (xs[k]?).getD .top) = y) (hw : R.wd = xs.length) (hr : ∀ f g : Nat → AV, (∀ k, k < R.wd → f k = g k) → R.rd f = R.rd g) : decN R l.length (setR q 0 xs.length xs (appG 0 (fun _ _ => .top) (encN R l))) = l.set q y := by
  apply List.ext_getElem?
  intro i
  simp only [decN, List.getElem?_map, List.getElem?_set]
  by_cases h : i < l.length
  · rw [List.getElem?_range h, Option.map_some]
    by_cases e : q = i
    · subst e
      rw [if_pos rfl, if_pos hq, ← hx]
      congr 1
      apply hr
      intro k hk
      unfold setR
      have hb : (Nat.beq q q && (Nat.ble 0 k && Nat.blt k (0 + xs.length))) = true := by
        simp [Nat.blt_eq]; omega
      rw [hb]; simp
    · rw [if_neg e, List.getElem?_eq_getElem h]
      congr 1
      have e2 : setR q 0 xs.length xs (appG 0 (fun _ _ => .top) (encN R l)) i = encN R l i := by
        funext k; unfold setR
        have hb : (Nat.beq i q && (Nat.ble 0 k && Nat.blt k (0 + xs.length))) = false := by
          rw [show Nat.beq i q = false by rw [← Bool.not_eq_true, Nat.beq_eq]; exact fun h => e h.symm]; rfl
        rw [hb]; simp only
        unfold appG; rw [show Nat.ble 0 i = true by rw [Nat.ble_eq]; omega]; rfl
      rw [e2, encN_at (List.getElem?_eq_getElem h), R.good]
  · rw [List.getElem?_eq_none (by simp; omega)]
    by_cases e : q = i
    · subst e; exact absurd hq h
    · rw [if_neg e, List.getElem?_eq_none (by omega)]; rfl
theorem billI_ge (l : List RB) (n : Int) : decide (billI l n ≥ 0) = (billR l n).isSome := by
  unfold billI
  cases billR l n with
  | none => rfl
  | some q => simp only [Option.isSome_some, decide_eq_true_eq]; omega
theorem billI_lt (l : List RB) (n : Int) : decide (billI l n < 0) = !(billR l n).isSome := by
  unfold billI
  cases billR l n with
  | none => rfl
  | some q => simp only [Option.isSome_some, Bool.not_true, decide_eq_false_iff_not]; omega
set_option maxHeartbeats 0 in
theorem r_bad_eq {b : RBk} {x : Itm} (h1 : b.bills.length ≤ 1000) (h2 : b.paid.length ≤ 1000) (h3 : b.bonds.length ≤ 1000) (h4 : -1 ≤ b.closed) (h5 : b.closed ≤ 1000000) : r_bad (b, x) = some (badR b x) := by
  unfold r_bad
  have w1 : IntKind.i64.wrap (b.closed + 1) = b.closed + 1 := w64_in (by omega) (by omega)
  have g1 : decide (b.bills.length ≤ 1000) = true := decide_eq_true h1
  have g2 : decide (b.paid.length ≤ 1000) = true := decide_eq_true h2
  have g3 : decide (b.bonds.length ≤ 1000) = true := decide_eq_true h3
  simp only [Nat.zero_add, decF_encF, decN_encN, billI_ge, billI_lt, w1]
  unfold badR
  by_cases k7 : x.kind = 7
  · refine br_t (by rw [beq_iff_eq]; exact k7) ?_
    rw [if_pos k7]; rfl
  refine br_f (by rw [beq_eq_false_iff_ne]; exact k7) ?_
  rw [if_neg k7]
  refine chk_step g1 ?_
  by_cases c1 : b.closed + 1 > 728
  · refine br_t (decide_eq_true c1) ?_
    rw [decide_eq_true c1]; rfl
  refine br_f (decide_eq_false c1) ?_
  rw [decide_eq_false c1]
  by_cases k1 : x.kind = 1
  · refine br_t (by rw [beq_iff_eq]; exact k1) ?_
    cases hb : (billR b.bills x.bill).isSome <;> simp [k1, T.run]
  refine br_f (by rw [beq_eq_false_iff_ne]; exact k1) ?_
  by_cases k2 : x.kind = 2
  · refine br_t (by rw [beq_iff_eq]; exact k2) ?_
    cases hb : (billR b.bills x.bill).isSome <;> simp [k2, T.run]
  refine br_f (by rw [beq_eq_false_iff_ne]; exact k2) ?_
  by_cases k4 : x.kind = 4
  · refine br_t (by rw [beq_iff_eq]; exact k4) (chk_step g2 ?_)
    by_cases hb : heldB b.paid x.account < x.amount <;> simp [k4, hb, T.run]
  refine br_f (by rw [beq_eq_false_iff_ne]; exact k4) ?_
  by_cases k6 : x.kind = 6
  · refine br_t (by rw [beq_iff_eq]; exact k6) (chk_step g3 ?_)
    simp [k6, T.run]
  refine br_f (by rw [beq_eq_false_iff_ne]; exact k6) ?_
  simp [k1, k2, k4, k6, T.run]
theorem sl_len (l : List Chg) : slLen (slOf rChg l) = l.length := rfl
theorem sl_row (l : List Chg) : slRow (slOf rChg l) = 0 := rfl
theorem sl_f (l : List Chg) : slF (slOf rChg l) = encF rChg l := rfl
theorem last_amt (l : List Chg) (h : 1 ≤ l.length) : numOf (encF rChg l (l.length - 1) 1) = lastA l := by
  have hl : l[l.length - 1]? = some l[l.length - 1] := List.getElem?_eq_getElem (by omega)
  rw [encF_at hl]
  show (l[l.length - 1]).amount = _
  unfold lastA
  rw [List.getLastD_eq_getLast?, List.getLast?_eq_getElem?, hl]; rfl
theorem last_mem (l : List Chg) (h : 1 ≤ l.length) : ∃ c ∈ l, lastA l = c.amount := by
  refine ⟨l[l.length - 1], List.getElem_mem _, ?_⟩
  unfold lastA
  rw [List.getLastD_eq_getLast?, List.getLast?_eq_getElem?, List.getElem?_eq_getElem (by omega)]; rfl
theorem mendL (l : List Chg) (u v : Int) : decF rChg (l.length + 1) (fun i => appG l.length (appG 0 (fun _ _ => .top) fun i k => encF rChg l (0 + i) k) (fun i k => ([(.int .i64 u : AV), .int .i64 v][i * 2 + k]?).getD .top) (0 + i)) = l ++ [⟨u, v⟩] := by
  simp only [Nat.zero_add]
  refine decF_push' (l := l) ?_ _
  refine Eq.trans (decF_ext fun i _ => ?_) (decF_encF rChg l)
  rfl
theorem mendR (l : List RB) (q : Nat) (y : RB) (hq : q < l.length) (u v : Int) : decN nBill l.length (setR q 0 4 [.int .i64 y.number, .int .i64 y.day, .int .i64 y.account, .xsl 2 (y.l.length + 1) ⟨[CK.int IntKind.i64, CK.int IntKind.i64], appG y.l.length (appG 0 (fun _ _ => .top) fun i k => encF rChg y.l (0 + i) k) (fun i k => ([(.int .i64 u : AV), .int .i64 v][i * 2 + k]?).getD .top)⟩ 0 (y.l.length + 1) none] (appG 0 (fun _ _ => .top) (encN nBill l))) = l.set q { y with l := y.l ++ [⟨u, v⟩] } := by
  refine setN nBill l q _ hq [.int .i64 y.number, .int .i64 y.day, .int .i64 y.account, .xsl 2 (y.l.length + 1) ⟨[CK.int IntKind.i64, CK.int IntKind.i64], appG y.l.length (appG 0 (fun _ _ => .top) fun i k => encF rChg y.l (0 + i) k) (fun i k => ([(.int .i64 u : AV), .int .i64 v][i * 2 + k]?).getD .top)⟩ 0 (y.l.length + 1) none] ?_ rfl ?_
  · show (⟨y.number, y.day, y.account, decF rChg (y.l.length + 1) _⟩ : RB) = _
    rw [← mendL]; rfl
  · intro f g h
    show (⟨_, _, _, _⟩ : RB) = ⟨_, _, _, _⟩
    rw [h 0 (by decide), h 1 (by decide), h 2 (by decide), h 3 (by decide)]
structure KOk (n : Nat) (b : RBk) : Prop where
  c1 : -1 ≤ b.closed
  c2 : b.closed ≤ 1000000
  p : b.p.length ≤ 2 * n
  refused : b.refused.length ≤ n
  bills : b.bills.length ≤ n
  paid : b.paid.length ≤ n
  bonds : b.bonds.length ≤ n
  stands : b.stands.length ≤ n
  l : ∀ y ∈ b.bills, 1 ≤ y.l.length ∧ y.l.length ≤ n ∧ ∀ c ∈ y.l, -16777216 ≤ c.amount ∧ c.amount ≤ 16777216
  pa : ∀ y ∈ b.paid, -((n : Int) * 16777216) ≤ y.amount ∧ y.amount ≤ (n : Int) * 16777216
  bo : ∀ y ∈ b.bonds, -((n : Int) * 16777216) ≤ y.amount ∧ y.amount ≤ (n : Int) * 16777216
set_option maxHeartbeats 0 in
theorem kp_step {known : Int} {l : List Itm} {i : Nat} {b : RBk} {x : Itm} {n : Nat} (hx : l[i]? = some x) (hok : x.Ok) (hb : KOk n b) (hn : n ≤ 500) (hkn : x.known ≤ known) (hl : l.length ≤ 1000000) :
    st_kp ((known, l.length, (i : Int)), kpO l b) = some (.inl ((known, l.length, ((i + 1 : Nat) : Int)), kpO l (doneR b x))) := by
  rw [sl_kp]
  obtain ⟨hi, _⟩ := List.getElem?_eq_some_iff.1 hx
  obtain ⟨c1, c2, c3, c4, c5, c6, c7, c8, c9, ca, cb⟩ := hb
  obtain ⟨x1, x2, x3, x4, x5, x6, x7⟩ := hok
  have w3 : IntKind.i64.wrap ((i : Int) + 1) = ((i + 1 : Nat) : Int) := by rw [w64_in (by omega) (by omega)]; rfl
  have w1 : IntKind.i64.wrap (b.closed + 1) = b.closed + 1 := w64_in (by omega) (by omega)
  have w2 : IntKind.i64.wrap (0 - x.amount) = 0 - x.amount := w64_in (by omega) (by omega)
  have hbad := r_bad_eq (b := b) (x := x) (by omega) (by omega) (by omega) c1 c2
  have hmax : ∀ d : Int, (if b.closed + 1 > d then b.closed + 1 else d) = max d (b.closed + 1) := fun d => by split <;> omega
  have hid : (⟨x.id, x.known, x.kind, x.day, x.bill, x.account, x.amount⟩ : Itm) = x := rfl
  generalize ho : kpO l (doneR b x) = o
  simp only [kpO, Int.toNat_natCast, Nat.zero_add, item_at hx, wr0, wr1, wr2, wr3, wr4, wr5, wr6, decF_encF, decN_encN, w1, w2, w3, hmax, pushD, pushR, pushT, hid]
  refine br_t (decide_eq_true (by omega)) (chk_step (decide_eq_true (by omega)) (br_t (decide_eq_true (by omega)) (chk_step (decide_eq_true (by omega)) ?_)))
  refine obs_step hbad ?_
  have gp : decide ((b.p.length + 2) * 32 ≤ 140737488355328 ∧ b.p.length + 2 ≤ 9223372036854775807) = true := decide_eq_true (by omega)
  have hN : (n : Int) * 16777216 ≤ 8388608000 := by omega
  cases hbv : badR b x with
  | true =>
    refine br_t rfl (chk_step (decide_eq_true (by omega)) ?_)
    rw [← ho]; unfold doneR; rw [if_pos hbv]; rfl
  | false =>
  refine br_f rfl (chk_step (decide_eq_true (by omega)) ?_)
  have hnb : ¬(badR b x = true) := by rw [hbv]; exact Bool.false_ne_true
  by_cases k1 : x.kind = 1
  · refine br_t (by rw [beq_iff_eq]; exact k1) (chk_step (decide_eq_true (by omega)) (chk_step gp ?_))
    rw [← ho]; unfold doneR; rw [if_neg hnb]; simp only [if_pos k1, kpO, twoR, List.length_append, List.length_cons, List.length_nil]; rfl
  refine br_f (by rw [beq_eq_false_iff_ne]; exact k1) ?_
  by_cases k2 : x.kind = 2
  · refine br_t (by rw [beq_iff_eq]; exact k2) ?_
    have hq : ∃ q, billR b.bills x.bill = some q := by
      cases hq : billR b.bills x.bill with
      | some q => exact ⟨q, rfl⟩
      | none => exact absurd (by unfold badR; rw [hq]; simp [k2]) hnb
    obtain ⟨q, hq⟩ := hq
    obtain ⟨hlt, _, _⟩ := List.findIdx?_eq_some_iff_getElem.1 hq
    have hs := List.getElem?_eq_getElem hlt
    have eb : billI b.bills x.bill = (q : Int) := by unfold billI; rw [hq]
    obtain ⟨y1, y2, y3⟩ := c9 _ (List.getElem_mem hlt)
    have hg : b.bills.getD q default = b.bills[q] := by rw [List.getD_eq_getElem?_getD, hs]; rfl
    generalize b.bills[q] = y at hs y1 y2 y3 hg
    obtain ⟨c, hc, hla⟩ := last_mem y.l y1
    have hcb := y3 c hc
    have v0 : IntKind.i64.wrap ((y.l.length : Int) - 1) = ((y.l.length - 1 : Nat) : Int) := by rw [w64_in (by omega) (by omega)]; omega
    have v1 : IntKind.i64.wrap (x.amount - lastA y.l) = x.amount - lastA y.l := w64_in (by omega) (by omega)
    have v2 : IntKind.i64.wrap (0 - (x.amount - lastA y.l)) = 0 - (x.amount - lastA y.l) := w64_in (by omega) (by omega)
    simp only [eb, Int.toNat_natCast, encN_at hs, sl3, nb0, nb1, nb2, sl_len, sl_row, sl_f, cS (show y.l.length ≤ 1000000 by omega), v0, Nat.zero_add, last_amt y.l y1, v1, v2]
    refine chk_step (decide_eq_true (by omega)) (chk_step (decide_eq_true (by omega)) (chk_step (decide_eq_true (by omega)) (chk_step (decide_eq_true (by omega)) (chk_step (decide_eq_true (by omega)) (chk_step (decide_eq_true (by omega)) (chk_step (decide_eq_true (by omega)) (chk_step gp ?_)))))))
    have hm := mendR b.bills q y hlt x.known x.amount
    simp only [Nat.zero_add] at hm
    rw [hm, ← ho]; unfold doneR; rw [if_neg hnb]; simp only [if_neg k1, if_pos k2, hq, hg, kpO, twoR, List.length_append, List.length_cons, List.length_nil, List.length_set]; rfl
  refine br_f (by rw [beq_eq_false_iff_ne]; exact k2) ?_
  by_cases k3 : x.kind = 3
  · refine br_t (by rw [beq_iff_eq]; exact k3) (chk_step (decide_eq_true ⟨by omega, by unfold amtB; omega, fun y hy => by have := ca y hy; unfold amtB; omega⟩) (chk_step gp ?_))
    rw [← ho]; unfold doneR; rw [if_neg hnb]; simp only [if_neg k1, if_neg k2, if_pos k3, kpO, twoR, List.length_append, List.length_cons, List.length_nil]; rfl
  refine br_f (by rw [beq_eq_false_iff_ne]; exact k3) ?_
  by_cases k4 : x.kind = 4
  · refine br_t (by rw [beq_iff_eq]; exact k4) (chk_step (decide_eq_true ⟨by omega, by unfold amtB; omega, fun y hy => by have := ca y hy; unfold amtB; omega⟩) (chk_step gp ?_))
    rw [← ho]; unfold doneR; rw [if_neg hnb]; simp only [if_neg k1, if_neg k2, if_neg k3, if_pos k4, kpO, twoR, List.length_append, List.length_cons, List.length_nil]; rfl
  refine br_f (by rw [beq_eq_false_iff_ne]; exact k4) ?_
  by_cases k5 : x.kind = 5
  · refine br_t (by rw [beq_iff_eq]; exact k5) (chk_step (decide_eq_true ⟨by omega, by unfold amtB; omega, fun y hy => by have := cb y hy; unfold amtB; omega⟩) (chk_step gp ?_))
    rw [← ho]; unfold doneR; rw [if_neg hnb]; simp only [if_neg k1, if_neg k2, if_neg k3, if_neg k4, if_pos k5, kpO, twoR, List.length_append, List.length_cons, List.length_nil]; rfl
  refine br_f (by rw [beq_eq_false_iff_ne]; exact k5) ?_
  by_cases k6 : x.kind = 6
  · refine br_t (by rw [beq_iff_eq]; exact k6) (chk_step (decide_eq_true ⟨by omega, by unfold amtB; omega, fun y hy => by have := cb y hy; unfold amtB; omega⟩) (chk_step gp ?_))
    rw [← ho]; unfold doneR; rw [if_neg hnb]; simp only [if_neg k1, if_neg k2, if_neg k3, if_neg k4, if_neg k5, if_pos k6, kpO, twoR, List.length_append, List.length_cons, List.length_nil]; rfl
  refine br_f (by rw [beq_eq_false_iff_ne]; exact k6) ?_
  rw [← ho]; unfold doneR; rw [if_neg hnb]; simp only [if_neg k1, if_neg k2, if_neg k3, if_neg k4, if_neg k5, if_neg k6, kpO, List.length_append, List.length_cons, List.length_nil]; rfl
end K
end Go.Proofs.YtelpdkojdfnmiaaGreat
/-! LA5 -/
namespace Go.Proofs.YtelpdkojdfnmiaaGreat
open Ev K
set_option maxRecDepth 100000
namespace K
theorem moreB_len5 (l : List Bal) (a m : Int) : (moreB l a m).length ≤ l.length + 1 := by
  induction l with
  | nil => simp [moreB]
  | cons b t ih => 
    unfold moreB; simp only [List.length_cons] at ih ⊢
    split
    · simp only [List.length_cons]; omega
    · split <;> simp only [List.length_cons] <;> omega
theorem moreB_bd (N M : Int) (_hM : 0 ≤ M) (hN : 0 ≤ N) (a m : Int) (hm : -M ≤ m ∧ m ≤ M) (l : List Bal) (h : ∀ y ∈ l, -N ≤ y.amount ∧ y.amount ≤ N) : ∀ y ∈ moreB l a m, -(N + M) ≤ y.amount ∧ y.amount ≤ N + M := by
  induction l with
  | nil => intro y hy; simp only [moreB, List.mem_singleton] at hy; subst hy; simp only; omega
  | cons b t ih =>
    have hb := h b (List.mem_cons_self ..)
    have ht := fun y hy => h y (List.mem_cons_of_mem _ hy)
    intro y hy
    unfold moreB at hy
    split at hy
    · rcases List.mem_cons.1 hy with e | e
      · subst e; omega
      · exact ih ht y e
    · split at hy
      · rcases List.mem_cons.1 hy with e | e
        · subst e; simp only; omega
        · have := ht y e; omega
      · rcases List.mem_cons.1 hy with e | e
        · subst e; simp only; omega
        · have := h y e; omega
theorem addL_len (l : List Int) (n : Int) : (addL l n).length = l.length + 1 := by
  induction l with
  | nil => rfl
  | cons b t ih => unfold addL; split <;> simp [ih]
theorem KOk.mono {n m : Nat} {b : RBk} (h : KOk n b) (hm : n ≤ m) : KOk m b := by
  obtain ⟨c1, c2, c3, c4, c5, c6, c7, c8, c9, ca, cb⟩ := h
  refine ⟨c1, c2, by omega, by omega, by omega, by omega, by omega, by omega, fun y hy => ?_, fun y hy => ?_, fun y hy => ?_⟩
  · obtain ⟨h1, h2, h3⟩ := c9 y hy; exact ⟨h1, by omega, h3⟩
  · have := ca y hy; omega
  · have := cb y hy; omega
set_option maxHeartbeats 0 in
theorem KOk.done {n : Nat} {b : RBk} (h : KOk n b) {x : Itm} (hx : x.Ok) (hn : n ≤ 1000) : KOk (n + 1) (doneR b x) := by
  have h' := h.mono (Nat.le_succ n)
  obtain ⟨x1, x2, x3, x4, x5, x6, x7⟩ := hx
  obtain ⟨c1, c2, c3, c4, c5, c6, c7, c8, c9, ca, cb⟩ := h
  obtain ⟨d1, d2, d3, d4, d5, d6, d7, d8, d9, da, db⟩ := h'
  have hc : ((n + 1 : Nat) : Int) * 16777216 = (n : Int) * 16777216 + 16777216 := by omega
  have hbd : ∀ (l : List Bal) (m : Int), (-16777216 ≤ m ∧ m ≤ 16777216) → (∀ y ∈ l, -((n : Int) * 16777216) ≤ y.amount ∧ y.amount ≤ (n : Int) * 16777216) → ∀ y ∈ moreB l x.account m, -(((n + 1 : Nat) : Int) * 16777216) ≤ y.amount ∧ y.amount ≤ ((n + 1 : Nat) : Int) * 16777216 := fun l m hm hl y hy => by
    have := moreB_bd ((n : Int) * 16777216) 16777216 (by omega) (by omega) x.account m hm l hl y hy; omega
  have mp := moreB_len5 b.paid x.account
  have mb := moreB_len5 b.bonds x.account
  unfold doneR
  split
  · exact ⟨c1, c2, d3, by rw [addL_len]; omega, d5, d6, d7, d8, d9, da, db⟩
  have hs : (b.stands ++ [x]).length ≤ n + 1 := by simp; omega
  have hp : ∀ y z : Pst, (b.p ++ [y, z]).length ≤ 2 * (n + 1) := fun y z => by simp; omega
  simp only
  split
  · refine ⟨c1, c2, hp _ _, d4, by show (b.bills ++ [_]).length ≤ _; simp; omega, d6, d7, hs, ?_, da, db⟩
    intro y hy
    rcases List.mem_append.1 hy with e | e
    · exact d9 y e
    · rw [List.mem_singleton] at e; subst e
      refine ⟨by simp, by simp, fun c hc => ?_⟩
      rw [List.mem_singleton] at hc; subst hc; simp only; omega
  split
  · split
    · rename_i q hq
      obtain ⟨hlt, _, _⟩ := List.findIdx?_eq_some_iff_getElem.1 hq
      refine ⟨c1, c2, hp _ _, d4, by show (b.bills.set _ _).length ≤ _; simp; omega, d6, d7, hs, ?_, da, db⟩
      intro y hy
      rcases List.mem_or_eq_of_mem_set hy with e | e
      · exact d9 y e
      · have hg : b.bills.getD q default = b.bills[q] := by rw [List.getD_eq_getElem?_getD, List.getElem?_eq_getElem hlt]; rfl
        rw [hg] at e
        obtain ⟨e1, e2, e3⟩ := c9 _ (List.getElem_mem hlt)
        subst e
        refine ⟨by simp, by simp; omega, fun c hc => ?_⟩
        rcases List.mem_append.1 hc with f | f
        · exact e3 c f
        · rw [List.mem_singleton] at f; subst f; simp only; omega
    · exact ⟨c1, c2, d3, d4, d5, d6, d7, hs, d9, da, db⟩
  split
  · exact ⟨c1, c2, hp _ _, d4, d5, by have := mp x.amount; show (moreB _ _ _).length ≤ _; omega, d7, hs, d9, hbd _ _ (by omega) ca, db⟩
  split
  · exact ⟨c1, c2, hp _ _, d4, d5, by have := mp (0 - x.amount); show (moreB _ _ _).length ≤ _; omega, d7, hs, d9, hbd _ _ (by omega) ca, db⟩
  split
  · exact ⟨c1, c2, hp _ _, d4, d5, d6, by have := mb x.amount; show (moreB _ _ _).length ≤ _; omega, hs, d9, da, hbd _ _ (by omega) cb⟩
  split
  · exact ⟨c1, c2, hp _ _, d4, d5, d6, by have := mb (0 - x.amount); show (moreB _ _ _).length ≤ _; omega, hs, d9, da, hbd _ _ (by omega) cb⟩
  · exact ⟨by simp only; omega, by simp only; omega, d3, d4, d5, d6, d7, hs, d9, da, db⟩
theorem KOk.zero : KOk 0 rb0 := ⟨by decide, by decide, by decide, by decide, by decide, by decide, by decide, by decide, by simp [rb0], by simp [rb0], by simp [rb0]⟩
end K
end Go.Proofs.YtelpdkojdfnmiaaGreat
/-! LA6 -/
namespace Go.Proofs.YtelpdkojdfnmiaaGreat
open Ev K
set_option maxRecDepth 100000
set_option maxHeartbeats 0
noncomputable def K.L_kp := lim K.st_kp
namespace K
def kpX (b : RBk) : KpObjX := ((), (b.closed, b.p.length, b.refused.length, b.bills.length, b.paid.length, b.bonds.length, b.stands.length), b.p, b.refused, b.bills, b.paid, b.bonds, b.stands, ())
theorem L_kp_eq {known : Int} {l : List Itm} (hl : l.length ≤ 500) (hf : ∀ x ∈ l, x.Ok) : ∀ (d i : Nat) (b : RBk), i + d = l.length → KOk i b →
    L_kp ((known, l.length, (i : Int)), kpO l b) = some ((), kpX (((l.drop i).filter fun x => decide (x.known ≤ known)).foldl doneR b)) := by
  intro d
  induction d with
  | zero =>
    intro i b h hb
    refine lim_done ?_
    rw [sl_kp]
    generalize ho : kpX _ = o
    simp only [kpO, decF_encF, decN_encN]
    refine br_f (decide_eq_false (by omega)) ?_
    rw [← ho, List.drop_of_length_le (by omega)]; rfl
  | succ d ih =>
    intro i b h hb
    have hi : i < l.length := by omega
    have hx := List.getElem?_eq_getElem hi
    have hm := List.getElem_mem hi
    have hdrop := List.drop_eq_getElem_cons hi
    generalize l[i] = x at hx hm hdrop
    by_cases hkn : x.known ≤ known
    · refine (lim_step (kp_step hx (hf x hm) hb (by omega) hkn (by omega))).trans ?_
      rw [show lim st_kp = L_kp from rfl, ih (i + 1) (doneR b x) (by omega) (hb.done (hf x hm) (by omega)), hdrop, List.filter_cons_of_pos (by simpa using hkn), List.foldl_cons]
    · refine (lim_step (s' := ((known, l.length, ((i + 1 : Nat) : Int)), kpO l b)) ?_).trans ?_
      · rw [sl_kp]
        have w3 : IntKind.i64.wrap ((i : Int) + 1) = ((i + 1 : Nat) : Int) := by rw [w64_in (by omega) (by omega)]; rfl
        simp only [kpO, Int.toNat_natCast, Nat.zero_add, item_at hx, wr1, decF_encF, decN_encN, w3]
        refine br_t (decide_eq_true (by omega)) (chk_step (decide_eq_true (by omega)) (br_f (decide_eq_false (by omega)) rfl))
      · rw [show lim st_kp = L_kp from rfl, ih (i + 1) b (by omega) (hb.mono (by omega)), hdrop, List.filter_cons_of_neg (by simpa using hkn)]
end K
noncomputable def BLA61 : Tab := BLA34.addNode 25 81 (nodeE [9, 7, 8, 1, 4] S_kp X_kp (fun s => .obs (K.L_kp s) .ret))
theorem tLA61 : TabOk P BLA61 := TabOk.addLoop (d := 30) okP tLA34 (by kernel_rfl) (by kernel_rfl) (fun s r h => obs_ret h)
end Go.Proofs.YtelpdkojdfnmiaaGreat
/-! LA7 -/
namespace Go.Proofs.YtelpdkojdfnmiaaGreat
open Ev K
set_option maxRecDepth 100000
set_option maxHeartbeats 0
def lKept : DecL (RBk × Int) := (DecL.cons dInt (.cons (dRows rPost) (.cons (dRows rInt) (.cons (dRowsN nBill) (.cons (dRows rBal) (.cons (dRows rBal) (.cons (dRows rItem) (.last dInt 0)))))))).iso (fun p => (⟨p.1, p.2.1, p.2.2.1, p.2.2.2.1, p.2.2.2.2.1, p.2.2.2.2.2.1, p.2.2.2.2.2.2.1⟩, p.2.2.2.2.2.2.2)) (fun k => (k.1.closed, k.1.p, k.1.refused, k.1.bills, k.1.paid, k.1.bonds, k.1.stands, k.2)) (fun _ => rfl)
def dKept : Dec (RBk × Int) := dAgg lKept
def D_kp := DecL.cons (dRows rItem) (.last dInt 0)
theorem fn_keep : ∀ a, (callT1 P BLA61 30 25 D_kp dKept) a = T.run (
 let q2 := (0 : Nat);
 let q1 := decF rItem (List.length a.1) fun i => encF rItem a.1 (q2 + i);
  .br (checkV q1 != (0 : Int)) (
    .ret ((RBk.mk (0 : Int) [] [] [] [] [] [], checkV q1))) (
    .br (!r_day a.2) (
      .ret ((RBk.mk (0 : Int) [] [] [] [] [] [], (1 : Int)))) (
      .chk (decide (List.length q1 ≤ (500 : Nat))) <|
      .obs (L_kp ((a.2, List.length (sortedR q1), (0 : Int)), PUnit.unit, ((-1 : Int), q2, q2, q2, q2, q2, q2), decF rPost q2 fun _x _x_1 => AV.top, decF rInt q2 fun _x _x_1 => AV.top, decN nBill q2 fun _x _x_1 => AV.top, decF rBal q2 fun _x _x_1 => AV.top, decF rBal q2 fun _x _x_1 => AV.top, decF rItem q2 fun _x _x_1 => AV.top, decF rItem (List.length (sortedR q1)) (encF rItem (sortedR q1)), PUnit.unit)) fun x0 =>
        .ret ((RBk.mk x0.2.2.1.1 (decF rPost (List.length x0.2.2.2.1) fun i => encF rPost x0.2.2.2.1 (q2 + i)) (decF rInt (List.length x0.2.2.2.2.1) fun i => encF rInt x0.2.2.2.2.1 (q2 + i)) (decN nBill (List.length x0.2.2.2.2.2.1) fun i => encN nBill x0.2.2.2.2.2.1 (q2 + i)) (decF rBal (List.length x0.2.2.2.2.2.2.1) fun i => encF rBal x0.2.2.2.2.2.2.1 (q2 + i)) (decF rBal (List.length x0.2.2.2.2.2.2.2.1) fun i => encF rBal x0.2.2.2.2.2.2.2.1 (q2 + i)) (decF rItem (List.length x0.2.2.2.2.2.2.2.2.1) fun i => encF rItem x0.2.2.2.2.2.2.2.2.1 (q2 + i)), (0 : Int)))))) := fun a => by kernel_rfl
end Go.Proofs.YtelpdkojdfnmiaaGreat
/-! LA8 -/
namespace Go.Proofs.YtelpdkojdfnmiaaGreat
open Ev K
set_option maxRecDepth 100000
set_option maxHeartbeats 0
namespace K
noncomputable def keepV (l : List Itm) (known : Int) : RBk × Int :=
  if checkV l ≠ 0 then (⟨0, [], [], [], [], [], []⟩, checkV l) else if r_day known = true then (keepR l known, 0) else (⟨0, [], [], [], [], [], []⟩, 1)
theorem rkeep_eq (a : List Itm × Int) : callT1 P BLA61 30 25 D_kp dKept a = some (keepV a.1 a.2) := by
  obtain ⟨l, known⟩ := a
  rw [fn_keep]
  unfold keepV
  simp only [Nat.zero_add, decF_encF]
  by_cases hc : checkV l = 0
  · refine br_f (by rw [hc]; rfl) ?_
    rw [if_neg (fun h => h hc)]
    by_cases hd : r_day known = true
    · refine br_f (by rw [hd]; rfl) ?_
      rw [if_pos hd]
      obtain ⟨k1, k2, k3⟩ := checkV_ok hc
      have ho : One l := fun x hx y hy e => by
        obtain ⟨i, hi, rfl⟩ := List.getElem_of_mem hx
        obtain ⟨j, hj, rfl⟩ := List.getElem_of_mem hy
        rcases Nat.lt_trichotomy i j with h | h | h
        · exact k3 i j _ _ h (List.getElem?_eq_getElem hi) (List.getElem?_eq_getElem hj) e
        · subst h; rfl
        · exact (k3 j i _ _ h (List.getElem?_eq_getElem hj) (List.getElem?_eq_getElem hi) e.symm).symm
      refine chk_step (decide_eq_true (by omega)) ?_
      rw [sortedR_eq ho]
      have hs := srt_len l
      have key := L_kp_eq (known := known) (l := srt l) (by omega) (fun x hx => (k2 x (srt_mem hx)).ok) (srt l).length 0 rb0 (by omega) KOk.zero
      refine obs_step key ?_
      rw [List.drop_zero]
      show some _ = some _
      unfold keepR
      generalize List.foldl doneR rb0 _ = b
      simp only [kpX, decN_encN]
    · refine br_t (by rw [Bool.not_eq_true] at hd; rw [hd]; rfl) ?_
      rw [if_neg hd]; rfl
  · refine br_t (by simpa using hc) ?_
    rw [if_pos hc]; rfl
end K
noncomputable def BLA81 : Tab := BLA61.addCall 25 (callE D_kp dKept (fun a => .ret (K.keepV a.1 a.2)))
theorem tLA81 : TabOk P BLA81 := TabOk.addPC tLA61 (fun a r h => by rw [← ret_some h]; exact call_of okP tLA61 (K.rkeep_eq a))
end Go.Proofs.YtelpdkojdfnmiaaGreat
/-! LP2 -/
namespace Go.Proofs.YtelpdkojdfnmiaaGreat
open Ev K
set_option maxRecDepth 100000
namespace K
def balStep (behind : Int) (l : List Bal) (p : Pst) : List Bal := if p.day ≤ behind then moreB l p.account p.amount else l
def balR (ps : List Pst) (behind : Int) : List Bal := ps.foldl (balStep behind) []
theorem mp_fold (behind : Int) : ∀ (ps : List Pst) (m : List (Int × Int)) (l : List Bal), Mp m l → Mp (ps.foldl (sumStep behind) m) (ps.foldl (balStep behind) l)
  | [], _, _, h => h
  | p :: ps, m, l, h => by
    refine mp_fold behind ps _ _ ?_
    unfold sumStep balStep
    split
    · exact h.more _ _ _ rfl
    · exact h
theorem mp_sum (ps : List Pst) (behind : Int) : Mp (sumP ps behind) (balR ps behind) := mp_fold behind ps _ _ Mp.nil
theorem listB_sum (ps : List Pst) (behind : Int) : listB (sumP ps behind) = balR ps behind := (mp_sum ps behind).list
theorem moreB_len : ∀ (l : List Bal) (a m : Int), (moreB l a m).length ≤ l.length + 1
  | [], _, _ => by simp [moreB]
  | b :: t, a, m => by
    unfold moreB
    have := moreB_len t a m
    split
    · simp only [List.length_cons]; omega
    · split <;> simp only [List.length_cons] <;> omega
theorem balR_len (ps : List Pst) (behind : Int) : (balR ps behind).length ≤ ps.length := by
  have key : ∀ (ps : List Pst) (l : List Bal), (ps.foldl (balStep behind) l).length ≤ l.length + ps.length := by
    intro ps
    induction ps with
    | nil => intro l; simp
    | cons p ps ih =>
      intro l
      have h1 := ih (balStep behind l p)
      have h2 : (balStep behind l p).length ≤ l.length + 1 := by
        unfold balStep; split
        · exact moreB_len ..
        · omega
      rw [List.foldl_cons, List.length_cons]; omega
  have := key ps []
  unfold balR; simpa using this
def sumI (l : List Int) : Int := l.sum
def sumA (ps : List Pst) (a behind : Int) : Int := sumI ((ps.filter fun p => decide (p.account = a ∧ p.day ≤ behind)).map (·.amount))
theorem held_more : ∀ {l : List Bal}, l.Pairwise (fun x y => x.account < y.account) → ∀ (a m c : Int), heldB (moreB l a m) c = heldB l c + if a = c then m else 0
  | [], _, a, m, c => by
    unfold moreB heldB
    by_cases h : a = c
    · subst h; simp
    · simp [h]
  | b :: t, hs, a, m, c => by
    have hh := List.pairwise_cons.1 hs
    unfold moreB
    have cons : ∀ (x : Bal) (t : List Bal), heldB (x :: t) c = if x.account = c then x.amount else heldB t c := fun x t => by
      unfold heldB
      by_cases h : x.account = c
      · rw [List.find?_cons_of_pos (by simpa using h), if_pos h]
      · rw [List.find?_cons_of_neg (by simpa using h), if_neg h]
    by_cases h1 : b.account < a
    · rw [if_pos h1, cons, cons, held_more hh.2]
      by_cases h2 : b.account = c
      · rw [if_pos h2, if_pos h2, if_neg (by omega)]; omega
      · rw [if_neg h2, if_neg h2]
    · rw [if_neg h1]
      by_cases h2 : b.account = a
      · rw [if_pos h2, cons, cons]
        simp only
        by_cases h3 : a = c
        · rw [if_pos h3, if_pos (by omega), if_pos h3]
        · rw [if_neg h3, if_neg (by omega), if_neg h3]; omega
      · rw [if_neg h2, cons]
        simp only
        by_cases h3 : a = c
        · rw [if_pos h3, if_pos h3]
          have : heldB (b :: t) c = 0 := by
            unfold heldB
            rw [List.find?_eq_none.2]
            intro x hx
            rcases List.mem_cons.1 hx with e | hx
            · subst e; simp; omega
            · have := hh.1 x hx; simp; omega
          omega
        · rw [if_neg h3, if_neg h3]; omega
theorem held_balR (ps : List Pst) (behind a : Int) : heldB (balR ps behind) a = sumA ps a behind := by
  have key : ∀ (ps : List Pst) (m : List (Int × Int)) (l : List Bal), Mp m l → heldB (ps.foldl (balStep behind) l) a = heldB l a + sumA ps a behind := by
    intro ps
    induction ps with
    | nil => intro m l _; simp [sumA, sumI]
    | cons p ps ih =>
      intro m l hm
      rw [List.foldl_cons]
      unfold sumA at *
      by_cases h : p.day ≤ behind
      · have e : balStep behind l p = moreB l p.account p.amount := if_pos h
        rw [e, ih _ _ (hm.more p.account p.amount _ rfl), held_more hm.sorted]
        by_cases h2 : p.account = a
        · rw [if_pos h2, List.filter_cons_of_pos (by simp [h, h2]), List.map_cons]; simp only [sumI, List.sum_cons]; omega
        · rw [if_neg h2, List.filter_cons_of_neg (by simp [h2])]; omega
      · have e : balStep behind l p = l := if_neg h
        rw [e, ih _ _ hm, List.filter_cons_of_neg (by simp; intro _; omega)]
  have := key ps [] [] Mp.nil
  unfold balR; rw [this]; simp [heldB]
theorem look_sum (ps : List Pst) (behind a : Int) : lookM (sumP ps behind) a = sumA ps a behind := by rw [← (mp_sum ps behind).held, held_balR]
structure Pr where (x : Itm) (on a b m : Int)
def Pr.two (z : Pr) : List Pst := [⟨z.x.id, z.on, z.a, z.m⟩, ⟨z.x.id, z.on, z.b, -z.m⟩]
def pairs (zs : List Pr) : List Pst := zs.flatMap Pr.two
theorem pairs_app (a b : List Pr) : pairs (a ++ b) = pairs a ++ pairs b := List.flatMap_append ..
def isPair (l : List Pst) : Prop := ∃ zs, l = pairs zs
theorem isPair.app {l : List Pst} (h : isPair l) (x : Itm) (on a b m : Int) : isPair (l ++ [⟨x.id, on, a, m⟩, ⟨x.id, on, b, -m⟩]) := by
  obtain ⟨zs, rfl⟩ := h
  exact ⟨zs ++ [⟨x, on, a, b, m⟩], by rw [pairs_app]; rfl⟩
end K
end Go.Proofs.YtelpdkojdfnmiaaGreat
/-! LJ0 -/
namespace Go.Proofs.YtelpdkojdfnmiaaGreat
open Ev K
set_option maxRecDepth 100000
namespace K
theorem one_ck {l : List Itm} (hc : checkV l = 0) : One l := by
  obtain ⟨_, _, k3⟩ := checkV_ok hc
  exact fun x hx y hy e => by
    obtain ⟨i, hi, rfl⟩ := List.getElem_of_mem hx
    obtain ⟨j, hj, rfl⟩ := List.getElem_of_mem hy
    rcases Nat.lt_trichotomy i j with h | h | h
    · exact k3 i j _ _ h (List.getElem?_eq_getElem hi) (List.getElem?_eq_getElem hj) e
    · subst h; rfl
    · exact (k3 j i _ _ h (List.getElem?_eq_getElem hj) (List.getElem?_eq_getElem hi) e.symm).symm
theorem keep_ok {l : List Itm} {known : Int} (h : askedV l [known] = 0) : keepV l known = (keepR l known, 0) := by
  obtain ⟨hc, hd⟩ := ask_check h
  unfold keepV
  rw [if_neg (fun h => h hc), if_pos ((r_day_iff known).2 (hd known (List.mem_singleton.2 rfl)))]
theorem keep_bad {l : List Itm} {known : Int} (h : ¬ askedV l [known] = 0) : keepV l known = (⟨0, [], [], [], [], [], []⟩, askedV l [known]) := by
  unfold keepV
  by_cases hc : checkV l = 0
  · have hd : ¬ dayOk known := fun hd => h (by
      unfold askedV; rw [if_neg (fun h => h hc), if_pos (fun n hn => by rw [List.mem_singleton.1 hn]; exact hd)])
    have e : askedV l [known] = 1 := by
      unfold askedV; rw [if_neg (fun h => h hc), if_neg (fun e => hd (e known (List.mem_singleton.2 rfl)))]
    rw [if_neg (fun h => h hc), if_neg (fun e => hd ((r_day_iff known).1 e)), e]
  · have e : askedV l [known] = checkV l := by unfold askedV; rw [if_pos hc]
    rw [if_pos hc, e]
section
variable {l : List Itm} (hc : checkV l = 0) (known : Int)
include hc
theorem rel_ok : Rel (foldB (knownOn known (srt l))) (keepR l known) := rel_keep (checkV_ok hc).2.1 (one_ck hc) known
theorem kr_p : (keepR l known).p = (readB l known).posts := (rel_ok hc known).p
end
end K
end Go.Proofs.YtelpdkojdfnmiaaGreat
/-! LA9 -/
namespace Go.Proofs.YtelpdkojdfnmiaaGreat
open Ev K
set_option maxRecDepth 100000
def D_rsum := DecL.cons dBkR (.cons dInt (.last dInt 0))
def S_su := DecS.mk0 (.skip (.cons (dInt) (.cons (dInt) (.unit (dLp 0 0 0 0) (.skips 3 (.cons (dInt) (.last (dInt) 34))))))) (.flat 52 lBkR .nil)
def X_su := DecX.one (.exit 0) [7] (DecS.mk0 (.skips 7 (.last (dInt) 35)) .nil)
noncomputable def K.st_su := loopT1 P BLA81 30 77 25 [8, 3, 7, 2, 1] S_su X_su
theorem sl_su : ∀ s, (K.st_su) s = T.run (
 let q12 := s.1.2.2.2;
 let q9 := RBk.p s.2.1;
 let q11 := (0 : Nat);
 let q8 := decF rPost (List.length q9) fun i => encF rPost q9 (q11 + i);
 let q3 := decF rInt (List.length (RBk.refused s.2.1)) fun i => encF rInt (RBk.refused s.2.1) (q11 + i);
 let q5 := decN nBill (List.length (RBk.bills s.2.1)) fun i => encN nBill (RBk.bills s.2.1) (q11 + i);
 let q7 := decF rBal (List.length (RBk.paid s.2.1)) fun i => encF rBal (RBk.paid s.2.1) (q11 + i);
 let q6 := decF rBal (List.length (RBk.bonds s.2.1)) fun i => encF rBal (RBk.bonds s.2.1) (q11 + i);
 let q4 := decF rItem (List.length (RBk.stands s.2.1)) fun i => encF rItem (RBk.stands s.2.1) (q11 + i);
 let q1 := Sum.inl ((s.1.1, s.1.2.1, s.1.2.2.1, IntKind.wrap IntKind.i64 (q12 + (1 : Int))), RBk.mk (RBk.closed s.2.1) q8 q3 q5 q7 q6 q4, PUnit.unit);
 let q2 := decide ((0 : Int) ≤ q12 ∧ q12 < (↑(List.length q9) : Int));
 let q10 := q11 + Int.toNat q12;
  .br (decide (q12 < (↑(clampL (List.length q9)) : Int))) (
    .chk q2 <|
    .br (numOf (encF rPost q9 q10 (nat_lit 2)) == s.1.1) (
      .chk q2 <|
      .br (decide (numOf (encF rPost q9 q10 (nat_lit 1)) ≤ s.1.2.1)) (
        .chk q2 <|
        .ret (Sum.inl ((s.1.1, s.1.2.1, IntKind.wrap IntKind.i64 (s.1.2.2.1 + numOf (encF rPost q9 q10 (nat_lit 3))), IntKind.wrap IntKind.i64 (q12 + (1 : Int))), RBk.mk (RBk.closed s.2.1) q8 q3 q5 q7 q6 q4, PUnit.unit))) (
        .ret q1)) (
      .ret q1)) (
    .ret (Sum.inr (s.1.2.2.1, PUnit.unit)))) := fun s => by kernel_rfl
noncomputable def K.L_su := lim K.st_su
noncomputable def BLA91 : Tab := BLA81.addNode 77 25 (nodeE [8, 3, 7, 2, 1] S_su X_su (fun s => .obs (K.L_su s) .ret))
theorem tLA91 : TabOk P BLA91 := TabOk.addLoop (d := 30) okP tLA81 (by kernel_rfl) (by kernel_rfl) (fun s r h => obs_ret h)
theorem fn_rsum : ∀ a, (callT1 P BLA91 30 77 D_rsum dInt) a = T.run (
  .obs (L_su ((a.2.1, a.2.2, (0 : Int), (0 : Int)), RBk.mk (RBk.closed a.1) (decF rPost (List.length (RBk.p a.1)) fun i => encF rPost (RBk.p a.1) ((0 : Nat) + i)) (decF rInt (List.length (RBk.refused a.1)) fun i => encF rInt (RBk.refused a.1) ((0 : Nat) + i)) (decN nBill (List.length (RBk.bills a.1)) fun i => encN nBill (RBk.bills a.1) ((0 : Nat) + i)) (decF rBal (List.length (RBk.paid a.1)) fun i => encF rBal (RBk.paid a.1) ((0 : Nat) + i)) (decF rBal (List.length (RBk.bonds a.1)) fun i => encF rBal (RBk.bonds a.1) ((0 : Nat) + i)) (decF rItem (List.length (RBk.stands a.1)) fun i => encF rItem (RBk.stands a.1) ((0 : Nat) + i)), PUnit.unit)) fun x0 =>
    .ret x0.1) := fun a => by kernel_rfl
end Go.Proofs.YtelpdkojdfnmiaaGreat
/-! LAa -/
namespace Go.Proofs.YtelpdkojdfnmiaaGreat
open Ev K
set_option maxRecDepth 100000
namespace K
theorem sumA_nil (acc day : Int) : sumA [] acc day = 0 := rfl
theorem sumA_cons (x : Pst) (ps : List Pst) (acc day : Int) : sumA (x :: ps) acc day = (if x.account = acc ∧ x.day ≤ day then x.amount else 0) + sumA ps acc day := by
  unfold sumA sumI
  by_cases h : x.account = acc ∧ x.day ≤ day
  · rw [List.filter_cons_of_pos (by simpa using h), if_pos h, List.map_cons, List.sum_cons]
  · rw [List.filter_cons_of_neg (by simpa using h), if_neg h, Int.zero_add]
theorem L_su_eq {b : RBk} (hl : b.p.length ≤ 1000) (ha : ∀ p ∈ b.p, amtOk p.amount) (acc day : Int) : ∀ (d i : Nat) (n : Int), i + d = b.p.length → -((i : Int) * 16777216) ≤ n ∧ n ≤ (i : Int) * 16777216 →
    L_su ((acc, day, n, (i : Int)), b, ()) = some (n + sumA (b.p.drop i) acc day, ())
  := by
  intro d
  induction d with
  | zero =>
    intro i n h hn
    refine lim_done ?_
    rw [sl_su]
    simp only [cS (show b.p.length ≤ 1000000 by omega)]
    refine br_f (decide_eq_false (by omega)) ?_
    rw [List.drop_of_length_le (by omega), sumA_nil, Int.add_zero]; rfl
  | succ d ih =>
    intro i n h hn
    have hi : i < b.p.length := by omega
    have hx := List.getElem?_eq_getElem hi
    have hm := ha _ (List.getElem_mem hi)
    rw [List.drop_eq_getElem_cons hi, sumA_cons]
    generalize b.p[i] = x at hx hm
    unfold amtOk at hm
    have w : IntKind.i64.wrap ((i : Int) + 1) = ((i + 1 : Nat) : Int) := by rw [w64_in (by omega) (by omega)]; rfl
    have w2 : IntKind.i64.wrap (n + x.amount) = n + x.amount := w64_in (by omega) (by omega)
    rw [← Int.add_assoc]
    refine (lim_step ?_).trans (ih (i + 1) (n + if x.account = acc ∧ x.day ≤ day then x.amount else 0) (by omega) (by split <;> omega))
    rw [sl_su]
    simp only [cS (show b.p.length ≤ 1000000 by omega), Int.toNat_natCast, Nat.zero_add, post_at hx, pw1, pw2, pw3, decF_encF, decN_encN, w, w2]
    refine br_t (decide_eq_true (by omega)) (chk_step (decide_eq_true (by omega)) ?_)
    by_cases h1 : x.account = acc
    · refine br_t (beq_iff_eq.2 h1) ?_
      refine chk_step (decide_eq_true (by omega)) ?_
      by_cases h2 : x.day ≤ day
      · rw [if_pos ⟨h1, h2⟩]
        exact br_t (decide_eq_true h2) (chk_step (decide_eq_true (by omega)) rfl)
      · rw [if_neg (fun h => h2 h.2), Int.add_zero]
        exact br_f (decide_eq_false h2) rfl
    · rw [if_neg (fun h => h1 h.1), Int.add_zero]
      exact br_f (by rw [beq_eq_false_iff_ne]; exact h1) rfl
def psOk (l : List Pst) : Bool := decide (l.length ≤ 1000 ∧ ∀ p ∈ l, amtOk p.amount)
def M_rsum (a : RBk × Int × Int) : T Int := .chk (psOk a.1.p) (.ret (sumA a.1.p a.2.1 a.2.2))
theorem rsum_pc (a : RBk × Int × Int) (r : Int) (h : (M_rsum a).run = some r) : PC P 77 (D_rsum.enc a) (dInt.enc r) := by
  obtain ⟨b, acc, day⟩ := a
  obtain ⟨g, e⟩ := chk_ret h
  subst e
  obtain ⟨g1, g2⟩ := of_decide_eq_true g
  simp only at g1
  refine call_of okP tLA91 ((fn_rsum (b, acc, day)).trans ?_)
  simp only [Nat.zero_add, decF_encF, decN_encN]
  have key := L_su_eq g1 g2 acc day b.p.length 0 0 (by omega) (by omega)
  rw [List.drop_zero, Int.zero_add] at key
  exact obs_step key rfl
end K
noncomputable def BLAa1 : Tab := BLA91.addCall 77 (callE D_rsum dInt K.M_rsum)
theorem tLAa1 : TabOk P BLAa1 := TabOk.addPC tLA91 (K.rsum_pc)
theorem fn_rhold : ∀ a, (callT1 P BLAa1 30 37 D_l4 R_ii) a = T.run (
 let q1 := keepV (decF rItem (List.length a.1) fun i => encF rItem a.1 ((0 : Nat) + i)) a.2.2.2;
 let q2 := decF rPost (List.length (RBk.p q1.1)) fun i => encF rPost (RBk.p q1.1) ((0 : Nat) + i);
  .br (q1.2 != (0 : Int)) (
    .ret (((0 : Int), q1.2))) (
    .br (!r_day a.2.2.1) (
      .ret (((0 : Int), (1 : Int)))) (
      .br (!r_account a.2.1) (
        .ret (((0 : Int), (1 : Int)))) (
        .chk (psOk q2) <|
        .ret ((sumA q2 a.2.1 a.2.2.1, (0 : Int))))))) := fun a => by kernel_rfl
end Go.Proofs.YtelpdkojdfnmiaaGreat
/-! LAb -/
namespace Go.Proofs.YtelpdkojdfnmiaaGreat
open Ev K
set_option maxRecDepth 100000
def lHeld : DecL (List Bal × Int) := DecL.cons (dRows rBal) (.last dInt 0)
def S_ba := DecS.ghost 9 38 2 [.int .i64, .int .i64] (DecS.mk0 (.skip (.cons (dInt) (.skips 4 (.unit (dLp 0 0 0 0) (.unit (dLp 1 0 0 0) (.skip (.cons (dO 2) (.last (dInt) 49)))))))) (.flat 63 (.tops 2) (.flat 54 lKept (.rows 38 rBal .nil))))
def X_ba := DecX.one (.exit 0) [6, 9] (DecS.mk0 (.skips 6 (.unit (dLp 0 0 0 0) (.skips 2 (.last (dO 1) 50)))) (.flat 63 (.tops 2) (.rows 38 rBal .nil)))
noncomputable def K.st_ba := loopT1 P BLAa1 30 38 73 [10, 7, 9, 1, 6] S_ba X_ba
theorem sl_ba : ∀ s, (K.st_ba) s = T.run (
 let q6 := s.2.2.1.1;
 let q10 := RBk.p q6;
 let q14 := List.length q10;
 let q7 := (0 : Nat);
 let q1 := (RBk.mk (RBk.closed q6) (decF rPost q14 fun i => encF rPost q10 (q7 + i)) (decF rInt (List.length (RBk.refused q6)) fun i => encF rInt (RBk.refused q6) (q7 + i)) (decN nBill (List.length (RBk.bills q6)) fun i => encN nBill (RBk.bills q6) (q7 + i)) (decF rBal (List.length (RBk.paid q6)) fun i => encF rBal (RBk.paid q6) (q7 + i)) (decF rBal (List.length (RBk.bonds q6)) fun i => encF rBal (RBk.bonds q6) (q7 + i)) (decF rItem (List.length (RBk.stands q6)) fun i => encF rItem (RBk.stands q6) (q7 + i)), s.2.2.1.2);
 let q8 := List.length s.2.2.2.1;
 let q11 := decF rBal q8 fun i => encF rBal s.2.2.2.1 (q7 + i);
 let q5 := q7 + Int.toNat s.1.2.2;
 let q12 := numOf (encF rPost q10 q5 (nat_lit 3));
 let q2 := moreB q11 (numOf (encF rPost q10 q5 (nat_lit 2))) q12;
 let q3 := Get.mk (RowD.tags rPost) (encF rPost (Prod.fst (Prod.snd ((fun k => (RBk.closed k.1, RBk.p k.1, RBk.refused k.1, RBk.bills k.1, RBk.paid k.1, RBk.bonds k.1, RBk.stands k.1, k.2)) s.2.2.1))));
 let q4 := decide ((0 : Int) ≤ s.1.2.2 ∧ s.1.2.2 < (↑q14 : Int));
 let q9 := (3 : Nat);
 let q13 := encF rBal s.2.2.2.1;
  .br (decide (s.1.2.2 < (↑(clampL q14) : Int))) (
    .chk q4 <|
    .br (decide (numOf (encF rPost q10 q5 (nat_lit 1)) ≤ s.1.1)) (
      .chk q4 <|
      .chk q4 <|
      .chk (decide (List.length q11 ≤ (1000 : Nat) ∧ amtB q12 ∧ ∀ (b : Bal), b ∈ Prod.fst (decF rBal q8 fun i => Get.f (Get.mk (RowD.tags rBal) q13) (q7 + i), numOf (Get.f q3 q5 (q7 + Field.offset #[Field.mk "Item" q9 q7 false "" "" q7, Field.mk "Day" q9 (1 : Nat) false "" "" (8 : Nat), Field.mk "Account" q9 (2 : Nat) false "" "" (16 : Nat), Field.mk "Amount" q9 q9 false "" "" (24 : Nat)][(2 : Nat)])), numOf (Get.f q3 q5 (q7 + Field.offset #[Field.mk "Item" q9 q7 false "" "" q7, Field.mk "Day" q9 (1 : Nat) false "" "" (8 : Nat), Field.mk "Account" q9 (2 : Nat) false "" "" (16 : Nat), Field.mk "Amount" q9 q9 false "" "" (24 : Nat)][q9]))) → amtB (Bal.amount b))) <|
      .ret (Sum.inl ((s.1.1, List.length q2, IntKind.wrap IntKind.i64 (s.1.2.2 + (1 : Int))), PUnit.unit, q1, decF rBal (List.length q2) (encF rBal q2), PUnit.unit))) (
      .ret (Sum.inl ((s.1.1, s.1.2.1, IntKind.wrap IntKind.i64 (s.1.2.2 + (1 : Int))), PUnit.unit, q1, decF rBal q8 q13, PUnit.unit)))) (
    .ret (Sum.inr (s.1.2.1, PUnit.unit, decF rBal q8 q13, PUnit.unit)))) := fun s => by kernel_rfl
noncomputable def K.L_ba := lim K.st_ba
noncomputable def BLAb1 : Tab := BLAa1.addNode 38 73 (nodeE [10, 7, 9, 1, 6] S_ba X_ba (fun s => .obs (K.L_ba s) .ret))
theorem tLAb1 : TabOk P BLAb1 := TabOk.addLoop (d := 30) okP tLAa1 (by kernel_rfl) (by kernel_rfl) (fun s r h => obs_ret h)
theorem fn_rbal : ∀ a, (callT1 P BLAb1 30 38 D_l3 (dAgg lHeld)) a = T.run (
 let q3 := (0 : Nat);
 let q1 := keepV (decF rItem (List.length a.1) fun i => encF rItem a.1 (q3 + i)) a.2.2;
 let q2 := q1.1;
  .br (q1.2 != (0 : Int)) (
    .ret (([], q1.2))) (
    .br (!r_day a.2.1) (
      .ret (([], (1 : Int)))) (
      .obs (L_ba ((a.2.1, q3, (0 : Int)), PUnit.unit, (RBk.mk (RBk.closed q2) (decF rPost (List.length (RBk.p q2)) fun i => encF rPost (RBk.p q2) (q3 + i)) (decF rInt (List.length (RBk.refused q2)) fun i => encF rInt (RBk.refused q2) (q3 + i)) (decN nBill (List.length (RBk.bills q2)) fun i => encN nBill (RBk.bills q2) (q3 + i)) (decF rBal (List.length (RBk.paid q2)) fun i => encF rBal (RBk.paid q2) (q3 + i)) (decF rBal (List.length (RBk.bonds q2)) fun i => encF rBal (RBk.bonds q2) (q3 + i)) (decF rItem (List.length (RBk.stands q2)) fun i => encF rItem (RBk.stands q2) (q3 + i)), q1.2), decF rBal q3 fun _x _x_1 => AV.top, PUnit.unit)) fun x0 =>
        .ret ((decF rBal (List.length x0.2.2.1) fun i => encF rBal x0.2.2.1 (q3 + i), (0 : Int)))))) := fun a => by kernel_rfl
end Go.Proofs.YtelpdkojdfnmiaaGreat
/-! LAc -/
namespace Go.Proofs.YtelpdkojdfnmiaaGreat
open Ev K
set_option maxRecDepth 100000
end Go.Proofs.YtelpdkojdfnmiaaGreat
/-! LAd -/
namespace Go.Proofs.YtelpdkojdfnmiaaGreat
open Ev K
set_option maxRecDepth 100000
namespace K
theorem r_account_iff (n : Int) : r_account n = true ↔ acOk n := by
  unfold r_account acOk r_other
  by_cases h : r_within (n, 1, 3) = true
  · rw [if_pos h]
    have := (r_within_iff n 1 3).1 h
    exact ⟨fun _ => by omega, fun _ => rfl⟩
  · rw [if_neg h]
    have h' := mt (r_within_iff n 1 3).2 h
    rw [r_within_iff]; omega
theorem ask_cons (l : List Itm) (day : Int) (days : List Int) : askedV l (day :: days) = if askedV l days = 0 then (if dayOk day then 0 else 1) else askedV l days := by
  unfold askedV
  by_cases hc : checkV l = 0
  · simp only [hc, ne_eq, not_true, if_false]
    by_cases hd : ∀ n ∈ days, dayOk n
    · rw [if_pos hd, if_pos rfl]
      by_cases h : dayOk day
      · rw [if_pos h, if_pos (fun n hn => by rcases List.mem_cons.1 hn with e | e; exact e ▸ h; exact hd n e)]
      · rw [if_neg h, if_neg (fun e => h (e day (List.mem_cons_self ..)))]
    · rw [if_neg hd, if_neg (show ¬ (1 : Int) = 0 by decide), if_neg (fun e => hd fun n hn => e n (List.mem_cons_of_mem _ hn))]
  · rw [if_pos hc, if_pos hc, if_neg hc]
theorem ps_keep {l : List Itm} (hc : checkV l = 0) (known : Int) : psOk (keepR l known).p = true := by rw [kr_p hc]; exact chk_bal hc known
theorem not_t {b : Bool} {p : Prop} (h : b = true ↔ p) (hp : ¬ p) : (!b) = true := by
  rw [Bool.not_eq_true', ← Bool.not_eq_true]; exact fun e => hp (h.1 e)
theorem not_f {b : Bool} {p : Prop} (h : b = true ↔ p) (hp : p) : (!b) = false := by rw [h.2 hp]; rfl
theorem rhold_eq (a : List Itm × Int × Int × Int) : callT1 P BLAa1 30 37 D_l4 R_ii a = some (holdV a.1 a.2.1 a.2.2.1 a.2.2.2) := by
  obtain ⟨l, acc, day, known⟩ := a
  rw [fn_rhold]
  simp only [Nat.zero_add, decF_encF]
  unfold holdV holdE
  rw [ask_cons]
  by_cases h : askedV l [known] = 0
  · have hc := (ask_check h).1
    rw [keep_ok h, if_pos h]
    refine br_f rfl ?_
    by_cases hd : dayOk day
    · rw [if_pos hd]
      refine br_f (not_f (r_day_iff day) hd) ?_
      unfold orV accountE
      by_cases ha : acOk acc
      · refine br_f (not_f (r_account_iff acc) ha) (chk_step (ps_keep hc known) ?_)
        rw [if_pos ha, kr_p hc, look_sum]; rfl
      · rw [if_neg ha]; exact br_t (not_t (r_account_iff acc) ha) rfl
    · rw [if_neg hd]; exact br_t (not_t (r_day_iff day) hd) rfl
  · rw [keep_bad h, if_neg h]
    have e : orV (askedV l [known]) (accountE acc) = askedV l [known] := if_pos h
    rw [e, if_neg h]
    exact br_t (ne_t h) rfl
end K
end Go.Proofs.YtelpdkojdfnmiaaGreat
/-! LAe -/
namespace Go.Proofs.YtelpdkojdfnmiaaGreat
open Ev K
set_option maxRecDepth 100000
namespace K
theorem L_ba_eq {b : RBk} (e day : Int) (hl : b.p.length ≤ 1000) (ha : ∀ p ∈ b.p, amtOk p.amount) : ∀ (d i : Nat) (out : List Bal), i + d = b.p.length → out.length ≤ i → (∀ y ∈ out, -((i : Int) * 16777216) ≤ y.amount ∧ y.amount ≤ (i : Int) * 16777216) →
    L_ba ((day, out.length, (i : Int)), (), (b, e), out, ()) = some (((b.p.drop i).foldl (balStep day) out).length, (), (b.p.drop i).foldl (balStep day) out, ()) := by
  intro d
  induction d with
  | zero =>
    intro i out h ho hb
    refine lim_done ?_
    rw [sl_ba]
    simp only [cS (show b.p.length ≤ 1000000 by omega), decF_encF]
    refine br_f (decide_eq_false (by omega)) ?_
    rw [List.drop_of_length_le (by omega)]; rfl
  | succ d ih =>
    intro i out h ho hb
    have hi : i < b.p.length := by omega
    have hx := List.getElem?_eq_getElem hi
    have hm := ha _ (List.getElem_mem hi)
    rw [List.drop_eq_getElem_cons hi, List.foldl_cons]
    generalize b.p[i] = x at hx hm
    unfold amtOk at hm
    have w : IntKind.i64.wrap ((i : Int) + 1) = ((i + 1 : Nat) : Int) := by rw [w64_in (by omega) (by omega)]; rfl
    have hlen := moreB_len out x.account x.amount
    have hbd := moreB_bd ((i : Int) * 16777216) 16777216 (by omega) (by omega) x.account x.amount (by omega) out hb
    refine (lim_step ?_).trans (ih (i + 1) (balStep day out x) (by omega) (by unfold balStep; split <;> omega) (by
      unfold balStep; split
      · intro y hy; have := hbd y hy; omega
      · intro y hy; have := hb y hy; omega))
    rw [sl_ba]
    simp only [cS (show b.p.length ≤ 1000000 by omega), Int.toNat_natCast, Nat.zero_add, post_at hx, pw1, pw2, pw3, decF_encF, decN_encN, w]
    refine br_t (decide_eq_true (by omega)) (chk_step (decide_eq_true (by omega)) ?_)
    unfold balStep
    by_cases hd : x.day ≤ day
    · rw [if_pos hd]
      exact br_t (decide_eq_true hd) (chk_step (decide_eq_true (by omega)) (chk_step (decide_eq_true (by omega)) (chk_step (decide_eq_true ⟨by omega, by unfold amtB; omega, fun y hy => by have := hb y hy; unfold amtB; omega⟩) rfl)))
    · rw [if_neg hd]
      exact br_f (decide_eq_false hd) rfl
theorem rbal_eq (a : List Itm × Int × Int) : callT1 P BLAb1 30 38 D_l3 (dAgg lHeld) a = some (balancesV a.1 a.2.1 a.2.2) := by
  obtain ⟨l, day, known⟩ := a
  rw [fn_rbal]; unfold balancesV
  simp only [Nat.zero_add, decF_encF, decN_encN]
  rw [ask_cons]
  by_cases h : askedV l [known] = 0
  · have hc := (ask_check h).1
    rw [keep_ok h, if_pos h]
    refine br_f rfl ?_
    by_cases hd : dayOk day
    · rw [if_pos hd]
      refine br_f (not_f (r_day_iff day) hd) ?_
      obtain ⟨g1, g2⟩ := of_decide_eq_true (ps_keep hc known)
      rw [if_pos rfl, listB_sum, ← kr_p hc]
      generalize keepR l known = b at g1 g2
      have key := L_ba_eq (b := b) 0 day g1 g2 b.p.length 0 [] (by omega) (by simp) (by simp)
      refine obs_step key ?_
      simp only [List.drop_zero]; rfl
    · rw [if_neg hd]; exact br_t (not_t (r_day_iff day) hd) rfl
  · rw [keep_bad h, if_neg h, if_neg h]
    exact br_t (ne_t h) rfl
end K
end Go.Proofs.YtelpdkojdfnmiaaGreat
/-! LAt -/
namespace Go.Proofs.YtelpdkojdfnmiaaGreat
open Ev K
set_option maxRecDepth 100000
noncomputable def BLAt1 : Tab := BLAa1.addCall 37 (callE D_l4 R_ii (fun a => .ret (K.holdV a.1 a.2.1 a.2.2.1 a.2.2.2)))
theorem tLAt1 : TabOk P BLAt1 := TabOk.addPC tLAa1 (fun a r h => by rw [← ret_some h]; exact call_of okP tLAa1 (K.rhold_eq a))
noncomputable def BLAt2 : Tab := BLAt1.addCall 38 (callE D_l3 (dAgg lHeld) (fun a => .ret (K.balancesV a.1 a.2.1 a.2.2)))
theorem tLAt2 : TabOk P BLAt2 := TabOk.addPC tLAt1 (fun a r h => by rw [← ret_some h]; exact call_of okP tLAb1 (K.rbal_eq a))
end Go.Proofs.YtelpdkojdfnmiaaGreat
/-! LAh -/
namespace Go.Proofs.YtelpdkojdfnmiaaGreat
open Ev K
set_option maxRecDepth 100000
def S_ro := DecS.ghost 8 38 2 [.int .i64, .int .i64] (DecS.mk0 (.skips 6 (.unit (dLp 0 0 0 0) (.unit (dLp 1 0 0 0) (.cons (dO 2) (.last (dInt) 41))))) (.flat 63 (.tops 2) (.flat 63 lHeld (.rows 38 rBal .nil))))
def X_ro := DecX.one (.exit 0) [6, 7, 8] (DecS.mk0 (.skips 6 (.unit (dLp 0 0 0 0) (.unit (dLp 1 0 0 0) (.last (dO 2) 42)))) (.flat 63 (.tops 2) (.flat 63 lHeld (.rows 38 rBal .nil))))
noncomputable def K.st_ro := loopT1 P BLAt2 30 40 33 [9, 7, 8, 6] S_ro X_ro
theorem sl_ro : ∀ s, (K.st_ro) s = T.run (
 let q6 := s.2.2.1.1;
 let q1 := (decF rBal (List.length q6) fun i => encF rBal q6 ((0 : Nat) + i), s.2.2.1.2);
 let q5 := s.2.2.2.1;
 let q2 := Sum.inl ((s.1.1, IntKind.wrap IntKind.i64 (s.1.2 + (1 : Int))), PUnit.unit, q1, decF rBal (List.length q5) (encF rBal q5), PUnit.unit);
 let q3 := decide ((0 : Int) ≤ s.1.2 ∧ s.1.2 < (↑(List.length q6) : Int));
 let q4 := (0 : Nat) + Int.toNat s.1.2;
  .br (decide (s.1.2 < (↑(clampL (List.length q6)) : Int))) (
    .chk q3 <|
    .br (r_other (numOf (encF rBal q6 q4 (nat_lit 0)))) (
      .chk q3 <|
      .br (decide (numOf (encF rBal q6 q4 (nat_lit 1)) > (0 : Int))) (
        .chk q3 <|
        .chk (decide ((List.length q5 + (1 : Nat)) * (16 : Nat) ≤ (140737488355328 : Nat) ∧ List.length q5 + (1 : Nat) ≤ nat_lit 9223372036854775807)) <|
        .ret (Sum.inl ((List.length q5 + (1 : Nat), IntKind.wrap IntKind.i64 (s.1.2 + (1 : Int))), PUnit.unit, q1, decF rBal (List.length q5 + (1 : Nat)) (appG (List.length q5) (encF rBal q5) fun i k => Option.getD [AV.int IntKind.i64 (numOf (encF rBal q6 q4 (0 : Nat))), AV.int IntKind.i64 (numOf (encF rBal q6 q4 (nat_lit 1)))][((0 : Nat) + i) * (2 : Nat) + k]? AV.top), PUnit.unit))) (
        .ret q2)) (
      .ret q2)) (
    .ret (Sum.inr (s.1.1, PUnit.unit, q1, decF rBal (List.length q5) (encF rBal q5), PUnit.unit)))) := fun s => by kernel_rfl
noncomputable def K.L_ro := lim K.st_ro
noncomputable def BLAh1 : Tab := BLAt2.addNode 40 33 (nodeE [9, 7, 8, 6] S_ro X_ro (fun s => .obs (K.L_ro s) .ret))
theorem tLAh1 : TabOk P BLAh1 := TabOk.addLoop (d := 30) okP tLAt2 (by kernel_rfl) (by kernel_rfl) (fun s r h => obs_ret h)
theorem fn_row : ∀ a, (callT1 P BLAh1 30 40 D_l3 (dAgg lHeld)) a = T.run (
  .obs (L_ro (((0 : Nat), (0 : Int)), PUnit.unit, (decF rBal (List.length (Prod.fst (balancesV (decF rItem (List.length a.1) fun i => encF rItem a.1 ((0 : Nat) + i)) a.2.1 a.2.2))) fun i => encF rBal (Prod.fst (balancesV (decF rItem (List.length a.1) fun i => encF rItem a.1 ((0 : Nat) + i)) a.2.1 a.2.2)) ((0 : Nat) + i), Prod.snd (balancesV (decF rItem (List.length a.1) fun i => encF rItem a.1 ((0 : Nat) + i)) a.2.1 a.2.2)), decF rBal (0 : Nat) fun _x _x_1 => AV.top, PUnit.unit)) fun x0 =>
    .ret ((decF rBal (List.length x0.2.2.2.1) fun i => encF rBal x0.2.2.2.1 ((0 : Nat) + i), x0.2.2.1.2))) := fun a => by kernel_rfl
end Go.Proofs.YtelpdkojdfnmiaaGreat
/-! LAi -/
namespace Go.Proofs.YtelpdkojdfnmiaaGreat
open Ev K Go.Own
set_option maxRecDepth 100000
namespace Ev
def alias0 (j : Nat) : AV → AV
  | .nilsl => .osl j 0 0
  | x => x
def ghostA (t : Nat) (e : TypeId) (wd : Nat) (tags : List CK) (st : St) : St :=
  match st.env[t]? with
  | some .nilsl => match Nat.blt 0 wd with
    | true => { st with env := st.env.map (alias0 st.loc.length), sav := st.sav.map (alias0 st.loc.length), loc := st.loc ++ [.list e wd 0 0 ⟨tags, fun _ _ => .top⟩] }
    | false => st
  | _ => st
theorem alias0_rel {w : World} {A : Nat → Prop} {r : Rr} {j : Nat} (hj : VR w A r (.osl j 0 0) (.slice (slBase 0) 0 0)) {x : AV} {u : Value} (h : VR w A r x u) : VR w A r (alias0 j x) u := by
  cases x <;> first | exact h | skip
  cases h; exact hj
theorem alias0_rels {w : World} {A : Nat → Prop} {r : Rr} {j : Nat} (hj : VR w A r (.osl j 0 0) (.slice (slBase 0) 0 0)) {xs : List AV} {us : Array Value} (h : VRs w A r xs us) : VRs w A r (xs.map (alias0 j)) us := by
  refine ⟨by rw [List.length_map]; exact h.1, fun i x u hx hu => ?_⟩
  rw [List.getElem?_map] at hx
  cases hy : xs[i]? with
  | none => rw [hy] at hx; cases hx
  | some y =>
    rw [hy] at hx
    injection hx with hx; subst hx
    exact alias0_rel hj (h.2 i y u hy hu)
theorem ghostA_tidy (t : Nat) (e : TypeId) (wd : Nat) (tags : List CK) (st : St) : Tidy st (ghostA t e wd tags st) := by
  unfold ghostA
  split
  · rename_i ht
    split
    · rename_i hwd
      refine ⟨rfl, fun X yl A0 r ds sv a w h => ?_⟩
      have e1 : ghost1 t e wd tags st = { st with env := st.env.set t (.osl st.loc.length 0 0), loc := st.loc ++ [.list e wd 0 0 ⟨tags, fun _ _ => .top⟩] } := by
        unfold ghost1; rw [ht]; simp only [hwd]
      obtain ⟨_, hg⟩ := ghost1_tidy t e wd tags st
      rw [e1] at hg
      obtain ⟨u, hu, hnil⟩ := h.env.get ht
      have hu' : u = .slice (slBase 0) 0 0 := by cases hnil; rfl
      obtain ⟨r', k⟩ := hg X yl A0 r ds sv a w h
      have hlt : t < st.env.length := (List.getElem?_eq_some_iff.1 ht).1
      have hj : VR w (AR A0 r' ds) r' (.osl st.loc.length 0 0) (.slice (slBase 0) 0 0) := by
        rw [← hu']
        exact k.env.2 t _ _ (List.getElem?_set_self hlt) hu
      have ee : (st.env.set t (.osl st.loc.length 0 0)).map (alias0 st.loc.length) = st.env.map (alias0 st.loc.length) := by
        rw [List.map_set]
        apply List.ext_getElem?
        intro i
        rw [List.getElem?_set]
        split
        · rename_i e2; subst e2
          split
          · rw [List.getElem?_map, ht]; rfl
          · rename_i h3; exact absurd (by rw [List.length_map]; exact hlt) h3
        · rfl
      refine ⟨r', ?_, alias0_rels hj k.sav, k.mem, k.dom, k.domL, k.inj, k.injL, k.sep, k.dis, k.lt, k.sepD, k.a0, k.inv, k.clo, k.dfr, k.dnd, k.dok, k.ylv⟩
      have := alias0_rels hj k.env
      rw [ee] at this; exact this
    · exact ⟨rfl, fun X yl A0 r ds sv a w h => ⟨r, h⟩⟩
  · exact ⟨rfl, fun X yl A0 r ds sv a w h => ⟨r, h⟩⟩
theorem ghostA_len (t : Nat) (e : TypeId) (wd : Nat) (tags : List CK) (st : St) : (ghostA t e wd tags st).env.length = st.env.length := by
  unfold ghostA
  split
  · split
    · simp
    · rfl
  · rfl
def DecS.ghostA {σ : Type} (t : Nat) (e : TypeId) (wd : Nat) (tags : List CK) (D : DecS σ) : DecS σ where
  enc := D.enc
  dec st := forceS st fun st => forceS (Ev.ghostA t e wd tags st) fun s1 => forceS (prune (List.range s1.env.length) s1) D.dec
  ok st s h := by
    rw [forceS_eq, forceS_eq, forceS_eq] at h
    exact (ghostA_tidy t e wd tags st).trans ((prune_tidy _ _).trans (D.ok _ _ h))
  len st s h := by
    rw [forceS_eq, forceS_eq, forceS_eq] at h
    rw [D.len _ _ h, prune_len, ghostA_len]
end Ev
def dBal : Dec Bal := dAgg ((DecL.cons dInt (.last dInt 0)).iso (fun p => ⟨p.1, p.2⟩) (fun b => (b.account, b.amount)) (fun _ => rfl))
def D_b1 := DecL.last dBal 0
theorem fn_l_ow : ∀ a, (callT1 P BLAh1 30 80 D_b1 dB) a = T.run (
  .br (!l_other (Bal.account a)) (
    .ret (true)) (
    .ret (decide (Bal.amount a ≤ (0 : Int))))) := fun a => by kernel_rfl
noncomputable def K.l_ow (a : Bal) : Bool := (if (!l_other (Bal.account a)) = true then true else decide (Bal.amount a ≤ (0 : Int)))
theorem eq_l_ow (a : Bal) : (callT1 P BLAh1 30 80 D_b1 dB) a = some (K.l_ow a) := (fn_l_ow a).trans (T.br_some rfl rfl)
noncomputable def BLAi1 : Tab := BLAh1.addCall 80 (callE D_b1 dB (fun a => .ret (K.l_ow a)))
theorem tLAi1 : TabOk P BLAi1 := TabOk.addFn (d := 30) okP tLAh1 (fun a r h => by rw [eq_l_ow]; exact congrArg some (ret_some h))
noncomputable def BLAi2 : Tab := BLAi1.addInl 21
theorem tLAi2 : TabOk P BLAi2 := TabOk.addInl tLAi1
noncomputable def BLAi3 : Tab := BLAi2.addInl 79
theorem tLAi3 : TabOk P BLAi3 := TabOk.addInl tLAi2
noncomputable def BLAi4 : Tab := BLAi3.addInl 110
theorem tLAi4 : TabOk P BLAi4 := TabOk.addInl tLAi3
def F_ow : Dec Unit := dFn 80 (.tops 0)
def O_bal : DecB (List Bal × Unit) := .rows 38 rBal .nil
def V_ow2 : DecL (Nat × Int) := (.cons (dO 0) (.unit (F_ow) (.skips 49 (.last (dInt) 10))))
def V_ow1 : DecL Int := (.skips 9 (.last (dInt) 10))
def S_ix := DecS.ghostA 0 38 2 [.int .i64, .int .i64] (DecS.rnd (.cons (dO 0) (.unit (F_ow) (.skips 5 (.cons (dInt) (.last (dInt) 10))))) O_bal V_ow2)
def X_ix := DecX.or (DecX.one (.exit 0) [] (DecS.rnd (.tops 19) O_bal V_ow2)) (DecX.one .ret [4] (DecS.rnd (.skips 4 (.last (dInt) 14)) O_bal V_ow2))
noncomputable def K.st_ix := loopT1 P BLAi4 30 110 17 [8, 0, 1, 7] S_ix X_ix
theorem sl_ix : ∀ s, (K.st_ix) s = T.run (
  .br (decide (s.1.2.2 < s.1.2.1)) (
    .chk (decide ((0 : Int) ≤ s.1.2.2 ∧ s.1.2.2 < (↑s.1.1 : Int))) <|
    .br (l_ow (Bal.mk (numOf (encF rBal s.2.1.1 (Int.toNat s.1.2.2) (0 : Nat))) (numOf (encF rBal s.2.1.1 (Int.toNat s.1.2.2) (nat_lit 1))))) (
      .ret (Sum.inr (Sum.inr (s.1.2.2, (decF rBal (List.length s.2.1.1) (encF rBal s.2.1.1), PUnit.unit), s.2.2)))) (
      .ret (Sum.inl ((s.1.1, s.1.2.1, IntKind.wrap IntKind.i64 (s.1.2.2 + (1 : Int))), (decF rBal (List.length s.2.1.1) (encF rBal s.2.1.1), PUnit.unit), s.2.2)))) (
    .ret (Sum.inr (Sum.inl (PUnit.unit, (decF rBal (List.length s.2.1.1) (encF rBal s.2.1.1), PUnit.unit), s.2.2))))) := fun s => by kernel_rfl
noncomputable def K.L_ix := lim K.st_ix
noncomputable def BLAi5 : Tab := BLAi4.addNode 110 17 (nodeE [8, 0, 1, 7] S_ix X_ix (fun s => .obs (K.L_ix s) .ret))
theorem tLAi5 : TabOk P BLAi5 := TabOk.addLoop (d := 30) okP tLAi4 (by kernel_rfl) (by kernel_rfl) (fun s r h => obs_ret h)
def S_de := DecS.rnd (.cons (dO 0) (.unit (F_ow) (.skips 3 (.cons (dInt) (.last (dInt) 35))))) O_bal V_ow1
def X_de := DecX.one (.exit 0) [0, 5] (DecS.rnd (.cons (dO 0) (.skips 4 (.last (dInt) 36))) O_bal V_ow1)
noncomputable def K.st_de := loopT1 P BLAi5 30 79 41 [6, 5, 0, 1] S_de X_de
theorem sl_de : ∀ s, (K.st_de) s = T.run (
 let q1 := (decF rBal (List.length s.2.1.1) (encF rBal s.2.1.1), PUnit.unit);
 let q2 := numOf (encF rBal s.2.1.1 (Int.toNat s.1.2.2) (nat_lit 1));
 let q3 := numOf (encF rBal s.2.1.1 (Int.toNat s.1.2.2) (0 : Nat));
  .br (decide (s.1.2.2 < (↑s.1.1 : Int))) (
    .chk (decide ((0 : Int) ≤ s.1.2.2 ∧ s.1.2.2 < (↑s.1.1 : Int))) <|
    .br (!l_ow (Bal.mk q3 q2)) (
      .chk (decide ((0 : Int) ≤ s.1.2.1 ∧ s.1.2.1 < (↑s.1.1 : Int))) <|
      .ret (Sum.inl ((s.1.1, IntKind.wrap IntKind.i64 (s.1.2.1 + (1 : Int)), IntKind.wrap IntKind.i64 (s.1.2.2 + (1 : Int))), (decF rBal (List.length s.2.1.1) (setR (Int.toNat s.1.2.1) (0 : Nat) (nat_lit 2) [AV.int IntKind.i64 q3, AV.int IntKind.i64 q2] (encF rBal s.2.1.1)), PUnit.unit), s.2.2))) (
      .ret (Sum.inl ((s.1.1, s.1.2.1, IntKind.wrap IntKind.i64 (s.1.2.2 + (1 : Int))), q1, s.2.2)))) (
    .ret (Sum.inr ((s.1.1, s.1.2.1), q1, s.2.2)))) := fun s => by kernel_rfl
noncomputable def K.L_de := lim K.st_de
noncomputable def BLAi6 : Tab := BLAi5.addNode 79 41 (nodeE [6, 5, 0, 1] S_de X_de (fun s => .obs (K.L_de s) .ret))
theorem tLAi6 : TabOk P BLAi6 := TabOk.addLoop (d := 30) okP tLAi5 (by kernel_rfl) (by kernel_rfl) (fun s r h => obs_ret h)
theorem fn_owing : ∀ a, (callT1 P BLAi6 30 39 D_l3 R_be) a = T.run (
 let q5 := (0 : Nat);
 let q3 := decF rItem (List.length a.1) fun i => encF rItem a.1 (q5 + i);
 let q1 := decF rPost (List.length (Bk.posts (readB q3 a.2.2))) fun i => encF rPost (Bk.posts (readB q3 a.2.2)) (q5 + i);
 let q2 := decF rPII (List.length (sumP q1 a.2.1)) (encF rPII (sumP q1 a.2.1));
 let q4 := decF rInt (2 : Nat) fun i k => Option.getD [AV.int IntKind.i64 a.2.1, AV.int IntKind.i64 a.2.2][(q5 + i) * (1 : Nat) + k]? AV.top;
 let q6 := (0 : Int);
 let q7 := listB q2;
  .chk (decide (nat_lit 2 ≤ (1000 : Nat))) <|
  .br (askedV q3 q4 != q6) (
    .obs (L_ix ((q5, (↑q5 : Int), q6), (decF rBal q5 fun _x _x_1 => AV.top, PUnit.unit), q5, askedV q3 q4)) fun x0 =>
      .sum (x0) (fun x1 =>
        .ret ((decF rBal (List.length x1.2.1.1) fun i => encF rBal x1.2.1.1 (q5 + i), x1.2.2.2))) (fun x1 =>
        .br (x1.1 == (-1 : Int)) (
          .ret ((decF rBal (List.length x1.2.1.1) fun i => encF rBal x1.2.1.1 (q5 + i), x1.2.2.2))) (
          .obs (L_de ((x1.2.2.1, x1.1, IntKind.wrap IntKind.i64 (x1.1 + (1 : Int))), (decF rBal (List.length x1.2.1.1) (encF rBal x1.2.1.1), PUnit.unit), x1.2.2.2)) fun x2 =>
            .chk (true && decide (q6 ≤ x2.1.2 ∧ x2.1.2 ≤ (↑x2.1.1 : Int))) <|
            .chk (decide (Int.toNat x2.1.2 < List.length x2.2.1.1)) <|
            .chk (decide (q6 ≤ x2.1.2 ∧ x2.1.2 ≤ (↑x2.1.1 : Int)) && true) <|
            .ret ((decF rBal (Int.toNat x2.1.2 - q5) fun i => putR (Int.toNat x2.1.2) (x2.1.1 - Int.toNat x2.1.2) (encF rBal x2.2.1.1) (fun _x k => Option.getD [AV.int IntKind.i64 q6, AV.int IntKind.i64 q6][k]? AV.top) (q5 + i), x2.2.2))))) (
    .chk (rdOk q3) <|
    .chk (balOk q1) <|
    .chk (mapOk q2) <|
    .obs (L_ix ((List.length q7, (↑(List.length q7) : Int), q6), (decF rBal (List.length q7) (encF rBal q7), PUnit.unit), List.length q7, q6)) fun x0 =>
      .sum (x0) (fun x1 =>
        .ret ((decF rBal (List.length x1.2.1.1) fun i => encF rBal x1.2.1.1 (q5 + i), x1.2.2.2))) (fun x1 =>
        .br (x1.1 == (-1 : Int)) (
          .ret ((decF rBal (List.length x1.2.1.1) fun i => encF rBal x1.2.1.1 (q5 + i), x1.2.2.2))) (
          .obs (L_de ((x1.2.2.1, x1.1, IntKind.wrap IntKind.i64 (x1.1 + (1 : Int))), (decF rBal (List.length x1.2.1.1) (encF rBal x1.2.1.1), PUnit.unit), x1.2.2.2)) fun x2 =>
            .chk (true && decide (q6 ≤ x2.1.2 ∧ x2.1.2 ≤ (↑x2.1.1 : Int))) <|
            .chk (decide (Int.toNat x2.1.2 < List.length x2.2.1.1)) <|
            .chk (decide (q6 ≤ x2.1.2 ∧ x2.1.2 ≤ (↑x2.1.1 : Int)) && true) <|
            .ret ((decF rBal (Int.toNat x2.1.2 - q5) fun i => putR (Int.toNat x2.1.2) (x2.1.1 - Int.toNat x2.1.2) (encF rBal x2.2.1.1) (fun _x k => Option.getD [AV.int IntKind.i64 q6, AV.int IntKind.i64 q6][k]? AV.top) (q5 + i), x2.2.2)))))) := fun a => by kernel_rfl
end Go.Proofs.YtelpdkojdfnmiaaGreat
/-! LAj -/
namespace Go.Proofs.YtelpdkojdfnmiaaGreat
open Ev K
set_option maxRecDepth 100000
namespace K
noncomputable def owes (b : Bal) : Bool := !l_ow b
theorem owes_iff (b : Bal) : owes b = true ↔ r_other b.account = true ∧ b.amount > 0 := by
  unfold owes l_ow
  have e : r_other b.account = true ↔ l_other b.account = true := by rw [l_other_iff]; unfold r_other; exact r_within_iff _ _ _
  rw [e]
  cases h : l_other b.account with
  | false => simp
  | true => simp
theorem mid_at {P Q : List Bal} {x : Bal} : (P ++ x :: Q)[P.length]? = some x := by rw [List.getElem?_append_right (Nat.le_refl _), Nat.sub_self]; rfl
theorem decF_set2 (n i : Nat) (a b : Int) (f : Nat → Nat → AV) : decF rBal n (setR i 0 2 [.int .i64 a, .int .i64 b] f) = (decF rBal n f).set i ⟨a, b⟩ := by
  apply List.ext_getElem?
  intro j
  by_cases hj : j < n
  · rw [List.getElem?_set]
    simp only [decF, List.getElem?_map, List.getElem?_range hj, Option.map_some, List.length_map, List.length_range]
    by_cases e : i = j
    · subst e
      rw [if_pos rfl, if_pos hj]
      have hb : Nat.beq i i = true := by simp
      simp only [rBal, setR, hb]; rfl
    · rw [if_neg e]
      have hb : Nat.beq j i = false := by rw [← Bool.not_eq_true, Nat.beq_eq]; omega
      simp only [rBal, setR, hb]; rfl
  · rw [List.getElem?_eq_none (by simp [decF]; omega), List.getElem?_eq_none (by simp [decF]; omega)]
theorem decF_put2 (K X : List Bal) (m : Nat) (g : Nat → Nat → AV) : decF rBal K.length (fun t => putR K.length m (encF rBal (K ++ X)) g (0 + t)) = K := by
  refine Eq.trans (decF_ext (g := encF rBal K) fun i hi => ?_) (decF_encF rBal K)
  refine congrArg rBal.rd (funext fun k => ?_)
  unfold putR
  rw [Nat.zero_add, show (Nat.ble K.length i && Nat.blt i (K.length + m)) = false from by rw [← Bool.not_eq_true, Bool.and_eq_true, Nat.ble_eq, Nat.blt_eq]; omega]
  have h1 : (K ++ X)[i]? = some K[i] := by rw [List.getElem?_append_left hi, List.getElem?_eq_getElem hi]
  rw [balr_at h1, balr_at (List.getElem?_eq_getElem hi)]
theorem L_ix_eq (l : List Bal) (hl : l.length ≤ 1000000) (v : Nat × Int) : ∀ (d i : Nat), i + d = l.length →
    L_ix ((l.length, (l.length : Int), (i : Int)), (l, ()), v) = some (match (l.drop i).findIdx? l_ow with | none => .inl ((), (l, ()), v) | some j => .inr (((i + j : Nat) : Int), (l, ()), v)) := by
  intro d
  induction d with
  | zero =>
    intro i h
    refine lim_done ?_
    rw [sl_ix]
    simp only [decF_encF]
    refine br_f (decide_eq_false (by omega)) ?_
    rw [List.drop_of_length_le (by omega)]; rfl
  | succ d ih =>
    intro i h
    have hi : i < l.length := by omega
    have hx := List.getElem?_eq_getElem hi
    rw [List.drop_eq_getElem_cons hi, List.findIdx?_cons]
    generalize l[i] = x at hx
    have w : IntKind.i64.wrap ((i : Int) + 1) = ((i + 1 : Nat) : Int) := by rw [w64_in (by omega) (by omega)]; rfl
    cases hp : l_ow x with
    | true =>
      refine lim_done ?_
      rw [sl_ix]
      simp only [Int.toNat_natCast, balr_at hx, bw0, bw1, decF_encF]
      exact br_t (decide_eq_true (by omega)) (chk_step (decide_eq_true (by omega)) (br_t hp rfl))
    | false =>
      refine (lim_step ?_).trans ((ih (i + 1) (by omega)).trans ?_)
      · rw [sl_ix]
        simp only [Int.toNat_natCast, balr_at hx, bw0, bw1, decF_encF, w]
        exact br_t (decide_eq_true (by omega)) (chk_step (decide_eq_true (by omega)) (br_f hp rfl))
      · cases (l.drop (i + 1)).findIdx? l_ow with
        | none => rfl
        | some j =>
          show some (Sum.inr (((i + 1 + j : Nat) : Int), _)) = some (Sum.inr (((i + (j + 1) : Nat) : Int), _))
          rw [show i + 1 + j = i + (j + 1) by omega]
theorem L_de_eq (n : Nat) (e : Int) (hn : n ≤ 1000000) : ∀ (R K X : List Bal), X ≠ [] → K.length + X.length + R.length = n →
    ∃ X' : List Bal, X' ≠ [] ∧ (K ++ R.filter owes).length + X'.length = n ∧ L_de ((n, (K.length : Int), ((K.length + X.length : Nat) : Int)), (K ++ (X ++ R), ()), e) = some ((n, ((K ++ R.filter owes).length : Int)), (K ++ R.filter owes ++ X', ()), e) := by
  intro R
  induction R with
  | nil =>
    intro K X hX hl
    simp only [List.length_nil, Nat.add_zero] at hl
    refine ⟨X, hX, by simpa using hl, lim_done ?_⟩
    rw [sl_de]
    simp only [decF_encF, List.filter_nil, List.append_nil]
    exact br_f (decide_eq_false (by omega)) rfl
  | cons x R ih =>
    intro K X hX hl
    simp only [List.length_cons] at hl
    have hx : (K ++ (X ++ x :: R))[K.length + X.length]? = some x := by
      rw [← List.append_assoc, ← List.length_append]; exact mid_at
    have w1 : IntKind.i64.wrap ((K.length : Int) + 1) = ((K.length + 1 : Nat) : Int) := by rw [w64_in (by omega) (by omega)]; rfl
    have w2 : IntKind.i64.wrap (((K.length + X.length : Nat) : Int) + 1) = ((K.length + X.length + 1 : Nat) : Int) := by rw [w64_in (by omega) (by omega)]; rfl
    cases hp : owes x with
    | true =>
      obtain ⟨y, X1, rfl⟩ : ∃ y X1, X = y :: X1 := by
        cases X with
        | nil => exact absurd rfl hX
        | cons y X1 => exact ⟨y, X1, rfl⟩
      simp only [List.length_cons] at hl w2 hx
      have hset : (K ++ ((y :: X1) ++ x :: R)).set K.length ⟨x.account, x.amount⟩ = (K ++ [x]) ++ ((X1 ++ [x]) ++ R) := by
        rw [List.set_append_right _ _ (Nat.le_refl _), Nat.sub_self]; simp
      obtain ⟨X', g1, g2, g3⟩ := ih (K ++ [x]) (X1 ++ [x]) (by simp) (by simp only [List.length_append, List.length_singleton]; omega)
      rw [List.filter_cons_of_pos hp]
      have e1 : K ++ x :: R.filter owes = K ++ [x] ++ R.filter owes := by simp
      rw [e1]
      refine ⟨X', g1, g2, (lim_step ?_).trans g3⟩
      rw [sl_de]
      simp only [List.length_cons, Int.toNat_natCast, balr_at hx, bw0, bw1, decF_set2, decF_encF, w1, w2, hset]
      refine br_t (decide_eq_true (by omega)) (chk_step (decide_eq_true (by omega)) (br_t hp (chk_step (decide_eq_true (by omega)) ?_)))
      have l1 : (K ++ [x]).length = K.length + 1 := by simp
      have l2 : (X1 ++ [x]).length = X1.length + 1 := by simp
      rw [l1, l2, show K.length + (X1.length + 1) + 1 = K.length + 1 + (X1.length + 1) by omega]; rfl
    | false =>
      obtain ⟨X', g1, g2, g3⟩ := ih K (X ++ [x]) (by simp) (by simp only [List.length_append, List.length_singleton]; omega)
      rw [List.filter_cons_of_neg (by rw [hp]; exact Bool.false_ne_true)]
      refine ⟨X', g1, g2, (lim_step ?_).trans g3⟩
      rw [sl_de]
      simp only [Int.toNat_natCast, balr_at hx, bw0, bw1, decF_encF, w2]
      refine br_t (decide_eq_true (by omega)) (chk_step (decide_eq_true (by omega)) (br_f hp ?_))
      rw [List.length_append, List.length_singleton, List.append_assoc]; rfl
noncomputable def owingV (l : List Itm) (day known : Int) : List Bal × Int := ((balancesV l day known).1.filter owes, (balancesV l day known).2)
theorem bal_len (l : List Itm) (day known : Int) : (balancesV l day known).1.length ≤ 1000 := by
  unfold balancesV
  by_cases h : askedV l [day, known] = 0
  · rw [if_pos h, listB_sum]
    have hb := of_decide_eq_true (chk_bal (ask_check h).1 known)
    have := balR_len (readB l known).posts day
    show (balR _ _).length ≤ 1000
    omega
  · rw [if_neg h]; exact Nat.zero_le _
theorem owing_eq (a : List Itm × Int × Int) : callT1 P BLAi6 30 39 D_l3 R_be a = some (owingV a.1 a.2.1 a.2.2) := by
  obtain ⟨l, day, known⟩ := a
  have hlen := bal_len l day known
  rw [fn_owing]; unfold owingV
  unfold balancesV at hlen ⊢
  simp only [Nat.zero_add, decF_encF, dInt2]
  refine chk_step rfl ?_
  by_cases h : askedV l [day, known] = 0
  · have hb := chk_bal (ask_check h).1 known
    have hpl : (readB l known).posts.length ≤ 1000 := (of_decide_eq_true hb).1
    rw [if_pos h] at hlen ⊢
    rw [h]
    refine br_f rfl (chk_step (chk_rd (ask_check h).1) (chk_step hb (chk_step (sum_mapOk hpl day) ?_)))
    generalize listB (sumP (readB l known).posts day) = bs at hlen
    simp only at hlen
    have key := L_ix_eq bs (by omega) (bs.length, 0) bs.length 0 (by omega)
    rw [List.drop_zero] at key
    cases hf : bs.findIdx? l_ow with
    | none =>
      rw [hf] at key
      refine obs_step key ?_
      rw [List.findIdx?_eq_none_iff] at hf
      have e : bs.filter owes = bs := List.filter_eq_self.2 fun b hb => by unfold owes; rw [hf b hb]; rfl
      refine (T.run_inl _ _ _).trans ?_
      simp only [e]; rfl
    | some j =>
      rw [hf] at key
      rw [List.findIdx?_eq_some_iff_getElem] at hf
      obtain ⟨hj, h1, h2⟩ := hf
      refine obs_step key ?_
      refine (T.run_inr _ _ _).trans ?_
      have hsp : bs = bs.take j ++ ([bs[j]] ++ bs.drop (j + 1)) := by
        rw [List.singleton_append, ← List.drop_eq_getElem_cons hj, List.take_append_drop]
      have hk : (bs.take j).length = j := by rw [List.length_take]; omega
      obtain ⟨X', g1, g2, g3⟩ := L_de_eq bs.length 0 (by omega) (bs.drop (j + 1)) (bs.take j) [bs[j]] (by simp) (by rw [hk, List.length_singleton, List.length_drop]; omega)
      rw [← hsp, hk, List.length_singleton] at g3
      have hfil : bs.filter owes = bs.take j ++ (bs.drop (j + 1)).filter owes := by
        conv => lhs; rw [hsp]
        rw [List.filter_append, List.filter_append, List.filter_cons_of_neg (by unfold owes; rw [h1]; decide), List.filter_nil, List.nil_append]
        congr 1
        refine List.filter_eq_self.2 fun b hb => ?_
        obtain ⟨i, hi, e⟩ := List.getElem_of_mem hb
        rw [List.getElem_take] at e
        have := h2 i (by omega)
        unfold owes
        rw [← e]
        simpa using this
      rw [← hfil] at g2 g3
      have w : IntKind.i64.wrap (((0 + j : Nat) : Int) + 1) = ((j + 1 : Nat) : Int) := by rw [w64_in (by omega) (by omega)]; omega
      refine br_f (by rw [beq_eq_false_iff_ne]; show ((0 + j : Nat) : Int) ≠ -1; omega) ?_
      simp only [w]
      have g3' : L_de ((bs.length, ((0 + j : Nat) : Int), ((j + 1 : Nat) : Int)), (bs, ()), 0) = some ((bs.length, ((bs.filter owes).length : Int)), (bs.filter owes ++ X', ()), 0) := by rw [Nat.zero_add]; exact g3
      refine obs_step g3' ?_
      have hx1 : 1 ≤ X'.length := by
        cases X' with
        | nil => exact absurd rfl g1
        | cons _ _ => simp
      simp only [Int.toNat_natCast, Nat.sub_zero]
      refine chk_step (by rw [Bool.true_and]; exact decide_eq_true (by omega)) (chk_step (decide_eq_true (by rw [List.length_append]; omega)) (chk_step (by rw [Bool.and_true]; exact decide_eq_true (by omega)) ?_))
      have hpt := decF_put2 (bs.filter owes) X' (bs.length - (bs.filter owes).length) (fun x k => ([AV.int IntKind.i64 0, AV.int IntKind.i64 0][k]?).getD AV.top)
      simp only [Nat.zero_add] at hpt
      show some (_, (0 : Int)) = some (bs.filter owes, (0 : Int))
      rw [hpt]
  · rw [if_neg h] at hlen ⊢
    refine br_t (ne_t h) ?_
    have key := L_ix_eq [] (by decide) (0, askedV l [day, known]) 0 0 rfl
    refine obs_step key rfl
theorem L_ro_eq (bs : List Bal) (e : Int) (hl : bs.length ≤ 1000000) : ∀ (d i : Nat) (out : List Bal), i + d = bs.length → out.length ≤ i →
    L_ro ((out.length, (i : Int)), (), (bs, e), out, ()) = some ((out ++ (bs.drop i).filter owes).length, (), (bs, e), out ++ (bs.drop i).filter owes, ()) := by
  intro d
  induction d with
  | zero =>
    intro i out h ho
    refine lim_done ?_
    rw [sl_ro]
    simp only [cS hl, Nat.zero_add, decF_encF]
    refine br_f (decide_eq_false (by omega)) ?_
    rw [List.drop_of_length_le (by omega)]; simp; rfl
  | succ d ih =>
    intro i out h ho
    have hi : i < bs.length := by omega
    have hx := List.getElem?_eq_getElem hi
    rw [List.drop_eq_getElem_cons hi]
    generalize bs[i] = x at hx
    have w : IntKind.i64.wrap ((i : Int) + 1) = ((i + 1 : Nat) : Int) := by rw [w64_in (by omega) (by omega)]; rfl
    have push : decF rBal (out.length + 1) (appG out.length (encF rBal out) fun i k => ([(.int .i64 x.account : AV), .int .i64 x.amount][i * 2 + k]?).getD .top) = out ++ [x] := pushB out x.account x.amount
    cases hp : owes x with
    | true =>
      rw [List.filter_cons_of_pos hp]
      obtain ⟨h1, h2⟩ := (owes_iff x).1 hp
      have e2 : ∀ t : List Bal, out ++ x :: t = (out ++ [x]) ++ t := fun t => by simp
      rw [e2]
      refine (lim_step ?_).trans (ih (i + 1) (out ++ [x]) (by omega) (by simp; omega))
      rw [sl_ro]
      simp only [cS hl, Int.toNat_natCast, Nat.zero_add, balr_at hx, bw0, bw1, decF_encF, w, push]
      refine br_t (decide_eq_true (by omega)) (chk_step (decide_eq_true (by omega)) (br_t h1 (chk_step (decide_eq_true (by omega)) (br_t (decide_eq_true h2) (chk_step (decide_eq_true (by omega)) (chk_step (decide_eq_true (by omega)) ?_))))))
      rw [List.length_append]; rfl
    | false =>
      rw [List.filter_cons_of_neg (by rw [hp]; exact Bool.false_ne_true)]
      have hn := mt (owes_iff x).2 (by rw [hp]; exact Bool.false_ne_true)
      refine (lim_step ?_).trans (ih (i + 1) out (by omega) (by omega))
      rw [sl_ro]
      simp only [cS hl, Int.toNat_natCast, Nat.zero_add, balr_at hx, bw0, bw1, decF_encF, w]
      refine br_t (decide_eq_true (by omega)) (chk_step (decide_eq_true (by omega)) ?_)
      cases h1 : r_other x.account with
      | true => exact br_t rfl (chk_step (decide_eq_true (by omega)) (br_f (decide_eq_false fun h2 => hn ⟨h1, h2⟩) rfl))
      | false => exact br_f rfl rfl
theorem rowing_eq (a : List Itm × Int × Int) : callT1 P BLAh1 30 40 D_l3 (dAgg lHeld) a = some (owingV a.1 a.2.1 a.2.2) := by
  obtain ⟨l, day, known⟩ := a
  have hlen := bal_len l day known
  rw [fn_row]; unfold owingV
  simp only [Nat.zero_add, decF_encF]
  generalize balancesV l day known = v at hlen
  obtain ⟨bs, e⟩ := v
  have key := L_ro_eq bs e (by simp only at hlen; omega) bs.length 0 [] (by omega) (by simp)
  refine obs_step key ?_
  simp only [List.drop_zero, List.nil_append]; rfl
end K
noncomputable def BLAj1 : Tab := BLAh1.addCall 39 (callE D_l3 R_be (fun a => .ret (K.owingV a.1 a.2.1 a.2.2)))
theorem tLAj1 : TabOk P BLAj1 := TabOk.addPC tLAh1 (fun a r h => by rw [← ret_some h]; exact call_of okP tLAi6 (K.owing_eq a))
noncomputable def BLAj2 : Tab := BLAj1.addCall 40 (callE D_l3 (dAgg lHeld) (fun a => .ret (K.owingV a.1 a.2.1 a.2.2)))
theorem tLAj2 : TabOk P BLAj2 := TabOk.addPC tLAj1 (fun a r h => by rw [← ret_some h]; exact call_of okP tLAh1 (K.rowing_eq a))
theorem fn_lwHo : ∀ a, (callT1 P BLAj2 30 11 D_l4 dB) a = T.run (
 let q1 := decF rItem (List.length a.1) fun i => encF rItem a.1 ((0 : Nat) + i);
 let q4 := balancesV q1 a.2.2.1 a.2.2.2;
 let q8 := q4.1;
 let q2 := decF rBal (List.length q8) fun i => encF rBal q8 ((0 : Nat) + i);
 let q5 := owingV q1 a.2.2.1 a.2.2.2;
 let q9 := q5.1;
 let q3 := decF rBal (List.length q9) fun i => encF rBal q9 ((0 : Nat) + i);
 let q6 := holdV q1 a.2.1 a.2.2.1 a.2.2.2;
 let q7 := (1000000 : Nat);
  .br (!l_few q1) (
    .ret (true)) (
    .br (q6.1 == q6.1) (
      .br (q6.2 == q6.2) (
        .chk (decide (List.length q2 ≤ q7 ∧ List.length q2 ≤ q7)) <|
        .br (decide (q2 = decF rBal (List.length q8) fun i => encF rBal q8 ((0 : Nat) + i))) (
          .br (q4.2 == q4.2) (
            .chk (decide (List.length q3 ≤ q7 ∧ List.length q3 ≤ q7)) <|
            .br (decide (q3 = decF rBal (List.length q9) fun i => encF rBal q9 ((0 : Nat) + i))) (
              .ret (q5.2 == q5.2)) (
              .ret (false))) (
            .ret (false))) (
          .ret (false))) (
        .ret (false))) (
      .ret (false)))) := fun a => by kernel_rfl
end Go.Proofs.YtelpdkojdfnmiaaGreat
/-! LLe -/
namespace Go.Proofs.YtelpdkojdfnmiaaGreat
open Ev K
set_option maxRecDepth 100000
namespace K
theorem lwHo_eq (a : List Itm × Int × Int × Int) : callT1 P BLAj2 30 11 D_l4 dB a = some true := by
  obtain ⟨l, acc, day, known⟩ := a
  rw [fn_lwHo]
  simp only [Nat.zero_add, decF_encF]
  have h1 := bal_len l day known
  have h2 : (owingV l day known).1.length ≤ 1000 := Nat.le_trans (List.length_filter_le _ _) h1
  by_cases hfew : l_few l = true
  · refine br_f (by rw [hfew]; rfl) (br_t (beq_self_eq_true _) (br_t (beq_self_eq_true _) (chk_step (decide_eq_true (by omega)) (br_t (by simp) (br_t (beq_self_eq_true _) (chk_step (decide_eq_true (by omega)) (br_t (by simp) ?_)))))))
    show some _ = some true
    rw [beq_self_eq_true]
  · exact br_t (by rw [Bool.not_eq_true] at hfew; rw [hfew]; rfl) rfl
end K
end Go.Proofs.YtelpdkojdfnmiaaGreat
/-! LZa -/
namespace Go.Proofs.YtelpdkojdfnmiaaGreat
open Ev K
open Go.ChangeShapes Go.WideShapes Go.RowKit
set_option maxRecDepth 100000
theorem law_pc (a) : PC P 11 (D_l4.enc a) (.bool true) := by
  have h := lwHo_eq a
  exact call_of okP tLAj2 h
theorem ownP : ownKnob P.godebug = none := by kernel_rfl
theorem laidP : laidOutB P = true := by kernel_rfl
theorem ub : P.underlying 4 = some .bool := by kernel_rfl
theorem ledgerHolds_lifted (os : Os) (started : os.Started) (H : Type) (enc : TypeId × Value → H) :
    ReturnsInHanded {} Tryz.checked os 11 .any (Rows.ledgerHoldsSpec.pre6 enc Tryz.prog Tryz.f11 Rows.ledgerHoldsRow.domain false) (Rows.ledgerHoldsSpec.post enc Tryz.prog Tryz.f11 false true false false) := by
  refine returnsInHanded_of_change (C := Tryz.checked) ownP started (by kernel_rfl) Tryz.func11
    (ChangeSpec.witness6 (enc := enc) (C := Tryz.checked) false ⟨#[], #[.slice none 0 0, .int .i64 0, .int .i64 0, .int .i64 0], []⟩ 8 (by kernel_rfl) (by kernel_rfl) (by kernel_rfl) (by kernel_rfl)) ?_
  intro W base args ds gs before hval hW _ _
  refine law_contract (P := Tryz.prog) D_l4 laidP (by kernel_rfl) rfl (fun ds hd => ?_) (fun W' b sp hd => trodAll_mk1 (shut_bool ub true)) (fun W' => ok_one (by kernel_rfl) rfl (okWide_bool_mk ub true)) (fun W base args ds p hval hA => ?_) law_pc W base args ds gs before hval hW
  · rw [Tryz.params11] at hd
    match ds, hd with
    | [a, b, c, d], _ => rfl
  · rw [Tryz.params11] at hA hval
    obtain ⟨v0, vs0, d0, ds0, p0, q0, e0, _, _, h0, r0⟩ := trodAll_cons hA
    obtain ⟨v1, vs1, d1, ds1, p1, q1, e1, _, _, h1, r1⟩ := trodAll_cons r0
    obtain ⟨v2, vs2, d2, ds2, p2, q2, e2, _, _, h2, r2⟩ := trodAll_cons r1
    obtain ⟨v3, vs3, d3, ds3, p3, q3, e3, _, _, h3, r3⟩ := trodAll_cons r2
    obtain ⟨e4, _, _⟩ := trodAll_nil r3
    subst e4; subst e3; subst e2; subst e1
    have ha : args = #[v0, v1, v2, v3] := by apply Array.ext'; exact e0
    subst ha
    exact rdL_cons (rp_items (hval 0 _ v0 rfl rfl) h0) (rdL_cons (rp_int (hval 1 _ v1 rfl rfl) h1) (rdL_cons (rp_int (hval 2 _ v2 rfl rfl) h2) (rdL_last (rp_int (hval 3 _ v3 rfl rfl) h3))))
theorem ledgerHolds_holds : Rows.LedgerHoldsSaid :=
  OpenClaim.holds_of_wide 11 Tryz.f11 rfl rfl rfl rfl rfl rfl rfl ⟨rfl, rfl, rfl, rfl, rfl⟩ rfl rfl rfl rfl rfl (by kernel_rfl) Tryz.func11 (by kernel_rfl)
    (of_decide_eq_true (by kernel_rfl)) (by unfold Func.isWrapper; rw [if_neg (of_decide_eq_false (by kernel_rfl))]; exact ⟨rfl, rfl⟩)
    (fun os started H enc _ => ledgerHolds_lifted os started H enc)
#print axioms ledgerHolds_holds
end Go.Proofs.YtelpdkojdfnmiaaGreat
