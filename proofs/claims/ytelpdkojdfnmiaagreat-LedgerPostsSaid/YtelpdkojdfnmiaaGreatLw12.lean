/- LedgerPosts: for every input the law returns true, and the input reads as it did. No conditions. -/
import Derived.Test.YtelpdkojdfnmiaaGreatLw11
import Derived.Test.YtelpdkojdfnmiaaGreatRows
/-! LA4 -/
namespace Go.Proofs.YtelpdkojdfnmiaaGreat
open Ev K
set_option maxRecDepth 100000
namespace K
def kpO (l : List Itm) (b : RBk) : KpObj := ((), (b.closed, b.p.length, b.refused.length, b.bills.length, b.paid.length, b.bonds.length, b.stands.length), b.p, b.refused, b.bills, b.paid, b.bonds, b.stands, l, ())
theorem pushD (l : List Pst) (a b c d a' b' c' d' : Int) : decF rPost (l.length + 2) (appG l.length (encF rPost l) fun i k => ([(.int .i64 a : AV), .int .i64 b, .int .i64 c, .int .i64 d, .int .i64 a', .int .i64 b', .int .i64 c', .int .i64 d'][i * 4 + k]?).getD .top) = l ++ [⟨a, b, c, d⟩, ⟨a', b', c', d'⟩] := decF_app rPost l 2 _
theorem decN_app {ρ : Type} (R : RowN ρ) (l : List ρ) (m : Nat) (g : Nat → Nat → AV) : decN R (l.length + m) (appG l.length (encN R l) g) = l ++ decN R m g := by
  apply List.ext_getElem?
  intro i
  simp only [decN, List.getElem?_map]
  by_cases h : i < l.length
  · have e : appG l.length (encN R l) g i = encN R l i := by
      funext k; unfold appG; rw [show Nat.ble l.length i = false by rw [← Bool.not_eq_true, Nat.ble_eq]; omega]
    rw [List.getElem?_append_left h, List.getElem?_range (by omega), List.getElem?_eq_getElem h, Option.map_some, e, encN_at (List.getElem?_eq_getElem h), R.good]
  · have e : appG l.length (encN R l) g i = g (i - l.length) := by
      funext k; unfold appG; rw [show Nat.ble l.length i = true by rw [Nat.ble_eq]; omega]
    rw [List.getElem?_append_right (by omega), List.getElem?_map]
    by_cases h2 : i < l.length + m
    · rw [List.getElem?_range h2, List.getElem?_range (by omega), Option.map_some, Option.map_some, e]
    · rw [List.getElem?_eq_none (by simp; omega), List.getElem?_eq_none (by simp; omega)]; rfl
theorem pushR (l : List RB) (a b c u v : Int) : decN nBill (l.length + 1) (appG l.length (encN nBill l) fun i k => ([(.int .i64 a : AV), .int .i64 b, .int .i64 c, .xsl 2 1 ⟨[CK.int IntKind.i64, CK.int IntKind.i64], fun i k => ([(.int .i64 u : AV), .int .i64 v][i * 2 + k]?).getD .top⟩ 0 1 (some 1)][i * 4 + k]?).getD .top) = l ++ [⟨a, b, c, [⟨u, v⟩]⟩] := decN_app nBill l 1 _
theorem sl3 (x : RB) : nBill.wr x 3 = slOf rChg x.l := rfl
theorem setN {ρ : Type} (R : RowN ρ) (l : List ρ) (q : Nat) (y : ρ) (hq : q < l.length) (xs : List AV) (hx : R.rd (fun k => (xs[k]?).getD .top) = y) (hw : R.wd = xs.length) (hr : ∀ f g : Nat → AV, (∀ k, k < R.wd → f k = g k) → R.rd f = R.rd g) : decN R l.length (setR q 0 xs.length xs (appG 0 (fun _ _ => .top) (encN R l))) = l.set q y := by
  apply List.ext_getElem?
  intro i
  simp only [decN, List.getElem?_map, List.getElem?_set]
  by_cases h : i < l.length
  · rw [List.getElem?_range h, Option.map_some]
    by_cases e : q = i
    · subst e
      rw [if_pos rfl, if_pos hq, ← hx]
      congr 1
      apply hr
      intro k hk
      unfold setR
      have hb : (Nat.beq q q && (Nat.ble 0 k && Nat.blt k (0 + xs.length))) = true := by
        simp [Nat.blt_eq]; omega
      rw [hb]; simp
    · rw [if_neg e, List.getElem?_eq_getElem h]
      congr 1
      have e2 : setR q 0 xs.length xs (appG 0 (fun _ _ => .top) (encN R l)) i = encN R l i := by
        funext k; unfold setR
        have hb : (Nat.beq i q && (Nat.ble 0 k && Nat.blt k (0 + xs.length))) = false := by
          rw [show Nat.beq i q = false by rw [← Bool.not_eq_true, Nat.beq_eq]; exact fun h => e h.symm]; rfl
        rw [hb]; simp only
        unfold appG; rw [show Nat.ble 0 i = true by rw [Nat.ble_eq]; omega]; rfl
      rw [e2, encN_at (List.getElem?_eq_getElem h), R.good]
  · rw [List.getElem?_eq_none (by simp; omega)]
    by_cases e : q = i
    · subst e; exact absurd hq h
    · rw [if_neg e, List.getElem?_eq_none (by omega)]; rfl
theorem billI_ge (l : List RB) (n : Int) : decide (billI l n ≥ 0) = (billR l n).isSome := by
  unfold billI
  cases billR l n with
  | none => rfl
  | some q => simp only [Option.isSome_some, decide_eq_true_eq]; omega
theorem billI_lt (l : List RB) (n : Int) : decide (billI l n < 0) = !(billR l n).isSome := by
  unfold billI
  cases billR l n with
  | none => rfl
  | some q => simp only [Option.isSome_some, Bool.not_true, decide_eq_false_iff_not]; omega
set_option maxHeartbeats 0 in
theorem r_bad_eq {b : RBk} {x : Itm} (h1 : b.bills.length ≤ 1000) (h2 : b.paid.length ≤ 1000) (h3 : b.bonds.length ≤ 1000) (h4 : -1 ≤ b.closed) (h5 : b.closed ≤ 1000000) : r_bad (b, x) = some (badR b x) := by
  unfold r_bad
  have w1 : IntKind.i64.wrap (b.closed + 1) = b.closed + 1 := w64_in (by omega) (by omega)
  have g1 : decide (b.bills.length ≤ 1000) = true := decide_eq_true h1
  have g2 : decide (b.paid.length ≤ 1000) = true := decide_eq_true h2
  have g3 : decide (b.bonds.length ≤ 1000) = true := decide_eq_true h3
  simp only [Nat.zero_add, decF_encF, decN_encN, billI_ge, billI_lt, w1]
  unfold badR
  by_cases k7 : x.kind = 7
  · refine br_t (by rw [beq_iff_eq]; exact k7) ?_
    rw [if_pos k7]; rfl
  refine br_f (by rw [beq_eq_false_iff_ne]; exact k7) ?_
  rw [if_neg k7]
  refine chk_step g1 ?_
  by_cases c1 : b.closed + 1 > 728
  · refine br_t (decide_eq_true c1) ?_
    rw [decide_eq_true c1]; rfl
  refine br_f (decide_eq_false c1) ?_
  rw [decide_eq_false c1]
  by_cases k1 : x.kind = 1
  · refine br_t (by rw [beq_iff_eq]; exact k1) ?_
    cases hb : (billR b.bills x.bill).isSome <;> simp [k1, T.run]
  refine br_f (by rw [beq_eq_false_iff_ne]; exact k1) ?_
  by_cases k2 : x.kind = 2
  · refine br_t (by rw [beq_iff_eq]; exact k2) ?_
    cases hb : (billR b.bills x.bill).isSome <;> simp [k2, T.run]
  refine br_f (by rw [beq_eq_false_iff_ne]; exact k2) ?_
  by_cases k4 : x.kind = 4
  · refine br_t (by rw [beq_iff_eq]; exact k4) (chk_step g2 ?_)
    by_cases hb : heldB b.paid x.account < x.amount <;> simp [k4, hb, T.run]
  refine br_f (by rw [beq_eq_false_iff_ne]; exact k4) ?_
  by_cases k6 : x.kind = 6
  · refine br_t (by rw [beq_iff_eq]; exact k6) (chk_step g3 ?_)
    simp [k6, T.run]
  refine br_f (by rw [beq_eq_false_iff_ne]; exact k6) ?_
  simp [k1, k2, k4, k6, T.run]
theorem sl_len (l : List Chg) : slLen (slOf rChg l) = l.length := rfl
theorem sl_row (l : List Chg) : slRow (slOf rChg l) = 0 := rfl
theorem sl_f (l : List Chg) : slF (slOf rChg l) = encF rChg l := rfl
theorem last_amt (l : List Chg) (h : 1 ≤ l.length) : numOf (encF rChg l (l.length - 1) 1) = lastA l := by
  have hl : l[l.length - 1]? = some l[l.length - 1] := List.getElem?_eq_getElem (by omega)
  rw [encF_at hl]
  show (l[l.length - 1]).amount = _
  unfold lastA
  rw [List.getLastD_eq_getLast?, List.getLast?_eq_getElem?, hl]; rfl
theorem last_mem (l : List Chg) (h : 1 ≤ l.length) : ∃ c ∈ l, lastA l = c.amount := by
  refine ⟨l[l.length - 1], List.getElem_mem _, ?_⟩
  unfold lastA
  rw [List.getLastD_eq_getLast?, List.getLast?_eq_getElem?, List.getElem?_eq_getElem (by omega)]; rfl
theorem mendL (l : List Chg) (u v : Int) : decF rChg (l.length + 1) (fun i => appG l.length (appG 0 (fun _ _ => .top) fun i k => encF rChg l (0 + i) k) (fun i k => ([(.int .i64 u : AV), .int .i64 v][i * 2 + k]?).getD .top) (0 + i)) = l ++ [⟨u, v⟩] := by
  simp only [Nat.zero_add]
  refine decF_push' (l := l) ?_ _
  refine Eq.trans (decF_ext fun i _ => ?_) (decF_encF rChg l)
  rfl
theorem mendR (l : List RB) (q : Nat) (y : RB) (hq : q < l.length) (u v : Int) : decN nBill l.length (setR q 0 4 [.int .i64 y.number, .int .i64 y.day, .int .i64 y.account, .xsl 2 (y.l.length + 1) ⟨[CK.int IntKind.i64, CK.int IntKind.i64], appG y.l.length (appG 0 (fun _ _ => .top) fun i k => encF rChg y.l (0 + i) k) (fun i k => ([(.int .i64 u : AV), .int .i64 v][i * 2 + k]?).getD .top)⟩ 0 (y.l.length + 1) none] (appG 0 (fun _ _ => .top) (encN nBill l))) = l.set q { y with l := y.l ++ [⟨u, v⟩] } := by
  refine setN nBill l q _ hq [.int .i64 y.number, .int .i64 y.day, .int .i64 y.account, .xsl 2 (y.l.length + 1) ⟨[CK.int IntKind.i64, CK.int IntKind.i64], appG y.l.length (appG 0 (fun _ _ => .top) fun i k => encF rChg y.l (0 + i) k) (fun i k => ([(.int .i64 u : AV), .int .i64 v][i * 2 + k]?).getD .top)⟩ 0 (y.l.length + 1) none] ?_ rfl ?_
  · show (⟨y.number, y.day, y.account, decF rChg (y.l.length + 1) _⟩ : RB) = _
    rw [← mendL]; rfl
  · intro f g h
    show (⟨_, _, _, _⟩ : RB) = ⟨_, _, _, _⟩
    rw [h 0 (by decide), h 1 (by decide), h 2 (by decide), h 3 (by decide)]
structure KOk (n : Nat) (b : RBk) : Prop where
  c1 : -1 ≤ b.closed
  c2 : b.closed ≤ 1000000
  p : b.p.length ≤ 2 * n
  refused : b.refused.length ≤ n
  bills : b.bills.length ≤ n
  paid : b.paid.length ≤ n
  bonds : b.bonds.length ≤ n
  stands : b.stands.length ≤ n
  l : ∀ y ∈ b.bills, 1 ≤ y.l.length ∧ y.l.length ≤ n ∧ ∀ c ∈ y.l, -16777216 ≤ c.amount ∧ c.amount ≤ 16777216
  pa : ∀ y ∈ b.paid, -((n : Int) * 16777216) ≤ y.amount ∧ y.amount ≤ (n : Int) * 16777216
  bo : ∀ y ∈ b.bonds, -((n : Int) * 16777216) ≤ y.amount ∧ y.amount ≤ (n : Int) * 16777216
set_option maxHeartbeats 0 in
theorem kp_step {known : Int} {l : List Itm} {i : Nat} {b : RBk} {x : Itm} {n : Nat} (hx : l[i]? = some x) (hok : x.Ok) (hb : KOk n b) (hn : n ≤ 500) (hkn : x.known ≤ known) (hl : l.length ≤ 1000000) :
    st_kp ((known, l.length, (i : Int)), kpO l b) = some (.inl ((known, l.length, ((i + 1 : Nat) : Int)), kpO l (doneR b x))) := by
  rw [sl_kp]
  obtain ⟨hi, _⟩ := List.getElem?_eq_some_iff.1 hx
  obtain ⟨c1, c2, c3, c4, c5, c6, c7, c8, c9, ca, cb⟩ := hb
  obtain ⟨x1, x2, x3, x4, x5, x6, x7⟩ := hok
  have w3 : IntKind.i64.wrap ((i : Int) + 1) = ((i + 1 : Nat) : Int) := by rw [w64_in (by omega) (by omega)]; rfl
  have w1 : IntKind.i64.wrap (b.closed + 1) = b.closed + 1 := w64_in (by omega) (by omega)
  have w2 : IntKind.i64.wrap (0 - x.amount) = 0 - x.amount := w64_in (by omega) (by omega)
  have hbad := r_bad_eq (b := b) (x := x) (by omega) (by omega) (by omega) c1 c2
  have hmax : ∀ d : Int, (if b.closed + 1 > d then b.closed + 1 else d) = max d (b.closed + 1) := fun d => by split <;> omega
  have hid : (⟨x.id, x.known, x.kind, x.day, x.bill, x.account, x.amount⟩ : Itm) = x := rfl
  generalize ho : kpO l (doneR b x) = o
  simp only [kpO, Int.toNat_natCast, Nat.zero_add, item_at hx, wr0, wr1, wr2, wr3, wr4, wr5, wr6, decF_encF, decN_encN, w1, w2, w3, hmax, pushD, pushR, pushT, hid]
  refine br_t (decide_eq_true (by omega)) (chk_step (decide_eq_true (by omega)) (br_t (decide_eq_true (by omega)) (chk_step (decide_eq_true (by omega)) ?_)))
  refine obs_step hbad ?_
  have gp : decide ((b.p.length + 2) * 32 ≤ 140737488355328 ∧ b.p.length + 2 ≤ 9223372036854775807) = true := decide_eq_true (by omega)
  have hN : (n : Int) * 16777216 ≤ 8388608000 := by omega
  cases hbv : badR b x with
  | true =>
    refine br_t rfl (chk_step (decide_eq_true (by omega)) ?_)
    rw [← ho]; unfold doneR; rw [if_pos hbv]; rfl
  | false =>
  refine br_f rfl (chk_step (decide_eq_true (by omega)) ?_)
  have hnb : ¬(badR b x = true) := by rw [hbv]; exact Bool.false_ne_true
  by_cases k1 : x.kind = 1
  · refine br_t (by rw [beq_iff_eq]; exact k1) (chk_step (decide_eq_true (by omega)) (chk_step gp ?_))
    rw [← ho]; unfold doneR; rw [if_neg hnb]; simp only [if_pos k1, kpO, twoR, List.length_append, List.length_cons, List.length_nil]; rfl
  refine br_f (by rw [beq_eq_false_iff_ne]; exact k1) ?_
  by_cases k2 : x.kind = 2
  · refine br_t (by rw [beq_iff_eq]; exact k2) ?_
    have hq : ∃ q, billR b.bills x.bill = some q := by
      cases hq : billR b.bills x.bill with
      | some q => exact ⟨q, rfl⟩
      | none => exact absurd (by unfold badR; rw [hq]; simp [k2]) hnb
    obtain ⟨q, hq⟩ := hq
    obtain ⟨hlt, _, _⟩ := List.findIdx?_eq_some_iff_getElem.1 hq
    have hs := List.getElem?_eq_getElem hlt
    have eb : billI b.bills x.bill = (q : Int) := by unfold billI; rw [hq]
    obtain ⟨y1, y2, y3⟩ := c9 _ (List.getElem_mem hlt)
    have hg : b.bills.getD q default = b.bills[q] := by rw [List.getD_eq_getElem?_getD, hs]; rfl
    generalize b.bills[q] = y at hs y1 y2 y3 hg
    obtain ⟨c, hc, hla⟩ := last_mem y.l y1
    have hcb := y3 c hc
    have v0 : IntKind.i64.wrap ((y.l.length : Int) - 1) = ((y.l.length - 1 : Nat) : Int) := by rw [w64_in (by omega) (by omega)]; omega
    have v1 : IntKind.i64.wrap (x.amount - lastA y.l) = x.amount - lastA y.l := w64_in (by omega) (by omega)
    have v2 : IntKind.i64.wrap (0 - (x.amount - lastA y.l)) = 0 - (x.amount - lastA y.l) := w64_in (by omega) (by omega)
    simp only [eb, Int.toNat_natCast, encN_at hs, sl3, nb0, nb1, nb2, sl_len, sl_row, sl_f, cS (show y.l.length ≤ 1000000 by omega), v0, Nat.zero_add, last_amt y.l y1, v1, v2]
    refine chk_step (decide_eq_true (by omega)) (chk_step (decide_eq_true (by omega)) (chk_step (decide_eq_true (by omega)) (chk_step (decide_eq_true (by omega)) (chk_step (decide_eq_true (by omega)) (chk_step (decide_eq_true (by omega)) (chk_step (decide_eq_true (by omega)) (chk_step gp ?_)))))))
    have hm := mendR b.bills q y hlt x.known x.amount
    simp only [Nat.zero_add] at hm
    rw [hm, ← ho]; unfold doneR; rw [if_neg hnb]; simp only [if_neg k1, if_pos k2, hq, hg, kpO, twoR, List.length_append, List.length_cons, List.length_nil, List.length_set]; rfl
  refine br_f (by rw [beq_eq_false_iff_ne]; exact k2) ?_
  by_cases k3 : x.kind = 3
  · refine br_t (by rw [beq_iff_eq]; exact k3) (chk_step (decide_eq_true ⟨by omega, by unfold amtB; omega, fun y hy => by have := ca y hy; unfold amtB; omega⟩) (chk_step gp ?_))
    rw [← ho]; unfold doneR; rw [if_neg hnb]; simp only [if_neg k1, if_neg k2, if_pos k3, kpO, twoR, List.length_append, List.length_cons, List.length_nil]; rfl
  refine br_f (by rw [beq_eq_false_iff_ne]; exact k3) ?_
  by_cases k4 : x.kind = 4
  · refine br_t (by rw [beq_iff_eq]; exact k4) (chk_step (decide_eq_true ⟨by omega, by unfold amtB; omega, fun y hy => by have := ca y hy; unfold amtB; omega⟩) (chk_step gp ?_))
    rw [← ho]; unfold doneR; rw [if_neg hnb]; simp only [if_neg k1, if_neg k2, if_neg k3, if_pos k4, kpO, twoR, List.length_append, List.length_cons, List.length_nil]; rfl
  refine br_f (by rw [beq_eq_false_iff_ne]; exact k4) ?_
  by_cases k5 : x.kind = 5
  · refine br_t (by rw [beq_iff_eq]; exact k5) (chk_step (decide_eq_true ⟨by omega, by unfold amtB; omega, fun y hy => by have := cb y hy; unfold amtB; omega⟩) (chk_step gp ?_))
    rw [← ho]; unfold doneR; rw [if_neg hnb]; simp only [if_neg k1, if_neg k2, if_neg k3, if_neg k4, if_pos k5, kpO, twoR, List.length_append, List.length_cons, List.length_nil]; rfl
  refine br_f (by rw [beq_eq_false_iff_ne]; exact k5) ?_
  by_cases k6 : x.kind = 6
  · refine br_t (by rw [beq_iff_eq]; exact k6) (chk_step (decide_eq_true ⟨by omega, by unfold amtB; omega, fun y hy => by have := cb y hy; unfold amtB; omega⟩) (chk_step gp ?_))
    rw [← ho]; unfold doneR; rw [if_neg hnb]; simp only [if_neg k1, if_neg k2, if_neg k3, if_neg k4, if_neg k5, if_pos k6, kpO, twoR, List.length_append, List.length_cons, List.length_nil]; rfl
  refine br_f (by rw [beq_eq_false_iff_ne]; exact k6) ?_
  rw [← ho]; unfold doneR; rw [if_neg hnb]; simp only [if_neg k1, if_neg k2, if_neg k3, if_neg k4, if_neg k5, if_neg k6, kpO, List.length_append, List.length_cons, List.length_nil]; rfl
end K
end Go.Proofs.YtelpdkojdfnmiaaGreat
/-! LA5 -/
namespace Go.Proofs.YtelpdkojdfnmiaaGreat
open Ev K
set_option maxRecDepth 100000
namespace K
theorem moreB_len5 (l : List Bal) (a m : Int) : (moreB l a m).length ≤ l.length + 1 := by
  induction l with
  | nil => simp [moreB]
  | cons b t ih => 
    unfold moreB; simp only [List.length_cons] at ih ⊢
    split
    · simp only [List.length_cons]; omega
    · split <;> simp only [List.length_cons] <;> omega
theorem moreB_bd (N M : Int) (_hM : 0 ≤ M) (hN : 0 ≤ N) (a m : Int) (hm : -M ≤ m ∧ m ≤ M) (l : List Bal) (h : ∀ y ∈ l, -N ≤ y.amount ∧ y.amount ≤ N) : ∀ y ∈ moreB l a m, -(N + M) ≤ y.amount ∧ y.amount ≤ N + M := by
  induction l with
  | nil => intro y hy; simp only [moreB, List.mem_singleton] at hy; subst hy; simp only; omega
  | cons b t ih =>
    have hb := h b (List.mem_cons_self ..)
    have ht := fun y hy => h y (List.mem_cons_of_mem _ hy)
    intro y hy
    unfold moreB at hy
    split at hy
    · rcases List.mem_cons.1 hy with e | e
      · subst e; omega
      · exact ih ht y e
    · split at hy
      · rcases List.mem_cons.1 hy with e | e
        · subst e; simp only; omega
        · have := ht y e; omega
      · rcases List.mem_cons.1 hy with e | e
        · subst e; simp only; omega
        · have := h y e; omega
theorem addL_len (l : List Int) (n : Int) : (addL l n).length = l.length + 1 := by
  induction l with
  | nil => rfl
  | cons b t ih => unfold addL; split <;> simp [ih]
theorem KOk.mono {n m : Nat} {b : RBk} (h : KOk n b) (hm : n ≤ m) : KOk m b := by
  obtain ⟨c1, c2, c3, c4, c5, c6, c7, c8, c9, ca, cb⟩ := h
  refine ⟨c1, c2, by omega, by omega, by omega, by omega, by omega, by omega, fun y hy => ?_, fun y hy => ?_, fun y hy => ?_⟩
  · obtain ⟨h1, h2, h3⟩ := c9 y hy; exact ⟨h1, by omega, h3⟩
  · have := ca y hy; omega
  · have := cb y hy; omega
set_option maxHeartbeats 0 in
theorem KOk.done {n : Nat} {b : RBk} (h : KOk n b) {x : Itm} (hx : x.Ok) (hn : n ≤ 1000) : KOk (n + 1) (doneR b x) := by
  have h' := h.mono (Nat.le_succ n)
  obtain ⟨x1, x2, x3, x4, x5, x6, x7⟩ := hx
  obtain ⟨c1, c2, c3, c4, c5, c6, c7, c8, c9, ca, cb⟩ := h
  obtain ⟨d1, d2, d3, d4, d5, d6, d7, d8, d9, da, db⟩ := h'
  have hc : ((n + 1 : Nat) : Int) * 16777216 = (n : Int) * 16777216 + 16777216 := by omega
  have hbd : ∀ (l : List Bal) (m : Int), (-16777216 ≤ m ∧ m ≤ 16777216) → (∀ y ∈ l, -((n : Int) * 16777216) ≤ y.amount ∧ y.amount ≤ (n : Int) * 16777216) → ∀ y ∈ moreB l x.account m, -(((n + 1 : Nat) : Int) * 16777216) ≤ y.amount ∧ y.amount ≤ ((n + 1 : Nat) : Int) * 16777216 := fun l m hm hl y hy => by
    have := moreB_bd ((n : Int) * 16777216) 16777216 (by omega) (by omega) x.account m hm l hl y hy; omega
  have mp := moreB_len5 b.paid x.account
  have mb := moreB_len5 b.bonds x.account
  unfold doneR
  split
  · exact ⟨c1, c2, d3, by rw [addL_len]; omega, d5, d6, d7, d8, d9, da, db⟩
  have hs : (b.stands ++ [x]).length ≤ n + 1 := by simp; omega
  have hp : ∀ y z : Pst, (b.p ++ [y, z]).length ≤ 2 * (n + 1) := fun y z => by simp; omega
  simp only
  split
  · refine ⟨c1, c2, hp _ _, d4, by show (b.bills ++ [_]).length ≤ _; simp; omega, d6, d7, hs, ?_, da, db⟩
    intro y hy
    rcases List.mem_append.1 hy with e | e
    · exact d9 y e
    · rw [List.mem_singleton] at e; subst e
      refine ⟨by simp, by simp, fun c hc => ?_⟩
      rw [List.mem_singleton] at hc; subst hc; simp only; omega
  split
  · split
    · rename_i q hq
      obtain ⟨hlt, _, _⟩ := List.findIdx?_eq_some_iff_getElem.1 hq
      refine ⟨c1, c2, hp _ _, d4, by show (b.bills.set _ _).length ≤ _; simp; omega, d6, d7, hs, ?_, da, db⟩
      intro y hy
      rcases List.mem_or_eq_of_mem_set hy with e | e
      · exact d9 y e
      · have hg : b.bills.getD q default = b.bills[q] := by rw [List.getD_eq_getElem?_getD, List.getElem?_eq_getElem hlt]; rfl
        rw [hg] at e
        obtain ⟨e1, e2, e3⟩ := c9 _ (List.getElem_mem hlt)
        subst e
        refine ⟨by simp, by simp; omega, fun c hc => ?_⟩
        rcases List.mem_append.1 hc with f | f
        · exact e3 c f
        · rw [List.mem_singleton] at f; subst f; simp only; omega
    · exact ⟨c1, c2, d3, d4, d5, d6, d7, hs, d9, da, db⟩
  split
  · exact ⟨c1, c2, hp _ _, d4, d5, by have := mp x.amount; show (moreB _ _ _).length ≤ _; omega, d7, hs, d9, hbd _ _ (by omega) ca, db⟩
  split
  · exact ⟨c1, c2, hp _ _, d4, d5, by have := mp (0 - x.amount); show (moreB _ _ _).length ≤ _; omega, d7, hs, d9, hbd _ _ (by omega) ca, db⟩
  split
  · exact ⟨c1, c2, hp _ _, d4, d5, d6, by have := mb x.amount; show (moreB _ _ _).length ≤ _; omega, hs, d9, da, hbd _ _ (by omega) cb⟩
  split
  · exact ⟨c1, c2, hp _ _, d4, d5, d6, by have := mb (0 - x.amount); show (moreB _ _ _).length ≤ _; omega, hs, d9, da, hbd _ _ (by omega) cb⟩
  · exact ⟨by simp only; omega, by simp only; omega, d3, d4, d5, d6, d7, hs, d9, da, db⟩
theorem KOk.zero : KOk 0 rb0 := ⟨by decide, by decide, by decide, by decide, by decide, by decide, by decide, by decide, by simp [rb0], by simp [rb0], by simp [rb0]⟩
end K
end Go.Proofs.YtelpdkojdfnmiaaGreat
/-! LA6 -/
namespace Go.Proofs.YtelpdkojdfnmiaaGreat
open Ev K
set_option maxRecDepth 100000
set_option maxHeartbeats 0
noncomputable def K.L_kp := lim K.st_kp
namespace K
def kpX (b : RBk) : KpObjX := ((), (b.closed, b.p.length, b.refused.length, b.bills.length, b.paid.length, b.bonds.length, b.stands.length), b.p, b.refused, b.bills, b.paid, b.bonds, b.stands, ())
theorem L_kp_eq {known : Int} {l : List Itm} (hl : l.length ≤ 500) (hf : ∀ x ∈ l, x.Ok) : ∀ (d i : Nat) (b : RBk), i + d = l.length → KOk i b →
    L_kp ((known, l.length, (i : Int)), kpO l b) = some ((), kpX (((l.drop i).filter fun x => decide (x.known ≤ known)).foldl doneR b)) := by
  intro d
  induction d with
  | zero =>
    intro i b h hb
    refine lim_done ?_
    rw [sl_kp]
    generalize ho : kpX _ = o
    simp only [kpO, decF_encF, decN_encN]
    refine br_f (decide_eq_false (by omega)) ?_
    rw [← ho, List.drop_of_length_le (by omega)]; rfl
  | succ d ih =>
    intro i b h hb
    have hi : i < l.length := by omega
    have hx := List.getElem?_eq_getElem hi
    have hm := List.getElem_mem hi
    have hdrop := List.drop_eq_getElem_cons hi
    generalize l[i] = x at hx hm hdrop
    by_cases hkn : x.known ≤ known
    · refine (lim_step (kp_step hx (hf x hm) hb (by omega) hkn (by omega))).trans ?_
      rw [show lim st_kp = L_kp from rfl, ih (i + 1) (doneR b x) (by omega) (hb.done (hf x hm) (by omega)), hdrop, List.filter_cons_of_pos (by simpa using hkn), List.foldl_cons]
    · refine (lim_step (s' := ((known, l.length, ((i + 1 : Nat) : Int)), kpO l b)) ?_).trans ?_
      · rw [sl_kp]
        have w3 : IntKind.i64.wrap ((i : Int) + 1) = ((i + 1 : Nat) : Int) := by rw [w64_in (by omega) (by omega)]; rfl
        simp only [kpO, Int.toNat_natCast, Nat.zero_add, item_at hx, wr1, decF_encF, decN_encN, w3]
        refine br_t (decide_eq_true (by omega)) (chk_step (decide_eq_true (by omega)) (br_f (decide_eq_false (by omega)) rfl))
      · rw [show lim st_kp = L_kp from rfl, ih (i + 1) b (by omega) (hb.mono (by omega)), hdrop, List.filter_cons_of_neg (by simpa using hkn)]
end K
noncomputable def BLA61 : Tab := BLA34.addNode 25 81 (nodeE [9, 7, 8, 1, 4] S_kp X_kp (fun s => .obs (K.L_kp s) .ret))
theorem tLA61 : TabOk P BLA61 := TabOk.addLoop (d := 30) okP tLA34 (by kernel_rfl) (by kernel_rfl) (fun s r h => obs_ret h)
end Go.Proofs.YtelpdkojdfnmiaaGreat
/-! LA7 -/
namespace Go.Proofs.YtelpdkojdfnmiaaGreat
open Ev K
set_option maxRecDepth 100000
set_option maxHeartbeats 0
def lKept : DecL (RBk × Int) := (DecL.cons dInt (.cons (dRows rPost) (.cons (dRows rInt) (.cons (dRowsN nBill) (.cons (dRows rBal) (.cons (dRows rBal) (.cons (dRows rItem) (.last dInt 0)))))))).iso (fun p => (⟨p.1, p.2.1, p.2.2.1, p.2.2.2.1, p.2.2.2.2.1, p.2.2.2.2.2.1, p.2.2.2.2.2.2.1⟩, p.2.2.2.2.2.2.2)) (fun k => (k.1.closed, k.1.p, k.1.refused, k.1.bills, k.1.paid, k.1.bonds, k.1.stands, k.2)) (fun _ => rfl)
def dKept : Dec (RBk × Int) := dAgg lKept
def D_kp := DecL.cons (dRows rItem) (.last dInt 0)
theorem fn_keep : ∀ a, (callT1 P BLA61 30 25 D_kp dKept) a = T.run (
 let q2 := (0 : Nat);
 let q1 := decF rItem (List.length a.1) fun i => encF rItem a.1 (q2 + i);
  .br (checkV q1 != (0 : Int)) (
    .ret ((RBk.mk (0 : Int) [] [] [] [] [] [], checkV q1))) (
    .br (!r_day a.2) (
      .ret ((RBk.mk (0 : Int) [] [] [] [] [] [], (1 : Int)))) (
      .chk (decide (List.length q1 ≤ (500 : Nat))) <|
      .obs (L_kp ((a.2, List.length (sortedR q1), (0 : Int)), PUnit.unit, ((-1 : Int), q2, q2, q2, q2, q2, q2), decF rPost q2 fun _x _x_1 => AV.top, decF rInt q2 fun _x _x_1 => AV.top, decN nBill q2 fun _x _x_1 => AV.top, decF rBal q2 fun _x _x_1 => AV.top, decF rBal q2 fun _x _x_1 => AV.top, decF rItem q2 fun _x _x_1 => AV.top, decF rItem (List.length (sortedR q1)) (encF rItem (sortedR q1)), PUnit.unit)) fun x0 =>
        .ret ((RBk.mk x0.2.2.1.1 (decF rPost (List.length x0.2.2.2.1) fun i => encF rPost x0.2.2.2.1 (q2 + i)) (decF rInt (List.length x0.2.2.2.2.1) fun i => encF rInt x0.2.2.2.2.1 (q2 + i)) (decN nBill (List.length x0.2.2.2.2.2.1) fun i => encN nBill x0.2.2.2.2.2.1 (q2 + i)) (decF rBal (List.length x0.2.2.2.2.2.2.1) fun i => encF rBal x0.2.2.2.2.2.2.1 (q2 + i)) (decF rBal (List.length x0.2.2.2.2.2.2.2.1) fun i => encF rBal x0.2.2.2.2.2.2.2.1 (q2 + i)) (decF rItem (List.length x0.2.2.2.2.2.2.2.2.1) fun i => encF rItem x0.2.2.2.2.2.2.2.2.1 (q2 + i)), (0 : Int)))))) := fun a => by kernel_rfl
end Go.Proofs.YtelpdkojdfnmiaaGreat
/-! LA8 -/
namespace Go.Proofs.YtelpdkojdfnmiaaGreat
open Ev K
set_option maxRecDepth 100000
set_option maxHeartbeats 0
namespace K
noncomputable def keepV (l : List Itm) (known : Int) : RBk × Int :=
  if checkV l ≠ 0 then (⟨0, [], [], [], [], [], []⟩, checkV l) else if r_day known = true then (keepR l known, 0) else (⟨0, [], [], [], [], [], []⟩, 1)
theorem rkeep_eq (a : List Itm × Int) : callT1 P BLA61 30 25 D_kp dKept a = some (keepV a.1 a.2) := by
  obtain ⟨l, known⟩ := a
  rw [fn_keep]
  unfold keepV
  simp only [Nat.zero_add, decF_encF]
  by_cases hc : checkV l = 0
  · refine br_f (by rw [hc]; rfl) ?_
    rw [if_neg (fun h => h hc)]
    by_cases hd : r_day known = true
    · refine br_f (by rw [hd]; rfl) ?_
      rw [if_pos hd]
      obtain ⟨k1, k2, k3⟩ := checkV_ok hc
      have ho : One l := fun x hx y hy e => by
        obtain ⟨i, hi, rfl⟩ := List.getElem_of_mem hx
        obtain ⟨j, hj, rfl⟩ := List.getElem_of_mem hy
        rcases Nat.lt_trichotomy i j with h | h | h
        · exact k3 i j _ _ h (List.getElem?_eq_getElem hi) (List.getElem?_eq_getElem hj) e
        · subst h; rfl
        · exact (k3 j i _ _ h (List.getElem?_eq_getElem hj) (List.getElem?_eq_getElem hi) e.symm).symm
      refine chk_step (decide_eq_true (by omega)) ?_
      rw [sortedR_eq ho]
      have hs := srt_len l
      have key := L_kp_eq (known := known) (l := srt l) (by omega) (fun x hx => (k2 x (srt_mem hx)).ok) (srt l).length 0 rb0 (by omega) KOk.zero
      refine obs_step key ?_
      rw [List.drop_zero]
      show some _ = some _
      unfold keepR
      generalize List.foldl doneR rb0 _ = b
      simp only [kpX, decN_encN]
    · refine br_t (by rw [Bool.not_eq_true] at hd; rw [hd]; rfl) ?_
      rw [if_neg hd]; rfl
  · refine br_t (by simpa using hc) ?_
    rw [if_pos hc]; rfl
end K
noncomputable def BLA81 : Tab := BLA61.addCall 25 (callE D_kp dKept (fun a => .ret (K.keepV a.1 a.2)))
theorem tLA81 : TabOk P BLA81 := TabOk.addPC tLA61 (fun a r h => by rw [← ret_some h]; exact call_of okP tLA61 (K.rkeep_eq a))
end Go.Proofs.YtelpdkojdfnmiaaGreat
/-! LP2 -/
namespace Go.Proofs.YtelpdkojdfnmiaaGreat
open Ev K
set_option maxRecDepth 100000
namespace K
structure Pr where (x : Itm) (on a b m : Int)
def Pr.two (z : Pr) : List Pst := [⟨z.x.id, z.on, z.a, z.m⟩, ⟨z.x.id, z.on, z.b, -z.m⟩]
def pairs (zs : List Pr) : List Pst := zs.flatMap Pr.two
theorem pairs_app (a b : List Pr) : pairs (a ++ b) = pairs a ++ pairs b := List.flatMap_append ..
def isPair (l : List Pst) : Prop := ∃ zs, l = pairs zs
theorem isPair.app {l : List Pst} (h : isPair l) (x : Itm) (on a b m : Int) : isPair (l ++ [⟨x.id, on, a, m⟩, ⟨x.id, on, b, -m⟩]) := by
  obtain ⟨zs, rfl⟩ := h
  exact ⟨zs ++ [⟨x, on, a, b, m⟩], by rw [pairs_app]; rfl⟩
end K
end Go.Proofs.YtelpdkojdfnmiaaGreat
/-! LJ0 -/
namespace Go.Proofs.YtelpdkojdfnmiaaGreat
open Ev K
set_option maxRecDepth 100000
namespace K
theorem one_ck {l : List Itm} (hc : checkV l = 0) : One l := by
  obtain ⟨_, _, k3⟩ := checkV_ok hc
  exact fun x hx y hy e => by
    obtain ⟨i, hi, rfl⟩ := List.getElem_of_mem hx
    obtain ⟨j, hj, rfl⟩ := List.getElem_of_mem hy
    rcases Nat.lt_trichotomy i j with h | h | h
    · exact k3 i j _ _ h (List.getElem?_eq_getElem hi) (List.getElem?_eq_getElem hj) e
    · subst h; rfl
    · exact (k3 j i _ _ h (List.getElem?_eq_getElem hj) (List.getElem?_eq_getElem hi) e.symm).symm
theorem keep_ok {l : List Itm} {known : Int} (h : askedV l [known] = 0) : keepV l known = (keepR l known, 0) := by
  obtain ⟨hc, hd⟩ := ask_check h
  unfold keepV
  rw [if_neg (fun h => h hc), if_pos ((r_day_iff known).2 (hd known (List.mem_singleton.2 rfl)))]
theorem keep_bad {l : List Itm} {known : Int} (h : ¬ askedV l [known] = 0) : keepV l known = (⟨0, [], [], [], [], [], []⟩, askedV l [known]) := by
  unfold keepV
  by_cases hc : checkV l = 0
  · have hd : ¬ dayOk known := fun hd => h (by
      unfold askedV; rw [if_neg (fun h => h hc), if_pos (fun n hn => by rw [List.mem_singleton.1 hn]; exact hd)])
    have e : askedV l [known] = 1 := by
      unfold askedV; rw [if_neg (fun h => h hc), if_neg (fun e => hd (e known (List.mem_singleton.2 rfl)))]
    rw [if_neg (fun h => h hc), if_neg (fun e => hd ((r_day_iff known).1 e)), e]
  · have e : askedV l [known] = checkV l := by unfold askedV; rw [if_pos hc]
    rw [if_pos hc, e]
section
variable {l : List Itm} (hc : checkV l = 0) (known : Int)
include hc
theorem rel_ok : Rel (foldB (knownOn known (srt l))) (keepR l known) := rel_keep (checkV_ok hc).2.1 (one_ck hc) known
theorem kr_closed : (keepR l known).closed = (readB l known).closed := (rel_ok hc known).closed
theorem kr_p : (keepR l known).p = (readB l known).posts := (rel_ok hc known).p
theorem kr_refused : (keepR l known).refused = (readB l known).refused := (sortL_unique (rel_ok hc known).refused.2 (rel_ok hc known).refused.1).symm
end
end K
end Go.Proofs.YtelpdkojdfnmiaaGreat
/-! LLa -/
namespace Go.Proofs.YtelpdkojdfnmiaaGreat
open Ev K
set_option maxRecDepth 100000
theorem fn_lwPo : ∀ a, (callT1 P BLA81 30 6 D_ln dB) a = T.run (
 let q7 := (0 : Nat);
 let q1 := decF rItem (List.length a.1) fun i => encF rItem a.1 (q7 + i);
 let q8 := keepV q1 a.2;
 let q2 := q8.1;
 let q9 := postingsV q1 a.2;
 let q3 := decF rPost (List.length q9.1) fun i => encF rPost q9.1 (q7 + i);
 let q10 := refusedV q1 a.2;
 let q4 := decF rInt (List.length q10.1) fun i => encF rInt q10.1 (q7 + i);
 let q5 := RBk.refused q2;
 let q6 := (1000000 : Nat);
  .br (!l_few q1) (
    .ret (true)) (
    .chk (decide (List.length q3 ≤ q6 ∧ List.length (decF rPost (List.length (RBk.p q2)) fun i => encF rPost (RBk.p q2) (q7 + i)) ≤ q6)) <|
    .br (decide (q3 = decF rPost (List.length (RBk.p q2)) fun i => encF rPost (RBk.p q2) (q7 + i))) (
      .br (q9.2 == q8.2) (
        .chk (decide (List.length q4 ≤ q6 ∧ List.length (decF rInt (List.length q5) fun i => encF rInt q5 (q7 + i)) ≤ q6)) <|
        .br (decide (q4 = decF rInt (List.length q5) fun i => encF rInt q5 (q7 + i))) (
          .br (q10.2 == q8.2) (
            .br (Prod.snd (closedV q1 a.2) == q8.2) (
              .ret (Prod.fst (closedV q1 a.2) == RBk.closed q2)) (
              .ret (false))) (
            .ret (false))) (
          .ret (false))) (
        .ret (false))) (
      .ret (false)))) := fun a => by kernel_rfl
end Go.Proofs.YtelpdkojdfnmiaaGreat
/-! LLb -/
namespace Go.Proofs.YtelpdkojdfnmiaaGreat
open Ev K
set_option maxRecDepth 100000
namespace K
theorem lwPo_eq (a : List Itm × Int) : callT1 P BLA81 30 6 D_ln dB a = some true := by
  obtain ⟨l, known⟩ := a
  rw [fn_lwPo]
  simp only [Nat.zero_add, decF_encF]
  by_cases hfew : l_few l = true
  · refine br_f (by rw [hfew]; rfl) ?_
    by_cases h : askedV l [known] = 0
    · have hc := (ask_check h).1
      have hk := keep_ok h
      have e1 : postingsV l known = ((keepR l known).p, 0) := by unfold postingsV; rw [if_pos h, h, kr_p hc]
      have e2 : refusedV l known = ((keepR l known).refused, 0) := by unfold refusedV; rw [if_pos h, h, kr_refused hc]
      have e3 : closedV l known = ((keepR l known).closed, 0) := by unfold closedV; rw [if_pos h, h, kr_closed hc]
      obtain ⟨c1, c2, _⟩ := checkV_ok hc
      have b := read_ok c2 known
      have b1 := b.posts
      have b2 := b.refused
      rw [← kr_p hc] at b1
      rw [← kr_refused hc] at b2
      rw [e1, e2, e3, hk]
      refine chk_step (decide_eq_true ⟨by show (keepR l known).p.length ≤ 1000000; omega, by show (keepR l known).p.length ≤ 1000000; omega⟩) (br_t (decide_eq_true rfl) (br_t rfl (chk_step (decide_eq_true ⟨by show (keepR l known).refused.length ≤ 1000000; omega, by show (keepR l known).refused.length ≤ 1000000; omega⟩) (br_t (decide_eq_true rfl) (br_t rfl (br_t rfl ?_))))))
      show some _ = some true
      rw [beq_self_eq_true]
    · have hk := keep_bad h
      have e1 : postingsV l known = ([], askedV l [known]) := by unfold postingsV; rw [if_neg h]
      have e2 : refusedV l known = ([], askedV l [known]) := by unfold refusedV; rw [if_neg h]
      have e3 : closedV l known = (0, askedV l [known]) := by unfold closedV; rw [if_neg h]
      rw [e1, e2, e3, hk]
      exact chk_step rfl (br_t rfl (br_t (by simp) (chk_step rfl (br_t rfl (br_t (by simp) (br_t (by simp) rfl))))))
  · exact br_t (by rw [Bool.not_eq_true] at hfew; rw [hfew]; rfl) rfl
end K
end Go.Proofs.YtelpdkojdfnmiaaGreat
/-! LZ7 -/
namespace Go.Proofs.YtelpdkojdfnmiaaGreat
open Ev K
open Go.ChangeShapes Go.WideShapes Go.RowKit
set_option maxRecDepth 100000
theorem law_pc (a) : PC P 6 (D_ln.enc a) (.bool true) := by
  have h := lwPo_eq a
  exact call_of okP tLA81 h
theorem ownP : ownKnob P.godebug = none := by kernel_rfl
theorem laidP : laidOutB P = true := by kernel_rfl
theorem ub : P.underlying 4 = some .bool := by kernel_rfl
theorem ledgerPosts_lifted (os : Os) (started : os.Started) (H : Type) (enc : TypeId × Value → H) :
    ReturnsInHanded {} Tryz.checked os 6 .any (Rows.ledgerPostsSpec.pre6 enc Tryz.prog Tryz.f6 Rows.ledgerPostsRow.domain false) (Rows.ledgerPostsSpec.post enc Tryz.prog Tryz.f6 false true false false) := by
  refine returnsInHanded_of_change (C := Tryz.checked) ownP started (by kernel_rfl) Tryz.func6
    (ChangeSpec.witness6 (enc := enc) (C := Tryz.checked) false ⟨#[], #[.slice none 0 0, .int .i64 0], []⟩ 8 (by kernel_rfl) (by kernel_rfl) (by kernel_rfl) (by kernel_rfl)) ?_
  intro W base args ds gs before hval hW _ _
  refine law_contract (P := Tryz.prog) D_ln laidP (by kernel_rfl) rfl (fun ds hd => ?_) (fun W' b sp hd => trodAll_mk1 (shut_bool ub true)) (fun W' => ok_one (by kernel_rfl) rfl (okWide_bool_mk ub true)) (fun W base args ds p hval hA => ?_) law_pc W base args ds gs before hval hW
  · rw [Tryz.params6] at hd
    match ds, hd with
    | [a, b], _ => rfl
  · rw [Tryz.params6] at hA hval
    obtain ⟨v0, vs0, d0, ds0, p0, q0, e0, _, _, h0, r0⟩ := trodAll_cons hA
    obtain ⟨v1, vs1, d1, ds1, p1, q1, e1, _, _, h1, r1⟩ := trodAll_cons r0
    obtain ⟨e2, _, _⟩ := trodAll_nil r1
    subst e2; subst e1
    have ha : args = #[v0, v1] := by apply Array.ext'; exact e0
    subst ha
    exact rdL_cons (rp_items (hval 0 _ v0 rfl rfl) h0) (rdL_last (rp_int (hval 1 _ v1 rfl rfl) h1))
theorem ledgerPosts_holds : Rows.LedgerPostsSaid :=
  OpenClaim.holds_of_wide 6 Tryz.f6 rfl rfl rfl rfl rfl rfl rfl ⟨rfl, rfl, rfl, rfl, rfl⟩ rfl rfl rfl rfl rfl (by kernel_rfl) Tryz.func6 (by kernel_rfl)
    (of_decide_eq_true (by kernel_rfl)) (by unfold Func.isWrapper; rw [if_neg (of_decide_eq_false (by kernel_rfl))]; exact ⟨rfl, rfl⟩)
    (fun os started H enc _ => ledgerPosts_lifted os started H enc)
#print axioms ledgerPosts_holds
end Go.Proofs.YtelpdkojdfnmiaaGreat
