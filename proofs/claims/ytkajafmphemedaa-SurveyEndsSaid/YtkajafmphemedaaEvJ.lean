/- A region that draws its order: every order leads to the evaluator's frame. -/
import Derived.Test.YtkajafmphemedaaEvI
namespace Go.Proofs.Ytkajafmphemedaa.Ev
open Go.RowKit

section
variable {P : Program} {cl : FuncId → List AV → Option AV} {X : Fx} {w : World} {A0 : Nat → Prop} {r : Rr} {ds : List Nat} {sav : List AV} {sv : Array Value} {yl : Option Nat} {a : Act} {ops : Array Oper} {ro : Option Nat} {n : Nat} {Q : Exit → Act → World → Prop} {yk : Nat}

theorem regOk_dep {bf : List Nat} (h : regOk ops bf = true) {i k : Nat} {oi ok : Oper} (hi : ops[i]? = some oi) (hk : ops[k]? = some ok) (hlt : k < i) (hd : depSlot ops ok oi = true) : (bf.getD i 0).testBit k = true := by
  have hin : i < ops.size := (Array.getElem?_eq_some_iff.1 hi).1
  have h1 := List.all_eq_true.1 h i (List.mem_range.2 hin)
  simp only [hi, regOkAt, Bool.and_eq_true] at h1
  have h2 := List.all_eq_true.1 h1.2 k (List.mem_range.2 hlt)
  simp only [hk, hd, Bool.not_true, Bool.false_or] at h2
  exact h2

theorem regOk_after {bf : List Nat} (h : regOk ops bf = true) {i : Nat} {oi : Oper} (hi : ops[i]? = some oi) : ∀ e ∈ oi.after, Region.binds .any e = true → e.on < i := by
  have hin : i < ops.size := (Array.getElem?_eq_some_iff.1 hi).1
  have h1 := List.all_eq_true.1 h i (List.mem_range.2 hin)
  simp only [hi, regOkAt, Bool.and_eq_true] at h1
  intro e he hb
  have := List.all_eq_true.1 h1.1 e (by simpa using he)
  simpa [hb] using this

/-- All that is known of the walk in the order of the text; yk: the operation that is a yield, if there is one. -/
structure Lex (P : Program) (cl : FuncId → List AV → Option AV) (ops : Array Oper) (yk : Nat) (S : Nat → St) (R : Nat → Eff) : Prop where
  step : ∀ k o, ops[k]? = some o → k ≠ yk → stepE P cl ops (S k) o = some (R k)
  dst : ∀ k o, ops[k]? = some o → (R k).dst = o.dst
  memt : ∀ k o, ops[k]? = some o → ∀ j b, (R k).mem = some (j, b) → (j, true) ∈ touch (evO (S k).env) (S k).loc.length o
  env : ∀ k o, ops[k]? = some o → (S (k + 1)).env = putD (S k).env (R k).dst (R k).v
  lf : ∀ k o, ops[k]? = some o → locOf (S (k + 1)) = locE (R k) (locOf (S k))
  grow : ∀ k o, ops[k]? = some o → (S k).loc.length ≤ (S (k + 1)).loc.length
  meet : ∀ k o, ops[k]? = some o → ∀ t ∈ touch (evO (S k).env) (S k).loc.length o, ∀ k' o', k' < k → ops[k']? = some o' → ∀ t' ∈ touch (evO (S k').env) (S k').loc.length o', t'.1 = t.1 → (t'.2 = true ∨ t.2 = true) →
    ((masks ops.toList []).getD k 0).testBit k' = true

theorem Lex.frame {S : Nat → St} {R : Nat → Eff} (h : Lex P cl ops yk S R) : ∀ k, k ≤ ops.size → (S k).env = eL R (fun _ => true) (S 0).env k ∧ locOf (S k) = lL R (fun _ => true) (locOf (S 0)) k := by
  intro k
  induction k with
  | zero => intro _; exact ⟨rfl, rfl⟩
  | succ k ih =>
    intro hk
    obtain ⟨i1, i2⟩ := ih (by omega)
    have ho : ops[k]? = some ops[k] := Array.getElem?_eq_getElem (by omega)
    refine ⟨?_, ?_⟩
    · rw [h.env k _ ho]; simp only [eL, if_true]; rw [← i1]
    · rw [h.lf k _ ho]; simp only [lL, if_true]; rw [← i2]

theorem Lex.size_le {S : Nat → St} {R : Nat → Eff} (h : Lex P cl ops yk S R) : ∀ k, k < ops.size → (S k).loc.length ≤ (S (k + 1)).loc.length := by
  intro k hk
  exact h.grow k _ (Array.getElem?_eq_getElem hk)

theorem Lex.size_mono {S : Nat → St} {R : Nat → Eff} (h : Lex P cl ops yk S R) {i : Nat} : ∀ k, i ≤ k → k ≤ ops.size → (S i).loc.length ≤ (S k).loc.length := by
  intro k
  induction k with
  | zero => intro h1 _; have : i = 0 := by omega
            subst this; exact Nat.le_refl _
  | succ k ih =>
    intro h1 h2
    by_cases he : i = k + 1
    · subst he; exact Nat.le_refl _
    · exact Nat.le_trans (ih (by omega) (by omega)) (h.size_le k (by omega))

/-- In whatever order: operation i comes up when the operations of L have come up. -/
theorem Lex.agree {S : Nat → St} {R : Nat → Eff} (h : Lex P cl ops yk S R) (hok : regOk ops (masks ops.toList []) = true) {L : Nat → Bool} (hL : Closed ops L) {i : Nat} {o : Oper} (hi : ops[i]? = some o) (hiL : L i = false)
    (hready : ∀ e ∈ o.after, Region.binds .any e = true → L e.on = true) (hout : ∀ k, ops.size ≤ k → L k = false) :
    (∀ t ∈ o.looksAt ops, (eL R L (S 0).env ops.size)[t]? = (S i).env[t]?) ∧ (∀ t ∈ touch (evO (S i).env) (S i).loc.length o, lL R L (locOf (S 0)) ops.size t.1 = locOf (S i) t.1) := by
  have hin : i < ops.size := (Array.getElem?_eq_some_iff.1 hi).1
  have opAt : ∀ k (hk : k < ops.size), ops[k]? = some (ops[k]'hk) := fun k hk => Array.getElem?_eq_getElem hk
  have dstOf : ∀ k (hk : k < ops.size), (R k).dst = (ops[k]'hk).dst := fun k hk => h.dst k _ (opAt k hk)
  have before : ∀ k, ((masks ops.toList []).getD i 0).testBit k = true → L k = true := closed_before hL i o hi hready
  have behind : ∀ k, k < ops.size → ((masks ops.toList []).getD k 0).testBit i = true → L k = false := fun k hk hb => by
    cases hLk : L k with
    | false => rfl
    | true =>
      have := closed_before hL k _ (opAt k hk) (hL k _ (opAt k hk) hLk) i hb
      rw [hiL] at this; cases this
  constructor
  · intro t ht
    rw [(h.frame i (by omega)).1]
    refine eL_agree (fun k hk hd => ?_) (fun k hk hd => ?_) ops.size (by omega)
    · refine before k (regOk_dep hok hi (opAt k (by omega)) hk ?_)
      rw [dstOf k (by omega)] at hd
      simp [depSlot, hd, ht]
    · by_cases hlt : k < ops.size
      · by_cases he : k = i
        · rw [he]; exact hiL
        · refine behind k hlt (regOk_dep hok (opAt k hlt) hi (by omega) ?_)
          rw [dstOf k hlt] at hd
          simp [depSlot, hd, ht]
      · exact hout k (by omega)
  · intro t ht
    rw [(h.frame i (by omega)).2]
    refine lL_agree (fun k b hk hm => ?_) (fun k b hk hm => ?_) ops.size (by omega)
    · have hw := h.memt k _ (opAt k (by omega)) _ _ hm
      exact before k (h.meet i o hi t ht k _ hk (opAt k (by omega)) _ hw rfl (.inl rfl))
    · by_cases hlt : k < ops.size
      · by_cases he : k = i
        · rw [he]; exact hiL
        · have hw := h.memt k _ (opAt k hlt) _ _ hm
          exact behind k hlt (h.meet k _ (opAt k hlt) _ hw i o (by omega) hi t ht rfl (.inr rfl))
      · exact hout k (by omega)

theorem Lex.add {S : Nat → St} {R : Nat → Eff} (h : Lex P cl ops yk S R) (hok : regOk ops (masks ops.toList []) = true) {L : Nat → Bool} (hL : Closed ops L) {i : Nat} {o : Oper} (hi : ops[i]? = some o) (hiL : L i = false)
    (hout : ∀ k, ops.size ≤ k → L k = false) :
    eL R (addL L i) (S 0).env ops.size = putD (eL R L (S 0).env ops.size) (R i).dst (R i).v ∧ lL R (addL L i) (locOf (S 0)) ops.size = locE (R i) (lL R L (locOf (S 0)) ops.size) := by
  have hin : i < ops.size := (Array.getElem?_eq_some_iff.1 hi).1
  have opAt : ∀ k (hk : k < ops.size), ops[k]? = some (ops[k]'hk) := fun k hk => Array.getElem?_eq_getElem hk
  have dstOf : ∀ k (hk : k < ops.size), (R k).dst = (ops[k]'hk).dst := fun k hk => h.dst k _ (opAt k hk)
  have behind : ∀ k, k < ops.size → ((masks ops.toList []).getD k 0).testBit i = true → L k = false := fun k hk hb => by
    cases hLk : L k with
    | false => rfl
    | true =>
      have := closed_before hL k _ (opAt k hk) (hL k _ (opAt k hk) hLk) i hb
      rw [hiL] at this; cases this
  refine ⟨eL_add hiL (fun k hk hLk t hd hd' => ?_) _ hin, lL_add hiL (fun k hk hLk j b b' hm hm' => ?_) _ hin⟩
  · have hlt : k < ops.size := by
      rcases Nat.lt_or_ge k ops.size with h | h
      · exact h
      · rw [hout k h] at hLk; cases hLk
    have := behind k hlt (regOk_dep hok (opAt k hlt) hi hk (by
      have ei : o.dst = some t := by
        have := dstOf i hin
        rw [hd] at this
        have e2 : ops[i] = o := by rw [opAt i hin] at hi; injection hi
        rw [← e2]; exact this.symm
      have ek : (ops[k]'hlt).dst = some t := by rw [← dstOf k hlt]; exact hd'
      simp [depSlot, ei, ek]))
    rw [this] at hLk; cases hLk
  · have hlt : k < ops.size := by
      rcases Nat.lt_or_ge k ops.size with h | h
      · exact h
      · rw [hout k h] at hLk; cases hLk
    have h1 := h.memt i o hi _ _ hm
    have h2 := h.memt k _ (opAt k hlt) _ _ hm'
    have := behind k hlt (h.meet k _ (opAt k hlt) _ h2 i o hk hi _ h1 rfl (.inl rfl))
    rw [this] at hLk; cases hLk

theorem fresh {S : Nat → St} {R : Nat → Eff} {L : Nat → Bool} {i : Nat} {o : Oper} (hnew : ∀ t ∈ touch (evO (S i).env) (S i).loc.length o, lL R L (locOf (S 0)) ops.size t.1 = locOf (S i) t.1)
    (ha : ((S i).loc.length, true) ∈ touch (evO (S i).env) (S i).loc.length o) : lL R L (locOf (S 0)) ops.size (S i).loc.length = none := by
  rw [hnew _ ha]; exact locOf_len _

/-- How many have not come up yet. -/
def left (n : Nat) (listed : Array Bool) : Nat := ((List.range n).filter fun i => !listed.getD i true).length

theorem filter_lt {p q : Nat → Bool} : ∀ (l : List Nat), (∀ x ∈ l, q x = true → p x = true) → (∃ x ∈ l, p x = true ∧ q x = false) → (l.filter q).length < (l.filter p).length
  | [], _, h => by obtain ⟨x, hx, _⟩ := h; cases hx
  | y :: l, h1, h2 => by
    have le : ∀ (l : List Nat), (∀ x ∈ l, q x = true → p x = true) → (l.filter q).length ≤ (l.filter p).length := by
      intro l
      induction l with
      | nil => intro _; simp
      | cons y l ih =>
        intro h
        have ih := ih fun x hx => h x (by simp [hx])
        simp only [List.filter_cons]
        cases hq : q y with
        | true => simp [h y (by simp) hq]; exact ih
        | false => cases p y <;> simp <;> omega
    have hl := le l fun x hx => h1 x (by simp [hx])
    obtain ⟨x, hx, hp, hq⟩ := h2
    rcases List.mem_cons.1 hx with rfl | hx
    · simp only [List.filter_cons, hp, hq, if_true, Bool.false_eq_true, if_false, List.length_cons]; omega
    · have ih := filter_lt l (fun x hx => h1 x (by simp [hx])) ⟨x, hx, hp, hq⟩
      simp only [List.filter_cons]
      cases hqy : q y with
      | true => simp [h1 y (by simp) hqy]; exact ih
      | false => cases p y <;> simp <;> omega

theorem ready_nil (hok : regOk ops (masks ops.toList []) = true) {listed : Array Bool} (hs : listed.size = ops.size) (h : Region.ready .any ops listed = []) : ∀ i, i < ops.size → listed.getD i false = true := by
  intro i
  induction i using Nat.strongRecOn with
  | _ i ih =>
    intro hi
    cases hv : listed.getD i false with
    | true => rfl
    | false =>
      have hmem : i ∈ Region.ready .any ops listed := by
        have ho : ops[i]? = some ops[i] := Array.getElem?_eq_getElem hi
        refine List.mem_filter.2 ⟨List.mem_range.2 hi, ?_⟩
        have hlt : i < listed.size := by omega
        have e1 : listed.getD i true = false := by
          rw [Array.getD_eq_getD_getElem?, Array.getElem?_eq_getElem hlt, Option.getD_some] at hv ⊢; exact hv
        simp only [e1, Bool.not_false, Bool.true_and, ho, Option.map_some, Option.getD_some, Array.all_eq_true']
        intro e he
        cases hb : Region.binds .any e with
        | false => rfl
        | true =>
          simp only [Bool.not_true, Bool.false_or]
          have := regOk_after hok ho e he hb
          exact ih e.on this (by omega)
      rw [h] at hmem; cases hmem

theorem any_order {X1 : Fx} (hcl : ∀ f args v, cl f args = some v → PC P f args v) (hok : regOk ops (masks ops.toList []) = true) {S : Nat → St} {R : Nat → Eff} (hlex : Lex P cl ops yk S R)
    (hys : ∀ o, ops[yk]? = some o → ∀ (A0 : Nat → Prop) (env : List AV) (loc : Nat → Option Blk) (r : Rr) (a : Act) (w : World) (K : Act → World → Prop), (∀ t ∈ o.looksAt ops, env[t]? = (S yk).env[t]?) → FR X yl A0 sav sv env loc r ds a w →
      (∀ A0' r' a' w', FR X1 yl A0' sav sv (putD env (R yk).dst (R yk).v) (locE (R yk) loc) r' ds a' w' → K a' w') → if Region.wanted o (yielded ops a.tmps) then o.wpIn (WF ro) n P a w K Q else (∀ f, o.about P w a.eval = some f → (WF ro).fn f) ∧ K (a.put o.dst undef) w)
    (hQ : ∀ A0 r' a' w', FR (if yk < ops.size then X1 else X) yl A0 sav sv (S ops.size).env (locOf (S ops.size)) r' ds a' w' → Q .normal a' w') :
    ∀ (fuel : Nat) (listed : Array Bool) (A0 : Nat → Prop) (r : Rr) (a : Act) (w : World), listed.size = ops.size → left ops.size listed ≤ fuel → Closed ops (fun k => listed.getD k false) →
      FR (if listed.getD yk false = true then X1 else X) yl A0 sav sv (eL R (fun k => listed.getD k false) (S 0).env ops.size) (lL R (fun k => listed.getD k false) (locOf (S 0)) ops.size) r ds a w → wpAnyIn (WF ro) n P .any ops Q fuel listed a w := by
  have done : ∀ (listed : Array Bool) (A0 : Nat → Prop) (r : Rr) (a : Act) (w : World), listed.size = ops.size → Region.ready .any ops listed = [] →
      FR (if listed.getD yk false = true then X1 else X) yl A0 sav sv (eL R (fun k => listed.getD k false) (S 0).env ops.size) (lL R (fun k => listed.getD k false) (locOf (S 0)) ops.size) r ds a w → Q .normal a w := by
    intro listed A0 r a w hs hr hfr
    have hall := ready_nil hok hs hr
    have hX : (if listed.getD yk false = true then X1 else X) = (if yk < ops.size then X1 else X) := by
      by_cases hy : yk < ops.size
      · rw [if_pos hy, if_pos (hall yk hy)]
      · rw [if_neg hy, if_neg (by rw [Array.getD_eq_getD_getElem?, Array.getElem?_eq_none (by omega)]; simp)]
    rw [hX] at hfr
    rw [eL_congr (L' := fun _ => true) ops.size (fun k hk => hall k hk), lL_congr (L' := fun _ => true) ops.size (fun k hk => hall k hk)] at hfr
    obtain ⟨e1, e2⟩ := hlex.frame ops.size (Nat.le_refl _)
    rw [← e1, ← e2] at hfr
    exact hQ A0 r a w hfr
  intro fuel
  induction fuel with
  | zero =>
    intro listed A0 r a w hs hleft _ hfr
    have hnil : Region.ready .any ops listed = [] := by
      cases hr : Region.ready .any ops listed with
      | nil => rfl
      | cons i rs =>
        have hi : i ∈ Region.ready .any ops listed := by rw [hr]; simp
        obtain ⟨h1, h2⟩ := List.mem_filter.1 hi
        simp only [Bool.and_eq_true] at h2
        have hmem : i ∈ (List.range ops.size).filter fun i => !listed.getD i true := List.mem_filter.2 ⟨h1, h2.1⟩
        have : 0 < left ops.size listed := List.length_pos_of_mem hmem
        omega
    exact ⟨hnil, done listed A0 r a w hs hnil hfr⟩
  | succ fuel ih =>
    intro listed A0 r a w hs hleft hcl' hfr
    refine ⟨fun hnil => done listed A0 r a w hs hnil hfr, fun i hi => ?_⟩
    obtain ⟨h1, h2⟩ := List.mem_filter.1 hi
    have hin : i < ops.size := List.mem_range.1 h1
    have hlt : i < listed.size := by omega
    have ho : ops[i]? = some ops[i] := Array.getElem?_eq_getElem hin
    simp only [Bool.and_eq_true, Bool.not_eq_true', ho, Option.map_some, Option.getD_some, Array.all_eq_true'] at h2
    obtain ⟨hun, haft⟩ := h2
    have hiL : listed.getD i false = false := by
      rw [Array.getD_eq_getD_getElem?, Array.getElem?_eq_getElem hlt, Option.getD_some] at hun ⊢; exact hun
    have hready : ∀ e ∈ (ops[i]).after, Region.binds .any e = true → listed.getD e.on false = true := fun e he hb => by
      have := haft e he
      simpa [hb] using this
    have hout : ∀ k, ops.size ≤ k → listed.getD k false = false := fun k hk => by
      rw [Array.getD_eq_getD_getElem?, Array.getElem?_eq_none (by omega)]; rfl
    obtain ⟨g1, g2⟩ := hlex.agree hok hcl' ho hiL hready hout
    obtain ⟨k1, k2⟩ := hlex.add hok hcl' ho hiL hout
    have hlisted : ∀ k, (listed.setIfInBounds i true).getD k false = addL (fun k => listed.getD k false) i k := fun k => by
      unfold addL
      rw [Array.getD_eq_getD_getElem?, Array.getElem?_setIfInBounds]
      by_cases he : i = k
      · subst he; simp [hlt]
      · rw [if_neg he, if_neg (Ne.symm he), ← Array.getD_eq_getD_getElem?]
    unfold wpOpIn
    simp only [ho]
    have fin : ∀ (Xn : Fx) (A0' : Nat → Prop) (r' : Rr) (a' : Act) (w' : World), (if (listed.setIfInBounds i true).getD yk false = true then X1 else X) = Xn →
        FR Xn yl A0' sav sv (putD (eL R (fun k => listed.getD k false) (S 0).env ops.size) (R i).dst (R i).v) (locE (R i) (lL R (fun k => listed.getD k false) (locOf (S 0)) ops.size)) r' ds a' w' → wpAnyIn (WF ro) n P .any ops Q fuel (listed.setIfInBounds i true) a' w' := by
      intro Xn A0' r' a' w' hXn hfr'
      refine ih (listed.setIfInBounds i true) A0' r' a' w' (by simp [hs]) ?_ ?_ ?_
      · have : left ops.size (listed.setIfInBounds i true) < left ops.size listed := by
          refine filter_lt _ (fun x hx hq => ?_) ⟨i, List.mem_range.2 hin, by simp [hun], ?_⟩
          · have hx' : x < listed.size := by have := List.mem_range.1 hx; omega
            rw [Array.getD_eq_getD_getElem?, Array.getElem?_setIfInBounds] at hq
            by_cases he : i = x
            · subst he; simp [hlt] at hq
            · rw [if_neg he, ← Array.getD_eq_getD_getElem?] at hq; exact hq
          · rw [Array.getD_eq_getD_getElem?, Array.getElem?_setIfInBounds]; simp [hlt]
        omega
      · intro k o hk hLk e he hb
        simp only [hlisted] at hLk ⊢
        unfold addL at hLk ⊢
        split
        · rfl
        · split at hLk
          · rename_i hki
            subst hki
            have : o = ops[k] := by rw [ho] at hk; injection hk with hk; exact hk.symm
            subst this
            exact hready e he hb
          · exact hcl' k o hk hLk e he hb
      · rw [eL_congr (L' := addL (fun k => listed.getD k false) i) ops.size (fun k _ => hlisted k), lL_congr (L' := addL (fun k => listed.getD k false) i) ops.size (fun k _ => hlisted k), k1, k2]
        rw [hXn]; exact hfr'

    by_cases hik : i = yk
    · have hfr0 : FR X yl A0 sav sv (eL R (fun k => listed.getD k false) (S 0).env ops.size) (lL R (fun k => listed.getD k false) (locOf (S 0)) ops.size) r ds a w := by
        rw [← hik, if_neg (by rw [hiL]; simp)] at hfr; exact hfr
      have hyo : ops[yk]? = some ops[i] := by rw [← hik]; exact ho
      refine hys _ hyo A0 _ _ r a w _ (fun t ht => by rw [← hik]; exact g1 t ht) hfr0 (fun A0' r' a' w' hfr' => ?_)
      rw [← hik] at hfr'
      exact fin X1 A0' r' a' w' (by rw [← hik, hlisted]; simp [addL]) hfr'
    · have hXn : (if (listed.setIfInBounds i true).getD yk false = true then X1 else X) = (if listed.getD yk false = true then X1 else X) := by
        rw [hlisted]; simp only [addL, if_neg (Ne.symm hik)]
      have hstep := hlex.step i _ ho hik
      unfold stepE at hstep
      have etouch : touch (evO (eL R (fun k => listed.getD k false) (S 0).env ops.size)) (S i).loc.length ops[i] = touch (evO (S i).env) (S i).loc.length ops[i] := touch_congr (evO_congr (ops := ops) g1)
      have heff : effOf P cl ops (eL R (fun k => listed.getD k false) (S 0).env ops.size) (lL R (fun k => listed.getD k false) (locOf (S 0)) ops.size) (S i).loc.length ops[i] = some (R i) := by
        rw [effOf_congr (env' := (S i).env) (loc' := locOf (S i)) g1 (fun t ht => by rw [etouch] at ht; exact g2 t ht)]
        exact hstep
      have hnx : ∀ c b v, opRes P (evO (eL R (fun k => listed.getD k false) (S 0).env ops.size)) (lL R (fun k => listed.getD k false) (locOf (S 0)) ops.size) (S i).loc.length ops[i] = some (c, .alloc b v) →
          (lL R (fun k => listed.getD k false) (locOf (S 0)) ops.size) (S i).loc.length = none := fun c b v hr => by
        have := opRes_alloc hr
        rw [etouch] at this
        exact fresh g2 this
      exact op_step hcl hfr hnx heff (fun r' a' w' hfr' => fin _ A0 r' a' w' hXn hfr')

end

end Go.Proofs.Ytkajafmphemedaa.Ev
