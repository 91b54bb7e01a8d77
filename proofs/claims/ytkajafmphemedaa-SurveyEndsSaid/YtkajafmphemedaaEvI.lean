/- Regions: the evaluator carries out the operations in the order of the text; whatever order the model draws, the frame at the end stands to the evaluator's. -/
import Derived.Test.YtkajafmphemedaaEvH
namespace Go.Proofs.Ytkajafmphemedaa.Ev
open Go.RowKit

def locOf (st : St) : Nat → Option Blk := fun k => st.loc[k]?

def applyE (st : St) (e : Eff) : St :=
  { st with
    env := putD st.env e.dst e.v
    loc := match e.mem with
      | some (j, b) => if j < st.loc.length then st.loc.set j b else st.loc ++ [b]
      | none => st.loc }

def stepE (P : Program) (cl : FuncId → List AV → Option AV) (ops : Array Oper) (st : St) (o : Oper) : Option Eff := effOf P cl ops st.env (locOf st) st.loc.length o

/-- What must have come up before an operation, as bits. -/
def maskOf (acc : List Nat) (o : Oper) : Nat := o.after.toList.foldl (fun s e => if Region.binds .any e = true then (s ||| 2 ^ e.on) ||| acc.getD e.on 0 else s) 0

def masks : List Oper → List Nat → List Nat
  | [], acc => acc
  | o :: os, acc => masks os (acc ++ [maskOf acc o])

def clashes (bf : List Nat) (i : Nat) (t : Nat × Bool) : List (Nat × Nat × Bool) → Bool
  | [] => false
  | (k, j, wr) :: rest => ((j == t.1 && (wr || t.2)) && !((bf.getD i 0).testBit k)) || clashes bf i t rest

def clashAny (bf : List Nat) (i : Nat) (tr : List (Nat × Nat × Bool)) : List (Nat × Bool) → Bool
  | [] => false
  | t :: ts => clashes bf i t tr || clashAny bf i tr ts

def addTr (i : Nat) (tr : List (Nat × Nat × Bool)) : List (Nat × Bool) → List (Nat × Nat × Bool)
  | [] => tr
  | t :: ts => (i, t.1, t.2) :: addTr i tr ts

/-- The operations of a region, one behind the other; in a region that draws its order no two of them may meet at an object unless their order is fixed. -/
def runOps (P : Program) (cl : FuncId → List AV → Option AV) (ops : Array Oper) (draw : Bool) (bf : List Nat) : List Oper → Nat → St → List (Nat × Nat × Bool) → Option St
  | [], _, st, _ => some st
  | o :: rest, i, st, tr => match stepE P cl ops st o with
    | some e => match draw with
      | true => match clashAny bf i tr (touch (evO st.env) st.loc.length o) with
        | true => none
        | false => runOps P cl ops draw bf rest (i + 1) (applyE st e) (addTr i tr (touch (evO st.env) st.loc.length o))
      | false => runOps P cl ops draw bf rest (i + 1) (applyE st e) tr
    | none => none

/-- Two operations that meet at a temporary. -/
def depSlot (ops : Array Oper) (x y : Oper) : Bool :=
  (match x.dst with | some d => (y.looksAt ops).contains d || y.dst == some d | none => false) || (match y.dst with | some d => (x.looksAt ops).contains d | none => false)

def regOkAt (ops : Array Oper) (bf : List Nat) (i : Nat) (oi : Oper) : Bool :=
  (oi.after.toList.all fun e => !Region.binds .any e || decide (e.on < i)) && (List.range i).all fun k => match ops[k]? with
    | some ok => !depSlot ops ok oi || (bf.getD i 0).testBit k
    | none => true

/-- What is asked of the text of a region that draws its order. -/
def regOk (ops : Array Oper) (bf : List Nat) : Bool := (List.range ops.size).all fun i => match ops[i]? with
  | some oi => regOkAt ops bf i oi
  | none => true

section
variable {P : Program} {cl : FuncId → List AV → Option AV} {X : Fx} {w : World} {A0 : Nat → Prop} {r : Rr} {ds : List Nat} {sav : List AV} {sv : Array Value} {yl : Option Nat} {a : Act} {ops : Array Oper} {ro : Option Nat} {n : Nat} {Q : Exit → Act → World → Prop}

theorem locOf_len (st : St) : locOf st st.loc.length = none := by simp [locOf]

theorem locOf_apply {st : St} {o : Oper} {e : Eff} (h : stepE P cl ops st o = some e) : locOf (applyE st e) = locE e (locOf st) := by
  funext k
  unfold locOf applyE locE
  cases hm : e.mem with
  | none => rfl
  | some jb =>
    obtain ⟨j, b⟩ := jb
    simp only
    rcases (effOf_mem h hm).2 with hj | hj
    · subst hj
      simp only [Nat.lt_irrefl, if_false]
      by_cases hk : k = st.loc.length
      · simp [hk]
      · rw [if_neg hk]
        by_cases hlt : k < st.loc.length
        · rw [List.getElem?_append_left hlt]
        · rw [List.getElem?_append_right (by omega), List.getElem?_eq_none (by simp; omega), List.getElem?_eq_none (by omega)]
    · have hlt : j < st.loc.length := by
        simp only [locOf] at hj
        cases hh : st.loc[j]? with
        | none => simp [hh] at hj
        | some x => exact (List.getElem?_eq_some_iff.1 hh).1
      simp only [hlt, if_true, List.getElem?_set]
      by_cases hk : k = j
      · subst hk; simp [hlt]
      · simp [hk, Ne.symm hk]

/-- The operations in the order of the text. -/
theorem seq_ops (hcl : ∀ f args v, cl f args = some v → PC P f args v) {bf : List Nat} : ∀ (l : List Oper) (i : Nat) (st st' : St) (tr : List (Nat × Nat × Bool)) (r : Rr) (a : Act) (w : World), (∀ j, l[j]? = ops[i + j]?) →
    runOps P cl ops false bf l i st tr = some st' → FR X yl A0 sav sv st.env (locOf st) r ds a w → (∀ r' a' w', FR X yl A0 sav sv st'.env (locOf st') r' ds a' w' → Q .normal a' w') →
    wpOpsIn (WF ro) n P ops Q (List.range' i l.length) a w
  | [], i, st, st', tr, r, a, w, _, h, hfr, hQ => by
    simp [runOps] at h; subst h
    exact hQ r a w hfr
  | o :: rest, i, st, st', tr, r, a, w, hl, h, hfr, hQ => by
    have h0 : ops[i]? = some o := by simpa using (hl 0).symm
    simp only [runOps] at h
    split at h
    · rename_i e he
      simp only [List.length_cons, List.range'_succ, wpOpsIn, h0]
      refine op_step hcl hfr (fun _ _ _ _ => locOf_len st) he (fun r' a' w' hfr' => ?_)
      refine seq_ops hcl rest (i + 1) (applyE st e) st' tr r' a' w' (fun j => by have := hl (j + 1); simpa [Nat.add_assoc, Nat.add_comm 1 j] using this) h ?_ hQ
      rw [locOf_apply he]
      exact hfr'
    · simp at h

theorem addTr_mem {i : Nat} {tr : List (Nat × Nat × Bool)} : ∀ {ts : List (Nat × Bool)} {x : Nat × Nat × Bool}, x ∈ addTr i tr ts ↔ (x ∈ tr ∨ ∃ t ∈ ts, x = (i, t.1, t.2))
  | [], x => by simp [addTr]
  | t :: ts, x => by
    simp only [addTr, List.mem_cons, addTr_mem (ts := ts)]
    constructor
    · rintro (h | h | ⟨t', ht, h⟩)
      · exact .inr ⟨t, .inl rfl, h⟩
      · exact .inl h
      · exact .inr ⟨t', .inr ht, h⟩
    · rintro (h | ⟨t', rfl | ht, h⟩)
      · exact .inr (.inl h)
      · exact .inl h
      · exact .inr (.inr ⟨t', ht, h⟩)

theorem clashes_false {bf : List Nat} {i : Nat} {t : Nat × Bool} : ∀ {tr : List (Nat × Nat × Bool)}, clashes bf i t tr = false → ∀ x ∈ tr, x.2.1 = t.1 → (x.2.2 = true ∨ t.2 = true) → (bf.getD i 0).testBit x.1 = true
  | [], _, x, hx, _, _ => by cases hx
  | (k, j, wr) :: rest, h, x, hx, he, hw => by
    simp only [clashes, Bool.or_eq_false_iff] at h
    rcases List.mem_cons.1 hx with rfl | hx
    · have h1 := h.1
      simp only at he hw
      cases hb : (bf.getD i 0).testBit k with
      | true => rfl
      | false =>
        rw [hb] at h1
        simp only [he, beq_self_eq_true, Bool.true_and, Bool.not_false, Bool.and_true] at h1
        rcases hw with hw | hw <;> simp [hw] at h1
    · exact clashes_false h.2 x hx he hw

theorem clashAny_false {bf : List Nat} {i : Nat} {tr : List (Nat × Nat × Bool)} : ∀ {ts : List (Nat × Bool)}, clashAny bf i tr ts = false → ∀ t ∈ ts, ∀ x ∈ tr, x.2.1 = t.1 → (x.2.2 = true ∨ t.2 = true) → (bf.getD i 0).testBit x.1 = true
  | [], _, t, ht => by cases ht
  | t' :: ts, h, t, ht => by
    simp only [clashAny, Bool.or_eq_false_iff] at h
    rcases List.mem_cons.1 ht with rfl | ht
    · exact clashes_false h.1
    · exact clashAny_false h.2 t ht

/-- The evaluator's walk through a region, step by step. -/
theorem trace {bf : List Nat} : ∀ (l : List Oper) (i : Nat) (st st' : St) (tr : List (Nat × Nat × Bool)), runOps P cl ops true bf l i st tr = some st' →
    ∃ (S : Nat → St) (R : Nat → Eff), S i = st ∧ S (i + l.length) = st' ∧ (∀ k o, l[k]? = some o → stepE P cl ops (S (i + k)) o = some (R (i + k)) ∧ S (i + k + 1) = applyE (S (i + k)) (R (i + k))) ∧
      (∀ k o, l[k]? = some o → ∀ t ∈ touch (evO (S (i + k)).env) (S (i + k)).loc.length o,
        (∀ x ∈ tr, x.2.1 = t.1 → (x.2.2 = true ∨ t.2 = true) → (bf.getD (i + k) 0).testBit x.1 = true) ∧
        ∀ k' o', k' < k → l[k']? = some o' → ∀ t' ∈ touch (evO (S (i + k')).env) (S (i + k')).loc.length o', t'.1 = t.1 → (t'.2 = true ∨ t.2 = true) → (bf.getD (i + k) 0).testBit (i + k') = true)
  | [], i, st, st', tr, h => by
    simp [runOps] at h; subst h
    exact ⟨fun _ => st, fun _ => ⟨none, .top, none⟩, rfl, rfl, fun k o hk => by simp at hk, fun k o hk => by simp at hk⟩
  | o :: rest, i, st, st', tr, h => by
    simp only [runOps] at h
    split at h
    · rename_i e he
      split at h
      · simp at h
      · rename_i hc
        obtain ⟨S, R, h1, h2, h3, h4⟩ := trace rest (i + 1) (applyE st e) st' _ h
        have hS : ∀ k, (if i + 1 + k = i then st else S (i + 1 + k)) = S (i + 1 + k) := fun k => if_neg (by omega)
        refine ⟨fun k => if k = i then st else S k, fun k => if k = i then e else R k, if_pos rfl, ?_, fun k o' hk => ?_, fun k o' hk t ht => ?_⟩
        · show (if i + (rest.length + 1) = i then st else S (i + (rest.length + 1))) = st'
          rw [if_neg (by omega), ← h2]; congr 1; omega
        · cases k with
          | zero =>
            simp at hk; subst hk
            simp only [Nat.add_zero, if_true]
            exact ⟨he, by rw [if_neg (by omega)]; exact h1⟩
          | succ k =>
            have e1 : i + (k + 1) = i + 1 + k := by omega
            have := h3 k o' (by simpa using hk)
            simp only [e1]
            rw [if_neg (show ¬ i + 1 + k = i by omega), if_neg (show ¬ i + 1 + k = i by omega), if_neg (show ¬ i + 1 + k + 1 = i by omega)]
            exact this
        · cases k with
          | zero =>
            simp at hk; subst hk
            simp only [Nat.add_zero, if_true] at ht ⊢
            exact ⟨clashAny_false hc t ht, fun k' o'' hk' => by omega⟩
          | succ k =>
            have e1 : i + (k + 1) = i + 1 + k := by omega
            simp only [e1] at ht ⊢
            rw [if_neg (show ¬ i + 1 + k = i by omega)] at ht
            obtain ⟨g1, g2⟩ := h4 k o' (by simpa using hk) t ht
            refine ⟨fun x hx => g1 x (addTr_mem.2 (.inl hx)), fun k' o'' hk' ho'' t' ht' he' hw' => ?_⟩
            cases k' with
            | zero =>
              simp at ho''; subst ho''
              simp only [Nat.add_zero, if_true] at ht'
              exact g1 (i, t'.1, t'.2) (addTr_mem.2 (.inr ⟨t', ht', rfl⟩)) he' hw'
            | succ k' =>
              have e2 : i + (k' + 1) = i + 1 + k' := by omega
              simp only [e2] at ht' ⊢
              rw [if_neg (show ¬ i + 1 + k' = i by omega)] at ht'
              exact g2 k' o'' (by omega) (by simpa using ho'') t' ht' he' hw'
    · simp at h

/-! ### What is fixed of the order -/

theorem foldl_mask {acc : List Nat} {j : Nat} : ∀ (l : List Edge) (s : Nat), (l.foldl (fun s e => if Region.binds .any e = true then (s ||| 2 ^ e.on) ||| acc.getD e.on 0 else s) s).testBit j = true →
    s.testBit j = true ∨ ∃ e ∈ l, Region.binds .any e = true ∧ (e.on = j ∨ (acc.getD e.on 0).testBit j = true)
  | [], s, h => .inl h
  | e :: l, s, h => by
    simp only [List.foldl_cons] at h
    rcases foldl_mask l _ h with h | ⟨e', he', h'⟩
    · split at h
      · rename_i hb
        rw [Nat.testBit_or, Nat.testBit_or, Bool.or_eq_true, Bool.or_eq_true] at h
        rcases h with (h | h) | h
        · exact .inl h
        · rw [Nat.testBit_two_pow] at h
          exact .inr ⟨e, by simp, hb, .inl (by simpa using h)⟩
        · exact .inr ⟨e, by simp, hb, .inr h⟩
      · exact .inl h
    · exact .inr ⟨e', by simp [he'], h'⟩

theorem masks_spec : ∀ (l : List Oper) (acc : List Nat), (masks l acc).take acc.length = acc ∧ (masks l acc).length = acc.length + l.length ∧
    ∀ i o, l[i]? = some o → (masks l acc)[acc.length + i]? = some (maskOf ((masks l acc).take (acc.length + i)) o)
  | [], acc => ⟨by simp [masks], by simp [masks], fun i o h => by simp at h⟩
  | o :: os, acc => by
    obtain ⟨h1, h2, h3⟩ := masks_spec os (acc ++ [maskOf acc o])
    simp only [masks]
    have ht : (masks os (acc ++ [maskOf acc o])).take acc.length = acc := by
      have := congrArg (List.take acc.length) h1
      rw [List.take_take] at this
      simpa using this
    refine ⟨ht, by rw [h2]; simp; omega, fun i o' hi => ?_⟩
    cases i with
    | zero =>
      simp at hi; subst hi
      simp only [Nat.add_zero, ht]
      have : ((masks os (acc ++ [maskOf acc o])).take (acc ++ [maskOf acc o]).length)[acc.length]? = (acc ++ [maskOf acc o])[acc.length]? := by rw [h1]
      rw [List.getElem?_take] at this
      simpa using this
    | succ i =>
      have := h3 i o' (by simpa using hi)
      simp only [List.length_append, List.length_singleton] at this
      rw [show acc.length + (i + 1) = acc.length + 1 + i by omega]
      exact this

/-- A set of operations that holds with each one all that it waits for. -/
def Closed (ops : Array Oper) (L : Nat → Bool) : Prop := ∀ i o, ops[i]? = some o → L i = true → ∀ e ∈ o.after, Region.binds .any e = true → L e.on = true

theorem closed_before {L : Nat → Bool} (hL : Closed ops L) : ∀ (i : Nat) (o : Oper), ops[i]? = some o → (∀ e ∈ o.after, Region.binds .any e = true → L e.on = true) → ∀ k, ((masks ops.toList []).getD i 0).testBit k = true → L k = true := by
  intro i
  induction i using Nat.strongRecOn with
  | _ i ih =>
    intro o ho hr k hk
    have hsp := (masks_spec ops.toList []).2.2 i o (by simpa using ho)
    simp only [List.length_nil, Nat.zero_add] at hsp
    rw [List.getD_eq_getElem?_getD, hsp, Option.getD_some] at hk
    unfold maskOf at hk
    rcases foldl_mask _ _ hk with h | ⟨e, he, hb, h⟩
    · simp at h
    · have hLe := hr e (by simpa using he) hb
      rcases h with h | h
      · rw [← h]; exact hLe
      · have hlt : e.on < i := by
          rcases Nat.lt_or_ge e.on i with hlt | hge
          · exact hlt
          · rw [List.getD_eq_getElem?_getD, List.getElem?_eq_none (by simp; omega)] at h
            simp at h
        have hlo : e.on < ops.size := Nat.lt_trans hlt (Array.getElem?_eq_some_iff.1 ho).1
        refine ih e.on hlt ops[e.on] (Array.getElem?_eq_getElem hlo) (hL e.on _ (Array.getElem?_eq_getElem hlo) hLe) k ?_
        rw [List.getD_eq_getElem?_getD, List.getElem?_take, if_pos hlt] at h
        rw [List.getD_eq_getElem?_getD]
        exact h

/-! ### The frame when a set of operations has come up -/

def eL (R : Nat → Eff) (L : Nat → Bool) (env0 : List AV) : Nat → List AV
  | 0 => env0
  | k + 1 => if L k = true then putD (eL R L env0 k) (R k).dst (R k).v else eL R L env0 k

def lL (R : Nat → Eff) (L : Nat → Bool) (loc0 : Nat → Option Blk) : Nat → Nat → Option Blk
  | 0 => loc0
  | k + 1 => if L k = true then locE (R k) (lL R L loc0 k) else lL R L loc0 k

theorem putD_length (env : List AV) (d : Option Nat) (v : AV) : (putD env d v).length = env.length := by cases d <;> simp [putD]

theorem eL_length (R : Nat → Eff) (L : Nat → Bool) (env0 : List AV) : ∀ k, (eL R L env0 k).length = env0.length
  | 0 => rfl
  | k + 1 => by simp only [eL]; split <;> simp [putD_length, eL_length R L env0 k]

theorem putD_get_ne {env : List AV} {d : Option Nat} {v : AV} {t : Nat} (h : d ≠ some t) : (putD env d v)[t]? = env[t]? := by
  cases d with
  | none => rfl
  | some d => simp only [putD]; rw [List.getElem?_set, if_neg (fun e => h (by rw [e]))]

theorem eL_agree {R : Nat → Eff} {L : Nat → Bool} {env0 : List AV} {t i : Nat} (h1 : ∀ k, k < i → (R k).dst = some t → L k = true) (h2 : ∀ k, i ≤ k → (R k).dst = some t → L k = false) : ∀ m, i ≤ m → (eL R L env0 m)[t]? = (eL R (fun _ => true) env0 i)[t]? := by
  have low : ∀ k, k ≤ i → (eL R L env0 k)[t]? = (eL R (fun _ => true) env0 k)[t]? := by
    intro k
    induction k with
    | zero => intro _; rfl
    | succ k ih =>
      intro hk
      have ih := ih (by omega)
      simp only [eL, if_true]
      by_cases hd : (R k).dst = some t
      · rw [if_pos (h1 k (by omega) hd), hd]
        simp only [putD, List.getElem?_set, if_true]
        rw [eL_length, eL_length]
      · rw [putD_get_ne hd]
        split
        · rw [putD_get_ne hd]; exact ih
        · exact ih
  intro m hm
  induction m with
  | zero =>
    have : i = 0 := by omega
    subst this; rfl
  | succ m ih =>
    by_cases he : i = m + 1
    · subst he; exact low _ (Nat.le_refl _)
    · have hm' : i ≤ m := by omega
      simp only [eL]
      split
      · rename_i hL
        have hd : (R m).dst ≠ some t := fun hd => by rw [h2 m hm' hd] at hL; cases hL
        rw [putD_get_ne hd]; exact ih hm'
      · exact ih hm'

theorem locE_ne {e : Eff} {l : Nat → Option Blk} {t : Nat} (h : ∀ b, e.mem ≠ some (t, b)) : locE e l t = l t := by
  unfold locE
  cases hm : e.mem with
  | none => rfl
  | some jb =>
    obtain ⟨j, b⟩ := jb
    simp only
    rw [if_neg (fun e' => h b (by rw [hm, e']))]

theorem lL_agree {R : Nat → Eff} {L : Nat → Bool} {loc0 : Nat → Option Blk} {t i : Nat} (h1 : ∀ k b, k < i → (R k).mem = some (t, b) → L k = true) (h2 : ∀ k b, i ≤ k → (R k).mem = some (t, b) → L k = false) : ∀ m, i ≤ m → lL R L loc0 m t = lL R (fun _ => true) loc0 i t := by
  have low : ∀ k, k ≤ i → lL R L loc0 k t = lL R (fun _ => true) loc0 k t := by
    intro k
    induction k with
    | zero => intro _; rfl
    | succ k ih =>
      intro hk
      have ih := ih (by omega)
      simp only [lL, if_true]
      by_cases hd : ∃ b, (R k).mem = some (t, b)
      · obtain ⟨b, hb⟩ := hd
        rw [if_pos (h1 k b (by omega) hb)]
        simp [locE, hb]
      · rw [locE_ne (fun b hb => hd ⟨b, hb⟩)]
        split
        · rw [locE_ne (fun b hb => hd ⟨b, hb⟩)]; exact ih
        · exact ih
  intro m hm
  induction m with
  | zero =>
    have : i = 0 := by omega
    subst this; rfl
  | succ m ih =>
    by_cases he : i = m + 1
    · subst he; exact low _ (Nat.le_refl _)
    · have hm' : i ≤ m := by omega
      simp only [lL]
      split
      · rename_i hL
        rw [locE_ne (fun b hb => by rw [h2 m b hm' hb] at hL; cases hL)]; exact ih hm'
      · exact ih hm'

def addL (L : Nat → Bool) (i : Nat) : Nat → Bool := fun k => if k = i then true else L k

theorem putD_comm {env : List AV} {d d' : Option Nat} {v v' : AV} (h : ∀ t, d = some t → d' ≠ some t) : putD (putD env d v) d' v' = putD (putD env d' v') d v := by
  cases d with
  | none => rfl
  | some d => cases d' with
    | none => rfl
    | some d' =>
      simp only [putD]
      exact List.set_comm v v' (fun e => h d rfl (by rw [e]))

theorem eL_add {R : Nat → Eff} {L : Nat → Bool} {env0 : List AV} {i : Nat} (hi : L i = false) (h : ∀ k, i < k → L k = true → ∀ t, (R i).dst = some t → (R k).dst ≠ some t) : ∀ m, i < m → eL R (addL L i) env0 m = putD (eL R L env0 m) (R i).dst (R i).v := by
  have low : ∀ k, k ≤ i → eL R (addL L i) env0 k = eL R L env0 k := by
    intro k
    induction k with
    | zero => intro _; rfl
    | succ k ih => intro hk; simp only [eL, addL, if_neg (show ¬ k = i by omega)]; rw [show eL R (addL L i) env0 k = eL R L env0 k from ih (by omega)]
  intro m hm
  induction m with
  | zero => omega
  | succ m ih =>
    by_cases he : m = i
    · subst he
      simp only [eL, addL, if_true, hi, Bool.false_eq_true, if_false]
      rw [show eL R (addL L m) env0 m = eL R L env0 m from low m (Nat.le_refl _)]
    · have hm' : i < m := by omega
      simp only [eL, addL, if_neg he]
      rw [show eL R (addL L i) env0 m = putD (eL R L env0 m) (R i).dst (R i).v from ih hm']
      split
      · rename_i hL
        exact putD_comm (h m hm' hL)
      · rfl

theorem locE_comm {e e' : Eff} {l : Nat → Option Blk} (h : ∀ j b b', e.mem = some (j, b) → e'.mem ≠ some (j, b')) : locE e' (locE e l) = locE e (locE e' l) := by
  funext k
  unfold locE
  cases hm : e.mem with
  | none => rfl
  | some jb =>
    obtain ⟨j, b⟩ := jb
    cases hm' : e'.mem with
    | none => rfl
    | some jb' =>
      obtain ⟨j', b'⟩ := jb'
      simp only
      by_cases h1 : k = j' <;> by_cases h2 : k = j
      · exact absurd hm' (by rw [← h1, h2]; exact h j b b' hm)
      · simp [h1]
        intro e; subst e; exact absurd h1 h2
      · simp [h2]
        intro e; subst e; exact absurd h2 (fun h => h1 h)
      · simp [h1, h2]

theorem lL_add {R : Nat → Eff} {L : Nat → Bool} {loc0 : Nat → Option Blk} {i : Nat} (hi : L i = false) (h : ∀ k, i < k → L k = true → ∀ j b b', (R i).mem = some (j, b) → (R k).mem ≠ some (j, b')) : ∀ m, i < m → lL R (addL L i) loc0 m = locE (R i) (lL R L loc0 m) := by
  have low : ∀ k, k ≤ i → lL R (addL L i) loc0 k = lL R L loc0 k := by
    intro k
    induction k with
    | zero => intro _; rfl
    | succ k ih => intro hk; simp only [lL, addL, if_neg (show ¬ k = i by omega)]; rw [show lL R (addL L i) loc0 k = lL R L loc0 k from ih (by omega)]
  intro m hm
  induction m with
  | zero => omega
  | succ m ih =>
    by_cases he : m = i
    · subst he
      simp only [lL, addL, if_true, hi, Bool.false_eq_true, if_false]
      rw [show lL R (addL L m) loc0 m = lL R L loc0 m from low m (Nat.le_refl _)]
    · have hm' : i < m := by omega
      simp only [lL, addL, if_neg he]
      rw [show lL R (addL L i) loc0 m = locE (R i) (lL R L loc0 m) from ih hm']
      split
      · rename_i hL
        exact locE_comm (h m hm' hL)
      · rfl

theorem eL_congr {R : Nat → Eff} {L L' : Nat → Bool} {env0 : List AV} : ∀ m, (∀ k, k < m → L k = L' k) → eL R L env0 m = eL R L' env0 m
  | 0, _ => rfl
  | m + 1, h => by simp only [eL]; rw [h m (by omega), eL_congr m (fun k hk => h k (by omega))]

theorem lL_congr {R : Nat → Eff} {L L' : Nat → Bool} {loc0 : Nat → Option Blk} : ∀ m, (∀ k, k < m → L k = L' k) → lL R L loc0 m = lL R L' loc0 m
  | 0, _ => rfl
  | m + 1, h => by simp only [lL]; rw [h m (by omega), lL_congr m (fun k hk => h k (by omega))]

end

end Go.Proofs.Ytkajafmphemedaa.Ev
