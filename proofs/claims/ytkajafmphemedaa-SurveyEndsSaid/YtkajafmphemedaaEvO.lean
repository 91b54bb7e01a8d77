/- The evaluator: trees of cases; regions. -/
import Derived.Test.YtkajafmphemedaaEvN
namespace Go.Proofs.Ytkajafmphemedaa.Ev
open Go.RowKit

/-- What an evaluation comes to, case by case. -/
inductive T (α : Type) : Type 1 where
  | fail
  | ret (a : α)
  | chk (g : Bool) (t : T α)
  | br (b : Bool) (t e : T α)
  | obs {β : Type} (o : Option β) (k : β → T α)
  | sum {β γ : Type} (x : β ⊕ γ) (f : β → T α) (g : γ → T α)

namespace T
variable {α β : Type}

def bind : T α → (α → T β) → T β
  | fail, _ => fail
  | ret a, k => k a
  | chk g t, k => chk g (bind t k)
  | br b t e, k => br b (bind t k) (bind e k)
  | obs o f, k => obs o fun x => bind (f x) k
  | sum x f g, k => sum x (fun y => bind (f y) k) (fun z => bind (g z) k)

def run : T α → Option α
  | fail => none
  | ret a => some a
  | chk g t => match g with
    | true => run t
    | false => none
  | br b t e => match b with
    | true => run t
    | false => run e
  | obs o f => match o with
    | some x => run (f x)
    | none => none
  | sum x f g => match x with
    | .inl y => run (f y)
    | .inr z => run (g z)

def ofOpt : Option α → T α
  | some a => ret a
  | none => fail

theorem run_br (b : Bool) (t e : T α) : (T.br b t e).run = if b = true then t.run else e.run := by cases b <;> rfl
theorem run_chk (g : Bool) (t : T α) : (T.chk g t).run = if g = true then t.run else none := by cases g <;> rfl
theorem br_some {b : Bool} {t e : T α} {x y : α} (h1 : t.run = some x) (h2 : e.run = some y) : (T.br b t e).run = some (if b = true then x else y) := by cases b <;> assumption
theorem run_ret (a : α) : (T.ret a).run = some a := rfl
theorem run_fail : (T.fail : T α).run = none := rfl
theorem run_some {β : Type} (x : β) (k : β → T α) : (T.obs (some x) k).run = (k x).run := rfl
theorem run_inl {β γ : Type} (x : β) (f : β → T α) (g : γ → T α) : (T.sum (.inl x) f g).run = (f x).run := rfl
theorem run_inr {β γ : Type} (x : γ) (f : β → T α) (g : γ → T α) : (T.sum (.inr x) f g).run = (g x).run := rfl

theorem run_bind {k : α → T β} {b : β} : ∀ {t : T α}, run (bind t k) = some b → ∃ a, run t = some a ∧ run (k a) = some b
  | fail, h => by simp [bind, run] at h
  | ret a, h => ⟨a, rfl, h⟩
  | chk g t, h => by
    simp only [bind, run] at h
    cases g with
    | true => exact run_bind (t := t) h
    | false => simp at h
  | br c t e, h => by
    simp only [bind, run] at h
    cases c with
    | true => exact run_bind (t := t) h
    | false => exact run_bind (t := e) h
  | obs o f, h => by
    cases o with
    | none => simp [bind, run] at h
    | some x => exact run_bind (t := f x) h
  | sum x f g, h => by
    cases x with
    | inl y => exact run_bind (t := f y) h
    | inr z => exact run_bind (t := g z) h

theorem run_bind_eq {k : α → T β} : ∀ (t : T α), run (bind t k) = match run t with | some a => run (k a) | none => none
  | fail => rfl
  | ret a => rfl
  | chk g t => by
    simp only [bind, run]
    cases g with
    | true => exact run_bind_eq t
    | false => rfl
  | br c t e => by
    simp only [bind, run]
    cases c with
    | true => exact run_bind_eq t
    | false => exact run_bind_eq e
  | obs o f => by
    cases o with
    | none => rfl
    | some x => exact run_bind_eq (f x)
  | sum x f g => by
    cases x with
    | inl y => exact run_bind_eq (f y)
    | inr z => exact run_bind_eq (g z)
end T

/-! ### Values are worked out at once -/

universe u
section
variable {R : Sort u}

def force0 (x : AV) (k : AV → R) : R := match x with
  | .int a n => k (.int a n)
  | .bool b => k (.bool b)
  | .str l => k (.str l)
  | .nilptr => k .nilptr
  | .lptr a b c d => k (.lptr a b c d)
  | .xptr a b c d e => k (.xptr a b c d e)
  | .nilsl => k .nilsl
  | .lsl a b c d e f => k (.lsl a b c d e f)
  | .xsl a b c d e f => k (.xsl a b c d e f)
  | .fn a b c => k (.fn a b c)
  | .nilfn => k .nilfn
  | .yv => k .yv
  | .nilif => k .nilif
  | .agg a => k (.agg a)
  | .tup a => k (.tup a)
  | .top => k .top

theorem force0_eq (x : AV) (k : AV → R) : force0 x k = k x := by cases x <;> rfl

def forceL0 : List AV → (List AV → R) → R
  | [], k => k []
  | x :: xs, k => force0 x fun y => forceL0 xs fun ys => k (y :: ys)

theorem forceL0_eq : ∀ (l : List AV) (k : List AV → R), forceL0 l k = k l
  | [], k => rfl
  | x :: xs, k => by rw [forceL0, force0_eq, forceL0_eq xs]

def force1 (x : AV) (k : AV → R) : R := match x with
  | .agg cs => forceL0 cs fun ys => k (.agg ys)
  | x => force0 x k

theorem force1_eq (x : AV) (k : AV → R) : force1 x k = k x := by
  unfold force1
  split
  · exact forceL0_eq _ _
  · exact force0_eq _ _

def forceL1 : List AV → (List AV → R) → R
  | [], k => k []
  | x :: xs, k => force1 x fun y => forceL1 xs fun ys => k (y :: ys)

theorem forceL1_eq : ∀ (l : List AV) (k : List AV → R), forceL1 l k = k l
  | [], k => rfl
  | x :: xs, k => by rw [forceL1, force1_eq, forceL1_eq xs]

def force (x : AV) (k : AV → R) : R := match x with
  | .tup cs => forceL1 cs fun ys => k (.tup ys)
  | x => force1 x k

theorem force_eq (x : AV) (k : AV → R) : force x k = k x := by
  unfold force
  split
  · exact forceL1_eq _ _
  · exact force1_eq _ _

def forceB : List Blk → (List Blk → R) → R
  | [], k => k []
  | .flat t cs :: bs, k => forceL0 cs fun ys => forceB bs fun zs => k (.flat t ys :: zs)

theorem forceB_eq : ∀ (l : List Blk) (k : List Blk → R), forceB l k = k l
  | [], k => rfl
  | .flat t cs :: bs, k => by rw [forceB, forceL0_eq, forceB_eq bs]

def forceS (st : St) (k : St → R) : R := forceL1 st.env fun e => forceB st.loc fun l => k { st with env := e, loc := l }

theorem forceS_eq (st : St) (k : St → R) : forceS st k = k st := by rw [forceS, forceL1_eq, forceB_eq]
end

/-- The calls' results. -/
def effT (C : FuncId → List AV → T AV) (loc : Nat → Option Blk) (nx : Nat) (o : Oper) : Res → T Eff
  | .val v => .ret ⟨o.dst, v, none⟩
  | .alloc b v => .ret ⟨o.dst, v, some (nx, b)⟩
  | .store j b => .ret ⟨o.dst, .tup [], some (j, b)⟩
  | .call f args => match callArgs loc args with
    | some (ex, args') => (C f args').bind fun v => match ex && !plainR v with
      | true => .fail
      | false => .ret ⟨o.dst, v, none⟩
    | none => .fail

/-- One operation, wanted. -/
def stepT (P : Program) (C : FuncId → List AV → T AV) (st : St) (o : Oper) : T Eff :=
  match o.op with
  | .pick c a b => match evO st.env c with
    | some (.bool t) => .br t ((T.ofOpt (evO st.env a)).bind fun v => .ret ⟨o.dst, v, none⟩) ((T.ofOpt (evO st.env b)).bind fun v => .ret ⟨o.dst, v, none⟩)
    | _ => .fail
  | _ => match opRes P (evO st.env) (locOf st) st.loc.length o with
    | some (g, res) => .chk g (effT C (locOf st) st.loc.length o res)
    | none => .fail

/-- A yield: its arguments. -/
def yieldOf (st : St) (o : Oper) : Option (List AV) :=
  match o.op with
  | .call c => match c.callee with
    | .value f => match evO st.env f with
      | some .yv => match mapEv (evO st.env) c.args.toList with
        | some vs => match vs.all noL with
          | true => some vs
          | false => none
        | none => none
      | _ => none
    | _ => none
  | _ => none

def litSlot (st : St) (d : Nat) (b : Bool) : St := { st with env := st.env.set d (.bool b) }

def goT (P : Program) (C : FuncId → List AV → T AV) (k : St → T St) (o : Oper) (st : St) : T St :=
  match yieldOf st o with
  | some vs => k { st with env := putD st.env o.dst (.bool (st.bs st.out.length)), out := (vs, st.bs st.out.length) :: st.out }
  | none => (stepT P C st o).bind fun e => force e.v fun v => k (applyE st { e with v := v })

def skipT (k : St → T St) (o : Oper) (st : St) : T St := k (applyE st ⟨o.dst, .tup [], none⟩)

def guardT (ops : Array Oper) (st : St) (o : Oper) (go skip : St → T St) : T St :=
  match o.guard with
  | none => go st
  | some (j, want) => match ops[j]? with
    | some oj => match oj.dst with
      | some d => match st.env[d]? with
        | some (.bool b) => .br b (match want with | true => go (litSlot st d true) | false => skip (litSlot st d true)) (match want with | true => skip (litSlot st d false) | false => go (litSlot st d false))
        | some (.tup []) => skip st
        | _ => .fail
      | none => .fail
    | none => .fail

/-- The operations of a region in the order of the text. -/
def runT (P : Program) (C : FuncId → List AV → T AV) (ops : Array Oper) : List Oper → St → T St
  | [], st => .ret st
  | o :: rest, st => guardT ops st o (goT P C (runT P C ops rest) o) (skipT (runT P C ops rest) o)

/-- The same where the order is drawn: no two may meet at an object unless their order is fixed; one yield at most. -/
def runTd (P : Program) (C : FuncId → List AV → T AV) (ops : Array Oper) (bf : List Nat) : List Oper → Nat → St → List (Nat × Nat × Bool) → Bool → T St
  | [], _, st, _, _ => .ret st
  | o :: rest, i, st, tr, y => guardT ops st o
      (fun st => match clashAny bf i tr (touch (evO st.env) st.loc.length o) with
        | true => .fail
        | false => match yieldOf st o with
          | some vs => match y with
            | true => .fail
            | false => runTd P C ops bf rest (i + 1) { st with env := putD st.env o.dst (.bool (st.bs st.out.length)), out := (vs, st.bs st.out.length) :: st.out } (addTr i tr (touch (evO st.env) st.loc.length o)) true
          | none => (stepT P C st o).bind fun e => force e.v fun v => runTd P C ops bf rest (i + 1) (applyE st { e with v := v }) (addTr i tr (touch (evO st.env) st.loc.length o)) y)
      (fun st => match clashAny bf i tr (touch (evO st.env) st.loc.length o) with
        | true => .fail
        | false => runTd P C ops bf rest (i + 1) (applyE st ⟨o.dst, .tup [], none⟩) (addTr i tr (touch (evO st.env) st.loc.length o)) y)

section
variable {P : Program} {C : FuncId → List AV → T AV} {ops : Array Oper} {st : St} {o : Oper}

theorem effT_run {loc : Nat → Option Blk} {nx : Nat} {res : Res} {e : Eff} (h : (effT C loc nx o res).run = some e) : effR (fun f args => (C f args).run) loc nx o res = some e := by
  cases res with
  | val v => exact h
  | alloc b v => exact h
  | store j b => exact h
  | call f args =>
    simp only [effT] at h
    simp only [effR]
    split at h
    · rename_i ex args' hc
      obtain ⟨v, h1, h2⟩ := T.run_bind h
      simp only [hc, h1]
      split at h2
      · simp [T.run] at h2
      · rename_i hx
        simp only [hx]
        exact h2
    · simp [T.run] at h

theorem stepT_run {e : Eff} (h : (stepT P C st o).run = some e) : ∃ res, opRes P (evO st.env) (locOf st) st.loc.length o = some (true, res) ∧ effR (fun f args => (C f args).run) (locOf st) st.loc.length o res = some e := by
  unfold stepT at h
  split at h
  · rename_i c a b hop
    split at h
    · rename_i t ht
      have key : ∀ x : Operand, (((T.ofOpt (evO st.env x)).bind fun v => (T.ret ⟨o.dst, v, none⟩ : T Eff)).run = some e) → ∃ v, evO st.env x = some v ∧ e = ⟨o.dst, v, none⟩ := fun x hx => by
        obtain ⟨v, h1, h2⟩ := T.run_bind hx
        refine ⟨v, ?_, ?_⟩
        · cases hv : evO st.env x with
          | none => simp [hv, T.ofOpt, T.run] at h1
          | some u => simp [hv, T.ofOpt, T.run] at h1; rw [h1]
        · simp [T.run] at h2; exact h2.symm
      cases t with
      | true =>
        obtain ⟨v, h1, rfl⟩ := key a h
        exact ⟨.val v, by simp [opRes, native, hop, ht, h1], rfl⟩
      | false =>
        obtain ⟨v, h1, rfl⟩ := key b h
        exact ⟨.val v, by simp [opRes, native, hop, ht, h1], rfl⟩
    · simp [T.run] at h
  · split at h
    · rename_i g res hres
      cases g with
      | true => exact ⟨res, hres, effT_run h⟩
      | false => simp [T.run] at h
    · simp [T.run] at h

theorem lit_same {d : Nat} {b : Bool} (h : st.env[d]? = some (.bool b)) : litSlot st d b = st := by
  unfold litSlot
  have : st.env.set d (.bool b) = st.env := by
    apply List.ext_getElem?
    intro i
    rw [List.getElem?_set]
    split
    · rename_i e
      subst e
      have hi := (List.getElem?_eq_some_iff.1 h).1
      rw [if_pos hi, h]
    · rfl
  rw [this]

theorem guardT_run {go skip : St → T St} {r : St} (h : (guardT ops st o go skip).run = some r) : (wantD ops st.env o = some true ∧ (go st).run = some r) ∨ (wantD ops st.env o = some false ∧ (skip st).run = some r) := by
  unfold guardT at h
  split at h
  · rename_i hg
    exact .inl ⟨by simp [wantD, hg], h⟩
  · rename_i j want hg
    split at h
    · rename_i oj hj
      split at h
      · rename_i d hd
        split at h
        · rename_i b hb
          cases b with
          | true =>
            have e := lit_same hb
            cases want with
            | true => rw [e] at h; exact .inl ⟨by simp [wantD, hg, hj, hd, hb], h⟩
            | false => rw [e] at h; exact .inr ⟨by simp [wantD, hg, hj, hd, hb], h⟩
          | false =>
            have e := lit_same hb
            cases want with
            | true => rw [e] at h; exact .inr ⟨by simp [wantD, hg, hj, hd, hb], h⟩
            | false => rw [e] at h; exact .inl ⟨by simp [wantD, hg, hj, hd, hb], h⟩
        · rename_i hb
          exact .inr ⟨by simp [wantD, hg, hj, hd, hb], h⟩
        · simp [T.run] at h
      · simp [T.run] at h
    · simp [T.run] at h

theorem stepE_go {e : Eff} (hw : wantD ops st.env o = some true) (h : (stepT P C st o).run = some e) : stepE P (fun f args => (C f args).run) ops st o = some e := by
  obtain ⟨res, h1, h2⟩ := stepT_run h
  simp only [stepE, effOf, hw, h1, h2]

theorem stepE_skip (hw : wantD ops st.env o = some false) : stepE P (fun f args => (C f args).run) ops st o = some ⟨o.dst, .tup [], none⟩ := by
  simp only [stepE, effOf, hw]

theorem yieldOf_spec {vs : List AV} (h : yieldOf st o = some vs) : ∃ (c : Call) (f : Operand), o.op = .call c ∧ c.callee = .value f ∧ evO st.env f = some .yv ∧ mapEv (evO st.env) c.args.toList = some vs ∧ vs.all noL = true := by
  unfold yieldOf at h
  split at h
  · rename_i c hop
    split at h
    · rename_i f hc
      split at h
      · rename_i hf
        split at h
        · rename_i vs' hvs
          split at h
          · rename_i hn
            injection h with h; subst h
            exact ⟨c, f, hop, hc, hf, hvs, hn⟩
          · simp at h
        · simp at h
      · simp at h
    · simp at h
  · simp at h

theorem runT_ld (hcl : ∀ f args v, (C f args).run = some v → PC P f args v) : ∀ (l : List Oper) (i : Nat) (st st' : St), (∀ j, l[j]? = ops[i + j]?) → (runT P C ops l st).run = some st' → LdO P ops l i st st'
  | [], i, st, st', _, h => by
    simp [runT, T.run] at h; subst h; exact LdO.nil
  | o :: rest, i, st, st', hl, h => by
    have h0 : ops[i]? = some o := by simpa using (hl 0).symm
    have hl' : ∀ j, rest[j]? = ops[i + 1 + j]? := fun j => by have := hl (j + 1); simpa [Nat.add_assoc, Nat.add_comm 1 j] using this
    simp only [runT] at h
    rcases guardT_run h with ⟨hw, h⟩ | ⟨hw, h⟩
    · unfold goT at h
      split at h
      · rename_i vs hy
        obtain ⟨c, f, hop, hc, hf, hvs, hn⟩ := yieldOf_spec hy
        exact LdO.yield h0 hw hop hc hf hvs hn (runT_ld hcl rest (i + 1) _ st' hl' h)
      · obtain ⟨e, h1, h2⟩ := T.run_bind h
        rw [force_eq] at h2
        exact LdO.step (cl := fun f args => (C f args).run) hcl h0 (stepE_go hw h1) (runT_ld hcl rest (i + 1) _ st' hl' h2)
    · exact LdO.step (cl := fun f args => (C f args).run) hcl h0 (stepE_skip hw) (runT_ld hcl rest (i + 1) _ st' hl' h)

theorem runTd_wk {bf : List Nat} : ∀ (l : List Oper) (i : Nat) (st st' : St) (tr : List (Nat × Nat × Bool)) (y : Bool), (runTd P C ops bf l i st tr y).run = some st' → Wk P (fun f args => (C f args).run) ops bf l i st tr y st'
  | [], i, st, st', tr, y, h => by simp [runTd, T.run] at h; subst h; exact .nil
  | o :: rest, i, st, st', tr, y, h => by
    simp only [runTd] at h
    rcases guardT_run h with ⟨hw, h⟩ | ⟨hw, h⟩
    · split at h
      · simp [T.run] at h
      · rename_i hc
        split at h
        · rename_i vs hy
          split at h
          · simp [T.run] at h
          · obtain ⟨c, f, hop, hcc, hf, hvs, hn⟩ := yieldOf_spec hy
            exact .cons (isY := true) (e := ⟨o.dst, .bool (st.bs st.out.length), none⟩) ⟨c, f, vs, st.bs st.out.length, hw, hop, hcc, hf, hvs, hn, rfl, rfl⟩ (fun _ => rfl) hc (runTd_wk rest _ _ st' _ _ h)
        · obtain ⟨e, h1, h2⟩ := T.run_bind h
          rw [force_eq] at h2
          exact .cons (isY := false) ⟨stepE_go hw h1, rfl⟩ (fun h => by cases h) hc (by rw [Bool.or_false]; exact runTd_wk rest _ _ st' _ _ h2)
    · split at h
      · simp [T.run] at h
      · rename_i hc
        exact .cons (isY := false) ⟨stepE_skip hw, rfl⟩ (fun h => by cases h) hc (by rw [Bool.or_false]; exact runTd_wk rest _ _ st' _ _ h)

end

end Go.Proofs.Ytkajafmphemedaa.Ev
