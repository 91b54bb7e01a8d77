/- Loops as limits, ranges over functions as folds, functions: their entries in the table. -/
import Derived.Test.YtkajafmphemedaaEvR
namespace Go.Proofs.Ytkajafmphemedaa.Ev
open Go.RowKit

/-! ### Limits -/

section
variable {σ ρ β : Type}

def iter (step : σ → Option (σ ⊕ ρ)) : Nat → σ → Option ρ
  | 0, _ => none
  | n + 1, s => match step s with
    | none => none
    | some (.inl s') => iter step n s'
    | some (.inr r) => some r

theorem iter_more {step : σ → Option (σ ⊕ ρ)} : ∀ {n : Nat} {s : σ} {r : ρ}, iter step n s = some r → iter step (n + 1) s = some r
  | 0, s, r, h => by simp [iter] at h
  | n + 1, s, r, h => by
    rw [iter] at h ⊢
    cases hs : step s with
    | none => rw [hs] at h; simp at h
    | some x =>
      rw [hs] at h
      cases x with
      | inl s' => simp only at h ⊢; exact iter_more h
      | inr r' => exact h

theorem iter_add {step : σ → Option (σ ⊕ ρ)} {n : Nat} {s : σ} {r : ρ} (h : iter step n s = some r) : ∀ k, iter step (n + k) s = some r
  | 0 => h
  | k + 1 => iter_more (iter_add h k)

theorem iter_det {step : σ → Option (σ ⊕ ρ)} {n m : Nat} {s : σ} {r r' : ρ} (h : iter step n s = some r) (k : iter step m s = some r') : r = r' := by
  have h1 := iter_add h m
  have h2 := iter_add k n
  rw [Nat.add_comm] at h2
  rw [h1] at h2
  injection h2

/-- What the rounds come to. -/
noncomputable def lim (step : σ → Option (σ ⊕ ρ)) (s : σ) : Option ρ :=
  @dite _ (∃ r, ∃ n, iter step n s = some r) (Classical.propDecidable _) (fun h => some h.choose) (fun _ => none)

theorem lim_iff {step : σ → Option (σ ⊕ ρ)} {s : σ} {r : ρ} : lim step s = some r ↔ ∃ n, iter step n s = some r := by
  unfold lim
  split
  · rename_i h
    constructor
    · intro e; injection e with e; subst e; exact h.choose_spec
    · rintro ⟨n, hn⟩
      obtain ⟨m, hm⟩ := h.choose_spec
      rw [iter_det hm hn]
  · rename_i h
    constructor
    · intro e; simp at e
    · rintro ⟨n, hn⟩; exact absurd ⟨r, n, hn⟩ h

theorem lim_step {step : σ → Option (σ ⊕ ρ)} {s s' : σ} (h : step s = some (.inl s')) : lim step s = lim step s' := by
  have key : ∀ r, lim step s = some r ↔ lim step s' = some r := fun r => by
    rw [lim_iff, lim_iff]
    constructor
    · rintro ⟨n, hn⟩
      cases n with
      | zero => simp [iter] at hn
      | succ n => exact ⟨n, by simpa [iter, h] using hn⟩
    · rintro ⟨n, hn⟩; exact ⟨n + 1, by simpa [iter, h] using hn⟩
  cases h1 : lim step s with
  | some r => exact ((key r).1 h1).symm
  | none =>
    cases h2 : lim step s' with
    | none => rfl
    | some r => rw [(key r).2 h2] at h1; cases h1

theorem lim_done {step : σ → Option (σ ⊕ ρ)} {s : σ} {r : ρ} (h : step s = some (.inr r)) : lim step s = some r := lim_iff.2 ⟨1, by simp [iter, h]⟩

/-- A fold that can stop. -/
def foldS (step : σ → β → Option (σ ⊕ ρ)) : List β → σ → Option (σ ⊕ ρ)
  | [], s => some (.inl s)
  | x :: l, s => match step s x with
    | none => none
    | some (.inl s') => foldS step l s'
    | some (.inr r) => some (.inr r)

theorem foldS_inl {step : σ → β → Option (σ ⊕ ρ)} : ∀ {L : List β} {s s' : σ}, foldS step L s = some (.inl s') → ∃ S : Nat → σ, S 0 = s ∧ S L.length = s' ∧ ∀ i x, L[i]? = some x → step (S i) x = some (.inl (S (i + 1)))
  | [], s, s', h => by simp [foldS] at h; exact ⟨fun _ => s, rfl, h, fun i x hi => by simp at hi⟩
  | y :: L, s, s', h => by
    simp only [foldS] at h
    split at h
    · simp at h
    · rename_i s1 h1
      obtain ⟨S, h2, h3, h4⟩ := foldS_inl h
      refine ⟨fun k => match k with | 0 => s | k + 1 => S k, rfl, h3, fun i x hi => ?_⟩
      cases i with
      | zero => simp at hi; subst hi; simpa [h2] using h1
      | succ i => exact h4 i x (by simpa using hi)
    · simp at h

theorem foldS_inr {step : σ → β → Option (σ ⊕ ρ)} : ∀ {L : List β} {s : σ} {r : ρ}, foldS step L s = some (.inr r) →
    ∃ (S : Nat → σ) (i : Nat) (x : β), S 0 = s ∧ L[i]? = some x ∧ (∀ k y, k < i → L[k]? = some y → step (S k) y = some (.inl (S (k + 1)))) ∧ step (S i) x = some (.inr r)
  | [], s, r, h => by simp [foldS] at h
  | y :: L, s, r, h => by
    simp only [foldS] at h
    split at h
    · simp at h
    · rename_i s1 h1
      obtain ⟨S, i, x, h2, h3, h4, h5⟩ := foldS_inr h
      refine ⟨fun k => match k with | 0 => s | k + 1 => S k, i + 1, x, rfl, by simpa using h3, fun k z hk hz => ?_, h5⟩
      cases k with
      | zero => simp at hz; subst hz; simpa [h2] using h1
      | succ k => exact h4 k z (by omega) (by simpa using hz)
    · rename_i r' h1
      injection h with h; injection h with h; subst h
      exact ⟨fun _ => s, 0, y, rfl, rfl, fun k z hk => by omega, h1⟩
end

/-! ### How code is left -/

def exitEq : Exit → Exit → Bool
  | .normal, .normal => true
  | .exit a, .exit b => Nat.beq a b
  | .ret, .ret => true
  | _, _ => false

theorem exitEq_eq : ∀ {a b : Exit}, exitEq a b = true → a = b
  | .normal, .normal, _ => rfl
  | .exit a, .exit b, h => by rw [Nat.eq_of_beq_eq_true h]
  | .ret, .ret, _ => rfl
  | .normal, .exit _, h => by simp [exitEq] at h
  | .normal, .goto _, h => by simp [exitEq] at h
  | .normal, .ret, h => by simp [exitEq] at h
  | .normal, .panic _, h => by simp [exitEq] at h
  | .normal, .outgrown, h => by simp [exitEq] at h
  | .exit _, .normal, h => by simp [exitEq] at h
  | .exit _, .goto _, h => by simp [exitEq] at h
  | .exit _, .ret, h => by simp [exitEq] at h
  | .exit _, .panic _, h => by simp [exitEq] at h
  | .exit _, .outgrown, h => by simp [exitEq] at h
  | .ret, .normal, h => by simp [exitEq] at h
  | .ret, .exit _, h => by simp [exitEq] at h
  | .ret, .goto _, h => by simp [exitEq] at h
  | .ret, .panic _, h => by simp [exitEq] at h
  | .ret, .outgrown, h => by simp [exitEq] at h
  | .goto _, _, h => by simp [exitEq] at h
  | .panic _, _, h => by simp [exitEq] at h
  | .outgrown, _, h => by simp [exitEq] at h

structure DecX (ρ : Type) where
  enc : ρ → T (Exit × St)
  dec : Exit → St → Option ρ
  ok : ∀ e st r, dec e st = some r → ∃ st', (enc r).run = some (e, st') ∧ Tidy st st' ∧ st'.env.length = st.env.length

theorem prune_len (live : List Nat) (st : St) : (prune live st).env.length = st.env.length := by
  have h : ∀ (i : Nat) (env : List AV), (keepEnv live i env).length = env.length := fun i env => by
    induction env generalizing i with
    | nil => rfl
    | cons x xs ih => simp [keepEnv, ih]
  unfold prune
  simp only
  split
  · split
    · simp [h]
    · rfl
  · rfl

theorem Tidy.trans {a b c : St} (h : Tidy a b) (k : Tidy b c) : Tidy a c :=
  ⟨k.1.trans h.1, fun X yl A0 r ds sv act w hfr => by
    obtain ⟨r1, h1⟩ := h.2 _ _ _ _ _ _ _ _ hfr
    exact k.2 _ _ _ _ _ _ _ _ h1⟩

section
variable {α β σ ρ : Type}

/-- One way out. -/
def DecX.one (e : Exit) (live : List Nat) (D : DecS α) : DecX α where
  enc a := .ret (e, D.enc a)
  dec e' st := match exitEq e' e with
    | true => D.dec (prune live st)
    | false => none
  ok e' st r h := by
    split at h
    · rename_i he
      rw [exitEq_eq he]
      exact ⟨_, rfl, (prune_tidy live st).trans (D.ok _ _ h), by rw [D.len _ _ h, prune_len]⟩
    · simp at h

/-- Two ways out. -/
def DecX.or (X : DecX α) (Y : DecX β) : DecX (α ⊕ β) where
  enc x := .sum x X.enc Y.enc
  dec e st := match X.dec e st with
    | some a => some (.inl a)
    | none => match Y.dec e st with
      | some b => some (.inr b)
      | none => none
  ok e st r h := by
    split at h
    · rename_i a ha; injection h with h; subst h; exact X.ok _ _ _ ha
    · split at h
      · rename_i b hb; injection h with h; subst h; exact Y.ok _ _ _ hb
      · simp at h

/-- No way out. -/
def DecX.no : DecX Empty where
  enc _ := .fail
  dec _ _ := none
  ok e st r h := by simp at h

/-! ### Loops -/

def nextT (live : List Nat) (D : DecS σ) (X : DecX ρ) (p : Exit × St) : T (σ ⊕ ρ) := match p.1 with
  | .normal => match D.dec (prune live p.2) with
    | some s => .ret (.inl s)
    | none => .fail
  | e => match X.dec e p.2 with
    | some r => .ret (.inr r)
    | none => .fail

theorem nextT_inl {live : List Nat} {D : DecS σ} {X : DecX ρ} {p : Exit × St} {s : σ} (h : (nextT live D X p).run = some (.inl s)) : p.1 = .normal ∧ Tidy p.2 (D.enc s) ∧ (D.enc s).env.length = p.2.env.length := by
  unfold nextT at h
  split at h
  · rename_i he
    split at h
    · rename_i s' hs
      simp [T.run] at h
      subst h
      exact ⟨he, (prune_tidy _ _).trans (D.ok _ _ hs), by rw [D.len _ _ hs, prune_len]⟩
    · simp [T.run] at h
  · split at h
    · simp [T.run] at h
    · simp [T.run] at h

theorem nextT_inr {live : List Nat} {D : DecS σ} {X : DecX ρ} {p : Exit × St} {r : ρ} (h : (nextT live D X p).run = some (.inr r)) : p.1 ≠ .normal ∧ ∃ st', (X.enc r).run = some (p.1, st') ∧ Tidy p.2 st' ∧ st'.env.length = p.2.env.length := by
  unfold nextT at h
  split at h
  · split at h
    · simp [T.run] at h
    · simp [T.run] at h
  · rename_i hne
    split at h
    · rename_i r' hr
      simp [T.run] at h
      subst h
      exact ⟨fun e => hne e, X.ok _ _ _ hr⟩
    · simp [T.run] at h

/-- One round of a loop. -/
def stepL (P : Program) (C : Cfg) (live : List Nat) (D : DecS σ) (X : DecX ρ) (c : Code) (s : σ) : T (σ ⊕ ρ) := (DT P C c (D.enc s)).bind (nextT live D X)

theorem loop_ld {P : Program} {C : Cfg} {Ns : List Code} {live : List Nat} {D : DecS σ} {X : DecX ρ} {c : Code} (hC : CfgOk P C Ns) (hm : P.follows .mixedOrders = true) (hok : codeOk c = true) (hn : ∀ x, x ∈ nodesOf c → x ∈ Ns) {r : ρ} {e : Exit} {st' : St} (hx : (X.enc r).run = some (e, st')) :
    ∀ {n : Nat} {s : σ}, iter (fun s => (stepL P C live D X c s).run) n s = some r → LdL P c (D.enc s) e st'
  | 0, s, h => by simp [iter] at h
  | n + 1, s, h => by
    rw [iter] at h
    split at h
    · simp at h
    · rename_i s' hs
      obtain ⟨p, h1, h2⟩ := T.run_bind hs
      obtain ⟨g1, g2, _⟩ := nextT_inl h2
      have hl := DT_ld hC hm c hok hn _ _ _ h1
      rw [g1] at hl
      exact LdL.more (hl.post g2) (loop_ld hC hm hok hn hx h)
    · rename_i r' hs
      injection h with h; subst h
      obtain ⟨p, h1, h2⟩ := T.run_bind hs
      obtain ⟨g1, st2, g2, g3, _⟩ := nextT_inr h2
      rw [hx] at g2
      injection g2 with g2
      have e1 : e = p.1 := congrArg Prod.fst g2
      have e2 : st' = st2 := congrArg Prod.snd g2
      subst e1; subst e2
      exact LdL.done ((DT_ld hC hm c hok hn _ _ _ h1).post g3) g1

/-- A loop's entry: M: what the rounds come to. -/
def nodeE (live : List Nat) (D : DecS σ) (X : DecX ρ) (M : σ → T ρ) : St → Option (T (Exit × St)) := fun st => match D.dec (prune live st) with
  | some s => some ((M s).bind X.enc)
  | none => none

/-- The only loop of a function with a number. -/
def nodeC (P : Program) (f : FuncId) (k : Nat) : Code := match nodesAt P f k with
  | [c] => c
  | _ => .skip

def bodyC : Code → Code
  | .loop c => c
  | _ => .skip

def isLoop : Code → Bool
  | .loop _ => true
  | _ => false

theorem nodeC_one {P : Program} {f : FuncId} {k : Nat} (h : (nodesAt P f k).length = 1) {c : Code} (hc : c ∈ nodesAt P f k) : c = nodeC P f k := by
  unfold nodeC
  match hn : nodesAt P f k, h with
  | [x], _ => rw [hn] at hc; simpa using hc

theorem nodesAt_fn {P : Program} {f : FuncId} {k : Nat} {c : Code} (h : c ∈ nodesAt P f k) : ∃ fn c0, P.funcs[f]? = some fn ∧ fn.body = some c0 ∧ c ∈ nodesOf c0 := by
  unfold nodesAt at h
  split at h
  · rename_i fn hf
    split at h
    · rename_i c0 hb; exact ⟨fn, c0, hf, hb, (List.mem_filter.1 h).1⟩
    · simp at h
  · simp at h

theorem nodes_sub : ∀ (c : Code) {x : Code}, x ∈ nodesOf c → ∀ y, y ∈ nodesOf x → y ∈ nodesOf c := by
  intro c
  induction c with
  | seq a b iha ihb =>
    intro x hx y hy
    simp only [nodesOf, List.mem_append] at hx ⊢
    exact hx.imp (fun h => iha h y hy) (fun h => ihb h y hy)
  | cond o a b iha ihb =>
    intro x hx y hy
    simp only [nodesOf, List.mem_append] at hx ⊢
    exact hx.imp (fun h => iha h y hy) (fun h => ihb h y hy)
  | block i c ih => intro x hx y hy; exact ih hx y hy
  | scope c ih => intro x hx y hy; exact ih hx y hy
  | loop c ih =>
    intro x hx y hy
    simp only [nodesOf, List.mem_cons] at hx
    rcases hx with rfl | hx
    · exact hy
    · simp only [nodesOf, List.mem_cons]; exact .inr (ih hx y hy)
  | rangeFunc f ps a b iha ihb =>
    intro x hx y hy
    simp only [nodesOf, List.mem_cons, List.mem_append] at hx
    rcases hx with rfl | hx | hx
    · exact hy
    · simp only [nodesOf, List.mem_cons, List.mem_append]; exact .inr (.inl (iha hx y hy))
    · simp only [nodesOf, List.mem_cons, List.mem_append]; exact .inr (.inr (ihb hx y hy))
  | _ => intro x hx; simp [nodesOf] at hx

theorem codeOk_sub : ∀ (c : Code) {x : Code}, codeOk c = true → x ∈ nodesOf c → codeOk x = true := by
  intro c
  induction c with
  | seq a b iha ihb =>
    intro x h hx
    simp only [codeOk, Bool.and_eq_true] at h
    simp only [nodesOf, List.mem_append] at hx
    exact hx.elim (iha h.1) (ihb h.2)
  | cond o a b iha ihb =>
    intro x h hx
    simp only [codeOk, Bool.and_eq_true] at h
    simp only [nodesOf, List.mem_append] at hx
    exact hx.elim (iha h.1) (ihb h.2)
  | block i c ih => intro x h hx; exact ih h hx
  | scope c ih => intro x h hx; exact ih h hx
  | loop c ih =>
    intro x h hx
    simp only [nodesOf, List.mem_cons] at hx
    rcases hx with rfl | hx
    · exact h
    · exact ih h hx
  | rangeFunc f ps a b iha ihb =>
    intro x h hx
    simp only [nodesOf, List.mem_cons, List.mem_append] at hx
    rcases hx with rfl | hx | hx
    · exact h
    · simp only [codeOk, Bool.and_eq_true] at h; exact iha h.1 hx
    · simp only [codeOk, Bool.and_eq_true] at h; exact ihb h.2 hx
  | _ => intro x h hx; simp [nodesOf] at hx

section
variable {P : Program} {B : Tab} {f : FuncId} {k d : Nat} {live : List Nat} {D : DecS σ} {X : DecX ρ}

/-- One round of the loop number k of a function. -/
def loopT1 (P : Program) (B : Tab) (d : Nat) (f : FuncId) (k : Nat) (live : List Nat) (D : DecS σ) (X : DecX ρ) (s : σ) : Option (σ ⊕ ρ) := (stepL P (mkCfg B (lvl P B d) f) live D X (bodyC (nodeC P f k)) s).run

theorem TabOk.addLoop (hP : okProg P = true) (h : TabOk P B) (h1 : (nodesAt P f k).length = 1) (h2 : isLoop (nodeC P f k) = true) {M : σ → T ρ}
    (hM : ∀ s r, (M s).run = some r → lim (loopT1 P B d f k live D X) s = some r) : TabOk P (B.addNode f k (nodeE live D X M)) := by
  refine h.addNode fun c hc st t e st' ht hr => ?_
  unfold nodeE at ht
  split at ht
  · rename_i s hs
    injection ht with ht; subst ht
    obtain ⟨r, hr1, hr2⟩ := T.run_bind hr
    have hcc := nodeC_one h1 hc
    obtain ⟨fn, c0, hf, hb, hin⟩ := nodesAt_fn hc
    obtain ⟨body, hbody⟩ : ∃ body, nodeC P f k = .loop body := by
      cases hq : nodeC P f k with
      | loop b => exact ⟨b, rfl⟩
      | _ => rw [hq] at h2; simp [isLoop] at h2
    rw [hcc, hbody] at hin ⊢
    have hcode := okProg_code hP hf hb
    have hl := hM s r hr1
    obtain ⟨n, hn⟩ := lim_iff.1 hl
    unfold loopT1 at hn
    rw [hbody] at hn
    have hsub : ∀ x, x ∈ nodesOf body → x ∈ nodesFn P f := fun x hx => by
      have : x ∈ nodesOf c0 := nodes_sub c0 hin x (by simp [nodesOf, hx])
      simpa [nodesFn, hf, hb] using this
    have := loop_ld (lvl_ok hP h d f) (okProg_mixed hP) (by have := codeOk_sub c0 hcode hin; simpa [codeOk] using this) hsub hr2 hn
    exact Ld.pre ((prune_tidy live st).trans (D.ok _ _ hs)) this.loop
  · simp at ht
end

/-! ### Functions -/

theorem PC.weaken {P : Program} {f : FuncId} {args args' : List AV} {x x' : AV} (h : PC P f args' x) (ha : ∀ w A r us, VRs w A r args us → VRs w A r args' us) (hx : ∀ w A r v, VR w A r x v → VR w A r x' v) : PC P f args x' := by
  intro ro n A w us hA hv
  refine (h ro n A w us hA (ha _ _ _ _ hv)).mono ?_
  rintro e w' ⟨v, rfl, h1, h2⟩
  exact ⟨v, rfl, hx _ _ _ _ h1, h2⟩

def decT (R : Dec ρ) (v : AV) : T ρ := match R.dec v with
  | some r => .ret r
  | none => .fail

/-- What a function's body comes to. -/
def callT1 (P : Program) (B : Tab) (d : Nat) (f : FuncId) (D : DecL α) (R : Dec ρ) (a : α) : Option ρ := ((callBody P (mkCfg B (lvl P B d) f) f (D.enc a)).bind (decT R)).run

def callE (D : DecL α) (R : Dec ρ) (M : α → T ρ) : List AV → Option (T AV) := fun args => match D.dec args with
  | some a => some ((M a).bind fun r => .ret (R.enc r))
  | none => none

section
variable {P : Program} {B : Tab} {f : FuncId} {d : Nat} {D : DecL α} {R : Dec ρ}

theorem call_of (hP : okProg P = true) (h : TabOk P B) {a : α} {r : ρ} (hr : callT1 P B d f D R a = some r) : PC P f (D.enc a) (R.enc r) := by
  obtain ⟨v, h1, h2⟩ := T.run_bind hr
  have hv : R.dec v = some r := by
    unfold decT at h2
    split at h2
    · rename_i r' hr'; simp [T.run] at h2; subst h2; exact hr'
    · simp [T.run] at h2
  exact (body_pc hP h d h1).weaken (fun _ _ _ _ h => h) (R.ok _ _ hv)

theorem TabOk.addPC (h : TabOk P B) {M : α → T ρ} (hM : ∀ a r, (M a).run = some r → PC P f (D.enc a) (R.enc r)) : TabOk P (B.addCall f (callE D R M)) := by
  refine h.addCall fun args t v ht hr => ?_
  unfold callE at ht
  split at ht
  · rename_i a ha
    injection ht with ht; subst ht
    obtain ⟨r, h1, h2⟩ := T.run_bind hr
    simp [T.run] at h2; subst h2
    exact (hM a r h1).weaken (D.ok _ _ ha) (fun _ _ _ _ h => h)
  · simp at ht

theorem TabOk.addFn (hP : okProg P = true) (h : TabOk P B) {M : α → T ρ} (hM : ∀ a r, (M a).run = some r → callT1 P B d f D R a = some r) : TabOk P (B.addCall f (callE D R M)) :=
  h.addPC fun a r hr => call_of hP h (hM a r hr)
end

end

end Go.Proofs.Ytkajafmphemedaa.Ev
