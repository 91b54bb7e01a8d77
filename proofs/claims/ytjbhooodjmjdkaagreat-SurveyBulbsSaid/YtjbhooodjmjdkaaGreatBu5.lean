/- Parts of the proof, one behind the other: EvS, EvU, EvW, EvV, K0, KD, KR, KS, KA. No conditions. -/
import Derived.ProofKit
import Derived.Carry
import Derived.Test.YtjbhooodjmjdkaaGreatProg
import Derived.KernelRfl
import Derived.Test.YtjbhooodjmjdkaaGreatBu4
/-! EvS -/
namespace Go.Proofs.YtjbhooodjmjdkaaGreat.Ev
open Go.RowKit

/-! ### Limits -/

section
variable {σ ρ β : Type}

def iter (step : σ → Option (σ ⊕ ρ)) : Nat → σ → Option ρ
  | 0, _ => none
  | n + 1, s => match step s with
    | none => none
    | some (.inl s') => iter step n s'
    | some (.inr r) => some r

theorem iter_more {step : σ → Option (σ ⊕ ρ)} : ∀ {n : Nat} {s : σ} {r : ρ}, iter step n s = some r → iter step (n + 1) s = some r
  | 0, s, r, h => by simp [iter] at h
  | n + 1, s, r, h => by
    rw [iter] at h ⊢
    cases hs : step s with
    | none => rw [hs] at h; simp at h
    | some x =>
      rw [hs] at h
      cases x with
      | inl s' => simp only at h ⊢; exact iter_more h
      | inr r' => exact h

theorem iter_add {step : σ → Option (σ ⊕ ρ)} {n : Nat} {s : σ} {r : ρ} (h : iter step n s = some r) : ∀ k, iter step (n + k) s = some r
  | 0 => h
  | k + 1 => iter_more (iter_add h k)

theorem iter_det {step : σ → Option (σ ⊕ ρ)} {n m : Nat} {s : σ} {r r' : ρ} (h : iter step n s = some r) (k : iter step m s = some r') : r = r' := by
  have h1 := iter_add h m
  have h2 := iter_add k n
  rw [Nat.add_comm] at h2
  rw [h1] at h2
  injection h2

/-- What the rounds come to. -/
noncomputable def lim (step : σ → Option (σ ⊕ ρ)) (s : σ) : Option ρ :=
  @dite _ (∃ r, ∃ n, iter step n s = some r) (Classical.propDecidable _) (fun h => some h.choose) (fun _ => none)

theorem lim_iff {step : σ → Option (σ ⊕ ρ)} {s : σ} {r : ρ} : lim step s = some r ↔ ∃ n, iter step n s = some r := by
  unfold lim
  split
  · rename_i h
    constructor
    · intro e; injection e with e; subst e; exact h.choose_spec
    · rintro ⟨n, hn⟩
      obtain ⟨m, hm⟩ := h.choose_spec
      rw [iter_det hm hn]
  · rename_i h
    constructor
    · intro e; simp at e
    · rintro ⟨n, hn⟩; exact absurd ⟨r, n, hn⟩ h

theorem lim_step {step : σ → Option (σ ⊕ ρ)} {s s' : σ} (h : step s = some (.inl s')) : lim step s = lim step s' := by
  have key : ∀ r, lim step s = some r ↔ lim step s' = some r := fun r => by
    rw [lim_iff, lim_iff]
    constructor
    · rintro ⟨n, hn⟩
      cases n with
      | zero => simp [iter] at hn
      | succ n => exact ⟨n, by simpa [iter, h] using hn⟩
    · rintro ⟨n, hn⟩; exact ⟨n + 1, by simpa [iter, h] using hn⟩
  cases h1 : lim step s with
  | some r => exact ((key r).1 h1).symm
  | none =>
    cases h2 : lim step s' with
    | none => rfl
    | some r => rw [(key r).2 h2] at h1; cases h1

theorem lim_done {step : σ → Option (σ ⊕ ρ)} {s : σ} {r : ρ} (h : step s = some (.inr r)) : lim step s = some r := lim_iff.2 ⟨1, by simp [iter, h]⟩

/-- A fold that can stop. -/
def foldS (step : σ → β → Option (σ ⊕ ρ)) : List β → σ → Option (σ ⊕ ρ)
  | [], s => some (.inl s)
  | x :: l, s => match step s x with
    | none => none
    | some (.inl s') => foldS step l s'
    | some (.inr r) => some (.inr r)

theorem foldS_inl {step : σ → β → Option (σ ⊕ ρ)} : ∀ {L : List β} {s s' : σ}, foldS step L s = some (.inl s') → ∃ S : Nat → σ, S 0 = s ∧ S L.length = s' ∧ ∀ i x, L[i]? = some x → step (S i) x = some (.inl (S (i + 1)))
  | [], s, s', h => by simp [foldS] at h; exact ⟨fun _ => s, rfl, h, fun i x hi => by simp at hi⟩
  | y :: L, s, s', h => by
    simp only [foldS] at h
    split at h
    · simp at h
    · rename_i s1 h1
      obtain ⟨S, h2, h3, h4⟩ := foldS_inl h
      refine ⟨fun k => match k with | 0 => s | k + 1 => S k, rfl, h3, fun i x hi => ?_⟩
      cases i with
      | zero => simp at hi; subst hi; simpa [h2] using h1
      | succ i => exact h4 i x (by simpa using hi)
    · simp at h

theorem foldS_inr {step : σ → β → Option (σ ⊕ ρ)} : ∀ {L : List β} {s : σ} {r : ρ}, foldS step L s = some (.inr r) →
    ∃ (S : Nat → σ) (i : Nat) (x : β), S 0 = s ∧ L[i]? = some x ∧ (∀ k y, k < i → L[k]? = some y → step (S k) y = some (.inl (S (k + 1)))) ∧ step (S i) x = some (.inr r)
  | [], s, r, h => by simp [foldS] at h
  | y :: L, s, r, h => by
    simp only [foldS] at h
    split at h
    · simp at h
    · rename_i s1 h1
      obtain ⟨S, i, x, h2, h3, h4, h5⟩ := foldS_inr h
      refine ⟨fun k => match k with | 0 => s | k + 1 => S k, i + 1, x, rfl, by simpa using h3, fun k z hk hz => ?_, h5⟩
      cases k with
      | zero => simp at hz; subst hz; simpa [h2] using h1
      | succ k => exact h4 k z (by omega) (by simpa using hz)
    · rename_i r' h1
      injection h with h; injection h with h; subst h
      exact ⟨fun _ => s, 0, y, rfl, rfl, fun k z hk => by omega, h1⟩
end

/-! ### How code is left -/

def exitEq : Exit → Exit → Bool
  | .normal, .normal => true
  | .exit a, .exit b => Nat.beq a b
  | .ret, .ret => true
  | _, _ => false

theorem exitEq_eq : ∀ {a b : Exit}, exitEq a b = true → a = b
  | .normal, .normal, _ => rfl
  | .exit a, .exit b, h => by rw [Nat.eq_of_beq_eq_true h]
  | .ret, .ret, _ => rfl
  | .normal, .exit _, h => by simp [exitEq] at h
  | .normal, .goto _, h => by simp [exitEq] at h
  | .normal, .ret, h => by simp [exitEq] at h
  | .normal, .panic _, h => by simp [exitEq] at h
  | .normal, .outgrown, h => by simp [exitEq] at h
  | .exit _, .normal, h => by simp [exitEq] at h
  | .exit _, .goto _, h => by simp [exitEq] at h
  | .exit _, .ret, h => by simp [exitEq] at h
  | .exit _, .panic _, h => by simp [exitEq] at h
  | .exit _, .outgrown, h => by simp [exitEq] at h
  | .ret, .normal, h => by simp [exitEq] at h
  | .ret, .exit _, h => by simp [exitEq] at h
  | .ret, .goto _, h => by simp [exitEq] at h
  | .ret, .panic _, h => by simp [exitEq] at h
  | .ret, .outgrown, h => by simp [exitEq] at h
  | .goto _, _, h => by simp [exitEq] at h
  | .panic _, _, h => by simp [exitEq] at h
  | .outgrown, _, h => by simp [exitEq] at h

structure DecX (ρ : Type) where
  enc : ρ → T (Exit × St)
  dec : Exit → St → Option ρ
  ok : ∀ e st r, dec e st = some r → ∃ st', (enc r).run = some (e, st') ∧ Tidy st st' ∧ st'.env.length = st.env.length

theorem prune_len (live : List Nat) (st : St) : (prune live st).env.length = st.env.length := by
  have h : ∀ (i : Nat) (env : List AV), (keepEnv live i env).length = env.length := fun i env => by
    induction env generalizing i with
    | nil => rfl
    | cons x xs ih => simp [keepEnv, ih]
  unfold prune
  simp only
  split
  · split
    · simp [h]
    · rfl
  · rfl

theorem Tidy.trans {a b c : St} (h : Tidy a b) (k : Tidy b c) : Tidy a c :=
  ⟨k.1.trans h.1, fun X yl A0 r ds sv act w hfr => by
    obtain ⟨r1, h1⟩ := h.2 _ _ _ _ _ _ _ _ hfr
    exact k.2 _ _ _ _ _ _ _ _ h1⟩

/-- A nil slice as a list that grows, of length 0. -/
def ghost1 (t : Nat) (e : TypeId) (wd : Nat) (tags : List CK) (st : St) : St :=
  match st.env[t]? with
  | some .nilsl => match Nat.blt 0 wd with
    | true => { st with env := st.env.set t (.osl st.loc.length 0 0), loc := st.loc ++ [.list e wd 0 0 ⟨tags, fun _ _ => .top⟩] }
    | false => st
  | _ => st

theorem ghost1_tidy (t : Nat) (e : TypeId) (wd : Nat) (tags : List CK) (st : St) : Tidy st (ghost1 t e wd tags st) := by
  unfold ghost1
  split
  · rename_i ht
    split
    · rename_i hwd
      have hwd : 0 < wd := by simpa [Nat.blt_eq] using hwd
      refine ⟨rfl, fun X yl A0 r ds sv a w h => ?_⟩
      obtain ⟨u, hu, hnil⟩ := h.env.get ht
      have hnx : locOf st st.loc.length = none := locOf_len st
      have hu' : u = .slice (slBase 0) 0 0 := by cases hnil; rfl
      obtain ⟨r', k⟩ := h.grow (nx := st.loc.length) (j := st.loc.length) (v := 0) (n := 0) (e := 0) (c := 0) (wd := wd) (t := e) (get := ⟨tags, fun _ _ => .top⟩) (ob := none) (xs := []) (w1 := w) (fun _ => hnx) (fun b hb => by cases hb) (.inl ⟨rfl, rfl⟩)
        (World.ownsRow_nil w 0 e wd) (fun i k hi => absurd hi (Nat.not_lt_zero _)) ⟨rfl, rfl, rfl, Nat.le_refl _, fun _ _ _ => rfl⟩ (fun b hb => by cases hb) (fun _ => ⟨rfl, rfl⟩) ⟨Nat.le_refl _, Nat.zero_le _⟩ hwd (Nat.le_refl _) (some t)
      have ea : a.put (some t) (.slice (slBase 0) 0 0) = a := by
        have : a.tmps.setIfInBounds t (.slice (slBase 0) 0 0) = a.tmps := by
          apply Array.ext_getElem?
          intro i
          rw [Array.getElem?_setIfInBounds]
          split
          · rename_i e1; subst e1
            rw [← hu', hu]
            have := (Array.getElem?_eq_some_iff.1 hu).1
            simp [this]
          · rfl
        show ({ a with tmps := a.tmps.setIfInBounds t (.slice (slBase 0) 0 0) } : Act) = a
        rw [this]
      rw [ea] at k
      have el : locOf { st with env := st.env.set t (.osl st.loc.length 0 0), loc := st.loc ++ [.list e wd 0 0 ⟨tags, fun _ _ => .top⟩] } = locE ⟨some t, .osl st.loc.length 0 0, some (st.loc.length, .list e wd 0 0 ⟨tags, fun _ _ => .top⟩)⟩ (locOf st) := by
        funext i
        simp only [locOf, locE]
        by_cases hi : i = st.loc.length
        · subst hi; simp
        · rw [if_neg hi]
          by_cases hlt : i < st.loc.length
          · rw [List.getElem?_append_left hlt]
          · rw [List.getElem?_eq_none (by simp; omega), List.getElem?_eq_none (by omega)]
      exact ⟨r', by rw [el]; exact k⟩
    · exact ⟨rfl, fun X yl A0 r ds sv a w h => ⟨r, h⟩⟩
  · exact ⟨rfl, fun X yl A0 r ds sv a w h => ⟨r, h⟩⟩

theorem ghost1_len (t : Nat) (e : TypeId) (wd : Nat) (tags : List CK) (st : St) : (ghost1 t e wd tags st).env.length = st.env.length := by
  unfold ghost1
  split
  · split
    · simp
    · rfl
  · rfl

/-- A frame in which a slot's slice is a list that grows, be it nil so far. -/
def DecS.ghost {σ : Type} (t : Nat) (e : TypeId) (wd : Nat) (tags : List CK) (D : DecS σ) : DecS σ where
  enc := D.enc
  dec st := forceS st fun st => forceS (ghost1 t e wd tags st) fun s1 => forceS (prune (List.range s1.env.length) s1) D.dec
  ok st s h := by
    rw [forceS_eq, forceS_eq, forceS_eq] at h
    exact (ghost1_tidy t e wd tags st).trans ((prune_tidy _ _).trans (D.ok _ _ h))
  len st s h := by
    rw [forceS_eq, forceS_eq, forceS_eq] at h
    rw [D.len _ _ h, prune_len, ghost1_len]

/-- What is said of an object's cells may be said otherwise. -/
theorem FR.swap {X : Fx} {yl : Option Nat} {A0 : Nat → Prop} {sav : List AV} {sv : Array Value} {env : List AV} {loc : Nat → Option Blk} {r : Rr} {ds : List Nat} {a : Act} {w : World} (h : FR X yl A0 sav sv env loc r ds a w) {j : Nat} {ty : TypeId} {cs cs' : List AV}
    (hl : loc j = some (.flat ty cs)) (hc : ∀ us, VRs w (AR A0 r ds) r cs us → VRs w (AR A0 r ds) r cs' us) : FR X yl A0 sav sv env (fun k => if k = j then some (.flat ty cs') else loc k) r ds a w := by
  refine ⟨h.env, h.sav, fun i k hi => ?_, fun i b hi => ?_, fun i v b hi => ?_, h.inj, h.injL, h.sep, h.dis, h.lt, h.sepD, h.a0, h.inv, h.clo, h.dfr, h.dnd, h.dok, h.ylv⟩
  · split at hi
    · rename_i e
      injection hi with hi; subst hi; subst e
      obtain ⟨b, hb, us, h1, h2⟩ := h.mem _ _ hl
      exact ⟨b, hb, us, h1, hc _ h2⟩
    · exact h.mem i k hi
  · obtain ⟨t, cs0, e⟩ := h.dom i b hi
    by_cases e2 : i = j
    · simp only [e2, if_true]; exact ⟨_, _, rfl⟩
    · simp only [e2, if_false]; exact ⟨_, _, e⟩
  · obtain ⟨t, wd, v', n, g, e, hle⟩ := h.domL i v b hi
    have e2 : i ≠ j := fun e2 => by subst e2; rw [hl] at e; cases e
    simp only [e2, if_false]; exact ⟨_, _, _, _, _, e, hle⟩

/-- A nil slice in an object that a slot points at becomes an empty list. -/
def ghost2 (t : Nat) (e : TypeId) (wd : Nat) (tags : List CK) (st : St) : St :=
  match st.env[t]? with
  | some (.lptr j _ 0 0) => match st.loc[j]? with
    | some (.flat ty [.nilsl]) => match Nat.blt 0 wd with
      | true => { st with loc := st.loc.set j (.flat ty [.osl st.loc.length 0 0]) ++ [.list e wd 0 0 ⟨tags, fun _ _ => .top⟩] }
      | false => st
    | _ => st
  | _ => st

theorem ghost2_len (t : Nat) (e : TypeId) (wd : Nat) (tags : List CK) (st : St) : (ghost2 t e wd tags st).env.length = st.env.length := by
  unfold ghost2
  repeat' split
  all_goals rfl

theorem ghost2_tidy (t : Nat) (e : TypeId) (wd : Nat) (tags : List CK) (st : St) : Tidy st (ghost2 t e wd tags st) := by
  unfold ghost2
  split
  case h_2 => exact ⟨rfl, fun X yl A0 r ds sv a w h => ⟨r, h⟩⟩
  rename_i j _ ht
  split
  case h_2 => exact ⟨rfl, fun X yl A0 r ds sv a w h => ⟨r, h⟩⟩
  rename_i ty hj
  split
  case h_2 => exact ⟨rfl, fun X yl A0 r ds sv a w h => ⟨r, h⟩⟩
  rename_i hwd
  have hwd : 0 < wd := by simpa [Nat.blt_eq] using hwd
  refine ⟨rfl, fun X yl A0 r ds sv a w h => ?_⟩
  have hnx : locOf st st.loc.length = none := locOf_len st
  have hlt : j < st.loc.length := (List.getElem?_eq_some_iff.1 hj).1
  obtain ⟨r', hv, k⟩ := h.grow2 (nx := st.loc.length) (j := st.loc.length) (v := 0) (n := 0) (e := 0) (c := 0) (wd := wd) (t := e) (get := ⟨tags, fun _ _ => .top⟩) (ob := none) (xs := []) (w1 := w) (fun _ => hnx) (fun b hb => by cases hb) (.inl ⟨rfl, rfl⟩)
    (World.ownsRow_nil w 0 e wd) (fun i k hi => absurd hi (Nat.not_lt_zero _)) ⟨rfl, rfl, rfl, Nat.le_refl _, fun _ _ _ => rfl⟩ (fun b hb => by cases hb) (fun _ => ⟨rfl, rfl⟩) ⟨Nat.le_refl _, Nat.zero_le _⟩ hwd (Nat.le_refl _) none
  have hlj : (locE ⟨none, .osl st.loc.length 0 0, some (st.loc.length, .list e wd 0 0 ⟨tags, fun _ _ => .top⟩)⟩ (locOf st)) j = some (.flat ty [.nilsl]) := by
    simp only [locE]
    rw [if_neg (by omega)]; exact hj
  have k2 := k.swap hlj (cs' := [.osl st.loc.length 0 0]) (fun us hus => by
    refine ⟨hus.1, fun i x u hx hu => ?_⟩
    cases i with
    | succ i => simp at hx
    | zero =>
      simp at hx; subst hx
      have hn := hus.2 0 _ u rfl hu
      have hu' : u = .slice (slBase 0) 0 0 := by cases hn; rfl
      rw [hu']; exact hv)
  have el : locOf { st with loc := st.loc.set j (.flat ty [.osl st.loc.length 0 0]) ++ [.list e wd 0 0 ⟨tags, fun _ _ => .top⟩] } = fun k => if k = j then some (.flat ty [.osl st.loc.length 0 0]) else (locE ⟨none, .osl st.loc.length 0 0, some (st.loc.length, .list e wd 0 0 ⟨tags, fun _ _ => .top⟩)⟩ (locOf st)) k := by
    funext i
    simp only [locOf, locE]
    by_cases hi : i = j
    · subst hi
      rw [if_pos rfl, List.getElem?_append_left (by simpa using hlt), List.getElem?_set, if_pos rfl, if_pos hlt]
    · rw [if_neg hi]
      by_cases hn : i = st.loc.length
      · subst hn
        rw [List.getElem?_append_right (by simp)]; simp
      · rw [if_neg hn]
        by_cases hl2 : i < st.loc.length
        · rw [List.getElem?_append_left (by simpa using hl2), List.getElem?_set, if_neg (Ne.symm hi)]
        · rw [List.getElem?_eq_none (by simp; omega), List.getElem?_eq_none (by omega)]
  exact ⟨r', by rw [el]; exact k2⟩

/-- A frame in which an object's slice is a list that grows, be it nil so far. -/
def DecS.ghostC {σ : Type} (t : Nat) (e : TypeId) (wd : Nat) (tags : List CK) (D : DecS σ) : DecS σ where
  enc := D.enc
  dec st := forceS st fun st => forceS (ghost2 t e wd tags st) fun s1 => forceS (prune (List.range s1.env.length) s1) D.dec
  ok st s h := by
    rw [forceS_eq, forceS_eq, forceS_eq] at h
    exact (ghost2_tidy t e wd tags st).trans ((prune_tidy _ _).trans (D.ok _ _ h))
  len st s h := by
    rw [forceS_eq, forceS_eq, forceS_eq] at h
    rw [D.len _ _ h, prune_len, ghost2_len]

section
variable {α β σ ρ : Type}

/-- One way out. -/
def DecX.one (e : Exit) (live : List Nat) (D : DecS α) : DecX α where
  enc a := .ret (e, D.enc a)
  dec e' st := match exitEq e' e with
    | true => D.dec (prune live st)
    | false => none
  ok e' st r h := by
    split at h
    · rename_i he
      rw [exitEq_eq he]
      exact ⟨_, rfl, (prune_tidy live st).trans (D.ok _ _ h), by rw [D.len _ _ h, prune_len]⟩
    · simp at h

/-- Two ways out. -/
def DecX.or (X : DecX α) (Y : DecX β) : DecX (α ⊕ β) where
  enc x := .sum x X.enc Y.enc
  dec e st := match X.dec e st with
    | some a => some (.inl a)
    | none => match Y.dec e st with
      | some b => some (.inr b)
      | none => none
  ok e st r h := by
    split at h
    · rename_i a ha; injection h with h; subst h; exact X.ok _ _ _ ha
    · split at h
      · rename_i b hb; injection h with h; subst h; exact Y.ok _ _ _ hb
      · simp at h

/-- No way out. -/
def DecX.no : DecX Empty where
  enc _ := .fail
  dec _ _ := none
  ok e st r h := by simp at h

/-! ### Loops -/

def nextT (live : List Nat) (D : DecS σ) (X : DecX ρ) (p : Exit × St) : T (σ ⊕ ρ) := match p.1 with
  | .normal => match D.dec (prune live p.2) with
    | some s => .ret (.inl s)
    | none => .fail
  | e => match X.dec e p.2 with
    | some r => .ret (.inr r)
    | none => .fail

theorem nextT_inl {live : List Nat} {D : DecS σ} {X : DecX ρ} {p : Exit × St} {s : σ} (h : (nextT live D X p).run = some (.inl s)) : p.1 = .normal ∧ Tidy p.2 (D.enc s) ∧ (D.enc s).env.length = p.2.env.length := by
  unfold nextT at h
  split at h
  · rename_i he
    split at h
    · rename_i s' hs
      simp [T.run] at h
      subst h
      exact ⟨he, (prune_tidy _ _).trans (D.ok _ _ hs), by rw [D.len _ _ hs, prune_len]⟩
    · simp [T.run] at h
  · split at h
    · simp [T.run] at h
    · simp [T.run] at h

theorem nextT_inr {live : List Nat} {D : DecS σ} {X : DecX ρ} {p : Exit × St} {r : ρ} (h : (nextT live D X p).run = some (.inr r)) : p.1 ≠ .normal ∧ ∃ st', (X.enc r).run = some (p.1, st') ∧ Tidy p.2 st' ∧ st'.env.length = p.2.env.length := by
  unfold nextT at h
  split at h
  · split at h
    · simp [T.run] at h
    · simp [T.run] at h
  · rename_i hne
    split at h
    · rename_i r' hr
      simp [T.run] at h
      subst h
      exact ⟨fun e => hne e, X.ok _ _ _ hr⟩
    · simp [T.run] at h

/-- One round of a loop. -/
def stepL (P : Program) (C : Cfg) (live : List Nat) (D : DecS σ) (X : DecX ρ) (c : Code) (s : σ) : T (σ ⊕ ρ) := (DT P C c (D.enc s)).bind (nextT live D X)

theorem loop_ld {P : Program} {C : Cfg} {Ns : List Code} {live : List Nat} {D : DecS σ} {X : DecX ρ} {c : Code} (hC : CfgOk P C Ns) (hm : P.follows .mixedOrders = true) (hok : codeOk c = true) (hn : ∀ x, x ∈ nodesOf c → x ∈ Ns) {r : ρ} {e : Exit} {st' : St} (hx : (X.enc r).run = some (e, st')) :
    ∀ {n : Nat} {s : σ}, iter (fun s => (stepL P C live D X c s).run) n s = some r → LdL P c (D.enc s) e st'
  | 0, s, h => by simp [iter] at h
  | n + 1, s, h => by
    rw [iter] at h
    split at h
    · simp at h
    · rename_i s' hs
      obtain ⟨p, h1, h2⟩ := T.run_bind hs
      obtain ⟨g1, g2, _⟩ := nextT_inl h2
      have hl := DT_ld hC hm c hok hn _ _ _ h1
      rw [g1] at hl
      exact LdL.more (hl.post g2) (loop_ld hC hm hok hn hx h)
    · rename_i r' hs
      injection h with h; subst h
      obtain ⟨p, h1, h2⟩ := T.run_bind hs
      obtain ⟨g1, st2, g2, g3, _⟩ := nextT_inr h2
      rw [hx] at g2
      injection g2 with g2
      have e1 : e = p.1 := congrArg Prod.fst g2
      have e2 : st' = st2 := congrArg Prod.snd g2
      subst e1; subst e2
      exact LdL.done ((DT_ld hC hm c hok hn _ _ _ h1).post g3) g1

/-- A loop's entry: M: what the rounds come to. -/
def nodeE (live : List Nat) (D : DecS σ) (X : DecX ρ) (M : σ → T ρ) : St → Option (T (Exit × St)) := fun st => match D.dec (prune live st) with
  | some s => some ((M s).bind X.enc)
  | none => none

/-- The only loop of a function with a number. -/
def nodeC (P : Program) (f : FuncId) (k : Nat) : Code := match nodesAt P f k with
  | [c] => c
  | _ => .skip

def bodyC : Code → Code
  | .loop c => c
  | _ => .skip

def isLoop : Code → Bool
  | .loop _ => true
  | _ => false

theorem nodeC_one {P : Program} {f : FuncId} {k : Nat} (h : (nodesAt P f k).length = 1) {c : Code} (hc : c ∈ nodesAt P f k) : c = nodeC P f k := by
  unfold nodeC
  match hn : nodesAt P f k, h with
  | [x], _ => rw [hn] at hc; simpa using hc

theorem nodesAt_fn {P : Program} {f : FuncId} {k : Nat} {c : Code} (h : c ∈ nodesAt P f k) : ∃ fn c0, P.funcs[f]? = some fn ∧ fn.body = some c0 ∧ c ∈ nodesOf c0 := by
  unfold nodesAt at h
  split at h
  · rename_i fn hf
    split at h
    · rename_i c0 hb; exact ⟨fn, c0, hf, hb, (List.mem_filter.1 h).1⟩
    · simp at h
  · simp at h

theorem nodes_sub : ∀ (c : Code) {x : Code}, x ∈ nodesOf c → ∀ y, y ∈ nodesOf x → y ∈ nodesOf c := by
  intro c
  induction c with
  | seq a b iha ihb =>
    intro x hx y hy
    simp only [nodesOf, List.mem_append] at hx ⊢
    rcases hx with h | h | h
    · rw [cutOf_mem h] at hy; exact .inr (.inr hy)
    · exact .inr (.inl (iha h y hy))
    · exact .inr (.inr (ihb h y hy))
  | cond o a b iha ihb =>
    intro x hx y hy
    simp only [nodesOf, List.mem_append] at hx ⊢
    exact hx.imp (fun h => iha h y hy) (fun h => ihb h y hy)
  | block i c ih => intro x hx y hy; exact ih hx y hy
  | scope c ih => intro x hx y hy; exact ih hx y hy
  | loop c ih =>
    intro x hx y hy
    simp only [nodesOf, List.mem_cons] at hx
    rcases hx with rfl | hx
    · exact hy
    · simp only [nodesOf, List.mem_cons]; exact .inr (ih hx y hy)
  | rangeFunc f ps a b iha ihb =>
    intro x hx y hy
    simp only [nodesOf, List.mem_cons, List.mem_append] at hx
    rcases hx with rfl | hx | hx
    · exact hy
    · simp only [nodesOf, List.mem_cons, List.mem_append]; exact .inr (.inl (iha hx y hy))
    · simp only [nodesOf, List.mem_cons, List.mem_append]; exact .inr (.inr (ihb hx y hy))
  | _ => intro x hx; simp [nodesOf] at hx

theorem codeOk_sub : ∀ (c : Code) {x : Code}, codeOk c = true → x ∈ nodesOf c → codeOk x = true := by
  intro c
  induction c with
  | seq a b iha ihb =>
    intro x h hx
    simp only [codeOk, Bool.and_eq_true] at h
    simp only [nodesOf, List.mem_append] at hx
    rcases hx with hx | hx | hx
    · rw [cutOf_mem hx]; exact h.2
    · exact iha h.1 hx
    · exact ihb h.2 hx
  | cond o a b iha ihb =>
    intro x h hx
    simp only [codeOk, Bool.and_eq_true] at h
    simp only [nodesOf, List.mem_append] at hx
    exact hx.elim (iha h.1) (ihb h.2)
  | block i c ih => intro x h hx; exact ih h hx
  | scope c ih => intro x h hx; exact ih h hx
  | loop c ih =>
    intro x h hx
    simp only [nodesOf, List.mem_cons] at hx
    rcases hx with rfl | hx
    · exact h
    · exact ih h hx
  | rangeFunc f ps a b iha ihb =>
    intro x h hx
    simp only [nodesOf, List.mem_cons, List.mem_append] at hx
    rcases hx with rfl | hx | hx
    · exact h
    · simp only [codeOk, Bool.and_eq_true] at h; exact iha h.1 hx
    · simp only [codeOk, Bool.and_eq_true] at h; exact ihb h.2 hx
  | _ => intro x h hx; simp [nodesOf] at hx

section
variable {P : Program} {B : Tab} {f : FuncId} {k d : Nat} {live : List Nat} {D : DecS σ} {X : DecX ρ}

/-- One round of the loop number k of a function. -/
def loopT1 (P : Program) (B : Tab) (d : Nat) (f : FuncId) (k : Nat) (live : List Nat) (D : DecS σ) (X : DecX ρ) (s : σ) : Option (σ ⊕ ρ) := (stepL P (mkCfg B (lvl P B d) f) live D X (bodyC (nodeC P f k)) s).run

theorem TabOk.addLoop (hP : okProg P = true) (h : TabOk P B) (h1 : (nodesAt P f k).length = 1) (h2 : isLoop (nodeC P f k) = true) {M : σ → T ρ}
    (hM : ∀ s r, (M s).run = some r → lim (loopT1 P B d f k live D X) s = some r) : TabOk P (B.addNode f k (nodeE live D X M)) := by
  refine h.addNode fun c hc st t e st' ht hr => ?_
  unfold nodeE at ht
  split at ht
  · rename_i s hs
    injection ht with ht; subst ht
    obtain ⟨r, hr1, hr2⟩ := T.run_bind hr
    have hcc := nodeC_one h1 hc
    obtain ⟨fn, c0, hf, hb, hin⟩ := nodesAt_fn hc
    obtain ⟨body, hbody⟩ : ∃ body, nodeC P f k = .loop body := by
      cases hq : nodeC P f k with
      | loop b => exact ⟨b, rfl⟩
      | _ => rw [hq] at h2; simp [isLoop] at h2
    rw [hcc, hbody] at hin ⊢
    have hcode := okProg_code hP hf hb
    have hl := hM s r hr1
    obtain ⟨n, hn⟩ := lim_iff.1 hl
    unfold loopT1 at hn
    rw [hbody] at hn
    have hsub : ∀ x, x ∈ nodesOf body → x ∈ nodesFn P f := fun x hx => by
      have : x ∈ nodesOf c0 := nodes_sub c0 hin x (by simp [nodesOf, hx])
      simpa [nodesFn, hf, hb] using this
    have := loop_ld (lvl_ok hP h d f) (okProg_mixed hP) (by have := codeOk_sub c0 hcode hin; simpa [codeOk] using this) hsub hr2 hn
    exact Ld.pre ((prune_tidy live st).trans (D.ok _ _ hs)) this.loop
  · simp at ht
end

/-! ### Pieces of code -/

/-- The end of a piece. -/
def endT (X : DecX ρ) (p : Exit × St) : T ρ := match X.dec p.1 p.2 with
  | some r => .ret r
  | none => .fail

section
variable {P : Program} {B : Tab} {f : FuncId} {k d : Nat} {live : List Nat} {D : DecS σ} {X : DecX ρ}

/-- What the piece number k of a function comes to. -/
def cutT1 (P : Program) (B : Tab) (d : Nat) (f : FuncId) (k : Nat) (D : DecS σ) (X : DecX ρ) (s : σ) : Option ρ := ((DT P (mkCfg B (lvl P B d) f) (nodeC P f k) (D.enc s)).bind (endT X)).run

def Tab.addCut (B : Tab) (f : FuncId) (k : Nat) : Tab := { B with cut := fun f' k' => match Nat.beq f' f && Nat.beq k' k with
  | true => true
  | false => B.cut f' k' }

theorem TabOk.addCut (hP : okProg P = true) (h : TabOk P B) (h1 : (nodesAt P f k).length = 1) {M : σ → T ρ}
    (hM : ∀ s r, (M s).run = some r → cutT1 P B d f k D X s = some r) : TabOk P ((B.addNode f k (nodeE live D X M)).addCut f k) := by
  have h' : TabOk P (B.addNode f k (nodeE live D X M)) := by
    refine h.addNode fun c hc st t e st' ht hr => ?_
    unfold nodeE at ht
    split at ht
    · rename_i s hs
      injection ht with ht; subst ht
      obtain ⟨r, hr1, hr2⟩ := T.run_bind hr
      have hcc := nodeC_one h1 hc
      obtain ⟨fn, c0, hf, hb, hin⟩ := nodesAt_fn hc
      have hcode := okProg_code hP hf hb
      obtain ⟨p, g1, g2⟩ := T.run_bind (hM s r hr1)
      have hx : X.dec p.1 p.2 = some r := by
        unfold endT at g2
        split at g2
        · rename_i r' hr'; simp [T.run] at g2; subst g2; exact hr'
        · simp [T.run] at g2
      obtain ⟨st2, e1, e2, _⟩ := X.ok _ _ _ hx
      rw [hr2] at e1
      injection e1 with e1
      have q1 : e = p.1 := congrArg Prod.fst e1
      have q2 : st' = st2 := congrArg Prod.snd e1
      subst q1; subst q2
      rw [← hcc] at g1
      have hl := DT_ld (lvl_ok hP h d f) (okProg_mixed hP) c (codeOk_sub c0 hcode hin) (fun x hx => by simpa [nodesFn, hf, hb] using nodes_sub c0 hin x hx) _ _ _ g1
      exact Ld.pre ((prune_tidy live st).trans (D.ok _ _ hs)) (hl.post e2)
    · simp at ht
  exact ⟨h'.call, h'.iter, h'.node⟩
end

/-! ### Functions -/

theorem PC.weaken {P : Program} {f : FuncId} {args args' : List AV} {x x' : AV} (h : PC P f args' x) (ha : ∀ w A r us, VRs w A r args us → VRs w A r args' us) (hx : ∀ w A r v, VR w A r x v → VR w A r x' v) : PC P f args x' := by
  intro ro n A w us hA hv
  refine (h ro n A w us hA (ha _ _ _ _ hv)).mono ?_
  rintro e w' ⟨v, rfl, h1, h2⟩
  exact ⟨v, rfl, hx _ _ _ _ h1, h2⟩

def decT (R : Dec ρ) (v : AV) : T ρ := match R.dec v with
  | some r => .ret r
  | none => .fail

/-- What a function's body comes to. -/
def callT1 (P : Program) (B : Tab) (d : Nat) (f : FuncId) (D : DecL α) (R : Dec ρ) (a : α) : Option ρ := ((callBody P (mkCfg B (lvl P B d) f) f (D.enc a)).bind (decT R)).run

def callE (D : DecL α) (R : Dec ρ) (M : α → T ρ) : List AV → Option (T AV) := fun args => match D.dec args with
  | some a => some ((M a).bind fun r => .ret (R.enc r))
  | none => none

section
variable {P : Program} {B : Tab} {f : FuncId} {d : Nat} {D : DecL α} {R : Dec ρ}

theorem call_of (hP : okProg P = true) (h : TabOk P B) {a : α} {r : ρ} (hr : callT1 P B d f D R a = some r) : PC P f (D.enc a) (R.enc r) := by
  obtain ⟨v, h1, h2⟩ := T.run_bind hr
  have hv : R.dec v = some r := by
    unfold decT at h2
    split at h2
    · rename_i r' hr'; simp [T.run] at h2; subst h2; exact hr'
    · simp [T.run] at h2
  exact (body_pc hP h d h1).weaken (fun _ _ _ _ h => h) (R.ok _ _ hv)

theorem TabOk.addPC (h : TabOk P B) {M : α → T ρ} (hM : ∀ a r, (M a).run = some r → PC P f (D.enc a) (R.enc r)) : TabOk P (B.addCall f (callE D R M)) := by
  refine h.addCall fun args t v ht hr => ?_
  unfold callE at ht
  split at ht
  · rename_i a ha
    injection ht with ht; subst ht
    obtain ⟨r, h1, h2⟩ := T.run_bind hr
    simp [T.run] at h2; subst h2
    exact (hM a r h1).weaken (D.ok _ _ ha) (fun _ _ _ _ h => h)
  · simp at ht

theorem TabOk.addFn (hP : okProg P = true) (h : TabOk P B) {M : α → T ρ} (hM : ∀ a r, (M a).run = some r → callT1 P B d f D R a = some r) : TabOk P (B.addCall f (callE D R M)) :=
  h.addPC fun a r hr => call_of hP h (hM a r hr)
end

end

end Go.Proofs.YtjbhooodjmjdkaaGreat.Ev
/-! EvU -/
namespace Go.Proofs.YtjbhooodjmjdkaaGreat.Ev
open Go.RowKit

theorem Round.post {P : Program} {ps : Array Tmp} {assign body : Code} {S S' S2 : St} {x : List AV} {e : Exit} (h : Round P ps assign body S S' x e) (t : Tidy S' S2) (hl : S2.env.length = S'.env.length) : Round P ps assign body S S2 x e := by
  obtain ⟨U, V, h1, h2, h3, h4, h5, h6⟩ := h.walk
  let V' : St := { V with env := List.replicate V.env.length .top, sav := S2.env ++ S2.sav, loc := S2.loc, out := S2.out }
  refine ⟨h.size, ⟨U, V', h1, h2.post ⟨?_, fun X yl A0 r ds sv a w hfr => ?_⟩, rfl, hl.trans h4, rfl, rfl⟩, h.ends⟩
  · show S2.out = V.out
    rw [t.1, h6]
  · rw [h3] at hfr
    have hs := hfr.sav
    have hsz : S'.env.length ≤ sv.size := by have := hs.1; simp at this; omega
    have hsv : sv = sv.extract 0 S'.env.length ++ sv.extract S'.env.length sv.size := by
      rw [Array.extract_append_extract, Nat.min_eq_left (Nat.zero_le _), Nat.max_eq_right hsz]; simp
    rw [hsv] at hs
    obtain ⟨g1, g2⟩ := VRs.split hs (by simp; omega)
    have hloc : locOf V = locOf S' := by unfold locOf; rw [h5]
    have hfr' : FR X yl A0 S'.sav (sv.extract S'.env.length sv.size) S'.env (locOf S') r ds { a with tmps := sv.extract 0 S'.env.length } w := by
      rw [← hloc]
      exact ⟨g1, g2, hfr.mem, hfr.dom, hfr.domL, hfr.inj, hfr.injL, hfr.sep, hfr.dis, hfr.lt, hfr.sepD, hfr.a0, hfr.inv, hfr.clo, hfr.dfr, hfr.dnd, hfr.dok, hfr.ylv⟩
    obtain ⟨r', k⟩ := t.2 _ _ _ _ _ _ _ _ hfr'
    refine ⟨r', ?_, ?_, k.mem, k.dom, k.domL, k.inj, k.injL, k.sep, k.dis, k.lt, k.sepD, k.a0, k.inv, k.clo, hfr.dfr, k.dnd, k.dok, k.ylv⟩
    · refine ⟨by simp [V', hfr.env.1], fun i y u hy _ => ?_⟩
      simp only [V', List.getElem?_replicate] at hy
      split at hy
      · injection hy with hy; subst hy; exact .top
      · simp at hy
    · rw [hsv]; exact k.env.append k.sav

/-- What a function that is ranged over yields, if nobody stops it; it stops when it is told to. -/
def ICL (P : Program) (g : FuncId) (us vs : List AV) (L : List (List AV)) : Prop :=
  IC P g us vs (L.map fun x => (x, true)) ∧ ∀ i x, L[i]? = some x → IC P g us vs ((L.take i).map (fun x => (x, true)) ++ [(x, false)])

section
variable {σ ρ β : Type}

/-- One round of a range over a function. -/
def stepR (P : Program) (C : Cfg) (live : List Nat) (D : DecS σ) (X : DecX ρ) (enc : β → List AV) (ps : Array Tmp) (assign body : Code) (s : σ) (x : β) : T (σ ⊕ ρ) :=
  (roundT (DT P C assign) (DT P C body) ps (enc x) (D.enc s)).bind (nextT live D X)

def psC : Code → Array Tmp
  | .rangeFunc _ ps _ _ => ps
  | _ => #[]
def assignC : Code → Code
  | .rangeFunc _ _ a _ => a
  | _ => .skip
def rbodyC : Code → Code
  | .rangeFunc _ _ _ b => b
  | _ => .skip
def funC : Code → Operand
  | .rangeFunc f _ _ _ => f
  | _ => .global 0
def isRange : Code → Bool
  | .rangeFunc .. => true
  | _ => false

/-- One round of the range number k of a function. -/
def rangeT1 (P : Program) (B : Tab) (d : Nat) (f : FuncId) (k : Nat) (live : List Nat) (D : DecS σ) (X : DecX ρ) (enc : β → List AV) (s : σ) (x : β) : Option (σ ⊕ ρ) :=
  (stepR P (mkCfg B (lvl P B d) f) live D X enc (psC (nodeC P f k)) (assignC (nodeC P f k)) (rbodyC (nodeC P f k)) s x).run

/-- Which function is ranged over. -/
def overC (P : Program) (f : FuncId) (k : Nat) (st : St) : Option (FuncId × List AV × List AV) := match evO st.env (funC (nodeC P f k)) with
  | some (.fn (.func g) us vs) => match okFn P g && (us.all noL && vs.all noL) with
    | true => some (g, us, vs)
    | false => none
  | _ => none

def rangeX (D : DecS σ) (X : DecX ρ) (x : σ ⊕ ρ) : T (Exit × St) := .sum x (fun s => .ret (.normal, D.enc s)) X.enc

def rangeE (live : List Nat) (D : DecS σ) (X : DecX ρ) (M : σ → T (σ ⊕ ρ)) : St → Option (T (Exit × St)) := fun st => match D.dec (prune live st) with
  | some s => some ((M s).bind (rangeX D X))
  | none => none

section
variable {P : Program} {B : Tab} {f : FuncId} {k d : Nat} {live : List Nat} {D : DecS σ} {X : DecX ρ}

theorem step_inl {C : Cfg} {Ns : List Code} (hC : CfgOk P C Ns) (hm : P.follows .mixedOrders = true) {ps : Array Tmp} {assign body : Code} (ha : codeOk assign = true) (hb : codeOk body = true) (hna : ∀ x, x ∈ nodesOf assign → x ∈ Ns) (hnb : ∀ x, x ∈ nodesOf body → x ∈ Ns)
    {enc : β → List AV} {s s' : σ} {x : β} (h : (stepR P C live D X enc ps assign body s x).run = some (.inl s')) : Round P ps assign body (D.enc s) (D.enc s') (enc x) .normal := by
  obtain ⟨p, h1, h2⟩ := T.run_bind h
  obtain ⟨g1, g2, g3⟩ := nextT_inl h2
  have := roundT_round (DT_ld hC hm assign ha hna) (DT_ld hC hm body hb hnb) h1
  rw [g1] at this
  exact this.post g2 g3

theorem step_inr {C : Cfg} {Ns : List Code} (hC : CfgOk P C Ns) (hm : P.follows .mixedOrders = true) {ps : Array Tmp} {assign body : Code} (ha : codeOk assign = true) (hb : codeOk body = true) (hna : ∀ x, x ∈ nodesOf assign → x ∈ Ns) (hnb : ∀ x, x ∈ nodesOf body → x ∈ Ns)
    {enc : β → List AV} {s : σ} {r : ρ} {x : β} (h : (stepR P C live D X enc ps assign body s x).run = some (.inr r)) : ∃ e st', (X.enc r).run = some (e, st') ∧ e ≠ .normal ∧ Round P ps assign body (D.enc s) st' (enc x) e := by
  obtain ⟨p, h1, h2⟩ := T.run_bind h
  obtain ⟨g1, st2, g2, g3, g4⟩ := nextT_inr h2
  exact ⟨p.1, st2, g2, g1, (roundT_round (DT_ld hC hm assign ha hna) (DT_ld hC hm body hb hnb) h1).post g3 g4⟩

theorem TabOk.addRange (hP : okProg P = true) (h : TabOk P B) (h1 : (nodesAt P f k).length = 1) (h2 : isRange (nodeC P f k) = true) {enc : β → List AV} {M : σ → T (σ ⊕ ρ)} {L : σ → List β}
    (hL : ∀ s r, (M s).run = some r → ∃ g us vs, overC P f k (D.enc s) = some (g, us, vs) ∧ ICL P g us vs ((L s).map enc))
    (hM : ∀ s r, (M s).run = some r → foldS (rangeT1 P B d f k live D X enc) (L s) s = some r) : TabOk P (B.addNode f k (rangeE live D X M)) := by
  refine h.addNode fun c hc st t e st' ht hr => ?_
  unfold rangeE at ht
  split at ht
  case h_2 => simp at ht
  rename_i s hs
  injection ht with ht; subst ht
  obtain ⟨r, hr1, hr2⟩ := T.run_bind hr
  have hcc := nodeC_one h1 hc
  obtain ⟨fn, c0, hf, hb, hin⟩ := nodesAt_fn hc
  obtain ⟨fo, ps, assign, body, hnode⟩ : ∃ fo ps assign body, nodeC P f k = .rangeFunc fo ps assign body := by
    cases hq : nodeC P f k with
    | rangeFunc a b c d => exact ⟨a, b, c, d, rfl⟩
    | _ => rw [hq] at h2; simp [isRange] at h2
  rw [hcc, hnode] at hin ⊢
  have hcode := codeOk_sub c0 (okProg_code hP hf hb) hin
  simp only [codeOk, Bool.and_eq_true] at hcode
  have hsub : ∀ x, x ∈ nodesOf (.rangeFunc fo ps assign body) → x ∈ nodesFn P f := fun x hx => by
    simpa [nodesFn, hf, hb] using nodes_sub c0 hin x hx
  have hna : ∀ x, x ∈ nodesOf assign → x ∈ nodesFn P f := fun x hx => hsub x (by simp [nodesOf, hx])
  have hnb : ∀ x, x ∈ nodesOf body → x ∈ nodesFn P f := fun x hx => hsub x (by simp [nodesOf, hx])
  refine Ld.pre ((prune_tidy live st).trans (D.ok _ _ hs)) ?_
  obtain ⟨g, us, vs, hover, hicl⟩ := hL s r hr1
  have hfold := hM s r hr1
  have hC := lvl_ok hP h d f
  have hm := okProg_mixed hP
  unfold overC at hover
  rw [hnode] at hover
  simp only [funC] at hover
  split at hover
  case h_2 => simp at hover
  rename_i g' us' vs' hf'
  split at hover
  case h_2 => simp at hover
  rename_i hok
  injection hover with hover
  injection hover with e1 e2
  injection e2 with e2 e3
  subst e1; subst e2; subst e3
  simp only [Bool.and_eq_true] at hok
  obtain ⟨hg, hn1, hn2⟩ := hok
  obtain ⟨fnI, hfnI, hnm⟩ : ∃ fn, P.funcs[g']? = some fn ∧ nameOk fn = true := by
    unfold okFn at hg
    split at hg
    · rename_i fn hfn; exact ⟨fn, hfn, hg⟩
    · simp at hg
  have hrt : ∀ s x, rangeT1 P B d f k live D X enc s x = (stepR P (mkCfg B (lvl P B d) f) live D X enc ps assign body s x).run := fun s x => by unfold rangeT1; rw [hnode]; rfl
  cases r with
  | inl s' =>
    simp only [rangeX, T.run, Option.some.injEq, Prod.mk.injEq] at hr2
    obtain ⟨rfl, rfl⟩ := hr2
    obtain ⟨S, h3, h4, h5⟩ := foldS_inl hfold
    have key := Ld.range (P := P) (f := fo) (ps := ps) (assign := assign) (body := body) (S := fun i => D.enc (S i)) (fin := .normal) (evs := ((L s).map enc).map fun x => (x, true)) (by rw [h3]; exact hf') hfnI hnm hn1 hn2 hicl.1 ?_ rfl (fun _ => rfl)
    · simp only [List.length_map, h3, h4] at key; exact key
    · intro i x b hi
      simp only [List.getElem?_map, Option.map_map, Option.map_eq_some_iff, Function.comp_apply, Prod.mk.injEq] at hi
      obtain ⟨y, hy, rfl, rfl⟩ := hi
      refine ⟨.normal, ?_, by simp, rfl⟩
      have := h5 i y hy
      rw [hrt] at this
      exact step_inl hC hm hcode.1 hcode.2 hna hnb this
  | inr r =>
    simp only [rangeX, T.run] at hr2
    obtain ⟨S, i, x, h3, h4, h5, h6⟩ := foldS_inr hfold
    rw [hrt] at h6
    obtain ⟨e2, st2, g1, g2, g3⟩ := step_inr hC hm hcode.1 hcode.2 hna hnb h6
    rw [hr2] at g1
    injection g1 with g1
    have q1 : e = e2 := congrArg Prod.fst g1
    have q2 : st' = st2 := congrArg Prod.snd g1
    subst q1; subst q2
    have hil : i < (L s).length := (List.getElem?_eq_some_iff.1 h4).1
    have hic := hicl.2 i (enc x) (by rw [List.getElem?_map, h4]; rfl)
    have hjn : jumpOf e ≠ none := fun hj => g2 (jump_none g3.ends hj)
    have key := Ld.range (P := P) (f := fo) (ps := ps) (assign := assign) (body := body) (S := fun j => if j ≤ i then D.enc (S j) else st') (fin := e) (evs := (((L s).map enc).take i).map (fun x => (x, true)) ++ [(enc x, false)]) (by simp only [Nat.zero_le, if_true, h3]; exact hf') hfnI hnm hn1 hn2 hic ?_ g3.ends (fun h => by simp at h)
    · have hlen : ((((L s).map enc).take i).map (fun x => (x, true)) ++ [(enc x, false)]).length = i + 1 := by simp; omega
      rw [hlen] at key
      simp only [Nat.zero_le, if_true, h3] at key
      rw [if_neg (by omega)] at key
      exact key
    · intro j y b hj
      have hlen : ((((L s).map enc).take i).map (fun x => (x, true)) ++ [(enc x, false)]).length = i + 1 := by simp; omega
      rw [hlen]
      by_cases hji : j < i
      · rw [List.getElem?_append_left (by simp; omega)] at hj
        simp only [List.getElem?_map, List.getElem?_take, hji, if_true, Option.map_map, Option.map_eq_some_iff, Function.comp_apply, Prod.mk.injEq] at hj
        obtain ⟨z, hz, rfl, rfl⟩ := hj
        refine ⟨.normal, ?_, by rw [if_neg (by omega)], rfl⟩
        have := h5 j z hji hz
        rw [hrt] at this
        simp only [show j ≤ i by omega, show j + 1 ≤ i by omega, if_true]
        exact step_inl hC hm hcode.1 hcode.2 hna hnb this
      · have hlt : j < i + 1 := by rw [← hlen]; exact (List.getElem?_eq_some_iff.1 hj).1
        have : j = i := by omega
        subst this
        rw [List.getElem?_append_right (by simp; omega)] at hj
        have h0 : j - ((((L s).map enc).take j).map (fun x => (x, true))).length = 0 := by simp; omega
        rw [h0] at hj
        simp at hj
        obtain ⟨rfl, rfl⟩ := hj
        refine ⟨e, ?_, by simp, ?_⟩
        · simp only [Nat.le_refl, if_true]
          rw [if_neg (by omega)]
          exact g3
        · cases hq : jumpOf e with
          | none => exact absurd hq hjn
          | some c => rfl
end

/-- What a function that is ranged over yields with these answers. -/
def iterT1 (P : Program) (B : Tab) (d : Nat) (g : FuncId) (us vs : List AV) (bs : Nat → Bool) : Option (List (List AV × Bool)) := (iterBody P (mkCfg B (lvl P B d) g) g us vs bs).run

theorem iter_of {P : Program} {B : Tab} {d : Nat} {g : FuncId} (hP : okProg P = true) (h : TabOk P B) {us vs : List AV} {L : List (List AV)} (h1 : iterT1 P B d g us vs (fun _ => true) = some (L.map fun x => (x, true)))
    (h2 : ∀ i x, L[i]? = some x → iterT1 P B d g us vs (fun k => !(Nat.beq k i)) = some ((L.take i).map (fun x => (x, true)) ++ [(x, false)])) : ICL P g us vs L :=
  ⟨body_ic hP h d h1, fun i x hi => body_ic hP h d (h2 i x hi)⟩

end

end Go.Proofs.YtjbhooodjmjdkaaGreat.Ev
/-! EvW -/
namespace Go.Proofs.YtjbhooodjmjdkaaGreat.Ev
open Go.RowKit Go.WideShapes Go.ChangeShapes

section
variable {H : Type} {enc : TypeId × Value → H} {P : Program}

/-- The row's last step where only new memory was made. -/
theorem post_of_below {f : Func} {s : ChangeSpec} {apart fresh handsOn again : Bool} {W W' : World} {args : Array Value} {v : Value} {ds gs : List (DataW H)} {before pa pv : List MemPlace}
    (hW : DataW.Whole enc P f.params.toList s.vars apart W args.toList ds gs before)
    (hres : ∀ (b : Nat) (sp : Nat → Bool) (hd : Bool), DataW.TrodAll enc P W' b sp hd f.resultTypes.toList (v.resultList f.resultTypes.size) (s.fn H (ds ++ gs)).results [])
    (hargs : ∀ sp : Nat → Bool, (∀ p ∈ before, sp p.block = true) → DataW.TrodAll enc P W' 0 sp true f.params.toList args.toList (s.fn H (ds ++ gs)).args pa)
    (hvars : ∀ sp : Nat → Bool, (∀ p ∈ before, sp p.block = true) → DataW.TrodVars enc P W' sp s.vars (s.fn H (ds ++ gs)).vars pv)
    (hps : before = pa ++ pv) (hb : Below W.heap.size W W')
    (hok : ∀ (j : Nat) (t : TypeId) (r : Value), f.resultTypes[j]? = some t → (v.resultList f.resultTypes.size)[j]? = some r → Value.okWide P W' .any 0 t r) :
    s.post enc P f apart fresh handsOn again W args v W' := by
  have hlt : ∀ p ∈ before, p.block < W.heap.size := fun p hp => hW.lt p hp
  have hold : ∀ p ∈ before, (fun b => decide (b < W.heap.size)) p.block = true := fun p hp => by simpa using hlt p hp
  refine ⟨ds, gs, before, [], pa, pv, hW, hres _ _ _, hargs _ hold, hvars _ hold, World.keptBut_mono (fun p hp => ⟨hp, ?_⟩) (hb.frame (· ∈ before)), fun _ => ?_⟩
  · rw [hps, List.mem_append] at hp
    exact Or.inr hp
  · obtain ⟨_, _, _, _, _, hz, hn⟩ := hW
    refine ⟨hok, _, _, ([] ++ pa) ++ pv, ⟨[] ++ pa, pv, trodAll_append (hargs _ (fun _ _ => rfl)) (hres _ _ _), hvars _ (fun _ _ => rfl), rfl, ?_, ?_⟩, ?_⟩
    · intro b off hp
      have hin : MemPlace.cell b off ∈ before := by rw [hps]; simpa using hp
      rw [hb.frozen (hlt _ hin)]
      exact hz b off hin
    · intro ha
      have := hn ha
      rw [hps] at this
      simpa using this
    · intro p hp _
      rw [hps]
      simpa using hp

theorem trodAll_stays (hl : laidOutB P = true) {W W' : World} (hb : Below W.heap.size W W') {sp : Nat → Bool} : ∀ {ts : List TypeId} {vs : List Value} {ds : List (DataW H)} {ps : List MemPlace},
    (∀ t ∈ ts, P.readableRec t = true ∧ t < P.types.size) → DataW.TrodAll enc P W 0 (fun _ => true) true ts vs ds ps → (∀ x ∈ ps, x.block < W.heap.size) → (∀ x ∈ ps, sp x.block = true) → DataW.TrodAll enc P W' 0 sp true ts vs ds ps
  | [], [], [], ps, _, h, _, _ => h
  | [], [], _ :: _, _, _, h, _, _ => h.elim
  | [], _ :: _, _, _, _, h, _, _ => h.elim
  | _ :: _, [], _, _, _, h, _, _ => h.elim
  | _ :: _, _ :: _, [], _, _, h, _, _ => h.elim
  | t :: ts, v :: vs, d :: ds, ps, ht, h, hlt, hs => by
    obtain ⟨p, q, h1, h2, rfl⟩ := h
    refine ⟨p, q, ?_, trodAll_stays hl hb (fun t h => ht t (List.mem_cons_of_mem _ h)) h2 (fun x hx => hlt x (List.mem_append_right _ hx)) (fun x hx => hs x (List.mem_append_right _ hx)), rfl⟩
    have h0 := ht t List.mem_cons_self
    exact WideElems.Trod_stays hl h0.1 h0.2 h1 (fun x hx => hb.same (hlt x (List.mem_append_left _ hx))) (fun x hx => hs x (List.mem_append_left _ hx))

/-! ### How data read -/

inductive FK where
  | int (k : IntKind)
  | bool
  | str
  | sl (e : TypeId)

def flatF (r : TypeId → Option (List FK)) (P : Program) : List Field → Nat → Option (List FK)
  | [], _ => some []
  | f :: fs, off => match r f.type with
    | some l => match Nat.beq f.offset off && Nat.beq (P.cellsOf f.type) l.length with
      | true => match flatF r P fs (off + l.length) with
        | some m => some (l ++ m)
        | none => none
      | false => none
    | none => none

/-- The kinds of the cells of a type. -/
def flat (P : Program) : Nat → TypeId → Option (List FK)
  | 0, _ => none
  | n + 1, t => match P.underlying t with
    | some .bool => some [.bool]
    | some (.int k) => some [.int k]
    | some .string => some [.str]
    | some (.slice e) => some [.sl e]
    | some (.struct fs) => match flatF (flat P n) P fs.toList 0 with
      | some l => match Nat.beq (P.cellsOf t) l.length with
        | true => some l
        | false => none
      | none => none
    | some (.array m e) => match flat P n e with
      | some l => match Nat.beq (P.cellsOf e) l.length && Nat.beq (P.cellsOf t) (m * l.length) with
        | true => some (List.replicate m l).flatten
        | false => none
      | none => none
    | _ => none

/-- A cell of a kind. -/
def CellR (enc : TypeId × Value → H) (P : Program) (w : World) : FK → Value → Prop
  | .int k, v => ∃ n, v = .int k n ∧ (Lit.int k n).wf = true
  | .bool, v => ∃ b, v = .bool b
  | .str, v => ∃ s : ByteArray, v = .string s ∧ s.size ≤ maxLen
  | .sl e, v => v = .slice none 0 0 ∨ ∃ (a : Addr) (len cap : Nat), v = .slice (some a) len cap ∧ len ≤ cap ∧ cap ≤ maxLen ∧
      ∀ i, i < len → ∃ row, w.cells? 0 (a.add (i * P.cellsOf e)) (P.cellsOf e) = some row ∧ ∃ fuel x, DataW.trod enc P w 0 (fun _ => true) true fuel e row = some x

theorem mapM_mem {α β : Type} {f : α → Option β} : ∀ {l : List α} {ys : List β}, l.mapM f = some ys → ∀ x ∈ l, ∃ y, f x = some y
  | [], _, _, x, hx => by simp at hx
  | a :: l, ys, h, x, hx => by
    rw [List.mapM_cons] at h
    cases ha : f a with
    | none => simp [ha] at h
    | some b =>
      cases hl : l.mapM f with
      | none => simp [ha, hl] at h
      | some bs =>
        rcases List.mem_cons.1 hx with rfl | hx
        · exact ⟨b, ha⟩
        · exact mapM_mem hl x hx

theorem flatF_get {r : TypeId → Option (List FK)} {w : World} {cs : List Value} (hr : ∀ t l, r t = some l → ∀ fuel ds x, DataW.trod enc P w 0 (fun _ => true) true fuel t ds = some x → ds.length = l.length ∧ ∀ (i : Nat) (k : FK), l[i]? = some k → ∃ v, ds[i]? = some v ∧ CellR enc P w k v) :
    ∀ {fs : List Field} {off : Nat} {l : List FK}, flatF r P fs off = some l → off + l.length ≤ cs.length → (∀ f ∈ fs, ∃ fuel x, DataW.trod enc P w 0 (fun _ => true) true fuel f.type ((cs.drop f.offset).take (P.cellsOf f.type)) = some x) →
      ∀ (i : Nat) (k : FK), l[i]? = some k → ∃ v, cs[off + i]? = some v ∧ CellR enc P w k v
  | [], off, l, h, _, _, i, k, hi => by simp [flatF] at h; subst h; simp at hi
  | f :: fs, off, l, h, hle, hf, i, k, hi => by
    simp only [flatF] at h
    split at h
    case h_2 => simp at h
    rename_i l1 h1
    split at h
    case h_2 => simp at h
    rename_i hc
    simp only [Bool.and_eq_true] at hc
    have e1 := Nat.eq_of_beq_eq_true hc.1
    have e2 := Nat.eq_of_beq_eq_true hc.2
    split at h
    case h_2 => simp at h
    rename_i m hm
    injection h with h; subst h
    rw [List.length_append] at hle
    by_cases hlt : i < l1.length
    · rw [List.getElem?_append_left hlt] at hi
      obtain ⟨fuel, x, hx⟩ := hf f List.mem_cons_self
      obtain ⟨v, hv, hcr⟩ := (hr _ _ h1 _ _ _ hx).2 i k hi
      rw [List.getElem?_take] at hv
      split at hv
      · rw [List.getElem?_drop, e1] at hv
        exact ⟨v, hv, hcr⟩
      · simp at hv
    · rw [List.getElem?_append_right (by omega)] at hi
      obtain ⟨v, hv, hcr⟩ := flatF_get hr hm (by omega) (fun f h => hf f (List.mem_cons_of_mem _ h)) _ k hi
      exact ⟨v, by rw [← hv]; congr 1; omega, hcr⟩

theorem flatten_get {l : List FK} {m : Nat} : ∀ {i : Nat} {k : FK}, ((List.replicate m l).flatten)[i]? = some k → 0 < l.length ∧ i / l.length < m ∧ l[i % l.length]? = some k := by
  induction m with
  | zero => intro i k h; simp at h
  | succ m ih =>
    intro i k h
    rw [List.replicate_succ, List.flatten_cons] at h
    by_cases hlt : i < l.length
    · rw [List.getElem?_append_left hlt] at h
      exact ⟨by omega, by rw [Nat.div_eq_of_lt hlt]; omega, by rw [Nat.mod_eq_of_lt hlt]; exact h⟩
    · rw [List.getElem?_append_right (by omega)] at h
      obtain ⟨h1, h2, h3⟩ := ih h
      refine ⟨h1, ?_, ?_⟩
      · rw [Nat.div_eq_sub_div h1 (by omega)]; omega
      · rw [Nat.mod_eq_sub_mod (by omega)]; exact h3

theorem trod_flat {w : World} : ∀ (n : Nat) (t : TypeId) (ks : List FK), flat P n t = some ks → ∀ (fuel : Nat) (cs : List Value) (x : DataW H × List MemPlace), DataW.trod enc P w 0 (fun _ => true) true fuel t cs = some x →
    cs.length = ks.length ∧ ∀ (i : Nat) (k : FK), ks[i]? = some k → ∃ v, cs[i]? = some v ∧ CellR enc P w k v
  | 0, t, ks, h, _, _, _, _ => by simp [flat] at h
  | n + 1, t, ks, h, 0, cs, x, hx => by simp [DataW.trod] at hx
  | n + 1, t, ks, h, fuel + 1, cs, x, hx => by
    simp only [flat] at h
    split at h
    · rename_i hu
      injection h with h; subst h
      simp only [DataW.trod, hu] at hx
      split at hx <;> simp_all
      exact fun i k hi => by
        cases i with
        | zero => simp at hi; subst hi; exact ⟨_, rfl, _, rfl⟩
        | succ i => simp at hi
    · rename_i k0 hu
      injection h with h; subst h
      simp only [DataW.trod, hu] at hx
      split at hx <;> simp_all
      exact fun i k hi => by
        cases i with
        | zero => simp at hi; subst hi; exact ⟨_, rfl, _, rfl, hx.1.2⟩
        | succ i => simp at hi
    · rename_i hu
      injection h with h; subst h
      simp only [DataW.trod, hu] at hx
      split at hx <;> simp_all
      exact fun i k hi => by
        cases i with
        | zero => simp at hi; subst hi; exact ⟨_, rfl, _, rfl, hx.1⟩
        | succ i => simp at hi
    · rename_i e hu
      injection h with h; subst h
      simp only [DataW.trod, hu] at hx
      split at hx
      case h_7 =>
        exact ⟨rfl, fun i k hi => by
          cases i with
          | zero => simp at hi; subst hi; exact ⟨_, rfl, .inl rfl⟩
          | succ i => simp at hi⟩
      case h_8 =>
        rename_i e' a len cap h0
        injection h0 with h0; injection h0 with h0; subst h0
        split at hx
        case isFalse => simp at hx
        rename_i hc
        rw [Option.bind_eq_some_iff] at hx
        obtain ⟨elems, he, _⟩ := hx
        refine ⟨rfl, fun i k hi => ?_⟩
        cases i with
        | succ i => simp at hi
        | zero =>
          simp at hi; subst hi
          refine ⟨_, rfl, .inr ⟨a, len, cap, rfl, hc.2.1, hc.2.2, fun j hj => ?_⟩⟩
          obtain ⟨y, hy⟩ := mapM_mem he j (List.mem_range.2 hj)
          rw [Option.bind_eq_some_iff] at hy
          obtain ⟨row, h1, h2⟩ := hy
          exact ⟨row, h1, fuel, y, h2⟩
      all_goals simp_all
    · rename_i fs hu
      split at h
      case h_2 => simp at h
      rename_i l hl
      split at h
      case h_2 => simp at h
      rename_i hc
      have ec := Nat.eq_of_beq_eq_true hc
      injection h with h; subst h
      simp only [DataW.trod, hu] at hx
      have hx' : (if cs.length = P.cellsOf t then (fs.toList.mapM fun f => DataW.trod enc P w 0 (fun _ => true) true fuel f.type ((cs.drop f.offset).take (P.cellsOf f.type))).map fun xs => (DataW.agg (xs.map (·.1)), xs.flatMap (·.2)) else none) = some x := by
        split at hx <;> simp_all
      clear hx
      split at hx'
      case isFalse => simp at hx'
      rename_i hlen
      rw [Option.map_eq_some_iff] at hx'
      obtain ⟨xs, hxs, _⟩ := hx'
      refine ⟨by rw [hlen, ec], fun i k hi => ?_⟩
      have := flatF_get (cs := cs) (fun t l h => trod_flat n t l h) hl (by omega) (fun f hf => by obtain ⟨y, hy⟩ := mapM_mem hxs f hf; exact ⟨fuel, y, hy⟩) i k hi
      simpa using this
    · rename_i m e hu
      split at h
      case h_2 => simp at h
      rename_i l hl
      split at h
      case h_2 => simp at h
      rename_i hc
      simp only [Bool.and_eq_true] at hc
      have e1 := Nat.eq_of_beq_eq_true hc.1
      have e2 := Nat.eq_of_beq_eq_true hc.2
      injection h with h; subst h
      simp only [DataW.trod, hu] at hx
      have hx' : (if cs.length = P.cellsOf t then ((List.range m).mapM fun i => DataW.trod enc P w 0 (fun _ => true) true fuel e ((cs.drop (i * P.cellsOf e)).take (P.cellsOf e))).map fun xs => (DataW.agg (xs.map (·.1)), xs.flatMap (·.2)) else none) = some x := by
        split at hx <;> simp_all
      clear hx
      split at hx'
      case isFalse => simp at hx'
      rename_i hlen
      rw [Option.map_eq_some_iff] at hx'
      obtain ⟨xs, hxs, _⟩ := hx'
      refine ⟨by rw [hlen, e2]; simp, fun i k hi => ?_⟩
      obtain ⟨h1, h2, h3⟩ := flatten_get hi
      obtain ⟨y, hy⟩ := mapM_mem hxs (i / l.length) (List.mem_range.2 h2)
      obtain ⟨v, hv, hcr⟩ := (trod_flat n e l hl fuel _ _ hy).2 _ k h3
      rw [List.getElem?_take] at hv
      split at hv
      · rw [List.getElem?_drop, e1] at hv
        refine ⟨v, ?_, hcr⟩
        rw [← hv]; congr 1
        have := Nat.div_add_mod i l.length
        rw [Nat.mul_comm]; exact this.symm
      · simp at hv
    · simp at h

/-! ### Readers -/

def RdV {α : Type} (w : World) (D : Dec α) (v : Value) : Prop := ∃ a, VR w noA noR (D.enc a) v
def RdL {α : Type} (w : World) (E : DecL α) (cs : List Value) : Prop := ∃ a, VRs w noA noR (E.enc a) cs.toArray

def Cells (enc : TypeId × Value → H) (P : Program) (w : World) (ks : List FK) (cs : List Value) : Prop := cs.length = ks.length ∧ ∀ (i : Nat) (k : FK), ks[i]? = some k → ∃ v, cs[i]? = some v ∧ CellR enc P w k v

def tagK : FK → CK
  | .int k => .int k
  | .bool => .bool
  | .str => .str
  | .sl _ => .any

def flatK : FK → Bool
  | .sl _ => false
  | _ => true

section
variable {w : World} {α β : Type}

theorem rd_int {k : IntKind} {v : Value} (h : CellR enc P w (.int k) v) : RdV w (dI k) v := by
  obtain ⟨n, rfl, _⟩ := h; exact ⟨n, .int⟩
theorem rd_bool {v : Value} (h : CellR enc P w .bool v) : RdV w dB v := by
  obtain ⟨n, rfl⟩ := h; exact ⟨n, .bool⟩
theorem rd_str {v : Value} (h : CellR enc P w .str v) : RdV w dS v := by
  obtain ⟨s, rfl, _⟩ := h; exact ⟨s.data.toList, (.str : VR w noA noR (.str s.data.toList) (.string ⟨s.data.toList.toArray⟩))⟩

theorem rd_scal {k : FK} (hk : flatK k = true) {v : Value} (h : CellR enc P w k v) : ∃ x, ofScal v = some x ∧ conf (tagK k) x = x := by
  cases k with
  | int k => obtain ⟨n, rfl, _⟩ := h; exact ⟨_, rfl, rfl⟩
  | bool => obtain ⟨n, rfl⟩ := h; exact ⟨_, rfl, rfl⟩
  | str => obtain ⟨n, rfl, _⟩ := h; exact ⟨_, rfl, rfl⟩
  | sl e => simp [flatK] at hk

theorem ckAt_map : ∀ {ks : List FK} {i : Nat} {k : FK}, ks[i]? = some k → ckAt (ks.map tagK) i = tagK k
  | [], i, k, h => by simp at h
  | a :: ks, 0, k, h => by simp at h; subst h; rfl
  | a :: ks, i + 1, k, h => by simp only [List.map_cons, ckAt]; exact ckAt_map (by simpa using h)

theorem mapM_range {f : Nat → Option Value} {n : Nat} {row : List Value} (h : (List.range n).mapM f = some row) (i : Nat) (hi : i < n) : f i = row[i]? := by
  have key : ∀ (l : List Nat) (row : List Value), l.mapM f = some row → ∀ (i x : Nat), l[i]? = some x → f x = row[i]? := by
    intro l
    induction l with
    | nil => intro row _ i x hx; simp at hx
    | cons a l ih =>
      intro row h i x hx
      rw [List.mapM_cons] at h
      cases ha : f a with
      | none => simp [ha] at h
      | some b =>
        cases hl : l.mapM f with
        | none => simp [ha, hl] at h
        | some bs =>
          simp [ha, hl] at h
          subst h
          cases i with
          | zero => simp at hx; subst hx; simpa using ha
          | succ i => simpa using ih bs hl i x (by simpa using hx)
  exact key _ _ h i i (by simp [hi])

theorem cells_at {a : Addr} {n : Nat} {row : List Value} (h : w.cells? 0 a n = some row) : row.length = n ∧ ∀ i, i < n → w.cell? (a.add i) = row[i]? := by
  unfold World.cells? at h
  rw [if_pos (Nat.zero_le _)] at h
  refine ⟨?_, fun i hi => mapM_range h i hi⟩
  have : ∀ (l : List Nat) (row : List Value), (l.mapM fun i => w.cell? (a.add i)) = some row → row.length = l.length := by
    intro l
    induction l with
    | nil => intro row h; simp at h; subst h; rfl
    | cons x l ih =>
      intro row h
      rw [List.mapM_cons] at h
      cases hx : w.cell? (a.add x) with
      | none => simp [hx] at h
      | some b =>
        cases hl : l.mapM (fun i => w.cell? (a.add i)) with
        | none => simp [hx, hl] at h
        | some bs => simp [hx, hl] at h; subst h; simp [ih bs hl]
  simpa using this _ _ h

theorem cell_spot {a : Addr} {v : Value} (h : w.cell? a = some v) : a.spot = none ∧ a.block < w.heap.size := by
  unfold World.cell? at h
  split at h
  · rename_i c _ _ hb
    split at h
    · simp at h
    · rename_i hs; exact ⟨by simpa using hs, (Array.getElem?_eq_some_iff.1 hb).1⟩
  · simp at h

/-- A slice of rows of numbers, bools and strings. -/
theorem rd_sl {e : TypeId} {n : Nat} {ks : List FK} (hf : flat P n e = some ks) (hwd : P.cellsOf e = ks.length) (hpos : 0 < ks.length) (hk : ks.all flatK = true) {v : Value} (h : CellR enc P w (.sl e) v) : RdV w (dX ks.length (ks.map tagK)) v := by
  rcases h with rfl | ⟨a, len, cap, rfl, h1, h2, h3⟩
  · exact ⟨⟨0, 0, 0, none, fun _ _ => .top⟩, (dX ks.length (ks.map tagK)).ok .nilsl _ rfl _ _ _ _ .nilsl⟩
  · rcases a with ⟨b, off, spot⟩
    rw [hwd] at h3
    have hspot0 : 0 < len → spot = none := fun h0 => by
      obtain ⟨row, hr, fuel, x, hx⟩ := h3 0 h0
      obtain ⟨hl, hat⟩ := cells_at hr
      have h0' := hat 0 hpos
      rw [List.getElem?_eq_getElem (by omega)] at h0'
      have := (cell_spot h0').1
      simpa [Addr.add] using this
    have hcell : ∀ i k, i < len → k < ks.length → ∃ v kk, ks[k]? = some kk ∧ w.cell? ⟨b, off + (i * ks.length + k), spot⟩ = some v ∧ CellR enc P w kk v ∧ spot = none ∧ b < w.heap.size := by
      intro i k hi hkk
      obtain ⟨row, hr, fuel, x, hx⟩ := h3 i hi
      obtain ⟨hl, hat⟩ := cells_at hr
      obtain ⟨v, hv, hc⟩ := (trod_flat n e ks hf fuel row x hx).2 k _ (List.getElem?_eq_getElem hkk)
      have := hat k hkk
      rw [hv] at this
      obtain ⟨hs, hb⟩ := cell_spot this
      have hspot : spot = none := hspot0 (by omega)
      subst hspot
      rw [addr_add, addr_add] at this hb
      exact ⟨v, _, List.getElem?_eq_getElem hkk, by rw [← Nat.add_assoc]; exact this, hc, rfl, hb⟩
    let u : Nat → Nat → Value := fun i k => (w.cell? ⟨b, off + (i * ks.length + k), none⟩).getD undef
    refine ⟨⟨len, 0, len, none, fun i k => (ofScal (u i k)).getD .top⟩, .xsl b off u ⟨h1, ?_⟩ (fun x hx => by cases hx) (by simp) (fun h0 => ?_) (fun h0 i k hi hkk => ?_) (fun h0 i k hi hkk => ?_)⟩
    · have : cap ≤ 2 ^ 63 - 1 := h2
      show len ≤ 9223372036854775807
      omega
    · obtain ⟨v, kk, _, _, _, hs, hb⟩ := hcell 0 0 h0 hpos
      subst hs
      exact ⟨by simp, hb, fun h => h⟩
    · obtain ⟨v, kk, _, hv, _, hs, _⟩ := hcell i k hi hkk
      subst hs
      simp only [u, hv, Option.getD_some]
    · obtain ⟨v, kk, hkk', hv, hc, hs, _⟩ := hcell i k hi hkk
      subst hs
      have hu : u i k = v := by simp only [u, hv, Option.getD_some]
      obtain ⟨x, hx, hcf⟩ := rd_scal (List.all_eq_true.1 hk kk (List.mem_of_getElem? hkk')) hc
      have e : (⟨ks.map tagK, fun i k => (ofScal (u i k)).getD .top⟩ : Get AV).cell i k = x := by
        simp only [Get.cell, hu, hx, Option.getD_some, ckAt_map hkk', hcf]
      rw [e, hu]
      exact ofScal_rel hx

theorem cells_cons {k : FK} {ks : List FK} {cs : List Value} (h : Cells enc P w (k :: ks) cs) : ∃ v cs', cs = v :: cs' ∧ CellR enc P w k v ∧ Cells enc P w ks cs' := by
  obtain ⟨h1, h2⟩ := h
  cases cs with
  | nil => simp at h1
  | cons v cs' =>
    obtain ⟨v', hv, hc⟩ := h2 0 k rfl
    simp at hv; subst hv
    exact ⟨v, cs', rfl, hc, by simpa using h1, fun i k hi => by simpa using h2 (i + 1) k (by simpa using hi)⟩

theorem cells_nil {cs : List Value} (h : Cells enc P w [] cs) : cs = [] := List.eq_nil_of_length_eq_zero h.1

theorem rdL_cons {D : Dec α} {E : DecL β} {v : Value} {cs : List Value} (h : RdV w D v) (k : RdL w E cs) : RdL w (.cons D E) (v :: cs) := by
  obtain ⟨a, ha⟩ := h; obtain ⟨b, hb⟩ := k
  refine ⟨(a, b), ?_⟩
  have := VRs.cons' ha hb
  show VRs w noA noR (D.enc a :: E.enc b) (v :: cs).toArray
  simpa using this

theorem rdL_last {D : Dec α} {v : Value} (h : RdV w D v) : RdL w (.last D 0) [v] := by
  obtain ⟨a, ha⟩ := h
  exact ⟨a, VRs.one ha⟩

theorem rdL_iso {E : DecL α} {to : α → β} {fro : β → α} {h : ∀ a, fro (to a) = a} {cs : List Value} (k : RdL w E cs) : RdL w (E.iso to fro h) cs := by
  obtain ⟨a, ha⟩ := k
  exact ⟨to a, by show VRs w noA noR (E.enc (fro (to a))) cs.toArray; rw [h]; exact ha⟩

theorem rdV_iso {D : Dec α} {to : α → β} {fro : β → α} {h : ∀ a, fro (to a) = a} {v : Value} (k : RdV w D v) : RdV w (D.iso to fro h) v := by
  obtain ⟨a, ha⟩ := k
  exact ⟨to a, by show VR w noA noR (D.enc (fro (to a))) v; rw [h]; exact ha⟩

theorem rdV_agg {E : DecL α} {cs : Array Value} (k : RdL w E cs.toList) : RdV w (dAgg E) (.agg cs) := by
  obtain ⟨a, ha⟩ := k
  exact ⟨a, .agg ha.1 ha.2⟩

theorem okWide_agg {r : Reach} {b : Nat} {t : TypeId} {v : Value} (hu : aggB P t = some true) (h : Value.okWide P w r b t v) : ∃ cs, v = .agg cs := by
  unfold Value.okWide at h
  unfold aggB at hu
  split at h
  · obtain ⟨cs, rfl, _⟩ := h; exact ⟨cs, rfl⟩
  · obtain ⟨cs, rfl, _⟩ := h; exact ⟨cs, rfl⟩
  · split at hu <;> simp_all

theorem okWide_cell {r : Reach} {b : Nat} {t : TypeId} {v : Value} (hu : aggB P t = some false) (h : Value.okWide P w r b t v) : v.cells = #[v] := by
  unfold Value.okWide at h
  unfold aggB at hu
  split at h
  · simp_all
  · simp_all
  · cases v with
    | agg cs =>
      unfold Cell.okWide at h
      split at h <;> try simp_all
      unfold Cell.ok at h
      split at h <;> simp_all
    | _ => rfl

/-- A parameter that is a struct or an array. -/
theorem param_agg {n : Nat} {t : TypeId} {ks : List FK} {r : Reach} {b : Nat} {v : Value} {d : DataW H} {p : List MemPlace} (hf : flat P n t = some ks) (hu : aggB P t = some true) (hok : Value.okWide P w r b t v) (h : DataW.Trod enc P w 0 (fun _ => true) true t v d p) :
    ∃ cs, v = .agg cs ∧ Cells enc P w ks cs.toList := by
  obtain ⟨cs, rfl⟩ := okWide_agg hu hok
  obtain ⟨fuel, hx⟩ := h
  exact ⟨cs, rfl, trod_flat n t ks hf fuel _ _ hx⟩

/-- A parameter of one cell. -/
theorem param_cell {n : Nat} {t : TypeId} {k : FK} {r : Reach} {b : Nat} {v : Value} {d : DataW H} {p : List MemPlace} (hf : flat P n t = some [k]) (hu : aggB P t = some false) (hok : Value.okWide P w r b t v) (h : DataW.Trod enc P w 0 (fun _ => true) true t v d p) : CellR enc P w k v := by
  obtain ⟨fuel, hx⟩ := h
  rw [okWide_cell hu hok] at hx
  obtain ⟨v', hv, hc⟩ := (trod_flat n t [k] hf fuel _ _ hx).2 0 k rfl
  simp at hv; subst hv; exact hc
end

/-! ### The law -/

theorem law_contract {f : FuncId} {fn : Func} {s : ChangeSpec} {apart fresh handsOn again : Bool} {α : Type} (D : DecL α) (hl : laidOutB P = true) (hts : (fn.params.toList.all fun t => P.readableRec t && decide (t < P.types.size)) = true)
    (hvars : s.vars = []) (hfn : ∀ (ds : List (DataW H)), ds.length = fn.params.toList.length → s.fn H (ds ++ []) = { results := [.lit (.bool true)], args := ds })
    (hres : ∀ (W' : World) (b : Nat) (sp : Nat → Bool) (hd : Bool), DataW.TrodAll enc P W' b sp hd fn.resultTypes.toList ((Value.bool true).resultList fn.resultTypes.size) [.lit (.bool true)] [])
    (hok : ∀ (W' : World) (j : Nat) (t : TypeId) (r : Value), fn.resultTypes[j]? = some t → ((Value.bool true).resultList fn.resultTypes.size)[j]? = some r → Value.okWide P W' .any 0 t r)
    (hread : ∀ (W : World) (base : Nat) (args : Array Value) (ds : List (DataW H)) (p : List MemPlace), (∀ (j : Nat) t v, fn.params[j]? = some t → args[j]? = some v → Value.okWide P W .any base t v) →
      DataW.TrodAll enc P W 0 (fun _ => true) true fn.params.toList args.toList ds p → RdL W D args.toList)
    (hpc : ∀ a, PC P f (D.enc a) (.bool true))
    (W : World) (base : Nat) (args : Array Value) (ds gs : List (DataW H)) (before : List MemPlace) (hval : ∀ (j : Nat) t v, fn.params[j]? = some t → args[j]? = some v → Value.okWide P W .any base t v)
    (hW : DataW.Whole enc P fn.params.toList s.vars apart W args.toList ds gs before) :
    Calls P f args W fun e W' => ∃ v, e = .returned v ∧ s.post enc P fn apart fresh handsOn again W args v W' := by
  have hW' := hW
  obtain ⟨p, q, hA, hV, hbef, hfz, hnd⟩ := hW
  have hV' := hV
  rw [hvars] at hV'
  obtain ⟨rfl, rfl⟩ := trodVars_none hV'
  obtain ⟨a, ha⟩ := hread W base args ds p hval hA
  have h := callsIn_wide.1 (hpc a none 0 noA W args (fun b hb => hb.elim) (by simpa using ha))
  have hlen : ds.length = fn.params.toList.length := by
    have : ∀ (ts : List TypeId) (vs : List Value) (ds : List (DataW H)) (p : List MemPlace), DataW.TrodAll enc P W 0 (fun _ => true) true ts vs ds p → ds.length = ts.length := by
      intro ts
      induction ts with
      | nil => intro vs ds p h; obtain ⟨_, rfl, _⟩ := trodAll_nil h; rfl
      | cons t ts ih =>
        intro vs ds p h
        obtain ⟨_, _, _, _, _, _, _, rfl, _, _, h2⟩ := trodAll_cons h
        simp [ih _ _ _ h2]
    exact this _ _ _ _ hA
  refine h.mono fun e W' hx => ?_
  obtain ⟨v, he, hv, hb0⟩ := hx
  have hb := hb0.toBelow
  obtain rfl : v = .bool true := by cases hv; rfl
  have hpl : before = p := by rw [hbef]; simp
  subst hpl
  refine ⟨_, he, post_of_below (pa := before) (pv := []) hW' (fun b sp hd => ?_) (fun sp hsp => ?_) (fun sp _ => ?_) (by simp) hb (hok W')⟩
  · rw [hfn ds hlen]; exact hres W' b sp hd
  · rw [hfn ds hlen]
    refine trodAll_stays hl hb (fun t ht => ?_) hA (fun x hx => hA.lt x hx) hsp
    have := List.all_eq_true.1 hts t ht
    simpa using this
  · rw [hfn ds hlen, hvars]; rfl
end

end Go.Proofs.YtjbhooodjmjdkaaGreat.Ev
/-! EvV -/
namespace Go.Proofs.YtjbhooodjmjdkaaGreat.Ev
open Go.RowKit

/-- How a row of cells reads. -/
structure RowD (ρ : Type) where
  wd : Nat
  tags : List CK
  rd : (Nat → AV) → ρ
  wr : ρ → Nat → AV
  ok : ∀ f k, k < wd → conf (ckAt tags k) (wr (rd f) k) = conf (ckAt tags k) (f k)
  good : ∀ a, rd (wr a) = a

section
variable {ρ β : Type}

def encF (R : RowD ρ) (l : List ρ) (i : Nat) : Nat → AV := match l[i]? with
  | some a => R.wr a
  | none => fun _ => .top

def decF (R : RowD ρ) (n : Nat) (f : Nat → Nat → AV) : List ρ := (List.range n).map fun i => R.rd (f i)

theorem decF_length (R : RowD ρ) (n : Nat) (f : Nat → Nat → AV) : (decF R n f).length = n := by simp [decF]

theorem encF_at {R : RowD ρ} {l : List ρ} {i : Nat} {a : ρ} (h : l[i]? = some a) : encF R l i = R.wr a := by unfold encF; rw [h]

theorem encF_dec {R : RowD ρ} {n : Nat} {f : Nat → Nat → AV} {i k : Nat} (hi : i < n) (hk : k < R.wd) : conf (ckAt R.tags k) (encF R (decF R n f) i k) = conf (ckAt R.tags k) (f i k) := by
  have : (decF R n f)[i]? = some (R.rd (f i)) := by simp [decF, hi]
  rw [encF_at this]; exact R.ok _ _ hk

theorem decF_encF (R : RowD ρ) (l : List ρ) : decF R l.length (encF R l) = l := by
  apply List.ext_getElem?
  intro i
  by_cases hi : i < l.length
  · simp only [decF, List.getElem?_map, List.getElem?_range hi, Option.map_some]
    rw [encF_at (List.getElem?_eq_getElem hi), R.good, List.getElem?_eq_getElem hi]
  · rw [List.getElem?_eq_none (by simp [decF]; omega), List.getElem?_eq_none (by omega)]

theorem decF_ext {R : RowD ρ} {n : Nat} {f g : Nat → Nat → AV} (h : ∀ i, i < n → R.rd (f i) = R.rd (g i)) : decF R n f = decF R n g := by
  unfold decF
  exact List.map_congr_left (fun i hi => h i (List.mem_range.1 hi))

theorem decF_app (R : RowD ρ) (l : List ρ) (m : Nat) (g : Nat → Nat → AV) : decF R (l.length + m) (appG l.length (encF R l) g) = l ++ decF R m g := by
  unfold decF
  rw [List.range_add, List.map_append, List.map_map]
  congr 1
  · have := decF_encF R l
    unfold decF at this
    conv => rhs; rw [← this]
    refine List.map_congr_left (fun i hi => ?_)
    have hi := List.mem_range.1 hi
    congr 1; funext k
    unfold appG
    have : Nat.ble l.length i = false := by rw [← Bool.not_eq_true, Nat.ble_eq]; omega
    rw [this]
  · refine List.map_congr_left (fun i _ => ?_)
    simp only [Function.comp]
    congr 1; funext k
    unfold appG
    have : Nat.ble l.length (l.length + i) = true := by rw [Nat.ble_eq]; omega
    rw [this, Nat.add_sub_cancel_left]

theorem decF_enc0 (R : RowD ρ) (l : List ρ) : decF R l.length (fun i => encF R l (0 + i)) = l := by
  have : (fun i => encF R l (0 + i)) = encF R l := by funext i; rw [Nat.zero_add]
  rw [this, decF_encF]

theorem decF_push (R : RowD ρ) (l : List ρ) (g : Nat → Nat → AV) : decF R (l.length + 1) (appG l.length (encF R l) g) = l ++ [R.rd (g 0)] := decF_app R l 1 g

theorem decF_one (R : RowD ρ) (g : Nat → Nat → AV) : decF R 1 g = [R.rd (g 0)] := rfl

theorem decF_drop (R : RowD ρ) (l : List ρ) (r m : Nat) (h : r + m ≤ l.length) : decF R m (fun i k => encF R l (r + i) k) = (l.drop r).take m := by
  apply List.ext_getElem?
  intro i
  by_cases hi : i < m
  · simp only [decF, List.getElem?_map, List.getElem?_range hi, Option.map_some]
    rw [List.getElem?_take_of_lt hi, List.getElem?_drop, List.getElem?_eq_getElem (show r + i < l.length by omega)]
    have : (fun k => encF R l (r + i) k) = R.wr l[r + i] := encF_at (List.getElem?_eq_getElem (show r + i < l.length by omega))
    rw [this, R.good]
  · rw [List.getElem?_eq_none (by simp [decF]; omega), List.getElem?_eq_none (by simp; omega)]

/-- A list that grows, as a list. -/
def DecB.rows (t : TypeId) (R : RowD ρ) (E : DecB β) : DecB (List ρ × β) where
  enc p := .list t R.wd 0 p.1.length ⟨R.tags, encF R p.1⟩ :: E.enc p.2
  dec x := match x with
    | .list t' wd' v n g :: ys => match (Nat.beq t' t && Nat.beq wd' R.wd) && (Nat.beq v 0 && ckLEq g.tag R.tags) with
      | true => match E.dec ys with
        | some b => some (decF R n g.f, b)
        | none => none
      | false => none
    | _ => none
  len x a h := by
    split at h
    · split at h
      · split at h
        · rename_i b hb; injection h with h; subst h; simp [E.len _ _ hb]
        · simp at h
      · simp at h
    · simp at h
  ok x a h j k k' hk hk' := by
    split at h
    · rename_i t' wd' v n g ys
      split at h
      · rename_i he
        simp only [Bool.and_eq_true] at he
        have e1 := Nat.eq_of_beq_eq_true he.1.1; have e2 := Nat.eq_of_beq_eq_true he.1.2; have e3 := Nat.eq_of_beq_eq_true he.2.1; have e4 := ckLEq_eq he.2.2
        subst e1; subst e2; subst e3
        split at h
        · rename_i b1 h2
          injection h with h; subst h
          cases j with
          | zero =>
            simp at hk hk'; subst hk; subst hk'
            refine ⟨rfl, fun w A r i h => ?_⟩
            obtain ⟨e, c, xs, m1, m2, m3, m4, m5, m6, m7, m8⟩ := h
            simp only [MemR, decF_length]
            refine ⟨e, c, xs, m1, m2, m3, m4, m5, m6, m7, fun i k hi hk => ?_⟩
            obtain ⟨u, hu, hv⟩ := m8 i k hi hk
            refine ⟨u, hu, ?_⟩
            have : (⟨R.tags, encF R (decF R n g.f)⟩ : Get AV).cell i k = g.cell i k := by
              simp only [Get.cell]; rw [encF_dec hi hk, e4]
            rw [this]; exact hv
          | succ j => exact E.ok _ _ h2 j k k' (by simpa using hk) (by simpa using hk')
        · simp at h
      · simp at h
    · simp at h

/-- A slice of memory that came in, as a list. -/
def dRows (R : RowD ρ) : Dec (List ρ) where
  enc l := .xsl R.wd l.length ⟨R.tags, encF R l⟩ 0 l.length none
  dec x := match x with
    | .xsl wd' _ g row len _ => match Nat.beq wd' R.wd && ckLEq g.tag R.tags with
      | true => some (decF R len fun i => g.f (row + i))
      | false => none
    | .nilsl => some []
    | _ => none
  ok x a h w A r v hv := by
    split at h
    · rename_i wd' m g row len cap
      split at h
      · rename_i e
        simp only [Bool.and_eq_true] at e
        have e1 := Nat.eq_of_beq_eq_true e.1; have e2 := ckLEq_eq e.2; subst e1
        injection h with h; subst h
        rw [decF_length]
        cases hv with
        | xsl b o u hl hcap hn ha hc hv =>
          refine .xsl b (o + row * R.wd) (fun i k => u (row + i) k) hl (fun x hx => by cases hx) (by omega) (fun h0 => ?_) (fun h0 i k hi hk => ?_) (fun h0 i k hi hk => ?_)
          · obtain ⟨ea, hb, hA⟩ := ha h0
            exact ⟨by rw [ea]; simp, hb, hA⟩
          · have := hc h0 (row + i) k (by omega) hk
            rw [Nat.add_mul] at this
            rw [show o + row * R.wd + (i * R.wd + k) = o + (row * R.wd + i * R.wd + k) by omega]; exact this
          · have : (⟨R.tags, encF R (decF R len fun i => g.f (row + i))⟩ : Get AV).cell i k = g.cell (row + i) k := by
              simp only [Get.cell]; rw [encF_dec hi hk, e2]
            rw [this]; exact hv h0 (row + i) k (by omega) hk
      · simp at h
    · injection h with h; subst h
      cases hv with
      | nilsl => exact .xsl 0 0 (fun _ _ => .nilFunc) ⟨Nat.zero_le _, Nat.zero_le _⟩ (fun x h => by cases h) (Nat.le_refl _) (fun h => absurd h (Nat.lt_irrefl _)) (fun h => absurd h (Nat.lt_irrefl _)) (fun h => absurd h (Nat.lt_irrefl _))
    · simp at h

/-! ### Functions that hand back a list of their own -/

theorem FC.weaken {P : Program} {f : FuncId} {t : TypeId} {args args' : List AV} {wd n : Nat} {g g' : Get AV} (h : FC P f t args' wd n g) (ha : ∀ w A r us, VRs w A r args us → VRs w A r args' us) (hg : ∀ i k, i < n → k < wd → g'.cell i k = g.cell i k) : FC P f t args wd n g' := by
  intro ro m A w us hA hv
  refine (h ro m A w us hA (ha _ _ _ _ hv)).mono ?_
  rintro en w' ⟨e, c, rows, h1, h2, h3, h4, h5, h6, h7, h8⟩
  exact ⟨e, c, rows, h1, h2, h3, h4, h5, h6, (fun i k hi hk => by obtain ⟨u, hu, hr⟩ := h7 i k hi hk; exact ⟨u, hu, by rw [hg i k hi hk]; exact hr⟩), h8⟩

section
variable {α : Type} {P : Program} {B : Tab} {f : FuncId} {t : TypeId} {d : Nat} {D : DecL α} {R : RowD ρ}

/-- What such a function's body comes to. -/
def freshT1 (P : Program) (B : Tab) (d : Nat) (f : FuncId) (t : TypeId) (D : DecL α) (R : RowD ρ) (a : α) : Option (List ρ) := ((freshBody P (mkCfg B (lvl P B d) f) f t (D.enc a)).bind (decT (dRows R))).run

def freshE (t : TypeId) (D : DecL α) (R : RowD ρ) (M : α → T (List ρ)) : List AV → Option (T AV)
  | .oss t' _ _ _ _ :: xs => match Nat.beq t' t with
    | true => match D.dec xs with
      | some a => some ((M a).bind fun l => .ret ((dRows R).enc l))
      | none => none
    | false => none
  | _ => none

theorem fresh_of (hP : okProg P = true) (h : TabOk P B) {a : α} {l : List ρ} (hr : freshT1 P B d f t D R a = some l) : FC P f t (D.enc a) R.wd l.length ⟨R.tags, encF R l⟩ := by
  obtain ⟨v, h1, h2⟩ := T.run_bind hr
  obtain ⟨wd, n, g, rfl, hfc⟩ := freshBody_fc hP (lvl_ok hP h d f) h1
  unfold decT dRows at h2
  simp only at h2
  split at h2
  · rename_i l' hl
    simp only [T.run, Option.some.injEq] at h2; subst h2
    split at hl
    · rename_i e
      simp only [Bool.and_eq_true] at e
      have e1 := Nat.eq_of_beq_eq_true e.1; have e2 := ckLEq_eq e.2; subst e1
      injection hl with hl; subst hl
      rw [decF_length]
      refine hfc.weaken (fun _ _ _ _ h => h) (fun i k hi hk => ?_)
      simp only [Get.cell]
      rw [encF_dec hi hk, e2, Nat.zero_add]
    · cases hl
  · simp [T.run] at h2

theorem TabOk.addFresh (hP : okProg P = true) (h : TabOk P B) {M : α → T (List ρ)} (hM : ∀ a r, (M a).run = some r → freshT1 P B d f t D R a = some r) : TabOk P (B.addTurn f (freshE t D R M)) := by
  refine h.addTurn fun args u v ht hr => ?_
  unfold freshE at ht
  split at ht
  case h_2 => cases ht
  split at ht
  case h_2 => cases ht
  rename_i hb
  have e1 := Nat.eq_of_beq_eq_true hb; subst e1
  split at ht
  case h_2 => cases ht
  rename_i a ha
  injection ht with ht; subst ht
  obtain ⟨r, h1, h2⟩ := T.run_bind hr
  simp [T.run] at h2; subst h2
  exact (fresh_of hP h (hM a r h1)).weaken (D.ok _ _ ha) (fun _ _ _ _ => rfl)
end

/-- A list as a slice that came in. -/
def XS.of (R : RowD ρ) (l : List ρ) : XS := ⟨l.length, 0, l.length, none, encF R l⟩
/-- A slice that came in as a list. -/
def XS.list (R : RowD ρ) (x : XS) : List ρ := decF R x.len fun i => x.f (x.row + i)
theorem XS.list_of (R : RowD ρ) (l : List ρ) : (XS.of R l).list R = l := by
  unfold XS.list XS.of
  have : (fun i => encF R l (0 + i)) = encF R l := by funext i; rw [Nat.zero_add]
  rw [this, decF_encF]

end

/-- Rows of one number. -/
def rInt : RowD Int where
  wd := 1
  tags := [.int .i64]
  rd f := numOf (f 0)
  wr n := fun _ => .int .i64 n
  ok f k hk := by
    have : k = 0 := by omega
    subst this; rfl
  good _ := rfl
/-- Rows of one string. -/
def rStr : RowD (List UInt8) where
  wd := 1
  tags := [.str]
  rd f := textOf (f 0)
  wr n := fun _ => .str n
  ok f k hk := by
    have : k = 0 := by omega
    subst this; rfl
  good _ := rfl

end Go.Proofs.YtjbhooodjmjdkaaGreat.Ev
/-! K0 -/
namespace Go.Proofs.YtjbhooodjmjdkaaGreat
open Ev
noncomputable abbrev P : Program := Tryz.prog
theorem okP : okProg P = true := by kernel_rfl
def B0 : Tab := noTab 200
theorem t0 : TabOk P B0 := noTab_ok P 200
end Go.Proofs.YtjbhooodjmjdkaaGreat
/-! KD -/
namespace Go.Proofs.YtjbhooodjmjdkaaGreat
open Ev
namespace K
@[ext] structure Span where (lo hi : Int)
@[ext] structure Frac where (num den : Int)
@[ext] structure Range where (lo hi : Frac)
@[ext] structure Hydro where (id : Int) (off : Span)
@[ext] structure Glass where (id hydro dense : Int) (shown : Span)
structure Bulbs where (hydros glasses : XS)
@[ext] structure Survey where (id tick : Int) (m0 m1 m2 m3 m4 m5 : Span) (sag hydro : Int) (shown : Span)
@[ext] structure Knot where (x y : Int)
@[ext] structure Hold where (id room lever height : Int)
structure Curve where (knots : XS) (err : Int)
structure Ship where (id light lever height : Int) (holds : XS) (mean mc : Curve) (turn least : Int)
@[ext] structure Sums where (ends middle : Int)
@[ext] structure GlassE where (g : Glass) (errors : Span)
@[ext] structure Piece where (p q : Knot)
structure Load where (holds : XS) (all : Span)
end K
open K
def lSpan : DecL Span := (DecL.cons (dI .i64) (.last (dI .i64) 0)).iso (fun p => ⟨p.1, p.2⟩) (fun s => (s.lo, s.hi)) (fun _ => rfl)
def dSpan : Dec Span := dAgg lSpan
def dFrac : Dec Frac := (dAgg (.cons (dI .i64) (.last (dI .i64) 0))).iso (fun p => ⟨p.1, p.2⟩) (fun s => (s.num, s.den)) (fun _ => rfl)
def dRatio : Dec Frac := dFrac
def dSums : Dec Sums := (dAgg (.cons (dI .i64) (.last (dI .i64) 0))).iso (fun p => ⟨p.1, p.2⟩) (fun s => (s.ends, s.middle)) (fun _ => rfl)
def lKnot : DecL Knot := (DecL.cons (dI .i64) (.last (dI .i64) 0)).iso (fun p => ⟨p.1, p.2⟩) (fun s => (s.x, s.y)) (fun _ => rfl)
def dKnot : Dec Knot := dAgg lKnot
def lPiece : DecL Piece := (DecL.cons (dI .i64) (.cons (dI .i64) (.cons (dI .i64) (.last (dI .i64) 0)))).iso (fun p => ⟨⟨p.1, p.2.1⟩, ⟨p.2.2.1, p.2.2.2⟩⟩) (fun s => (s.p.x, s.p.y, s.q.x, s.q.y)) (fun _ => rfl)
def dPiece : Dec Piece := dAgg lPiece
def dRange : Dec Range := (dAgg (.cons (dI .i64) (.cons (dI .i64) (.cons (dI .i64) (.last (dI .i64) 0))))).iso (fun p => ⟨⟨p.1, p.2.1⟩, ⟨p.2.2.1, p.2.2.2⟩⟩) (fun s => (s.lo.num, s.lo.den, s.hi.num, s.hi.den)) (fun _ => rfl)
def lHydro : DecL Hydro := (DecL.cons (dI .i64) (.cons (dI .i64) (.last (dI .i64) 0))).iso (fun p => ⟨p.1, ⟨p.2.1, p.2.2⟩⟩) (fun s => (s.id, s.off.lo, s.off.hi)) (fun _ => rfl)
def dHydro : Dec Hydro := dAgg lHydro
def lHold : DecL Hold := (DecL.cons (dI .i64) (.cons (dI .i64) (.cons (dI .i64) (.last (dI .i64) 0)))).iso (fun p => ⟨p.1, p.2.1, p.2.2.1, p.2.2.2⟩) (fun s => (s.id, s.room, s.lever, s.height)) (fun _ => rfl)
def dHold : Dec Hold := dAgg lHold
def lGlass : DecL Glass := (DecL.cons (dI .i64) (.cons (dI .i64) (.cons (dI .i64) (.cons (dI .i64) (.last (dI .i64) 0))))).iso (fun p => ⟨p.1, p.2.1, p.2.2.1, ⟨p.2.2.2.1, p.2.2.2.2⟩⟩) (fun s => (s.id, s.hydro, s.dense, s.shown.lo, s.shown.hi)) (fun _ => rfl)
def dGlass : Dec Glass := dAgg lGlass
def lTold : DecL GlassE := (DecL.cons (dI .i64) (.cons (dI .i64) (.cons (dI .i64) (.cons (dI .i64) (.cons (dI .i64) (.cons (dI .i64) (.last (dI .i64) 0))))))).iso (fun p => ⟨⟨p.1, p.2.1, p.2.2.1, ⟨p.2.2.2.1, p.2.2.2.2.1⟩⟩, ⟨p.2.2.2.2.2.1, p.2.2.2.2.2.2⟩⟩) (fun s => (s.g.id, s.g.hydro, s.g.dense, s.g.shown.lo, s.g.shown.hi, s.errors.lo, s.errors.hi)) (fun _ => rfl)
def dTold : Dec GlassE := dAgg lTold
def xHydros : Dec XS := dX 3 [.int .i64, .int .i64, .int .i64]
def xGlasses : Dec XS := dX 5 [.int .i64, .int .i64, .int .i64, .int .i64, .int .i64]
def xKnots : Dec XS := dX 2 [.int .i64, .int .i64]
def xSurveys : Dec XS := dX 18 (List.replicate 18 (.int .i64))
def xHolds : Dec XS := dX 4 [.int .i64, .int .i64, .int .i64, .int .i64]
def lBulbs : DecL Bulbs := (DecL.cons xHydros (.last xGlasses 0)).iso (fun p => ⟨p.1, p.2⟩) (fun s => (s.hydros, s.glasses)) (fun _ => rfl)
def dBulbs : Dec Bulbs := dAgg lBulbs
def lCurve : DecL Curve := (DecL.cons xKnots (.last (dI .i64) 0)).iso (fun p => ⟨p.1, p.2⟩) (fun s => (s.knots, s.err)) (fun _ => rfl)
def dCurve : Dec Curve := dAgg lCurve
def lShip : DecL Ship := (DecL.cons (dI .i64) (.cons (dI .i64) (.cons (dI .i64) (.cons (dI .i64) (.cons xHolds (.cons xKnots (.cons (dI .i64) (.cons xKnots (.cons (dI .i64) (.cons (dI .i64) (.last (dI .i64) 0))))))))))).iso
  (fun p => ⟨p.1, p.2.1, p.2.2.1, p.2.2.2.1, p.2.2.2.2.1, ⟨p.2.2.2.2.2.1, p.2.2.2.2.2.2.1⟩, ⟨p.2.2.2.2.2.2.2.1, p.2.2.2.2.2.2.2.2.1⟩, p.2.2.2.2.2.2.2.2.2.1, p.2.2.2.2.2.2.2.2.2.2⟩)
  (fun s => (s.id, s.light, s.lever, s.height, s.holds, s.mean.knots, s.mean.err, s.mc.knots, s.mc.err, s.turn, s.least)) (fun _ => rfl)
def dShip : Dec Ship := dAgg lShip
def lSurvey : DecL Survey := (DecL.cons (dI .i64) (.cons (dI .i64) (.cons (dI .i64) (.cons (dI .i64) (.cons (dI .i64) (.cons (dI .i64) (.cons (dI .i64) (.cons (dI .i64) (.cons (dI .i64) (.cons (dI .i64) (.cons (dI .i64) (.cons (dI .i64) (.cons (dI .i64) (.cons (dI .i64) (.cons (dI .i64) (.cons (dI .i64) (.cons (dI .i64) (.last (dI .i64) 0)))))))))))))))))).iso
  (fun (a, b, c, d, e, f, g, h, i, j, k, l, m, n, o, p, q, r) => ⟨a, b, ⟨c, d⟩, ⟨e, f⟩, ⟨g, h⟩, ⟨i, j⟩, ⟨k, l⟩, ⟨m, n⟩, o, p, ⟨q, r⟩⟩)
  (fun s => (s.id, s.tick, s.m0.lo, s.m0.hi, s.m1.lo, s.m1.hi, s.m2.lo, s.m2.hi, s.m3.lo, s.m3.hi, s.m4.lo, s.m4.hi, s.m5.lo, s.m5.hi, s.sag, s.hydro, s.shown.lo, s.shown.hi)) (fun _ => rfl)
def dSurvey : Dec Survey := dAgg lSurvey
/-- What the functions that are ranged over hand out. -/
def eTold (g : GlassE) : List AV := [dTold.enc g]
def ePiece (p : Int × Piece) : List AV := [.int .i64 p.1, dPiece.enc p.2]
def V_gls : DecL (Bulbs × Int) := DecL.cons (dP 2 lBulbs 0) (.last (dP 1 (.last (dI .i64) 0) 0) 0)
def V_pcs : DecL Curve := DecL.last (dP 2 lCurve 0) 0
/-! Slices of a few slices -/
section
variable {α : Type}
theorem Ev.row_rel {wd m : Nat} {g : Get AV} {row : Nat} {w : World} {A : Nat → Prop} {u : Nat → Nat → Value} (hv : ∀ i k, i < m → k < wd → VR w A noR (g i k) (u i k)) (hr : row < m) : VRs w A noR (rngGet g row 0 wd) ((Array.range wd).map fun k => u row k) := by
  refine ⟨by simp [rngGet_length], fun i y z hy hz => ?_⟩
  have hi : i < wd := by have := (List.getElem?_eq_some_iff.1 hy).1; rwa [rngGet_length] at this
  rw [rngGet_get g row wd 0 i hi] at hy
  simp [hi] at hz
  injection hy with hy; subst hy; subst hz
  rw [Nat.zero_add]
  exact hv row i hr hi
theorem Ev.row_cell {E : DecL α} {a : α} {wd : Nat} {w : World} {A : Nat → Prop} {us : Array Value} (h : VRs w A noR (E.enc a) us) (hs : us.size = wd) {k : Nat} (hk : k < wd) : VR w A noR (((E.enc a)[k]?).getD .top) (us[k]?.getD .nilFunc) := by
  have hk' : k < (E.enc a).length := by rw [h.1, hs]; exact hk
  rw [List.getElem?_eq_getElem hk', Array.getElem?_eq_getElem (by omega)]
  exact h.2 k _ _ (List.getElem?_eq_getElem hk') (Array.getElem?_eq_getElem (by omega))
/-- A slice of one row; of two rows. -/
def Ev.dRow1 (wd : Nat) (E : DecL α) : Dec α where
  enc a := .xsl wd 1 ⟨[], fun _ k => ((E.enc a)[k]?).getD .top⟩ 0 1 none
  dec x := match x with
    | .xsl wd' _ g row len _ => match Nat.beq wd' wd && Nat.beq len 1 with
      | true => E.dec (rngGet g row 0 wd)
      | false => none
    | _ => none
  ok x a h w A r v hv := by
    split at h
    case h_2 => cases h
    rename_i wd' m g row len cap
    split at h
    case h_2 => cases h
    rename_i e
    simp only [Bool.and_eq_true] at e
    have e1 := Nat.eq_of_beq_eq_true e.1; have e2 := Nat.eq_of_beq_eq_true e.2; subst e1; subst e2
    cases hv with
    | xsl b o u hl hcap hn ha hc hv =>
      obtain ⟨ea, hb, hA⟩ := ha (by omega)
      have hcells := E.ok _ _ h _ _ _ _ (row_rel (hv (by omega)) (show _ < _ by omega))
      refine .xsl b (o + row * wd') (fun _ k => u row k) hl (fun x hx => by cases hx) (by omega) (fun _ => ⟨by rw [ea]; simp, hb, hA⟩) (fun _ i k hi hk => ?_) (fun _ i k hi hk => ?_)
      · have : i = 0 := by omega
        subst this
        rw [Nat.zero_mul, Nat.zero_add, Nat.add_assoc]; exact hc (by omega) row k (by omega) hk
      · have := row_cell hcells (by simp) hk
        simp [hk] at this; exact this
def Ev.dRow2 (wd : Nat) (E : DecL α) : Dec (α × α) where
  enc a := .xsl wd 2 ⟨[], fun i k => match i with
    | 0 => ((E.enc a.1)[k]?).getD .top
    | _ => ((E.enc a.2)[k]?).getD .top⟩ 0 2 none
  dec x := match x with
    | .xsl wd' _ g row len _ => match Nat.beq wd' wd && Nat.beq len 2 with
      | true => match E.dec (rngGet g row 0 wd) with
        | some a => match E.dec (rngGet g (row + 1) 0 wd) with
          | some b => some (a, b)
          | none => none
        | none => none
      | false => none
    | _ => none
  ok x a h w A r v hv := by
    split at h
    case h_2 => cases h
    rename_i wd' m g row len cap
    split at h
    case h_2 => cases h
    rename_i e
    split at h
    case h_2 => cases h
    rename_i a1 h1
    split at h
    case h_2 => cases h
    rename_i a2 h2
    injection h with h; subst h
    simp only [Bool.and_eq_true] at e
    have e1 := Nat.eq_of_beq_eq_true e.1; have e2 := Nat.eq_of_beq_eq_true e.2; subst e1; subst e2
    cases hv with
    | xsl b o u hl hcap hn ha hc hv =>
      obtain ⟨ea, hb, hA⟩ := ha (by omega)
      have hcells1 := E.ok _ _ h1 _ _ _ _ (row_rel (hv (by omega)) (show _ < _ by omega))
      have hcells2 := E.ok _ _ h2 _ _ _ _ (row_rel (hv (by omega)) (show _ < _ by omega))
      refine .xsl b (o + row * wd') (fun i k => u (row + i) k) hl (fun x hx => by cases hx) (by omega) (fun _ => ⟨by rw [ea]; simp, hb, hA⟩) (fun _ i k hi hk => ?_) (fun _ i k hi hk => ?_)
      · have := hc (by omega) (row + i) k (by omega) hk
        rw [Nat.add_mul] at this
        rw [show o + row * wd' + (i * wd' + k) = o + (row * wd' + i * wd' + k) by omega]; exact this
      · cases i with
        | zero => have := row_cell hcells1 (by simp) hk; simp [hk] at this; exact this
        | succ i =>
          have : i = 0 := by omega
          subst this
          have := row_cell hcells2 (by simp) hk; simp [hk] at this; exact this
/-- A number that is known. -/
def Ev.dIl (n : Int) : Dec Unit where
  enc _ := .int .i64 n
  dec x := match x with
    | .int .i64 m => match decide (m = n) with
      | true => some ()
      | false => none
    | _ => none
  ok x a h w A r v hv := by
    split at h
    · split at h
      · rename_i e; have := of_decide_eq_true e; subst this; exact hv
      · cases h
    · cases h
end
def rSpan : RowD (Span) where
  wd := 2
  tags := [.int .i64, .int .i64]
  rd f := ⟨numOf (f 0), numOf (f 1)⟩
  wr a := fun k => match k with
    | 0 => .int .i64 a.lo
    | _ => .int .i64 a.hi
  ok f k hk := match k, hk with
    | 0, _ => rfl
    | 1, _ => rfl
    | n + 2, h => absurd h (by omega)
  good _ := rfl
def rKnot : RowD (Knot) where
  wd := 2
  tags := [.int .i64, .int .i64]
  rd f := ⟨numOf (f 0), numOf (f 1)⟩
  wr a := fun k => match k with
    | 0 => .int .i64 a.x
    | _ => .int .i64 a.y
  ok f k hk := match k, hk with
    | 0, _ => rfl
    | 1, _ => rfl
    | n + 2, h => absurd h (by omega)
  good _ := rfl
def rHold : RowD (Hold) where
  wd := 4
  tags := [.int .i64, .int .i64, .int .i64, .int .i64]
  rd f := ⟨numOf (f 0), numOf (f 1), numOf (f 2), numOf (f 3)⟩
  wr a := fun k => match k with
    | 0 => .int .i64 a.id
    | 1 => .int .i64 a.room
    | 2 => .int .i64 a.lever
    | _ => .int .i64 a.height
  ok f k hk := match k, hk with
    | 0, _ => rfl
    | 1, _ => rfl
    | 2, _ => rfl
    | 3, _ => rfl
    | n + 4, h => absurd h (by omega)
  good _ := rfl
def rHydro : RowD (Hydro) where
  wd := 3
  tags := [.int .i64, .int .i64, .int .i64]
  rd f := ⟨numOf (f 0), ⟨numOf (f 1), numOf (f 2)⟩⟩
  wr a := fun k => match k with
    | 0 => .int .i64 a.id
    | 1 => .int .i64 a.off.lo
    | _ => .int .i64 a.off.hi
  ok f k hk := match k, hk with
    | 0, _ => rfl
    | 1, _ => rfl
    | 2, _ => rfl
    | n + 3, h => absurd h (by omega)
  good _ := rfl
def rGlass : RowD (Glass) where
  wd := 5
  tags := [.int .i64, .int .i64, .int .i64, .int .i64, .int .i64]
  rd f := ⟨numOf (f 0), numOf (f 1), numOf (f 2), ⟨numOf (f 3), numOf (f 4)⟩⟩
  wr a := fun k => match k with
    | 0 => .int .i64 a.id
    | 1 => .int .i64 a.hydro
    | 2 => .int .i64 a.dense
    | 3 => .int .i64 a.shown.lo
    | _ => .int .i64 a.shown.hi
  ok f k hk := match k, hk with
    | 0, _ => rfl
    | 1, _ => rfl
    | 2, _ => rfl
    | 3, _ => rfl
    | 4, _ => rfl
    | n + 5, h => absurd h (by omega)
  good _ := rfl
def rSurvey : RowD (Survey) where
  wd := 18
  tags := [.int .i64, .int .i64, .int .i64, .int .i64, .int .i64, .int .i64, .int .i64, .int .i64, .int .i64, .int .i64, .int .i64, .int .i64, .int .i64, .int .i64, .int .i64, .int .i64, .int .i64, .int .i64]
  rd f := ⟨numOf (f 0), numOf (f 1), ⟨numOf (f 2), numOf (f 3)⟩, ⟨numOf (f 4), numOf (f 5)⟩, ⟨numOf (f 6), numOf (f 7)⟩, ⟨numOf (f 8), numOf (f 9)⟩, ⟨numOf (f 10), numOf (f 11)⟩, ⟨numOf (f 12), numOf (f 13)⟩, numOf (f 14), numOf (f 15), ⟨numOf (f 16), numOf (f 17)⟩⟩
  wr a := fun k => match k with
    | 0 => .int .i64 a.id
    | 1 => .int .i64 a.tick
    | 2 => .int .i64 a.m0.lo
    | 3 => .int .i64 a.m0.hi
    | 4 => .int .i64 a.m1.lo
    | 5 => .int .i64 a.m1.hi
    | 6 => .int .i64 a.m2.lo
    | 7 => .int .i64 a.m2.hi
    | 8 => .int .i64 a.m3.lo
    | 9 => .int .i64 a.m3.hi
    | 10 => .int .i64 a.m4.lo
    | 11 => .int .i64 a.m4.hi
    | 12 => .int .i64 a.m5.lo
    | 13 => .int .i64 a.m5.hi
    | 14 => .int .i64 a.sag
    | 15 => .int .i64 a.hydro
    | 16 => .int .i64 a.shown.lo
    | _ => .int .i64 a.shown.hi
  ok f k hk := match k, hk with
    | 0, _ => rfl
    | 1, _ => rfl
    | 2, _ => rfl
    | 3, _ => rfl
    | 4, _ => rfl
    | 5, _ => rfl
    | 6, _ => rfl
    | 7, _ => rfl
    | 8, _ => rfl
    | 9, _ => rfl
    | 10, _ => rfl
    | 11, _ => rfl
    | 12, _ => rfl
    | 13, _ => rfl
    | 14, _ => rfl
    | 15, _ => rfl
    | 16, _ => rfl
    | 17, _ => rfl
    | n + 18, h => absurd h (by omega)
  good _ := rfl
def rPair : RowD (Int × Int) where
  wd := 2
  tags := [.int .i64, .int .i64]
  rd f := ⟨numOf (f 0), numOf (f 1)⟩
  wr a := fun k => match k with
    | 0 => .int .i64 a.1
    | _ => .int .i64 a.2
  ok f k hk := match k, hk with
    | 0, _ => rfl
    | 1, _ => rfl
    | n + 2, h => absurd h (by omega)
  good _ := rfl
end Go.Proofs.YtjbhooodjmjdkaaGreat
/-! KR -/
namespace Go.Proofs.YtjbhooodjmjdkaaGreat
open Ev K
set_option maxRecDepth 100000
section
variable {H : Type} {enc : TypeId × Value → H} {w : World}
theorem fl_hydro : flat P 8 127 = some (List.replicate 3 (.int .i64)) := by kernel_rfl
theorem fl_glass : flat P 8 79 = some (List.replicate 5 (.int .i64)) := by kernel_rfl
theorem fl_knot : flat P 8 151 = some (List.replicate 2 (.int .i64)) := by kernel_rfl
theorem fl_hold : flat P 8 95 = some (List.replicate 4 (.int .i64)) := by kernel_rfl
theorem fl_survey : flat P 8 85 = some (List.replicate 18 (.int .i64)) := by kernel_rfl
theorem fl_bulbs : flat P 8 31 = some [.sl 127, .sl 79] := by kernel_rfl
theorem fl_ship : flat P 8 27 = some [.int .i64, .int .i64, .int .i64, .int .i64, .sl 95, .sl 151, .int .i64, .sl 151, .int .i64, .int .i64, .int .i64] := by kernel_rfl
theorem fl_int : flat P 8 3 = some [.int .i64] := by kernel_rfl
theorem ag_bulbs : aggB P 31 = some true := by kernel_rfl
theorem ag_survey : aggB P 85 = some true := by kernel_rfl
theorem ag_ship : aggB P 27 = some true := by kernel_rfl
theorem ag_int : aggB P 3 = some false := by kernel_rfl
theorem rx_hydros {v : Value} (h : CellR enc P w (.sl 127) v) : RdV w xHydros v := rd_sl fl_hydro (by kernel_rfl) (by decide) (by decide) h
theorem rx_glasses {v : Value} (h : CellR enc P w (.sl 79) v) : RdV w xGlasses v := rd_sl fl_glass (by kernel_rfl) (by decide) (by decide) h
theorem rx_knots {v : Value} (h : CellR enc P w (.sl 151) v) : RdV w xKnots v := rd_sl fl_knot (by kernel_rfl) (by decide) (by decide) h
theorem rx_holds {v : Value} (h : CellR enc P w (.sl 95) v) : RdV w xHolds v := rd_sl fl_hold (by kernel_rfl) (by decide) (by decide) h
theorem rx_surveys {v : Value} (h : CellR enc P w (.sl 85) v) : RdV w xSurveys v := rd_sl fl_survey (by kernel_rfl) (by decide) (by decide) h
theorem rl_bulbs {cs : List Value} (h : Cells enc P w [.sl 127, .sl 79] cs) : RdL w lBulbs cs := by
  obtain ⟨v0, cs0, rfl, c0, h⟩ := cells_cons h
  obtain ⟨v1, cs1, rfl, c1, h⟩ := cells_cons h
  obtain rfl := cells_nil h
  exact rdL_iso (rdL_cons (rx_hydros c0) (rdL_last (rx_glasses c1)))
theorem rl_survey {cs : List Value} (h : Cells enc P w (List.replicate 18 (.int .i64)) cs) : RdL w lSurvey cs := by
  obtain ⟨v0, cs0, rfl, c0, h⟩ := cells_cons h
  obtain ⟨v1, cs1, rfl, c1, h⟩ := cells_cons h
  obtain ⟨v2, cs2, rfl, c2, h⟩ := cells_cons h
  obtain ⟨v3, cs3, rfl, c3, h⟩ := cells_cons h
  obtain ⟨v4, cs4, rfl, c4, h⟩ := cells_cons h
  obtain ⟨v5, cs5, rfl, c5, h⟩ := cells_cons h
  obtain ⟨v6, cs6, rfl, c6, h⟩ := cells_cons h
  obtain ⟨v7, cs7, rfl, c7, h⟩ := cells_cons h
  obtain ⟨v8, cs8, rfl, c8, h⟩ := cells_cons h
  obtain ⟨v9, cs9, rfl, c9, h⟩ := cells_cons h
  obtain ⟨v10, cs10, rfl, c10, h⟩ := cells_cons h
  obtain ⟨v11, cs11, rfl, c11, h⟩ := cells_cons h
  obtain ⟨v12, cs12, rfl, c12, h⟩ := cells_cons h
  obtain ⟨v13, cs13, rfl, c13, h⟩ := cells_cons h
  obtain ⟨v14, cs14, rfl, c14, h⟩ := cells_cons h
  obtain ⟨v15, cs15, rfl, c15, h⟩ := cells_cons h
  obtain ⟨v16, cs16, rfl, c16, h⟩ := cells_cons h
  obtain ⟨v17, cs17, rfl, c17, h⟩ := cells_cons h
  obtain rfl := cells_nil h
  exact rdL_iso (rdL_cons (rd_int c0) (rdL_cons (rd_int c1) (rdL_cons (rd_int c2) (rdL_cons (rd_int c3) (rdL_cons (rd_int c4) (rdL_cons (rd_int c5) (rdL_cons (rd_int c6) (rdL_cons (rd_int c7) (rdL_cons (rd_int c8) (rdL_cons (rd_int c9) (rdL_cons (rd_int c10) (rdL_cons (rd_int c11) (rdL_cons (rd_int c12) (rdL_cons (rd_int c13) (rdL_cons (rd_int c14) (rdL_cons (rd_int c15) (rdL_cons (rd_int c16) (rdL_last (rd_int c17)))))))))))))))))))
theorem rl_ship {cs : List Value} (h : Cells enc P w [.int .i64, .int .i64, .int .i64, .int .i64, .sl 95, .sl 151, .int .i64, .sl 151, .int .i64, .int .i64, .int .i64] cs) : RdL w lShip cs := by
  obtain ⟨v0, cs0, rfl, c0, h⟩ := cells_cons h
  obtain ⟨v1, cs1, rfl, c1, h⟩ := cells_cons h
  obtain ⟨v2, cs2, rfl, c2, h⟩ := cells_cons h
  obtain ⟨v3, cs3, rfl, c3, h⟩ := cells_cons h
  obtain ⟨v4, cs4, rfl, c4, h⟩ := cells_cons h
  obtain ⟨v5, cs5, rfl, c5, h⟩ := cells_cons h
  obtain ⟨v6, cs6, rfl, c6, h⟩ := cells_cons h
  obtain ⟨v7, cs7, rfl, c7, h⟩ := cells_cons h
  obtain ⟨v8, cs8, rfl, c8, h⟩ := cells_cons h
  obtain ⟨v9, cs9, rfl, c9, h⟩ := cells_cons h
  obtain ⟨v10, cs10, rfl, c10, h⟩ := cells_cons h
  obtain rfl := cells_nil h
  exact rdL_iso (rdL_cons (rd_int c0) (rdL_cons (rd_int c1) (rdL_cons (rd_int c2) (rdL_cons (rd_int c3) (rdL_cons (rx_holds c4) (rdL_cons (rx_knots c5) (rdL_cons (rd_int c6) (rdL_cons (rx_knots c7) (rdL_cons (rd_int c8) (rdL_cons (rd_int c9) (rdL_last (rd_int c10))))))))))))
variable {r : Reach} {b : Nat} {v : Value} {d : DataW H} {p : List MemPlace}
theorem rp_bulbs (hok : Value.okWide P w r b 31 v) (h : DataW.Trod enc P w 0 (fun _ => true) true 31 v d p) : RdV w dBulbs v := by
  obtain ⟨cs, rfl, hc⟩ := param_agg fl_bulbs ag_bulbs hok h
  exact rdV_agg (rl_bulbs hc)
theorem rp_survey (hok : Value.okWide P w r b 85 v) (h : DataW.Trod enc P w 0 (fun _ => true) true 85 v d p) : RdV w dSurvey v := by
  obtain ⟨cs, rfl, hc⟩ := param_agg fl_survey ag_survey hok h
  exact rdV_agg (rl_survey hc)
theorem rp_ship (hok : Value.okWide P w r b 27 v) (h : DataW.Trod enc P w 0 (fun _ => true) true 27 v d p) : RdV w dShip v := by
  obtain ⟨cs, rfl, hc⟩ := param_agg fl_ship ag_ship hok h
  exact rdV_agg (rl_ship hc)
theorem rp_int (hok : Value.okWide P w r b 3 v) (h : DataW.Trod enc P w 0 (fun _ => true) true 3 v d p) : RdV w (dI .i64) v := rd_int (param_cell fl_int ag_int hok h)
end
end Go.Proofs.YtjbhooodjmjdkaaGreat
/-! KS -/
namespace Go.Proofs.YtjbhooodjmjdkaaGreat
open Ev
namespace K

theorem w64_in {n : Int} (h1 : -9223372036854775808 ≤ n) (h2 : n ≤ 9223372036854775807) : IntKind.wrap IntKind.i64 n = n := by
  show IntKind.wrap IntKind.i64 n = n
  unfold IntKind.wrap
  simp [IntKind.bits, IntKind.signed]
  omega
def within (n lo hi : Int) : Bool := decide (lo ≤ n) && decide (n ≤ hi)
def spans (s : Span) (lo hi : Int) : Bool := decide (lo ≤ s.lo) && (decide (s.lo ≤ s.hi) && decide (s.hi ≤ hi))
def meet (a b : Span) : Span := ⟨if b.lo > a.lo then b.lo else a.lo, if b.hi < a.hi then b.hi else a.hi⟩
def void (s : Span) : Bool := decide (s.lo > s.hi)
def both (a b : Span) : Span := ⟨IntKind.i64.wrap (a.lo + b.lo), IntKind.i64.wrap (a.hi + b.hi)⟩
def half (n : Int) : Int := IntKind.i64.wrap (Int.tdiv (IntKind.i64.wrap (n - Int.tmod (IntKind.i64.wrap (Int.tmod n 2 + 2)) 2)) 2)
def sums16 (s : Sums) : Int := IntKind.i64.wrap (s.ends + IntKind.i64.wrap (6 * s.middle))
def toldOf (g : Glass) : GlassE := ⟨g, ⟨IntKind.i64.wrap (g.shown.lo - g.dense), IntKind.i64.wrap (g.shown.hi - g.dense)⟩⟩
def rise (p : Piece) : Int := IntKind.i64.wrap (p.q.y - p.p.y)
end K
/-- A number in a row. -/
def Ev.XS.g (x : XS) (i k : Nat) : Int := numOf (x.f (x.row + i) k)
namespace K
def len (x : XS) : Nat := clampL x.len
theorem len_le (x : XS) : len x ≤ 9223372036854775807 := clampL_le _
theorem len_le' (x : XS) : len x ≤ x.len := clampL_le' _
def hyd (x : XS) (i : Nat) : Hydro := ⟨x.g i 0, ⟨x.g i 1, x.g i 2⟩⟩
def gls (x : XS) (i : Nat) : Glass := ⟨x.g i 0, x.g i 1, x.g i 2, ⟨x.g i 3, x.g i 4⟩⟩
def knt (x : XS) (i : Nat) : Knot := ⟨x.g i 0, x.g i 1⟩
def svy (x : XS) (i : Nat) : Survey := ⟨x.g i 0, x.g i 1, ⟨x.g i 2, x.g i 3⟩, ⟨x.g i 4, x.g i 5⟩, ⟨x.g i 6, x.g i 7⟩, ⟨x.g i 8, x.g i 9⟩, ⟨x.g i 10, x.g i 11⟩, ⟨x.g i 12, x.g i 13⟩, x.g i 14, x.g i 15, ⟨x.g i 16, x.g i 17⟩⟩
def hld (x : XS) (i : Nat) : Hold := ⟨x.g i 0, x.g i 1, x.g i 2, x.g i 3⟩
/-- The glasses of a hydrometer. -/
def glassesL (b : Bulbs) (h : Int) : List GlassE := ((List.range (len b.glasses)).filter fun i => (gls b.glasses i).hydro == h).map fun i => toldOf (gls b.glasses i)
/-- The errors that a hydrometer can have, but for a glass. -/
def errs (b : Bulbs) (h : Hydro) (but : Int) : Span := (glassesL b h.id).foldl (fun c g => if g.g.id != but then meet c g.errors else c) h.off
/-- The pieces of a curve. -/
def piecesL (c : Curve) : List (Int × Piece) := (List.range (len c.knots - 1)).map fun (i : Nat) => ((i : Int), ⟨knt c.knots i, knt c.knots (i + 1)⟩)
/-- The first number below n with a property. -/
def first (p : Nat → Bool) (n : Nat) : Option Nat := (List.range n).find? p
def idx (p : Nat → Bool) (n : Nat) : Int := match first p n with
  | some i => i
  | none => -1
def found {α : Type} (at_ : Nat → α) (zero : α) (p : Nat → Bool) (n : Nat) : α × Int := match first p n with
  | some i => (at_ i, i)
  | none => (zero, -1)
theorem first_none {p : Nat → Bool} {n : Nat} (h : ∀ i, i < n → p i = false) : first p n = none := by
  unfold first; rw [List.find?_eq_none]; intro x hx; have := h x (List.mem_range.1 hx); simp [this]
theorem first_some {p : Nat → Bool} {n i : Nat} (hi : i < n) (hp : p i = true) (h : ∀ j, j < i → p j = false) : first p n = some i := by
  unfold first
  rw [List.find?_range_eq_some]
  exact ⟨hp, List.mem_range.2 hi, fun j hj => by simp [h j hj]⟩
theorem first_spec {p : Nat → Bool} {n i : Nat} (h : first p n = some i) : i < n ∧ p i = true ∧ ∀ j, j < i → p j = false := by
  unfold first at h
  rw [List.find?_range_eq_some] at h
  exact ⟨List.mem_range.1 h.2.1, h.1, fun j hj => by simpa using h.2.2 j hj⟩
theorem first_none' {p : Nat → Bool} {n : Nat} (h : first p n = none) : ∀ i, i < n → p i = false := by
  unfold first at h; rw [List.find?_eq_none] at h; intro i hi; simpa using h i (List.mem_range.2 hi)
end K
theorem obs_ret {ρ : Type} {o : Option ρ} {r : ρ} (h : (T.obs o T.ret).run = some r) : o = some r := by
  cases o with
  | none => simp [T.run] at h
  | some x => simpa [T.run] using h
theorem br_step {ρ : Type} {b : Bool} {t e : T ρ} {x y : ρ} (h1 : b = true → t.run = some x) (h2 : ¬ b = true → e.run = some y) : (T.br b t e).run = some (if b = true then x else y) := by
  cases b with
  | true => exact h1 rfl
  | false => exact h2 (by simp)
theorem chk_step {ρ : Type} {g : Bool} {t : T ρ} {r : Option ρ} (h1 : g = true) (h2 : t.run = r) : (T.chk g t).run = r := by subst h1; exact h2
theorem chk_ret {ρ : Type} {g : Bool} {x r : ρ} (h : (T.chk g (.ret x)).run = some r) : g = true ∧ x = r := by
  cases g with
  | true => exact ⟨rfl, by simpa [T.run] using h⟩
  | false => simp [T.run] at h
theorem ret_some {ρ : Type} {x r : ρ} (h : (T.ret x).run = some r) : x = r := by simpa [T.run] using h
/-- What comes of something that may not be there. -/
def K.orr {ε α : Type} (f : ε → α) (z : α) : Option ε → α
  | some x => f x
  | none => z
section
variable {σ ρ : Type} {step : σ → Option (σ ⊕ ρ)}
theorem lim_until (S : Nat → σ) : ∀ (n k : Nat), (∀ i, k ≤ i → i < k + n → step (S i) = some (.inl (S (i + 1)))) → lim step (S k) = lim step (S (k + n))
  | 0, _, _ => rfl
  | n + 1, k, h => by
    rw [lim_step (h k (Nat.le_refl _) (by omega)), lim_until S n (k + 1) (fun i h1 h2 => h i (by omega) (by omega))]
    congr 2; omega
/-- A search. -/
theorem lim_find (S : Nat → σ) (n : Nat) (p : Nat → Bool) (hit : Nat → ρ) (miss : ρ) (h1 : ∀ i, i < n → p i = true → step (S i) = some (.inr (hit i)))
    (h2 : ∀ i, i < n → p i = false → step (S i) = some (.inl (S (i + 1)))) (h3 : step (S n) = some (.inr miss)) : lim step (S 0) = some (match K.first p n with | some i => hit i | none => miss) := by
  cases hf : K.first p n with
  | none =>
    have := K.first_none' hf
    have e := lim_until S n 0 (fun i _ hi => h2 i (by omega) (this i (by omega)))
    rw [e, Nat.zero_add]; exact lim_done h3
  | some i =>
    obtain ⟨g1, g2, g3⟩ := K.first_spec hf
    have e := lim_until S i 0 (fun j _ hj => h2 j (by omega) (g3 j (by omega)))
    rw [e, Nat.zero_add]; exact lim_done (h1 i g1 g2)
section
variable (S : Nat → List (List AV × Bool) → σ) {n : Nat} (p : Nat → Bool) (e : Nat → List AV) {bs : Nat → Bool} (stop fin : List (List AV × Bool) → ρ)
  (h1 : ∀ i, i < n → ∀ out, p i = false → step (S i out) = some (.inl (S (i + 1) out)))
  (h2 : ∀ i, i < n → ∀ out, p i = true → bs out.length = true → step (S i out) = some (.inl (S (i + 1) ((e i, true) :: out))))
  (h3 : ∀ i, i < n → ∀ out, p i = true → bs out.length = false → step (S i out) = some (.inr (stop ((e i, false) :: out))))
  (h4 : ∀ out, step (S n out) = some (.inr (fin out)))
include h1 h2 h4
theorem lim_yields_all (hb : ∀ k, bs k = true) : ∀ k i out, i + k = n → lim step (S i out) = some (fin ((((List.range' i k).filter p).map fun i => (e i, true)).reverse ++ out))
  | 0, i, out, h => by
    have : i = n := by omega
    subst this; simp; exact lim_done (h4 out)
  | k + 1, i, out, h => by
    rw [List.range'_succ]
    cases hp : p i with
    | false => rw [lim_step (h1 i (by omega) out hp), lim_yields_all hb k (i + 1) out (by omega)]; simp [hp]
    | true => rw [lim_step (h2 i (by omega) out hp (hb _)), lim_yields_all hb k (i + 1) _ (by omega)]; simp [hp]
include h3
omit h4 in
theorem lim_yields_stop {m : Nat} {x : List AV} (hb : ∀ k, bs k = !(Nat.beq k m)) : ∀ k i out, i + k = n → out.length ≤ m → (((List.range' i k).filter p).map e)[m - out.length]? = some x →
    lim step (S i out) = some (stop ((x, false) :: (((((List.range' i k).filter p).map e).take (m - out.length)).map fun x => (x, true)).reverse ++ out))
  | 0, i, out, h, _, hx => by simp at hx
  | k + 1, i, out, h, hm, hx => by
    rw [List.range'_succ] at hx ⊢
    cases hp : p i with
    | false =>
      rw [lim_step (h1 i (by omega) out hp)]
      simp only [List.filter_cons, hp] at hx ⊢
      exact lim_yields_stop hb k (i + 1) out (by omega) hm (by simpa using hx)
    | true =>
      simp only [List.filter_cons, hp, if_true, List.map_cons] at hx ⊢
      by_cases hml : out.length = m
      · have hbf : bs out.length = false := by rw [hb, hml]; simp
        rw [lim_done (h3 i (by omega) out hp hbf)]
        rw [show m - out.length = 0 by omega] at hx ⊢
        simp at hx; subst hx; simp
      · have hbt : bs out.length = true := by rw [hb]; cases h : Nat.beq out.length m with
          | false => rfl
          | true => exact absurd (Nat.eq_of_beq_eq_true h) hml
        rw [lim_step (h2 i (by omega) out hp hbt)]
        have e1 : m - out.length = (m - (((e i, true) :: out).length)) + 1 := by simp; omega
        rw [e1] at hx ⊢
        rw [lim_yields_stop hb k (i + 1) _ (by omega) (by simp; omega) (by simpa using hx)]
        simp
end
theorem foldS_total {β : Type} {step : σ → β → Option (σ ⊕ ρ)} {f : σ → β → σ} (h : ∀ s x, step s x = some (.inl (f s x))) : ∀ (L : List β) (s : σ), foldS step L s = some (.inl (L.foldl f s))
  | [], s => rfl
  | x :: L, s => by simp only [foldS, h, List.foldl_cons]; exact foldS_total h L _
/-- A loop that looks for the first error. -/
theorem lim_err {ε : Type} (S : Nat → σ) (n : Nat) (e : Nat → Option ε) (hit : ε → ρ) (miss : ρ) (h : ∀ i, i < n → step (S i) = some (K.orr (fun x => .inr (hit x)) (.inl (S (i + 1))) (e i)))
    (h3 : step (S n) = some (.inr miss)) : lim step (S 0) = some (K.orr hit miss ((List.range n).findSome? e)) := by
  have key : ∀ k i, i + k = n → lim step (S i) = some (K.orr hit miss ((List.range' i k).findSome? e)) := by
    intro k
    induction k with
    | zero => intro i hi; have : i = n := by omega
              subst this; exact lim_done h3
    | succ k ih =>
      intro i hi
      have := h i (by omega)
      rw [List.range'_succ, List.findSome?_cons]
      cases he : e i with
      | some x => rw [he] at this; exact lim_done this
      | none => rw [he] at this; rw [lim_step this]; exact ih (i + 1) (by omega)
  rw [List.range_eq_range']; exact key n 0 (by omega)
/-- A loop that adds something up. -/
theorem lim_fold {α : Type} (S : Nat → α → σ) (n : Nat) (f : α → Nat → α) (fin : α → ρ) (h : ∀ i, i < n → ∀ a, step (S i a) = some (.inl (S (i + 1) (f a i)))) (h2 : ∀ a, step (S n a) = some (.inr (fin a))) (a : α) :
    lim step (S 0 a) = some (fin ((List.range n).foldl f a)) := by
  have key : ∀ k i a, i + k = n → lim step (S i a) = some (fin ((List.range' i k).foldl f a)) := by
    intro k
    induction k with
    | zero => intro i a hi; have : i = n := by omega
              subst this; exact lim_done (h2 a)
    | succ k ih => intro i a hi; rw [lim_step (h i (by omega) a), List.range'_succ, List.foldl_cons]; exact ih (i + 1) _ (by omega)
  rw [List.range_eq_range']; exact key n 0 a (by omega)
/-- A loop over 0 .. n-1 without a way out. -/
theorem lim_all (S : Nat → σ) (n : Nat) {r : ρ} (h : ∀ i, i < n → step (S i) = some (.inl (S (i + 1)))) (h2 : step (S n) = some (.inr r)) : lim step (S 0) = some r := by
  have e := lim_until S n 0 (fun i _ hi => h i (by omega))
  rw [e, Nat.zero_add]; exact lim_done h2
end
end Go.Proofs.YtjbhooodjmjdkaaGreat
/-! KA -/
namespace Go.Proofs.YtjbhooodjmjdkaaGreat
open Ev K
def D_within := DecL.cons (dI .i64) (.cons (dI .i64) (.last (dI .i64) 0))
theorem tr_within : ∀ a, (callT1 P B0 30 83 D_within dB) a = T.run (
  .br (decide (Prod.fst (Prod.snd a) ≤ Prod.fst a)) (
    .ret (decide (Prod.fst a ≤ Prod.snd (Prod.snd a)))) (
    .ret (false))) := fun a => by kernel_rfl
noncomputable def BKA1 : Tab := B0.addCall 83 (callE D_within dB (fun a => .ret (within a.1 a.2.1 a.2.2)))
theorem tKA1 : TabOk P BKA1 := TabOk.addFn (d := 30) okP t0 (fun a r h => by rw [tr_within]; simp only [T.run, Option.some.injEq] at h ⊢; subst h; unfold within; cases decide (a.2.1 ≤ a.1) <;> rfl)
theorem tr_hwithin : ∀ a, (callT1 P BKA1 30 107 D_within dB) a = T.run (
  .br (decide (Prod.fst (Prod.snd a) ≤ Prod.fst a)) (
    .ret (decide (Prod.fst a ≤ Prod.snd (Prod.snd a)))) (
    .ret (false))) := fun a => by kernel_rfl
noncomputable def BKA2 : Tab := BKA1.addCall 107 (callE D_within dB (fun a => .ret (within a.1 a.2.1 a.2.2)))
theorem tKA2 : TabOk P BKA2 := TabOk.addFn (d := 30) okP tKA1 (fun a r h => by rw [tr_hwithin]; simp only [T.run, Option.some.injEq] at h ⊢; subst h; unfold within; cases decide (a.2.1 ≤ a.1) <;> rfl)
theorem tr_cwithin : ∀ a, (callT1 P BKA2 30 190 D_within dB) a = T.run (
  .br (decide (Prod.fst (Prod.snd a) ≤ Prod.fst a)) (
    .ret (decide (Prod.fst a ≤ Prod.snd (Prod.snd a)))) (
    .ret (false))) := fun a => by kernel_rfl
noncomputable def BKA3 : Tab := BKA2.addCall 190 (callE D_within dB (fun a => .ret (within a.1 a.2.1 a.2.2)))
theorem tKA3 : TabOk P BKA3 := TabOk.addFn (d := 30) okP tKA2 (fun a r h => by rw [tr_cwithin]; simp only [T.run, Option.some.injEq] at h ⊢; subst h; unfold within; cases decide (a.2.1 ≤ a.1) <;> rfl)
def D_spans := DecL.cons (dSpan) (.cons (dI .i64) (.last (dI .i64) 0))
theorem tr_spans : ∀ a, (callT1 P BKA3 30 84 D_spans dB) a = T.run (
  .br (decide (Prod.fst (Prod.snd a) ≤ Span.lo (Prod.fst a))) (
    .br (decide (Span.lo (Prod.fst a) ≤ Span.hi (Prod.fst a))) (
      .ret (decide (Span.hi (Prod.fst a) ≤ Prod.snd (Prod.snd a)))) (
      .ret (false))) (
    .ret (false))) := fun a => by kernel_rfl
noncomputable def BKA4 : Tab := BKA3.addCall 84 (callE D_spans dB (fun a => .ret (spans a.1 a.2.1 a.2.2)))
theorem tKA4 : TabOk P BKA4 := TabOk.addFn (d := 30) okP tKA3 (fun a r h => by rw [tr_spans]; simp only [T.run, Option.some.injEq] at h ⊢; subst h; unfold spans; cases decide (a.2.1 ≤ a.1.lo) <;> cases decide (a.1.lo ≤ a.1.hi) <;> rfl)
def D_meet := DecL.cons (dSpan) (.last (dSpan) 0)
theorem tr_meet : ∀ a, (callT1 P BKA4 30 74 D_meet dSpan) a = T.run (
  .ret (Span.mk (if Span.lo (Prod.snd a) > Span.lo (Prod.fst a) then Span.lo (Prod.snd a) else Span.lo (Prod.fst a)) (if Span.hi (Prod.snd a) < Span.hi (Prod.fst a) then Span.hi (Prod.snd a) else Span.hi (Prod.fst a)))) := fun a => by kernel_rfl
noncomputable def BKA5 : Tab := BKA4.addCall 74 (callE D_meet dSpan (fun a => .ret (meet a.1 a.2)))
theorem tKA5 : TabOk P BKA5 := TabOk.addFn (d := 30) okP tKA4 (fun a r h => by rw [tr_meet]; exact h)
def D_void := DecL.last (dSpan) 0
theorem tr_void : ∀ a, (callT1 P BKA5 30 49 D_void dB) a = T.run (
  .ret (decide (Span.lo a > Span.hi a))) := fun a => by kernel_rfl
noncomputable def BKA6 : Tab := BKA5.addCall 49 (callE D_void dB (fun a => .ret (void a)))
theorem tKA6 : TabOk P BKA6 := TabOk.addFn (d := 30) okP tKA5 (fun a r h => by rw [tr_void]; exact h)
theorem tr_both : ∀ a, (callT1 P BKA6 30 139 D_meet dSpan) a = T.run (
  .ret (Span.mk (IntKind.wrap IntKind.i64 (Span.lo (Prod.fst a) + Span.lo (Prod.snd a))) (IntKind.wrap IntKind.i64 (Span.hi (Prod.fst a) + Span.hi (Prod.snd a))))) := fun a => by kernel_rfl
noncomputable def BKA7 : Tab := BKA6.addCall 139 (callE D_meet dSpan (fun a => .ret (both a.1 a.2)))
theorem tKA7 : TabOk P BKA7 := TabOk.addFn (d := 30) okP tKA6 (fun a r h => by rw [tr_both]; exact h)
def D_half := DecL.last (dI .i64) 0
theorem tr_half : ∀ a, (callT1 P BKA7 30 140 D_half (dI .i64)) a = T.run (
  .ret (IntKind.wrap IntKind.i64 (Int.tdiv (IntKind.wrap IntKind.i64 (a - Int.tmod (IntKind.wrap IntKind.i64 (Int.tmod a (2 : Int) + (2 : Int))) (2 : Int))) (2 : Int)))) := fun a => by kernel_rfl
noncomputable def BKA8 : Tab := BKA7.addCall 140 (callE D_half (dI .i64) (fun a => .ret (half a)))
theorem tKA8 : TabOk P BKA8 := TabOk.addFn (d := 30) okP tKA7 (fun a r h => by rw [tr_half]; exact h)
def D_sums16 := DecL.last (dSums) 0
theorem tr_sums16 : ∀ a, (callT1 P BKA8 30 95 D_sums16 (dI .i64)) a = T.run (
  .ret (IntKind.wrap IntKind.i64 (Sums.ends a + IntKind.wrap IntKind.i64 ((6 : Int) * Sums.middle a)))) := fun a => by kernel_rfl
noncomputable def BKA9 : Tab := BKA8.addCall 95 (callE D_sums16 (dI .i64) (fun a => .ret (sums16 a)))
theorem tKA9 : TabOk P BKA9 := TabOk.addFn (d := 30) okP tKA8 (fun a r h => by rw [tr_sums16]; exact h)
def D_rise := DecL.last (dPiece) 0
theorem tr_rise : ∀ a, (callT1 P BKA9 30 216 D_rise (dI .i64)) a = T.run (
  .ret (IntKind.wrap IntKind.i64 (Knot.y (Piece.q a) - Knot.y (Piece.p a)))) := fun a => by kernel_rfl
noncomputable def BKA10 : Tab := BKA9.addCall 216 (callE D_rise (dI .i64) (fun a => .ret (rise a)))
theorem tKA10 : TabOk P BKA10 := TabOk.addFn (d := 30) okP tKA9 (fun a r h => by rw [tr_rise]; exact h)
def D_extremes := DecL.last (dSurvey) 0
def R_extremes := dTup (.cons (dAgg (.cons (dI .i64) (.cons (dI .i64) (.cons (dI .i64) (.last (dI .i64) 0))))) (.last (dB) 0))
theorem tr_extremes : ∀ a, (callT1 P BKA10 30 94 D_extremes R_extremes) a = T.run (
  .br (void (Span.mk (Span.lo (meet (Span.mk (Span.lo (both (Span.mk (Span.lo (Survey.m2 a)) (Span.hi (Survey.m2 a))) (Span.mk (Span.lo (Survey.m3 a)) (Span.hi (Survey.m3 a))))) (Span.hi (both (Span.mk (Span.lo (Survey.m2 a)) (Span.hi (Survey.m2 a))) (Span.mk (Span.lo (Survey.m3 a)) (Span.hi (Survey.m3 a)))))) (Span.mk (IntKind.wrap IntKind.i64 ((0 : Int) - half (IntKind.wrap IntKind.i64 (IntKind.wrap IntKind.i64 ((4 : Int) * Survey.sag a) - Span.lo (both (Span.mk (Span.lo (both (Span.mk (Span.lo (Survey.m0 a)) (Span.hi (Survey.m0 a))) (Span.mk (Span.lo (Survey.m1 a)) (Span.hi (Survey.m1 a))))) (Span.hi (both (Span.mk (Span.lo (Survey.m0 a)) (Span.hi (Survey.m0 a))) (Span.mk (Span.lo (Survey.m1 a)) (Span.hi (Survey.m1 a)))))) (Span.mk (Span.lo (both (Span.mk (Span.lo (Survey.m4 a)) (Span.hi (Survey.m4 a))) (Span.mk (Span.lo (Survey.m5 a)) (Span.hi (Survey.m5 a))))) (Span.hi (both (Span.mk (Span.lo (Survey.m4 a)) (Span.hi (Survey.m4 a))) (Span.mk (Span.lo (Survey.m5 a)) (Span.hi (Survey.m5 a))))))))))) (half (IntKind.wrap IntKind.i64 (Span.hi (both (Span.mk (Span.lo (both (Span.mk (Span.lo (Survey.m0 a)) (Span.hi (Survey.m0 a))) (Span.mk (Span.lo (Survey.m1 a)) (Span.hi (Survey.m1 a))))) (Span.hi (both (Span.mk (Span.lo (Survey.m0 a)) (Span.hi (Survey.m0 a))) (Span.mk (Span.lo (Survey.m1 a)) (Span.hi (Survey.m1 a)))))) (Span.mk (Span.lo (both (Span.mk (Span.lo (Survey.m4 a)) (Span.hi (Survey.m4 a))) (Span.mk (Span.lo (Survey.m5 a)) (Span.hi (Survey.m5 a))))) (Span.hi (both (Span.mk (Span.lo (Survey.m4 a)) (Span.hi (Survey.m4 a))) (Span.mk (Span.lo (Survey.m5 a)) (Span.hi (Survey.m5 a))))))) + IntKind.wrap IntKind.i64 ((4 : Int) * Survey.sag a))))))) (Span.hi (meet (Span.mk (Span.lo (both (Span.mk (Span.lo (Survey.m2 a)) (Span.hi (Survey.m2 a))) (Span.mk (Span.lo (Survey.m3 a)) (Span.hi (Survey.m3 a))))) (Span.hi (both (Span.mk (Span.lo (Survey.m2 a)) (Span.hi (Survey.m2 a))) (Span.mk (Span.lo (Survey.m3 a)) (Span.hi (Survey.m3 a)))))) (Span.mk (IntKind.wrap IntKind.i64 ((0 : Int) - half (IntKind.wrap IntKind.i64 (IntKind.wrap IntKind.i64 ((4 : Int) * Survey.sag a) - Span.lo (both (Span.mk (Span.lo (both (Span.mk (Span.lo (Survey.m0 a)) (Span.hi (Survey.m0 a))) (Span.mk (Span.lo (Survey.m1 a)) (Span.hi (Survey.m1 a))))) (Span.hi (both (Span.mk (Span.lo (Survey.m0 a)) (Span.hi (Survey.m0 a))) (Span.mk (Span.lo (Survey.m1 a)) (Span.hi (Survey.m1 a)))))) (Span.mk (Span.lo (both (Span.mk (Span.lo (Survey.m4 a)) (Span.hi (Survey.m4 a))) (Span.mk (Span.lo (Survey.m5 a)) (Span.hi (Survey.m5 a))))) (Span.hi (both (Span.mk (Span.lo (Survey.m4 a)) (Span.hi (Survey.m4 a))) (Span.mk (Span.lo (Survey.m5 a)) (Span.hi (Survey.m5 a))))))))))) (half (IntKind.wrap IntKind.i64 (Span.hi (both (Span.mk (Span.lo (both (Span.mk (Span.lo (Survey.m0 a)) (Span.hi (Survey.m0 a))) (Span.mk (Span.lo (Survey.m1 a)) (Span.hi (Survey.m1 a))))) (Span.hi (both (Span.mk (Span.lo (Survey.m0 a)) (Span.hi (Survey.m0 a))) (Span.mk (Span.lo (Survey.m1 a)) (Span.hi (Survey.m1 a)))))) (Span.mk (Span.lo (both (Span.mk (Span.lo (Survey.m4 a)) (Span.hi (Survey.m4 a))) (Span.mk (Span.lo (Survey.m5 a)) (Span.hi (Survey.m5 a))))) (Span.hi (both (Span.mk (Span.lo (Survey.m4 a)) (Span.hi (Survey.m4 a))) (Span.mk (Span.lo (Survey.m5 a)) (Span.hi (Survey.m5 a))))))) + IntKind.wrap IntKind.i64 ((4 : Int) * Survey.sag a))))))))) (
    .ret ((((0 : Int), (0 : Int), (0 : Int), (0 : Int)), false))) (
    .ret (((if IntKind.wrap IntKind.i64 (IntKind.wrap IntKind.i64 ((2 : Int) * Span.lo (meet (Span.mk (Span.lo (both (Span.mk (Span.lo (Survey.m2 a)) (Span.hi (Survey.m2 a))) (Span.mk (Span.lo (Survey.m3 a)) (Span.hi (Survey.m3 a))))) (Span.hi (both (Span.mk (Span.lo (Survey.m2 a)) (Span.hi (Survey.m2 a))) (Span.mk (Span.lo (Survey.m3 a)) (Span.hi (Survey.m3 a)))))) (Span.mk (IntKind.wrap IntKind.i64 ((0 : Int) - half (IntKind.wrap IntKind.i64 (IntKind.wrap IntKind.i64 ((4 : Int) * Survey.sag a) - Span.lo (both (Span.mk (Span.lo (both (Span.mk (Span.lo (Survey.m0 a)) (Span.hi (Survey.m0 a))) (Span.mk (Span.lo (Survey.m1 a)) (Span.hi (Survey.m1 a))))) (Span.hi (both (Span.mk (Span.lo (Survey.m0 a)) (Span.hi (Survey.m0 a))) (Span.mk (Span.lo (Survey.m1 a)) (Span.hi (Survey.m1 a)))))) (Span.mk (Span.lo (both (Span.mk (Span.lo (Survey.m4 a)) (Span.hi (Survey.m4 a))) (Span.mk (Span.lo (Survey.m5 a)) (Span.hi (Survey.m5 a))))) (Span.hi (both (Span.mk (Span.lo (Survey.m4 a)) (Span.hi (Survey.m4 a))) (Span.mk (Span.lo (Survey.m5 a)) (Span.hi (Survey.m5 a))))))))))) (half (IntKind.wrap IntKind.i64 (Span.hi (both (Span.mk (Span.lo (both (Span.mk (Span.lo (Survey.m0 a)) (Span.hi (Survey.m0 a))) (Span.mk (Span.lo (Survey.m1 a)) (Span.hi (Survey.m1 a))))) (Span.hi (both (Span.mk (Span.lo (Survey.m0 a)) (Span.hi (Survey.m0 a))) (Span.mk (Span.lo (Survey.m1 a)) (Span.hi (Survey.m1 a)))))) (Span.mk (Span.lo (both (Span.mk (Span.lo (Survey.m4 a)) (Span.hi (Survey.m4 a))) (Span.mk (Span.lo (Survey.m5 a)) (Span.hi (Survey.m5 a))))) (Span.hi (both (Span.mk (Span.lo (Survey.m4 a)) (Span.hi (Survey.m4 a))) (Span.mk (Span.lo (Survey.m5 a)) (Span.hi (Survey.m5 a))))))) + IntKind.wrap IntKind.i64 ((4 : Int) * Survey.sag a))))))) - IntKind.wrap IntKind.i64 ((4 : Int) * Survey.sag a)) > Span.lo (both (Span.mk (Span.lo (both (Span.mk (Span.lo (Survey.m0 a)) (Span.hi (Survey.m0 a))) (Span.mk (Span.lo (Survey.m1 a)) (Span.hi (Survey.m1 a))))) (Span.hi (both (Span.mk (Span.lo (Survey.m0 a)) (Span.hi (Survey.m0 a))) (Span.mk (Span.lo (Survey.m1 a)) (Span.hi (Survey.m1 a)))))) (Span.mk (Span.lo (both (Span.mk (Span.lo (Survey.m4 a)) (Span.hi (Survey.m4 a))) (Span.mk (Span.lo (Survey.m5 a)) (Span.hi (Survey.m5 a))))) (Span.hi (both (Span.mk (Span.lo (Survey.m4 a)) (Span.hi (Survey.m4 a))) (Span.mk (Span.lo (Survey.m5 a)) (Span.hi (Survey.m5 a))))))) then IntKind.wrap IntKind.i64 (IntKind.wrap IntKind.i64 ((2 : Int) * Span.lo (meet (Span.mk (Span.lo (both (Span.mk (Span.lo (Survey.m2 a)) (Span.hi (Survey.m2 a))) (Span.mk (Span.lo (Survey.m3 a)) (Span.hi (Survey.m3 a))))) (Span.hi (both (Span.mk (Span.lo (Survey.m2 a)) (Span.hi (Survey.m2 a))) (Span.mk (Span.lo (Survey.m3 a)) (Span.hi (Survey.m3 a)))))) (Span.mk (IntKind.wrap IntKind.i64 ((0 : Int) - half (IntKind.wrap IntKind.i64 (IntKind.wrap IntKind.i64 ((4 : Int) * Survey.sag a) - Span.lo (both (Span.mk (Span.lo (both (Span.mk (Span.lo (Survey.m0 a)) (Span.hi (Survey.m0 a))) (Span.mk (Span.lo (Survey.m1 a)) (Span.hi (Survey.m1 a))))) (Span.hi (both (Span.mk (Span.lo (Survey.m0 a)) (Span.hi (Survey.m0 a))) (Span.mk (Span.lo (Survey.m1 a)) (Span.hi (Survey.m1 a)))))) (Span.mk (Span.lo (both (Span.mk (Span.lo (Survey.m4 a)) (Span.hi (Survey.m4 a))) (Span.mk (Span.lo (Survey.m5 a)) (Span.hi (Survey.m5 a))))) (Span.hi (both (Span.mk (Span.lo (Survey.m4 a)) (Span.hi (Survey.m4 a))) (Span.mk (Span.lo (Survey.m5 a)) (Span.hi (Survey.m5 a))))))))))) (half (IntKind.wrap IntKind.i64 (Span.hi (both (Span.mk (Span.lo (both (Span.mk (Span.lo (Survey.m0 a)) (Span.hi (Survey.m0 a))) (Span.mk (Span.lo (Survey.m1 a)) (Span.hi (Survey.m1 a))))) (Span.hi (both (Span.mk (Span.lo (Survey.m0 a)) (Span.hi (Survey.m0 a))) (Span.mk (Span.lo (Survey.m1 a)) (Span.hi (Survey.m1 a)))))) (Span.mk (Span.lo (both (Span.mk (Span.lo (Survey.m4 a)) (Span.hi (Survey.m4 a))) (Span.mk (Span.lo (Survey.m5 a)) (Span.hi (Survey.m5 a))))) (Span.hi (both (Span.mk (Span.lo (Survey.m4 a)) (Span.hi (Survey.m4 a))) (Span.mk (Span.lo (Survey.m5 a)) (Span.hi (Survey.m5 a))))))) + IntKind.wrap IntKind.i64 ((4 : Int) * Survey.sag a))))))) - IntKind.wrap IntKind.i64 ((4 : Int) * Survey.sag a)) else Span.lo (both (Span.mk (Span.lo (both (Span.mk (Span.lo (Survey.m0 a)) (Span.hi (Survey.m0 a))) (Span.mk (Span.lo (Survey.m1 a)) (Span.hi (Survey.m1 a))))) (Span.hi (both (Span.mk (Span.lo (Survey.m0 a)) (Span.hi (Survey.m0 a))) (Span.mk (Span.lo (Survey.m1 a)) (Span.hi (Survey.m1 a)))))) (Span.mk (Span.lo (both (Span.mk (Span.lo (Survey.m4 a)) (Span.hi (Survey.m4 a))) (Span.mk (Span.lo (Survey.m5 a)) (Span.hi (Survey.m5 a))))) (Span.hi (both (Span.mk (Span.lo (Survey.m4 a)) (Span.hi (Survey.m4 a))) (Span.mk (Span.lo (Survey.m5 a)) (Span.hi (Survey.m5 a))))))), Span.lo (meet (Span.mk (Span.lo (both (Span.mk (Span.lo (Survey.m2 a)) (Span.hi (Survey.m2 a))) (Span.mk (Span.lo (Survey.m3 a)) (Span.hi (Survey.m3 a))))) (Span.hi (both (Span.mk (Span.lo (Survey.m2 a)) (Span.hi (Survey.m2 a))) (Span.mk (Span.lo (Survey.m3 a)) (Span.hi (Survey.m3 a)))))) (Span.mk (IntKind.wrap IntKind.i64 ((0 : Int) - half (IntKind.wrap IntKind.i64 (IntKind.wrap IntKind.i64 ((4 : Int) * Survey.sag a) - Span.lo (both (Span.mk (Span.lo (both (Span.mk (Span.lo (Survey.m0 a)) (Span.hi (Survey.m0 a))) (Span.mk (Span.lo (Survey.m1 a)) (Span.hi (Survey.m1 a))))) (Span.hi (both (Span.mk (Span.lo (Survey.m0 a)) (Span.hi (Survey.m0 a))) (Span.mk (Span.lo (Survey.m1 a)) (Span.hi (Survey.m1 a)))))) (Span.mk (Span.lo (both (Span.mk (Span.lo (Survey.m4 a)) (Span.hi (Survey.m4 a))) (Span.mk (Span.lo (Survey.m5 a)) (Span.hi (Survey.m5 a))))) (Span.hi (both (Span.mk (Span.lo (Survey.m4 a)) (Span.hi (Survey.m4 a))) (Span.mk (Span.lo (Survey.m5 a)) (Span.hi (Survey.m5 a))))))))))) (half (IntKind.wrap IntKind.i64 (Span.hi (both (Span.mk (Span.lo (both (Span.mk (Span.lo (Survey.m0 a)) (Span.hi (Survey.m0 a))) (Span.mk (Span.lo (Survey.m1 a)) (Span.hi (Survey.m1 a))))) (Span.hi (both (Span.mk (Span.lo (Survey.m0 a)) (Span.hi (Survey.m0 a))) (Span.mk (Span.lo (Survey.m1 a)) (Span.hi (Survey.m1 a)))))) (Span.mk (Span.lo (both (Span.mk (Span.lo (Survey.m4 a)) (Span.hi (Survey.m4 a))) (Span.mk (Span.lo (Survey.m5 a)) (Span.hi (Survey.m5 a))))) (Span.hi (both (Span.mk (Span.lo (Survey.m4 a)) (Span.hi (Survey.m4 a))) (Span.mk (Span.lo (Survey.m5 a)) (Span.hi (Survey.m5 a))))))) + IntKind.wrap IntKind.i64 ((4 : Int) * Survey.sag a)))))), if IntKind.wrap IntKind.i64 (IntKind.wrap IntKind.i64 ((2 : Int) * Span.hi (meet (Span.mk (Span.lo (both (Span.mk (Span.lo (Survey.m2 a)) (Span.hi (Survey.m2 a))) (Span.mk (Span.lo (Survey.m3 a)) (Span.hi (Survey.m3 a))))) (Span.hi (both (Span.mk (Span.lo (Survey.m2 a)) (Span.hi (Survey.m2 a))) (Span.mk (Span.lo (Survey.m3 a)) (Span.hi (Survey.m3 a)))))) (Span.mk (IntKind.wrap IntKind.i64 ((0 : Int) - half (IntKind.wrap IntKind.i64 (IntKind.wrap IntKind.i64 ((4 : Int) * Survey.sag a) - Span.lo (both (Span.mk (Span.lo (both (Span.mk (Span.lo (Survey.m0 a)) (Span.hi (Survey.m0 a))) (Span.mk (Span.lo (Survey.m1 a)) (Span.hi (Survey.m1 a))))) (Span.hi (both (Span.mk (Span.lo (Survey.m0 a)) (Span.hi (Survey.m0 a))) (Span.mk (Span.lo (Survey.m1 a)) (Span.hi (Survey.m1 a)))))) (Span.mk (Span.lo (both (Span.mk (Span.lo (Survey.m4 a)) (Span.hi (Survey.m4 a))) (Span.mk (Span.lo (Survey.m5 a)) (Span.hi (Survey.m5 a))))) (Span.hi (both (Span.mk (Span.lo (Survey.m4 a)) (Span.hi (Survey.m4 a))) (Span.mk (Span.lo (Survey.m5 a)) (Span.hi (Survey.m5 a))))))))))) (half (IntKind.wrap IntKind.i64 (Span.hi (both (Span.mk (Span.lo (both (Span.mk (Span.lo (Survey.m0 a)) (Span.hi (Survey.m0 a))) (Span.mk (Span.lo (Survey.m1 a)) (Span.hi (Survey.m1 a))))) (Span.hi (both (Span.mk (Span.lo (Survey.m0 a)) (Span.hi (Survey.m0 a))) (Span.mk (Span.lo (Survey.m1 a)) (Span.hi (Survey.m1 a)))))) (Span.mk (Span.lo (both (Span.mk (Span.lo (Survey.m4 a)) (Span.hi (Survey.m4 a))) (Span.mk (Span.lo (Survey.m5 a)) (Span.hi (Survey.m5 a))))) (Span.hi (both (Span.mk (Span.lo (Survey.m4 a)) (Span.hi (Survey.m4 a))) (Span.mk (Span.lo (Survey.m5 a)) (Span.hi (Survey.m5 a))))))) + IntKind.wrap IntKind.i64 ((4 : Int) * Survey.sag a))))))) + IntKind.wrap IntKind.i64 ((4 : Int) * Survey.sag a)) < Span.hi (both (Span.mk (Span.lo (both (Span.mk (Span.lo (Survey.m0 a)) (Span.hi (Survey.m0 a))) (Span.mk (Span.lo (Survey.m1 a)) (Span.hi (Survey.m1 a))))) (Span.hi (both (Span.mk (Span.lo (Survey.m0 a)) (Span.hi (Survey.m0 a))) (Span.mk (Span.lo (Survey.m1 a)) (Span.hi (Survey.m1 a)))))) (Span.mk (Span.lo (both (Span.mk (Span.lo (Survey.m4 a)) (Span.hi (Survey.m4 a))) (Span.mk (Span.lo (Survey.m5 a)) (Span.hi (Survey.m5 a))))) (Span.hi (both (Span.mk (Span.lo (Survey.m4 a)) (Span.hi (Survey.m4 a))) (Span.mk (Span.lo (Survey.m5 a)) (Span.hi (Survey.m5 a))))))) then IntKind.wrap IntKind.i64 (IntKind.wrap IntKind.i64 ((2 : Int) * Span.hi (meet (Span.mk (Span.lo (both (Span.mk (Span.lo (Survey.m2 a)) (Span.hi (Survey.m2 a))) (Span.mk (Span.lo (Survey.m3 a)) (Span.hi (Survey.m3 a))))) (Span.hi (both (Span.mk (Span.lo (Survey.m2 a)) (Span.hi (Survey.m2 a))) (Span.mk (Span.lo (Survey.m3 a)) (Span.hi (Survey.m3 a)))))) (Span.mk (IntKind.wrap IntKind.i64 ((0 : Int) - half (IntKind.wrap IntKind.i64 (IntKind.wrap IntKind.i64 ((4 : Int) * Survey.sag a) - Span.lo (both (Span.mk (Span.lo (both (Span.mk (Span.lo (Survey.m0 a)) (Span.hi (Survey.m0 a))) (Span.mk (Span.lo (Survey.m1 a)) (Span.hi (Survey.m1 a))))) (Span.hi (both (Span.mk (Span.lo (Survey.m0 a)) (Span.hi (Survey.m0 a))) (Span.mk (Span.lo (Survey.m1 a)) (Span.hi (Survey.m1 a)))))) (Span.mk (Span.lo (both (Span.mk (Span.lo (Survey.m4 a)) (Span.hi (Survey.m4 a))) (Span.mk (Span.lo (Survey.m5 a)) (Span.hi (Survey.m5 a))))) (Span.hi (both (Span.mk (Span.lo (Survey.m4 a)) (Span.hi (Survey.m4 a))) (Span.mk (Span.lo (Survey.m5 a)) (Span.hi (Survey.m5 a))))))))))) (half (IntKind.wrap IntKind.i64 (Span.hi (both (Span.mk (Span.lo (both (Span.mk (Span.lo (Survey.m0 a)) (Span.hi (Survey.m0 a))) (Span.mk (Span.lo (Survey.m1 a)) (Span.hi (Survey.m1 a))))) (Span.hi (both (Span.mk (Span.lo (Survey.m0 a)) (Span.hi (Survey.m0 a))) (Span.mk (Span.lo (Survey.m1 a)) (Span.hi (Survey.m1 a)))))) (Span.mk (Span.lo (both (Span.mk (Span.lo (Survey.m4 a)) (Span.hi (Survey.m4 a))) (Span.mk (Span.lo (Survey.m5 a)) (Span.hi (Survey.m5 a))))) (Span.hi (both (Span.mk (Span.lo (Survey.m4 a)) (Span.hi (Survey.m4 a))) (Span.mk (Span.lo (Survey.m5 a)) (Span.hi (Survey.m5 a))))))) + IntKind.wrap IntKind.i64 ((4 : Int) * Survey.sag a))))))) + IntKind.wrap IntKind.i64 ((4 : Int) * Survey.sag a)) else Span.hi (both (Span.mk (Span.lo (both (Span.mk (Span.lo (Survey.m0 a)) (Span.hi (Survey.m0 a))) (Span.mk (Span.lo (Survey.m1 a)) (Span.hi (Survey.m1 a))))) (Span.hi (both (Span.mk (Span.lo (Survey.m0 a)) (Span.hi (Survey.m0 a))) (Span.mk (Span.lo (Survey.m1 a)) (Span.hi (Survey.m1 a)))))) (Span.mk (Span.lo (both (Span.mk (Span.lo (Survey.m4 a)) (Span.hi (Survey.m4 a))) (Span.mk (Span.lo (Survey.m5 a)) (Span.hi (Survey.m5 a))))) (Span.hi (both (Span.mk (Span.lo (Survey.m4 a)) (Span.hi (Survey.m4 a))) (Span.mk (Span.lo (Survey.m5 a)) (Span.hi (Survey.m5 a))))))), Span.hi (meet (Span.mk (Span.lo (both (Span.mk (Span.lo (Survey.m2 a)) (Span.hi (Survey.m2 a))) (Span.mk (Span.lo (Survey.m3 a)) (Span.hi (Survey.m3 a))))) (Span.hi (both (Span.mk (Span.lo (Survey.m2 a)) (Span.hi (Survey.m2 a))) (Span.mk (Span.lo (Survey.m3 a)) (Span.hi (Survey.m3 a)))))) (Span.mk (IntKind.wrap IntKind.i64 ((0 : Int) - half (IntKind.wrap IntKind.i64 (IntKind.wrap IntKind.i64 ((4 : Int) * Survey.sag a) - Span.lo (both (Span.mk (Span.lo (both (Span.mk (Span.lo (Survey.m0 a)) (Span.hi (Survey.m0 a))) (Span.mk (Span.lo (Survey.m1 a)) (Span.hi (Survey.m1 a))))) (Span.hi (both (Span.mk (Span.lo (Survey.m0 a)) (Span.hi (Survey.m0 a))) (Span.mk (Span.lo (Survey.m1 a)) (Span.hi (Survey.m1 a)))))) (Span.mk (Span.lo (both (Span.mk (Span.lo (Survey.m4 a)) (Span.hi (Survey.m4 a))) (Span.mk (Span.lo (Survey.m5 a)) (Span.hi (Survey.m5 a))))) (Span.hi (both (Span.mk (Span.lo (Survey.m4 a)) (Span.hi (Survey.m4 a))) (Span.mk (Span.lo (Survey.m5 a)) (Span.hi (Survey.m5 a))))))))))) (half (IntKind.wrap IntKind.i64 (Span.hi (both (Span.mk (Span.lo (both (Span.mk (Span.lo (Survey.m0 a)) (Span.hi (Survey.m0 a))) (Span.mk (Span.lo (Survey.m1 a)) (Span.hi (Survey.m1 a))))) (Span.hi (both (Span.mk (Span.lo (Survey.m0 a)) (Span.hi (Survey.m0 a))) (Span.mk (Span.lo (Survey.m1 a)) (Span.hi (Survey.m1 a)))))) (Span.mk (Span.lo (both (Span.mk (Span.lo (Survey.m4 a)) (Span.hi (Survey.m4 a))) (Span.mk (Span.lo (Survey.m5 a)) (Span.hi (Survey.m5 a))))) (Span.hi (both (Span.mk (Span.lo (Survey.m4 a)) (Span.hi (Survey.m4 a))) (Span.mk (Span.lo (Survey.m5 a)) (Span.hi (Survey.m5 a))))))) + IntKind.wrap IntKind.i64 ((4 : Int) * Survey.sag a))))))), true)))) := fun a => by kernel_rfl
end Go.Proofs.YtjbhooodjmjdkaaGreat
