/- A range over a function: the statement out of its rounds and of the function's contract. -/
import Derived.Test.YtkajafmphemedaaEvL
namespace Go.Proofs.Ytkajafmphemedaa.Ev
open Go.RowKit

def bindPs (env : List AV) : List Tmp → List AV → List AV
  | t :: ts, x :: xs => bindPs (env.set t x) ts xs
  | _, _ => env

def bindVs (us : Array Value) : List Tmp → List Value → Array Value
  | t :: ts, x :: xs => bindVs (us.setIfInBounds t x) ts xs
  | _, _ => us

theorem bind_rel {w : World} {A : Nat → Prop} {r : Rr} : ∀ {ts : List Tmp} {xs : List AV} {vs : List Value} {env : List AV} {us : Array Value}, VRs w A r env us → VRs w A r xs vs.toArray → VRs w A r (bindPs env ts xs) (bindVs us ts vs)
  | [], xs, vs, env, us, h, k => by cases xs <;> cases vs <;> exact h
  | t :: ts, [], vs, env, us, h, k => by
    have : vs = [] := List.eq_nil_of_length_eq_zero (by have := k.1; simpa using this.symm)
    subst this; exact h
  | t :: ts, x :: xs, [], env, us, h, k => by have := k.1; simp at this
  | t :: ts, x :: xs, v :: vs, env, us, h, k => by
    refine bind_rel (ts := ts) (h.put (k.2 0 x v rfl rfl) t) ⟨by have := k.1; simpa using this, fun i y u hy hu => ?_⟩
    exact k.2 (i + 1) y u (by simpa using hy) (by simpa using hu)

theorem bindVs_fold : ∀ (ts : List Tmp) (vs : List Value) (us : Array Value), (ts.zip vs).foldl (fun tmps (t, a) => tmps.setIfInBounds t a) us = bindVs us ts vs
  | [], vs, us => by cases vs <;> rfl
  | t :: ts, [], us => rfl
  | t :: ts, v :: vs, us => by simp only [List.zip_cons_cons, List.foldl_cons, bindVs]; exact bindVs_fold ts vs _

def jumpOf : Exit → Option Code
  | .ret => some .ret
  | .exit id => some (.exit id)
  | _ => none

/-- The ways in which a round may end. -/
def roundEnd : Exit → Bool
  | .normal => true
  | .ret => true
  | .exit _ => true
  | _ => false

/-- One round: from the frame S, with x from the yield, to the frame S'. -/
structure Round (P : Program) (ps : Array Tmp) (assign body : Code) (S S' : St) (x : List AV) (e : Exit) : Prop where
  size : x.length = ps.size
  walk : ∃ U T : St, Ld P assign { S with env := bindPs S.env ps.toList x, sav := S.env ++ S.sav } .normal U ∧ Ld P body U e T ∧ T.sav = S'.env ++ S'.sav ∧ S'.env.length = S.env.length ∧ T.loc = S'.loc ∧ T.out = S'.out
  ends : roundEnd e = true

theorem Round.ext {P : Program} {ps : Array Tmp} {assign body : Code} {S S' : St} {x : List AV} {e : Exit} (h : Round P ps assign body S S' x e) : Ext S S' := by
  obtain ⟨U, T, h1, h2, _, _, _, h3⟩ := h.walk
  have := h1.1.trans h2.1
  obtain ⟨l, hl⟩ := this
  exact ⟨l, by rw [← h3, hl]⟩

abbrev Tr : Fx := fun _ _ _ => True

theorem enter_run {P : Program} (ro : Option Nat) (w : World) (fn : FuncId) (tmps : Array Value) (ps : Array Tmp) (assign body : Code) (hro : ∀ l, ro = some l → ∃ x, w.heap[l]? = some (.loop x)) :
    ∃ (l : Nat) (mk : List Nat) (dq : Nat) (w1 : World), (Instr.enterLoop fn tmps ps assign body ro).run P w = .ok (l, mk.map fun q => { target := .collected q, args := #[] }) w1 ∧ Below w.heap.size w w1 ∧
      w1.heap[l]? = some (.loop { state := .ready, pending := none, fn, tmps, params := ps, assign, body, defers := dq }) ∧ w.heap.size ≤ l ∧ mk.Nodup ∧ ∀ q, q ∈ mk → w.heap.size ≤ q ∧ w1.heap[q]? = some (.deferred (some [])) := by
  cases ro with
  | none =>
    refine ⟨w.heap.size + 1, [w.heap.size], w.heap.size, _, run_enterLoop_outer fn tmps ps assign body, ?_, ?_, by omega, by simp, fun q hq => ?_⟩
    · exact ((Below.refl _ w).alloc (Nat.le_refl _) _).alloc (by simp) _
    · have := World.alloc_heap_new (w.alloc (.deferred (some []))) (.loop { state := .ready, pending := none, fn, tmps, params := ps, assign, body, defers := w.heap.size })
      simpa using this
    · simp at hq; subst hq
      refine ⟨Nat.le_refl _, ?_⟩
      rw [Below.heap_alloc _ _ _ (by simp)]
      exact World.alloc_heap_new _ _
  | some l0 =>
    obtain ⟨x, hx⟩ := hro l0 rfl
    exact ⟨w.heap.size, [], x.defers, _, run_enterLoop_inner hx fn tmps ps assign body, (Below.refl _ w).alloc (Nat.le_refl _) _, World.alloc_heap_new _ _, Nat.le_refl _, List.nodup_nil, fun q hq => by simp at hq⟩

/-- Between the rounds: what holds of the world. -/
def Mid (Y : Nat → Fx) (yl : Option Nat) (S : Nat → St) (l : Nat) (ds : List Nat) (a : Act) (sv : Array Value) (rec : Nat → Loop) : Nat → Fx := fun i A' O w =>
  ∃ (A1 : Nat → Prop) (r : Rr), (∀ b, A' b ↔ A1 b ∨ own r ds b ∨ b = l) ∧ (∀ b, O b → ¬ A' b) ∧ ¬ A1 l ∧
    FR Tr yl (fun b => A1 b ∨ (O b ∧ b < w.heap.size) ∨ b = l) (S i).sav sv (S i).env (locOf (S i)) r ds a w ∧
    Y (S i).out.length A1 (fun b => own r ds b ∨ O b ∨ b = l) w ∧ w.heap[l]? = some (.loop (rec i))

theorem Mid.stands {Y : Nat → Fx} {yl : Option Nat} (hY : ∀ i, Stands (Y i)) {S : Nat → St} {l : Nat} {ds : List Nat} {a : Act} {sv : Array Value} {rec : Nat → Loop} (i : Nat) : Stands (Mid Y yl S l ds a sv rec i) := by
  rintro A' O O' w w' ⟨A1, r, hA, hdis, hl, hfr, hy, hrec⟩ ht hO
  have hlt : l < w.heap.size := (Array.getElem?_eq_some_iff.1 hrec).1
  have hAlt : ∀ b, A' b → b < w.heap.size := fun b hb => by
    rcases (hA b).1 hb with h | h | h
    · exact hfr.a0 b (.inl h)
    · exact hfr.arLt b (.inr h)
    · rw [h]; exact hlt
  refine ⟨A1, r, hA, fun b hb hb' => ?_, hl, ?_, ?_, ?_⟩
  · rcases hO b hb with h | h
    · exact hdis b h hb'
    · have := hAlt b hb'; omega
  · refine hfr.other (X' := Tr) trivial (fun _ _ _ _ _ _ _ _ => trivial) ⟨ht.size, fun b hb hn => ht.block b hb (fun ho => hn (.inr (.inl ⟨ho, hb⟩))), fun b hb => ?_⟩ (fun b hb => ?_)
    · rcases hb with h | ⟨h, _⟩ | h
      · exact .inl (.inl h)
      · rcases hO b h with h1 | h1
        · by_cases hlt : b < w.heap.size
          · exact .inl (.inr (.inl ⟨h1, hlt⟩))
          · exact .inr (by omega)
        · exact .inr h1
      · exact .inl (.inr (.inr h))
    · rcases hb with h | ⟨_, h⟩ | h
      · exact Nat.lt_of_lt_of_le (hfr.a0 b (.inl h)) ht.size
      · exact h
      · rw [h]; exact Nat.lt_of_lt_of_le hlt ht.size
  · refine hY _ _ _ _ _ _ hy ⟨ht.os, ht.tape, ht.output, ht.size, fun b hb hn => ht.block b hb (fun ho => hn (.inr (.inl ho)))⟩ (fun b hb => ?_)
    rcases hb with h | h | h
    · exact .inl (.inl h)
    · exact (hO b h).imp (fun h => .inr (.inl h)) id
    · exact .inl (.inr (.inr h))
  · rw [ht.block l hlt (fun ho => hdis l ho ((hA l).2 (.inr (.inr rfl))))]; exact hrec

/-- Within a round that began in the world w. -/
def Rnd (Y : Nat → Fx) (l : Nat) (ds : List Nat) (A' O : Nat → Prop) (w : World) (rc : Loop) : Nat → Fx := fun k A2 O2 w2 =>
  ∃ A1 : Nat → Prop, (∀ b, A2 b ↔ A1 b ∨ O b ∨ b = l ∨ b ∈ ds) ∧ Y k A1 (fun b => O2 b ∨ O b ∨ b = l ∨ b ∈ ds) w2 ∧ Keeps A' (fun b => A1 b ∨ O2 b ∨ b = l ∨ b ∈ ds) w w2 ∧
    (∀ b, (O b ∨ b = l ∨ b ∈ ds) → ¬ A1 b ∧ ¬ O2 b ∧ b < w.heap.size) ∧ (∀ q, q ∈ ds → w2.heap[q]? = some (.deferred (some []))) ∧ w2.heap[l]? = some (.loop rc)

theorem Rnd.stands {Y : Nat → Fx} (hY : ∀ i, Stands (Y i)) {l : Nat} {ds : List Nat} {A' O : Nat → Prop} {w : World} {rc : Loop} (k : Nat) : Stands (Rnd Y l ds A' O w rc k) := by
  rintro A2 O2 O3 w2 w3 ⟨A1, hA, hy, hk, hd, hq, hrec⟩ ht hO
  refine ⟨A1, hA, ?_, ?_, fun b hb => ⟨(hd b hb).1, fun h3 => ?_, (hd b hb).2.2⟩, fun q hq' => ?_, ?_⟩
  · refine hY _ _ _ _ _ _ hy ⟨ht.os, ht.tape, ht.output, ht.size, fun b hb hn => ht.block b hb (fun ho => hn (.inl ho))⟩ (fun b hb => ?_)
    rcases hb with h | h
    · exact (hO b h).imp .inl id
    · exact .inl (.inr h)
  · refine ⟨Nat.le_trans hk.size ht.size, fun b hb hn => ?_, fun b hb => ?_⟩
    · rw [ht.block b (Nat.lt_of_lt_of_le hb hk.size) (fun ho => ?_)]
      · exact hk.block b hb hn
      · rcases hk.more b (.inr (.inl ho)) with h | h
        · exact hn h
        · omega
    · rcases hb with h | h | h
      · exact hk.more b (.inl h)
      · rcases hO b h with h | h
        · exact hk.more b (.inr (.inl h))
        · exact .inr (Nat.le_trans hk.size h)
      · exact hk.more b (.inr (.inr h))
  · rcases hO b h3 with h | h
    · exact (hd b hb).2.1 h
    · have := (hd b hb).2.2
      have := hk.size
      omega
  · rw [ht.block q (Array.getElem?_eq_some_iff.1 (hq q hq')).1 (hd q (.inr (.inr hq'))).2.1]; exact hq q hq'
  · rw [ht.block l (Array.getElem?_eq_some_iff.1 hrec).1 (hd l (.inr (.inl rfl))).2.1]; exact hrec

theorem Rnd.yields {P : Program} {yl : Option Nat} {evs : List (List AV × Bool)} {Y : Nat → Fx} (hY : YH P yl evs Y) {l : Nat} {ds : List Nat} {A' O : Nat → Prop} {w : World} {rc : Loop} : YH P yl evs (Rnd Y l ds A' O w rc) := by
  refine ⟨Rnd.stands hY.1, fun i x b hi ro n A2 O2 w2 us R ha ho hmid hv hR => ?_⟩
  obtain ⟨A1, hA, hy, hk, hd, hq, hrec⟩ := hmid
  have hsz := hk.size
  have more1 : ∀ b, A1 b → A2 b := fun b h => (hA b).2 (.inl h)
  have hsub : ∀ b, (A1 b ∨ (O2 b ∨ O b ∨ b = l ∨ b ∈ ds)) → A2 b ∨ O2 b := fun b hb => by
    rcases hb with h | h | h
    · exact .inl (more1 b h)
    · exact .inr h
    · exact .inl ((hA b).2 (.inr h))
  refine hY.2 i x b hi ro n A1 (fun b => O2 b ∨ O b ∨ b = l ∨ b ∈ ds) w2 us R (fun b hb => ha b (more1 b hb)) (fun b hb => ?_) hy (hv.mono ⟨Nat.le_refl _, fun _ _ _ => rfl, fun b hb => .inl (hsub b hb)⟩ (fun _ _ h => h)) ?_
  · rcases hb with h | h
    · exact ⟨(ho b h).1, fun h1 => (ho b h).2 (more1 b h1)⟩
    · exact ⟨Nat.lt_of_lt_of_le (hd b h).2.2 hsz, (hd b h).1⟩
  · intro A3 w3 hy3 hk3 ha3
    have hno : ∀ b, b < w2.heap.size → ¬ A1 b → ¬ A3 b := fun b hb h1 h3 => by
      rcases hk3.more b h3 with h | h
      · exact h1 h
      · omega
    refine hR (fun b => A3 b ∨ O b ∨ b = l ∨ b ∈ ds) w3 ⟨A3, fun b => Iff.rfl, hy3, ?_, fun b hb => ⟨hno b (Nat.lt_of_lt_of_le (hd b hb).2.2 hsz) (hd b hb).1, (hd b hb).2⟩, fun q hq' => ?_, ?_⟩ ?_ (fun b hb => ?_)
    · refine ⟨Nat.le_trans hsz hk3.size, fun b hb hn => ?_, fun b hb => ?_⟩
      · rw [hk3.block b (Nat.lt_of_lt_of_le hb hsz) (fun h1 => ?_)]
        · exact hk.block b hb hn
        · rcases hk.more b (.inl h1) with h | h
          · exact hn h
          · omega
      · rcases hb with h | h
        · rcases hk3.more b h with h | h
          · exact hk.more b (.inl h)
          · exact .inr (Nat.le_trans hsz h)
        · exact hk.more b (.inr h)
    · rw [hk3.block q (Array.getElem?_eq_some_iff.1 (hq q hq')).1 (hd q (.inr (.inr hq'))).1]; exact hq q hq'
    · rw [hk3.block l (Array.getElem?_eq_some_iff.1 hrec).1 (hd l (.inr (.inl rfl))).1]; exact hrec
    · refine ⟨hk3.size, fun b hb hn => hk3.block b hb (fun h1 => hn (more1 b h1)), fun b hb => ?_⟩
      rcases hb with h | h
      · exact (hk3.more b h).imp (more1 b) id
      · exact .inl ((hA b).2 (.inr h))
    · rcases hb with h | h
      · exact ha3 b h
      · exact Nat.lt_of_lt_of_le (hd b h).2.2 (Nat.le_trans hsz hk3.size)

theorem VRs.split {w : World} {A : Nat → Prop} {r : Rr} {xs ys : List AV} {us vs : Array Value} (h : VRs w A r (xs ++ ys) (us ++ vs)) (hl : xs.length = us.size) : VRs w A r xs us ∧ VRs w A r ys vs := by
  refine ⟨⟨hl, fun i x u hx hu => ?_⟩, by have := h.1; simp at this; omega, fun i x u hx hu => ?_⟩
  · have h1 := (List.getElem?_eq_some_iff.1 hx).1
    exact h.2 i x u (by rw [List.getElem?_append_left h1]; exact hx) (by rw [Array.getElem?_append_left (by omega)]; exact hu)
  · exact h.2 (xs.length + i) x u (by rw [List.getElem?_append_right (by omega)]; simpa using hx) (by rw [Array.getElem?_append_right (by omega)]; simpa [hl] using hu)

end Go.Proofs.Ytkajafmphemedaa.Ev
