/- One operation of the evaluator, as a step of the fenced calculus. -/
import Derived.Test.YtkajafmphemedaaEvF
namespace Go.Proofs.Ytkajafmphemedaa.Ev
open Go.RowKit

def putD (env : List AV) (d : Option Nat) (v : AV) : List AV := match d with
  | some d => env.set d v
  | none => env

/-- Is the operation wanted? -/
def wantD (ops : Array Oper) (env : List AV) (o : Oper) : Option Bool := match o.guard with
  | none => some true
  | some (j, want) => match ops[j]? with
    | some oj => match oj.dst with
      | some d => match env[d]? with
        | some (.bool b) => some (b == want)
        | some (.tup []) => some false
        | _ => none
      | none => none
    | none => none

/-- What an operation does to the frame. -/
structure Eff where
  dst : Option Nat
  v : AV
  mem : Option (Nat × Blk)

def effR (cl : FuncId → List AV → Option AV) (loc : Nat → Option Blk) (nx : Nat) (o : Oper) : Res → Option Eff
  | .val v => some ⟨o.dst, v, none⟩
  | .alloc b v => some ⟨o.dst, v, some (nx, b)⟩
  | .store j b => some ⟨o.dst, .tup [], some (j, b)⟩
  | .call f args => match callArgs loc args with
    | some (ex, args') => match cl f args' with
      | some v => match ex && !plainR v with
        | true => none
        | false => some ⟨o.dst, v, none⟩
      | none => none
    | none => none

def effOf (P : Program) (cl : FuncId → List AV → Option AV) (ops : Array Oper) (env : List AV) (loc : Nat → Option Blk) (nx : Nat) (o : Oper) : Option Eff :=
  match wantD ops env o with
  | some true => match opRes P (evO env) loc nx o with
    | some (true, res) => effR cl loc nx o res
    | _ => none
  | some false => some ⟨o.dst, .tup [], none⟩
  | none => none

def locE (e : Eff) (l : Nat → Option Blk) : Nat → Option Blk := match e.mem with
  | some (j, b) => fun k => if k = j then some b else l k
  | none => l

def own (r : Rr) (ds : List Nat) : Nat → Prop := fun b => (∃ j : Nat, r j = some b) ∨ b ∈ ds

def AR (A0 : Nat → Prop) (r : Rr) (ds : List Nat) : Nat → Prop := fun b => A0 b ∨ own r ds b

/-- What must hold of the world around a frame: of the blocks that others may turn, of the frame's own ones, of the world. -/
abbrev Fx := (Nat → Prop) → (Nat → Prop) → World → Prop

/-- The world has grown; of what was there only blocks of O have turned. -/
structure Turn (O : Nat → Prop) (w w' : World) : Prop where
  os : w'.os = w.os
  tape : w'.tape = w.tape
  output : w'.output = w.output
  size : w.heap.size ≤ w'.heap.size
  block : ∀ b, b < w.heap.size → ¬ O b → w'.heap[b]? = w.heap[b]?

theorem Turn.below {O : Nat → Prop} {w w' : World} (h : Below w.heap.size w w') : Turn O w w' := ⟨h.os, h.tape, h.output, h.size, fun b hb _ => h.block b hb⟩


/-- How the evaluator's frame stands to the model's. -/
structure FR (X : Fx) (yl : Option Nat) (A0 : Nat → Prop) (sav : List AV) (sv : Array Value) (env : List AV) (loc : Nat → Option Blk) (r : Rr) (ds : List Nat) (a : Act) (w : World) : Prop where
  env : VRs w (AR A0 r ds) r env a.tmps
  sav : VRs w (AR A0 r ds) r sav sv
  mem : ∀ j k, loc j = some k → ∃ b, r j = some b ∧ BlkR w (AR A0 r ds) r k b
  dom : ∀ (j b : Nat), r j = some b → ∃ k, loc j = some k
  inj : ∀ (i j b : Nat), r i = some b → r j = some b → i = j
  dis : ∀ (j b : Nat), r j = some b → ¬ A0 b
  lt : ∀ (j b : Nat), r j = some b → b < w.heap.size
  a0 : ∀ b, A0 b → b < w.heap.size
  inv : X A0 (own r ds) w
  clo : ∀ A0 O O' w w', X A0 O w → Turn O w w' → (∀ b, O' b → O b ∨ w.heap.size ≤ b) → X A0 O' w'
  dfr : a.defers = ds.map fun q => { target := .collected q, args := #[] }
  dnd : ds.Nodup
  dok : ∀ q, q ∈ ds → w.heap[q]? = some (.deferred (some [])) ∧ ¬ A0 q
  ylv : r none = yl

section
variable {P : Program} {cl : FuncId → List AV → Option AV} {X : Fx} {w : World} {A0 : Nat → Prop} {env : List AV} {loc : Nat → Option Blk} {r : Rr} {ds : List Nat} {sav : List AV} {sv : Array Value} {yl : Option Nat} {a : Act}

theorem FR.arLt (h : FR X yl A0 sav sv env loc r ds a w) : ∀ b, AR A0 r ds b → b < w.heap.size := by
  rintro b (hb | ⟨j, hj⟩ | hb)
  · exact h.a0 b hb
  · exact h.lt j b hj
  · exact (Array.getElem?_eq_some_iff.1 (h.dok b hb).1).1

theorem ofConst_rel {A : Nat → Prop} {v : Value} {x : AV} (h : ofConst v = some x) : VR w A r x v := ofV_rel h

theorem FR.eval (h : FR X yl A0 sav sv env loc r ds a w) (x : Operand) (v : AV) (hx : evO env x = some v) : VR w (AR A0 r ds) r v (a.eval x) := by
  cases x with
  | tmp t =>
    simp only [evO] at hx
    obtain ⟨u, hu, hr⟩ := h.env.get hx
    simp only [Act.eval, Array.getD_eq_getD_getElem?, hu, Option.getD_some]
    exact hr
  | const c => exact ofConst_rel hx
  | func f => simp [evO] at hx; subst hx; exact .fn rfl rfl (fun i x u hi => by simp at hi) (fun i x u hi => by simp at hi)
  | global g => simp [evO] at hx

theorem FR.cx (h : FR X yl A0 sav sv env loc r ds a w) : Cx w (AR A0 r ds) r loc (evO env) a.eval := ⟨h.eval, h.mem⟩

theorem VRs.put {A : Nat → Prop} {us : Array Value} {x : AV} {v : Value} (h : VRs w A r env us) (hv : VR w A r x v) (d : Nat) : VRs w A r (env.set d x) (us.setIfInBounds d v) := by
  refine ⟨by simp [h.1], fun i y u hy hu => ?_⟩
  rw [List.getElem?_set] at hy
  rw [Array.getElem?_setIfInBounds] at hu
  split at hy
  · rename_i e
    rw [if_pos e] at hu
    split at hy
    · split at hu
      · injection hy with hy; injection hu with hu; subst hy; subst hu; exact hv
      · simp at hu
    · simp at hy
  · rename_i e
    rw [if_neg e] at hu
    exact h.2 i y u hy hu

theorem VRs.putD {A : Nat → Prop} {x : AV} {v : Value} {a : Act} (h : VRs w A r env a.tmps) (hv : VR w A r x v) (d : Option Nat) : VRs w A r (putD env d x) (a.put d v).tmps := by
  cases d with
  | none => exact h
  | some d => exact VRs.put h hv d

theorem put_defers (a : Act) (d : Option Nat) (v : Value) : (a.put d v).defers = a.defers := by cases d <;> rfl

theorem VRs.putD' {A : Nat → Prop} {x : AV} {v : Value} {us : Array Value} {a : Act} (e : a.tmps = us) (h : VRs w A r env us) (hv : VR w A r x v) (d : Option Nat) : VRs w A r (Ev.putD env d x) (a.put d v).tmps := by
  subst e; exact VRs.putD h hv d

theorem BlkR.keep {w' : World} {A A' : Nat → Prop} {r' : Rr} {k : Blk} {b : Nat} (h : BlkR w A r k b) (hk : Keeps A A' w w') (hr : ∀ (j : Option Nat) (b : Nat), r j = some b → r' j = some b) (hb : w'.heap[b]? = w.heap[b]?) : BlkR w' A' r' k b := by
  cases k with
  | flat t cs =>
    obtain ⟨us, hh, hc⟩ := h
    exact ⟨us, by rw [hb]; exact hh, hc.mono hk hr⟩

/-- A slot is written; the world may have grown. -/
theorem FR.val (h : FR X yl A0 sav sv env loc r ds a w) {w' : World} (hb : Below w.heap.size w w') {x : AV} {v : Value} (hv : VR w' (AR A0 r ds) r x v) (d : Option Nat) : FR X yl A0 sav sv (putD env d x) loc r ds (a.put d v) w' := by
  have hk : Keeps (AR A0 r ds) (AR A0 r ds) w w' := ⟨hb.size, fun b hlt _ => hb.block b hlt, fun b h => .inl h⟩
  refine ⟨VRs.putD (h.env.mono hk (fun _ _ h => h)) hv d, h.sav.mono hk (fun _ _ h => h), fun j k hj => ?_, h.dom, h.inj, h.dis, fun j b hj => Nat.lt_of_lt_of_le (h.lt j b hj) hb.size, fun b hb' => Nat.lt_of_lt_of_le (h.a0 b hb') hb.size, h.clo _ _ _ _ _ h.inv (.below hb) (fun _ h => .inl h), h.clo, by rw [put_defers]; exact h.dfr, h.dnd, fun q hq => ⟨by rw [hb.block q (Array.getElem?_eq_some_iff.1 (h.dok q hq).1).1]; exact (h.dok q hq).1, (h.dok q hq).2⟩, by simpa using h.ylv⟩
  obtain ⟨b, hb', hbr⟩ := h.mem j k hj
  exact ⟨b, hb', hbr.keep hk (fun _ _ h => h) (hb.block b (h.lt j b hb'))⟩

theorem FR.alloc (h : FR X yl A0 sav sv env loc r ds a w) {nx : Nat} (hnx : loc nx = none) {t : TypeId} {cs : List AV} {us : Array Value} {x : AV} {v : Value} (hc : VRs w (AR A0 r ds) r cs us)
    (hv : ∀ (w' : World) (A' : Nat → Prop) (r' : Rr), r' nx = some w.heap.size → VR w' A' r' x v) (d : Option Nat) :
    ∃ r', FR X yl A0 sav sv (putD env d x) (locE ⟨d, x, some (nx, .flat t cs)⟩ loc) r' ds (a.put d v) (w.alloc (.cells us t)) := by
  have hrnx : r nx = none := by
    cases hr : r nx with
    | none => rfl
    | some b => obtain ⟨k, hk⟩ := h.dom nx b hr; rw [hnx] at hk; cases hk
  let r' : Rr := fun j => if j = some nx then some w.heap.size else r j
  have hr' : ∀ (j : Option Nat) (b : Nat), r j = some b → r' j = some b := fun j b hj => by
    have : j ≠ some nx := fun e => by subst e; rw [hrnx] at hj; cases hj
    simp [r', this, hj]
  have hk : Keeps (AR A0 r ds) (AR A0 r' ds) w (w.alloc (.cells us t)) := by
    refine ⟨by simp, fun b hlt _ => Below.heap_alloc w _ b hlt, fun b hb => ?_⟩
    rcases hb with hb | ⟨j, hj⟩ | hb
    · exact .inl (.inl hb)
    · by_cases e : j = nx
      · simp [r', e] at hj; right; omega
      · simp [r', e] at hj; exact .inl (.inr (.inl ⟨j, hj⟩))
    · exact .inl (.inr (.inr hb))
  have hinv : ∀ (j b : Nat), r' j = some b → (j = nx ∧ b = w.heap.size) ∨ (j ≠ nx ∧ r j = some b) := fun j b hj => by
    by_cases e : j = nx
    · simp [r', e] at hj; exact .inl ⟨e, hj.symm⟩
    · simp [r', e] at hj; exact .inr ⟨e, hj⟩
  refine ⟨r', VRs.putD (h.env.mono hk hr') (hv _ _ r' (by simp [r'])) d, h.sav.mono hk hr', fun j k hj => ?_, fun j b hj => ?_, fun i j b hi hj => ?_, fun j b hj => ?_, fun j b hj => ?_, fun b hb => by have := h.a0 b hb; simp; omega, h.clo _ _ _ _ _ h.inv (.below ((Below.refl _ w).alloc (Nat.le_refl _) _)) (fun b hb => ?_), h.clo, by rw [put_defers]; exact h.dfr, h.dnd, fun q hq => ⟨by rw [Below.heap_alloc w _ q (Array.getElem?_eq_some_iff.1 (h.dok q hq).1).1]; exact (h.dok q hq).1, (h.dok q hq).2⟩, by simpa [r'] using h.ylv⟩
  · simp only [locE] at hj
    split at hj
    · rename_i e
      injection hj with hj; subst hj; subst e
      exact ⟨w.heap.size, by simp [r'], us, by show (w.heap.push _)[w.heap.size]? = _; simp, hc.mono hk hr'⟩
    · rename_i e
      obtain ⟨b, hb, hbr⟩ := h.mem j k hj
      exact ⟨b, hr' j b hb, hbr.keep hk hr' (Below.heap_alloc w _ b (h.lt j b hb))⟩
  · simp only [locE]
    rcases hinv j b hj with ⟨e, _⟩ | ⟨e, hj'⟩
    · simp [e]
    · simp only [e, if_false]; exact h.dom j b hj'
  · rcases hinv i b hi with ⟨e1, e2⟩ | ⟨e1, hi'⟩ <;> rcases hinv j b hj with ⟨e3, e4⟩ | ⟨e3, hj'⟩
    · rw [e1, e3]
    · have := h.lt j b hj'; omega
    · have := h.lt i b hi'; omega
    · exact h.inj i j b hi' hj'
  · rcases hinv j b hj with ⟨_, e⟩ | ⟨_, hj'⟩
    · rw [e]; exact fun hA => by have := h.a0 _ hA; omega
    · exact h.dis j b hj'
  · simp only [World.size_alloc]
    rcases hinv j b hj with ⟨_, e⟩ | ⟨_, hj'⟩
    · omega
    · have := h.lt j b hj'; omega
  · rcases hb with ⟨j, hj⟩ | hb
    · rcases hinv j b hj with ⟨_, e⟩ | ⟨_, hj'⟩
      · right; omega
      · exact .inl (.inl ⟨j, hj'⟩)
    · exact .inl (.inr hb)

theorem heap_setRow_same {b : Nat} {cur us : Array Value} {t : TypeId} (hh : w.heap[b]? = some (.cells cur t (0, 0))) : (w.setRow b us).heap[b]? = some (.cells us t (0, 0)) := setRow_heap w b cur us t (0, 0) hh

theorem FR.store (h : FR X yl A0 sav sv env loc r ds a w) {j b : Nat} {t : TypeId} {cs : List AV} {cur us : Array Value} {k : Blk} (hj : r j = some b) (hl : loc j = some k) (hh : w.heap[b]? = some (.cells cur t (0, 0))) (hc : VRs w (AR A0 r ds) r cs us) (d : Option Nat) :
    FR X yl A0 sav sv (putD env d (.tup [])) (locE ⟨d, .tup [], some (j, .flat t cs)⟩ loc) r ds (a.put d undef) (w.setRow b us) := by
  have hk : Keeps (AR A0 r ds) (AR A0 r ds) w (w.setRow b us) := ⟨by simp, fun b' _ hA => setRow_other w b b' us (fun e => hA (by subst e; exact .inr (.inl ⟨j, hj⟩))), fun b h => .inl h⟩
  refine ⟨VRs.putD (h.env.mono hk (fun _ _ h => h)) (.tup rfl (fun i x u hi => by simp at hi)) d, h.sav.mono hk (fun _ _ h => h), fun i k' hi => ?_, fun i b' hi => ?_, h.inj, h.dis, fun i b' hi => by simp; exact h.lt i b' hi, fun b' hb => by simpa using h.a0 b' hb, ?_, h.clo, by rw [put_defers]; exact h.dfr, h.dnd, fun q hq => ⟨by rw [setRow_other w b q us (fun e => by subst e; rw [(h.dok q hq).1] at hh; cases hh)]; exact (h.dok q hq).1, (h.dok q hq).2⟩, by simpa using h.ylv⟩
  · simp only [locE] at hi
    split at hi
    · rename_i e
      injection hi with hi; subst hi; subst e
      exact ⟨b, hj, us, heap_setRow_same hh, hc.mono hk (fun _ _ h => h)⟩
    · rename_i e
      obtain ⟨b', hb', hbr⟩ := h.mem i k' hi
      exact ⟨b', hb', hbr.keep hk (fun _ _ h => h) (setRow_other w b b' us (fun e' => e (h.inj i j b (by rw [← e']; exact hb') hj)))⟩
  · simp only [locE]
    by_cases e : i = j
    · simp [e]
    · simp only [e, if_false]; exact h.dom i b' hi
  · exact h.clo _ _ _ _ _ h.inv ⟨rfl, rfl, rfl, by simp, fun k _ hO => setRow_other w b k us (fun e => hO (by subst e; exact .inl ⟨j, hj⟩))⟩ (fun _ h => .inl h)

theorem opRes_notDefer {loc : Nat → Option Blk} {p : Operand → Option AV} {nx : Nat} {o : Oper} {x : Bool × Res} (h : opRes P p loc nx o = some x) : ∀ c, o.op ≠ .defer c := by
  intro c e
  simp [opRes, native, e, byCalm, notSelect] at h

theorem wf_fn (ro : Option Nat) (f : FuncId) : (WF ro).fn f := trivial
theorem wf_depth (ro : Option Nat) : (WF ro).depth = none := rfl

theorem callArgs_rel {args args' : List AV} {vs : Array Value} {ex : Bool} (h : FR X yl A0 sav sv env loc r ds a w) (hc : callArgs loc args = some (ex, args')) (hv : VRs w (AR A0 r ds) r args vs) :
    ∃ A', (ex = false → A' = AR A0 r ds) ∧ (∀ b, A' b → b < w.heap.size) ∧ VRs w A' noR args' vs := by
  unfold callArgs at hc
  split at hc
  · rename_i hn
    injection hc with hc; injection hc with h1 h2; subst h1; subst h2
    exact ⟨AR A0 r ds, fun _ => rfl, h.arLt, hv.weaken hn (fun b h => h)⟩
  · split at hc
    · rename_i xs hx
      injection hc with hc; injection hc with h1 h2; subst h1; subst h2
      exact ⟨noA, fun e => by simp at e, fun b hb => hb.elim, expAlls_rel h.mem (fun b hb => hb.elim) (fun j b _ hb => hb.elim) hx hv⟩
    · simp at hc

/-- A wanted operation. -/
theorem op_wp {o : Oper} {nx : Nat} {e : Eff} {res : Res} {ro : Option Nat} {n : Nat} {K : Act → World → Prop} {Q : Exit → Act → World → Prop} (hcl : ∀ f args v, cl f args = some v → PC P f args v)
    (hfr : FR X yl A0 sav sv env loc r ds a w) (hnx : ∀ b v, res = .alloc b v → loc nx = none) (hres : opRes P (evO env) loc nx o = some (true, res)) (he : effR cl loc nx o res = some e)
    (hK : ∀ r' a' w', FR X yl A0 sav sv (putD env e.dst e.v) (locE e loc) r' ds a' w' → K a' w') : o.wpIn (WF ro) n P a w K Q := by
  have hdoes := opRes_sound hfr.cx hres
  refine ⟨fun f _ => trivial, ?_⟩
  rw [Oper.semAt_eq _ _ _ (opRes_notDefer hres)]
  cases res with
  | val x =>
    obtain ⟨v, hrun, hv⟩ := hdoes
    simp only [effR] at he
    injection he with he; subst he
    rw [hrun, Oper.uponIn_value]
    exact hK _ _ _ (hfr.val (Below.refl _ _) hv o.dst)
  | alloc b x =>
    cases b with
    | flat t cs =>
      obtain ⟨us, v, hrun, hc, hv⟩ := hdoes
      simp only [effR] at he
      injection he with he; subst he
      rw [hrun, Oper.uponIn_value]
      obtain ⟨r', h'⟩ := hfr.alloc (hnx _ _ rfl) hc hv o.dst
      exact hK _ _ _ h'
  | store j b =>
    cases b with
    | flat t cs =>
      obtain ⟨b, cur, us, k, hj, hl, hh, hrun, hc⟩ := hdoes
      simp only [effR] at he
      injection he with he; subst he
      rw [hrun, Oper.uponIn_skip]
      exact hK _ _ _ (hfr.store hj hl hh hc o.dst)
  | call f args =>
    obtain ⟨vs, hrun, hvs⟩ := hdoes
    simp only [effR] at he
    split at he
    · rename_i ex args' hca
      split at he
      · rename_i x hx
        split at he
        · simp at he
        · rename_i hpl
          injection he with he; subst he
          rw [hrun, Oper.uponIn_enter]
          refine ⟨fun h => by simp [wf_depth] at h, ?_⟩
          obtain ⟨A', h1, h2, h3⟩ := callArgs_rel hfr hca hvs
          refine (hcl f args' x hx ro (n - 1) A' w vs h2 h3).mono ?_
          rintro e' w' ⟨v, rfl, hv, hb⟩
          refine hK _ _ _ (hfr.val hb ?_ o.dst)
          cases ex with
          | false =>
            rw [h1 rfl] at hv
            exact hv.mono (Keeps.refl _ _) (fun j b h => by simp [noR] at h)
          | true =>
            simp at hpl
            exact plainR_any hpl hv
      · simp at he
    · simp at he

theorem wantD_true {ops : Array Oper} {o : Oper} {b : Bool} (hfr : FR X yl A0 sav sv env loc r ds a w) (h : wantD ops env o = some b) : Region.wanted o (yielded ops a.tmps) = b := by
  unfold wantD at h
  unfold Region.wanted
  split at h
  · rename_i hg
    injection h with h; subst h
    simp [hg]
  · rename_i j want hg
    simp only [hg]
    split at h
    · rename_i oj hoj
      split at h
      · rename_i d hd
        split at h
        · rename_i t ht
          injection h with h; subst h
          obtain ⟨u, hu, hr⟩ := hfr.env.get ht
          cases hr
          simp [yielded, hoj, hd, hu]
        · rename_i ht
          injection h with h; subst h
          obtain ⟨u, hu, hr⟩ := hfr.env.get ht
          cases hr with
          | tup h1 h2 => simp [yielded, hoj, hd, hu]
        · simp at h
      · simp at h
    · simp at h

theorem undef_rel {A : Nat → Prop} : VR w A r (.tup []) undef := .tup rfl (fun i x u hi => by simp at hi)

/-- An operation in its turn, wanted or not. -/
theorem op_step {ops : Array Oper} {o : Oper} {nx : Nat} {e : Eff} {ro : Option Nat} {n : Nat} {K : Act → World → Prop} {Q : Exit → Act → World → Prop} (hcl : ∀ f args v, cl f args = some v → PC P f args v)
    (hfr : FR X yl A0 sav sv env loc r ds a w) (hnx : ∀ c b v, opRes P (evO env) loc nx o = some (c, .alloc b v) → loc nx = none) (he : effOf P cl ops env loc nx o = some e)
    (hK : ∀ r' a' w', FR X yl A0 sav sv (putD env e.dst e.v) (locE e loc) r' ds a' w' → K a' w') :
    if Region.wanted o (yielded ops a.tmps) then o.wpIn (WF ro) n P a w K Q else (∀ f, o.about P w a.eval = some f → (WF ro).fn f) ∧ K (a.put o.dst undef) w := by
  unfold effOf at he
  split at he
  · rename_i hw
    rw [if_pos (wantD_true hfr hw)]
    split at he
    · rename_i res hres
      exact op_wp hcl hfr (fun b v e => hnx true b v (by rw [hres, e])) hres he hK
    · simp at he
  · rename_i hw
    rw [if_neg (by rw [wantD_true hfr hw]; simp)]
    injection he with he; subst he
    exact ⟨fun f _ => trivial, hK _ _ _ (hfr.val (Below.refl _ _) undef_rel o.dst)⟩
  · simp at he

end

end Go.Proofs.Ytkajafmphemedaa.Ev
