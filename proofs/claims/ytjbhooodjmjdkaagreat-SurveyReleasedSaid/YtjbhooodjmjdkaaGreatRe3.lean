/- Parts of the proof, one behind the other: EvG, EvH, EvI, EvJ. No conditions. -/
import Derived.Test.YtjbhooodjmjdkaaGreatRe2
/-! EvG -/
namespace Go.Proofs.YtjbhooodjmjdkaaGreat.Ev
open Go.RowKit
def putD (env : List AV) (d : Option Nat) (v : AV) : List AV := match d with
  | some d => env.set d v
  | none => env
def wantD (ops : Array Oper) (env : List AV) (o : Oper) : Option Bool := match o.guard with
  | none => some true
  | some (j, want) => match ops[j]? with
    | some oj => match oj.dst with
      | some d => match env[d]? with
        | some (.bool b) => some (b == want)
        | some (.tup []) => some false
        | _ => none
      | none => none
    | none => none
structure Eff where
  dst : Option Nat
  v : AV
  mem : Option (Nat × Blk)
def effR (cl : FuncId → List AV → Option AV) (loc : Nat → Option Blk) (nx : Nat) (o : Oper) : Res → Option Eff
  | .val v => some ⟨o.dst, v, none⟩
  | .alloc b v => some ⟨o.dst, v, some (nx, b)⟩
  | .grow j b v => some ⟨o.dst, v, some (j, b)⟩
  | .store j b => some ⟨o.dst, .tup [], some (j, b)⟩
  | .put j b v => some ⟨o.dst, v, some (j, b)⟩
  | .call f args => match callArgs loc args with
    | some (ex, args') => match cl f args' with
      | some v => match ex && !plainR v with
        | true => none
        | false => some ⟨o.dst, v, none⟩
      | none => none
    | none => none
  | .turn f args => match turnArgs loc args with
    | some (j, t, wd, v, n, g, rest) => match cl f (.osl 0 wd n :: .xsl wd n g 0 n none :: rest) with
      | some (.xsl _ _ g' _ _ _) => match fullCK g'.tag wd with
        | true => some ⟨o.dst, .tup [], some (j, .list t wd v n g')⟩
        | false => none
      | _ => none
    | none => none
  | .fresh f t args => match callArgs loc args with
    | some (_, args') => match cl f (.oss t 0 0 0 0 :: args') with
      | some (.xsl wd n g _ _ _) => match fullCK g.tag wd with
        | true => some ⟨o.dst, .osl nx 0 n, some (nx, .list t wd 0 n g)⟩
        | false => none
      | _ => none
    | none => none
def effOf (P : Program) (cl : FuncId → List AV → Option AV) (ops : Array Oper) (env : List AV) (loc : Nat → Option Blk) (nx : Nat) (o : Oper) : Option Eff :=
  match wantD ops env o with
  | some true => match opRes P (evO env) loc nx o with
    | some (true, res) => effR cl loc nx o res
    | _ => none
  | some false => some ⟨o.dst, .tup [], none⟩
  | none => none
def locE (e : Eff) (l : Nat → Option Blk) : Nat → Option Blk := match e.mem with
  | some (j, b) => fun k => if k = j then some b else l k
  | none => l
def own (r : Rr) (ds : List Nat) : Nat → Prop := fun b => OwnR r b ∨ b ∈ ds
def AR (A0 : Nat → Prop) (r : Rr) (ds : List Nat) : Nat → Prop := fun b => A0 b ∨ own r ds b
abbrev Fx := (Nat → Prop) → (Nat → Prop) → World → Prop
structure Turn (O : Nat → Prop) (w w' : World) : Prop where
  os : w'.os = w.os
  tape : w'.tape = w.tape
  output : w'.output = w.output
  size : w.heap.size ≤ w'.heap.size
  block : ∀ b, b < w.heap.size → ¬ O b → w'.heap[b]? = w.heap[b]?
  drawn : w.drawn ≤ w'.drawn
theorem Turn.below {O : Nat → Prop} {w w' : World} (h : Bel w.heap.size w w') : Turn O w w' := ⟨h.os, h.tape, h.output, h.size, fun b hb _ => h.block b hb, h.drawn⟩
structure FR (X : Fx) (yl : Option Nat) (A0 : Nat → Prop) (sav : List AV) (sv : Array Value) (env : List AV) (loc : Nat → Option Blk) (r : Rr) (ds : List Nat) (a : Act) (w : World) : Prop where
  env : VRs w (AR A0 r ds) r env a.tmps
  sav : VRs w (AR A0 r ds) r sav sv
  mem : ∀ j k, loc j = some k → MemR w (AR A0 r ds) r j k
  dom : ∀ (j b : Nat), r (.obj j) = some b → ∃ k, loc j = some k ∧ isO k = true
  domL : ∀ (j v b : Nat), (r (.lo j v) = some b ∨ r (.lc j v) = some b ∨ r (.ln j v) = some b) → ∃ t wd v' n g, loc j = some (.list t wd v' n g) ∧ v ≤ v'
  inj : ∀ (i j b : Nat), r (.obj i) = some b → r (.obj j) = some b → i = j
  injL : ∀ (i j v u b : Nat), r (.lo i v) = some (b + 1) → r (.lo j u) = some (b + 1) → i = j
  sep : ∀ (i j v b : Nat), r (.obj i) = some b → r (.lo j v) = some (b + 1) → False
  dis : ∀ b, OwnR r b → ¬ A0 b
  lt : ∀ b, OwnR r b → b < w.heap.size
  sepD : ∀ b, OwnR r b → b ∉ ds
  a0 : ∀ b, A0 b → b < w.heap.size
  inv : X A0 (own r ds) w
  clo : ∀ A0 O O' w w', X A0 O w → Turn O w w' → (∀ b, O' b → O b ∨ w.heap.size ≤ b) → X A0 O' w'
  dfr : a.defers = ds.map fun q => { target := .collected q, args := #[] }
  dnd : ds.Nodup
  dok : ∀ q, q ∈ ds → w.heap[q]? = some (.deferred (some [])) ∧ ¬ A0 q
  ylv : r .yl = yl
section
variable {P : Program} {cl : FuncId → List AV → Option AV} {X : Fx} {w : World} {A0 : Nat → Prop} {env : List AV} {loc : Nat → Option Blk} {r : Rr} {ds : List Nat} {sav : List AV} {sv : Array Value} {yl : Option Nat} {a : Act}
theorem OwnR.of {r : Rr} {j b : Nat} (h : r (.obj j) = some b ∨ ∃ v, r (.lo j v) = some (b + 1)) : OwnR r b := h.imp (fun h => ⟨j, h⟩) (fun ⟨v, h⟩ => ⟨j, v, h⟩)
theorem FR.arLt (h : FR X yl A0 sav sv env loc r ds a w) : ∀ b, AR A0 r ds b → b < w.heap.size := by
  rintro b (hb | hj | hb)
  · exact h.a0 b hb
  · exact h.lt b hj
  · exact (Array.getElem?_eq_some_iff.1 (h.dok b hb).1).1
theorem ofConst_rel {A : Nat → Prop} {v : Value} {x : AV} (h : ofConst v = some x) : VR w A r x v := ofV_rel h
theorem FR.eval (h : FR X yl A0 sav sv env loc r ds a w) (x : Operand) (v : AV) (hx : evO env x = some v) : VR w (AR A0 r ds) r v (a.eval x) := by
  cases x with
  | tmp t =>
    simp only [evO] at hx
    obtain ⟨u, hu, hr⟩ := h.env.get hx
    simp only [Act.eval, Array.getD_eq_getD_getElem?, hu, Option.getD_some]
    exact hr
  | const c => exact ofConst_rel hx
  | func f => simp [evO] at hx; subst hx; exact .fn rfl rfl (fun i x u hi => by simp at hi) (fun i x u hi => by simp at hi)
  | global g => simp [evO] at hx
theorem FR.cx (h : FR X yl A0 sav sv env loc r ds a w) : Cx w (AR A0 r ds) r loc (evO env) a.eval := ⟨h.eval, h.mem⟩
theorem VRs.put {A : Nat → Prop} {us : Array Value} {x : AV} {v : Value} (h : VRs w A r env us) (hv : VR w A r x v) (d : Nat) : VRs w A r (env.set d x) (us.setIfInBounds d v) := by
  refine ⟨by simp [h.1], fun i y u hy hu => ?_⟩
  rw [List.getElem?_set] at hy
  rw [Array.getElem?_setIfInBounds] at hu
  split at hy
  · rename_i e
    rw [if_pos e] at hu
    split at hy
    · split at hu
      · injection hy with hy; injection hu with hu; subst hy; subst hu; exact hv
      · simp at hu
    · simp at hy
  · rename_i e
    rw [if_neg e] at hu
    exact h.2 i y u hy hu
theorem VRs.putD {A : Nat → Prop} {x : AV} {v : Value} {a : Act} (h : VRs w A r env a.tmps) (hv : VR w A r x v) (d : Option Nat) : VRs w A r (putD env d x) (a.put d v).tmps := by
  cases d with
  | none => exact h
  | some d => exact VRs.put h hv d
theorem put_defers (a : Act) (d : Option Nat) (v : Value) : (a.put d v).defers = a.defers := by cases d <;> rfl
theorem VRs.putD' {A : Nat → Prop} {x : AV} {v : Value} {us : Array Value} {a : Act} (e : a.tmps = us) (h : VRs w A r env us) (hv : VR w A r x v) (d : Option Nat) : VRs w A r (Ev.putD env d x) (a.put d v).tmps := by
  subst e; exact VRs.putD h hv d
theorem own_keep {w' : World} {base : Nat} {t : TypeId} {size n : Nat} {v : Value} {xs : List Value} (h : w.ownsRow base t size v n xs) (hb : ∀ g, v.ownBlock = some g → w'.heap[g]? = w.heap[g]?) : w'.ownsRow base t size v n xs := by
  refine ⟨h.1, ?_⟩
  rcases h.2 with h | ⟨g, cap, cur, e, h1, h2, h3⟩
  · exact .inl h
  · exact .inr ⟨g, cap, cur, e, h1, by rw [hb g (by rw [e]; rfl)]; exact h2, h3⟩
theorem slBase_own {e n c g : Nat} (h : (Value.slice (slBase e) n c).ownBlock = some g) : e = g + 1 := by
  cases e with
  | zero => simp [slBase, Value.ownBlock] at h
  | succ b => simp [slBase, Value.ownBlock] at h; rw [h]
theorem rows_keep {w' : World} {A A' : Nat → Prop} {get : Get AV} {n wd : Nat} {xs : List Value} (h : RowsR w A get n wd xs) (hk : Keeps A A' w w') : RowsR w' A' get n wd xs := fun i k hi hk' => by
  obtain ⟨u, hu, hv⟩ := h i k hi hk'
  exact ⟨u, hu, hv.mono hk (fun _ _ h => h)⟩
theorem es_keep {w' : World} {A A' : Nat → Prop} {ag : Bool} {wd n : Nat} {get : Get AV} {es : Array MapEntry} (h : EsR w A ag wd n get es) (hk : Keeps A A' w w') : EsR w' A' ag wd n get es := by
  obtain ⟨u, h1, h2, h3⟩ := h
  exact ⟨u, h1, h2, fun i k hi hk' => (h3 i k hi hk').mono hk (fun _ _ h => h)⟩
theorem MemR.keep {w' : World} {A A' : Nat → Prop} {r' : Rr} {j : Nat} {k : Blk} (h : MemR w A r j k) (hk : Keeps A A' w w') (hr : ∀ (j : Key) (b : Nat), r j = some b → r' j = some b)
    (hb : ∀ b, (r (.obj j) = some b ∨ ∃ v, r (.lo j v) = some (b + 1)) → w'.heap[b]? = w.heap[b]?) : MemR w' A' r' j k := by
  cases k with
  | flat t cs =>
    obtain ⟨b, hj, us, hh, hc⟩ := h
    exact ⟨b, hr _ _ hj, us, by rw [hb b (.inl hj)]; exact hh, hc.mono hk hr⟩
  | list t wd v n get =>
    obtain ⟨e, c, xs, g1, g2, g3, g4, g5, g6, hown, hrows⟩ := h
    exact ⟨e, c, xs, hr _ _ g1, hr _ _ g2, hr _ _ g3, g4, g5, g6, own_keep hown (fun g hg => hb g (.inr ⟨v, by rw [g1, slBase_own hg]⟩)), rows_keep hrows hk⟩
  | map t ag wd n get =>
    obtain ⟨b, hj, es, clock, hh, hes⟩ := h
    exact ⟨b, hr _ _ hj, es, clock, by rw [hb b (.inl hj)]; exact hh, es_keep hes hk⟩
theorem FR.val (h : FR X yl A0 sav sv env loc r ds a w) {w' : World} (hb : Bel w.heap.size w w') {x : AV} {v : Value} (hv : VR w' (AR A0 r ds) r x v) (d : Option Nat) : FR X yl A0 sav sv (putD env d x) loc r ds (a.put d v) w' := by
  have hk : Keeps (AR A0 r ds) (AR A0 r ds) w w' := ⟨hb.size, fun b hlt _ => hb.block b hlt, fun b h => .inl h⟩
  refine ⟨VRs.putD (h.env.mono hk (fun _ _ h => h)) hv d, h.sav.mono hk (fun _ _ h => h), fun j k hj => (h.mem j k hj).keep hk (fun _ _ h => h) (fun b hb' => hb.block b (h.lt b ?_)), h.dom, h.domL, h.inj, h.injL, h.sep, h.dis, fun b hj => Nat.lt_of_lt_of_le (h.lt b hj) hb.size, h.sepD, fun b hb' => Nat.lt_of_lt_of_le (h.a0 b hb') hb.size, h.clo _ _ _ _ _ h.inv (.below hb) (fun _ h => .inl h), h.clo, by rw [put_defers]; exact h.dfr, h.dnd, fun q hq => ⟨by rw [hb.block q (Array.getElem?_eq_some_iff.1 (h.dok q hq).1).1]; exact (h.dok q hq).1, (h.dok q hq).2⟩, by simpa using h.ylv⟩
  rcases hb' with hb' | ⟨v, hb'⟩
  · exact .inl ⟨_, hb'⟩
  · exact .inr ⟨_, _, hb'⟩
theorem FR.allocO (h : FR X yl A0 sav sv env loc r ds a w) {nx : Nat} (hnx : loc nx = none) {ob : Obj} {k0 : Blk} (hk0 : isO k0 = true) {x : AV} {v : Value}
    (hm : ∀ (A' : Nat → Prop) (r' : Rr), Keeps (AR A0 r ds) A' w (w.alloc ob) → (∀ (j : Key) (b : Nat), r j = some b → r' j = some b) → r' (.obj nx) = some w.heap.size → MemR (w.alloc ob) A' r' nx k0)
    (hv : ∀ (w' : World) (A' : Nat → Prop) (r' : Rr), r' nx = some w.heap.size → VR w' A' r' x v) (d : Option Nat) :
    ∃ r', FR X yl A0 sav sv (putD env d x) (locE ⟨d, x, some (nx, k0)⟩ loc) r' ds (a.put d v) (w.alloc ob) := by
  have hrnx : r (.obj nx) = none := by
    cases hr : r (.obj nx) with
    | none => rfl
    | some b => obtain ⟨t, hk, _⟩ := h.dom nx b hr; rw [hnx] at hk; cases hk
  let r' : Rr := fun j => if j = .obj nx then some w.heap.size else r j
  have hr' : ∀ (j : Key) (b : Nat), r j = some b → r' j = some b := fun j b hj => by
    have : j ≠ .obj nx := fun e => by subst e; rw [hrnx] at hj; cases hj
    simp [r', this, hj]
  have hinv : ∀ (j b : Nat), r' (.obj j) = some b → (j = nx ∧ b = w.heap.size) ∨ (j ≠ nx ∧ r (.obj j) = some b) := fun j b hj => by
    by_cases e : j = nx
    · simp [r', e] at hj; exact .inl ⟨e, hj.symm⟩
    · simp [r', e] at hj; exact .inr ⟨e, hj⟩
  have hlo : ∀ j v : Nat, r' (.lo j v) = r (.lo j v) := fun j v => by simp [r']
  have hown : ∀ b, OwnR r' b → b = w.heap.size ∨ OwnR r b := fun b hb => by
    rcases hb with ⟨j, hj⟩ | ⟨j, v, hj⟩
    · rcases hinv j b hj with ⟨_, e⟩ | ⟨_, hj'⟩
      · exact .inl e
      · exact .inr (.inl ⟨j, hj'⟩)
    · exact .inr (.inr ⟨j, v, by rw [← hlo]; exact hj⟩)
  have hk : Keeps (AR A0 r ds) (AR A0 r' ds) w (w.alloc ob) := by
    refine ⟨by simp, fun b hlt _ => Below.heap_alloc w _ b hlt, fun b hb => ?_⟩
    rcases hb with hb | hb | hb
    · exact .inl (.inl hb)
    · rcases hown b hb with e | hb
      · right; omega
      · exact .inl (.inr (.inl hb))
    · exact .inl (.inr (.inr hb))
  refine ⟨r', VRs.putD (h.env.mono hk hr') (hv _ _ r' (by simp [r'])) d, h.sav.mono hk hr', fun j k hj => ?_, fun j b hj => ?_, fun j v b hj => ?_, fun i j b hi hj => ?_, fun i j v u b hi hj => h.injL i j v u b (by rw [← hlo]; exact hi) (by rw [← hlo]; exact hj), fun i j v b hi hj => ?_, fun b hj => ?_, fun b hj => ?_, fun b hj hq => (hown b hj).elim (fun e => by have := (Array.getElem?_eq_some_iff.1 (h.dok b hq).1).1; omega) (fun hj' => h.sepD b hj' hq), fun b hb => by have := h.a0 b hb; simp; omega, h.clo _ _ _ _ _ h.inv (.below ((Bel.refl _ w).alloc (Nat.le_refl _) _)) (fun b hb => ?_), h.clo, by rw [put_defers]; exact h.dfr, h.dnd, fun q hq => ⟨by rw [Below.heap_alloc w _ q (Array.getElem?_eq_some_iff.1 (h.dok q hq).1).1]; exact (h.dok q hq).1, (h.dok q hq).2⟩, by simpa [r'] using h.ylv⟩
  · simp only [locE] at hj
    split at hj
    · rename_i e
      injection hj with hj; subst hj; subst e
      exact hm _ _ hk hr' (by simp [r'])
    · rename_i e
      refine (h.mem j k hj).keep hk hr' (fun b hb => Below.heap_alloc w _ b (h.lt b ?_))
      rcases hb with hb' | ⟨v, hb'⟩
      · exact .inl ⟨_, hb'⟩
      · exact .inr ⟨_, _, hb'⟩
  · simp only [locE]
    rcases hinv j b hj with ⟨e, _⟩ | ⟨e, hj'⟩
    · simp only [e, if_true]; exact ⟨k0, rfl, hk0⟩
    · simp only [e, if_false]; exact h.dom j b hj'
  · have hj' : r (.lo j v) = some b ∨ r (.lc j v) = some b ∨ r (.ln j v) = some b := by simpa [r'] using hj
    obtain ⟨t', wd, v', n, g, hl, hle⟩ := h.domL j v b hj'
    have e : j ≠ nx := fun e => by subst e; rw [hnx] at hl; cases hl
    simp only [locE, e, if_false]
    exact ⟨t', wd, v', n, g, hl, hle⟩
  · rcases hinv i b hi with ⟨e1, e2⟩ | ⟨e1, hi'⟩ <;> rcases hinv j b hj with ⟨e3, e4⟩ | ⟨e3, hj'⟩
    · rw [e1, e3]
    · have := h.lt b (.inl ⟨j, hj'⟩); omega
    · have := h.lt b (.inl ⟨i, hi'⟩); omega
    · exact h.inj i j b hi' hj'
  · rw [hlo] at hj
    rcases hinv i b hi with ⟨e1, e2⟩ | ⟨e1, hi'⟩
    · have := h.lt b (.inr ⟨j, v, hj⟩); omega
    · exact h.sep i j v b hi' hj
  · rcases hown b hj with e | hj'
    · rw [e]; exact fun hA => by have := h.a0 _ hA; omega
    · exact h.dis b hj'
  · simp only [World.size_alloc]
    rcases hown b hj with e | hj'
    · omega
    · have := h.lt b hj'; omega
  · rcases hb with hb | hb
    · rcases hown b hb with e | hj'
      · right; omega
      · exact .inl (.inl hj')
    · exact .inl (.inr hb)
theorem FR.alloc (h : FR X yl A0 sav sv env loc r ds a w) {nx : Nat} (hnx : loc nx = none) {t : TypeId} {cs : List AV} {us : Array Value} {x : AV} {v : Value} (hc : VRs w (AR A0 r ds) r cs us)
    (hv : ∀ (w' : World) (A' : Nat → Prop) (r' : Rr), r' nx = some w.heap.size → VR w' A' r' x v) (d : Option Nat) :
    ∃ r', FR X yl A0 sav sv (putD env d x) (locE ⟨d, x, some (nx, .flat t cs)⟩ loc) r' ds (a.put d v) (w.alloc (.cells us t)) :=
  h.allocO (ob := .cells us t) (k0 := .flat t cs) hnx rfl (fun A' r' hk hr' e => ⟨w.heap.size, e, us, by show (w.heap.push _)[w.heap.size]? = _; simp, hc.mono hk hr'⟩) hv d
theorem FR.allocM (h : FR X yl A0 sav sv env loc r ds a w) {nx : Nat} (hnx : loc nx = none) {t : TypeId} {ag : Bool} {wd : Nat} {get : Get AV} {x : AV} {v : Value}
    (hv : ∀ (w' : World) (A' : Nat → Prop) (r' : Rr), r' nx = some w.heap.size → VR w' A' r' x v) (d : Option Nat) :
    ∃ r', FR X yl A0 sav sv (putD env d x) (locE ⟨d, x, some (nx, .map t ag wd 0 get)⟩ loc) r' ds (a.put d v) (w.alloc (.map #[] 0)) :=
  h.allocO (ob := .map #[] 0) (k0 := .map t ag wd 0 get) hnx rfl (fun A' r' hk hr' e => ⟨w.heap.size, e, #[], 0, by show (w.heap.push _)[w.heap.size]? = _; simp, fun _ _ => .nilFunc, rfl, fun i hi => absurd hi (Nat.not_lt_zero _), fun i k hi => absurd hi (Nat.not_lt_zero _)⟩) hv d
theorem FR.notDfr (h : FR X yl A0 sav sv env loc r ds a w) {j v wd n b : Nat} {t : TypeId} {g : Get AV} (hl : loc j = some (.list t wd v n g)) (hlo : r (.lo j v) = some (b + 1)) {o : Obj} (ho : ∀ c t f, o ≠ .cells c t f) (hd : w.heap[b]? = some o) : False := by
  obtain ⟨e, c, xs, g1, g2, g3, g4, g5, g6, hown, hrows⟩ := h.mem _ _ hl
  rw [hlo] at g1; injection g1 with g1; subst g1
  rcases hown.2 with ⟨e, _⟩ | ⟨g', cap, cur, e, h1, h2, h3⟩
  · simp [slBase] at e
  · simp only [slBase, Value.slice.injEq, Option.some.injEq, Addr.mk.injEq] at e
    rw [← e.1.1, hd] at h2
    injection h2 with h2
    exact ho _ _ _ h2
theorem FR.grow2 (h : FR X yl A0 sav sv env loc r ds a w) {nx j v n e c wd : Nat} (hnx : j = nx → loc nx = none) {t : TypeId} {get : Get AV} {ob : Option Nat} {xs : List Value} {w1 : World}
    (hob : ∀ b, ob = some b → ∃ v', v = v' + 1 ∧ r (.lo j v') = some (b + 1)) (hv0 : v = 0 ∧ j = nx ∨ ∃ t' wd' v' n' get', v = v' + 1 ∧ loc j = some (.list t' wd' v' n' get'))
    (hown : w1.ownsRow 0 t wd (.slice (slBase e) n c) n xs) (hrows : RowsR w (AR A0 r ds) get n wd xs) (hg : w.grownBy w1 ob) (hbl : ∀ b, e = b + 1 → ob = some b ∨ w.heap.size ≤ b) (h0 : e = 0 → n = 0 ∧ c = 0) (hnc : n ≤ c ∧ n ≤ maxL) (hwd : 0 < wd) (hdr : w.drawn ≤ w1.drawn) (d : Option Nat) :
    ∃ r', VR w1 (AR A0 r' ds) r' (.osl j v n) (.slice (slBase e) n c) ∧ FR X yl A0 sav sv (putD env d (.osl j v n)) (locE ⟨d, .osl j v n, some (j, .list t wd v n get)⟩ loc) r' ds (a.put d (.slice (slBase e) n c)) w1 := by
  have hfree : ∀ b, ¬ (r (.lo j v) = some b ∨ r (.lc j v) = some b ∨ r (.ln j v) = some b) := fun b hb => by
    obtain ⟨t', wd', v', n', g, hl, hle⟩ := h.domL j v b hb
    rcases hv0 with ⟨_, e2⟩ | ⟨_, _, v2, _, _, e1, e2⟩
    · rw [e2, hnx e2] at hl; cases hl
    · rw [e2] at hl; injection hl with hl; injection hl with _ _ hl; omega
  let r' : Rr := fun k => if k = .lo j v then some e else if k = .lc j v then some c else if k = .ln j v then some n else r k
  have hr' : ∀ (k : Key) (b : Nat), r k = some b → r' k = some b := fun k b hk => by
    have e1 : k ≠ .lo j v := fun e => hfree b (.inl (by rw [← e]; exact hk))
    have e2 : k ≠ .lc j v := fun e => hfree b (.inr (.inl (by rw [← e]; exact hk)))
    have e3 : k ≠ .ln j v := fun e => hfree b (.inr (.inr (by rw [← e]; exact hk)))
    simp [r', e1, e2, e3, hk]
  have hobj : ∀ i : Nat, r' (.obj i) = r (.obj i) := fun i => by simp [r']
  have hlo : ∀ i u b : Nat, r' (.lo i u) = some b → (i = j ∧ u = v ∧ b = e) ∨ r (.lo i u) = some b := fun i u b hb => by
    by_cases e1 : i = j ∧ u = v
    · obtain ⟨e1, e2⟩ := e1; subst e1; subst e2; simp [r'] at hb; exact .inl ⟨rfl, rfl, hb.symm⟩
    · right
      have : Key.lo i u ≠ .lo j v := fun e => by injection e with e2 e3; exact e1 ⟨e2, e3⟩
      simpa [r', this] using hb
  have hobown : ∀ b, ob = some b → OwnR r b := fun b hb => by obtain ⟨v', _, h2⟩ := hob b hb; exact .inr ⟨_, _, h2⟩
  have hown' : ∀ b, OwnR r' b → OwnR r b ∨ (e = b + 1 ∧ w.heap.size ≤ b) := fun b hb => by
    rcases hb with ⟨i, hi⟩ | ⟨i, u, hi⟩
    · exact .inl (.inl ⟨i, by rw [← hobj]; exact hi⟩)
    · rcases hlo i u _ hi with ⟨_, _, e3⟩ | hi
      · rcases hbl b e3.symm with e4 | e4
        · exact .inl (hobown b e4)
        · exact .inr ⟨e3.symm, e4⟩
      · exact .inl (.inr ⟨i, u, hi⟩)
  have hk : Keeps (AR A0 r ds) (AR A0 r' ds) w w1 := by
    refine ⟨hg.size, fun b hlt hA => hg.block b hlt (fun e => hA (.inr (.inl (hobown b e.symm)))), fun b hb => ?_⟩
    rcases hb with hb | hb | hb
    · exact .inl (.inl hb)
    · rcases hown' b hb with hb | ⟨_, hb⟩
      · exact .inl (.inr (.inl hb))
      · exact .inr hb
    · exact .inl (.inr (.inr hb))
  have hsame : ∀ i b, i ≠ j → (r (.obj i) = some b ∨ ∃ u, r (.lo i u) = some (b + 1)) → w1.heap[b]? = w.heap[b]? := fun i b hij hb => by
    have hlt : b < w.heap.size := by
      rcases hb with hb | ⟨u, hb⟩
      · exact h.lt b (.inl ⟨i, hb⟩)
      · exact h.lt b (.inr ⟨i, u, hb⟩)
    refine hg.block b hlt (fun e => ?_)
    obtain ⟨v', _, h2⟩ := hob b e.symm
    rcases hb with hb | ⟨u, hb⟩
    · exact h.sep i j v' b hb h2
    · exact hij (h.injL i j u v' b hb h2)
  refine ⟨r', .osl (by simp [r']) (by simp [r']) (by simp [r']) h0 hnc, VRs.putD (h.env.mono hk hr') (.osl (by simp [r']) (by simp [r']) (by simp [r']) h0 hnc) d, h.sav.mono hk hr', fun i k hi => ?_, fun i b hi => ?_, fun i u b hi => ?_, fun i i' b hi hi' => h.inj i i' b (by rw [← hobj]; exact hi) (by rw [← hobj]; exact hi'), fun i i' u u' b hi hi' => ?_, fun i i' u b hi hi' => ?_, fun b hb => ?_, fun b hb => ?_, fun b hb hq => (hown' b hb).elim (fun hb => h.sepD b hb hq) (fun e => by have := (Array.getElem?_eq_some_iff.1 (h.dok b hq).1).1; omega), fun b hb => Nat.lt_of_lt_of_le (h.a0 b hb) hg.size, h.clo _ _ _ _ _ h.inv ⟨hg.os, hg.tape, hg.output, hg.size, fun b hlt hO => hg.block b hlt (fun e => hO (.inl (hobown b e.symm))), hdr⟩ (fun b hb => ?_), h.clo, by rw [put_defers]; exact h.dfr, h.dnd, fun q hq => ⟨?_, (h.dok q hq).2⟩, by simpa [r'] using h.ylv⟩
  · simp only [locE] at hi
    split at hi
    · rename_i e1
      injection hi with hi; subst hi; subst e1
      exact ⟨e, c, xs, by simp [r'], by simp [r'], by simp [r'], h0, hnc, hwd, hown, rows_keep hrows hk⟩
    · rename_i e1
      exact (h.mem i k hi).keep hk hr' (fun b hb => hsame i b e1 hb)
  · rw [hobj] at hi
    obtain ⟨t1, hl, ho1⟩ := h.dom i b hi
    simp only [locE]
    split
    · rename_i e1
      subst e1
      rcases hv0 with ⟨_, e3⟩ | ⟨_, _, v2, _, _, e3, e4⟩
      · rw [e3, hnx e3] at hl; cases hl
      · rw [e4] at hl; cases hl; cases ho1
    · exact ⟨t1, hl, ho1⟩
  · simp only [locE]
    by_cases e1 : i = j
    · subst e1
      simp only [if_true]
      by_cases e2 : u = v
      · exact ⟨_, _, _, _, _, rfl, Nat.le_of_eq e2⟩
      · have hi' : r (.lo i u) = some b ∨ r (.lc i u) = some b ∨ r (.ln i u) = some b := by simpa [r', e2] using hi
        obtain ⟨t', wd', v', n', g, hl, hle⟩ := h.domL i u b hi'
        refine ⟨_, _, _, _, _, rfl, ?_⟩
        rcases hv0 with ⟨_, e3⟩ | ⟨_, _, v2, _, _, e3, e4⟩
        · rw [e3, hnx e3] at hl; cases hl
        · rw [e4] at hl; injection hl with hl; injection hl with _ _ hl; omega
    · simp only [e1, if_false]
      exact h.domL i u b (by simpa [r', e1] using hi)
  · rcases hlo i u _ hi with ⟨e1, e2, e3⟩ | hi <;> rcases hlo i' u' _ hi' with ⟨e4, e5, e6⟩ | hi'
    · rw [e1, e4]
    · rcases hbl b e3.symm with e7 | e7
      · obtain ⟨v', _, h2⟩ := hob b e7
        rw [e1]; exact h.injL _ _ _ _ b h2 hi'
      · have := h.lt b (.inr ⟨_, _, hi'⟩); omega
    · rcases hbl b e6.symm with e7 | e7
      · obtain ⟨v', _, h2⟩ := hob b e7
        rw [e4]; exact h.injL _ _ _ _ b hi h2
      · have := h.lt b (.inr ⟨_, _, hi⟩); omega
    · exact h.injL _ _ _ _ b hi hi'
  · rw [hobj] at hi
    rcases hlo i' u _ hi' with ⟨e1, e2, e3⟩ | hi'
    · rcases hbl b e3.symm with e7 | e7
      · obtain ⟨v', _, h2⟩ := hob b e7
        exact h.sep _ _ _ b hi h2
      · have := h.lt b (.inl ⟨_, hi⟩); omega
    · exact h.sep _ _ _ b hi hi'
  · rcases hown' b hb with hb | ⟨_, hb⟩
    · exact h.dis b hb
    · exact fun hA => by have := h.a0 _ hA; omega
  · rcases hown' b hb with hb | ⟨e1, _⟩
    · exact Nat.lt_of_lt_of_le (h.lt b hb) hg.size
    · subst e1; exact (hown.lt b rfl).2
  · rcases hb with hb | hb
    · rcases hown' b hb with hb | ⟨_, hb⟩
      · exact .inl (.inl hb)
      · exact .inr hb
    · exact .inl (.inr hb)
  · have hq' := (h.dok q hq).1
    rw [hg.block q (Array.getElem?_eq_some_iff.1 hq').1 (fun e1 => ?_)]
    · exact hq'
    · obtain ⟨v', e2, h2⟩ := hob q e1.symm
      rcases hv0 with ⟨e3, _⟩ | ⟨_, _, v2, _, _, e3, e4⟩
      · omega
      · have : v2 = v' := by omega
        subst this
        exact h.notDfr e4 h2 (by simp) hq'
theorem FR.grow (h : FR X yl A0 sav sv env loc r ds a w) {nx j v n e c wd : Nat} (hnx : j = nx → loc nx = none) {t : TypeId} {get : Get AV} {ob : Option Nat} {xs : List Value} {w1 : World}
    (hob : ∀ b, ob = some b → ∃ v', v = v' + 1 ∧ r (.lo j v') = some (b + 1)) (hv0 : v = 0 ∧ j = nx ∨ ∃ t' wd' v' n' get', v = v' + 1 ∧ loc j = some (.list t' wd' v' n' get'))
    (hown : w1.ownsRow 0 t wd (.slice (slBase e) n c) n xs) (hrows : RowsR w (AR A0 r ds) get n wd xs) (hg : w.grownBy w1 ob) (hbl : ∀ b, e = b + 1 → ob = some b ∨ w.heap.size ≤ b) (h0 : e = 0 → n = 0 ∧ c = 0) (hnc : n ≤ c ∧ n ≤ maxL) (hwd : 0 < wd) (hdr : w.drawn ≤ w1.drawn) (d : Option Nat) :
    ∃ r', FR X yl A0 sav sv (putD env d (.osl j v n)) (locE ⟨d, .osl j v n, some (j, .list t wd v n get)⟩ loc) r' ds (a.put d (.slice (slBase e) n c)) w1 := by
  obtain ⟨r', _, h'⟩ := h.grow2 hnx hob hv0 hown hrows hg hbl h0 hnc hwd hdr d
  exact ⟨r', h'⟩
theorem heap_setRow_same {b : Nat} {cur us : Array Value} {t : TypeId} (hh : w.heap[b]? = some (.cells cur t (0, 0))) : (w.setRow b us).heap[b]? = some (.cells us t (0, 0)) := setRow_heap w b cur us t (0, 0) hh
structure Turn1 (b : Nat) (w w' : World) : Prop where
  os : w'.os = w.os
  tape : w'.tape = w.tape
  output : w'.output = w.output
  drawn : w'.drawn = w.drawn
  size : w'.heap.size = w.heap.size
  other : ∀ b', b' ≠ b → w'.heap[b']? = w.heap[b']?
theorem FR.storeO (h : FR X yl A0 sav sv env loc r ds a w) {j b : Nat} {k0 : Blk} (hk0 : isO k0 = true) {w' : World} (hj : r j = some b) (ht : Turn1 b w w') (hnd : ∀ q, w.heap[b]? = some (.deferred q) → False)
    (hm : Keeps (AR A0 r ds) (AR A0 r ds) w w' → MemR w' (AR A0 r ds) r j k0) (d : Option Nat) :
    FR X yl A0 sav sv (putD env d (.tup [])) (locE ⟨d, .tup [], some (j, k0)⟩ loc) r ds (a.put d undef) w' := by
  have hk : Keeps (AR A0 r ds) (AR A0 r ds) w w' := ⟨Nat.le_of_eq ht.size.symm, fun b' _ hA => ht.other b' (fun e => hA (by subst e; exact .inr (.inl (.inl ⟨j, hj⟩)))), fun b h => .inl h⟩
  refine ⟨VRs.putD (h.env.mono hk (fun _ _ h => h)) (.tup rfl (fun i x u hi => by simp at hi)) d, h.sav.mono hk (fun _ _ h => h), fun i k' hi => ?_, fun i b' hi => ?_, fun i u b' hi => ?_, h.inj, h.injL, h.sep, h.dis, fun b' hi => by rw [ht.size]; exact h.lt b' hi, h.sepD, fun b' hb => by rw [ht.size]; exact h.a0 b' hb, ?_, h.clo, by rw [put_defers]; exact h.dfr, h.dnd, fun q hq => ⟨by rw [ht.other q (fun e => by subst e; exact hnd _ (h.dok q hq).1)]; exact (h.dok q hq).1, (h.dok q hq).2⟩, by simpa using h.ylv⟩
  · simp only [locE] at hi
    split at hi
    · rename_i e
      injection hi with hi; subst hi; subst e
      exact hm hk
    · rename_i e
      refine (h.mem i k' hi).keep hk (fun _ _ h => h) (fun b' hb' => ht.other b' (fun e' => ?_))
      subst e'
      rcases hb' with hb' | ⟨u, hb'⟩
      · exact e (h.inj i j _ hb' hj)
      · exact h.sep _ _ _ _ hj hb'
  · simp only [locE]
    by_cases e : i = j
    · simp only [e, if_true]; exact ⟨k0, rfl, hk0⟩
    · simp only [e, if_false]; exact h.dom i b' hi
  · obtain ⟨t', wd, v', n, g, hl', hle⟩ := h.domL i u b' hi
    have e : i ≠ j := fun e => by
      subst e; obtain ⟨k2, e2, e3⟩ := h.dom i b hj; rw [e2] at hl'; cases hl'; cases e3
    simp only [locE, e, if_false]
    exact ⟨t', wd, v', n, g, hl', hle⟩
  · exact h.clo _ _ _ _ _ h.inv ⟨ht.os, ht.tape, ht.output, Nat.le_of_eq ht.size.symm, fun k _ hO => ht.other k (fun e => hO (by subst e; exact .inl (.inl ⟨j, hj⟩))), Nat.le_of_eq ht.drawn.symm⟩ (fun _ h => .inl h)
theorem FR.store (h : FR X yl A0 sav sv env loc r ds a w) {j b : Nat} {t : TypeId} {cs : List AV} {cur us : Array Value} {k : Blk} (hj : r j = some b) (hl : loc j = some k) (hh : w.heap[b]? = some (.cells cur t (0, 0))) (hc : VRs w (AR A0 r ds) r cs us) (d : Option Nat) :
    FR X yl A0 sav sv (putD env d (.tup [])) (locE ⟨d, .tup [], some (j, .flat t cs)⟩ loc) r ds (a.put d undef) (w.setRow b us) :=
  h.storeO (k0 := .flat t cs) (w' := w.setRow b us) rfl hj ⟨rfl, rfl, rfl, rfl, by simp, fun b' hne => setRow_other w b b' us hne⟩ (fun q hq => by rw [hh] at hq; cases hq) (fun hk => ⟨b, hj, us, heap_setRow_same hh, hc.mono hk (fun _ _ h => h)⟩) d
theorem FR.storeM (h : FR X yl A0 sav sv env loc r ds a w) {j b : Nat} {t : TypeId} {ag : Bool} {wd n : Nat} {get : Get AV} {es es' : Array MapEntry} {c c' : Nat} (hj : r j = some b) (hh : w.heap[b]? = some (.map es c)) (hes : EsR w (AR A0 r ds) ag wd n get es') (d : Option Nat) :
    FR X yl A0 sav sv (putD env d (.tup [])) (locE ⟨d, .tup [], some (j, .map t ag wd n get)⟩ loc) r ds (a.put d undef) { w with heap := w.heap.setIfInBounds b (.map es' c') } :=
  h.storeO (k0 := .map t ag wd n get) (w' := { w with heap := w.heap.setIfInBounds b (.map es' c') }) rfl hj ⟨rfl, rfl, rfl, rfl, by simp, fun b' hne => (MapKept.heap_set hh).2 b' hne⟩ (fun q hq => by rw [hh] at hq; cases hq) (fun hk => ⟨b, hj, es', c', (MapKept.heap_set hh).1, es_keep hes hk⟩) d
theorem FR.putL (h : FR X yl A0 sav sv env loc r ds a w) {j b v n n' c wd : Nat} {t t' : TypeId} {get get' : Get AV} {xs : List Value} {w1 : World} (hl : loc j = some (.list t' wd v n' get')) (hlo : r (.lo j v) = some (b + 1)) (hlc : r (.lc j v) = some c) (hln : r (.ln j v) = some n)
    (hg : w.grownBy w1 (some b)) (hown : w1.ownsRow 0 t wd (.slice (some ⟨b, 0, none⟩) n c) n xs) (hrows : RowsR w (AR A0 r ds) get n wd xs) (hnc : n ≤ c ∧ n ≤ maxL) (hwd : 0 < wd) (hdr : w.drawn ≤ w1.drawn) {x : AV} {u : Value} (hx : VR w (AR A0 r ds) r x u) (d : Option Nat) :
    FR X yl A0 sav sv (putD env d x) (locE ⟨d, x, some (j, .list t wd v n get)⟩ loc) r ds (a.put d u) w1 := by
  have hob : OwnR r b := .inr ⟨j, v, hlo⟩
  have hk : Keeps (AR A0 r ds) (AR A0 r ds) w w1 := ⟨hg.size, fun b' hlt hA => hg.block b' hlt (fun e => hA (by injection e with e; subst e; exact .inr (.inl hob))), fun b h => .inl h⟩
  refine ⟨VRs.putD (h.env.mono hk (fun _ _ h => h)) (hx.mono hk (fun _ _ h => h)) d, h.sav.mono hk (fun _ _ h => h), fun i k' hi => ?_, fun i b' hi => ?_, fun i u b' hi => ?_, h.inj, h.injL, h.sep, h.dis, fun b' hi => Nat.lt_of_lt_of_le (h.lt b' hi) hg.size, h.sepD, fun b' hb => Nat.lt_of_lt_of_le (h.a0 b' hb) hg.size, ?_, h.clo, by rw [put_defers]; exact h.dfr, h.dnd, fun q hq => ⟨?_, (h.dok q hq).2⟩, by simpa using h.ylv⟩
  · simp only [locE] at hi
    split at hi
    · rename_i e
      injection hi with hi; subst hi; subst e
      exact ⟨b + 1, c, xs, hlo, hlc, hln, fun h => by omega, hnc, hwd, hown, rows_keep hrows hk⟩
    · rename_i e
      refine (h.mem i k' hi).keep hk (fun _ _ h => h) (fun b' hb' => hg.block b' (h.lt b' ?_) (fun e' => ?_))
      · rcases hb' with hb' | ⟨u, hb'⟩
        · exact .inl ⟨_, hb'⟩
        · exact .inr ⟨_, _, hb'⟩
      · injection e' with e'; subst e'
        rcases hb' with hb' | ⟨u, hb'⟩
        · exact h.sep _ _ _ _ hb' hlo
        · exact e (h.injL _ _ _ _ _ hb' hlo)
  · simp only [locE]
    by_cases e : i = j
    · subst e; obtain ⟨k2, e2, e3⟩ := h.dom i b' hi; rw [hl] at e2; cases e2; cases e3
    · simp only [e, if_false]; exact h.dom i b' hi
  · obtain ⟨t2, wd2, v2, n2, g2, hl', hle⟩ := h.domL i u b' hi
    simp only [locE]
    by_cases e : i = j
    · subst e
      rw [hl] at hl'; injection hl' with hl'; injection hl' with _ _ e3
      simp only [if_true]
      exact ⟨_, _, _, _, _, rfl, by omega⟩
    · simp only [e, if_false]
      exact ⟨t2, wd2, v2, n2, g2, hl', hle⟩
  · exact h.clo _ _ _ _ _ h.inv ⟨hg.os, hg.tape, hg.output, hg.size, fun k hlt hO => hg.block k hlt (fun e => hO (by injection e with e; subst e; exact .inl hob)), hdr⟩ (fun _ h => .inl h)
  · have hq' := (h.dok q hq).1
    rw [hg.block q (Array.getElem?_eq_some_iff.1 hq').1 (fun e1 => ?_)]
    · exact hq'
    · injection e1 with e1; subst e1
      exact h.notDfr hl hlo (by simp) hq'
theorem FR.storeL (h : FR X yl A0 sav sv env loc r ds a w) {j b v n n' c wd : Nat} {t t' : TypeId} {get get' : Get AV} {xs : List Value} {w1 : World} (hl : loc j = some (.list t' wd v n' get')) (hlo : r (.lo j v) = some (b + 1)) (hlc : r (.lc j v) = some c) (hln : r (.ln j v) = some n)
    (hg : w.grownBy w1 (some b)) (hown : w1.ownsRow 0 t wd (.slice (some ⟨b, 0, none⟩) n c) n xs) (hrows : RowsR w (AR A0 r ds) get n wd xs) (hnc : n ≤ c ∧ n ≤ maxL) (hwd : 0 < wd) (hdr : w.drawn ≤ w1.drawn) (d : Option Nat) :
    FR X yl A0 sav sv (putD env d (.tup [])) (locE ⟨d, .tup [], some (j, .list t wd v n get)⟩ loc) r ds (a.put d undef) w1 :=
  h.putL hl hlo hlc hln hg hown hrows hnc hwd hdr (.tup rfl (fun i x u hi => by simp at hi)) d
theorem FR.turnL (h : FR X yl A0 sav sv env loc r ds a w) {j e v n c wd n' : Nat} {t t' : TypeId} {get get' : Get AV} {xs : List Value} {w1 : World} (hl : loc j = some (.list t' wd v n' get')) (hlo : r (.lo j v) = some e) (hlc : r (.lc j v) = some c) (hln : r (.ln j v) = some n)
    (hg : w.grownBy w1 (obOf e)) (hown : w1.ownsRow 0 t wd (.slice (slBase e) n c) n xs) (hrows : RowsR w (AR A0 r ds) get n wd xs) (h0 : e = 0 → n = 0 ∧ c = 0) (hnc : n ≤ c ∧ n ≤ maxL) (hwd : 0 < wd) (hdr : w.drawn ≤ w1.drawn) (d : Option Nat) :
    FR X yl A0 sav sv (putD env d (.tup [])) (locE ⟨d, .tup [], some (j, .list t wd v n get)⟩ loc) r ds (a.put d undef) w1 := by
  cases e with
  | succ b => exact h.storeL hl hlo hlc hln hg hown hrows hnc hwd hdr d
  | zero =>
    have hb : ∀ k, k < w.heap.size → w1.heap[k]? = w.heap[k]? := fun k hk => hg.block k hk (fun e => by cases e)
    have hk : Keeps (AR A0 r ds) (AR A0 r ds) w w1 := ⟨hg.size, fun b' hlt _ => hb b' hlt, fun b h => .inl h⟩
    refine ⟨VRs.putD (h.env.mono hk (fun _ _ h => h)) (.tup rfl (fun i x u hi => by simp at hi)) d, h.sav.mono hk (fun _ _ h => h), fun i k' hi => ?_, fun i b' hi => ?_, fun i u b' hi => ?_, h.inj, h.injL, h.sep, h.dis, fun b' hi => Nat.lt_of_lt_of_le (h.lt b' hi) hg.size, h.sepD, fun b' hb => Nat.lt_of_lt_of_le (h.a0 b' hb) hg.size, ?_, h.clo, by rw [put_defers]; exact h.dfr, h.dnd, fun q hq => ⟨?_, (h.dok q hq).2⟩, by simpa using h.ylv⟩
    · simp only [locE] at hi
      split at hi
      · rename_i e
        injection hi with hi; subst hi; subst e
        exact ⟨0, c, xs, hlo, hlc, hln, h0, hnc, hwd, hown, rows_keep hrows hk⟩
      · exact (h.mem i k' hi).keep hk (fun _ _ h => h) (fun b' hb' => hb b' (h.lt b' (by
          rcases hb' with hb' | ⟨u, hb'⟩
          · exact .inl ⟨_, hb'⟩
          · exact .inr ⟨_, _, hb'⟩)))
    · simp only [locE]
      by_cases e : i = j
      · subst e; obtain ⟨k2, e2, e3⟩ := h.dom i b' hi; rw [hl] at e2; cases e2; cases e3
      · simp only [e, if_false]; exact h.dom i b' hi
    · obtain ⟨t2, wd2, v2, n2, g2, hl', hle⟩ := h.domL i u b' hi
      simp only [locE]
      by_cases e : i = j
      · subst e
        rw [hl] at hl'; injection hl' with hl'; injection hl' with _ _ e3
        simp only [if_true]
        exact ⟨_, _, _, _, _, rfl, by omega⟩
      · simp only [e, if_false]
        exact ⟨t2, wd2, v2, n2, g2, hl', hle⟩
    · exact h.clo _ _ _ _ _ h.inv ⟨hg.os, hg.tape, hg.output, hg.size, fun k hlt _ => hb k hlt, hdr⟩ (fun _ h => .inl h)
    · have hq' := (h.dok q hq).1
      rw [hb q (Array.getElem?_eq_some_iff.1 hq').1]; exact hq'
theorem turnArgs_rel {args rest : List AV} {vs : Array Value} {j wd v n : Nat} {t : TypeId} {g : Get AV} (h : FR X yl A0 sav sv env loc r ds a w) (hc : turnArgs loc args = some (j, t, wd, v, n, g, rest)) (hv : VRs w (AR A0 r ds) r args vs) :
    ∃ e c xs us, vs = #[.slice (slBase e) n c] ++ us ∧ loc j = some (.list t wd v n g) ∧ r (.lo j v) = some e ∧ r (.lc j v) = some c ∧ r (.ln j v) = some n ∧ (e = 0 → n = 0 ∧ c = 0) ∧ (n ≤ c ∧ n ≤ maxL) ∧ 0 < wd ∧
      w.ownsRow 0 t wd (.slice (slBase e) n c) n xs ∧ RowsR w (AR A0 r ds) g n wd xs ∧ VRs w (AR A0 r ds) noR rest us := by
  unfold turnArgs at hc
  split at hc
  · rename_i j0 v0 n0 rest0
    split at hc
    · rename_i t0 wd0 v1 n1 g0 hl
      split at hc
      · rename_i hb
        simp only [Bool.and_eq_true] at hb
        have e1 := Nat.eq_of_beq_eq_true hb.1; subst e1
        injection hc with hc
        injection hc with a1 hc; injection hc with a2 hc; injection hc with a3 hc; injection hc with a4 hc; injection hc with a5 hc; injection hc with a6 a7
        subst a1; subst a2; subst a3; subst a4; subst a5; subst a6; subst a7
        obtain ⟨e, c, xs, m1, m2, m3, m4, m5, m6, m7, m8⟩ := h.mem _ _ hl
        obtain ⟨hsz, hval⟩ := hv
        have hpos : 0 < vs.size := by rw [← hsz]; simp
        have h0 := hval 0 _ _ rfl (Array.getElem?_eq_getElem hpos)
        obtain ⟨us, hus⟩ : ∃ us : Array Value, vs = #[vs[0]] ++ us := ⟨vs.extract 1 vs.size, by
          apply Array.ext'
          simp only [Array.toList_append, Array.toList_extract, List.extract_eq_take_drop]
          cases hvs : vs.toList with
          | nil => have : vs.size = 0 := by rw [← Array.length_toList, hvs]; rfl
                   omega
          | cons x l =>
            have hx : vs[0] = x := by
              have : vs.toList[0]? = some x := by rw [hvs]; rfl
              rw [Array.getElem?_toList, Array.getElem?_eq_getElem hpos] at this
              injection this
            have hl' : vs.size = l.length + 1 := by rw [← Array.length_toList, hvs]; rfl
            rw [hx, hl']; simp⟩
        have hfirst : vs[0] = .slice (slBase e) n1 c := by
          generalize vs[0] = z at h0
          cases h0 with
          | osl b1 b2 b3 b4 b5 =>
            rw [m1] at b1; injection b1 with b1; subst b1
            rw [m2] at b2; injection b2 with b2; subst b2
            rw [m3] at b3; injection b3 with b3; subst b3
            rfl
        refine ⟨e, c, xs, us, by rw [← hfirst]; exact hus, hl, m1, m2, m3, m4, m5, m6, m7, m8, ?_⟩
        have hr : VRs w (AR A0 r ds) r rest0 us := by
          have hs : us.size = rest0.length := by
            have := congrArg Array.size hus
            simp at this; simp at hsz; omega
          refine ⟨hs.symm, fun i x u hx hu => hval (i + 1) x u (by simpa using hx) ?_⟩
          rw [hus, Array.getElem?_append_right (by simp)]
          simpa using hu
        exact hr.weaken hb.2 (fun _ h => h)
      · simp at hc
    · simp at hc
  · simp at hc
theorem opRes_notDefer {loc : Nat → Option Blk} {p : Operand → Option AV} {nx : Nat} {o : Oper} {x : Bool × Res} (h : opRes P p loc nx o = some x) : ∀ c, o.op ≠ .defer c := by
  intro c e
  simp [opRes, native, e, byCalm, notSelect] at h
theorem wf_fn (ro : Option Nat) (f : FuncId) : (WF ro).fn f := trivial
theorem wf_depth (ro : Option Nat) : (WF ro).depth = none := rfl
theorem callArgs_rel {args args' : List AV} {vs : Array Value} {ex : Bool} (h : FR X yl A0 sav sv env loc r ds a w) (hc : callArgs loc args = some (ex, args')) (hv : VRs w (AR A0 r ds) r args vs) :
    ∃ A', (ex = false → A' = AR A0 r ds) ∧ (∀ b, A' b → b < w.heap.size) ∧ VRs w A' noR args' vs := by
  unfold callArgs at hc
  split at hc
  · rename_i hn
    injection hc with hc; injection hc with h1 h2; subst h1; subst h2
    exact ⟨AR A0 r ds, fun _ => rfl, h.arLt, hv.weaken hn (fun b h => h)⟩
  · split at hc
    · rename_i xs hx
      injection hc with hc; injection hc with h1 h2; subst h1; subst h2
      exact ⟨noA, fun e => by simp at e, fun b hb => hb.elim, expAlls_rel h.mem (fun b hb => hb.elim) (fun b _ hb => hb.elim) hx hv⟩
    · simp at hc
theorem op_wp {o : Oper} {nx : Nat} {e : Eff} {res : Res} {ro : Option Nat} {n : Nat} {K : Act → World → Prop} {Q : Exit → Act → World → Prop} (hcl : ∀ f args v, cl f args = some v → CC P f args v)
    (hfr : FR X yl A0 sav sv env loc r ds a w) (hnx : ∀ b v f t ar, res = .alloc b v ∨ res = .grow nx b v ∨ res = .fresh f t ar → loc nx = none) (hres : opRes P (evO env) loc nx o = some (true, res)) (he : effR cl loc nx o res = some e)
    (hK : ∀ r' a' w', FR X yl A0 sav sv (putD env e.dst e.v) (locE e loc) r' ds a' w' → K a' w') : o.wpIn (WF ro) n P a w K Q := by
  have hdoes := opRes_sound hfr.cx hres
  refine ⟨fun f _ => trivial, ?_⟩
  rw [Oper.semAt_eq _ _ _ (opRes_notDefer hres)]
  cases res with
  | val x =>
    obtain ⟨v, hrun, hv⟩ := hdoes
    simp only [effR] at he
    injection he with he; subst he
    rw [hrun, Oper.uponIn_value]
    exact hK _ _ _ (hfr.val (Bel.refl _ _) hv o.dst)
  | grow j b x =>
    cases b with
    | flat t cs => exact hdoes.elim
    | map t ag wd n get => exact hdoes.elim
    | list t wd v n get =>
      obtain ⟨hx, ob, e', c, xs, w1, h1, h2, hrun, h3, h4, h5, h6, h7, h8, h9⟩ := hdoes
      subst hx
      simp only [effR] at he
      injection he with he; subst he
      rw [hrun, Oper.uponIn_value]
      obtain ⟨r', h'⟩ := hfr.grow (fun e => by subst e; exact hnx _ _ 0 0 [] (.inr (.inl rfl))) h1 h2 h3 h4 h5 h6 h7 h8 h9 (run_drawn P _ _ _ _ hrun) o.dst
      exact hK _ _ _ h'
  | alloc b x =>
    cases b with
    | list t wd v n get => exact hdoes.elim
    | map t ag wd n get =>
      obtain ⟨hn0, v, hrun, hv⟩ := hdoes
      subst hn0
      simp only [effR] at he
      injection he with he; subst he
      rw [hrun, Oper.uponIn_value]
      obtain ⟨r', h'⟩ := hfr.allocM (hnx _ _ 0 0 [] (.inl rfl)) hv o.dst
      exact hK _ _ _ h'
    | flat t cs =>
      obtain ⟨us, v, hrun, hc, hv⟩ := hdoes
      simp only [effR] at he
      injection he with he; subst he
      rw [hrun, Oper.uponIn_value]
      obtain ⟨r', h'⟩ := hfr.alloc (hnx _ _ 0 0 [] (.inl rfl)) hc hv o.dst
      exact hK _ _ _ h'
  | store j b =>
    cases b with
    | list t wd v n get =>
      obtain ⟨t', n', get', b, c, xs, w1, h1, h2, h3, h4, hrun, h5, h6, h7, h8, h9⟩ := hdoes
      simp only [effR] at he
      injection he with he; subst he
      rw [hrun, Oper.uponIn_skip]
      exact hK _ _ _ (hfr.storeL h1 h2 h3 h4 h5 h6 h7 h8 h9 (run_drawn P _ _ _ _ hrun) o.dst)
    | map t ag wd n get =>
      obtain ⟨b, es, c, es', c', k, hj, hl, _, hh, hrun, hes⟩ := hdoes
      simp only [effR] at he
      injection he with he; subst he
      rw [hrun, Oper.uponIn_skip]
      exact hK _ _ _ (hfr.storeM hj hh hes o.dst)
    | flat t cs =>
      obtain ⟨b, cur, us, k, hj, hl, hh, hrun, hc⟩ := hdoes
      simp only [effR] at he
      injection he with he; subst he
      rw [hrun, Oper.uponIn_skip]
      exact hK _ _ _ (hfr.store hj hl hh hc o.dst)
  | put j b x =>
    cases b with
    | flat t cs => exact hdoes.elim
    | map t ag wd n get => exact hdoes.elim
    | list t wd v n get =>
      obtain ⟨t', n', get', b, c, xs, u, w1, h1, h2, h3, h4, hrun, hx, h5, h6, h7, h8, h9⟩ := hdoes
      simp only [effR] at he
      injection he with he; subst he
      rw [hrun, Oper.uponIn_value]
      exact hK _ _ _ (hfr.putL h1 h2 h3 h4 h5 h6 h7 h8 h9 (run_drawn P _ _ _ _ hrun) hx o.dst)
  | call f args =>
    obtain ⟨vs, hrun, hvs⟩ := hdoes
    simp only [effR] at he
    split at he
    · rename_i ex args' hca
      split at he
      · rename_i x hx
        split at he
        · simp at he
        · rename_i hpl
          injection he with he; subst he
          rw [hrun, Oper.uponIn_enter]
          refine ⟨fun h => by simp [wf_depth] at h, ?_⟩
          obtain ⟨A', h1, h2, h3⟩ := callArgs_rel hfr hca hvs
          refine ((hcl f args' x hx).pc (callArgs_plain hca) ro (n - 1) A' w vs h2 h3).mono ?_
          rintro e' w' ⟨v, rfl, hv, hb⟩
          refine hK _ _ _ (hfr.val hb ?_ o.dst)
          cases ex with
          | false =>
            rw [h1 rfl] at hv
            exact hv.mono (Keeps.refl _ _) (fun j b h => by simp [noR] at h)
          | true =>
            simp at hpl
            exact plainR_any hpl hv
      · simp at he
    · simp at he
  | turn f args =>
    obtain ⟨vs, hrun, hvs⟩ := hdoes
    simp only [effR] at he
    split at he
    case h_2 => simp at he
    rename_i j t wd v n0 g rest hta
    split at he
    case h_2 => simp at he
    rename_i wd' m' g' r1 r2 r3 hx
    split at he
    case h_2 => simp at he
    rename_i hfull
    injection he with he; subst he
    rw [hrun, Oper.uponIn_enter]
    refine ⟨fun h => by simp [wf_depth] at h, ?_⟩
    obtain ⟨e1, c, xs, us, rfl, m0, m1, m2, m3, m4, m5, m6, m7, m8, m9⟩ := turnArgs_rel hfr hta hvs
    have hc : MC P f wd n0 g g' rest := hcl _ _ _ hx
    refine (hc ro (n - 1) _ w t e1 c xs us hfr.arLt (fun b hb => by subst hb; exact .inr (.inl (.inr ⟨_, _, m1⟩))) m4 m5 m6 m7 m8 m9).mono ?_
    rintro e' w' ⟨rfl, rows', ⟨k1, kd⟩, k2, k3⟩
    exact hK _ _ _ (hfr.turnL m0 m1 m2 m3 k1 k2 (rows_any hfull k3) m4 m5 m6 kd o.dst)
  | fresh f t args =>
    obtain ⟨vs, hrun, hvs⟩ := hdoes
    simp only [effR] at he
    split at he
    case h_2 => simp at he
    rename_i ex args' hca
    split at he
    case h_2 => simp at he
    rename_i wd n0 g r1 r2 r3 hx
    split at he
    case h_2 => simp at he
    rename_i hfull
    injection he with he; subst he
    rw [hrun, Oper.uponIn_enter]
    refine ⟨fun h => by simp [wf_depth] at h, ?_⟩
    obtain ⟨A', _, h2, h3⟩ := callArgs_rel hfr hca hvs
    have hc : FC P f t args' wd n0 g := hcl _ _ _ hx
    refine (hc ro (n - 1) A' w vs h2 h3).mono ?_
    rintro e' w' ⟨e1, c, rows, rfl, k1, k2, k3, k4, k5, k6, k7⟩
    obtain ⟨r', h'⟩ := hfr.grow (nx := nx) (j := nx) (v := 0) (ob := none) (fun _ => hnx default default f t args (.inr (.inr rfl))) (fun b hb => by cases hb) (.inl ⟨rfl, rfl⟩) k5 (rows_any hfull k6) ⟨k7.os, k7.tape, k7.output, k7.size, fun b hb _ => k7.block b hb⟩ (fun b hb => .inr (k1 b hb)) k2 k3 k4 k7.drawn o.dst
    exact hK _ _ _ h'
theorem wantD_true {ops : Array Oper} {o : Oper} {b : Bool} (hfr : FR X yl A0 sav sv env loc r ds a w) (h : wantD ops env o = some b) : Region.wanted o (yielded ops a.tmps) = b := by
  unfold wantD at h
  unfold Region.wanted
  split at h
  · rename_i hg
    injection h with h; subst h
    simp [hg]
  · rename_i j want hg
    simp only [hg]
    split at h
    · rename_i oj hoj
      split at h
      · rename_i d hd
        split at h
        · rename_i t ht
          injection h with h; subst h
          obtain ⟨u, hu, hr⟩ := hfr.env.get ht
          cases hr
          simp [yielded, hoj, hd, hu]
        · rename_i ht
          injection h with h; subst h
          obtain ⟨u, hu, hr⟩ := hfr.env.get ht
          cases hr with
          | tup h1 h2 => simp [yielded, hoj, hd, hu]
        · simp at h
      · simp at h
    · simp at h
theorem undef_rel {A : Nat → Prop} : VR w A r (.tup []) undef := .tup rfl (fun i x u hi => by simp at hi)
theorem op_step {ops : Array Oper} {o : Oper} {nx : Nat} {e : Eff} {ro : Option Nat} {n : Nat} {K : Act → World → Prop} {Q : Exit → Act → World → Prop} (hcl : ∀ f args v, cl f args = some v → CC P f args v)
    (hfr : FR X yl A0 sav sv env loc r ds a w) (hnx : ∀ c b v f t ar, opRes P (evO env) loc nx o = some (c, .alloc b v) ∨ opRes P (evO env) loc nx o = some (c, .grow nx b v) ∨ opRes P (evO env) loc nx o = some (c, .fresh f t ar) → loc nx = none) (he : effOf P cl ops env loc nx o = some e)
    (hK : ∀ r' a' w', FR X yl A0 sav sv (putD env e.dst e.v) (locE e loc) r' ds a' w' → K a' w') :
    if Region.wanted o (yielded ops a.tmps) then o.wpIn (WF ro) n P a w K Q else (∀ f, o.about P w a.eval = some f → (WF ro).fn f) ∧ K (a.put o.dst undef) w := by
  unfold effOf at he
  split at he
  · rename_i hw
    rw [if_pos (wantD_true hfr hw)]
    split at he
    · rename_i res hres
      exact op_wp hcl hfr (fun b v f t ar e => hnx true b v f t ar (by rcases e with e | e | e <;> simp [hres, e])) hres he hK
    · simp at he
  · rename_i hw
    rw [if_neg (by rw [wantD_true hfr hw]; simp)]
    injection he with he; subst he
    exact ⟨fun f _ => trivial, hK _ _ _ (hfr.val (Bel.refl _ _) undef_rel o.dst)⟩
  · simp at he
end
end Go.Proofs.YtjbhooodjmjdkaaGreat.Ev
/-! EvH -/
namespace Go.Proofs.YtjbhooodjmjdkaaGreat.Ev
def touch (P : Program) (p : Operand → Option AV) (nx : Nat) (o : Oper) : List (Nat × Bool) := match o.op with
  | .load _ x => match p x with
    | some (.lptr j _ _ _) => [(j, false)]
    | some (.optr j _ _ _ _) => [(j, false)]
    | _ => []
  | .store _ a _ => match p a with
    | some (.lptr j _ _ _) => [(j, true)]
    | some (.optr j _ _ _ _) => [(j, true)]
    | _ => []
  | .alloc _ => [(nx, true)]
  | .makeMap _ _ => [(nx, true)]
  | .lookup _ m _ _ => match p m with
    | some (.mp j) => [(j, false)]
    | _ => []
  | .mapUpdate _ m _ _ => match p m with
    | some (.mp j) => [(j, true)]
    | _ => []
  | .insert _ m _ _ => match p m with
    | some (.mp j) => [(j, true)]
    | _ => []
  | .box _ _ => [(nx, true)]
  | .buildSlice _ _ _ => [(nx, true)]
  | .call c => match c.callee with
    | .value f => match p f, mapEv p c.args.toList with
      | some g, some vs => match callAV P g vs with
        | some (.call _ args) => (idsAll args).map fun j => (j, false)
        | some (.turn _ args) => (idsAll args).map fun j => (j, true)
        | some (.fresh _ _ args) => (nx, true) :: (idsAll args).map fun j => (j, false)
        | _ => []
      | _, _ => []
    | .builtin .append => match c.args.toList with
      | [x, y] => (match p x with
        | some (.osl j _ _) => (j, true)
        | some (.oss j _ _ _ _) => (j, true)
        | _ => (nx, true)) :: (match p y with
        | some v => (ids0 v).map fun j => (j, false)
        | none => [])
      | _ => []
    | .builtin .clear => match c.args.toList with
      | [x] => match p x with
        | some (.oss j _ _ _ _) => [(j, true)]
        | _ => []
      | _ => []
    | _ => []
  | .slice _ x _ _ _ => match p x with
    | some (.oss j _ _ _ _) => [(j, false)]
    | _ => []
  | _ => []
section
variable {P : Program} {cl : FuncId → List AV → Option AV} {p p' : Operand → Option AV} {loc loc' : Nat → Option Blk} {nx : Nat} {o : Oper}
theorem mapEv_congr : ∀ {xs : List Operand}, (∀ x ∈ xs, p x = p' x) → mapEv p xs = mapEv p' xs
  | [], _ => rfl
  | x :: xs, h => by simp only [mapEv]; rw [h x (by simp), mapEv_congr fun y hy => h y (by simp [hy])]
theorem mapParts_congr : ∀ {xs : List (Nat × Operand)}, (∀ x ∈ xs, p x.2 = p' x.2) → mapParts p xs = mapParts p' xs
  | [], _ => rfl
  | (i, x) :: xs, h => by simp only [mapParts]; rw [h (i, x) (by simp), mapParts_congr fun y hy => h y (by simp [hy])]
theorem allPlain_congr : ∀ {xs : List Operand}, (∀ x ∈ xs, p x = p' x) → allPlain p xs = allPlain p' xs
  | [], _ => rfl
  | x :: xs, h => by
    have e : plainOf p x = plainOf p' x := by unfold plainOf; rw [h x (by simp)]
    simp only [allPlain]; rw [e, allPlain_congr fun y hy => h y (by simp [hy])]
theorem boundAV_congr {x : Option Operand} {d n : Nat} (h : ∀ y ∈ x.toArray, p y = p' y) : boundAV p x d n = boundAV p' x d n := by
  cases x with
  | none => rfl
  | some y => simp only [boundAV]; rw [h y (by simp)]
theorem byCalm_congr (h : ∀ x ∈ o.op.operands, p x = p' x) : byCalm P p o = byCalm P p' o := by
  have h1 : allPlain p o.op.operands.toList = allPlain p' o.op.operands.toList := allPlain_congr fun x hx => h x (by simpa using hx)
  unfold byCalm
  rw [h1]
  cases hs : notSelect o.op && allPlain p' o.op.operands.toList with
  | false => rfl
  | true =>
    have hns : ∀ cs b, o.op ≠ .select cs b := fun cs b e => by simp [e, notSelect] at hs
    have : execOp (rhoOf p) o = execOp (rhoOf p') o := execOp_congr o hns fun x hx => by
      unfold rhoOf plainOf; rw [h x hx]
    simp only [this]
theorem rowsAV_congr {wd : Nat} {y : AV} (hl : ∀ j ∈ ids0 y, loc j = loc' j) : rowsAV loc wd y = rowsAV loc' wd y := by
  cases y <;> first | rfl | simp only [rowsAV, hl _ (List.mem_singleton.2 rfl)]
theorem appendAV_congr {t : TypeId} {x y : AV} (hx : ∀ j v n, x = .osl j v n → loc j = loc' j) (hy : ∀ j ∈ ids0 y, loc j = loc' j) : appendAV P loc nx t x y = appendAV P loc' nx t x y := by
  unfold appendAV
  simp only [rowsAV_congr hy]
  cases x with
  | osl j v n => simp only [hx j v n rfl]
  | _ => rfl
theorem appendAV_grow {t : TypeId} {x y : AV} {c : Bool} {res : Res} (h : appendAV P loc nx t x y = some (c, res)) : ∃ j b v, res = .grow j b v ∧ ((∃ v n, x = .osl j v n ∧ (loc j).isSome = true) ∨ (j = nx ∧ x = .nilsl)) := by
  unfold appendAV at h
  split at h
  · split at h
    · split at h
      · split at h
        · split at h
          · split at h
            · rename_i hl
              split at h
              · injection h with h; injection h with _ h; subst h
                exact ⟨_, _, _, rfl, .inl ⟨_, _, rfl, by simp [hl]⟩⟩
              · simp at h
            · simp at h
          · injection h with h; injection h with _ h; subst h
            exact ⟨_, _, _, rfl, .inr ⟨rfl, rfl⟩⟩
          · simp at h
        · simp at h
      · simp at h
    · simp at h
  · simp at h
theorem appPut_congr {t : TypeId} {x y : AV} (hx : ∀ j v wd row n, x = .oss j v wd row n → loc j = loc' j) (hy : ∀ j ∈ ids0 y, loc j = loc' j) : appPut P loc t x y = appPut P loc' t x y := by
  unfold appPut
  simp only [rowsAV_congr hy]
  cases x with
  | oss j v wd row n => simp only [hx j v wd row n rfl]
  | _ => rfl
theorem clearAV_congr {t : TypeId} {x : AV} (hx : ∀ j v wd row n, x = .oss j v wd row n → loc j = loc' j) : clearAV P loc t x = clearAV P loc' t x := by
  unfold clearAV
  cases x with
  | oss j v wd row n => simp only [hx j v wd row n rfl]
  | _ => rfl
theorem spareAV_congr {len : Nat} {x : AV} (hx : ∀ j v wd row n, x = .oss j v wd row n → loc j = loc' j) : spareAV loc len x = spareAV loc' len x := by
  unfold spareAV
  cases x with
  | oss j v wd row n => simp only [hx j v wd row n rfl]
  | _ => rfl
theorem appPut_put {t : TypeId} {x y : AV} {r : Bool × Res} (h : appPut P loc t x y = some r) : ∃ c j b v, r = (c, .put j b v) ∧ (loc j).isSome = true ∧ ∃ v2 wd row n, x = .oss j v2 wd row n := by
  unfold appPut at h
  (repeat' split at h) <;> first | (cases h; done) | (injection h with h; exact ⟨_, _, _, _, h.symm, by simp [*], _, _, _, _, rfl⟩)
theorem clearAV_put {t : TypeId} {x : AV} {r : Bool × Res} (h : clearAV P loc t x = some r) : ∃ c j b v, r = (c, .put j b v) ∧ (loc j).isSome = true ∧ ∃ v2 wd row n, x = .oss j v2 wd row n := by
  unfold clearAV at h
  (repeat' split at h) <;> first | (cases h; done) | (injection h with h; exact ⟨_, _, _, _, h.symm, by simp [*], _, _, _, _, rfl⟩)
theorem touch_append {cc : Call} {x y : Operand} {v u : AV} (hop : o.op = .call cc) (hc : cc.callee = .builtin .append) (ha : cc.args.toList = [x, y]) (hx : p x = some v) (hy : p y = some u) :
    touch P p nx o = (match v with | .osl j _ _ => (j, true) | .oss j _ _ _ _ => (j, true) | _ => (nx, true)) :: (ids0 u).map fun j => (j, false) := by
  unfold touch
  simp only [hop, hc, ha, hx, hy]
  cases v <;> rfl
theorem native_builtin {b : Builtin} {cc : Call} {c : Bool} {res : Res} (hop : o.op = .call cc) (hc : cc.callee = .builtin b) (hr : native P p loc nx o = some (c, res)) :
    (∃ n : Nat, res = .val (.int .i64 n)) ∨ (∃ t x y v u, b = .append ∧ cc.args.toList = [x, y] ∧ p x = some v ∧ p y = some u ∧ appendAV P loc nx t v u = some (c, res)) ∨ ∃ j b v, res = .put j b v ∧ (loc j).isSome = true ∧ (j, true) ∈ touch P p nx o := by
  unfold native at hr
  rw [hop] at hr
  simp only at hr
  rw [hc] at hr
  split at hr
  · rename_i f heq
    injection heq with heq; subst heq
    split at hr
    · split at hr
      · rename_i v n hv hn
        cases hlen : lenAV v with
        | none => simp [hlen] at hr
        | some m => simp [hlen] at hr; exact .inl ⟨m, hr.2.symm⟩
      · simp at hr
    · simp at hr
  · rename_i f heq
    injection heq with heq; subst heq
    split at hr
    · rename_i x y t t' hargs _
      split at hr
      · rename_i v u _ hx hy
        unfold appAV at hr
        split at hr
        · obtain ⟨c1, j, b1, v1, e1, e2, v2, wd, row, n, e3⟩ := appPut_put hr
          injection e1 with _ e1
          refine .inr (.inr ⟨j, b1, v1, e1, e2, ?_⟩)
          subst e3
          rw [touch_append hop hc hargs hx hy]
          exact List.mem_cons_self ..
        · exact .inr (.inl ⟨_, x, y, v, u, rfl, hargs, hx, hy, hr⟩)
      · simp at hr
    · simp at hr
  · rename_i f heq
    injection heq with heq; subst heq
    split at hr
    · rename_i x t hargs _
      split at hr
      · rename_i v hx
        obtain ⟨c1, j, b1, v1, e1, e2, v2, wd, row, n, e3⟩ := clearAV_put hr
        injection e1 with _ e1
        refine .inr (.inr ⟨j, b1, v1, e1, e2, ?_⟩)
        unfold touch
        simp only [hop, hc, hargs, hx, e3, List.mem_singleton]
      · simp at hr
    · simp at hr
  · rename_i f heq; cases heq
  · simp at hr
theorem lookAV_congr {t : TypeId} {m key : AV} {ok : Bool} (h : ∀ j, m = .mp j → loc j = loc' j) : lookAV P loc t m key ok = lookAV P loc' t m key ok := by
  have : mapRows loc m = mapRows loc' m := by
    cases m <;> try rfl
    simp only [mapRows, h _ rfl]
  unfold lookAV
  rw [this]
theorem putAV_congr {t : TypeId} {m key x : AV} (h : ∀ j, m = .mp j → loc j = loc' j) : putAV P loc t m key x = putAV P loc' t m key x := by
  cases m <;> try rfl
  simp only [putAV, h _ rfl]
theorem lookAV_val {t : TypeId} {m key : AV} {ok : Bool} {r : Bool × Res} (h : lookAV P loc t m key ok = some r) : ∃ c v, r = (c, .val v) := by
  unfold lookAV at h
  (repeat' split at h) <;> first | (cases h; done) | (injection h with h; exact ⟨_, _, h.symm⟩)
theorem putAV_store {t : TypeId} {m key x : AV} {r : Bool × Res} (h : putAV P loc t m key x = some r) : ∃ c j b, r = (c, .store j b) ∧ m = .mp j ∧ (loc j).isSome = true := by
  unfold putAV at h
  split at h
  · split at h
    · split at h
      · rename_i hj _
        split at h
        · split at h
          · injection h with h; exact ⟨_, _, _, h.symm, rfl, by rw [hj]; rfl⟩
          · cases h
        · cases h
      · cases h
    · cases h
  · cases h
theorem makeMapAV_alloc {t : TypeId} {r : Bool × Res} (h : makeMapAV P nx t = some r) : ∃ c b v, r = (c, .alloc b v) := by
  unfold makeMapAV at h
  (repeat' split at h) <;> first | (cases h; done) | (injection h with h; exact ⟨_, _, _, h.symm⟩)
theorem native_map {r : Bool × Res} (h : native P p loc nx o = some r) : (∀ t m k ok, o.op = .lookup t m k ok → ∃ c v, r = (c, .val v)) ∧ (∀ t q, o.op = .makeMap t q → ∃ c b v, r = (c, .alloc b v)) ∧
    (∀ t m k v, o.op = .mapUpdate t m k v ∨ o.op = .insert t m k v → ∃ c j b, r = (c, .store j b) ∧ p m = some (.mp j) ∧ (loc j).isSome = true) := by
  unfold native at h
  refine ⟨fun t m k ok e => ?_, fun t q e => ?_, fun t m k v e => ?_⟩
  · rw [e] at h; simp only at h
    split at h
    · exact lookAV_val h
    · cases h
  · rw [e] at h
    cases q with
    | none => exact makeMapAV_alloc h
    | some q => simp at h
  · rcases e with e | e <;> rw [e] at h <;> simp only at h
    all_goals
      split at h
      · rename_i hm _ _
        obtain ⟨c, j, b, h1, h2, h3⟩ := putAV_store h
        exact ⟨c, j, b, h1, by rw [hm, h2], h3⟩
      · cases h
theorem native_congr (h : ∀ x ∈ o.op.operands, p x = p' x) (hl : ∀ t ∈ touch P p nx o, loc t.1 = loc' t.1) : native P p loc nx o = native P p' loc' nx o := by
  unfold native
  unfold touch at hl
  cases hop : o.op with
  | move x => rw [hop] at h; simp only [h x (by simp [Op.operands])]
  | assign x => rw [hop] at h; simp only [h x (by simp [Op.operands])]
  | pick c a b => rw [hop] at h; simp only [h c (by simp [Op.operands]), h a (by simp [Op.operands]), h b (by simp [Op.operands])]
  | alloc t => rfl
  | box t x => rw [hop] at h; simp only [h x (by simp [Op.operands])]
  | build t ps =>
    rw [hop] at h
    have : mapParts p ps.toList = mapParts p' ps.toList := mapParts_congr fun x hx => h x.2 (by simp only [Op.operands, List.mem_toArray, List.mem_map]; exact ⟨x, by simpa using hx, rfl⟩)
    simp only [this]
  | buildSlice t n ps =>
    rw [hop] at h
    have : mapParts p ps.toList = mapParts p' ps.toList := mapParts_congr fun x hx => h x.2 (by simp only [Op.operands, List.mem_toArray, List.mem_map]; exact ⟨x, by simpa using hx, rfl⟩)
    simp only [this]
  | load t x =>
    rw [hop] at h hl
    have hx := h x (by simp [Op.operands])
    simp only [hx] at hl ⊢
    cases hv : p' x with
    | none => rfl
    | some v =>
      rw [hv] at hl
      cases v with
      | lptr j wd row col => simp only [hl (j, false) (by simp)]
      | optr j v wd row col => simp only [hl (j, false) (by simp)]
      | _ => rfl
  | store t a x =>
    rw [hop] at h hl
    have ha := h a (by simp [Op.operands])
    have hx := h x (by simp [Op.operands])
    simp only [ha] at hl
    simp only [ha, hx]
    cases hv : p' a with
    | none => rfl
    | some v =>
      rw [hv] at hl
      cases v with
      | lptr j wd row col => have e := hl (j, true) (by simp); simp only at e; cases p' x <;> simp only [e]
      | optr j v wd row col => have e := hl (j, true) (by simp); simp only at e; cases p' x <;> simp only [e]
      | _ => rfl
  | nilCheck x => rw [hop] at h; simp only [h x (by simp [Op.operands])]
  | makeFunc f xs ys =>
    rw [hop] at h
    have e1 : mapEv p xs.toList = mapEv p' xs.toList := mapEv_congr fun x hx => h x (by simp only [Op.operands, Array.mem_append]; exact .inl (by simpa using hx))
    have e2 : mapEv p ys.toList = mapEv p' ys.toList := mapEv_congr fun x hx => h x (by simp only [Op.operands, Array.mem_append]; exact .inr (by simpa using hx))
    simp only [e1, e2]
  | slice t x lo hi mx =>
    rw [hop] at h
    have hx := h x (by simp [Op.operands])
    have h1 : ∀ d n, boundAV p lo d n = boundAV p' lo d n := fun d n => boundAV_congr fun y hy => h y (by simp only [Op.operands, Array.mem_append]; exact .inl (.inl (.inr hy)))
    have h2 : ∀ d n, boundAV p hi d n = boundAV p' hi d n := fun d n => boundAV_congr fun y hy => h y (by simp only [Op.operands, Array.mem_append]; exact .inl (.inr hy))
    have h3 : ∀ d n, boundAV p mx d n = boundAV p' mx d n := fun d n => boundAV_congr fun y hy => h y (by simp only [Op.operands, Array.mem_append]; exact .inr hy)
    have h4 : ∀ len v, p' x = some v → spareAV loc len v = spareAV loc' len v := fun len v hv => spareAV_congr fun j v2 wd row n e => by
      subst e
      rw [hop] at hl; exact hl (j, false) (by simp [hx, hv])
    cases mx with
    | none =>
      simp only [hx, h1, h2]
      cases hv : p' x with
      | none => rfl
      | some v =>
        have h5 := fun len => h4 len v hv
        cases sliceT P t with
        | none => rfl
        | some n => simp only [h5]
    | some m => cases hi with
      | none => rfl
      | some i => simp only [hx, h1, h2, h3]
  | fieldAddr s x f => rw [hop] at h; simp only [h x (by simp [Op.operands])]
  | field s x f => rw [hop] at h; simp only [h x (by simp [Op.operands])]
  | indexAddr t x i => rw [hop] at h; simp only [h x (by simp [Op.operands]), h i (by simp [Op.operands])]
  | index t x i => rw [hop] at h; simp only [h x (by simp [Op.operands]), h i (by simp [Op.operands])]
  | extract x i => rw [hop] at h; simp only [h x (by simp [Op.operands])]
  | makeMap t q => cases q <;> rfl
  | lookup t m k ok =>
    rw [hop] at h hl
    have hm := h m (by simp [Op.operands])
    simp only [hm] at hl
    simp only [hm, h k (by simp [Op.operands])]
    cases hv : p' m with
    | none => rfl
    | some v =>
      rw [hv] at hl
      cases p' k with
      | none => rfl
      | some key => exact lookAV_congr fun j e => by subst e; exact hl (j, false) (by simp)
  | mapUpdate t m k v =>
    rw [hop] at h hl
    have hm := h m (by simp [Op.operands])
    simp only [hm] at hl
    simp only [hm, h k (by simp [Op.operands]), h v (by simp [Op.operands])]
    cases hv : p' m with
    | none => rfl
    | some x =>
      rw [hv] at hl
      cases p' k with
      | none => rfl
      | some key => cases p' v with
        | none => rfl
        | some y => exact putAV_congr fun j e => by subst e; exact hl (j, true) (by simp)
  | insert t m k v =>
    rw [hop] at h hl
    have hm := h m (by simp [Op.operands])
    simp only [hm] at hl
    simp only [hm, h k (by simp [Op.operands]), h v (by simp [Op.operands])]
    cases hv : p' m with
    | none => rfl
    | some x =>
      rw [hv] at hl
      cases p' k with
      | none => rfl
      | some key => cases p' v with
        | none => rfl
        | some y => exact putAV_congr fun j e => by subst e; exact hl (j, true) (by simp)
  | binOp b t x y t' => rw [hop] at h; simp only [h x (by simp [Op.operands]), h y (by simp [Op.operands])]
  | call c =>
    rw [hop] at h
    have hargs : mapEv p c.args.toList = mapEv p' c.args.toList := mapEv_congr fun x hx => h x (by
      simp only [Op.operands, Call.operands, Array.mem_append]; exact .inr (by simpa using hx))
    cases hc : c.callee with
    | value f =>
      have hf : p f = p' f := h f (by simp [Op.operands, Call.operands, hc])
      simp only [hc, hf, hargs]
    | invoke x m => simp only [hc]
    | builtin b =>
      have hmem : ∀ x, x ∈ c.args.toList → p x = p' x := fun x hx => h x (by simp only [Op.operands, Call.operands, Array.mem_append]; right; simpa using hx)
      by_cases hb1 : b = .len
      · subst hb1
        simp only [hc]
        cases ha : c.args.toList with
        | nil => rfl
        | cons x xs =>
          have hx : p x = p' x := hmem x (by rw [ha]; simp)
          cases xs with
          | nil =>
            cases ht : c.argTypes.toList with
            | nil => rfl
            | cons t ts => cases ts with
              | nil => simp only [hx]
              | cons t' ts => rfl
          | cons y ys => cases c.argTypes.toList <;> rfl
      · by_cases hb2 : b = .append
        · subst hb2
          rw [hop] at hl
          simp only [hc] at hl ⊢
          split
          · rename_i x y t t' ha _
            have hx := hmem x (by rw [ha]; simp)
            have hy := hmem y (by rw [ha]; simp)
            simp only [ha, hx, hy] at hl ⊢
            cases hpx : p' x with
            | none => cases Nat.beq t t' <;> rfl
            | some v =>
              cases hpy : p' y with
              | none => cases Nat.beq t t' <;> rfl
              | some u =>
                simp only [hpx, hpy] at hl ⊢
                have e : appAV P loc nx t v u = appAV P loc' nx t v u := by
                  unfold appAV
                  rw [appendAV_congr (P := P) (loc := loc) (loc' := loc') (nx := nx) (t := t) (x := v) (y := u) (fun j v' n e => by subst e; exact hl (j, true) (by simp)) (fun j hj => hl (j, false) (List.mem_cons_of_mem _ (List.mem_map.2 ⟨j, hj, rfl⟩))),
                    appPut_congr (P := P) (loc := loc) (loc' := loc') (t := t) (x := v) (y := u) (fun j v' wd row n e => by subst e; exact hl (j, true) (by simp)) (fun j hj => hl (j, false) (List.mem_cons_of_mem _ (List.mem_map.2 ⟨j, hj, rfl⟩)))]
                cases Nat.beq t t' with
                | false => rfl
                | true => exact e
          · rfl
        · by_cases hb3 : b = .clear
          · subst hb3
            rw [hop] at hl
            simp only [hc] at hl ⊢
            split
            · rename_i x t ha _
              have hx := hmem x (by rw [ha]; simp)
              simp only [ha, hx] at hl ⊢
              cases hpx : p' x with
              | none => rfl
              | some v =>
                simp only [hpx] at hl ⊢
                exact clearAV_congr fun j v2 wd row n e => by subst e; exact hl (j, true) (by simp)
            · rfl
          · cases b <;> first | exact absurd rfl hb1 | exact absurd rfl hb2 | exact absurd rfl hb3 | simp only [hc]
  | _ => rfl
theorem opRes_congr (h : ∀ x ∈ o.op.operands, p x = p' x) (hl : ∀ t ∈ touch P p nx o, loc t.1 = loc' t.1) : opRes P p loc nx o = opRes P p' loc' nx o := by
  unfold opRes
  rw [native_congr h hl, byCalm_congr h]
theorem exp0_congr {x : AV} (hl : ∀ j ∈ ids0 x, loc j = loc' j) : exp0 loc x = exp0 loc' x := by
  cases x with
  | lptr j wd row col => simp only [exp0, hl j (by simp [ids0])]
  | lsl j wd row col len cap => simp only [exp0, hl j (by simp [ids0])]
  | osl j v n => simp only [exp0, hl j (by simp [ids0])]
  | oss j v wd row n => simp only [exp0, hl j (by simp [ids0])]
  | optr j v wd row n => simp only [exp0, hl j (by simp [ids0])]
  | mp j => simp only [exp0, hl j (by simp [ids0])]
  | _ => rfl
theorem expL_congr : ∀ {xs : List AV}, (∀ j ∈ idsL xs, loc j = loc' j) → expL loc xs = expL loc' xs
  | [], _ => rfl
  | x :: xs, h => by simp only [expL]; rw [exp0_congr fun j hj => h j (by simp [idsL, hj]), expL_congr fun j hj => h j (by simp [idsL, hj])]
theorem expA_congr {x : AV} (hl : ∀ j ∈ ids x, loc j = loc' j) : expA loc x = expA loc' x := by
  cases x with
  | fn f xs ys => simp only [expA]; rw [expL_congr (loc' := loc') fun j hj => hl j (by simp [ids, hj]), expL_congr (xs := ys) (loc' := loc') fun j hj => hl j (by simp [ids, hj])]
  | agg cs => simp only [expA]; rw [expL_congr (loc' := loc') fun j hj => hl j (by simp [ids, hj])]
  | tup cs => simp only [expA]; rw [expL_congr (loc' := loc') fun j hj => hl j (by simp [ids, hj])]
  | lptr j wd row col => exact exp0_congr (by simpa [ids] using hl)
  | lsl j wd row col len cap => exact exp0_congr (by simpa [ids] using hl)
  | osl j v n => exact exp0_congr (by simpa [ids] using hl)
  | oss j v wd row n => exact exp0_congr (by simpa [ids] using hl)
  | optr j v wd row n => exact exp0_congr (by simpa [ids] using hl)
  | mp j => exact exp0_congr (by simpa [ids] using hl)
  | _ => rfl
theorem expAll_congr : ∀ {xs : List AV}, (∀ j ∈ idsAll xs, loc j = loc' j) → expAll loc xs = expAll loc' xs
  | [], _ => rfl
  | x :: xs, h => by simp only [expAll]; rw [expA_congr fun j hj => h j (by simp [idsAll, hj]), expAll_congr fun j hj => h j (by simp [idsAll, hj])]
theorem callArgs_congr {args : List AV} (h : ∀ j ∈ idsAll args, loc j = loc' j) : callArgs loc args = callArgs loc' args := by
  unfold callArgs
  rw [expAll_congr h]
theorem idsAll_append (xs ys : List AV) : idsAll (xs ++ ys) = idsAll xs ++ idsAll ys := by
  induction xs with
  | nil => rfl
  | cons x xs ih => simp [idsAll, ih]
theorem opRes_called {res : Res} {c : Bool} (h : opRes P p loc nx o = some (c, res)) (hres : (∃ f a, res = .call f a) ∨ (∃ f a, res = .turn f a) ∨ ∃ f t a, res = .fresh f t a) :
    ∃ cc g gv vs, o.op = .call cc ∧ cc.callee = .value g ∧ p g = some gv ∧ mapEv p cc.args.toList = some vs ∧ callAV P gv vs = some res := by
  unfold opRes at h
  split at h
  · rename_i rr hr
    injection h with h; subst h
    have hr0 := hr
    unfold native at hr
    cases hop : o.op with
    | call cc =>
      rw [hop] at hr
      simp only at hr
      cases hc : cc.callee with
      | value g =>
        rw [hc] at hr
        simp only at hr
        cases hg : p g with
        | none => simp [hg] at hr
        | some gv =>
          cases hvs : mapEv p cc.args.toList with
          | none => simp [hg, hvs] at hr
          | some vs =>
            simp only [hg, hvs] at hr
            cases hca : callAV P gv vs with
            | none => simp [hca] at hr
            | some res' =>
              simp [hca] at hr
              obtain ⟨_, hr⟩ := hr
              subst hr
              exact ⟨cc, g, gv, vs, rfl, hc, hg, hvs, hca⟩
      | invoke x m => rw [hc] at hr; simp at hr
      | builtin b =>
        rcases native_builtin hop hc hr0 with ⟨n, e⟩ | ⟨t, x, y, v, u, _, _, _, _, hh⟩ | ⟨j1, b1, v1, e, _⟩
        · subst e; rcases hres with ⟨_, _, e⟩ | ⟨_, _, e⟩ | ⟨_, _, _, e⟩ <;> cases e
        · obtain ⟨j1, b1, v1, e, _⟩ := appendAV_grow hh; subst e; rcases hres with ⟨_, _, e⟩ | ⟨_, _, e⟩ | ⟨_, _, _, e⟩ <;> cases e
        · subst e; rcases hres with ⟨_, _, e⟩ | ⟨_, _, e⟩ | ⟨_, _, _, e⟩ <;> cases e
    | slice t x lo hi mx =>
      exfalso
      rw [hop] at hr
      rcases hres with ⟨_, _, e⟩ | ⟨_, _, e⟩ | ⟨_, _, _, e⟩ <;> subst e
      all_goals
        cases mx with
        | none =>
            simp only at hr
            split at hr
            · rename_i r0 ha; obtain ⟨c1, v1, e1⟩ := arrSl_val ha; rw [e1] at hr; simp at hr
            (repeat' split at hr) <;> simp at hr
        | some m => cases hi with
          | none => simp at hr
          | some i => simp only at hr; (repeat' split at hr) <;> simp at hr
    | lookup t m k ok =>
      obtain ⟨c1, v1, e1⟩ := (native_map hr0).1 t m k ok hop
      rcases hres with ⟨_, _, e⟩ | ⟨_, _, e⟩ | ⟨_, _, _, e⟩ <;> rw [e] at e1 <;> simp at e1
    | makeMap t q =>
      obtain ⟨c1, v1, b1, e1⟩ := (native_map hr0).2.1 t q hop
      rcases hres with ⟨_, _, e⟩ | ⟨_, _, e⟩ | ⟨_, _, _, e⟩ <;> rw [e] at e1 <;> simp at e1
    | mapUpdate t m k v =>
      obtain ⟨c1, v1, b1, e1, _⟩ := (native_map hr0).2.2 t m k v (.inl hop)
      rcases hres with ⟨_, _, e⟩ | ⟨_, _, e⟩ | ⟨_, _, _, e⟩ <;> rw [e] at e1 <;> simp at e1
    | insert t m k v =>
      obtain ⟨c1, v1, b1, e1, _⟩ := (native_map hr0).2.2 t m k v (.inr hop)
      rcases hres with ⟨_, _, e⟩ | ⟨_, _, e⟩ | ⟨_, _, _, e⟩ <;> rw [e] at e1 <;> simp at e1
    | _ =>
      exfalso
      rw [hop] at hr
      rcases hres with ⟨_, _, e⟩ | ⟨_, _, e⟩ | ⟨_, _, _, e⟩ <;> subst e <;> simp only at hr <;> (repeat' split at hr) <;> simp at hr
  · unfold byCalm at h
    split at h
    · split at h
      · rename_i v hv
        cases hx : ofV v with
        | none => simp [hx] at h
        | some y => simp [hx] at h; obtain ⟨_, h⟩ := h; subst h; rcases hres with ⟨_, _, e⟩ | ⟨_, _, e⟩ | ⟨_, _, _, e⟩ <;> cases e
      · simp at h
    · simp at h
theorem opRes_call {args : List AV} {f : FuncId} {c : Bool} (h : opRes P p loc nx o = some (c, .call f args)) : ∀ j ∈ idsAll args, (j, false) ∈ touch P p nx o := by
  obtain ⟨cc, g, gv, vs, h1, h2, h3, h4, h5⟩ := opRes_called h (.inl ⟨_, _, rfl⟩)
  intro j hj
  unfold touch
  simp only [h1, h2, h3, h4, h5, List.mem_map]
  exact ⟨j, hj, rfl⟩
theorem opRes_turn {args : List AV} {f : FuncId} {c : Bool} (h : opRes P p loc nx o = some (c, .turn f args)) : ∀ j ∈ idsAll args, (j, true) ∈ touch P p nx o := by
  obtain ⟨cc, g, gv, vs, h1, h2, h3, h4, h5⟩ := opRes_called h (.inr (.inl ⟨_, _, rfl⟩))
  intro j hj
  unfold touch
  simp only [h1, h2, h3, h4, h5, List.mem_map]
  exact ⟨j, hj, rfl⟩
theorem opRes_fresh {args : List AV} {f : FuncId} {t : TypeId} {c : Bool} (h : opRes P p loc nx o = some (c, .fresh f t args)) : (nx, true) ∈ touch P p nx o ∧ ∀ j ∈ idsAll args, (j, false) ∈ touch P p nx o := by
  obtain ⟨cc, g, gv, vs, h1, h2, h3, h4, h5⟩ := opRes_called h (.inr (.inr ⟨_, _, _, rfl⟩))
  unfold touch
  simp only [h1, h2, h3, h4, h5]
  exact ⟨List.mem_cons_self .., fun j hj => List.mem_cons_of_mem _ (List.mem_map.2 ⟨j, hj, rfl⟩)⟩
theorem turnArgs_congr {args : List AV} (h : ∀ j ∈ idsAll args, loc j = loc' j) : turnArgs loc args = turnArgs loc' args := by
  cases args with
  | nil => rfl
  | cons x xs =>
    cases x <;> try rfl
    rename_i j v n
    simp only [turnArgs, h j (by simp [idsAll, ids, ids0])]
theorem turnArgs_mem {args rest : List AV} {j wd v n : Nat} {t : TypeId} {g : Get AV} (h : turnArgs loc args = some (j, t, wd, v, n, g, rest)) : j ∈ idsAll args ∧ (loc j).isSome = true := by
  unfold turnArgs at h
  split at h
  · split at h
    · rename_i hl
      split at h
      · injection h with h; injection h with e h; subst e
        exact ⟨by simp [idsAll, ids, ids0], by simp [hl]⟩
      · simp at h
    · simp at h
  · simp at h
theorem opRes_write {j : Nat} {b : Blk} {c : Bool} (h : opRes P p loc nx o = some (c, .store j b)) : (j, true) ∈ touch P p nx o ∧ (loc j).isSome = true := by
  unfold opRes at h
  split at h
  · rename_i rr hr
    injection h with h; subst h
    have hr0 := hr
    unfold native at hr
    unfold touch
    cases hop : o.op with
    | store t a x =>
      rw [hop] at hr
      simp only at hr ⊢
      split at hr
      · rename_i j' wd row col v ha hx
        split at hr
        · rename_i u cs xs n hj hcell hsz
          split at hr
          · injection hr with hr; injection hr with _ hr; injection hr with e1 e2
            subst e1
            exact ⟨by simp [ha], by simp [hj]⟩
          · simp at hr
        · simp at hr
      · rename_i j' v' wd row col x' ha hx
        split at hr
        · rename_i u wd' v2 n get xs m hj hcell hsz
          split at hr
          · injection hr with hr; injection hr with _ hr; injection hr with e1 e2
            subst e1
            exact ⟨by simp [ha], by simp [hj]⟩
          · simp at hr
        · simp at hr
      · simp at hr
    | call cc =>
      rw [hop] at hr
      simp only at hr
      cases hc : cc.callee with
      | value g =>
        rw [hc] at hr
        simp only at hr
        split at hr
        · rename_i gv vs hg hvs
          cases hca : callAV P gv vs with
          | none => simp [hca] at hr
          | some res =>
            simp [hca] at hr
            obtain ⟨_, hr⟩ := hr
            subst hr
            obtain ⟨_, _, _, _, _, _, _, h'⟩ := callAV_or hca
            rcases h' with h' | h' | ⟨_, h'⟩ <;> cases h'
        · simp at hr
      | invoke x m => rw [hc] at hr; simp at hr
      | builtin b =>
        rcases native_builtin hop hc hr0 with ⟨n, e⟩ | ⟨t, x, y, v, u, _, _, _, _, hh⟩ | ⟨j1, b1, v1, e, _⟩
        · cases e
        · obtain ⟨j1, b1, v1, e, _⟩ := appendAV_grow hh; cases e
        · cases e
    | slice t x lo hi mx =>
      rw [hop] at hr
      cases mx with
      | none =>
            simp only at hr
            split at hr
            · rename_i r0 ha; obtain ⟨c1, v1, e1⟩ := arrSl_val ha; rw [e1] at hr; simp at hr
            (repeat' split at hr) <;> simp at hr
      | some m => cases hi with
        | none => simp at hr
        | some i => simp only at hr; (repeat' split at hr) <;> simp at hr
    | lookup t m k ok => obtain ⟨c1, v1, e1⟩ := (native_map hr0).1 t m k ok hop; simp at e1
    | makeMap t q => obtain ⟨c1, v1, b1, e1⟩ := (native_map hr0).2.1 t q hop; simp at e1
    | mapUpdate t m k v =>
      obtain ⟨c1, v1, b1, e1, e2, e3⟩ := (native_map hr0).2.2 t m k v (.inl hop)
      simp at e1; obtain ⟨_, e1, _⟩ := e1; subst e1
      exact ⟨by simp [e2], e3⟩
    | insert t m k v =>
      obtain ⟨c1, v1, b1, e1, e2, e3⟩ := (native_map hr0).2.2 t m k v (.inr hop)
      simp at e1; obtain ⟨_, e1, _⟩ := e1; subst e1
      exact ⟨by simp [e2], e3⟩
    | _ => rw [hop] at hr; simp only at hr; (repeat' split at hr) <;> simp at hr
  · unfold byCalm at h
    split at h
    · split at h
      · rename_i v hv
        cases hx : ofV v <;> simp [hx] at h
      · simp at h
    · simp at h
theorem opRes_put {j : Nat} {b : Blk} {v : AV} {c : Bool} (h : opRes P p loc nx o = some (c, .put j b v)) : (j, true) ∈ touch P p nx o ∧ (loc j).isSome = true := by
  unfold opRes at h
  split at h
  · rename_i rr hr
    injection h with h; subst h
    have hr0 := hr
    unfold native at hr
    cases hop : o.op with
    | call cc =>
      rw [hop] at hr
      simp only at hr
      cases hc : cc.callee with
      | value g =>
        rw [hc] at hr
        simp only at hr
        split at hr
        · rename_i gv vs hg hvs
          cases hca : callAV P gv vs with
          | none => simp [hca] at hr
          | some res =>
            simp [hca] at hr
            obtain ⟨_, hr⟩ := hr
            subst hr
            obtain ⟨_, _, _, _, _, _, _, h'⟩ := callAV_or hca
            rcases h' with h' | h' | ⟨_, h'⟩ <;> cases h'
        · simp at hr
      | invoke x m => rw [hc] at hr; simp at hr
      | builtin b =>
        rcases native_builtin hop hc hr0 with ⟨n, e⟩ | ⟨t, x, y, v, u, _, _, _, _, hh⟩ | ⟨j1, b1, v1, e, e2, e3⟩
        · cases e
        · obtain ⟨j1, b1, v1, e, _⟩ := appendAV_grow hh; cases e
        · injection e with e1 _ _; subst e1; exact ⟨e3, e2⟩
    | slice t x lo hi mx =>
      rw [hop] at hr
      cases mx with
      | none =>
            simp only at hr
            split at hr
            · rename_i r0 ha; obtain ⟨c1, v1, e1⟩ := arrSl_val ha; rw [e1] at hr; simp at hr
            (repeat' split at hr) <;> simp at hr
      | some m => cases hi with
        | none => simp at hr
        | some i => simp only at hr; (repeat' split at hr) <;> simp at hr
    | lookup t m k ok => obtain ⟨c1, v1, e1⟩ := (native_map hr0).1 t m k ok hop; simp at e1
    | makeMap t q => obtain ⟨c1, v1, b1, e1⟩ := (native_map hr0).2.1 t q hop; simp at e1
    | mapUpdate t m k v => obtain ⟨c1, v1, b1, e1, e2, e3⟩ := (native_map hr0).2.2 t m k v (.inl hop); simp at e1
    | insert t m k v => obtain ⟨c1, v1, b1, e1, e2, e3⟩ := (native_map hr0).2.2 t m k v (.inr hop); simp at e1
    | _ => rw [hop] at hr; simp only at hr; (repeat' split at hr) <;> simp at hr
  · unfold byCalm at h
    split at h
    · split at h
      · rename_i v hv
        cases hx : ofV v <;> simp [hx] at h
      · simp at h
    · simp at h
theorem opRes_alloc {b : Blk} {v : AV} {c : Bool} (h : opRes P p loc nx o = some (c, .alloc b v)) : (nx, true) ∈ touch P p nx o := by
  unfold opRes at h
  split at h
  · rename_i rr hr
    injection h with h; subst h
    have hr0 := hr
    unfold native at hr
    unfold touch
    cases hop : o.op with
    | alloc t => simp
    | box t x => simp
    | buildSlice t n ps => simp
    | call cc =>
      rw [hop] at hr
      simp only at hr
      cases hc : cc.callee with
      | value g =>
        rw [hc] at hr
        simp only at hr
        split at hr
        · rename_i gv vs hg hvs
          cases hca : callAV P gv vs with
          | none => simp [hca] at hr
          | some res =>
            simp [hca] at hr
            obtain ⟨_, hr⟩ := hr
            subst hr
            obtain ⟨_, _, _, _, _, _, _, h'⟩ := callAV_or hca
            rcases h' with h' | h' | ⟨_, h'⟩ <;> cases h'
        · simp at hr
      | invoke x m => rw [hc] at hr; simp at hr
      | builtin b =>
        rcases native_builtin hop hc hr0 with ⟨n, e⟩ | ⟨t, x, y, v, u, _, _, _, _, hh⟩ | ⟨j1, b1, v1, e, _⟩
        · cases e
        · obtain ⟨j1, b1, v1, e, _⟩ := appendAV_grow hh; cases e
        · cases e
    | slice t x lo hi mx =>
      rw [hop] at hr
      cases mx with
      | none =>
            simp only at hr
            split at hr
            · rename_i r0 ha; obtain ⟨c1, v1, e1⟩ := arrSl_val ha; rw [e1] at hr; simp at hr
            (repeat' split at hr) <;> simp at hr
      | some m => cases hi with
        | none => simp at hr
        | some i => simp only at hr; (repeat' split at hr) <;> simp at hr
    | lookup t m k ok => obtain ⟨c1, v1, e1⟩ := (native_map hr0).1 t m k ok hop; simp at e1
    | makeMap t q => simp
    | mapUpdate t m k v => obtain ⟨c1, v1, b1, e1, e2, e3⟩ := (native_map hr0).2.2 t m k v (.inl hop); simp at e1
    | insert t m k v => obtain ⟨c1, v1, b1, e1, e2, e3⟩ := (native_map hr0).2.2 t m k v (.inr hop); simp at e1
    | _ => rw [hop] at hr; simp only at hr; (repeat' split at hr) <;> simp at hr
  · unfold byCalm at h
    split at h
    · split at h
      · rename_i v hv
        cases hx : ofV v <;> simp [hx] at h
      · simp at h
    · simp at h
theorem opRes_grow {j : Nat} {b : Blk} {v : AV} {c : Bool} (h : opRes P p loc nx o = some (c, .grow j b v)) : (j, true) ∈ touch P p nx o ∧ (j = nx ∨ (loc j).isSome = true) := by
  unfold opRes at h
  split at h
  · rename_i rr hr
    injection h with h; subst h
    have hr0 := hr
    unfold native at hr
    cases hop : o.op with
    | buildSlice t n ps =>
      have e : j = nx := by rw [hop] at hr; simp only at hr; (repeat' split at hr) <;> simp at hr <;> exact hr.2.1.symm
      exact ⟨by simp [touch, hop, e], .inl e⟩
    | call cc =>
      rw [hop] at hr
      simp only at hr
      cases hc : cc.callee with
      | value g =>
        rw [hc] at hr
        simp only at hr
        split at hr
        · rename_i gv vs hg hvs
          cases hca : callAV P gv vs with
          | none => simp [hca] at hr
          | some res =>
            simp [hca] at hr
            obtain ⟨_, hr⟩ := hr
            subst hr
            obtain ⟨_, _, _, _, _, _, _, h'⟩ := callAV_or hca
            rcases h' with h' | h' | ⟨_, h'⟩ <;> cases h'
        · simp at hr
      | invoke x m => rw [hc] at hr; simp at hr
      | builtin b =>
        rcases native_builtin hop hc hr0 with ⟨n, e⟩ | ⟨t, x, y, v, u, _, _, _, _, hh⟩ | ⟨j1, b1, v1, e, _⟩
        · cases e
        rotate_left
        · cases e
        · rename_i hb ha hx hy
          subst hb
          obtain ⟨j1, b1, v1, e, h2⟩ := appendAV_grow hh
          injection e with e1 e2 e3; subst e1
          rw [touch_append hop hc ha hx hy]
          rcases h2 with ⟨v2, n2, e4, e5⟩ | ⟨e4, e5⟩
          · subst e4; exact ⟨List.mem_cons_self .., .inr e5⟩
          · subst e5; subst e4; exact ⟨List.mem_cons_self .., .inl rfl⟩
    | slice t x lo hi mx =>
      rw [hop] at hr
      cases mx with
      | none =>
            simp only at hr
            split at hr
            · rename_i r0 ha; obtain ⟨c1, v1, e1⟩ := arrSl_val ha; rw [e1] at hr; simp at hr
            (repeat' split at hr) <;> simp at hr
      | some m => cases hi with
        | none => simp at hr
        | some i => simp only at hr; (repeat' split at hr) <;> simp at hr
    | lookup t m k ok => obtain ⟨c1, v1, e1⟩ := (native_map hr0).1 t m k ok hop; simp at e1
    | makeMap t q => obtain ⟨c1, v1, b1, e1⟩ := (native_map hr0).2.1 t q hop; simp at e1
    | mapUpdate t m k v => obtain ⟨c1, v1, b1, e1, e2, e3⟩ := (native_map hr0).2.2 t m k v (.inl hop); simp at e1
    | insert t m k v => obtain ⟨c1, v1, b1, e1, e2, e3⟩ := (native_map hr0).2.2 t m k v (.inr hop); simp at e1
    | _ => rw [hop] at hr; simp only at hr; (repeat' split at hr) <;> simp at hr
  · unfold byCalm at h
    split at h
    · split at h
      · rename_i v hv
        cases hx : ofV v <;> simp [hx] at h
      · simp at h
    · simp at h
end
section
variable {P : Program} {cl : FuncId → List AV → Option AV} {ops : Array Oper} {env env' : List AV} {loc loc' : Nat → Option Blk} {nx : Nat} {o : Oper} {e : Eff}
theorem evO_congr (h : ∀ t ∈ o.looksAt ops, env[t]? = env'[t]?) : ∀ x ∈ o.op.operands, evO env x = evO env' x := by
  intro x hx
  cases x with
  | tmp t => exact h t (List.mem_append_left _ (List.mem_filterMap.2 ⟨.tmp t, by simpa using hx, rfl⟩))
  | _ => rfl
theorem touch_congr {p p' : Operand → Option AV} (h : ∀ x ∈ o.op.operands, p x = p' x) : touch P p nx o = touch P p' nx o := by
  unfold touch
  cases hop : o.op with
  | load t x => rw [hop] at h; simp only [h x (by simp [Op.operands])]
  | slice t x lo hi mx => rw [hop] at h; simp only [h x (by simp [Op.operands])]
  | store t a x => rw [hop] at h; simp only [h a (by simp [Op.operands])]
  | lookup t m k ok => rw [hop] at h; simp only [h m (by simp [Op.operands])]
  | mapUpdate t m k v => rw [hop] at h; simp only [h m (by simp [Op.operands])]
  | insert t m k v => rw [hop] at h; simp only [h m (by simp [Op.operands])]
  | call c =>
    rw [hop] at h
    have hargs : mapEv p c.args.toList = mapEv p' c.args.toList := mapEv_congr fun x hx => h x (by
      simp only [Op.operands, Call.operands, Array.mem_append]; exact .inr (by simpa using hx))
    cases hc : c.callee with
    | value f =>
      have hf : p f = p' f := h f (by simp [Op.operands, Call.operands, hc])
      simp only [hc, hf, hargs]
    | builtin b =>
      by_cases hb2 : b = .append
      · subst hb2
        simp only [hc]
        split
        · rename_i x y ha
          have hx : p x = p' x := h x (by simp only [Op.operands, Call.operands, Array.mem_append]; right; rw [← Array.mem_toList_iff, ha]; simp)
          have hy : p y = p' y := h y (by simp only [Op.operands, Call.operands, Array.mem_append]; right; rw [← Array.mem_toList_iff, ha]; simp)
          simp only [hx, hy]
        · rfl
      · by_cases hb3 : b = .clear
        · subst hb3
          simp only [hc]
          split
          · rename_i x ha
            have hx : p x = p' x := h x (by simp only [Op.operands, Call.operands, Array.mem_append]; right; rw [← Array.mem_toList_iff, ha]; simp)
            simp only [hx]
          · rfl
        · cases b <;> first | exact absurd rfl hb2 | exact absurd rfl hb3 | simp only [hc]
    | _ => simp only [hc]
  | _ => rfl
theorem wantD_congr (h : ∀ t ∈ o.looksAt ops, env[t]? = env'[t]?) : wantD ops env o = wantD ops env' o := by
  unfold wantD
  cases hg : o.guard with
  | none => rfl
  | some g =>
    obtain ⟨j, want⟩ := g
    cases hj : ops[j]? with
    | none => simp only [hj]
    | some oj =>
      cases hd : oj.dst with
      | none => simp only [hj, hd]
      | some d =>
        have : env[d]? = env'[d]? := h d (List.mem_append_right _ (by simp [hg, hj, hd]))
        simp only [hj, hd, this]
theorem effOf_congr (h : ∀ t ∈ o.looksAt ops, env[t]? = env'[t]?) (hl : ∀ t ∈ touch P (evO env) nx o, loc t.1 = loc' t.1) : effOf P cl ops env loc nx o = effOf P cl ops env' loc' nx o := by
  unfold effOf
  rw [wantD_congr h, opRes_congr (evO_congr h) hl]
  cases wantD ops env' o with
  | none => rfl
  | some b =>
    cases b with
    | false => rfl
    | true =>
      cases hr : opRes P (evO env') loc' nx o with
      | none => rfl
      | some x =>
        obtain ⟨c, res⟩ := x
        cases c with
        | false => rfl
        | true =>
          cases res with
          | call f args =>
            have : callArgs loc args = callArgs loc' args := callArgs_congr fun j hj => by
              have := opRes_call hr j hj
              rw [touch_congr (evO_congr h)] at hl
              exact hl _ this
            simp only [effR, this]
          | turn f args =>
            have : turnArgs loc args = turnArgs loc' args := turnArgs_congr fun j hj => by
              have := opRes_turn hr j hj
              rw [touch_congr (evO_congr h)] at hl
              exact hl _ this
            simp only [effR, this]
          | fresh f t args =>
            have : callArgs loc args = callArgs loc' args := callArgs_congr fun j hj => by
              have := (opRes_fresh hr).2 j hj
              rw [touch_congr (evO_congr h)] at hl
              exact hl _ this
            simp only [effR, this]
          | _ => rfl
theorem effOf_mem {j : Nat} {b : Blk} (he : effOf P cl ops env loc nx o = some e) (hm : e.mem = some (j, b)) : (j, true) ∈ touch P (evO env) nx o ∧ (j = nx ∨ (loc j).isSome = true) := by
  unfold effOf at he
  split at he
  · split at he
    · rename_i res hr
      cases res with
      | val v => simp [effR] at he; subst he; simp at hm
      | alloc b' v => simp [effR] at he; subst he; simp at hm; obtain ⟨e1, _⟩ := hm; subst e1; exact ⟨opRes_alloc hr, .inl rfl⟩
      | grow j' b' v => simp [effR] at he; subst he; simp at hm; obtain ⟨e1, _⟩ := hm; subst e1; exact opRes_grow hr
      | store j' b' => simp [effR] at he; subst he; simp at hm; obtain ⟨e1, _⟩ := hm; subst e1; exact ⟨(opRes_write hr).1, .inr (opRes_write hr).2⟩
      | put j' b' v => simp [effR] at he; subst he; simp at hm; obtain ⟨e1, _⟩ := hm; subst e1; exact ⟨(opRes_put hr).1, .inr (opRes_put hr).2⟩
      | call f args =>
        simp only [effR] at he
        split at he
        · split at he
          · split at he
            · simp at he
            · injection he with he; subst he; simp at hm
          · simp at he
        · simp at he
      | turn f args =>
        simp only [effR] at he
        split at he
        case h_2 => simp at he
        rename_i hta
        split at he
        case h_2 => simp at he
        split at he
        case h_2 => simp at he
        injection he with he; subst he; simp at hm
        obtain ⟨e1, _⟩ := hm; subst e1
        exact ⟨opRes_turn hr _ (turnArgs_mem hta).1, .inr (turnArgs_mem hta).2⟩
      | fresh f t args =>
        simp only [effR] at he
        split at he
        case h_2 => simp at he
        split at he
        case h_2 => simp at he
        split at he
        case h_2 => simp at he
        injection he with he; subst he; simp at hm
        obtain ⟨e1, _⟩ := hm; subst e1
        exact ⟨(opRes_fresh hr).1, .inl rfl⟩
    · simp at he
  · injection he with he; subst he; simp at hm
  · simp at he
theorem effOf_dst (he : effOf P cl ops env loc nx o = some e) : e.dst = o.dst := by
  unfold effOf at he
  split at he
  · split at he
    · rename_i res hr
      cases res with
      | val v => simp [effR] at he; subst he; rfl
      | alloc b' v => simp [effR] at he; subst he; rfl
      | grow j' b' v => simp [effR] at he; subst he; rfl
      | store j' b' => simp [effR] at he; subst he; rfl
      | put j' b' v => simp [effR] at he; subst he; rfl
      | call f args =>
        simp only [effR] at he
        split at he
        · split at he
          · split at he
            · simp at he
            · injection he with he; subst he; rfl
          · simp at he
        · simp at he
      | turn f args =>
        simp only [effR] at he
        split at he
        case h_2 => simp at he
        split at he
        case h_2 => simp at he
        split at he
        case h_2 => simp at he
        injection he with he; subst he; rfl
      | fresh f t args =>
        simp only [effR] at he
        split at he
        case h_2 => simp at he
        split at he
        case h_2 => simp at he
        split at he
        case h_2 => simp at he
        injection he with he; subst he; rfl
    · simp at he
  · injection he with he; subst he; rfl
  · simp at he
end
end Go.Proofs.YtjbhooodjmjdkaaGreat.Ev
/-! EvI -/
namespace Go.Proofs.YtjbhooodjmjdkaaGreat.Ev
open Go.RowKit
def locOf (st : St) : Nat → Option Blk := fun k => st.loc[k]?
def applyE (st : St) (e : Eff) : St :=
  { st with
    env := putD st.env e.dst e.v
    loc := match e.mem with
      | some (j, b) => if j < st.loc.length then st.loc.set j b else st.loc ++ [b]
      | none => st.loc }
def stepE (P : Program) (cl : FuncId → List AV → Option AV) (ops : Array Oper) (st : St) (o : Oper) : Option Eff := effOf P cl ops st.env (locOf st) st.loc.length o
def maskOf (acc : List Nat) (o : Oper) : Nat := o.after.toList.foldl (fun s e => if Region.binds .any e = true then (s ||| 2 ^ e.on) ||| acc.getD e.on 0 else s) 0
def masks : List Oper → List Nat → List Nat
  | [], acc => acc
  | o :: os, acc => masks os (acc ++ [maskOf acc o])
def clashes (bf : List Nat) (i : Nat) (t : Nat × Bool) : List (Nat × Nat × Bool) → Bool
  | [] => false
  | (k, j, wr) :: rest => ((j == t.1 && (wr || t.2)) && !((bf.getD i 0).testBit k)) || clashes bf i t rest
def clashAny (bf : List Nat) (i : Nat) (tr : List (Nat × Nat × Bool)) : List (Nat × Bool) → Bool
  | [] => false
  | t :: ts => clashes bf i t tr || clashAny bf i tr ts
def addTr (i : Nat) (tr : List (Nat × Nat × Bool)) : List (Nat × Bool) → List (Nat × Nat × Bool)
  | [] => tr
  | t :: ts => (i, t.1, t.2) :: addTr i tr ts
def runOps (P : Program) (cl : FuncId → List AV → Option AV) (ops : Array Oper) (draw : Bool) (bf : List Nat) : List Oper → Nat → St → List (Nat × Nat × Bool) → Option St
  | [], _, st, _ => some st
  | o :: rest, i, st, tr => match stepE P cl ops st o with
    | some e => match draw with
      | true => match clashAny bf i tr (touch P (evO st.env) st.loc.length o) with
        | true => none
        | false => runOps P cl ops draw bf rest (i + 1) (applyE st e) (addTr i tr (touch P (evO st.env) st.loc.length o))
      | false => runOps P cl ops draw bf rest (i + 1) (applyE st e) tr
    | none => none
def depSlot (ops : Array Oper) (x y : Oper) : Bool :=
  (match x.dst with | some d => (y.looksAt ops).contains d || y.dst == some d | none => false) || (match y.dst with | some d => (x.looksAt ops).contains d | none => false)
def regOkAt (ops : Array Oper) (bf : List Nat) (i : Nat) (oi : Oper) : Bool :=
  (oi.after.toList.all fun e => !Region.binds .any e || decide (e.on < i)) && (List.range i).all fun k => match ops[k]? with
    | some ok => !depSlot ops ok oi || (bf.getD i 0).testBit k
    | none => true
def regOk (ops : Array Oper) (bf : List Nat) : Bool := (List.range ops.size).all fun i => match ops[i]? with
  | some oi => regOkAt ops bf i oi
  | none => true
section
variable {P : Program} {cl : FuncId → List AV → Option AV} {X : Fx} {w : World} {A0 : Nat → Prop} {r : Rr} {ds : List Nat} {sav : List AV} {sv : Array Value} {yl : Option Nat} {a : Act} {ops : Array Oper} {ro : Option Nat} {n : Nat} {Q : Exit → Act → World → Prop}
theorem locOf_len (st : St) : locOf st st.loc.length = none := by simp [locOf]
theorem locOf_apply {st : St} {o : Oper} {e : Eff} (h : stepE P cl ops st o = some e) : locOf (applyE st e) = locE e (locOf st) := by
  funext k
  unfold locOf applyE locE
  cases hm : e.mem with
  | none => rfl
  | some jb =>
    obtain ⟨j, b⟩ := jb
    simp only
    rcases (effOf_mem h hm).2 with hj | hj
    · subst hj
      simp only [Nat.lt_irrefl, if_false]
      by_cases hk : k = st.loc.length
      · simp [hk]
      · rw [if_neg hk]
        by_cases hlt : k < st.loc.length
        · rw [List.getElem?_append_left hlt]
        · rw [List.getElem?_append_right (by omega), List.getElem?_eq_none (by simp; omega), List.getElem?_eq_none (by omega)]
    · have hlt : j < st.loc.length := by
        simp only [locOf] at hj
        cases hh : st.loc[j]? with
        | none => simp [hh] at hj
        | some x => exact (List.getElem?_eq_some_iff.1 hh).1
      simp only [hlt, if_true, List.getElem?_set]
      by_cases hk : k = j
      · subst hk; simp [hlt]
      · simp [hk, Ne.symm hk]
theorem seq_ops (hcl : ∀ f args v, cl f args = some v → CC P f args v) {bf : List Nat} : ∀ (l : List Oper) (i : Nat) (st st' : St) (tr : List (Nat × Nat × Bool)) (r : Rr) (a : Act) (w : World), (∀ j, l[j]? = ops[i + j]?) →
    runOps P cl ops false bf l i st tr = some st' → FR X yl A0 sav sv st.env (locOf st) r ds a w → (∀ r' a' w', FR X yl A0 sav sv st'.env (locOf st') r' ds a' w' → Q .normal a' w') →
    wpOpsIn (WF ro) n P ops Q (List.range' i l.length) a w
  | [], i, st, st', tr, r, a, w, _, h, hfr, hQ => by
    simp [runOps] at h; subst h
    exact hQ r a w hfr
  | o :: rest, i, st, st', tr, r, a, w, hl, h, hfr, hQ => by
    have h0 : ops[i]? = some o := by simpa using (hl 0).symm
    simp only [runOps] at h
    split at h
    · rename_i e he
      simp only [List.length_cons, List.range'_succ, wpOpsIn, h0]
      refine op_step hcl hfr (fun _ _ _ _ _ _ _ => locOf_len st) he (fun r' a' w' hfr' => ?_)
      refine seq_ops hcl rest (i + 1) (applyE st e) st' tr r' a' w' (fun j => by have := hl (j + 1); simpa [Nat.add_assoc, Nat.add_comm 1 j] using this) h ?_ hQ
      rw [locOf_apply he]
      exact hfr'
    · simp at h
theorem addTr_mem {i : Nat} {tr : List (Nat × Nat × Bool)} : ∀ {ts : List (Nat × Bool)} {x : Nat × Nat × Bool}, x ∈ addTr i tr ts ↔ (x ∈ tr ∨ ∃ t ∈ ts, x = (i, t.1, t.2))
  | [], x => by simp [addTr]
  | t :: ts, x => by
    simp only [addTr, List.mem_cons, addTr_mem (ts := ts)]
    constructor
    · rintro (h | h | ⟨t', ht, h⟩)
      · exact .inr ⟨t, .inl rfl, h⟩
      · exact .inl h
      · exact .inr ⟨t', .inr ht, h⟩
    · rintro (h | ⟨t', rfl | ht, h⟩)
      · exact .inr (.inl h)
      · exact .inl h
      · exact .inr (.inr ⟨t', ht, h⟩)
theorem clashes_false {bf : List Nat} {i : Nat} {t : Nat × Bool} : ∀ {tr : List (Nat × Nat × Bool)}, clashes bf i t tr = false → ∀ x ∈ tr, x.2.1 = t.1 → (x.2.2 = true ∨ t.2 = true) → (bf.getD i 0).testBit x.1 = true
  | [], _, x, hx, _, _ => by cases hx
  | (k, j, wr) :: rest, h, x, hx, he, hw => by
    simp only [clashes, Bool.or_eq_false_iff] at h
    rcases List.mem_cons.1 hx with rfl | hx
    · have h1 := h.1
      simp only at he hw
      cases hb : (bf.getD i 0).testBit k with
      | true => rfl
      | false =>
        rw [hb] at h1
        simp only [he, beq_self_eq_true, Bool.true_and, Bool.not_false, Bool.and_true] at h1
        rcases hw with hw | hw <;> simp [hw] at h1
    · exact clashes_false h.2 x hx he hw
theorem clashAny_false {bf : List Nat} {i : Nat} {tr : List (Nat × Nat × Bool)} : ∀ {ts : List (Nat × Bool)}, clashAny bf i tr ts = false → ∀ t ∈ ts, ∀ x ∈ tr, x.2.1 = t.1 → (x.2.2 = true ∨ t.2 = true) → (bf.getD i 0).testBit x.1 = true
  | [], _, t, ht => by cases ht
  | t' :: ts, h, t, ht => by
    simp only [clashAny, Bool.or_eq_false_iff] at h
    rcases List.mem_cons.1 ht with rfl | ht
    · exact clashes_false h.1
    · exact clashAny_false h.2 t ht
theorem trace {bf : List Nat} : ∀ (l : List Oper) (i : Nat) (st st' : St) (tr : List (Nat × Nat × Bool)), runOps P cl ops true bf l i st tr = some st' →
    ∃ (S : Nat → St) (R : Nat → Eff), S i = st ∧ S (i + l.length) = st' ∧ (∀ k o, l[k]? = some o → stepE P cl ops (S (i + k)) o = some (R (i + k)) ∧ S (i + k + 1) = applyE (S (i + k)) (R (i + k))) ∧
      (∀ k o, l[k]? = some o → ∀ t ∈ touch P (evO (S (i + k)).env) (S (i + k)).loc.length o,
        (∀ x ∈ tr, x.2.1 = t.1 → (x.2.2 = true ∨ t.2 = true) → (bf.getD (i + k) 0).testBit x.1 = true) ∧
        ∀ k' o', k' < k → l[k']? = some o' → ∀ t' ∈ touch P (evO (S (i + k')).env) (S (i + k')).loc.length o', t'.1 = t.1 → (t'.2 = true ∨ t.2 = true) → (bf.getD (i + k) 0).testBit (i + k') = true)
  | [], i, st, st', tr, h => by
    simp [runOps] at h; subst h
    exact ⟨fun _ => st, fun _ => ⟨none, .top, none⟩, rfl, rfl, fun k o hk => by simp at hk, fun k o hk => by simp at hk⟩
  | o :: rest, i, st, st', tr, h => by
    simp only [runOps] at h
    split at h
    · rename_i e he
      split at h
      · simp at h
      · rename_i hc
        obtain ⟨S, R, h1, h2, h3, h4⟩ := trace rest (i + 1) (applyE st e) st' _ h
        have hS : ∀ k, (if i + 1 + k = i then st else S (i + 1 + k)) = S (i + 1 + k) := fun k => if_neg (by omega)
        refine ⟨fun k => if k = i then st else S k, fun k => if k = i then e else R k, if_pos rfl, ?_, fun k o' hk => ?_, fun k o' hk t ht => ?_⟩
        · show (if i + (rest.length + 1) = i then st else S (i + (rest.length + 1))) = st'
          rw [if_neg (by omega), ← h2]; congr 1; omega
        · cases k with
          | zero =>
            simp at hk; subst hk
            simp only [Nat.add_zero, if_true]
            exact ⟨he, by rw [if_neg (by omega)]; exact h1⟩
          | succ k =>
            have e1 : i + (k + 1) = i + 1 + k := by omega
            have := h3 k o' (by simpa using hk)
            simp only [e1]
            rw [if_neg (show ¬ i + 1 + k = i by omega), if_neg (show ¬ i + 1 + k = i by omega), if_neg (show ¬ i + 1 + k + 1 = i by omega)]
            exact this
        · cases k with
          | zero =>
            simp at hk; subst hk
            simp only [Nat.add_zero, if_true] at ht ⊢
            exact ⟨clashAny_false hc t ht, fun k' o'' hk' => by omega⟩
          | succ k =>
            have e1 : i + (k + 1) = i + 1 + k := by omega
            simp only [e1] at ht ⊢
            rw [if_neg (show ¬ i + 1 + k = i by omega)] at ht
            obtain ⟨g1, g2⟩ := h4 k o' (by simpa using hk) t ht
            refine ⟨fun x hx => g1 x (addTr_mem.2 (.inl hx)), fun k' o'' hk' ho'' t' ht' he' hw' => ?_⟩
            cases k' with
            | zero =>
              simp at ho''; subst ho''
              simp only [Nat.add_zero, if_true] at ht'
              exact g1 (i, t'.1, t'.2) (addTr_mem.2 (.inr ⟨t', ht', rfl⟩)) he' hw'
            | succ k' =>
              have e2 : i + (k' + 1) = i + 1 + k' := by omega
              simp only [e2] at ht' ⊢
              rw [if_neg (show ¬ i + 1 + k' = i by omega)] at ht'
              exact g2 k' o'' (by omega) (by simpa using ho'') t' ht' he' hw'
    · simp at h
/-! ### What is fixed of the order -/
theorem foldl_mask {acc : List Nat} {j : Nat} : ∀ (l : List Edge) (s : Nat), (l.foldl (fun s e => if Region.binds .any e = true then (s ||| 2 ^ e.on) ||| acc.getD e.on 0 else s) s).testBit j = true →
    s.testBit j = true ∨ ∃ e ∈ l, Region.binds .any e = true ∧ (e.on = j ∨ (acc.getD e.on 0).testBit j = true)
  | [], s, h => .inl h
  | e :: l, s, h => by
    simp only [List.foldl_cons] at h
    rcases foldl_mask l _ h with h | ⟨e', he', h'⟩
    · split at h
      · rename_i hb
        rw [Nat.testBit_or, Nat.testBit_or, Bool.or_eq_true, Bool.or_eq_true] at h
        rcases h with (h | h) | h
        · exact .inl h
        · rw [Nat.testBit_two_pow] at h
          exact .inr ⟨e, by simp, hb, .inl (by simpa using h)⟩
        · exact .inr ⟨e, by simp, hb, .inr h⟩
      · exact .inl h
    · exact .inr ⟨e', by simp [he'], h'⟩
theorem masks_spec : ∀ (l : List Oper) (acc : List Nat), (masks l acc).take acc.length = acc ∧ (masks l acc).length = acc.length + l.length ∧
    ∀ i o, l[i]? = some o → (masks l acc)[acc.length + i]? = some (maskOf ((masks l acc).take (acc.length + i)) o)
  | [], acc => ⟨by simp [masks], by simp [masks], fun i o h => by simp at h⟩
  | o :: os, acc => by
    obtain ⟨h1, h2, h3⟩ := masks_spec os (acc ++ [maskOf acc o])
    simp only [masks]
    have ht : (masks os (acc ++ [maskOf acc o])).take acc.length = acc := by
      have := congrArg (List.take acc.length) h1
      rw [List.take_take] at this
      simpa using this
    refine ⟨ht, by rw [h2]; simp; omega, fun i o' hi => ?_⟩
    cases i with
    | zero =>
      simp at hi; subst hi
      simp only [Nat.add_zero, ht]
      have : ((masks os (acc ++ [maskOf acc o])).take (acc ++ [maskOf acc o]).length)[acc.length]? = (acc ++ [maskOf acc o])[acc.length]? := by rw [h1]
      rw [List.getElem?_take] at this
      simpa using this
    | succ i =>
      have := h3 i o' (by simpa using hi)
      simp only [List.length_append, List.length_singleton] at this
      rw [show acc.length + (i + 1) = acc.length + 1 + i by omega]
      exact this
def Closed (ops : Array Oper) (L : Nat → Bool) : Prop := ∀ i o, ops[i]? = some o → L i = true → ∀ e ∈ o.after, Region.binds .any e = true → L e.on = true
theorem closed_before {L : Nat → Bool} (hL : Closed ops L) : ∀ (i : Nat) (o : Oper), ops[i]? = some o → (∀ e ∈ o.after, Region.binds .any e = true → L e.on = true) → ∀ k, ((masks ops.toList []).getD i 0).testBit k = true → L k = true := by
  intro i
  induction i using Nat.strongRecOn with
  | _ i ih =>
    intro o ho hr k hk
    have hsp := (masks_spec ops.toList []).2.2 i o (by simpa using ho)
    simp only [List.length_nil, Nat.zero_add] at hsp
    rw [List.getD_eq_getElem?_getD, hsp, Option.getD_some] at hk
    unfold maskOf at hk
    rcases foldl_mask _ _ hk with h | ⟨e, he, hb, h⟩
    · simp at h
    · have hLe := hr e (by simpa using he) hb
      rcases h with h | h
      · rw [← h]; exact hLe
      · have hlt : e.on < i := by
          rcases Nat.lt_or_ge e.on i with hlt | hge
          · exact hlt
          · rw [List.getD_eq_getElem?_getD, List.getElem?_eq_none (by simp; omega)] at h
            simp at h
        have hlo : e.on < ops.size := Nat.lt_trans hlt (Array.getElem?_eq_some_iff.1 ho).1
        refine ih e.on hlt ops[e.on] (Array.getElem?_eq_getElem hlo) (hL e.on _ (Array.getElem?_eq_getElem hlo) hLe) k ?_
        rw [List.getD_eq_getElem?_getD, List.getElem?_take, if_pos hlt] at h
        rw [List.getD_eq_getElem?_getD]
        exact h
/-! ### The frame when a set of operations has come up -/
def eL (R : Nat → Eff) (L : Nat → Bool) (env0 : List AV) : Nat → List AV
  | 0 => env0
  | k + 1 => if L k = true then putD (eL R L env0 k) (R k).dst (R k).v else eL R L env0 k
def lL (R : Nat → Eff) (L : Nat → Bool) (loc0 : Nat → Option Blk) : Nat → Nat → Option Blk
  | 0 => loc0
  | k + 1 => if L k = true then locE (R k) (lL R L loc0 k) else lL R L loc0 k
theorem putD_length (env : List AV) (d : Option Nat) (v : AV) : (putD env d v).length = env.length := by cases d <;> simp [putD]
theorem eL_length (R : Nat → Eff) (L : Nat → Bool) (env0 : List AV) : ∀ k, (eL R L env0 k).length = env0.length
  | 0 => rfl
  | k + 1 => by simp only [eL]; split <;> simp [putD_length, eL_length R L env0 k]
theorem putD_get_ne {env : List AV} {d : Option Nat} {v : AV} {t : Nat} (h : d ≠ some t) : (putD env d v)[t]? = env[t]? := by
  cases d with
  | none => rfl
  | some d => simp only [putD]; rw [List.getElem?_set, if_neg (fun e => h (by rw [e]))]
theorem eL_agree {R : Nat → Eff} {L : Nat → Bool} {env0 : List AV} {t i : Nat} (h1 : ∀ k, k < i → (R k).dst = some t → L k = true) (h2 : ∀ k, i ≤ k → (R k).dst = some t → L k = false) : ∀ m, i ≤ m → (eL R L env0 m)[t]? = (eL R (fun _ => true) env0 i)[t]? := by
  have low : ∀ k, k ≤ i → (eL R L env0 k)[t]? = (eL R (fun _ => true) env0 k)[t]? := by
    intro k
    induction k with
    | zero => intro _; rfl
    | succ k ih =>
      intro hk
      have ih := ih (by omega)
      simp only [eL, if_true]
      by_cases hd : (R k).dst = some t
      · rw [if_pos (h1 k (by omega) hd), hd]
        simp only [putD, List.getElem?_set, if_true]
        rw [eL_length, eL_length]
      · rw [putD_get_ne hd]
        split
        · rw [putD_get_ne hd]; exact ih
        · exact ih
  intro m hm
  induction m with
  | zero =>
    have : i = 0 := by omega
    subst this; rfl
  | succ m ih =>
    by_cases he : i = m + 1
    · subst he; exact low _ (Nat.le_refl _)
    · have hm' : i ≤ m := by omega
      simp only [eL]
      split
      · rename_i hL
        have hd : (R m).dst ≠ some t := fun hd => by rw [h2 m hm' hd] at hL; cases hL
        rw [putD_get_ne hd]; exact ih hm'
      · exact ih hm'
theorem locE_ne {e : Eff} {l : Nat → Option Blk} {t : Nat} (h : ∀ b, e.mem ≠ some (t, b)) : locE e l t = l t := by
  unfold locE
  cases hm : e.mem with
  | none => rfl
  | some jb =>
    obtain ⟨j, b⟩ := jb
    simp only
    rw [if_neg (fun e' => h b (by rw [hm, e']))]
theorem lL_agree {R : Nat → Eff} {L : Nat → Bool} {loc0 : Nat → Option Blk} {t i : Nat} (h1 : ∀ k b, k < i → (R k).mem = some (t, b) → L k = true) (h2 : ∀ k b, i ≤ k → (R k).mem = some (t, b) → L k = false) : ∀ m, i ≤ m → lL R L loc0 m t = lL R (fun _ => true) loc0 i t := by
  have low : ∀ k, k ≤ i → lL R L loc0 k t = lL R (fun _ => true) loc0 k t := by
    intro k
    induction k with
    | zero => intro _; rfl
    | succ k ih =>
      intro hk
      have ih := ih (by omega)
      simp only [lL, if_true]
      by_cases hd : ∃ b, (R k).mem = some (t, b)
      · obtain ⟨b, hb⟩ := hd
        rw [if_pos (h1 k b (by omega) hb)]
        simp [locE, hb]
      · rw [locE_ne (fun b hb => hd ⟨b, hb⟩)]
        split
        · rw [locE_ne (fun b hb => hd ⟨b, hb⟩)]; exact ih
        · exact ih
  intro m hm
  induction m with
  | zero =>
    have : i = 0 := by omega
    subst this; rfl
  | succ m ih =>
    by_cases he : i = m + 1
    · subst he; exact low _ (Nat.le_refl _)
    · have hm' : i ≤ m := by omega
      simp only [lL]
      split
      · rename_i hL
        rw [locE_ne (fun b hb => by rw [h2 m b hm' hb] at hL; cases hL)]; exact ih hm'
      · exact ih hm'
def addL (L : Nat → Bool) (i : Nat) : Nat → Bool := fun k => if k = i then true else L k
theorem putD_comm {env : List AV} {d d' : Option Nat} {v v' : AV} (h : ∀ t, d = some t → d' ≠ some t) : putD (putD env d v) d' v' = putD (putD env d' v') d v := by
  cases d with
  | none => rfl
  | some d => cases d' with
    | none => rfl
    | some d' =>
      simp only [putD]
      exact List.set_comm v v' (fun e => h d rfl (by rw [e]))
theorem eL_add {R : Nat → Eff} {L : Nat → Bool} {env0 : List AV} {i : Nat} (hi : L i = false) (h : ∀ k, i < k → L k = true → ∀ t, (R i).dst = some t → (R k).dst ≠ some t) : ∀ m, i < m → eL R (addL L i) env0 m = putD (eL R L env0 m) (R i).dst (R i).v := by
  have low : ∀ k, k ≤ i → eL R (addL L i) env0 k = eL R L env0 k := by
    intro k
    induction k with
    | zero => intro _; rfl
    | succ k ih => intro hk; simp only [eL, addL, if_neg (show ¬ k = i by omega)]; rw [show eL R (addL L i) env0 k = eL R L env0 k from ih (by omega)]
  intro m hm
  induction m with
  | zero => omega
  | succ m ih =>
    by_cases he : m = i
    · subst he
      simp only [eL, addL, if_true, hi, Bool.false_eq_true, if_false]
      rw [show eL R (addL L m) env0 m = eL R L env0 m from low m (Nat.le_refl _)]
    · have hm' : i < m := by omega
      simp only [eL, addL, if_neg he]
      rw [show eL R (addL L i) env0 m = putD (eL R L env0 m) (R i).dst (R i).v from ih hm']
      split
      · rename_i hL
        exact putD_comm (h m hm' hL)
      · rfl
theorem locE_comm {e e' : Eff} {l : Nat → Option Blk} (h : ∀ j b b', e.mem = some (j, b) → e'.mem ≠ some (j, b')) : locE e' (locE e l) = locE e (locE e' l) := by
  funext k
  unfold locE
  cases hm : e.mem with
  | none => rfl
  | some jb =>
    obtain ⟨j, b⟩ := jb
    cases hm' : e'.mem with
    | none => rfl
    | some jb' =>
      obtain ⟨j', b'⟩ := jb'
      simp only
      by_cases h1 : k = j' <;> by_cases h2 : k = j
      · exact absurd hm' (by rw [← h1, h2]; exact h j b b' hm)
      · simp [h1]
        intro e; subst e; exact absurd h1 h2
      · simp [h2]
        intro e; subst e; exact absurd h2 (fun h => h1 h)
      · simp [h1, h2]
theorem lL_add {R : Nat → Eff} {L : Nat → Bool} {loc0 : Nat → Option Blk} {i : Nat} (hi : L i = false) (h : ∀ k, i < k → L k = true → ∀ j b b', (R i).mem = some (j, b) → (R k).mem ≠ some (j, b')) : ∀ m, i < m → lL R (addL L i) loc0 m = locE (R i) (lL R L loc0 m) := by
  have low : ∀ k, k ≤ i → lL R (addL L i) loc0 k = lL R L loc0 k := by
    intro k
    induction k with
    | zero => intro _; rfl
    | succ k ih => intro hk; simp only [lL, addL, if_neg (show ¬ k = i by omega)]; rw [show lL R (addL L i) loc0 k = lL R L loc0 k from ih (by omega)]
  intro m hm
  induction m with
  | zero => omega
  | succ m ih =>
    by_cases he : m = i
    · subst he
      simp only [lL, addL, if_true, hi, Bool.false_eq_true, if_false]
      rw [show lL R (addL L m) loc0 m = lL R L loc0 m from low m (Nat.le_refl _)]
    · have hm' : i < m := by omega
      simp only [lL, addL, if_neg he]
      rw [show lL R (addL L i) loc0 m = locE (R i) (lL R L loc0 m) from ih hm']
      split
      · rename_i hL
        exact locE_comm (h m hm' hL)
      · rfl
theorem eL_congr {R : Nat → Eff} {L L' : Nat → Bool} {env0 : List AV} : ∀ m, (∀ k, k < m → L k = L' k) → eL R L env0 m = eL R L' env0 m
  | 0, _ => rfl
  | m + 1, h => by simp only [eL]; rw [h m (by omega), eL_congr m (fun k hk => h k (by omega))]
theorem lL_congr {R : Nat → Eff} {L L' : Nat → Bool} {loc0 : Nat → Option Blk} : ∀ m, (∀ k, k < m → L k = L' k) → lL R L loc0 m = lL R L' loc0 m
  | 0, _ => rfl
  | m + 1, h => by simp only [lL]; rw [h m (by omega), lL_congr m (fun k hk => h k (by omega))]
end
end Go.Proofs.YtjbhooodjmjdkaaGreat.Ev
/-! EvJ -/
namespace Go.Proofs.YtjbhooodjmjdkaaGreat.Ev
open Go.RowKit
section
variable {P : Program} {cl : FuncId → List AV → Option AV} {X : Fx} {w : World} {A0 : Nat → Prop} {r : Rr} {ds : List Nat} {sav : List AV} {sv : Array Value} {yl : Option Nat} {a : Act} {ops : Array Oper} {ro : Option Nat} {n : Nat} {Q : Exit → Act → World → Prop} {yk : Nat}
theorem regOk_dep {bf : List Nat} (h : regOk ops bf = true) {i k : Nat} {oi ok : Oper} (hi : ops[i]? = some oi) (hk : ops[k]? = some ok) (hlt : k < i) (hd : depSlot ops ok oi = true) : (bf.getD i 0).testBit k = true := by
  have hin : i < ops.size := (Array.getElem?_eq_some_iff.1 hi).1
  have h1 := List.all_eq_true.1 h i (List.mem_range.2 hin)
  simp only [hi, regOkAt, Bool.and_eq_true] at h1
  have h2 := List.all_eq_true.1 h1.2 k (List.mem_range.2 hlt)
  simp only [hk, hd, Bool.not_true, Bool.false_or] at h2
  exact h2
theorem regOk_after {bf : List Nat} (h : regOk ops bf = true) {i : Nat} {oi : Oper} (hi : ops[i]? = some oi) : ∀ e ∈ oi.after, Region.binds .any e = true → e.on < i := by
  have hin : i < ops.size := (Array.getElem?_eq_some_iff.1 hi).1
  have h1 := List.all_eq_true.1 h i (List.mem_range.2 hin)
  simp only [hi, regOkAt, Bool.and_eq_true] at h1
  intro e he hb
  have := List.all_eq_true.1 h1.1 e (by simpa using he)
  simpa [hb] using this
structure Lex (P : Program) (cl : FuncId → List AV → Option AV) (ops : Array Oper) (yk : Nat) (S : Nat → St) (R : Nat → Eff) : Prop where
  step : ∀ k o, ops[k]? = some o → k ≠ yk → stepE P cl ops (S k) o = some (R k)
  dst : ∀ k o, ops[k]? = some o → (R k).dst = o.dst
  memt : ∀ k o, ops[k]? = some o → ∀ j b, (R k).mem = some (j, b) → (j, true) ∈ touch P (evO (S k).env) (S k).loc.length o
  env : ∀ k o, ops[k]? = some o → (S (k + 1)).env = putD (S k).env (R k).dst (R k).v
  lf : ∀ k o, ops[k]? = some o → locOf (S (k + 1)) = locE (R k) (locOf (S k))
  grow : ∀ k o, ops[k]? = some o → (S k).loc.length ≤ (S (k + 1)).loc.length
  meet : ∀ k o, ops[k]? = some o → ∀ t ∈ touch P (evO (S k).env) (S k).loc.length o, ∀ k' o', k' < k → ops[k']? = some o' → ∀ t' ∈ touch P (evO (S k').env) (S k').loc.length o', t'.1 = t.1 → (t'.2 = true ∨ t.2 = true) →
    ((masks ops.toList []).getD k 0).testBit k' = true
theorem Lex.frame {S : Nat → St} {R : Nat → Eff} (h : Lex P cl ops yk S R) : ∀ k, k ≤ ops.size → (S k).env = eL R (fun _ => true) (S 0).env k ∧ locOf (S k) = lL R (fun _ => true) (locOf (S 0)) k := by
  intro k
  induction k with
  | zero => intro _; exact ⟨rfl, rfl⟩
  | succ k ih =>
    intro hk
    obtain ⟨i1, i2⟩ := ih (by omega)
    have ho : ops[k]? = some ops[k] := Array.getElem?_eq_getElem (by omega)
    refine ⟨?_, ?_⟩
    · rw [h.env k _ ho]; simp only [eL, if_true]; rw [← i1]
    · rw [h.lf k _ ho]; simp only [lL, if_true]; rw [← i2]
theorem Lex.size_le {S : Nat → St} {R : Nat → Eff} (h : Lex P cl ops yk S R) : ∀ k, k < ops.size → (S k).loc.length ≤ (S (k + 1)).loc.length := by
  intro k hk
  exact h.grow k _ (Array.getElem?_eq_getElem hk)
theorem Lex.size_mono {S : Nat → St} {R : Nat → Eff} (h : Lex P cl ops yk S R) {i : Nat} : ∀ k, i ≤ k → k ≤ ops.size → (S i).loc.length ≤ (S k).loc.length := by
  intro k
  induction k with
  | zero => intro h1 _; have : i = 0 := by omega
            subst this; exact Nat.le_refl _
  | succ k ih =>
    intro h1 h2
    by_cases he : i = k + 1
    · subst he; exact Nat.le_refl _
    · exact Nat.le_trans (ih (by omega) (by omega)) (h.size_le k (by omega))
theorem Lex.agree {S : Nat → St} {R : Nat → Eff} (h : Lex P cl ops yk S R) (hok : regOk ops (masks ops.toList []) = true) {L : Nat → Bool} (hL : Closed ops L) {i : Nat} {o : Oper} (hi : ops[i]? = some o) (hiL : L i = false)
    (hready : ∀ e ∈ o.after, Region.binds .any e = true → L e.on = true) (hout : ∀ k, ops.size ≤ k → L k = false) :
    (∀ t ∈ o.looksAt ops, (eL R L (S 0).env ops.size)[t]? = (S i).env[t]?) ∧ (∀ t ∈ touch P (evO (S i).env) (S i).loc.length o, lL R L (locOf (S 0)) ops.size t.1 = locOf (S i) t.1) := by
  have hin : i < ops.size := (Array.getElem?_eq_some_iff.1 hi).1
  have opAt : ∀ k (hk : k < ops.size), ops[k]? = some (ops[k]'hk) := fun k hk => Array.getElem?_eq_getElem hk
  have dstOf : ∀ k (hk : k < ops.size), (R k).dst = (ops[k]'hk).dst := fun k hk => h.dst k _ (opAt k hk)
  have before : ∀ k, ((masks ops.toList []).getD i 0).testBit k = true → L k = true := closed_before hL i o hi hready
  have behind : ∀ k, k < ops.size → ((masks ops.toList []).getD k 0).testBit i = true → L k = false := fun k hk hb => by
    cases hLk : L k with
    | false => rfl
    | true =>
      have := closed_before hL k _ (opAt k hk) (hL k _ (opAt k hk) hLk) i hb
      rw [hiL] at this; cases this
  constructor
  · intro t ht
    rw [(h.frame i (by omega)).1]
    refine eL_agree (fun k hk hd => ?_) (fun k hk hd => ?_) ops.size (by omega)
    · refine before k (regOk_dep hok hi (opAt k (by omega)) hk ?_)
      rw [dstOf k (by omega)] at hd
      simp [depSlot, hd, ht]
    · by_cases hlt : k < ops.size
      · by_cases he : k = i
        · rw [he]; exact hiL
        · refine behind k hlt (regOk_dep hok (opAt k hlt) hi (by omega) ?_)
          rw [dstOf k hlt] at hd
          simp [depSlot, hd, ht]
      · exact hout k (by omega)
  · intro t ht
    rw [(h.frame i (by omega)).2]
    refine lL_agree (fun k b hk hm => ?_) (fun k b hk hm => ?_) ops.size (by omega)
    · have hw := h.memt k _ (opAt k (by omega)) _ _ hm
      exact before k (h.meet i o hi t ht k _ hk (opAt k (by omega)) _ hw rfl (.inl rfl))
    · by_cases hlt : k < ops.size
      · by_cases he : k = i
        · rw [he]; exact hiL
        · have hw := h.memt k _ (opAt k hlt) _ _ hm
          exact behind k hlt (h.meet k _ (opAt k hlt) _ hw i o (by omega) hi t ht rfl (.inr rfl))
      · exact hout k (by omega)
theorem Lex.add {S : Nat → St} {R : Nat → Eff} (h : Lex P cl ops yk S R) (hok : regOk ops (masks ops.toList []) = true) {L : Nat → Bool} (hL : Closed ops L) {i : Nat} {o : Oper} (hi : ops[i]? = some o) (hiL : L i = false)
    (hout : ∀ k, ops.size ≤ k → L k = false) :
    eL R (addL L i) (S 0).env ops.size = putD (eL R L (S 0).env ops.size) (R i).dst (R i).v ∧ lL R (addL L i) (locOf (S 0)) ops.size = locE (R i) (lL R L (locOf (S 0)) ops.size) := by
  have hin : i < ops.size := (Array.getElem?_eq_some_iff.1 hi).1
  have opAt : ∀ k (hk : k < ops.size), ops[k]? = some (ops[k]'hk) := fun k hk => Array.getElem?_eq_getElem hk
  have dstOf : ∀ k (hk : k < ops.size), (R k).dst = (ops[k]'hk).dst := fun k hk => h.dst k _ (opAt k hk)
  have behind : ∀ k, k < ops.size → ((masks ops.toList []).getD k 0).testBit i = true → L k = false := fun k hk hb => by
    cases hLk : L k with
    | false => rfl
    | true =>
      have := closed_before hL k _ (opAt k hk) (hL k _ (opAt k hk) hLk) i hb
      rw [hiL] at this; cases this
  refine ⟨eL_add hiL (fun k hk hLk t hd hd' => ?_) _ hin, lL_add hiL (fun k hk hLk j b b' hm hm' => ?_) _ hin⟩
  · have hlt : k < ops.size := by
      rcases Nat.lt_or_ge k ops.size with h | h
      · exact h
      · rw [hout k h] at hLk; cases hLk
    have := behind k hlt (regOk_dep hok (opAt k hlt) hi hk (by
      have ei : o.dst = some t := by
        have := dstOf i hin
        rw [hd] at this
        have e2 : ops[i] = o := by rw [opAt i hin] at hi; injection hi
        rw [← e2]; exact this.symm
      have ek : (ops[k]'hlt).dst = some t := by rw [← dstOf k hlt]; exact hd'
      simp [depSlot, ei, ek]))
    rw [this] at hLk; cases hLk
  · have hlt : k < ops.size := by
      rcases Nat.lt_or_ge k ops.size with h | h
      · exact h
      · rw [hout k h] at hLk; cases hLk
    have h1 := h.memt i o hi _ _ hm
    have h2 := h.memt k _ (opAt k hlt) _ _ hm'
    have := behind k hlt (h.meet k _ (opAt k hlt) _ h2 i o hk hi _ h1 rfl (.inl rfl))
    rw [this] at hLk; cases hLk
theorem fresh {S : Nat → St} {R : Nat → Eff} {L : Nat → Bool} {i : Nat} {o : Oper} (hnew : ∀ t ∈ touch P (evO (S i).env) (S i).loc.length o, lL R L (locOf (S 0)) ops.size t.1 = locOf (S i) t.1)
    (ha : ((S i).loc.length, true) ∈ touch P (evO (S i).env) (S i).loc.length o) : lL R L (locOf (S 0)) ops.size (S i).loc.length = none := by
  rw [hnew _ ha]; exact locOf_len _
def left (n : Nat) (listed : Array Bool) : Nat := ((List.range n).filter fun i => !listed.getD i true).length
theorem filter_lt {p q : Nat → Bool} : ∀ (l : List Nat), (∀ x ∈ l, q x = true → p x = true) → (∃ x ∈ l, p x = true ∧ q x = false) → (l.filter q).length < (l.filter p).length
  | [], _, h => by obtain ⟨x, hx, _⟩ := h; cases hx
  | y :: l, h1, h2 => by
    have le : ∀ (l : List Nat), (∀ x ∈ l, q x = true → p x = true) → (l.filter q).length ≤ (l.filter p).length := by
      intro l
      induction l with
      | nil => intro _; simp
      | cons y l ih =>
        intro h
        have ih := ih fun x hx => h x (by simp [hx])
        simp only [List.filter_cons]
        cases hq : q y with
        | true => simp [h y (by simp) hq]; exact ih
        | false => cases p y <;> simp <;> omega
    have hl := le l fun x hx => h1 x (by simp [hx])
    obtain ⟨x, hx, hp, hq⟩ := h2
    rcases List.mem_cons.1 hx with rfl | hx
    · simp only [List.filter_cons, hp, hq, if_true, Bool.false_eq_true, if_false, List.length_cons]; omega
    · have ih := filter_lt l (fun x hx => h1 x (by simp [hx])) ⟨x, hx, hp, hq⟩
      simp only [List.filter_cons]
      cases hqy : q y with
      | true => simp [h1 y (by simp) hqy]; exact ih
      | false => cases p y <;> simp <;> omega
theorem ready_nil (hok : regOk ops (masks ops.toList []) = true) {listed : Array Bool} (hs : listed.size = ops.size) (h : Region.ready .any ops listed = []) : ∀ i, i < ops.size → listed.getD i false = true := by
  intro i
  induction i using Nat.strongRecOn with
  | _ i ih =>
    intro hi
    cases hv : listed.getD i false with
    | true => rfl
    | false =>
      have hmem : i ∈ Region.ready .any ops listed := by
        have ho : ops[i]? = some ops[i] := Array.getElem?_eq_getElem hi
        refine List.mem_filter.2 ⟨List.mem_range.2 hi, ?_⟩
        have hlt : i < listed.size := by omega
        have e1 : listed.getD i true = false := by
          rw [Array.getD_eq_getD_getElem?, Array.getElem?_eq_getElem hlt, Option.getD_some] at hv ⊢; exact hv
        simp only [e1, Bool.not_false, Bool.true_and, ho, Option.map_some, Option.getD_some, Array.all_eq_true']
        intro e he
        cases hb : Region.binds .any e with
        | false => rfl
        | true =>
          simp only [Bool.not_true, Bool.false_or]
          have := regOk_after hok ho e he hb
          exact ih e.on this (by omega)
      rw [h] at hmem; cases hmem
theorem any_order {X1 : Fx} (hcl : ∀ f args v, cl f args = some v → CC P f args v) (hok : regOk ops (masks ops.toList []) = true) {S : Nat → St} {R : Nat → Eff} (hlex : Lex P cl ops yk S R)
    (hys : ∀ o, ops[yk]? = some o → ∀ (A0 : Nat → Prop) (env : List AV) (loc : Nat → Option Blk) (r : Rr) (a : Act) (w : World) (K : Act → World → Prop), (∀ t ∈ o.looksAt ops, env[t]? = (S yk).env[t]?) → FR X yl A0 sav sv env loc r ds a w →
      (∀ A0' r' a' w', FR X1 yl A0' sav sv (putD env (R yk).dst (R yk).v) (locE (R yk) loc) r' ds a' w' → K a' w') → if Region.wanted o (yielded ops a.tmps) then o.wpIn (WF ro) n P a w K Q else (∀ f, o.about P w a.eval = some f → (WF ro).fn f) ∧ K (a.put o.dst undef) w)
    (hQ : ∀ A0 r' a' w', FR (if yk < ops.size then X1 else X) yl A0 sav sv (S ops.size).env (locOf (S ops.size)) r' ds a' w' → Q .normal a' w') :
    ∀ (fuel : Nat) (listed : Array Bool) (A0 : Nat → Prop) (r : Rr) (a : Act) (w : World), listed.size = ops.size → left ops.size listed ≤ fuel → Closed ops (fun k => listed.getD k false) →
      FR (if listed.getD yk false = true then X1 else X) yl A0 sav sv (eL R (fun k => listed.getD k false) (S 0).env ops.size) (lL R (fun k => listed.getD k false) (locOf (S 0)) ops.size) r ds a w → wpAnyIn (WF ro) n P .any ops Q fuel listed a w := by
  have done : ∀ (listed : Array Bool) (A0 : Nat → Prop) (r : Rr) (a : Act) (w : World), listed.size = ops.size → Region.ready .any ops listed = [] →
      FR (if listed.getD yk false = true then X1 else X) yl A0 sav sv (eL R (fun k => listed.getD k false) (S 0).env ops.size) (lL R (fun k => listed.getD k false) (locOf (S 0)) ops.size) r ds a w → Q .normal a w := by
    intro listed A0 r a w hs hr hfr
    have hall := ready_nil hok hs hr
    have hX : (if listed.getD yk false = true then X1 else X) = (if yk < ops.size then X1 else X) := by
      by_cases hy : yk < ops.size
      · rw [if_pos hy, if_pos (hall yk hy)]
      · rw [if_neg hy, if_neg (by rw [Array.getD_eq_getD_getElem?, Array.getElem?_eq_none (by omega)]; simp)]
    rw [hX] at hfr
    rw [eL_congr (L' := fun _ => true) ops.size (fun k hk => hall k hk), lL_congr (L' := fun _ => true) ops.size (fun k hk => hall k hk)] at hfr
    obtain ⟨e1, e2⟩ := hlex.frame ops.size (Nat.le_refl _)
    rw [← e1, ← e2] at hfr
    exact hQ A0 r a w hfr
  intro fuel
  induction fuel with
  | zero =>
    intro listed A0 r a w hs hleft _ hfr
    have hnil : Region.ready .any ops listed = [] := by
      cases hr : Region.ready .any ops listed with
      | nil => rfl
      | cons i rs =>
        have hi : i ∈ Region.ready .any ops listed := by rw [hr]; simp
        obtain ⟨h1, h2⟩ := List.mem_filter.1 hi
        simp only [Bool.and_eq_true] at h2
        have hmem : i ∈ (List.range ops.size).filter fun i => !listed.getD i true := List.mem_filter.2 ⟨h1, h2.1⟩
        have : 0 < left ops.size listed := List.length_pos_of_mem hmem
        omega
    exact ⟨hnil, done listed A0 r a w hs hnil hfr⟩
  | succ fuel ih =>
    intro listed A0 r a w hs hleft hcl' hfr
    refine ⟨fun hnil => done listed A0 r a w hs hnil hfr, fun i hi => ?_⟩
    obtain ⟨h1, h2⟩ := List.mem_filter.1 hi
    have hin : i < ops.size := List.mem_range.1 h1
    have hlt : i < listed.size := by omega
    have ho : ops[i]? = some ops[i] := Array.getElem?_eq_getElem hin
    simp only [Bool.and_eq_true, Bool.not_eq_true', ho, Option.map_some, Option.getD_some, Array.all_eq_true'] at h2
    obtain ⟨hun, haft⟩ := h2
    have hiL : listed.getD i false = false := by
      rw [Array.getD_eq_getD_getElem?, Array.getElem?_eq_getElem hlt, Option.getD_some] at hun ⊢; exact hun
    have hready : ∀ e ∈ (ops[i]).after, Region.binds .any e = true → listed.getD e.on false = true := fun e he hb => by
      have := haft e he
      simpa [hb] using this
    have hout : ∀ k, ops.size ≤ k → listed.getD k false = false := fun k hk => by
      rw [Array.getD_eq_getD_getElem?, Array.getElem?_eq_none (by omega)]; rfl
    obtain ⟨g1, g2⟩ := hlex.agree hok hcl' ho hiL hready hout
    obtain ⟨k1, k2⟩ := hlex.add hok hcl' ho hiL hout
    have hlisted : ∀ k, (listed.setIfInBounds i true).getD k false = addL (fun k => listed.getD k false) i k := fun k => by
      unfold addL
      rw [Array.getD_eq_getD_getElem?, Array.getElem?_setIfInBounds]
      by_cases he : i = k
      · subst he; simp [hlt]
      · rw [if_neg he, if_neg (Ne.symm he), ← Array.getD_eq_getD_getElem?]
    unfold wpOpIn
    simp only [ho]
    have fin : ∀ (Xn : Fx) (A0' : Nat → Prop) (r' : Rr) (a' : Act) (w' : World), (if (listed.setIfInBounds i true).getD yk false = true then X1 else X) = Xn →
        FR Xn yl A0' sav sv (putD (eL R (fun k => listed.getD k false) (S 0).env ops.size) (R i).dst (R i).v) (locE (R i) (lL R (fun k => listed.getD k false) (locOf (S 0)) ops.size)) r' ds a' w' → wpAnyIn (WF ro) n P .any ops Q fuel (listed.setIfInBounds i true) a' w' := by
      intro Xn A0' r' a' w' hXn hfr'
      refine ih (listed.setIfInBounds i true) A0' r' a' w' (by simp [hs]) ?_ ?_ ?_
      · have : left ops.size (listed.setIfInBounds i true) < left ops.size listed := by
          refine filter_lt _ (fun x hx hq => ?_) ⟨i, List.mem_range.2 hin, by simp [hun], ?_⟩
          · have hx' : x < listed.size := by have := List.mem_range.1 hx; omega
            rw [Array.getD_eq_getD_getElem?, Array.getElem?_setIfInBounds] at hq
            by_cases he : i = x
            · subst he; simp [hlt] at hq
            · rw [if_neg he, ← Array.getD_eq_getD_getElem?] at hq; exact hq
          · rw [Array.getD_eq_getD_getElem?, Array.getElem?_setIfInBounds]; simp [hlt]
        omega
      · intro k o hk hLk e he hb
        simp only [hlisted] at hLk ⊢
        unfold addL at hLk ⊢
        split
        · rfl
        · split at hLk
          · rename_i hki
            subst hki
            have : o = ops[k] := by rw [ho] at hk; injection hk with hk; exact hk.symm
            subst this
            exact hready e he hb
          · exact hcl' k o hk hLk e he hb
      · rw [eL_congr (L' := addL (fun k => listed.getD k false) i) ops.size (fun k _ => hlisted k), lL_congr (L' := addL (fun k => listed.getD k false) i) ops.size (fun k _ => hlisted k), k1, k2]
        rw [hXn]; exact hfr'
    by_cases hik : i = yk
    · have hfr0 : FR X yl A0 sav sv (eL R (fun k => listed.getD k false) (S 0).env ops.size) (lL R (fun k => listed.getD k false) (locOf (S 0)) ops.size) r ds a w := by
        rw [← hik, if_neg (by rw [hiL]; simp)] at hfr; exact hfr
      have hyo : ops[yk]? = some ops[i] := by rw [← hik]; exact ho
      refine hys _ hyo A0 _ _ r a w _ (fun t ht => by rw [← hik]; exact g1 t ht) hfr0 (fun A0' r' a' w' hfr' => ?_)
      rw [← hik] at hfr'
      exact fin X1 A0' r' a' w' (by rw [← hik, hlisted]; simp [addL]) hfr'
    · have hXn : (if (listed.setIfInBounds i true).getD yk false = true then X1 else X) = (if listed.getD yk false = true then X1 else X) := by
        rw [hlisted]; simp only [addL, if_neg (Ne.symm hik)]
      have hstep := hlex.step i _ ho hik
      unfold stepE at hstep
      have etouch : touch P (evO (eL R (fun k => listed.getD k false) (S 0).env ops.size)) (S i).loc.length ops[i] = touch P (evO (S i).env) (S i).loc.length ops[i] := touch_congr (evO_congr (ops := ops) g1)
      have heff : effOf P cl ops (eL R (fun k => listed.getD k false) (S 0).env ops.size) (lL R (fun k => listed.getD k false) (locOf (S 0)) ops.size) (S i).loc.length ops[i] = some (R i) := by
        rw [effOf_congr (env' := (S i).env) (loc' := locOf (S i)) g1 (fun t ht => by rw [etouch] at ht; exact g2 t ht)]
        exact hstep
      have hnx : ∀ c b v f t ar, opRes P (evO (eL R (fun k => listed.getD k false) (S 0).env ops.size)) (lL R (fun k => listed.getD k false) (locOf (S 0)) ops.size) (S i).loc.length ops[i] = some (c, .alloc b v) ∨ opRes P (evO (eL R (fun k => listed.getD k false) (S 0).env ops.size)) (lL R (fun k => listed.getD k false) (locOf (S 0)) ops.size) (S i).loc.length ops[i] = some (c, .grow (S i).loc.length b v) ∨ opRes P (evO (eL R (fun k => listed.getD k false) (S 0).env ops.size)) (lL R (fun k => listed.getD k false) (locOf (S 0)) ops.size) (S i).loc.length ops[i] = some (c, .fresh f t ar) →
          (lL R (fun k => listed.getD k false) (locOf (S 0)) ops.size) (S i).loc.length = none := fun c b v f t ar hr => by
        have : ((S i).loc.length, true) ∈ touch P (evO (eL R (fun k => listed.getD k false) (S 0).env ops.size)) (S i).loc.length ops[i] := by
          rcases hr with hr | hr | hr
          · exact opRes_alloc hr
          · exact (opRes_grow hr).1
          · exact (opRes_fresh hr).1
        rw [etouch] at this
        exact fresh g2 this
      exact op_step hcl hfr hnx heff (fun r' a' w' hfr' => fin _ A0 r' a' w' hXn hfr')
end
end Go.Proofs.YtjbhooodjmjdkaaGreat.Ev
