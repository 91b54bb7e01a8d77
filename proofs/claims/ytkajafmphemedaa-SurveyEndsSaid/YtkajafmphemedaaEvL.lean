/- Contracts of functions out of their bodies. -/
import Derived.Test.YtkajafmphemedaaEvK
namespace Go.Proofs.Ytkajafmphemedaa.Ev
open Go.RowKit

section
variable {P : Program} {cl : FuncId → List AV → Option AV} {ops : Array Oper}

theorem runOps_keeps {d : Bool} {bf : List Nat} : ∀ (l : List Oper) (i : Nat) (st st' : St) (tr : List (Nat × Nat × Bool)), runOps P cl ops d bf l i st tr = some st' → st'.out = st.out ∧ st'.sav = st.sav ∧ st'.bs = st.bs
  | [], i, st, st', tr, h => by simp [runOps] at h; subst h; exact ⟨rfl, rfl, rfl⟩
  | o :: rest, i, st, st', tr, h => by
    simp only [runOps] at h
    split at h
    · rename_i e he
      split at h
      · split at h
        · simp at h
        · exact runOps_keeps rest _ (applyE st e) st' _ h
      · exact runOps_keeps rest _ (applyE st e) st' _ h
    · simp at h
end

section
variable {X : Fx} {A0 : Nat → Prop} {sav env : List AV} {sv : Array Value} {yl : Option Nat} {loc : Nat → Option Blk} {r : Rr} {ds ds' : List Nat} {a a' : Act} {w w' : World}

theorem FR.move (h : FR X yl A0 sav sv env loc r ds a w) (ht : a'.tmps = a.tmps) (hturn : Turn (own r ds) w w') (hown : ∀ (j b : Nat), r j = some b → w'.heap[b]? = w.heap[b]?) (hds : ∀ q, q ∈ ds' → q ∈ ds ∨ w.heap.size ≤ q)
    (hd : a'.defers = ds'.map fun q => { target := .collected q, args := #[] }) (hn : ds'.Nodup) (hok : ∀ q, q ∈ ds' → w'.heap[q]? = some (.deferred (some [])) ∧ ¬ A0 q) : FR X yl A0 sav sv env loc r ds' a' w' := by
  have hk : Keeps (AR A0 r ds) (AR A0 r ds') w w' := by
    refine ⟨hturn.size, fun b hb hA => hturn.block b hb (fun ho => hA (.inr ho)), fun b hb => ?_⟩
    rcases hb with hb | hb | hb
    · exact .inl (.inl hb)
    · exact .inl (.inr (.inl hb))
    · exact (hds b hb).imp (fun h => .inr (.inr h)) id
  refine ⟨by rw [ht]; exact h.env.mono hk (fun _ _ h => h), h.sav.mono hk (fun _ _ h => h), fun j k hj => ?_, h.dom, h.inj, h.dis, fun j b hj => Nat.lt_of_lt_of_le (h.lt j b hj) hturn.size,
    fun b hb => Nat.lt_of_lt_of_le (h.a0 b hb) hturn.size, h.clo _ _ _ _ _ h.inv hturn ?_, h.clo, hd, hn, hok, h.ylv⟩
  · obtain ⟨b, hb, hbr⟩ := h.mem j k hj
    exact ⟨b, hb, hbr.keep hk (fun _ _ h => h) (hown j b hb)⟩
  · rintro b (hb | hb)
    · exact .inl (.inl hb)
    · exact (hds b hb).imp .inr id

theorem FR.markNot (h : FR X yl A0 sav sv env loc r ds a w) {q j b : Nat} (hq : q ∈ ds) (hj : r j = some b) : b ≠ q := by
  intro e
  subst e
  obtain ⟨k, hk⟩ := h.dom j b hj
  obtain ⟨b', hb', hbr⟩ := h.mem j k hk
  rw [hj] at hb'; injection hb' with hb'; subst hb'
  cases k with
  | flat t cs =>
    obtain ⟨us, hh, _⟩ := hbr
    rw [(h.dok b hq).1] at hh; cases hh

/-- The first mark is come to. -/
theorem FR.shut {q : Nat} (h : FR X yl A0 sav sv env loc r (q :: ds) a w) : FR X yl A0 sav sv env loc r ds { a with defers := ds.map fun q => { target := .collected q, args := #[] } } (w.putObj q (.deferred none)) := by
  refine h.move rfl ⟨rfl, rfl, rfl, by simp, fun b _ hb => World.putObj_heap_other (fun e => hb (by subst e; exact .inr (by simp)))⟩ (fun j b hj => World.putObj_heap_other (h.markNot (by simp) hj)) (fun q' hq' => .inl (by simp [hq'])) rfl (List.nodup_cons.1 h.dnd).2 (fun q' hq' => ⟨?_, (h.dok q' (by simp [hq'])).2⟩)
  rw [World.putObj_heap_other (fun e => (List.nodup_cons.1 h.dnd).1 (by rw [← e]; exact hq'))]
  exact (h.dok q' (by simp [hq'])).1

theorem leaves_marks {F : Fence} {n : Nat} {P : Program} {fn : Func} {R : Ending → World → Prop} : ∀ (ds : List Nat) (a : Act) (w : World), FR X yl A0 sav sv env loc r ds a w →
    (∀ (a' : Act) (w' : World), a'.tmps = a.tmps → FR X yl A0 sav sv env loc r [] a' w' → ∃ v, (results fn a.tmps).run P w' = .ok v w' ∧ R (.returned v) w') → LeavesInM F n P fn a.tmps R a.defers .returning w
  | [], a, w, h, hR => by
    have := h.dfr
    simp only [List.map_nil] at this
    rw [this]
    exact hR a w rfl h
  | q :: ds, a, w, h, hR => by
    have := h.dfr
    simp only [List.map_cons] at this
    rw [this]
    refine ⟨by simp, .inl ⟨q, w.putObj q (.deferred none), rfl, run_takeDeferred (h.dok q (by simp)).1, ?_⟩⟩
    exact leaves_marks ds { a with defers := ds.map fun q => { target := .collected q, args := #[] } } _ h.shut (fun a' w' ht hfr => hR a' w' ht hfr)
end

/-! ### Results -/

def resAV1 (P : Program) (st : St) : ResultVar → Option AV
  | .tmp t => st.env[t]?
  | .cell a t => match st.env[a]? with
    | some (.lptr j wd row col) => match locOf st j with
      | some (.flat _ cs) => loadAV P t cs (row * wd + col)
      | none => none
    | _ => none

def resL (P : Program) (st : St) : List ResultVar → Option (List AV)
  | [] => some []
  | x :: xs => match resAV1 P st x with
    | some v => match resL P st xs with
      | some vs => some (v :: vs)
      | none => none
    | none => none

/-- What a function hands back. -/
def resAV (P : Program) (st : St) (fn : Func) : Option AV := match resL P st fn.results.toList with
  | some [v] => expA (locOf st) v
  | some vs => match expAll (locOf st) vs with
    | some xs => some (.tup xs)
    | none => none
  | none => none

/-- A result is read. -/
def rdRes (tmps : Array Value) : ResultVar → Sem Value
  | .tmp t => pure (tmps.getD t undef)
  | .cell c t => asAddr (tmps.getD c undef) >>= fun x => loadVar t x

theorem results_eq (fn : Func) (tmps : Array Value) : results fn tmps = (fn.results.toList.mapM (rdRes tmps) >>= fun vs => pure (if h : vs.toArray.size = 1 then vs.toArray[0] else .tuple vs.toArray)) := by
  unfold results
  simp only [Array.mapM_eq_mapM_toList, map_eq_pure_bind, bind_assoc, pure_bind]
  congr 1

section
variable {P : Program} {X : Fx} {A0 : Nat → Prop} {st : St} {sv : Array Value} {yl : Option Nat} {r : Rr} {ds : List Nat} {a : Act} {w : World}

theorem resAV1_rel (h : FR X yl A0 st.sav sv st.env (locOf st) r ds a w) {x : ResultVar} {v : AV} (hx : resAV1 P st x = some v) :
    ∃ u, (rdRes a.tmps x).run P w = .ok u w ∧ VR w (AR A0 r ds) r v u := by
  cases x with
  | tmp t =>
    obtain ⟨u, hu, hr⟩ := h.env.get hx
    exact ⟨u, by simp [rdRes, Array.getD_eq_getD_getElem?, hu], hr⟩
  | cell c t =>
    simp only [resAV1] at hx
    split at hx
    · rename_i j wd row col hj
      split at hx
      · rename_i u cs hl
        obtain ⟨z, hz, hr⟩ := h.env.get hj
        cases hr with
        | lptr hrj ho =>
          rename_i b off
          obtain ⟨b', hb', us, hh, hc⟩ := h.mem _ _ hl
          rw [hrj] at hb'; injection hb' with hb'; subst hb'
          obtain ⟨v', hv', hr'⟩ := load_flat (P := P) hh hc hx
          subst ho
          exact ⟨v', by simp only [rdRes, Array.getD_eq_getD_getElem?, hz, Option.getD_some, asAddr, Sem.run_bind, Sem.run_pure, Result.andThen_ok, hv'], hr'⟩
      · simp at hx
    · simp at hx

theorem resL_rel (h : FR X yl A0 st.sav sv st.env (locOf st) r ds a w) : ∀ {l : List ResultVar} {vs : List AV}, resL P st l = some vs →
    ∃ us : List Value, (l.mapM (rdRes a.tmps)).run P w = .ok us w ∧ VRs w (AR A0 r ds) r vs us.toArray
  | [], vs, hl => by simp [resL] at hl; subst hl; exact ⟨[], by simp, VRs.nil⟩
  | x :: xs, vs, hl => by
    simp only [resL] at hl
    split at hl
    · rename_i v hv
      split at hl
      · rename_i vs' hvs
        injection hl with hl; subst hl
        obtain ⟨u, hu, hr⟩ := resAV1_rel h hv
        obtain ⟨us, hus, hrs⟩ := resL_rel h hvs
        refine ⟨u :: us, ?_, ?_⟩
        · simp only [List.mapM_cons, Sem.run_bind, hu, Result.andThen_ok, hus, Sem.run_pure]
        · have := (VRs.one hr).append hrs
          simpa using this
      · simp at hl
    · simp at hl

theorem resAV_rel (h : FR X yl A0 st.sav sv st.env (locOf st) r ds a w) {fn : Func} {v : AV} {A : Nat → Prop} (hA : ∀ b, A b → A0 b) (hv : resAV P st fn = some v) : ∃ u, (results fn a.tmps).run P w = .ok u w ∧ VR w A noR v u := by
  unfold resAV at hv
  have hAA : ∀ b, A b → AR A0 r ds b := fun b hb => .inl (hA b hb)
  have hno : ∀ (j b : Nat), r j = some b → ¬ A b := fun j b hj hb => h.dis j b hj (hA b hb)
  split at hv
  · rename_i x hl
    obtain ⟨us, hus, hrs⟩ := resL_rel h hl
    have h1 : us.length = 1 := by have := hrs.1; simpa using this.symm
    obtain ⟨u, rfl⟩ : ∃ u, us = [u] := by
      match us, h1 with
      | [u], _ => exact ⟨u, rfl⟩
    refine ⟨u, ?_, expA_rel h.mem hAA hno hv (hrs.2 0 x u rfl rfl)⟩
    simp only [results_eq, Sem.run_bind, hus, Result.andThen_ok, Sem.run_pure]
    rfl
  · rename_i vs hne hl
    obtain ⟨us, hus, hrs⟩ := resL_rel h hl
    split at hv
    · rename_i xs hx
      injection hv with hv; subst hv
      have h1 : us.length ≠ 1 := fun e => by
        have hlen : vs.length = 1 := by have := hrs.1; simp at this; omega
        match vs, hlen with
        | [x], _ => exact hne x rfl
      have := expAlls_rel h.mem hAA hno hx hrs
      refine ⟨.tuple us.toArray, ?_, .tup this.1 this.2⟩
      simp only [results_eq, Sem.run_bind, hus, Result.andThen_ok, Sem.run_pure]
      simp [h1]
    · simp at hv
  · simp at hv

end

/-- The evaluator's frame at a function's entry. -/
def entry (fn : Func) (args : List AV) : St := { env := args ++ List.replicate (fn.ntmps - args.length) .top, loc := [] }

theorem VRs.tops {w : World} {A : Nat → Prop} {r : Rr} (n : Nat) (u : Value) : VRs w A r (List.replicate n .top) (Array.replicate n u) :=
  ⟨by simp, fun i x v hx hv => by
    rw [List.getElem?_replicate] at hx
    split at hx
    · injection hx with hx; subst hx; exact .top
    · simp at hx⟩

/-- No objects yet. -/
def yR (yl : Option Nat) : Rr := fun j => match j with
  | none => yl
  | some _ => none

theorem noR_le (r : Rr) (j : Option Nat) (b : Nat) (h : noR j = some b) : r j = some b := by simp [noR] at h

theorem FR.entry {X : Fx} {yl : Option Nat} {A0 : Nat → Prop} {fn : Func} {args : List AV} {us : Array Value} {w : World} (hX : X A0 (fun _ => False) w) (hS : Stands X) (ha0 : ∀ b, A0 b → b < w.heap.size) (hv : VRs w A0 (yR yl) args us) :
    FR X yl A0 (Ev.entry fn args).sav #[] (Ev.entry fn args).env (locOf (Ev.entry fn args)) (yR yl) [] { tmps := us ++ Array.replicate (fn.ntmps - us.size) undef, defers := [] } w := by
  have hno : ∀ b, ¬ own (yR yl) [] b := fun b hb => by
    rcases hb with ⟨j, hj⟩ | hb
    · simp [yR] at hj
    · simp at hb
  have hk : Keeps A0 (AR A0 (yR yl) []) w w := ⟨Nat.le_refl _, fun _ _ _ => rfl, fun b hb => by
    rcases hb with hb | hb
    · exact .inl hb
    · exact absurd hb (hno b)⟩
  refine ⟨?_, VRs.nil, fun j k hj => by simp [locOf, Ev.entry] at hj, fun j b hj => by simp [yR] at hj, fun i j b hj => by simp [yR] at hj, fun j b hj => by simp [yR] at hj, fun j b hj => by simp [yR] at hj, ha0, hS _ _ _ _ _ hX ⟨rfl, rfl, rfl, Nat.le_refl _, fun _ _ _ => rfl⟩ (fun b hb => absurd hb (hno b)), hS, rfl, List.nodup_nil, fun q hq => by simp at hq, rfl⟩
  have := (hv.mono hk (r' := yR yl) (fun _ _ h => h)).append (VRs.tops (fn.ntmps - us.size) undef)
  simpa [Ev.entry, hv.1] using this

theorem callsIn_round {ro : Option Nat} {n : Nat} {P : Program} {f : FuncId} {us : Array Value} {w : World} {R : Ending → World → Prop} (h : CallsIn (WF none) n P f us w R) : CallsIn (WF ro) n P f us w R := by
  cases ro with
  | none => exact h
  | some l => exact h

section
variable {P : Program} {f : FuncId} {fn : Func} {c : Code}

/-- A pure function's contract out of its body. -/
theorem PC.of_ld {args : List AV} {st' : St} {e : Exit} {x : AV} (hf : P.funcs[f]? = some fn) (hb : fn.body = some c) (h : Ld P c (entry fn args) e st') (he : e = .normal ∨ e = .ret) (hout : st'.out = []) (hr : resAV P st' fn = some x) :
    PC P f args x := by
  intro ro n A w us hA hv
  apply callsIn_round
  refine callsIn_of_wp_marks hf hb trivial ?_
  let X : Fx := fun A0 O w' => (∀ b, A b → A0 b) ∧ Below w.heap.size w w' ∧ ∀ b, O b → w.heap.size ≤ b
  have hS : Stands X := fun A0 O O' w1 w2 hX ht hO => ⟨hX.1, ⟨ht.os.trans hX.2.1.os, ht.tape.trans hX.2.1.tape, ht.output.trans hX.2.1.output, Nat.le_trans hX.2.1.size ht.size, fun k hk => by
      rw [ht.block k (Nat.lt_of_lt_of_le hk hX.2.1.size) (fun ho => by have := hX.2.2 k ho; omega)]; exact hX.2.1.block k hk⟩,
    fun b hb => by
      rcases hO b hb with h1 | h1
      · exact hX.2.2 b h1
      · exact Nat.le_trans hX.2.1.size h1⟩
  have hfr : FR X none A (entry fn args).sav #[] (entry fn args).env (locOf (entry fn args)) (yR none) [] { tmps := us ++ Array.replicate (fn.ntmps - us.size) undef, defers := [] } w :=
    FR.entry ⟨fun _ h => h, Below.refl _ _, fun _ h => h.elim⟩ hS hA (hv.mono (Keeps.refl _ _) (noR_le _))
  have hwp := h.2 none [] (fun _ => X) (by rw [hout]; simp) ⟨fun _ => hS, fun i x b hi => by simp at hi⟩ none n (fun l hl => by cases hl) A (yR none) [] #[] _ w hfr
  refine wpIn_mono hwp ?_
  rintro e' a' w' ⟨rfl, A0', r', ds', hfr'⟩
  have hleave : LeavesInM (WF none) n P fn a'.tmps (fun e w' => ∃ v, e = .returned v ∧ VR w' A noR x v ∧ Below w.heap.size w w') a'.defers .returning w' := by
    refine leaves_marks ds' a' w' hfr' (fun a2 w2 ht h2 => ?_)
    obtain ⟨u, hu, hru⟩ := resAV_rel h2 h2.inv.1 hr
    rw [ht] at hu
    exact ⟨u, hu, u, rfl, hru, h2.inv.2.1⟩
  rcases he with rfl | rfl
  · exact hleave
  · exact hleave

/-- What a function that is ranged over does: it yields these, and gets these answers. -/
def IC (P : Program) (g : FuncId) (us vs : List AV) (evs : List (List AV × Bool)) : Prop :=
  ∀ (ro : Option Nat) (n l : Nat) (Y : Nat → Fx) (A0 : Nat → Prop) (w : World) (args : Array Value), YH P (some l) evs Y → (∀ b, A0 b → b < w.heap.size) → Y 0 A0 (fun _ => False) w →
    VRs w A0 (yR (some l)) (us ++ [.yv] ++ vs) args →
    CallsIn (WF ro) n P g args w fun e w' => (∃ v, e = .returned v) ∧ ∃ A0', Y evs.length A0' (fun _ => False) w' ∧ ∀ b, A0' b → b < w'.heap.size

theorem IC.of_ld {us vs : List AV} {st' : St} {e : Exit} {evs : List (List AV × Bool)} {x : AV} (hf : P.funcs[f]? = some fn) (hb : fn.body = some c)
    (bs : Nat → Bool) (h : Ld P c { entry fn (us ++ [.yv] ++ vs) with bs := bs } e st') (he : e = .normal ∨ e = .ret) (hout : st'.out.reverse = evs) (hr : resAV P st' fn = some x) : IC P f us vs evs := by
  intro ro n l Y A0 w args hY hA0 hw hv
  apply callsIn_round
  refine callsIn_of_wp_marks hf hb trivial ?_
  have hfr := FR.entry (fn := fn) hw (hY.1 0) hA0 hv
  have hwp := h.2 (some l) evs Y (by rw [hout]; exact List.prefix_refl _) hY none n (fun l hl => by cases hl) A0 (yR (some l)) [] #[] _ w hfr
  refine wpIn_mono hwp ?_
  rintro e' a' w' ⟨rfl, A0', r', ds', hfr'⟩
  have hlen : st'.out.length = evs.length := by rw [← hout]; simp
  have hleave : LeavesInM (WF none) n P fn a'.tmps (fun e w' => (∃ v, e = .returned v) ∧ ∃ A0', Y evs.length A0' (fun _ => False) w' ∧ ∀ b, A0' b → b < w'.heap.size) a'.defers .returning w' := by
    refine leaves_marks ds' a' w' hfr' (fun a2 w2 ht h2 => ?_)
    obtain ⟨u, hu, _⟩ := resAV_rel (A := fun _ => False) h2 (fun _ h => h.elim) hr
    rw [ht] at hu
    refine ⟨u, hu, ⟨u, rfl⟩, A0', ?_, h2.a0⟩
    rw [← hlen]
    exact h2.clo _ _ _ _ _ h2.inv ⟨rfl, rfl, rfl, Nat.le_refl _, fun _ _ _ => rfl⟩ (fun _ h => h.elim)
  rcases he with rfl | rfl
  · exact hleave
  · exact hleave

end

end Go.Proofs.Ytkajafmphemedaa.Ev
