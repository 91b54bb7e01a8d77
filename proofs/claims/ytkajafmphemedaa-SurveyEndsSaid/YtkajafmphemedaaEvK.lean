/- What it means that a piece of code leads from one frame of the evaluator to another; the rules. -/
import Derived.Test.YtkajafmphemedaaEvJ
import Derived.RangeFuncLeaves
import Derived.RangeFuncRecord
import Derived.RangeFuncNested
namespace Go.Proofs.Ytkajafmphemedaa.Ev
open Go.RowKit

/-- Surroundings that stand a change of the frame's own blocks. -/
def Stands (X : Fx) : Prop := ∀ A0 O O' w w', X A0 O w → Turn O w w' → (∀ b, O' b → O b ∨ w.heap.size ≤ b) → X A0 O' w'

/-- What the one who ranges over a function must do at each of its yields: Y: what holds of the world behind so many yields. -/
def YH (P : Program) (yl : Option Nat) (evs : List (List AV × Bool)) (Y : Nat → Fx) : Prop :=
  (∀ i, Stands (Y i)) ∧ ∀ (i : Nat) (x : List AV) (b : Bool), evs[i]? = some (x, b) → ∀ (ro : Option Nat) (n : Nat) (A0 O : Nat → Prop) (w : World) (us : Array Value) (R : Ending → World → Prop),
    (∀ k, A0 k → k < w.heap.size) → (∀ k, O k → k < w.heap.size ∧ ¬ A0 k) → Y i A0 O w → VRs w (fun k => A0 k ∨ O k) noR x us →
    (∀ A0' w', Y (i + 1) A0' O w' → Keeps A0 A0' w w' → (∀ k, A0' k → k < w'.heap.size) → R (.returned (.bool b)) w') →
    ∃ l f tmps assign body, yl = some l ∧ (Instr.yield l us).run P w = .ok (.round l f tmps assign body) w ∧ RoundIn (WF ro) n P l f tmps assign body w R

/-- In a round: the record of its loop is there. -/
def Rc (ro : Option Nat) (Y : Nat → Fx) : Prop := ∀ l, ro = some l → ∀ i A0 O w, Y i A0 O w → ∃ x, w.heap[l]? = some (.loop x)

def Post (Y : Nat → Fx) (yl : Option Nat) (sv : Array Value) (e : Exit) (st : St) (e' : Exit) (a : Act) (w : World) : Prop :=
  e' = e ∧ ∃ A0 r ds, FR (Y st.out.length) yl A0 st.sav sv st.env (locOf st) r ds a w

def Ext (st st' : St) : Prop := ∃ l, st'.out = l ++ st.out

theorem Ext.refl (st : St) : Ext st st := ⟨[], rfl⟩
theorem Ext.trans {a b c : St} (h : Ext a b) (k : Ext b c) : Ext a c := by
  obtain ⟨l, h⟩ := h; obtain ⟨m, k⟩ := k
  exact ⟨m ++ l, by rw [k, h, List.append_assoc]⟩
theorem Ext.pre {a b : St} (h : Ext a b) {evs : List (List AV × Bool)} (k : b.out.reverse <+: evs) : a.out.reverse <+: evs := by
  obtain ⟨l, h⟩ := h
  rw [h, List.reverse_append] at k
  exact (List.prefix_append _ _).trans k

/-- The code leads from st to st', and ends as e says. -/
def Ld (P : Program) (c : Code) (st : St) (e : Exit) (st' : St) : Prop :=
  Ext st st' ∧ ∀ (yl : Option Nat) (evs : List (List AV × Bool)) (Y : Nat → Fx), st'.out.reverse <+: evs → YH P yl evs Y → ∀ (ro : Option Nat) (n : Nat), Rc ro Y → ∀ (A0 : Nat → Prop) (r : Rr) (ds : List Nat) (sv : Array Value) (a : Act) (w : World),
    FR (Y st.out.length) yl A0 st.sav sv st.env (locOf st) r ds a w → c.wpIn (WF ro) n P (Post Y yl sv e st') a w

/-- The rounds of a loop, from its head on. -/
def wpL (c : Code) (F : Fence) (n : Nat) (P : Program) (Q : Exit → Act → World → Prop) (a : Act) (w : World) : Prop :=
  ∀ (b : Frame) (k : List Item) (cs : List Frame), b.roundOf = F.round → F.fn b.fn → F.room (cs.length + 1 + n) →
    ∃ e a' w', Q e a' w' ∧ ArrivesIn (Machine.fenced P F) P (lone (b.atR a (.code c :: .inLoop c :: k)) cs w) b k cs e a' w'

section
variable {F : Fence} {n : Nat} {P : Program} {Q : Exit → Act → World → Prop} {a : Act} {w : World} {c : Code}

theorem wpL_step (h : c.wpIn F n P (Exit.then (wpL c F n P Q) Q) a w) : wpL c F n P Q a w := by
  intro b k cs hro hb hr
  obtain ⟨e, a₁, w₁, hq, harr⟩ := h b (.inLoop c :: k) cs hro hb hr
  cases e with
  | normal =>
    obtain ⟨e₂, a₂, w₂, hq₂, harr₂⟩ := hq b k cs hro hb hr
    exact ⟨e₂, a₂, w₂, hq₂, .of_steps (StepsIn.trans harr (.one (fenced_calm hb hr rfl) stepR_inLoop)) harr₂⟩
  | exit id => exact ⟨_, a₁, w₁, hq, .pass (x := .inLoop c) rfl (fun _ _ => .inl (by simp)) harr⟩
  | goto l => exact ⟨_, a₁, w₁, hq, .pass (x := .inLoop c) rfl (fun _ _ => .inl (by simp)) harr⟩
  | ret => exact ⟨_, a₁, w₁, hq, .pass (x := .inLoop c) rfl (fun _ _ => .inl (by simp)) harr⟩
  | panic ch => exact ⟨_, a₁, w₁, hq, .pass (x := .inLoop c) rfl (fun _ _ => .inl (by simp)) harr⟩
  | outgrown => exact ⟨_, a₁, w₁, hq, .pass (x := .inLoop c) rfl (fun _ _ => .inl (by simp)) harr⟩

theorem wpIn_of_wpL (h : wpL c F n P Q a w) : (Code.loop c).wpIn F n P Q a w := by
  intro b k cs hro hb hr
  obtain ⟨e, a', w', hq, harr⟩ := h b k cs hro hb hr
  exact ⟨e, a', w', hq, .of_steps (.one (fenced_calm hb hr rfl) stepR_loop) harr⟩
end

/-- The loop leads from st (at its head) to st'. -/
def LdL (P : Program) (c : Code) (st : St) (e : Exit) (st' : St) : Prop :=
  Ext st st' ∧ ∀ (yl : Option Nat) (evs : List (List AV × Bool)) (Y : Nat → Fx), st'.out.reverse <+: evs → YH P yl evs Y → ∀ (ro : Option Nat) (n : Nat), Rc ro Y → ∀ (A0 : Nat → Prop) (r : Rr) (ds : List Nat) (sv : Array Value) (a : Act) (w : World),
    FR (Y st.out.length) yl A0 st.sav sv st.env (locOf st) r ds a w → wpL c (WF ro) n P (Post Y yl sv e st') a w

/-- A change of the evaluator's frame that only loses knowledge. -/
def Tidy (st st' : St) : Prop := st'.out = st.out ∧ ∀ (X : Fx) (yl : Option Nat) (A0 : Nat → Prop) (r : Rr) (ds : List Nat) (sv : Array Value) (a : Act) (w : World),
  FR X yl A0 st.sav sv st.env (locOf st) r ds a w → ∃ r', FR X yl A0 st'.sav sv st'.env (locOf st') r' ds a w

theorem Tidy.ext {st st' : St} (h : Tidy st st') : Ext st st' := ⟨[], h.1⟩

section
variable {P : Program} {c x y : Code} {st st1 st2 st' : St} {e : Exit}

theorem Ld.skip : Ld P .skip st .normal st :=
  ⟨.refl _, fun _ _ _ _ _ _ _ _ A0 r ds _ _ _ h => wpIn_skip ⟨rfl, A0, r, ds, h⟩⟩

theorem Ld.exit {id : Nat} : Ld P (.exit id) st (.exit id) st :=
  ⟨.refl _, fun _ _ _ _ _ _ _ _ A0 r ds _ _ _ h => wpIn_exit ⟨rfl, A0, r, ds, h⟩⟩

theorem Ld.ret : Ld P .ret st .ret st :=
  ⟨.refl _, fun _ _ _ _ _ _ _ _ A0 r ds _ _ _ h => wpIn_ret ⟨rfl, A0, r, ds, h⟩⟩

theorem Ld.seq (h : Ld P x st .normal st1) (k : Ld P y st1 e st2) : Ld P (.seq x y) st e st2 := by
  refine ⟨h.1.trans k.1, fun yl evs Y he hY ro n hrc A0 r ds sv a w hfr => wpIn_seq (wpIn_mono (h.2 yl evs Y (k.1.pre he) hY ro n hrc A0 r ds sv a w hfr) ?_)⟩
  rintro e' a' w' ⟨rfl, A0', r', ds', hfr'⟩
  exact k.2 yl evs Y he hY ro n hrc A0' r' ds' sv a' w' hfr'

theorem Ld.seqX (h : Ld P x st e st1) (hne : e ≠ .normal) : Ld P (.seq x y) st e st1 := by
  refine ⟨h.1, fun yl evs Y he hY ro n hrc A0 r ds sv a w hfr => wpIn_seq (wpIn_mono (h.2 yl evs Y he hY ro n hrc A0 r ds sv a w hfr) ?_)⟩
  rintro e' a' w' hp
  obtain ⟨rfl, hfr'⟩ := hp
  cases e' with
  | normal => exact absurd rfl hne
  | _ => exact ⟨rfl, hfr'⟩

theorem Ld.cond {o : Operand} {t : Bool} (hc : evO st.env o = some (.bool t)) (h : Ld P (if t = true then x else y) st e st') : Ld P (.cond o x y) st e st' := by
  refine ⟨h.1, fun yl evs Y he hY ro n hrc A0 r ds sv a w hfr => ?_⟩
  have hv := hfr.eval o _ hc
  refine wpIn_cond (t := t) ?_ (h.2 yl evs Y he hY ro n hrc A0 r ds sv a w hfr)
  generalize hz : a.eval o = z at hv
  cases hv
  rfl

/-- How a block is left. -/
def leave (id : Nat) : Exit → Exit
  | .exit id' => if id' = id then .normal else .exit id'
  | e => e

theorem Ld.block {id : Nat} (h : Ld P c st e st') : Ld P (.block id c) st (leave id e) st' := by
  refine ⟨h.1, fun yl evs Y he hY ro n hrc A0 r ds sv a w hfr => wpIn_block (wpIn_mono (h.2 yl evs Y he hY ro n hrc A0 r ds sv a w hfr) ?_)⟩
  rintro e' a' w' ⟨rfl, hfr'⟩
  cases e' with
  | exit id' =>
    simp only [Exit.inBlock, leave]
    split
    · exact ⟨rfl, hfr'⟩
    · exact ⟨rfl, hfr'⟩
  | _ => exact ⟨rfl, hfr'⟩

theorem LdL.more (h : Ld P c st .normal st1) (k : LdL P c st1 e st2) : LdL P c st e st2 := by
  refine ⟨h.1.trans k.1, fun yl evs Y he hY ro n hrc A0 r ds sv a w hfr => wpL_step (wpIn_mono (h.2 yl evs Y (k.1.pre he) hY ro n hrc A0 r ds sv a w hfr) ?_)⟩
  rintro e' a' w' ⟨rfl, A0', r', ds', hfr'⟩
  exact k.2 yl evs Y he hY ro n hrc A0' r' ds' sv a' w' hfr'

theorem LdL.done (h : Ld P c st e st1) (hne : e ≠ .normal) : LdL P c st e st1 := by
  refine ⟨h.1, fun yl evs Y he hY ro n hrc A0 r ds sv a w hfr => wpL_step (wpIn_mono (h.2 yl evs Y he hY ro n hrc A0 r ds sv a w hfr) ?_)⟩
  rintro e' a' w' ⟨rfl, hfr'⟩
  cases e' with
  | normal => exact absurd rfl hne
  | _ => exact ⟨rfl, hfr'⟩

theorem LdL.loop (h : LdL P c st e st') : Ld P (.loop c) st e st' :=
  ⟨h.1, fun yl evs Y he hY ro n hrc A0 r ds sv a w hfr => wpIn_of_wpL (h.2 yl evs Y he hY ro n hrc A0 r ds sv a w hfr)⟩

theorem Ld.pre (t : Tidy st st1) (h : Ld P c st1 e st2) : Ld P c st e st2 := by
  refine ⟨t.ext.trans h.1, fun yl evs Y he hY ro n hrc A0 r ds sv a w hfr => ?_⟩
  obtain ⟨r', hfr'⟩ := t.2 _ _ _ _ _ _ _ _ hfr
  rw [← t.1] at hfr'
  exact h.2 yl evs Y he hY ro n hrc A0 r' ds sv a w hfr'

theorem LdL.pre (t : Tidy st st1) (h : LdL P c st1 e st2) : LdL P c st e st2 := by
  refine ⟨t.ext.trans h.1, fun yl evs Y he hY ro n hrc A0 r ds sv a w hfr => ?_⟩
  obtain ⟨r', hfr'⟩ := t.2 _ _ _ _ _ _ _ _ hfr
  rw [← t.1] at hfr'
  exact h.2 yl evs Y he hY ro n hrc A0 r' ds sv a w hfr'

theorem Ld.post (h : Ld P c st e st1) (t : Tidy st1 st2) : Ld P c st e st2 := by
  refine ⟨h.1.trans t.ext, fun yl evs Y he hY ro n hrc A0 r ds sv a w hfr => wpIn_mono (h.2 yl evs Y (t.ext.pre he) hY ro n hrc A0 r ds sv a w hfr) ?_⟩
  rintro e' a' w' ⟨rfl, A0', r', ds', hfr'⟩
  obtain ⟨r2, h2⟩ := t.2 _ _ _ _ _ _ _ _ hfr'
  exact ⟨rfl, A0', r2, ds', by rw [t.1]; exact h2⟩

/-! ### Regions -/

/-- The operations from i on, one behind the other. -/
def LdO (P : Program) (ops : Array Oper) (l : List Oper) (i : Nat) (st st' : St) : Prop :=
  Ext st st' ∧ ∀ (yl : Option Nat) (evs : List (List AV × Bool)) (Y : Nat → Fx), st'.out.reverse <+: evs → YH P yl evs Y → ∀ (ro : Option Nat) (n : Nat), Rc ro Y → ∀ (A0 : Nat → Prop) (r : Rr) (ds : List Nat) (sv : Array Value) (a : Act) (w : World),
    FR (Y st.out.length) yl A0 st.sav sv st.env (locOf st) r ds a w → wpOpsIn (WF ro) n P ops (Post Y yl sv .normal st') (List.range' i l.length) a w

variable {ops : Array Oper} {rest : List Oper} {o : Oper} {i : Nat} {cl : FuncId → List AV → Option AV}

theorem LdO.nil : LdO P ops [] i st st := ⟨.refl _, fun _ _ _ _ _ _ _ _ A0 r ds _ _ _ h => ⟨rfl, A0, r, ds, h⟩⟩

theorem LdO.step (hcl : ∀ f args v, cl f args = some v → PC P f args v) (h0 : ops[i]? = some o) {eff : Eff} (he : stepE P cl ops st o = some eff) (h : LdO P ops rest (i + 1) (applyE st eff) st') : LdO P ops (o :: rest) i st st' := by
  refine ⟨h.1, fun yl evs Y hev hY ro n hrc A0 r ds sv a w hfr => ?_⟩
  simp only [List.length_cons, List.range'_succ, wpOpsIn, h0]
  refine op_step hcl hfr (fun _ _ _ _ => locOf_len st) he (fun r' a' w' hfr' => ?_)
  refine h.2 yl evs Y hev hY ro n hrc A0 r' ds sv a' w' ?_
  rw [locOf_apply he]
  exact hfr'

theorem FR.ownNot {X : Fx} {yl : Option Nat} {A0 : Nat → Prop} {sav env : List AV} {sv : Array Value} {loc : Nat → Option Blk} {r : Rr} {ds : List Nat} {a : Act} {w : World} (h : FR X yl A0 sav sv env loc r ds a w) : ∀ k, own r ds k → ¬ A0 k := by
  rintro k (⟨j, hj⟩ | hk)
  · exact h.dis j k hj
  · exact (h.dok k hk).2

/-- The other blocks were turned by someone else. -/
theorem FR.other {X X' : Fx} {yl : Option Nat} {A0 A0' : Nat → Prop} {sav env : List AV} {sv : Array Value} {loc : Nat → Option Blk} {r : Rr} {ds : List Nat} {a : Act} {w w' : World} (h : FR X yl A0 sav sv env loc r ds a w) (hX : X' A0' (own r ds) w')
    (hclo : ∀ A0 O O' w w', X' A0 O w → Turn O w w' → (∀ b, O' b → O b ∨ w.heap.size ≤ b) → X' A0 O' w') (hk : Keeps A0 A0' w w') (ha0 : ∀ k, A0' k → k < w'.heap.size) : FR X' yl A0' sav sv env loc r ds a w' := by
  have hdis : ∀ (j b : Nat), r j = some b → ¬ A0' b := fun j b hj hA => by
    rcases hk.more b hA with h1 | h1
    · exact h.dis j b hj h1
    · have := h.lt j b hj; omega
  have hk' : Keeps (AR A0 r ds) (AR A0' r ds) w w' := by
    refine ⟨hk.size, fun b hb hA => hk.block b hb (fun h1 => hA (.inl h1)), fun b hA => ?_⟩
    rcases hA with h1 | h1
    · exact (hk.more b h1).imp .inl id
    · exact .inl (.inr h1)
  refine ⟨h.env.mono hk' (fun _ _ h => h), h.sav.mono hk' (fun _ _ h => h), fun j k hj => ?_, h.dom, h.inj, hdis, fun j b hj => Nat.lt_of_lt_of_le (h.lt j b hj) hk.size, ha0, hX, hclo, h.dfr, h.dnd, fun q hq => ⟨?_, fun hA => ?_⟩, h.ylv⟩
  · obtain ⟨b, hb, hbr⟩ := h.mem j k hj
    refine ⟨b, hb, hbr.keep hk' (fun _ _ h => h) ?_⟩
    exact hk.block b (h.lt j b hb) (h.dis j b hb)
  · rw [hk.block q (Array.getElem?_eq_some_iff.1 (h.dok q hq).1).1 (h.dok q hq).2]; exact (h.dok q hq).1
  · rcases hk.more q hA with h1 | h1
    · exact (h.dok q hq).2 h1
    · have := (Array.getElem?_eq_some_iff.1 (h.dok q hq).1).1; omega

/-- A yield, in whatever frame agrees with the evaluator's at what it looks at. -/
theorem yield_step {Y : Nat → Fx} {yl : Option Nat} {evs : List (List AV × Bool)} {ro : Option Nat} {n m : Nat} {A0 : Nat → Prop} {r : Rr} {ds : List Nat} {sav env : List AV} {sv : Array Value} {loc : Nat → Option Blk} {a : Act} {w : World} {c : Call} {f : Operand} {vs : List AV} {b : Bool} {K : Act → World → Prop} {Q : Exit → Act → World → Prop}
    (hY : YH P yl evs Y) (hlen : evs[m]? = some (vs, b)) (hw : wantD ops env o = some true) (ho : o.op = .call c) (hc : c.callee = .value f)
    (hf : evO env f = some .yv) (hvs : mapEv (evO env) c.args.toList = some vs) (hn : vs.all noL = true) (hfr : FR (Y m) yl A0 sav sv env loc r ds a w)
    (hK : ∀ A0' a' w', FR (Y (m + 1)) yl A0' sav sv (putD env o.dst (.bool b)) loc r ds a' w' → K a' w') : if Region.wanted o (yielded ops a.tmps) then o.wpIn (WF ro) n P a w K Q else (∀ f, o.about P w a.eval = some f → (WF ro).fn f) ∧ K (a.put o.dst undef) w := by
  rw [if_pos (wantD_true hfr hw)]
  have hargs := mapEv_rel hfr.cx.val _ _ hvs
  have e1 : (c.args.toList.map a.eval).toArray = c.args.map a.eval := Array.ext' (by simp)
  rw [e1] at hargs
  have hargs' : VRs w (fun k => A0 k ∨ own r ds k) noR vs (c.args.map a.eval) := hargs.weaken hn (fun b h => h)
  have hfv := hfr.eval f _ hf
  generalize hz : a.eval f = z at hfv
  cases hfv with
  | yv hl =>
    rename_i l
    obtain ⟨l', f', tmps, assign, body, hyl, hrun, hround⟩ := hY.2 m vs b hlen ro (n - 1) A0 (own r ds) w (c.args.map a.eval)
      (fun
        | .returned v, w'' => K (a.put o.dst v) w''
        | .panicked chain, w'' => Q (.panic chain) a w''
        | .outgrown, _ => LetsOut Q)
      hfr.a0 (fun k hk => ⟨hfr.arLt k (.inr hk), hfr.ownNot k hk⟩) hfr.inv hargs'
      (fun A0' w' hy' hk ha0 => by
        refine hK A0' _ w' ?_
        have hfr' := hfr.other (X' := Y (m + 1)) hy' (hY.1 _) hk ha0
        exact hfr'.val (Below.refl _ _) (.bool : VR w' (AR A0' r ds) r (.bool b) (.bool b)) o.dst)
    have : l = l' := by
      have h1 := hfr.ylv
      rw [hl, hyl] at h1
      injection h1
    subst this
    refine ⟨fun _ _ => trivial, ?_⟩
    rw [Oper.semAt_eq _ _ _ (fun d hd => by rw [ho] at hd; cases hd)]
    have : (execOp a.eval o).run P w = .ok (.round l f' tmps assign body) w := by
      simp only [execOp, ho, resolve, hc, hz, Deferred.ofValue, Sem.run_bind, Sem.run_pure, Result.andThen_ok, invoke, Array.empty_append, hrun]
    rw [this, Oper.uponIn_round]
    exact ⟨fun h => by simp [wf_depth] at h, hround⟩

theorem next_event {evs : List (List AV × Bool)} {x : List AV × Bool} (h : (x :: st.out).reverse <+: evs) : evs[st.out.length]? = some x := by
  simp only [List.reverse_cons] at h
  obtain ⟨t, ht⟩ := h
  rw [← ht, List.append_assoc, List.getElem?_append_right (by simp)]
  simp

/-- A yield. -/
theorem LdO.yield (h0 : ops[i]? = some o) {c : Call} {f : Operand} {vs : List AV} {b : Bool} (hw : wantD ops st.env o = some true) (ho : o.op = .call c) (hc : c.callee = .value f)
    (hf : evO st.env f = some .yv) (hvs : mapEv (evO st.env) c.args.toList = some vs) (hn : vs.all noL = true)
    (h : LdO P ops rest (i + 1) { st with env := putD st.env o.dst (.bool b), out := (vs, b) :: st.out } st') : LdO P ops (o :: rest) i st st' := by
  refine ⟨Ext.trans ⟨[(vs, b)], rfl⟩ h.1, fun yl evs Y hev hY ro n hrc A0 r ds sv a w hfr => ?_⟩
  simp only [List.length_cons, List.range'_succ, wpOpsIn, h0]
  exact yield_step hY (next_event (h.1.pre hev)) hw ho hc hf hvs hn hfr (fun A0' a' w' hfr' => h.2 yl evs Y hev hY ro n hrc A0' r ds sv a' w' hfr')

theorem Ld.region {id : Nat} (h : LdO P ops ops.toList 0 st st') : Ld P (.region id ops false) st .normal st' := by
  refine ⟨h.1, fun yl evs Y hev hY ro n hrc A0 r ds sv a w hfr => wpIn_region ?_⟩
  have := h.2 yl evs Y hev hY ro n hrc A0 r ds sv a w hfr
  rw [List.range_eq_range', ← Array.length_toList]
  exact this

theorem FR.drew {X : Fx} {yl : Option Nat} {A0 : Nat → Prop} {sav env : List AV} {sv : Array Value} {loc : Nat → Option Blk} {r : Rr} {ds : List Nat} {a : Act} {w : World} (h : FR X yl A0 sav sv env loc r ds a w) : FR X yl A0 sav sv env loc r ds a { w with drawn := w.drawn + 1 } := by
  have := h.val (Below.refl w.heap.size w).drew (x := .top) (v := undef) .top none
  exact this

/-- One operation of a region: an operation like others, or a yield. -/
def StepY (P : Program) (cl : FuncId → List AV → Option AV) (ops : Array Oper) (st : St) (o : Oper) (e : Eff) (st1 : St) : Bool → Prop
  | false => stepE P cl ops st o = some e ∧ st1 = applyE st e
  | true => ∃ (c : Call) (f : Operand) (vs : List AV) (b : Bool), wantD ops st.env o = some true ∧ o.op = .call c ∧ c.callee = .value f ∧ evO st.env f = some .yv ∧ mapEv (evO st.env) c.args.toList = some vs ∧ vs.all noL = true ∧
      e = ⟨o.dst, .bool b, none⟩ ∧ st1 = { st with env := putD st.env o.dst (.bool b), out := (vs, b) :: st.out }

/-- A walk through a region, in the order of the text, with one yield at most. -/
inductive Wk (P : Program) (cl : FuncId → List AV → Option AV) (ops : Array Oper) (bf : List Nat) : List Oper → Nat → St → List (Nat × Nat × Bool) → Bool → St → Prop
  | nil {i : Nat} {st : St} {tr : List (Nat × Nat × Bool)} {y : Bool} : Wk P cl ops bf [] i st tr y st
  | cons {o : Oper} {rest : List Oper} {i : Nat} {st st1 st' : St} {tr : List (Nat × Nat × Bool)} {y isY : Bool} {e : Eff} (hs : StepY P cl ops st o e st1 isY) (hy : isY = true → y = false)
      (hc : clashAny bf i tr (touch (evO st.env) st.loc.length o) = false) (h : Wk P cl ops bf rest (i + 1) st1 (addTr i tr (touch (evO st.env) st.loc.length o)) (y || isY) st') : Wk P cl ops bf (o :: rest) i st tr y st'

theorem Wk.trace {bf : List Nat} {l : List Oper} {i : Nat} {st st' : St} {tr : List (Nat × Nat × Bool)} {y : Bool} (h : Wk P cl ops bf l i st tr y st') :
    ∃ (S : Nat → St) (R : Nat → Eff) (yk : Nat), S i = st ∧ S (i + l.length) = st' ∧ i ≤ yk ∧ (y = true → i + l.length ≤ yk) ∧ (∀ k o, l[k]? = some o → StepY P cl ops (S (i + k)) o (R (i + k)) (S (i + k + 1)) (decide (i + k = yk))) ∧
      (∀ k o, l[k]? = some o → ∀ t ∈ touch (evO (S (i + k)).env) (S (i + k)).loc.length o,
        (∀ x ∈ tr, x.2.1 = t.1 → (x.2.2 = true ∨ t.2 = true) → (bf.getD (i + k) 0).testBit x.1 = true) ∧
        ∀ k' o', k' < k → l[k']? = some o' → ∀ t' ∈ touch (evO (S (i + k')).env) (S (i + k')).loc.length o', t'.1 = t.1 → (t'.2 = true ∨ t.2 = true) → (bf.getD (i + k) 0).testBit (i + k') = true) := by
  induction h with
  | nil =>
    rename_i i st tr y
    exact ⟨fun _ => st, fun _ => ⟨none, .top, none⟩, i, rfl, rfl, Nat.le_refl _, fun _ => Nat.le_refl _, fun k o hk => by simp at hk, fun k o hk => by simp at hk⟩
  | cons hs hy hc _ ih =>
    rename_i o rest i st st1 st' tr y isY e _
    obtain ⟨S, R, yk, h1, h2, h3, h5, h6, h4⟩ := ih
    refine ⟨fun k => if k = i then st else S k, fun k => if k = i then e else R k, if isY = true then i else yk, if_pos rfl, ?_, ?_, ?_, fun k o' hk => ?_, fun k o' hk t ht => ?_⟩
    · show (if i + (rest.length + 1) = i then st else S (i + (rest.length + 1))) = st'
      rw [if_neg (by omega), ← h2]; congr 1; omega
    · split <;> omega
    · intro hyt
      cases isY with
      | true => have := hy rfl; rw [hyt] at this; cases this
      | false =>
        have := h5 (by simp [hyt])
        simp only [List.length_cons, Bool.false_eq_true, if_false]; omega
    · cases k with
      | zero =>
        simp at hk; subst hk
        simp only [Nat.add_zero, if_true]
        rw [if_neg (show ¬ i + 1 = i by omega), h1]
        cases isY with
        | true => simpa using hs
        | false =>
          have : ¬ i = yk := by omega
          simpa [this] using hs
      | succ k =>
        have e1 : i + (k + 1) = i + 1 + k := by omega
        have hk' : rest[k]? = some o' := by simpa using hk
        have := h6 k o' hk'
        simp only [e1]
        rw [if_neg (show ¬ i + 1 + k = i by omega), if_neg (show ¬ i + 1 + k = i by omega), if_neg (show ¬ i + 1 + k + 1 = i by omega)]
        cases isY with
        | false => simpa using this
        | true =>
          have hlt := (List.getElem?_eq_some_iff.1 hk').1
          have h7 := h5 (by simp)
          have n1 : ¬ i + 1 + k = yk := by omega
          have n2 : ¬ i + 1 + k = i := by omega
          simpa [n1, n2] using this
    · cases k with
      | zero =>
        simp at hk; subst hk
        simp only [Nat.add_zero, if_true] at ht ⊢
        exact ⟨clashAny_false hc t ht, fun k' o'' hk' => by omega⟩
      | succ k =>
        have e1 : i + (k + 1) = i + 1 + k := by omega
        simp only [e1] at ht ⊢
        rw [if_neg (show ¬ i + 1 + k = i by omega)] at ht
        obtain ⟨g1, g2⟩ := h4 k o' (by simpa using hk) t ht
        refine ⟨fun x hx => g1 x (addTr_mem.2 (.inl hx)), fun k' o'' hk' ho'' t' ht' he' hw' => ?_⟩
        cases k' with
        | zero =>
          simp at ho''; subst ho''
          simp only [Nat.add_zero, if_true] at ht'
          exact g1 (i, t'.1, t'.2) (addTr_mem.2 (.inr ⟨t', ht', rfl⟩)) he' hw'
        | succ k' =>
          have e2 : i + (k' + 1) = i + 1 + k' := by omega
          simp only [e2] at ht' ⊢
          rw [if_neg (show ¬ i + 1 + k' = i by omega)] at ht'
          exact g2 k' o'' (by omega) (by simpa using ho'') t' ht' he' hw'

theorem StepY.keep {st1 : St} {e : Eff} {y : Bool} (h : StepY P cl ops st o e st1 y) : e.dst = o.dst ∧ st1.env = putD st.env e.dst e.v ∧ locOf st1 = locE e (locOf st) ∧ st.loc.length ≤ st1.loc.length ∧ st1.sav = st.sav ∧
    (∀ j b, e.mem = some (j, b) → (j, true) ∈ touch (evO st.env) st.loc.length o) := by
  cases y with
  | false =>
    obtain ⟨h1, rfl⟩ := h
    refine ⟨effOf_dst h1, rfl, locOf_apply h1, ?_, rfl, fun j b hm => (effOf_mem h1 hm).1⟩
    unfold applyE
    cases e.mem with
    | none => simp
    | some jb => obtain ⟨j, b⟩ := jb; simp only; split <;> simp
  | true =>
    obtain ⟨c, f, vs, b, _, _, _, _, _, _, rfl, rfl⟩ := h
    exact ⟨rfl, rfl, rfl, Nat.le_refl _, rfl, fun j b hm => by simp at hm⟩

theorem StepY.out {st1 : St} {e : Eff} (h : StepY P cl ops st o e st1 false) : st1.out = st.out := by
  obtain ⟨_, rfl⟩ := h
  rfl

theorem Ld.regionAny {id : Nat} (hcl : ∀ f args v, cl f args = some v → PC P f args v) (hm : P.follows .mixedOrders = true) (hok : regOk ops (masks ops.toList []) = true)
    (h : Wk P cl ops (masks ops.toList []) ops.toList 0 st [] false st') : Ld P (.region id ops true) st .normal st' := by
  obtain ⟨S, R, yk, h1, h2, _, _, h3, h4⟩ := h.trace
  simp only [Nat.zero_add, Array.length_toList] at h1 h2 h3 h4
  have hS : ∀ k o, ops[k]? = some o → StepY P cl ops (S k) o (R k) (S (k + 1)) (decide (k = yk)) := fun k o hk => h3 k o (by simpa using hk)
  have opAt : ∀ k (hk : k < ops.size), ops[k]? = some (ops[k]'hk) := fun k hk => Array.getElem?_eq_getElem hk
  have hlex : Lex P cl ops yk S R := ⟨fun k o hk hne => by have := hS k o hk; simp only [hne, decide_false] at this; exact this.1, fun k o hk => (hS k o hk).keep.1, fun k o hk => (hS k o hk).keep.2.2.2.2.2,
    fun k o hk => (hS k o hk).keep.2.1, fun k o hk => (hS k o hk).keep.2.2.1, fun k o hk => (hS k o hk).keep.2.2.2.1,
    fun k o hk t ht k' o' hk' ho' t' ht' e1 e2 => (h4 k o (by simpa using hk) t ht).2 k' o' hk' (by simpa using ho') t' ht' e1 e2⟩
  have hsav : ∀ k, k ≤ ops.size → (S k).sav = st.sav := by
    intro k
    induction k with
    | zero => intro _; rw [h1]
    | succ k ih => intro hk; rw [(hS k _ (opAt k (by omega))).keep.2.2.2.2.1]; exact ih (by omega)
  have hout : ∀ k, k ≤ ops.size → (S k).out = if yk < k then (S (yk + 1)).out else st.out := by
    intro k
    induction k with
    | zero => intro _; rw [h1, if_neg (by omega)]
    | succ k ih =>
      intro hk
      by_cases he : k = yk
      · rw [if_pos (by omega), he]
      · have := hS k _ (opAt k (by omega))
        simp only [he, decide_false] at this
        rw [this.out, ih (by omega)]
        by_cases hl : yk < k
        · rw [if_pos hl, if_pos (by omega)]
        · rw [if_neg hl, if_neg (by omega)]
  have hyout : yk < ops.size → ∃ x, (S (yk + 1)).out = x :: st.out := fun hy => by
    have := hS yk _ (opAt yk hy)
    simp only [decide_true] at this
    obtain ⟨c, f, vs, b, _, _, _, _, _, _, _, e2⟩ := this
    refine ⟨(vs, b), ?_⟩
    rw [e2, hout yk (by omega), if_neg (by omega)]
  have hend : st'.out = if yk < ops.size then (S (yk + 1)).out else st.out := by rw [← h2, hout ops.size (Nat.le_refl _)]
  refine ⟨?_, fun yl evs Y hev hY ro n hrc A0 r ds sv a w hfr => wpIn_region_any hm ?_⟩
  · by_cases hy : yk < ops.size
    · obtain ⟨x, hx⟩ := hyout hy
      exact ⟨[x], by rw [hend, if_pos hy, hx]; rfl⟩
    · exact ⟨[], by rw [hend, if_neg hy]; rfl⟩
  refine any_order hcl hok hlex (ds := ds) (X := Y st.out.length) (X1 := Y (st.out.length + 1)) (sav := st.sav) (sv := sv) (yl := yl) (fun o ho A1 env loc r1 a1 w1 K hag hfr1 hK => ?_) (fun A1 r' a' w' hfr' => ?_) ops.size (Array.replicate ops.size false) A0 r a _ (by simp) ?_ (fun i o _ hi => ?_) ?_
  · have hs := hS yk o ho
    simp only [decide_true] at hs
    have hy : yk < ops.size := (Array.getElem?_eq_some_iff.1 ho).1
    obtain ⟨c, f, vs, b, g1, g2, g3, g4, g5, g6, g7, g8⟩ := hs
    have hwant : wantD ops env o = some true := by rw [← g1]; exact wantD_congr hag
    have hev' : evs[st.out.length]? = some (vs, b) := by
      have hx : st'.out = (vs, b) :: st.out := by rw [hend, if_pos hy, g8, hout yk (by omega), if_neg (by omega)]
      rw [hx] at hev
      exact next_event hev
    have hco := evO_congr (ops := ops) hag
    rw [g7] at hK
    exact yield_step hY hev' hwant g2 g3 (by rw [← g4]; exact hco f (by rw [g2]; simp [Op.operands, Call.operands, g3])) (by rw [← g5]; exact mapEv_congr fun x hx => hco x (by rw [g2]; simp only [Op.operands, Call.operands, Array.mem_append]; exact .inr (by simpa using hx))) g6 hfr1 (fun A0' a' w' h => hK A0' r1 a' w' h)
  · rw [h2] at hfr'
    refine ⟨rfl, A1, r', ds, ?_⟩
    have hs' : st'.sav = st.sav := by rw [← h2]; exact hsav _ (Nat.le_refl _)
    rw [hs', hend]
    by_cases hy : yk < ops.size
    · obtain ⟨x, hx⟩ := hyout hy
      rw [if_pos hy] at hfr' ⊢
      rw [hx]; exact hfr'
    · rw [if_neg hy] at hfr' ⊢
      exact hfr'
  · unfold left
    exact Nat.le_trans (List.length_filter_le _ _) (by simp)
  · simp [Array.getD_eq_getD_getElem?, Array.getElem?_replicate] at hi
    split at hi <;> simp at hi
  · have hz : ∀ k, (Array.replicate ops.size false).getD k false = false := fun k => by
      simp only [Array.getD_eq_getD_getElem?, Array.getElem?_replicate]
      split <;> rfl
    have hf : (fun k => (Array.replicate ops.size false).getD k false) = fun _ => false := funext hz
    have z1 : ∀ m, eL R (fun _ => false) (S 0).env m = (S 0).env := fun m => by
      induction m with
      | zero => rfl
      | succ m ih => simp only [eL, Bool.false_eq_true, if_false]; exact ih
    have z2 : ∀ m, lL R (fun _ => false) (locOf (S 0)) m = locOf (S 0) := fun m => by
      induction m with
      | zero => rfl
      | succ m ih => simp only [lL, Bool.false_eq_true, if_false]; exact ih
    rw [hf, z1, z2, h1, if_neg (by rw [hz]; simp)]
    exact hfr.drew

end

end Go.Proofs.Ytkajafmphemedaa.Ev
