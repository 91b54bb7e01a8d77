/- Parts of the proof, one behind the other: EvK, EvL, EvLI, EvM, EvN, EvO, EvP. No conditions. -/
import Derived.RangeFuncLeaves
import Derived.RangeFuncRecord
import Derived.RangeFuncNested
import Derived.Test.YtjbhooodjmjdkaaGreatRe3
/-! EvK -/
namespace Go.Proofs.YtjbhooodjmjdkaaGreat.Ev
open Go.RowKit
def Stands (X : Fx) : Prop := ∀ A0 O O' w w', X A0 O w → Turn O w w' → (∀ b, O' b → O b ∨ w.heap.size ≤ b) → X A0 O' w'
def YH (P : Program) (yl : Option Nat) (evs : List (List AV × Bool)) (Y : Nat → Fx) : Prop :=
  (∀ i, Stands (Y i)) ∧ ∀ (i : Nat) (x : List AV) (b : Bool), evs[i]? = some (x, b) → ∀ (ro : Option Nat) (n : Nat) (A0 O : Nat → Prop) (w : World) (us : Array Value) (R : Ending → World → Prop),
    (∀ k, A0 k → k < w.heap.size) → (∀ k, O k → k < w.heap.size ∧ ¬ A0 k) → Y i A0 O w → VRs w (fun k => A0 k ∨ O k) noR x us →
    (∀ A0' w', Y (i + 1) A0' O w' → Keeps A0 A0' w w' → (∀ k, A0' k → k < w'.heap.size) → R (.returned (.bool b)) w') →
    ∃ l f tmps assign body, yl = some l ∧ (Instr.yield l us).run P w = .ok (.round l f tmps assign body) w ∧ RoundIn (WF ro) n P l f tmps assign body w R
def Rc (ro : Option Nat) (Y : Nat → Fx) : Prop := ∀ l, ro = some l → ∀ i A0 O w, Y i A0 O w → ∃ x, w.heap[l]? = some (.loop x)
def Post (Y : Nat → Fx) (yl : Option Nat) (sv : Array Value) (e : Exit) (st : St) (e' : Exit) (a : Act) (w : World) : Prop :=
  e' = e ∧ ∃ A0 r ds, FR (Y st.out.length) yl A0 st.sav sv st.env (locOf st) r ds a w
def Ext (st st' : St) : Prop := ∃ l, st'.out = l ++ st.out
theorem Ext.refl (st : St) : Ext st st := ⟨[], rfl⟩
theorem Ext.trans {a b c : St} (h : Ext a b) (k : Ext b c) : Ext a c := by
  obtain ⟨l, h⟩ := h; obtain ⟨m, k⟩ := k
  exact ⟨m ++ l, by rw [k, h, List.append_assoc]⟩
theorem Ext.pre {a b : St} (h : Ext a b) {evs : List (List AV × Bool)} (k : b.out.reverse <+: evs) : a.out.reverse <+: evs := by
  obtain ⟨l, h⟩ := h
  rw [h, List.reverse_append] at k
  exact (List.prefix_append _ _).trans k
def Ld (P : Program) (c : Code) (st : St) (e : Exit) (st' : St) : Prop :=
  Ext st st' ∧ ∀ (yl : Option Nat) (evs : List (List AV × Bool)) (Y : Nat → Fx), st'.out.reverse <+: evs → YH P yl evs Y → ∀ (ro : Option Nat) (n : Nat), Rc ro Y → ∀ (A0 : Nat → Prop) (r : Rr) (ds : List Nat) (sv : Array Value) (a : Act) (w : World),
    FR (Y st.out.length) yl A0 st.sav sv st.env (locOf st) r ds a w → c.wpIn (WF ro) n P (Post Y yl sv e st') a w
def wpL (c : Code) (F : Fence) (n : Nat) (P : Program) (Q : Exit → Act → World → Prop) (a : Act) (w : World) : Prop :=
  ∀ (b : Frame) (k : List Item) (cs : List Frame), b.roundOf = F.round → F.fn b.fn → F.room (cs.length + 1 + n) →
    ∃ e a' w', Q e a' w' ∧ ArrivesIn (Machine.fenced P F) P (lone (b.atR a (.code c :: .inLoop c :: k)) cs w) b k cs e a' w'
section
variable {F : Fence} {n : Nat} {P : Program} {Q : Exit → Act → World → Prop} {a : Act} {w : World} {c : Code}
theorem wpL_step (h : c.wpIn F n P (Exit.then (wpL c F n P Q) Q) a w) : wpL c F n P Q a w := by
  intro b k cs hro hb hr
  obtain ⟨e, a₁, w₁, hq, harr⟩ := h b (.inLoop c :: k) cs hro hb hr
  cases e with
  | normal =>
    obtain ⟨e₂, a₂, w₂, hq₂, harr₂⟩ := hq b k cs hro hb hr
    exact ⟨e₂, a₂, w₂, hq₂, .of_steps (StepsIn.trans harr (.one (fenced_calm hb hr rfl) stepR_inLoop)) harr₂⟩
  | exit id => exact ⟨_, a₁, w₁, hq, .pass (x := .inLoop c) rfl (fun _ _ => .inl (by simp)) harr⟩
  | goto l => exact ⟨_, a₁, w₁, hq, .pass (x := .inLoop c) rfl (fun _ _ => .inl (by simp)) harr⟩
  | ret => exact ⟨_, a₁, w₁, hq, .pass (x := .inLoop c) rfl (fun _ _ => .inl (by simp)) harr⟩
  | panic ch => exact ⟨_, a₁, w₁, hq, .pass (x := .inLoop c) rfl (fun _ _ => .inl (by simp)) harr⟩
  | outgrown => exact ⟨_, a₁, w₁, hq, .pass (x := .inLoop c) rfl (fun _ _ => .inl (by simp)) harr⟩
theorem wpIn_of_wpL (h : wpL c F n P Q a w) : (Code.loop c).wpIn F n P Q a w := by
  intro b k cs hro hb hr
  obtain ⟨e, a', w', hq, harr⟩ := h b k cs hro hb hr
  exact ⟨e, a', w', hq, .of_steps (.one (fenced_calm hb hr rfl) stepR_loop) harr⟩
end
def LdL (P : Program) (c : Code) (st : St) (e : Exit) (st' : St) : Prop :=
  Ext st st' ∧ ∀ (yl : Option Nat) (evs : List (List AV × Bool)) (Y : Nat → Fx), st'.out.reverse <+: evs → YH P yl evs Y → ∀ (ro : Option Nat) (n : Nat), Rc ro Y → ∀ (A0 : Nat → Prop) (r : Rr) (ds : List Nat) (sv : Array Value) (a : Act) (w : World),
    FR (Y st.out.length) yl A0 st.sav sv st.env (locOf st) r ds a w → wpL c (WF ro) n P (Post Y yl sv e st') a w
def Tidy (st st' : St) : Prop := st'.out = st.out ∧ ∀ (X : Fx) (yl : Option Nat) (A0 : Nat → Prop) (r : Rr) (ds : List Nat) (sv : Array Value) (a : Act) (w : World),
  FR X yl A0 st.sav sv st.env (locOf st) r ds a w → ∃ r', FR X yl A0 st'.sav sv st'.env (locOf st') r' ds a w
theorem Tidy.ext {st st' : St} (h : Tidy st st') : Ext st st' := ⟨[], h.1⟩
section
variable {P : Program} {c x y : Code} {st st1 st2 st' : St} {e : Exit}
theorem Ld.skip : Ld P .skip st .normal st :=
  ⟨.refl _, fun _ _ _ _ _ _ _ _ A0 r ds _ _ _ h => wpIn_skip ⟨rfl, A0, r, ds, h⟩⟩
theorem Ld.exit {id : Nat} : Ld P (.exit id) st (.exit id) st :=
  ⟨.refl _, fun _ _ _ _ _ _ _ _ A0 r ds _ _ _ h => wpIn_exit ⟨rfl, A0, r, ds, h⟩⟩
theorem Ld.label {l : Nat} : Ld P (.label l) st .normal st :=
  ⟨.refl _, fun _ _ _ _ _ _ _ _ A0 r ds _ _ _ h => wpIn_label ⟨rfl, A0, r, ds, h⟩⟩
theorem Ld.ret : Ld P .ret st .ret st :=
  ⟨.refl _, fun _ _ _ _ _ _ _ _ A0 r ds _ _ _ h => wpIn_ret ⟨rfl, A0, r, ds, h⟩⟩
theorem Ld.seq (h : Ld P x st .normal st1) (k : Ld P y st1 e st2) : Ld P (.seq x y) st e st2 := by
  refine ⟨h.1.trans k.1, fun yl evs Y he hY ro n hrc A0 r ds sv a w hfr => wpIn_seq (wpIn_mono (h.2 yl evs Y (k.1.pre he) hY ro n hrc A0 r ds sv a w hfr) ?_)⟩
  rintro e' a' w' ⟨rfl, A0', r', ds', hfr'⟩
  exact k.2 yl evs Y he hY ro n hrc A0' r' ds' sv a' w' hfr'
theorem Ld.seqX (h : Ld P x st e st1) (hne : e ≠ .normal) : Ld P (.seq x y) st e st1 := by
  refine ⟨h.1, fun yl evs Y he hY ro n hrc A0 r ds sv a w hfr => wpIn_seq (wpIn_mono (h.2 yl evs Y he hY ro n hrc A0 r ds sv a w hfr) ?_)⟩
  rintro e' a' w' hp
  obtain ⟨rfl, hfr'⟩ := hp
  cases e' with
  | normal => exact absurd rfl hne
  | _ => exact ⟨rfl, hfr'⟩
theorem Ld.cond {o : Operand} {t : Bool} (hc : evO st.env o = some (.bool t)) (h : Ld P (if t = true then x else y) st e st') : Ld P (.cond o x y) st e st' := by
  refine ⟨h.1, fun yl evs Y he hY ro n hrc A0 r ds sv a w hfr => ?_⟩
  have hv := hfr.eval o _ hc
  refine wpIn_cond (t := t) ?_ (h.2 yl evs Y he hY ro n hrc A0 r ds sv a w hfr)
  generalize hz : a.eval o = z at hv
  cases hv
  rfl
def leave (id : Nat) : Exit → Exit
  | .exit id' => if id' = id then .normal else .exit id'
  | e => e
theorem Ld.block {id : Nat} (h : Ld P c st e st') : Ld P (.block id c) st (leave id e) st' := by
  refine ⟨h.1, fun yl evs Y he hY ro n hrc A0 r ds sv a w hfr => wpIn_block (wpIn_mono (h.2 yl evs Y he hY ro n hrc A0 r ds sv a w hfr) ?_)⟩
  rintro e' a' w' ⟨rfl, hfr'⟩
  cases e' with
  | exit id' =>
    simp only [Exit.inBlock, leave]
    split
    · exact ⟨rfl, hfr'⟩
    · exact ⟨rfl, hfr'⟩
  | _ => exact ⟨rfl, hfr'⟩
section
variable {b : Frame} {k : List Item} {cs : List Frame} {a : Act} {w : World}
theorem stepR_scope {c : Code} : Go.step P (lone (b.atR a (.code (.scope c) :: k)) cs w) = .next (lone (b.atR a (.code c :: .inScope c :: k)) cs w) :=
  step_lone_go (by simp [stepG, stepG.exec, Frame.atR])
theorem stepR_inScope {c : Code} : Go.step P (lone (b.atR a (.inScope c :: k)) cs w) = .next (lone (b.atR a k) cs w) :=
  step_lone_go (by simp [stepG, stepG.exec, Frame.atR])
theorem wpIn_scope {F : Fence} {n : Nat} {c : Code} {Q : Exit → Act → World → Prop} (h : c.wpIn F n P Q a w) (hQ : ∀ l a w, ¬ Q (.goto l) a w) : (Code.scope c).wpIn F n P Q a w := by
  intro b k cs hro hb hr
  have h0 : (lone (b.atR a (.code (.scope c) :: k)) cs w).fenced P F := fenced_calm hb hr rfl
  obtain ⟨e, a₁, w₁, hq, harr⟩ := h b (.inScope c :: k) cs hro hb hr
  cases e with
  | normal => exact ⟨.normal, a₁, w₁, hq, .head h0 stepR_scope (StepsIn.trans harr (.one (fenced_calm hb hr rfl) stepR_inScope))⟩
  | exit id' =>
    have hx : exitTo id' (.inScope c :: k) = exitTo id' k := by simp [exitTo]
    exact ⟨.exit id', a₁, w₁, hq, fun k' hk => .head h0 stepR_scope (harr.1 k' (by rw [hx]; exact hk)),
      fun hr' hk => let ⟨k₁, h1, h2⟩ := harr.2 hr' (by rw [hx]; exact hk); ⟨k₁, h1, .head h0 stepR_scope h2⟩⟩
  | goto l => exact absurd hq (hQ l a₁ w₁)
  | ret => exact ⟨.ret, a₁, w₁, hq, fun hr => let ⟨t, hs⟩ := harr.1 hr; ⟨t, .head h0 stepR_scope hs⟩, fun hr => let ⟨t, hs⟩ := harr.2 hr; ⟨t, .head h0 stepR_scope hs⟩⟩
  | panic ch => obtain ⟨t, hs⟩ := harr; exact ⟨.panic ch, a₁, w₁, hq, t, .head h0 stepR_scope hs⟩
  | outgrown => exact ⟨.outgrown, a₁, w₁, hq, harr.imp id (Outgrown.of_steps (StepsIn.one h0 stepR_scope).steps)⟩
end
def notGoto : Exit → Bool
  | .goto _ => false
  | _ => true
theorem Ld.scope (h : Ld P c st e st') (he : notGoto e = true) : Ld P (.scope c) st e st' := by
  refine ⟨h.1, fun yl evs Y hp hY ro n hrc A0 r ds sv a w hfr => wpIn_scope (h.2 yl evs Y hp hY ro n hrc A0 r ds sv a w hfr) ?_⟩
  rintro l a' w' ⟨rfl, _⟩
  simp [notGoto] at he
theorem LdL.more (h : Ld P c st .normal st1) (k : LdL P c st1 e st2) : LdL P c st e st2 := by
  refine ⟨h.1.trans k.1, fun yl evs Y he hY ro n hrc A0 r ds sv a w hfr => wpL_step (wpIn_mono (h.2 yl evs Y (k.1.pre he) hY ro n hrc A0 r ds sv a w hfr) ?_)⟩
  rintro e' a' w' ⟨rfl, A0', r', ds', hfr'⟩
  exact k.2 yl evs Y he hY ro n hrc A0' r' ds' sv a' w' hfr'
theorem LdL.done (h : Ld P c st e st1) (hne : e ≠ .normal) : LdL P c st e st1 := by
  refine ⟨h.1, fun yl evs Y he hY ro n hrc A0 r ds sv a w hfr => wpL_step (wpIn_mono (h.2 yl evs Y he hY ro n hrc A0 r ds sv a w hfr) ?_)⟩
  rintro e' a' w' ⟨rfl, hfr'⟩
  cases e' with
  | normal => exact absurd rfl hne
  | _ => exact ⟨rfl, hfr'⟩
theorem LdL.loop (h : LdL P c st e st') : Ld P (.loop c) st e st' :=
  ⟨h.1, fun yl evs Y he hY ro n hrc A0 r ds sv a w hfr => wpIn_of_wpL (h.2 yl evs Y he hY ro n hrc A0 r ds sv a w hfr)⟩
theorem Ld.pre (t : Tidy st st1) (h : Ld P c st1 e st2) : Ld P c st e st2 := by
  refine ⟨t.ext.trans h.1, fun yl evs Y he hY ro n hrc A0 r ds sv a w hfr => ?_⟩
  obtain ⟨r', hfr'⟩ := t.2 _ _ _ _ _ _ _ _ hfr
  rw [← t.1] at hfr'
  exact h.2 yl evs Y he hY ro n hrc A0 r' ds sv a w hfr'
theorem LdL.pre (t : Tidy st st1) (h : LdL P c st1 e st2) : LdL P c st e st2 := by
  refine ⟨t.ext.trans h.1, fun yl evs Y he hY ro n hrc A0 r ds sv a w hfr => ?_⟩
  obtain ⟨r', hfr'⟩ := t.2 _ _ _ _ _ _ _ _ hfr
  rw [← t.1] at hfr'
  exact h.2 yl evs Y he hY ro n hrc A0 r' ds sv a w hfr'
theorem Ld.post (h : Ld P c st e st1) (t : Tidy st1 st2) : Ld P c st e st2 := by
  refine ⟨h.1.trans t.ext, fun yl evs Y he hY ro n hrc A0 r ds sv a w hfr => wpIn_mono (h.2 yl evs Y (t.ext.pre he) hY ro n hrc A0 r ds sv a w hfr) ?_⟩
  rintro e' a' w' ⟨rfl, A0', r', ds', hfr'⟩
  obtain ⟨r2, h2⟩ := t.2 _ _ _ _ _ _ _ _ hfr'
  exact ⟨rfl, A0', r2, ds', by rw [t.1]; exact h2⟩
/-! ### Regions -/
def LdO (P : Program) (ops : Array Oper) (l : List Oper) (i : Nat) (st st' : St) : Prop :=
  Ext st st' ∧ ∀ (yl : Option Nat) (evs : List (List AV × Bool)) (Y : Nat → Fx), st'.out.reverse <+: evs → YH P yl evs Y → ∀ (ro : Option Nat) (n : Nat), Rc ro Y → ∀ (A0 : Nat → Prop) (r : Rr) (ds : List Nat) (sv : Array Value) (a : Act) (w : World),
    FR (Y st.out.length) yl A0 st.sav sv st.env (locOf st) r ds a w → wpOpsIn (WF ro) n P ops (Post Y yl sv .normal st') (List.range' i l.length) a w
variable {ops : Array Oper} {rest : List Oper} {o : Oper} {i : Nat} {cl : FuncId → List AV → Option AV}
theorem LdO.nil : LdO P ops [] i st st := ⟨.refl _, fun _ _ _ _ _ _ _ _ A0 r ds _ _ _ h => ⟨rfl, A0, r, ds, h⟩⟩
theorem LdO.step (hcl : ∀ f args v, cl f args = some v → CC P f args v) (h0 : ops[i]? = some o) {eff : Eff} (he : stepE P cl ops st o = some eff) (h : LdO P ops rest (i + 1) (applyE st eff) st') : LdO P ops (o :: rest) i st st' := by
  refine ⟨h.1, fun yl evs Y hev hY ro n hrc A0 r ds sv a w hfr => ?_⟩
  simp only [List.length_cons, List.range'_succ, wpOpsIn, h0]
  refine op_step hcl hfr (fun _ _ _ _ _ _ _ => locOf_len st) he (fun r' a' w' hfr' => ?_)
  refine h.2 yl evs Y hev hY ro n hrc A0 r' ds sv a' w' ?_
  rw [locOf_apply he]
  exact hfr'
theorem FR.ownNot {X : Fx} {yl : Option Nat} {A0 : Nat → Prop} {sav env : List AV} {sv : Array Value} {loc : Nat → Option Blk} {r : Rr} {ds : List Nat} {a : Act} {w : World} (h : FR X yl A0 sav sv env loc r ds a w) : ∀ k, own r ds k → ¬ A0 k := by
  rintro k (hj | hk)
  · exact h.dis k hj
  · exact (h.dok k hk).2
theorem FR.other {X X' : Fx} {yl : Option Nat} {A0 A0' : Nat → Prop} {sav env : List AV} {sv : Array Value} {loc : Nat → Option Blk} {r : Rr} {ds : List Nat} {a : Act} {w w' : World} (h : FR X yl A0 sav sv env loc r ds a w) (hX : X' A0' (own r ds) w')
    (hclo : ∀ A0 O O' w w', X' A0 O w → Turn O w w' → (∀ b, O' b → O b ∨ w.heap.size ≤ b) → X' A0 O' w') (hk : Keeps A0 A0' w w') (ha0 : ∀ k, A0' k → k < w'.heap.size) : FR X' yl A0' sav sv env loc r ds a w' := by
  have hdis : ∀ b, OwnR r b → ¬ A0' b := fun b hj hA => by
    rcases hk.more b hA with h1 | h1
    · exact h.dis b hj h1
    · have := h.lt b hj; omega
  have hk' : Keeps (AR A0 r ds) (AR A0' r ds) w w' := by
    refine ⟨hk.size, fun b hb hA => hk.block b hb (fun h1 => hA (.inl h1)), fun b hA => ?_⟩
    rcases hA with h1 | h1
    · exact (hk.more b h1).imp .inl id
    · exact .inl (.inr h1)
  refine ⟨h.env.mono hk' (fun _ _ h => h), h.sav.mono hk' (fun _ _ h => h), fun j k hj => (h.mem j k hj).keep hk' (fun _ _ h => h) (fun b hb => hk.block b (h.lt b (.of hb)) (h.dis b (.of hb))), h.dom, h.domL, h.inj, h.injL, h.sep, hdis, fun b hj => Nat.lt_of_lt_of_le (h.lt b hj) hk.size, h.sepD, ha0, hX, hclo, h.dfr, h.dnd, fun q hq => ⟨?_, fun hA => ?_⟩, h.ylv⟩
  · rw [hk.block q (Array.getElem?_eq_some_iff.1 (h.dok q hq).1).1 (h.dok q hq).2]; exact (h.dok q hq).1
  · rcases hk.more q hA with h1 | h1
    · exact (h.dok q hq).2 h1
    · have := (Array.getElem?_eq_some_iff.1 (h.dok q hq).1).1; omega
theorem yield_step {Y : Nat → Fx} {yl : Option Nat} {evs : List (List AV × Bool)} {ro : Option Nat} {n m : Nat} {A0 : Nat → Prop} {r : Rr} {ds : List Nat} {sav env : List AV} {sv : Array Value} {loc : Nat → Option Blk} {a : Act} {w : World} {c : Call} {f : Operand} {vs : List AV} {b : Bool} {K : Act → World → Prop} {Q : Exit → Act → World → Prop}
    (hY : YH P yl evs Y) (hlen : evs[m]? = some (vs, b)) (hw : wantD ops env o = some true) (ho : o.op = .call c) (hc : c.callee = .value f)
    (hf : evO env f = some .yv) (hvs : mapEv (evO env) c.args.toList = some vs) (hn : vs.all noL = true) (hfr : FR (Y m) yl A0 sav sv env loc r ds a w)
    (hK : ∀ A0' a' w', FR (Y (m + 1)) yl A0' sav sv (putD env o.dst (.bool b)) loc r ds a' w' → K a' w') : if Region.wanted o (yielded ops a.tmps) then o.wpIn (WF ro) n P a w K Q else (∀ f, o.about P w a.eval = some f → (WF ro).fn f) ∧ K (a.put o.dst undef) w := by
  rw [if_pos (wantD_true hfr hw)]
  have hargs := mapEv_rel hfr.cx.val _ _ hvs
  have e1 : (c.args.toList.map a.eval).toArray = c.args.map a.eval := Array.ext' (by simp)
  rw [e1] at hargs
  have hargs' : VRs w (fun k => A0 k ∨ own r ds k) noR vs (c.args.map a.eval) := hargs.weaken hn (fun b h => h)
  have hfv := hfr.eval f _ hf
  generalize hz : a.eval f = z at hfv
  cases hfv with
  | yv hl =>
    rename_i l
    obtain ⟨l', f', tmps, assign, body, hyl, hrun, hround⟩ := hY.2 m vs b hlen ro (n - 1) A0 (own r ds) w (c.args.map a.eval)
      (fun
        | .returned v, w'' => K (a.put o.dst v) w''
        | .panicked chain, w'' => Q (.panic chain) a w''
        | .outgrown, _ => LetsOut Q)
      hfr.a0 (fun k hk => ⟨hfr.arLt k (.inr hk), hfr.ownNot k hk⟩) hfr.inv hargs'
      (fun A0' w' hy' hk ha0 => by
        refine hK A0' _ w' ?_
        have hfr' := hfr.other (X' := Y (m + 1)) hy' (hY.1 _) hk ha0
        exact hfr'.val (Bel.refl _ _) (.bool : VR w' (AR A0' r ds) r (.bool b) (.bool b)) o.dst)
    have : l = l' := by
      have h1 := hfr.ylv
      rw [hl, hyl] at h1
      injection h1
    subst this
    refine ⟨fun _ _ => trivial, ?_⟩
    rw [Oper.semAt_eq _ _ _ (fun d hd => by rw [ho] at hd; cases hd)]
    have : (execOp a.eval o).run P w = .ok (.round l f' tmps assign body) w := by
      simp only [execOp, ho, resolve, hc, hz, Deferred.ofValue, Sem.run_bind, Sem.run_pure, Result.andThen_ok, invoke, Array.empty_append, hrun]
    rw [this, Oper.uponIn_round]
    exact ⟨fun h => by simp [wf_depth] at h, hround⟩
theorem next_event {evs : List (List AV × Bool)} {x : List AV × Bool} (h : (x :: st.out).reverse <+: evs) : evs[st.out.length]? = some x := by
  simp only [List.reverse_cons] at h
  obtain ⟨t, ht⟩ := h
  rw [← ht, List.append_assoc, List.getElem?_append_right (by simp)]
  simp
theorem LdO.yield (h0 : ops[i]? = some o) {c : Call} {f : Operand} {vs : List AV} {b : Bool} (hw : wantD ops st.env o = some true) (ho : o.op = .call c) (hc : c.callee = .value f)
    (hf : evO st.env f = some .yv) (hvs : mapEv (evO st.env) c.args.toList = some vs) (hn : vs.all noL = true)
    (h : LdO P ops rest (i + 1) { st with env := putD st.env o.dst (.bool b), out := (vs, b) :: st.out } st') : LdO P ops (o :: rest) i st st' := by
  refine ⟨Ext.trans ⟨[(vs, b)], rfl⟩ h.1, fun yl evs Y hev hY ro n hrc A0 r ds sv a w hfr => ?_⟩
  simp only [List.length_cons, List.range'_succ, wpOpsIn, h0]
  exact yield_step hY (next_event (h.1.pre hev)) hw ho hc hf hvs hn hfr (fun A0' a' w' hfr' => h.2 yl evs Y hev hY ro n hrc A0' r ds sv a' w' hfr')
theorem Ld.region {id : Nat} (h : LdO P ops ops.toList 0 st st') : Ld P (.region id ops false) st .normal st' := by
  refine ⟨h.1, fun yl evs Y hev hY ro n hrc A0 r ds sv a w hfr => wpIn_region ?_⟩
  have := h.2 yl evs Y hev hY ro n hrc A0 r ds sv a w hfr
  rw [List.range_eq_range', ← Array.length_toList]
  exact this
theorem FR.drew {X : Fx} {yl : Option Nat} {A0 : Nat → Prop} {sav env : List AV} {sv : Array Value} {loc : Nat → Option Blk} {r : Rr} {ds : List Nat} {a : Act} {w : World} (h : FR X yl A0 sav sv env loc r ds a w) : FR X yl A0 sav sv env loc r ds a { w with drawn := w.drawn + 1 } := by
  have := h.val (Bel.refl w.heap.size w).drew (x := .top) (v := undef) .top none
  exact this
def StepY (P : Program) (cl : FuncId → List AV → Option AV) (ops : Array Oper) (st : St) (o : Oper) (e : Eff) (st1 : St) : Bool → Prop
  | false => stepE P cl ops st o = some e ∧ st1 = applyE st e
  | true => ∃ (c : Call) (f : Operand) (vs : List AV) (b : Bool), wantD ops st.env o = some true ∧ o.op = .call c ∧ c.callee = .value f ∧ evO st.env f = some .yv ∧ mapEv (evO st.env) c.args.toList = some vs ∧ vs.all noL = true ∧
      e = ⟨o.dst, .bool b, none⟩ ∧ st1 = { st with env := putD st.env o.dst (.bool b), out := (vs, b) :: st.out }
inductive Wk (P : Program) (cl : FuncId → List AV → Option AV) (ops : Array Oper) (bf : List Nat) : List Oper → Nat → St → List (Nat × Nat × Bool) → Bool → St → Prop
  | nil {i : Nat} {st : St} {tr : List (Nat × Nat × Bool)} {y : Bool} : Wk P cl ops bf [] i st tr y st
  | cons {o : Oper} {rest : List Oper} {i : Nat} {st st1 st' : St} {tr : List (Nat × Nat × Bool)} {y isY : Bool} {e : Eff} (hs : StepY P cl ops st o e st1 isY) (hy : isY = true → y = false)
      (hc : clashAny bf i tr (touch P (evO st.env) st.loc.length o) = false) (h : Wk P cl ops bf rest (i + 1) st1 (addTr i tr (touch P (evO st.env) st.loc.length o)) (y || isY) st') : Wk P cl ops bf (o :: rest) i st tr y st'
theorem Wk.trace {bf : List Nat} {l : List Oper} {i : Nat} {st st' : St} {tr : List (Nat × Nat × Bool)} {y : Bool} (h : Wk P cl ops bf l i st tr y st') :
    ∃ (S : Nat → St) (R : Nat → Eff) (yk : Nat), S i = st ∧ S (i + l.length) = st' ∧ i ≤ yk ∧ (y = true → i + l.length ≤ yk) ∧ (∀ k o, l[k]? = some o → StepY P cl ops (S (i + k)) o (R (i + k)) (S (i + k + 1)) (decide (i + k = yk))) ∧
      (∀ k o, l[k]? = some o → ∀ t ∈ touch P (evO (S (i + k)).env) (S (i + k)).loc.length o,
        (∀ x ∈ tr, x.2.1 = t.1 → (x.2.2 = true ∨ t.2 = true) → (bf.getD (i + k) 0).testBit x.1 = true) ∧
        ∀ k' o', k' < k → l[k']? = some o' → ∀ t' ∈ touch P (evO (S (i + k')).env) (S (i + k')).loc.length o', t'.1 = t.1 → (t'.2 = true ∨ t.2 = true) → (bf.getD (i + k) 0).testBit (i + k') = true) := by
  induction h with
  | nil =>
    rename_i i st tr y
    exact ⟨fun _ => st, fun _ => ⟨none, .top, none⟩, i, rfl, rfl, Nat.le_refl _, fun _ => Nat.le_refl _, fun k o hk => by simp at hk, fun k o hk => by simp at hk⟩
  | cons hs hy hc _ ih =>
    rename_i o rest i st st1 st' tr y isY e _
    obtain ⟨S, R, yk, h1, h2, h3, h5, h6, h4⟩ := ih
    refine ⟨fun k => if k = i then st else S k, fun k => if k = i then e else R k, if isY = true then i else yk, if_pos rfl, ?_, ?_, ?_, fun k o' hk => ?_, fun k o' hk t ht => ?_⟩
    · show (if i + (rest.length + 1) = i then st else S (i + (rest.length + 1))) = st'
      rw [if_neg (by omega), ← h2]; congr 1; omega
    · split <;> omega
    · intro hyt
      cases isY with
      | true => have := hy rfl; rw [hyt] at this; cases this
      | false =>
        have := h5 (by simp [hyt])
        simp only [List.length_cons, Bool.false_eq_true, if_false]; omega
    · cases k with
      | zero =>
        simp at hk; subst hk
        simp only [Nat.add_zero, if_true]
        rw [if_neg (show ¬ i + 1 = i by omega), h1]
        cases isY with
        | true => simpa using hs
        | false =>
          have : ¬ i = yk := by omega
          simpa [this] using hs
      | succ k =>
        have e1 : i + (k + 1) = i + 1 + k := by omega
        have hk' : rest[k]? = some o' := by simpa using hk
        have := h6 k o' hk'
        simp only [e1]
        rw [if_neg (show ¬ i + 1 + k = i by omega), if_neg (show ¬ i + 1 + k = i by omega), if_neg (show ¬ i + 1 + k + 1 = i by omega)]
        cases isY with
        | false => simpa using this
        | true =>
          have hlt := (List.getElem?_eq_some_iff.1 hk').1
          have h7 := h5 (by simp)
          have n1 : ¬ i + 1 + k = yk := by omega
          have n2 : ¬ i + 1 + k = i := by omega
          simpa [n1, n2] using this
    · cases k with
      | zero =>
        simp at hk; subst hk
        simp only [Nat.add_zero, if_true] at ht ⊢
        exact ⟨clashAny_false hc t ht, fun k' o'' hk' => by omega⟩
      | succ k =>
        have e1 : i + (k + 1) = i + 1 + k := by omega
        simp only [e1] at ht ⊢
        rw [if_neg (show ¬ i + 1 + k = i by omega)] at ht
        obtain ⟨g1, g2⟩ := h4 k o' (by simpa using hk) t ht
        refine ⟨fun x hx => g1 x (addTr_mem.2 (.inl hx)), fun k' o'' hk' ho'' t' ht' he' hw' => ?_⟩
        cases k' with
        | zero =>
          simp at ho''; subst ho''
          simp only [Nat.add_zero, if_true] at ht'
          exact g1 (i, t'.1, t'.2) (addTr_mem.2 (.inr ⟨t', ht', rfl⟩)) he' hw'
        | succ k' =>
          have e2 : i + (k' + 1) = i + 1 + k' := by omega
          simp only [e2] at ht' ⊢
          rw [if_neg (show ¬ i + 1 + k' = i by omega)] at ht'
          exact g2 k' o'' (by omega) (by simpa using ho'') t' ht' he' hw'
theorem StepY.keep {st1 : St} {e : Eff} {y : Bool} (h : StepY P cl ops st o e st1 y) : e.dst = o.dst ∧ st1.env = putD st.env e.dst e.v ∧ locOf st1 = locE e (locOf st) ∧ st.loc.length ≤ st1.loc.length ∧ st1.sav = st.sav ∧
    (∀ j b, e.mem = some (j, b) → (j, true) ∈ touch P (evO st.env) st.loc.length o) := by
  cases y with
  | false =>
    obtain ⟨h1, rfl⟩ := h
    refine ⟨effOf_dst h1, rfl, locOf_apply h1, ?_, rfl, fun j b hm => (effOf_mem h1 hm).1⟩
    unfold applyE
    cases e.mem with
    | none => simp
    | some jb => obtain ⟨j, b⟩ := jb; simp only; split <;> simp
  | true =>
    obtain ⟨c, f, vs, b, _, _, _, _, _, _, rfl, rfl⟩ := h
    exact ⟨rfl, rfl, rfl, Nat.le_refl _, rfl, fun j b hm => by simp at hm⟩
theorem StepY.out {st1 : St} {e : Eff} (h : StepY P cl ops st o e st1 false) : st1.out = st.out := by
  obtain ⟨_, rfl⟩ := h
  rfl
theorem Ld.regionAny {id : Nat} (hcl : ∀ f args v, cl f args = some v → CC P f args v) (hm : P.follows .mixedOrders = true) (hok : regOk ops (masks ops.toList []) = true)
    (h : Wk P cl ops (masks ops.toList []) ops.toList 0 st [] false st') : Ld P (.region id ops true) st .normal st' := by
  obtain ⟨S, R, yk, h1, h2, _, _, h3, h4⟩ := h.trace
  simp only [Nat.zero_add, Array.length_toList] at h1 h2 h3 h4
  have hS : ∀ k o, ops[k]? = some o → StepY P cl ops (S k) o (R k) (S (k + 1)) (decide (k = yk)) := fun k o hk => h3 k o (by simpa using hk)
  have opAt : ∀ k (hk : k < ops.size), ops[k]? = some (ops[k]'hk) := fun k hk => Array.getElem?_eq_getElem hk
  have hlex : Lex P cl ops yk S R := ⟨fun k o hk hne => by have := hS k o hk; simp only [hne, decide_false] at this; exact this.1, fun k o hk => (hS k o hk).keep.1, fun k o hk => (hS k o hk).keep.2.2.2.2.2,
    fun k o hk => (hS k o hk).keep.2.1, fun k o hk => (hS k o hk).keep.2.2.1, fun k o hk => (hS k o hk).keep.2.2.2.1,
    fun k o hk t ht k' o' hk' ho' t' ht' e1 e2 => (h4 k o (by simpa using hk) t ht).2 k' o' hk' (by simpa using ho') t' ht' e1 e2⟩
  have hsav : ∀ k, k ≤ ops.size → (S k).sav = st.sav := by
    intro k
    induction k with
    | zero => intro _; rw [h1]
    | succ k ih => intro hk; rw [(hS k _ (opAt k (by omega))).keep.2.2.2.2.1]; exact ih (by omega)
  have hout : ∀ k, k ≤ ops.size → (S k).out = if yk < k then (S (yk + 1)).out else st.out := by
    intro k
    induction k with
    | zero => intro _; rw [h1, if_neg (by omega)]
    | succ k ih =>
      intro hk
      by_cases he : k = yk
      · rw [if_pos (by omega), he]
      · have := hS k _ (opAt k (by omega))
        simp only [he, decide_false] at this
        rw [this.out, ih (by omega)]
        by_cases hl : yk < k
        · rw [if_pos hl, if_pos (by omega)]
        · rw [if_neg hl, if_neg (by omega)]
  have hyout : yk < ops.size → ∃ x, (S (yk + 1)).out = x :: st.out := fun hy => by
    have := hS yk _ (opAt yk hy)
    simp only [decide_true] at this
    obtain ⟨c, f, vs, b, _, _, _, _, _, _, _, e2⟩ := this
    refine ⟨(vs, b), ?_⟩
    rw [e2, hout yk (by omega), if_neg (by omega)]
  have hend : st'.out = if yk < ops.size then (S (yk + 1)).out else st.out := by rw [← h2, hout ops.size (Nat.le_refl _)]
  refine ⟨?_, fun yl evs Y hev hY ro n hrc A0 r ds sv a w hfr => wpIn_region_any hm ?_⟩
  · by_cases hy : yk < ops.size
    · obtain ⟨x, hx⟩ := hyout hy
      exact ⟨[x], by rw [hend, if_pos hy, hx]; rfl⟩
    · exact ⟨[], by rw [hend, if_neg hy]; rfl⟩
  refine any_order hcl hok hlex (ds := ds) (X := Y st.out.length) (X1 := Y (st.out.length + 1)) (sav := st.sav) (sv := sv) (yl := yl) (fun o ho A1 env loc r1 a1 w1 K hag hfr1 hK => ?_) (fun A1 r' a' w' hfr' => ?_) ops.size (Array.replicate ops.size false) A0 r a _ (by simp) ?_ (fun i o _ hi => ?_) ?_
  · have hs := hS yk o ho
    simp only [decide_true] at hs
    have hy : yk < ops.size := (Array.getElem?_eq_some_iff.1 ho).1
    obtain ⟨c, f, vs, b, g1, g2, g3, g4, g5, g6, g7, g8⟩ := hs
    have hwant : wantD ops env o = some true := by rw [← g1]; exact wantD_congr hag
    have hev' : evs[st.out.length]? = some (vs, b) := by
      have hx : st'.out = (vs, b) :: st.out := by rw [hend, if_pos hy, g8, hout yk (by omega), if_neg (by omega)]
      rw [hx] at hev
      exact next_event hev
    have hco := evO_congr (ops := ops) hag
    rw [g7] at hK
    exact yield_step hY hev' hwant g2 g3 (by rw [← g4]; exact hco f (by rw [g2]; simp [Op.operands, Call.operands, g3])) (by rw [← g5]; exact mapEv_congr fun x hx => hco x (by rw [g2]; simp only [Op.operands, Call.operands, Array.mem_append]; exact .inr (by simpa using hx))) g6 hfr1 (fun A0' a' w' h => hK A0' r1 a' w' h)
  · rw [h2] at hfr'
    refine ⟨rfl, A1, r', ds, ?_⟩
    have hs' : st'.sav = st.sav := by rw [← h2]; exact hsav _ (Nat.le_refl _)
    rw [hs', hend]
    by_cases hy : yk < ops.size
    · obtain ⟨x, hx⟩ := hyout hy
      rw [if_pos hy] at hfr' ⊢
      rw [hx]; exact hfr'
    · rw [if_neg hy] at hfr' ⊢
      exact hfr'
  · unfold left
    exact Nat.le_trans (List.length_filter_le _ _) (by simp)
  · simp [Array.getD_eq_getD_getElem?, Array.getElem?_replicate] at hi
    split at hi <;> simp at hi
  · have hz : ∀ k, (Array.replicate ops.size false).getD k false = false := fun k => by
      simp only [Array.getD_eq_getD_getElem?, Array.getElem?_replicate]
      split <;> rfl
    have hf : (fun k => (Array.replicate ops.size false).getD k false) = fun _ => false := funext hz
    have z1 : ∀ m, eL R (fun _ => false) (S 0).env m = (S 0).env := fun m => by
      induction m with
      | zero => rfl
      | succ m ih => simp only [eL, Bool.false_eq_true, if_false]; exact ih
    have z2 : ∀ m, lL R (fun _ => false) (locOf (S 0)) m = locOf (S 0) := fun m => by
      induction m with
      | zero => rfl
      | succ m ih => simp only [lL, Bool.false_eq_true, if_false]; exact ih
    rw [hf, z1, z2, h1, if_neg (by rw [hz]; simp)]
    exact hfr.drew
end
end Go.Proofs.YtjbhooodjmjdkaaGreat.Ev
/-! EvL -/
namespace Go.Proofs.YtjbhooodjmjdkaaGreat.Ev
open Go.RowKit
section
variable {P : Program} {cl : FuncId → List AV → Option AV} {ops : Array Oper}
theorem runOps_keeps {d : Bool} {bf : List Nat} : ∀ (l : List Oper) (i : Nat) (st st' : St) (tr : List (Nat × Nat × Bool)), runOps P cl ops d bf l i st tr = some st' → st'.out = st.out ∧ st'.sav = st.sav ∧ st'.bs = st.bs
  | [], i, st, st', tr, h => by simp [runOps] at h; subst h; exact ⟨rfl, rfl, rfl⟩
  | o :: rest, i, st, st', tr, h => by
    simp only [runOps] at h
    split at h
    · rename_i e he
      split at h
      · split at h
        · simp at h
        · exact runOps_keeps rest _ (applyE st e) st' _ h
      · exact runOps_keeps rest _ (applyE st e) st' _ h
    · simp at h
end
section
variable {X : Fx} {A0 : Nat → Prop} {sav env : List AV} {sv : Array Value} {yl : Option Nat} {loc : Nat → Option Blk} {r : Rr} {ds ds' : List Nat} {a a' : Act} {w w' : World}
theorem FR.move (h : FR X yl A0 sav sv env loc r ds a w) (ht : a'.tmps = a.tmps) (hturn : Turn (own r ds) w w') (hown : ∀ b, OwnR r b → w'.heap[b]? = w.heap[b]?) (hds : ∀ q, q ∈ ds' → q ∈ ds ∨ w.heap.size ≤ q)
    (hd : a'.defers = ds'.map fun q => { target := .collected q, args := #[] }) (hn : ds'.Nodup) (hok : ∀ q, q ∈ ds' → w'.heap[q]? = some (.deferred (some [])) ∧ ¬ A0 q) : FR X yl A0 sav sv env loc r ds' a' w' := by
  have hk : Keeps (AR A0 r ds) (AR A0 r ds') w w' := by
    refine ⟨hturn.size, fun b hb hA => hturn.block b hb (fun ho => hA (.inr ho)), fun b hb => ?_⟩
    rcases hb with hb | hb | hb
    · exact .inl (.inl hb)
    · exact .inl (.inr (.inl hb))
    · exact (hds b hb).imp (fun h => .inr (.inr h)) id
  refine ⟨by rw [ht]; exact h.env.mono hk (fun _ _ h => h), h.sav.mono hk (fun _ _ h => h), fun j k hj => (h.mem j k hj).keep hk (fun _ _ h => h) (fun b hb => hown b (.of hb)), h.dom, h.domL, h.inj, h.injL, h.sep, h.dis, fun b hj => Nat.lt_of_lt_of_le (h.lt b hj) hturn.size, fun b hj hq => (hds b hq).elim (h.sepD b hj) (fun e => by have := h.lt b hj; omega),
    fun b hb => Nat.lt_of_lt_of_le (h.a0 b hb) hturn.size, h.clo _ _ _ _ _ h.inv hturn ?_, h.clo, hd, hn, hok, h.ylv⟩
  · rintro b (hb | hb)
    · exact .inl (.inl hb)
    · exact (hds b hb).imp .inr id
theorem FR.markNot (h : FR X yl A0 sav sv env loc r ds a w) {q b : Nat} (hq : q ∈ ds) (hj : OwnR r b) : b ≠ q := fun e => h.sepD b hj (by rw [e]; exact hq)
theorem FR.shut {q : Nat} (h : FR X yl A0 sav sv env loc r (q :: ds) a w) : FR X yl A0 sav sv env loc r ds { a with defers := ds.map fun q => { target := .collected q, args := #[] } } (w.putObj q (.deferred none)) := by
  refine h.move rfl ⟨rfl, rfl, rfl, by simp, fun b _ hb => World.putObj_heap_other (fun e => hb (by subst e; exact .inr (by simp))), Nat.le_refl _⟩ (fun b hj => World.putObj_heap_other (h.markNot (by simp) hj)) (fun q' hq' => .inl (by simp [hq'])) rfl (List.nodup_cons.1 h.dnd).2 (fun q' hq' => ⟨?_, (h.dok q' (by simp [hq'])).2⟩)
  rw [World.putObj_heap_other (fun e => (List.nodup_cons.1 h.dnd).1 (by rw [← e]; exact hq'))]
  exact (h.dok q' (by simp [hq'])).1
theorem leaves_marks {F : Fence} {n : Nat} {P : Program} {fn : Func} {R : Ending → World → Prop} : ∀ (ds : List Nat) (a : Act) (w : World), FR X yl A0 sav sv env loc r ds a w →
    (∀ (a' : Act) (w' : World), a'.tmps = a.tmps → FR X yl A0 sav sv env loc r [] a' w' → ∃ v, (results fn a.tmps).run P w' = .ok v w' ∧ R (.returned v) w') → LeavesInM F n P fn a.tmps R a.defers .returning w
  | [], a, w, h, hR => by
    have := h.dfr
    simp only [List.map_nil] at this
    rw [this]
    exact hR a w rfl h
  | q :: ds, a, w, h, hR => by
    have := h.dfr
    simp only [List.map_cons] at this
    rw [this]
    refine ⟨by simp, .inl ⟨q, w.putObj q (.deferred none), rfl, run_takeDeferred (h.dok q (by simp)).1, ?_⟩⟩
    exact leaves_marks ds { a with defers := ds.map fun q => { target := .collected q, args := #[] } } _ h.shut (fun a' w' ht hfr => hR a' w' ht hfr)
end
/-! ### Results -/
def resAV1 (P : Program) (st : St) : ResultVar → Option AV
  | .tmp t => st.env[t]?
  | .cell a t => match st.env[a]? with
    | some (.lptr j wd row col) => match locOf st j with
      | some (.flat _ cs) => loadAV P t cs (row * wd + col)
      | _ => none
    | _ => none
def resL (P : Program) (st : St) : List ResultVar → Option (List AV)
  | [] => some []
  | x :: xs => match resAV1 P st x with
    | some v => match resL P st xs with
      | some vs => some (v :: vs)
      | none => none
    | none => none
def resAV (P : Program) (st : St) (fn : Func) : Option AV := match resL P st fn.results.toList with
  | some [v] => expA (locOf st) v
  | some vs => match expAll (locOf st) vs with
    | some xs => some (.tup xs)
    | none => none
  | none => none
def rdRes (tmps : Array Value) : ResultVar → Sem Value
  | .tmp t => pure (tmps.getD t undef)
  | .cell c t => asAddr (tmps.getD c undef) >>= fun x => loadVar t x
theorem results_eq (fn : Func) (tmps : Array Value) : results fn tmps = (fn.results.toList.mapM (rdRes tmps) >>= fun vs => pure (if h : vs.toArray.size = 1 then vs.toArray[0] else .tuple vs.toArray)) := by
  unfold results
  simp only [Array.mapM_eq_mapM_toList, map_eq_pure_bind, bind_assoc, pure_bind]
  congr 1
section
variable {P : Program} {X : Fx} {A0 : Nat → Prop} {st : St} {sv : Array Value} {yl : Option Nat} {r : Rr} {ds : List Nat} {a : Act} {w : World}
theorem resAV1_rel (h : FR X yl A0 st.sav sv st.env (locOf st) r ds a w) {x : ResultVar} {v : AV} (hx : resAV1 P st x = some v) :
    ∃ u, (rdRes a.tmps x).run P w = .ok u w ∧ VR w (AR A0 r ds) r v u := by
  cases x with
  | tmp t =>
    obtain ⟨u, hu, hr⟩ := h.env.get hx
    exact ⟨u, by simp [rdRes, Array.getD_eq_getD_getElem?, hu], hr⟩
  | cell c t =>
    simp only [resAV1] at hx
    split at hx
    · rename_i j wd row col hj
      split at hx
      · rename_i u cs hl
        obtain ⟨z, hz, hr⟩ := h.env.get hj
        cases hr with
        | lptr hrj ho =>
          rename_i b off
          obtain ⟨b', hb', us, hh, hc⟩ := h.mem _ _ hl
          rw [hrj] at hb'; injection hb' with hb'; subst hb'
          obtain ⟨v', hv', hr'⟩ := load_flat (P := P) hh hc hx
          subst ho
          exact ⟨v', by simp only [rdRes, Array.getD_eq_getD_getElem?, hz, Option.getD_some, asAddr, Sem.run_bind, Sem.run_pure, Result.andThen_ok, hv'], hr'⟩
      · simp at hx
    · simp at hx
theorem resL_rel (h : FR X yl A0 st.sav sv st.env (locOf st) r ds a w) : ∀ {l : List ResultVar} {vs : List AV}, resL P st l = some vs →
    ∃ us : List Value, (l.mapM (rdRes a.tmps)).run P w = .ok us w ∧ VRs w (AR A0 r ds) r vs us.toArray
  | [], vs, hl => by simp [resL] at hl; subst hl; exact ⟨[], by simp, VRs.nil⟩
  | x :: xs, vs, hl => by
    simp only [resL] at hl
    split at hl
    · rename_i v hv
      split at hl
      · rename_i vs' hvs
        injection hl with hl; subst hl
        obtain ⟨u, hu, hr⟩ := resAV1_rel h hv
        obtain ⟨us, hus, hrs⟩ := resL_rel h hvs
        refine ⟨u :: us, ?_, ?_⟩
        · simp only [List.mapM_cons, Sem.run_bind, hu, Result.andThen_ok, hus, Sem.run_pure]
        · have := (VRs.one hr).append hrs
          simpa using this
      · simp at hl
    · simp at hl
theorem resAV_rel (h : FR X yl A0 st.sav sv st.env (locOf st) r ds a w) {fn : Func} {v : AV} {A : Nat → Prop} (hA : ∀ b, A b → A0 b) (hv : resAV P st fn = some v) : ∃ u, (results fn a.tmps).run P w = .ok u w ∧ VR w A noR v u := by
  unfold resAV at hv
  have hAA : ∀ b, A b → AR A0 r ds b := fun b hb => .inl (hA b hb)
  have hno : ∀ b, OwnR r b → ¬ A b := fun b hj hb => h.dis b hj (hA b hb)
  split at hv
  · rename_i x hl
    obtain ⟨us, hus, hrs⟩ := resL_rel h hl
    have h1 : us.length = 1 := by have := hrs.1; simpa using this.symm
    obtain ⟨u, rfl⟩ : ∃ u, us = [u] := by
      match us, h1 with
      | [u], _ => exact ⟨u, rfl⟩
    refine ⟨u, ?_, expA_rel h.mem hAA hno hv (hrs.2 0 x u rfl rfl)⟩
    simp only [results_eq, Sem.run_bind, hus, Result.andThen_ok, Sem.run_pure]
    rfl
  · rename_i vs hne hl
    obtain ⟨us, hus, hrs⟩ := resL_rel h hl
    split at hv
    · rename_i xs hx
      injection hv with hv; subst hv
      have h1 : us.length ≠ 1 := fun e => by
        have hlen : vs.length = 1 := by have := hrs.1; simp at this; omega
        match vs, hlen with
        | [x], _ => exact hne x rfl
      have := expAlls_rel h.mem hAA hno hx hrs
      refine ⟨.tuple us.toArray, ?_, .tup this.1 this.2⟩
      simp only [results_eq, Sem.run_bind, hus, Result.andThen_ok, Sem.run_pure]
      simp [h1]
    · simp at hv
  · simp at hv
end
def entry (fn : Func) (args : List AV) : St := { env := args ++ List.replicate (fn.ntmps - args.length) .top, loc := [] }
theorem VRs.tops {w : World} {A : Nat → Prop} {r : Rr} (n : Nat) (u : Value) : VRs w A r (List.replicate n .top) (Array.replicate n u) :=
  ⟨by simp, fun i x v hx hv => by
    rw [List.getElem?_replicate] at hx
    split at hx
    · injection hx with hx; subst hx; exact .top
    · simp at hx⟩
def yR (yl : Option Nat) : Rr := fun j => match j with
  | .yl => yl
  | _ => none
theorem yR_own {yl : Option Nat} {b : Nat} : ¬ OwnR (yR yl) b := fun h => by rcases h with ⟨j, h⟩ | ⟨j, v, h⟩ <;> simp [yR] at h
theorem noR_le (r : Rr) (j : Key) (b : Nat) (h : noR j = some b) : r j = some b := by simp [noR] at h
theorem FR.entry {X : Fx} {yl : Option Nat} {A0 : Nat → Prop} {fn : Func} {args : List AV} {us : Array Value} {w : World} (hX : X A0 (fun _ => False) w) (hS : Stands X) (ha0 : ∀ b, A0 b → b < w.heap.size) (hv : VRs w A0 (yR yl) args us) :
    FR X yl A0 (Ev.entry fn args).sav #[] (Ev.entry fn args).env (locOf (Ev.entry fn args)) (yR yl) [] { tmps := us ++ Array.replicate (fn.ntmps - us.size) undef, defers := [] } w := by
  have hno : ∀ b, ¬ own (yR yl) [] b := fun b hb => by
    rcases hb with hj | hb
    · exact yR_own hj
    · simp at hb
  have hk : Keeps A0 (AR A0 (yR yl) []) w w := ⟨Nat.le_refl _, fun _ _ _ => rfl, fun b hb => by
    rcases hb with hb | hb
    · exact .inl hb
    · exact absurd hb (hno b)⟩
  refine ⟨?_, VRs.nil, fun j k hj => by simp [locOf, Ev.entry] at hj, fun j b hj => by simp [yR] at hj, fun j v b hj => by simp [yR] at hj, fun i j b hj => by simp [yR] at hj, fun i j v u b hj => by simp [yR] at hj, fun i j v b hj => by simp [yR] at hj, fun b hj => absurd hj yR_own, fun b hj => absurd hj yR_own, fun b hj => absurd hj yR_own, ha0, hS _ _ _ _ _ hX ⟨rfl, rfl, rfl, Nat.le_refl _, fun _ _ _ => rfl, Nat.le_refl _⟩ (fun b hb => absurd hb (hno b)), hS, rfl, List.nodup_nil, fun q hq => by simp at hq, rfl⟩
  have := (hv.mono hk (r' := yR yl) (fun _ _ h => h)).append (VRs.tops (fn.ntmps - us.size) undef)
  simpa [Ev.entry, hv.1] using this
theorem callsIn_round {ro : Option Nat} {n : Nat} {P : Program} {f : FuncId} {us : Array Value} {w : World} {R : Ending → World → Prop} (h : CallsIn (WF none) n P f us w R) : CallsIn (WF ro) n P f us w R := by
  cases ro with
  | none => exact h
  | some l => exact h
section
variable {P : Program} {f : FuncId} {fn : Func} {c : Code}
theorem PC.of_ld {args : List AV} {st' : St} {e : Exit} {x : AV} (hf : P.funcs[f]? = some fn) (hb : fn.body = some c) (h : Ld P c (entry fn args) e st') (he : e = .normal ∨ e = .ret) (hout : st'.out = []) (hr : resAV P st' fn = some x) :
    PC P f args x := by
  intro ro n A w us hA hv
  apply callsIn_round
  refine callsIn_of_wp_marks hf hb trivial ?_
  let X : Fx := fun A0 O w' => (∀ b, A b → A0 b) ∧ Bel w.heap.size w w' ∧ ∀ b, O b → w.heap.size ≤ b
  have hS : Stands X := fun A0 O O' w1 w2 hX ht hO => ⟨hX.1, ⟨⟨ht.os.trans hX.2.1.os, ht.tape.trans hX.2.1.tape, ht.output.trans hX.2.1.output, Nat.le_trans hX.2.1.size ht.size, fun k hk => by
      rw [ht.block k (Nat.lt_of_lt_of_le hk hX.2.1.size) (fun ho => by have := hX.2.2 k ho; omega)]; exact hX.2.1.block k hk⟩, Nat.le_trans hX.2.1.drawn ht.drawn⟩,
    fun b hb => by
      rcases hO b hb with h1 | h1
      · exact hX.2.2 b h1
      · exact Nat.le_trans hX.2.1.size h1⟩
  have hfr : FR X none A (entry fn args).sav #[] (entry fn args).env (locOf (entry fn args)) (yR none) [] { tmps := us ++ Array.replicate (fn.ntmps - us.size) undef, defers := [] } w :=
    FR.entry ⟨fun _ h => h, Bel.refl _ _, fun _ h => h.elim⟩ hS hA (hv.mono (Keeps.refl _ _) (noR_le _))
  have hwp := h.2 none [] (fun _ => X) (by rw [hout]; simp) ⟨fun _ => hS, fun i x b hi => by simp at hi⟩ none n (fun l hl => by cases hl) A (yR none) [] #[] _ w hfr
  refine wpIn_mono hwp ?_
  rintro e' a' w' ⟨rfl, A0', r', ds', hfr'⟩
  have hleave : LeavesInM (WF none) n P fn a'.tmps (fun e w' => ∃ v, e = .returned v ∧ VR w' A noR x v ∧ Bel w.heap.size w w') a'.defers .returning w' := by
    refine leaves_marks ds' a' w' hfr' (fun a2 w2 ht h2 => ?_)
    obtain ⟨u, hu, hru⟩ := resAV_rel h2 h2.inv.1 hr
    rw [ht] at hu
    exact ⟨u, hu, u, rfl, hru, h2.inv.2.1⟩
  rcases he with rfl | rfl
  · exact hleave
  · exact hleave
def freshAV (P : Program) (st : St) (fn : Func) (t : TypeId) : Option AV := match resL P st fn.results.toList with
  | some [.osl j v _] => match locOf st j with
    | some (.list t' wd v' n g) => match Nat.beq t' t && Nat.beq v v' with
      | true => some (.xsl wd n g 0 n none)
      | false => none
    | _ => none
  | some [.nilsl] => match zeroAV P t with
    | some zs => match Nat.blt 0 zs.length with
      | true => some (.xsl zs.length 0 ⟨zs.map tagOf, fun _ _ => .top⟩ 0 0 none)
      | false => none
    | none => none
  | _ => none
theorem FC.of_ld {args : List AV} {st' : St} {e : Exit} {t : TypeId} {wd n row len : Nat} {g : Get AV} {cap : Option Nat} (hf : P.funcs[f]? = some fn) (hb : fn.body = some c) (h : Ld P c (entry fn args) e st') (he : e = .normal ∨ e = .ret) (hout : st'.out = []) (hr : freshAV P st' fn t = some (.xsl wd n g row len cap)) (hfull : fullCK g.tag wd = true) :
    FC P f t args wd n g := by
  intro ro m A w us hA hv
  apply callsIn_round
  refine callsIn_of_wp_marks hf hb trivial ?_
  let X : Fx := fun A0 O w' => (∀ b, A b → A0 b) ∧ Bel w.heap.size w w' ∧ ∀ b, O b → w.heap.size ≤ b
  have hS : Stands X := fun A0 O O' w1 w2 hX ht hO => ⟨hX.1, ⟨⟨ht.os.trans hX.2.1.os, ht.tape.trans hX.2.1.tape, ht.output.trans hX.2.1.output, Nat.le_trans hX.2.1.size ht.size, fun k hk => by
      rw [ht.block k (Nat.lt_of_lt_of_le hk hX.2.1.size) (fun ho => by have := hX.2.2 k ho; omega)]; exact hX.2.1.block k hk⟩, Nat.le_trans hX.2.1.drawn ht.drawn⟩,
    fun b hb => by
      rcases hO b hb with h1 | h1
      · exact hX.2.2 b h1
      · exact Nat.le_trans hX.2.1.size h1⟩
  have hfr : FR X none A (entry fn args).sav #[] (entry fn args).env (locOf (entry fn args)) (yR none) [] { tmps := us ++ Array.replicate (fn.ntmps - us.size) undef, defers := [] } w :=
    FR.entry ⟨fun _ h => h, Bel.refl _ _, fun _ h => h.elim⟩ hS hA (hv.mono (Keeps.refl _ _) (noR_le _))
  have hwp := h.2 none [] (fun _ => X) (by rw [hout]; simp) ⟨fun _ => hS, fun i x b hi => by simp at hi⟩ none m (fun l hl => by cases hl) A (yR none) [] #[] _ w hfr
  refine wpIn_mono hwp ?_
  rintro e' a' w' ⟨rfl, A0', r', ds', hfr'⟩
  have hleave : LeavesInM (WF none) m P fn a'.tmps (fun en w' => ∃ e c rows, en = .returned (.slice (slBase e) n c) ∧ (∀ b, e = b + 1 → w.heap.size ≤ b) ∧ (e = 0 → n = 0 ∧ c = 0) ∧ (n ≤ c ∧ n ≤ maxL) ∧ 0 < wd ∧
      w'.ownsRow 0 t wd (.slice (slBase e) n c) n rows ∧ RowsR w' A g n wd rows ∧ Bel w.heap.size w w') a'.defers .returning w' := by
    refine leaves_marks ds' a' w' hfr' (fun a2 w2 ht h2 => ?_)
    unfold freshAV at hr
    have hres : ∀ x, resL P st' fn.results.toList = some [x] → ∃ u, (results fn a2.tmps).run P w2 = .ok u w2 ∧ VR w2 (AR A0' r' []) r' x u := fun x hl => by
      obtain ⟨us, hus, hrs⟩ := resL_rel h2 hl
      have h1 : us.length = 1 := by have := hrs.1; simpa using this.symm
      obtain ⟨u, rfl⟩ : ∃ u, us = [u] := by
        match us, h1 with
        | [u], _ => exact ⟨u, rfl⟩
      refine ⟨u, ?_, hrs.2 0 x u rfl rfl⟩
      simp only [results_eq, Sem.run_bind, hus, Result.andThen_ok, Sem.run_pure]
      rfl
    split at hr
    · rename_i j v n0 hl
      split at hr
      · rename_i t' wd' v' n' g' hloc
        split at hr
        · rename_i hbq
          simp only [Bool.and_eq_true] at hbq
          have e1 := Nat.eq_of_beq_eq_true hbq.1; have e2 := Nat.eq_of_beq_eq_true hbq.2; subst e1; subst e2
          injection hr with hr; injection hr with q1 q2 q3 _ _ _; subst q1; subst q2; subst q3
          obtain ⟨u, hu, hru⟩ := hres _ hl
          rw [ht] at hu
          obtain ⟨e0, c0, xs, m1, m2, m3, m4, m5, m6, m7, m8⟩ := h2.mem _ _ hloc
          cases hru with
          | osl b1 b2 b3 b4 b5 =>
            rw [m1] at b1; injection b1 with b1; subst b1
            rw [m2] at b2; injection b2 with b2; subst b2
            rw [m3] at b3; injection b3 with b3; subst b3
            exact ⟨_, hu, e0, c0, xs, rfl, fun b hb => h2.inv.2.2 b (.inl (.inr ⟨_, _, by rw [m1, hb]⟩)), m4, m5, m6, m7, rows_any hfull m8, h2.inv.2.1⟩
        · simp at hr
      · simp at hr
    · rename_i hl
      split at hr
      · rename_i zs hz
        split at hr
        · rename_i hpos
          rw [Nat.blt_eq] at hpos
          injection hr with hr; injection hr with q1 q2 q3 _ _ _; subst q1; subst q2; subst q3
          obtain ⟨u, hu, hru⟩ := hres _ hl
          rw [ht] at hu
          cases hru
          exact ⟨_, hu, 0, 0, [], rfl, fun b hb => by omega, fun _ => ⟨rfl, rfl⟩, ⟨Nat.le_refl _, Nat.zero_le _⟩, hpos, ⟨by simp, .inl ⟨rfl, rfl⟩⟩, fun i k hi => by omega, h2.inv.2.1⟩
        · simp at hr
      · simp at hr
    · simp at hr
  rcases he with rfl | rfl
  · exact hleave
  · exact hleave
def IC (P : Program) (g : FuncId) (us vs : List AV) (evs : List (List AV × Bool)) : Prop :=
  ∀ (ro : Option Nat) (n l : Nat) (Y : Nat → Fx) (A0 : Nat → Prop) (w : World) (args : Array Value), YH P (some l) evs Y → (∀ b, A0 b → b < w.heap.size) → Y 0 A0 (fun _ => False) w →
    VRs w A0 (yR (some l)) (us ++ [.yv] ++ vs) args →
    CallsIn (WF ro) n P g args w fun e w' => (∃ v, e = .returned v) ∧ ∃ A0', Y evs.length A0' (fun _ => False) w' ∧ ∀ b, A0' b → b < w'.heap.size
theorem IC.of_ld {us vs : List AV} {st' : St} {e : Exit} {evs : List (List AV × Bool)} {x : AV} (hf : P.funcs[f]? = some fn) (hb : fn.body = some c)
    (bs : Nat → Bool) (h : Ld P c { entry fn (us ++ [.yv] ++ vs) with bs := bs } e st') (he : e = .normal ∨ e = .ret) (hout : st'.out.reverse = evs) (hr : resAV P st' fn = some x) : IC P f us vs evs := by
  intro ro n l Y A0 w args hY hA0 hw hv
  apply callsIn_round
  refine callsIn_of_wp_marks hf hb trivial ?_
  have hfr := FR.entry (fn := fn) hw (hY.1 0) hA0 hv
  have hwp := h.2 (some l) evs Y (by rw [hout]; exact List.prefix_refl _) hY none n (fun l hl => by cases hl) A0 (yR (some l)) [] #[] _ w hfr
  refine wpIn_mono hwp ?_
  rintro e' a' w' ⟨rfl, A0', r', ds', hfr'⟩
  have hlen : st'.out.length = evs.length := by rw [← hout]; simp
  have hleave : LeavesInM (WF none) n P fn a'.tmps (fun e w' => (∃ v, e = .returned v) ∧ ∃ A0', Y evs.length A0' (fun _ => False) w' ∧ ∀ b, A0' b → b < w'.heap.size) a'.defers .returning w' := by
    refine leaves_marks ds' a' w' hfr' (fun a2 w2 ht h2 => ?_)
    obtain ⟨u, hu, _⟩ := resAV_rel (A := fun _ => False) h2 (fun _ h => h.elim) hr
    rw [ht] at hu
    refine ⟨u, hu, ⟨u, rfl⟩, A0', ?_, h2.a0⟩
    rw [← hlen]
    exact h2.clo _ _ _ _ _ h2.inv ⟨rfl, rfl, rfl, Nat.le_refl _, fun _ _ _ => rfl, Nat.le_refl _⟩ (fun _ h => h.elim)
  rcases he with rfl | rfl
  · exact hleave
  · exact hleave
end
end Go.Proofs.YtjbhooodjmjdkaaGreat.Ev
/-! EvLI -/
namespace Go.Proofs.YtjbhooodjmjdkaaGreat.Ev
open Go.RowKit
theorem VRs.split {w : World} {A : Nat → Prop} {r : Rr} {xs ys : List AV} {us vs : Array Value} (h : VRs w A r (xs ++ ys) (us ++ vs)) (hl : xs.length = us.size) : VRs w A r xs us ∧ VRs w A r ys vs := by
  refine ⟨⟨hl, fun i x u hx hu => ?_⟩, by have := h.1; simp at this; omega, fun i x u hx hu => ?_⟩
  · have h1 := (List.getElem?_eq_some_iff.1 hx).1
    exact h.2 i x u (by rw [List.getElem?_append_left h1]; exact hx) (by rw [Array.getElem?_append_left (by omega)]; exact hu)
  · exact h.2 (xs.length + i) x u (by rw [List.getElem?_append_right (by omega)]; simpa using hx) (by rw [Array.getElem?_append_right (by omega)]; simpa [hl] using hu)
def resIn (P : Program) (st : St) (fn : Func) : Option AV := match resL P st fn.results.toList with
  | some [v] => some v
  | some vs => some (.tup vs)
  | none => none
section
variable {P : Program} {X : Fx} {A0 : Nat → Prop} {st : St} {sv : Array Value} {yl : Option Nat} {r : Rr} {ds : List Nat} {a : Act} {w : World}
theorem resIn_rel (h : FR X yl A0 st.sav sv st.env (locOf st) r ds a w) {fn : Func} {v : AV} (hv : resIn P st fn = some v) : ∃ u, (results fn a.tmps).run P w = .ok u w ∧ VR w (AR A0 r ds) r v u := by
  unfold resIn at hv
  split at hv
  · rename_i x hl
    injection hv with hv; subst hv
    obtain ⟨us, hus, hrs⟩ := resL_rel h hl
    have h1 : us.length = 1 := by have := hrs.1; simpa using this.symm
    obtain ⟨u, rfl⟩ : ∃ u, us = [u] := by
      match us, h1 with
      | [u], _ => exact ⟨u, rfl⟩
    refine ⟨u, ?_, hrs.2 0 x u rfl rfl⟩
    simp only [results_eq, Sem.run_bind, hus, Result.andThen_ok, Sem.run_pure]
    rfl
  · rename_i vs hne hl
    injection hv with hv; subst hv
    obtain ⟨us, hus, hrs⟩ := resL_rel h hl
    have h1 : us.length ≠ 1 := fun e => by
      have hlen : vs.length = 1 := by have := hrs.1; simp at this; omega
      match vs, hlen with
      | [x], _ => exact hne x rfl
    refine ⟨.tuple us.toArray, ?_, .tup hrs.1 hrs.2⟩
    simp only [results_eq, Sem.run_bind, hus, Result.andThen_ok, Sem.run_pure]
    simp [h1]
  · cases hv
end
def InX (Y : Fx) (ds : List Nat) : Fx := fun A2 O w => ∃ A1 : Nat → Prop, (∀ b, A2 b ↔ A1 b ∨ b ∈ ds) ∧ Y A1 (fun b => O b ∨ b ∈ ds) w ∧ ∀ q, q ∈ ds → ¬ A1 q ∧ ¬ O q ∧ w.heap[q]? = some (.deferred (some []))
theorem InX.stands {Y : Fx} (hY : Stands Y) (ds : List Nat) : Stands (InX Y ds) := by
  rintro A2 O O' w w' ⟨A1, hA, hy, hq⟩ ht hO
  refine ⟨A1, hA, ?_, fun q hq' => ⟨(hq q hq').1, fun h => ?_, ?_⟩⟩
  · refine hY _ _ _ _ _ hy ⟨ht.os, ht.tape, ht.output, ht.size, fun b hb hn => ht.block b hb (fun h => hn (.inl h)), ht.drawn⟩ (fun b hb => ?_)
    rcases hb with h | h
    · exact (hO b h).imp .inl id
    · exact .inl (.inr h)
  · rcases hO q h with h | h
    · exact (hq q hq').2.1 h
    · have := (Array.getElem?_eq_some_iff.1 (hq q hq').2.2).1; omega
  · rw [ht.block q (Array.getElem?_eq_some_iff.1 (hq q hq').2.2).1 (hq q hq').2.1]; exact (hq q hq').2.2
def inSt (fn : Func) (args : List AV) (st : St) : St := { env := (entry fn args).env, loc := st.loc, sav := st.env ++ st.sav, bs := st.bs, out := [] }
def IL (P : Program) (g : FuncId) (args : List AV) (st : St) (v : AV) (st3 : St) : Prop :=
  ∃ (fn : Func) (cc : Code) (e1 : Exit) (st2 : St), P.funcs[g]? = some fn ∧ nameOk fn = true ∧ fn.body = some cc ∧ Ld P cc (inSt fn args st) e1 st2 ∧ (e1 = .normal ∨ e1 = .ret) ∧ st2.out = [] ∧ resIn P st2 fn = some v ∧
    st2.sav = st3.env ++ st3.sav ∧ st3.env.length = st.env.length ∧ st3.loc = st2.loc ∧ st3.bs = st.bs ∧ st3.out = st.out
theorem inl_calls {P : Program} {g : FuncId} {args : List AV} {st st3 : St} {v : AV} (h : IL P g args st v st3) {yl : Option Nat} {Y : Fx} (hY : Stands Y) {A0 : Nat → Prop} {r : Rr} {ds : List Nat} {sv : Array Value} {a : Act} {w : World} {us : Array Value} {ro : Option Nat} {n : Nat}
    (hfr : FR Y yl A0 st.sav sv st.env (locOf st) r ds a w) (hus : VRs w (AR A0 r ds) r args us) :
    CallsIn (WF ro) n P g us w fun e w' => ∃ u A1 r', e = .returned u ∧ FR Y yl A1 st3.sav sv st3.env (locOf st3) r' ds a w' ∧ VR w' (AR A1 r' ds) r' v u := by
  obtain ⟨fn, cc, e1, st2, hfn, hok, hb, hl, he, hout, hr, hsav, hlen, hloc, _, _⟩ := h
  apply callsIn_round
  refine callsIn_of_wp_marks hfn hb trivial ?_
  have hAR : ∀ b, AR (fun b => A0 b ∨ b ∈ ds) r [] b ↔ AR A0 r ds b := fun b => by
    constructor
    · rintro ((h | h) | h | h)
      · exact .inl h
      · exact .inr (.inr h)
      · exact .inr (.inl h)
      · simp at h
    · rintro (h | h | h)
      · exact .inl (.inl h)
      · exact .inr (.inl h)
      · exact .inl (.inr h)
  have hk : Keeps (AR A0 r ds) (AR (fun b => A0 b ∨ b ∈ ds) r []) w w := ⟨Nat.le_refl _, fun _ _ _ => rfl, fun b h => .inl ((hAR b).1 h)⟩
  have hfr1 : FR (InX Y ds) yl (fun b => A0 b ∨ b ∈ ds) (inSt fn args st).sav (a.tmps ++ sv) (inSt fn args st).env (locOf (inSt fn args st)) r [] { tmps := us ++ Array.replicate (fn.ntmps - us.size) undef, defers := [] } w := by
    refine ⟨?_, (hfr.env.mono hk (fun _ _ h => h)).append (hfr.sav.mono hk (fun _ _ h => h)), fun j k hj => (hfr.mem j k hj).keep hk (fun _ _ h => h) (fun _ _ => rfl), hfr.dom, hfr.domL, hfr.inj, hfr.injL, hfr.sep, fun b hb => ?_, hfr.lt, fun b _ => by simp, fun b hb => ?_,
      ⟨A0, fun _ => Iff.rfl, ?_, fun q hq => ⟨(hfr.dok q hq).2, fun h => ?_, (hfr.dok q hq).1⟩⟩, InX.stands hY ds, rfl, List.nodup_nil, fun q hq => by simp at hq, hfr.ylv⟩
    · have := (hus.mono hk (fun _ _ h => h)).append (VRs.tops (fn.ntmps - us.size) undef)
      simpa [inSt, Ev.entry, hus.1] using this
    · rintro (h | h)
      · exact hfr.dis b hb h
      · exact hfr.sepD b hb h
    · rcases hb with h | h
      · exact hfr.a0 b h
      · exact hfr.arLt b (.inr (.inr h))
    · exact hfr.clo _ _ _ _ _ hfr.inv ⟨rfl, rfl, rfl, Nat.le_refl _, fun _ _ _ => rfl, Nat.le_refl _⟩ (fun b hb => by
        rcases hb with (h | h) | h
        · exact .inl (.inl h)
        · simp at h
        · exact .inl (.inr h))
    · rcases h with h | h
      · exact hfr.sepD q h hq
      · simp at h
  have hwp := hl.2 yl [] (fun _ => InX Y ds) (by rw [hout]; simp) ⟨fun _ => InX.stands hY ds, fun i x b hi => by simp at hi⟩ none n (fun l hl => by cases hl) _ r [] _ _ w hfr1
  refine wpIn_mono hwp ?_
  rintro e' a' w' ⟨rfl, A0', r', ds', hfr'⟩
  have hleave : LeavesInM (WF none) n P fn a'.tmps (fun e w' => ∃ u A1 r', e = .returned u ∧ FR Y yl A1 st3.sav sv st3.env (locOf st3) r' ds a w' ∧ VR w' (AR A1 r' ds) r' v u) a'.defers .returning w' := by
    refine leaves_marks ds' a' w' hfr' (fun a2 w2 ht h2 => ?_)
    obtain ⟨u, hu, hru⟩ := resIn_rel h2 hr
    rw [ht] at hu
    obtain ⟨A1, hA, hy, hq⟩ := h2.inv
    have hAR2 : ∀ b, AR A1 r' ds b ↔ AR A0' r' [] b := fun b => by
      constructor
      · rintro (h | h | h)
        · exact .inl ((hA b).2 (.inl h))
        · exact .inr (.inl h)
        · exact .inl ((hA b).2 (.inr h))
      · rintro (h | h | h)
        · rcases (hA b).1 h with h | h
          · exact .inl h
          · exact .inr (.inr h)
        · exact .inr (.inl h)
        · simp at h
    have hk2 : Keeps (AR A0' r' []) (AR A1 r' ds) w2 w2 := ⟨Nat.le_refl _, fun _ _ _ => rfl, fun b h => .inl ((hAR2 b).1 h)⟩
    have hs := h2.sav.mono hk2 (fun _ _ h => h)
    rw [hsav] at hs
    obtain ⟨hs1, hs2⟩ := hs.split (by rw [hlen]; exact hfr.env.1)
    have hloc' : locOf st3 = locOf st2 := by funext k; simp only [locOf, hloc]
    refine ⟨u, hu, u, A1, r', rfl, ?_, hru.mono hk2 (fun _ _ h => h)⟩
    rw [hloc']
    refine ⟨hs1, hs2, fun j k hj => (h2.mem j k hj).keep hk2 (fun _ _ h => h) (fun _ _ => rfl), h2.dom, h2.domL, h2.inj, h2.injL, h2.sep, fun b hb h => h2.dis b hb ((hA b).2 (.inl h)), h2.lt, fun b hb h => h2.dis b hb ((hA b).2 (.inr h)), fun b h => h2.a0 b ((hA b).2 (.inl h)), ?_, hY, hfr.dfr, hfr.dnd, fun q hq' => ⟨(hq q hq').2.2, (hq q hq').1⟩, h2.ylv⟩
    exact hY _ _ _ _ _ hy ⟨rfl, rfl, rfl, Nat.le_refl _, fun _ _ _ => rfl, Nat.le_refl _⟩ (fun b hb => by
      rcases hb with h | h
      · exact .inl (.inl (.inl h))
      · exact .inl (.inr h))
  rcases he with rfl | rfl
  · exact hleave
  · exact hleave
theorem LdO.inl {P : Program} {ops : Array Oper} {rest : List Oper} {o : Oper} {i : Nat} {st st' st3 : St} (h0 : ops[i]? = some o) {c : Call} {f : Operand} {g : FuncId} {xs ys vs : List AV} {v : AV} (hw : wantD ops st.env o = some true) (ho : o.op = .call c) (hc : c.callee = .value f)
    (hf : evO st.env f = some (.fn (.func g) xs ys)) (hvs : mapEv (evO st.env) c.args.toList = some vs) (hil : IL P g (xs ++ vs ++ ys) st v st3) (h : LdO P ops rest (i + 1) { st3 with env := putD st3.env o.dst v } st') : LdO P ops (o :: rest) i st st' := by
  have hout : st3.out = st.out := by obtain ⟨_, _, _, _, _, _, _, _, _, _, _, _, _, _, _, h⟩ := hil; exact h
  refine ⟨?_, fun yl evs Y hev hY ro n hrc A0 r ds sv a w hfr => ?_⟩
  · obtain ⟨l, hl⟩ := h.1
    exact ⟨l, by rw [hl]; show l ++ st3.out = _; rw [hout]⟩
  simp only [List.length_cons, List.range'_succ, wpOpsIn, h0]
  rw [if_pos (wantD_true hfr hw)]
  have hargs := mapEv_rel hfr.cx.val _ _ hvs
  have e1 : (c.args.toList.map a.eval).toArray = c.args.map a.eval := Array.ext' (by simp)
  rw [e1] at hargs
  have hfv := hfr.eval f _ hf
  generalize hz : a.eval f = z at hfv
  cases hfv with
  | fn hx hy hr1 hr2 =>
    rename_i us0 vs0
    refine ⟨fun _ _ => trivial, ?_⟩
    rw [Oper.semAt_eq _ _ _ (fun d hd => by rw [ho] at hd; cases hd)]
    obtain ⟨fn, cc, _, _, hfn, hok, _⟩ := id hil
    simp only [nameOk, Bool.and_eq_true, Bool.not_eq_true'] at hok
    obtain ⟨hb, hn⟩ := hok
    have hbn : fn.body.isNone = false := by
      cases hbb : fn.body with
      | none => simp [hbb] at hb
      | some b => rfl
    have hrun : (execOp a.eval o).run P w = .ok (.enter g (us0 ++ c.args.map a.eval ++ vs0)) w := by
      simp only [execOp, ho, resolve, hc, hz, Deferred.ofValue, Sem.run_bind, Sem.run_pure, Result.andThen_ok, invoke, callFunc, run_program, hfn, hn, Bool.false_eq_true, if_false, hbn]
    rw [hrun, Oper.uponIn_enter]
    refine ⟨fun h => by simp [wf_depth] at h, ?_⟩
    refine (inl_calls hil (hY.1 _) hfr (VRs.append (VRs.append ⟨hx, hr1⟩ hargs) ⟨hy, hr2⟩)).mono ?_
    rintro e' w' ⟨u, A1, r', rfl, hfr', hu⟩
    refine h.2 yl evs Y hev hY ro n hrc A1 r' ds sv _ w' ?_
    show FR (Y st3.out.length) yl A1 st3.sav sv (putD st3.env o.dst v) (locOf st3) r' ds _ w'
    rw [hout]
    exact hfr'.val (Bel.refl _ _) hu o.dst
end Go.Proofs.YtjbhooodjmjdkaaGreat.Ev
/-! EvM -/
namespace Go.Proofs.YtjbhooodjmjdkaaGreat.Ev
open Go.RowKit
def bindPs (env : List AV) : List Tmp → List AV → List AV
  | t :: ts, x :: xs => bindPs (env.set t x) ts xs
  | _, _ => env
def bindVs (us : Array Value) : List Tmp → List Value → Array Value
  | t :: ts, x :: xs => bindVs (us.setIfInBounds t x) ts xs
  | _, _ => us
theorem bind_rel {w : World} {A : Nat → Prop} {r : Rr} : ∀ {ts : List Tmp} {xs : List AV} {vs : List Value} {env : List AV} {us : Array Value}, VRs w A r env us → VRs w A r xs vs.toArray → VRs w A r (bindPs env ts xs) (bindVs us ts vs)
  | [], xs, vs, env, us, h, k => by cases xs <;> cases vs <;> exact h
  | t :: ts, [], vs, env, us, h, k => by
    have : vs = [] := List.eq_nil_of_length_eq_zero (by have := k.1; simpa using this.symm)
    subst this; exact h
  | t :: ts, x :: xs, [], env, us, h, k => by have := k.1; simp at this
  | t :: ts, x :: xs, v :: vs, env, us, h, k => by
    refine bind_rel (ts := ts) (h.put (k.2 0 x v rfl rfl) t) ⟨by have := k.1; simpa using this, fun i y u hy hu => ?_⟩
    exact k.2 (i + 1) y u (by simpa using hy) (by simpa using hu)
theorem bindVs_fold : ∀ (ts : List Tmp) (vs : List Value) (us : Array Value), (ts.zip vs).foldl (fun tmps (t, a) => tmps.setIfInBounds t a) us = bindVs us ts vs
  | [], vs, us => by cases vs <;> rfl
  | t :: ts, [], us => rfl
  | t :: ts, v :: vs, us => by simp only [List.zip_cons_cons, List.foldl_cons, bindVs]; exact bindVs_fold ts vs _
def jumpOf : Exit → Option Code
  | .ret => some .ret
  | .exit id => some (.exit id)
  | _ => none
def roundEnd : Exit → Bool
  | .normal => true
  | .ret => true
  | .exit _ => true
  | _ => false
structure Round (P : Program) (ps : Array Tmp) (assign body : Code) (S S' : St) (x : List AV) (e : Exit) : Prop where
  size : x.length = ps.size
  walk : ∃ U T : St, Ld P assign { S with env := bindPs S.env ps.toList x, sav := S.env ++ S.sav } .normal U ∧ Ld P body U e T ∧ T.sav = S'.env ++ S'.sav ∧ S'.env.length = S.env.length ∧ T.loc = S'.loc ∧ T.out = S'.out
  ends : roundEnd e = true
theorem Round.ext {P : Program} {ps : Array Tmp} {assign body : Code} {S S' : St} {x : List AV} {e : Exit} (h : Round P ps assign body S S' x e) : Ext S S' := by
  obtain ⟨U, T, h1, h2, _, _, _, h3⟩ := h.walk
  have := h1.1.trans h2.1
  obtain ⟨l, hl⟩ := this
  exact ⟨l, by rw [← h3, hl]⟩
abbrev Tr : Fx := fun _ _ _ => True
theorem enter_run {P : Program} (ro : Option Nat) (w : World) (fn : FuncId) (tmps : Array Value) (ps : Array Tmp) (assign body : Code) (hro : ∀ l, ro = some l → ∃ x, w.heap[l]? = some (.loop x)) :
    ∃ (l : Nat) (mk : List Nat) (dq : Nat) (w1 : World), (Instr.enterLoop fn tmps ps assign body ro).run P w = .ok (l, mk.map fun q => { target := .collected q, args := #[] }) w1 ∧ Bel w.heap.size w w1 ∧
      w1.heap[l]? = some (.loop { state := .ready, pending := none, fn, tmps, params := ps, assign, body, defers := dq }) ∧ w.heap.size ≤ l ∧ mk.Nodup ∧ ∀ q, q ∈ mk → w.heap.size ≤ q ∧ w1.heap[q]? = some (.deferred (some [])) := by
  cases ro with
  | none =>
    refine ⟨w.heap.size + 1, [w.heap.size], w.heap.size, _, run_enterLoop_outer fn tmps ps assign body, ?_, ?_, by omega, by simp, fun q hq => ?_⟩
    · exact ((Bel.refl _ w).alloc (Nat.le_refl _) _).alloc (by simp) _
    · have := World.alloc_heap_new (w.alloc (.deferred (some []))) (.loop { state := .ready, pending := none, fn, tmps, params := ps, assign, body, defers := w.heap.size })
      simpa using this
    · simp at hq; subst hq
      refine ⟨Nat.le_refl _, ?_⟩
      rw [Below.heap_alloc _ _ _ (by simp)]
      exact World.alloc_heap_new _ _
  | some l0 =>
    obtain ⟨x, hx⟩ := hro l0 rfl
    exact ⟨w.heap.size, [], x.defers, _, run_enterLoop_inner hx fn tmps ps assign body, (Bel.refl _ w).alloc (Nat.le_refl _) _, World.alloc_heap_new _ _, Nat.le_refl _, List.nodup_nil, fun q hq => by simp at hq⟩
def Mid (Y : Nat → Fx) (yl : Option Nat) (S : Nat → St) (l : Nat) (ds : List Nat) (a : Act) (sv : Array Value) (rec : Nat → Loop) : Nat → Fx := fun i A' O w =>
  ∃ (A1 : Nat → Prop) (r : Rr), (∀ b, A' b ↔ A1 b ∨ own r ds b ∨ b = l) ∧ (∀ b, O b → ¬ A' b) ∧ ¬ A1 l ∧
    FR Tr yl (fun b => A1 b ∨ (O b ∧ b < w.heap.size) ∨ b = l) (S i).sav sv (S i).env (locOf (S i)) r ds a w ∧
    Y (S i).out.length A1 (fun b => own r ds b ∨ O b ∨ b = l) w ∧ w.heap[l]? = some (.loop (rec i))
theorem Mid.stands {Y : Nat → Fx} {yl : Option Nat} (hY : ∀ i, Stands (Y i)) {S : Nat → St} {l : Nat} {ds : List Nat} {a : Act} {sv : Array Value} {rec : Nat → Loop} (i : Nat) : Stands (Mid Y yl S l ds a sv rec i) := by
  rintro A' O O' w w' ⟨A1, r, hA, hdis, hl, hfr, hy, hrec⟩ ht hO
  have hlt : l < w.heap.size := (Array.getElem?_eq_some_iff.1 hrec).1
  have hAlt : ∀ b, A' b → b < w.heap.size := fun b hb => by
    rcases (hA b).1 hb with h | h | h
    · exact hfr.a0 b (.inl h)
    · exact hfr.arLt b (.inr h)
    · rw [h]; exact hlt
  refine ⟨A1, r, hA, fun b hb hb' => ?_, hl, ?_, ?_, ?_⟩
  · rcases hO b hb with h | h
    · exact hdis b h hb'
    · have := hAlt b hb'; omega
  · refine hfr.other (X' := Tr) trivial (fun _ _ _ _ _ _ _ _ => trivial) ⟨ht.size, fun b hb hn => ht.block b hb (fun ho => hn (.inr (.inl ⟨ho, hb⟩))), fun b hb => ?_⟩ (fun b hb => ?_)
    · rcases hb with h | ⟨h, _⟩ | h
      · exact .inl (.inl h)
      · rcases hO b h with h1 | h1
        · by_cases hlt : b < w.heap.size
          · exact .inl (.inr (.inl ⟨h1, hlt⟩))
          · exact .inr (by omega)
        · exact .inr h1
      · exact .inl (.inr (.inr h))
    · rcases hb with h | ⟨_, h⟩ | h
      · exact Nat.lt_of_lt_of_le (hfr.a0 b (.inl h)) ht.size
      · exact h
      · rw [h]; exact Nat.lt_of_lt_of_le hlt ht.size
  · refine hY _ _ _ _ _ _ hy ⟨ht.os, ht.tape, ht.output, ht.size, fun b hb hn => ht.block b hb (fun ho => hn (.inr (.inl ho))), ht.drawn⟩ (fun b hb => ?_)
    rcases hb with h | h | h
    · exact .inl (.inl h)
    · exact (hO b h).imp (fun h => .inr (.inl h)) id
    · exact .inl (.inr (.inr h))
  · rw [ht.block l hlt (fun ho => hdis l ho ((hA l).2 (.inr (.inr rfl))))]; exact hrec
def Rnd (Y : Nat → Fx) (l : Nat) (ds : List Nat) (A' O : Nat → Prop) (w : World) (rc : Loop) : Nat → Fx := fun k A2 O2 w2 =>
  ∃ A1 : Nat → Prop, (∀ b, A2 b ↔ A1 b ∨ O b ∨ b = l ∨ b ∈ ds) ∧ Y k A1 (fun b => O2 b ∨ O b ∨ b = l ∨ b ∈ ds) w2 ∧ Keeps A' (fun b => A1 b ∨ O2 b ∨ b = l ∨ b ∈ ds) w w2 ∧
    (∀ b, (O b ∨ b = l ∨ b ∈ ds) → ¬ A1 b ∧ ¬ O2 b ∧ b < w.heap.size) ∧ (∀ q, q ∈ ds → w2.heap[q]? = some (.deferred (some []))) ∧ w2.heap[l]? = some (.loop rc)
theorem Rnd.stands {Y : Nat → Fx} (hY : ∀ i, Stands (Y i)) {l : Nat} {ds : List Nat} {A' O : Nat → Prop} {w : World} {rc : Loop} (k : Nat) : Stands (Rnd Y l ds A' O w rc k) := by
  rintro A2 O2 O3 w2 w3 ⟨A1, hA, hy, hk, hd, hq, hrec⟩ ht hO
  refine ⟨A1, hA, ?_, ?_, fun b hb => ⟨(hd b hb).1, fun h3 => ?_, (hd b hb).2.2⟩, fun q hq' => ?_, ?_⟩
  · refine hY _ _ _ _ _ _ hy ⟨ht.os, ht.tape, ht.output, ht.size, fun b hb hn => ht.block b hb (fun ho => hn (.inl ho)), ht.drawn⟩ (fun b hb => ?_)
    rcases hb with h | h
    · exact (hO b h).imp .inl id
    · exact .inl (.inr h)
  · refine ⟨Nat.le_trans hk.size ht.size, fun b hb hn => ?_, fun b hb => ?_⟩
    · rw [ht.block b (Nat.lt_of_lt_of_le hb hk.size) (fun ho => ?_)]
      · exact hk.block b hb hn
      · rcases hk.more b (.inr (.inl ho)) with h | h
        · exact hn h
        · omega
    · rcases hb with h | h | h
      · exact hk.more b (.inl h)
      · rcases hO b h with h | h
        · exact hk.more b (.inr (.inl h))
        · exact .inr (Nat.le_trans hk.size h)
      · exact hk.more b (.inr (.inr h))
  · rcases hO b h3 with h | h
    · exact (hd b hb).2.1 h
    · have := (hd b hb).2.2
      have := hk.size
      omega
  · rw [ht.block q (Array.getElem?_eq_some_iff.1 (hq q hq')).1 (hd q (.inr (.inr hq'))).2.1]; exact hq q hq'
  · rw [ht.block l (Array.getElem?_eq_some_iff.1 hrec).1 (hd l (.inr (.inl rfl))).2.1]; exact hrec
theorem Rnd.yields {P : Program} {yl : Option Nat} {evs : List (List AV × Bool)} {Y : Nat → Fx} (hY : YH P yl evs Y) {l : Nat} {ds : List Nat} {A' O : Nat → Prop} {w : World} {rc : Loop} : YH P yl evs (Rnd Y l ds A' O w rc) := by
  refine ⟨Rnd.stands hY.1, fun i x b hi ro n A2 O2 w2 us R ha ho hmid hv hR => ?_⟩
  obtain ⟨A1, hA, hy, hk, hd, hq, hrec⟩ := hmid
  have hsz := hk.size
  have more1 : ∀ b, A1 b → A2 b := fun b h => (hA b).2 (.inl h)
  have hsub : ∀ b, (A1 b ∨ (O2 b ∨ O b ∨ b = l ∨ b ∈ ds)) → A2 b ∨ O2 b := fun b hb => by
    rcases hb with h | h | h
    · exact .inl (more1 b h)
    · exact .inr h
    · exact .inl ((hA b).2 (.inr h))
  refine hY.2 i x b hi ro n A1 (fun b => O2 b ∨ O b ∨ b = l ∨ b ∈ ds) w2 us R (fun b hb => ha b (more1 b hb)) (fun b hb => ?_) hy (hv.mono ⟨Nat.le_refl _, fun _ _ _ => rfl, fun b hb => .inl (hsub b hb)⟩ (fun _ _ h => h)) ?_
  · rcases hb with h | h
    · exact ⟨(ho b h).1, fun h1 => (ho b h).2 (more1 b h1)⟩
    · exact ⟨Nat.lt_of_lt_of_le (hd b h).2.2 hsz, (hd b h).1⟩
  · intro A3 w3 hy3 hk3 ha3
    have hno : ∀ b, b < w2.heap.size → ¬ A1 b → ¬ A3 b := fun b hb h1 h3 => by
      rcases hk3.more b h3 with h | h
      · exact h1 h
      · omega
    refine hR (fun b => A3 b ∨ O b ∨ b = l ∨ b ∈ ds) w3 ⟨A3, fun b => Iff.rfl, hy3, ?_, fun b hb => ⟨hno b (Nat.lt_of_lt_of_le (hd b hb).2.2 hsz) (hd b hb).1, (hd b hb).2⟩, fun q hq' => ?_, ?_⟩ ?_ (fun b hb => ?_)
    · refine ⟨Nat.le_trans hsz hk3.size, fun b hb hn => ?_, fun b hb => ?_⟩
      · rw [hk3.block b (Nat.lt_of_lt_of_le hb hsz) (fun h1 => ?_)]
        · exact hk.block b hb hn
        · rcases hk.more b (.inl h1) with h | h
          · exact hn h
          · omega
      · rcases hb with h | h
        · rcases hk3.more b h with h | h
          · exact hk.more b (.inl h)
          · exact .inr (Nat.le_trans hsz h)
        · exact hk.more b (.inr h)
    · rw [hk3.block q (Array.getElem?_eq_some_iff.1 (hq q hq')).1 (hd q (.inr (.inr hq'))).1]; exact hq q hq'
    · rw [hk3.block l (Array.getElem?_eq_some_iff.1 hrec).1 (hd l (.inr (.inl rfl))).1]; exact hrec
    · refine ⟨hk3.size, fun b hb hn => hk3.block b hb (fun h1 => hn (more1 b h1)), fun b hb => ?_⟩
      rcases hb with h | h
      · exact (hk3.more b h).imp (more1 b) id
      · exact .inl ((hA b).2 (.inr h))
    · rcases hb with h | h
      · exact ha3 b h
      · exact Nat.lt_of_lt_of_le (hd b h).2.2 (Nat.le_trans hsz hk3.size)
end Go.Proofs.YtjbhooodjmjdkaaGreat.Ev
/-! EvN -/
namespace Go.Proofs.YtjbhooodjmjdkaaGreat.Ev
open Go.RowKit
section
variable {P : Program} {yl : Option Nat} {evs0 : List (List AV × Bool)} {Y : Nat → Fx} {S : Nat → St} {l i : Nat} {ds : List Nat} {a : Act} {sv : Array Value} {rec : Nat → Loop} {x : List AV} {e : Exit}
theorem round_ok (hY : YH P yl evs0 Y) (hrd : Round P (rec i).params (rec i).assign (rec i).body (S i) (S (i + 1)) x e) (hev : (S (i + 1)).out.reverse <+: evs0)
    (htm : (rec i).tmps = a.tmps) (hst : (rec i).state = .ready) (hnext : rec (i + 1) = { rec i with state := if (jumpOf e).isNone then .ready else .done, pending := jumpOf e })
    {ro : Option Nat} {n : Nat} {A' O : Nat → Prop} {w : World} {us : Array Value} {R : Ending → World → Prop} (hA' : ∀ k, A' k → k < w.heap.size) (hO : ∀ k, O k → k < w.heap.size ∧ ¬ A' k)
    (hmid : Mid Y yl S l ds a sv rec i A' O w) (hv : VRs w (fun k => A' k ∨ O k) noR x us)
    (hR : ∀ A'' w', Mid Y yl S l ds a sv rec (i + 1) A'' O w' → Keeps A' A'' w w' → (∀ k, A'' k → k < w'.heap.size) → R (.returned (.bool (jumpOf e).isNone)) w') :
    ∃ l' f tmps assign body, some l = some l' ∧ (Instr.yield l' us).run P w = .ok (.round l' f tmps assign body) w ∧ RoundIn (WF ro) n P l' f tmps assign body w R := by
  obtain ⟨A1, r, hA, hdis, hl, hfr, hy, hrec⟩ := hmid
  obtain ⟨U, T, hasg, hbod, hsav, hlen, hloc, hout⟩ := hrd.walk
  have hus : us.size = (rec i).params.size := by rw [← hv.1, hrd.size]
  have hltl : l < w.heap.size := (Array.getElem?_eq_some_iff.1 hrec).1
  refine ⟨l, _, _, _, _, rfl, run_yield hrec hus, roundIn_of_wpIn trivial ?_⟩
  have hfold : ((rec i).params.zip us).foldl (fun tmps (t, a) => tmps.setIfInBounds t a) (rec i).tmps = bindVs a.tmps (rec i).params.toList us.toList := by
    rw [← bindVs_fold, ← Array.foldl_toList, htm]
    simp
  rw [hfold]
  have hqd : ∀ q, q ∈ ds → w.heap[q]? = some (.deferred (some [])) := fun q hq => (hfr.dok q hq).1
  have hql : ∀ q, q ∈ ds → q ≠ l := fun q hq e => by have := hqd q hq; rw [e, hrec] at this; cases this
  have hdsA : ∀ q, q ∈ ds → A' q := fun q hq => (hA q).2 (.inr (.inl (.inr hq)))
  let A2 : Nat → Prop := fun b => A1 b ∨ O b ∨ b = l ∨ b ∈ ds
  have hsame : ∀ b, AR A2 r [] b → AR (fun b => A1 b ∨ (O b ∧ b < w.heap.size) ∨ b = l) r ds b := fun b hb => by
    rcases hb with (h | h | h | h) | h | h
    · exact .inl (.inl h)
    · exact .inl (.inr (.inl ⟨h, (hO b h).1⟩))
    · exact .inl (.inr (.inr h))
    · exact .inr (.inr h)
    · exact .inr (.inl h)
    · simp at h
  have hkk : Keeps (AR (fun b => A1 b ∨ (O b ∧ b < w.heap.size) ∨ b = l) r ds) (AR A2 r []) w w := ⟨Nat.le_refl _, fun _ _ _ => rfl, fun b hb => .inl (hsame b hb)⟩
  have hkx : Keeps (fun k => A' k ∨ O k) (AR A2 r []) w w := ⟨Nat.le_refl _, fun _ _ _ => rfl, fun b hb => .inl (by
    rcases hsame b hb with (h | ⟨h, _⟩ | h) | h
    · exact .inl ((hA b).2 (.inl h))
    · exact .inr h
    · exact .inl ((hA b).2 (.inr (.inr h)))
    · exact .inl ((hA b).2 (.inr (.inl h))))⟩
  have hrnd : ∀ rc, w.heap[l]? = some (.loop rc) → Rnd Y l ds A' O w rc (S i).out.length A2 (own r []) w := fun rc hrc => by
    refine ⟨A1, fun b => Iff.rfl, hY.1 _ _ _ _ _ _ hy ⟨rfl, rfl, rfl, Nat.le_refl _, fun _ _ _ => rfl, Nat.le_refl _⟩ (fun b hb => .inl ?_), ⟨Nat.le_refl _, fun _ _ _ => rfl, fun b hb => .inl ((hA b).2 ?_)⟩, fun b hb => ?_, hqd, hrc⟩
    · rcases hb with (h | h) | h | h | h
      · exact .inl (.inl h)
      · simp at h
      · exact .inr (.inl h)
      · exact .inr (.inr h)
      · exact .inl (.inr h)
    · rcases hb with h | (h | h) | h | h
      · exact .inl h
      · exact .inr (.inl (.inl h))
      · simp at h
      · exact .inr (.inr h)
      · exact .inr (.inl (.inr h))
    · have hno : ¬ own r [] b := fun ho => by
        rcases ho with hj | h
        · rcases hb with h | h | h
          · exact hdis b h ((hA b).2 (.inr (.inl (.inl hj))))
          · exact hfr.dis b hj (.inr (.inr h))
          · exact hfr.markNot h hj rfl
        · simp at h
      rcases hb with h | h | h
      · exact ⟨fun h1 => hdis b h ((hA b).2 (.inl h1)), hno, (hO b h).1⟩
      · exact ⟨by rw [h]; exact hl, hno, by rw [h]; exact hltl⟩
      · exact ⟨fun h1 => (hfr.dok b h).2 (.inl h1), hno, hA' b (hdsA b h)⟩
  have hstart : FR (Rnd Y l ds A' O w (rec i) (S i).out.length) yl A2 ((S i).env ++ (S i).sav) (a.tmps ++ sv) (bindPs (S i).env (rec i).params.toList x) (locOf (S i)) r [] { tmps := bindVs a.tmps (rec i).params.toList us.toList, defers := [] } w := by
    refine ⟨bind_rel (hfr.env.mono hkk (fun _ _ h => h)) (hv.mono hkx (fun j b h => by simp [noR] at h)), (hfr.env.mono hkk (fun _ _ h => h)).append (hfr.sav.mono hkk (fun _ _ h => h)), fun j k hj => (hfr.mem j k hj).keep hkk (fun _ _ h => h) (fun _ _ => rfl), hfr.dom, hfr.domL, hfr.inj, hfr.injL, hfr.sep, fun b hj h => ?_, hfr.lt, fun b _ hq => by simp at hq, fun b hb => ?_, hrnd _ hrec, Rnd.stands hY.1 _, rfl, List.nodup_nil, fun q hq => by simp at hq, hfr.ylv⟩
    · have hown : own r ds b := .inl hj
      rcases h with h | h | h | h
      · exact hfr.dis b hj (.inl h)
      · exact hdis b h ((hA b).2 (.inr (.inl hown)))
      · exact hfr.dis b hj (.inr (.inr h))
      · exact hfr.markNot h hj rfl
    · exact hfr.arLt b (hsame b (.inl hb))
  have hrcd : ∀ rc, Rc (some l) (Rnd Y l ds A' O w rc) := fun rc l' hl' i A0 O w hh => by
    injection hl' with hl'; subst hl'
    exact ⟨rc, hh.choose_spec.2.2.2.2.2⟩
  have hextB := hbod.1
  have hevT : T.out.reverse <+: evs0 := by rw [hout]; exact hev
  refine wpIn_mono (hasg.2 yl evs0 (Rnd Y l ds A' O w (rec i)) (hextB.pre hevT) (Rnd.yields hY) (some l) n (hrcd _) A2 r [] (a.tmps ++ sv) _ w hstart) ?_
  rintro e' a1 w1 ⟨rfl, A3, r3, ds3, hfrU⟩
  have hrecU : w1.heap[l]? = some (.loop (rec i)) := hfrU.inv.choose_spec.2.2.2.2.2
  refine ⟨_, run_beginRound hrecU hst, ?_⟩
  have hlA3 : A3 l := (hfrU.inv.choose_spec.1 l).2 (.inr (.inr (.inl rfl)))
  have hfrU' : FR (Rnd Y l ds A' O w { rec i with state := .busy } U.out.length) yl A3 U.sav (a.tmps ++ sv) U.env (locOf U) r3 ds3 a1 (w1.putObj l (.loop { rec i with state := .busy })) := by
    refine hfrU.other (X' := Rnd Y l ds A' O w { rec i with state := .busy } U.out.length) ?_ (Rnd.stands hY.1 _) ⟨by simp, fun b _ hb => World.putObj_heap_other (fun e => hb (by rw [e]; exact hlA3)), fun b hb => .inl hb⟩ (fun b hb => by simpa using hfrU.a0 b hb)
    obtain ⟨A4, h1, h2, h3, h4, h5, h6⟩ := hfrU.inv
    refine ⟨A4, h1, hY.1 _ _ _ _ _ _ h2 ⟨rfl, rfl, rfl, by simp, fun b _ hb => World.putObj_heap_other (fun e => hb (.inr (.inr (.inl e)))), Nat.le_refl _⟩ (fun b hb => .inl hb), ⟨by simpa using h3.size, fun b hb hn => ?_, h3.more⟩, h4, fun q hq => ?_, World.putObj_heap_same (Array.getElem?_eq_some_iff.1 h6).1⟩
    · rw [World.putObj_heap_other (fun e => hn ((hA b).2 (.inr (.inr e))))]; exact h3.block b hb hn
    · rw [World.putObj_heap_other (hql q hq)]; exact h5 q hq
  refine wpIn_mono (hbod.2 yl evs0 (Rnd Y l ds A' O w { rec i with state := .busy }) hevT (Rnd.yields hY) (some l) n (hrcd _) A3 r3 ds3 (a.tmps ++ sv) a1 _ hfrU') ?_
  rintro e' a2 w2 ⟨rfl, A4, r4, ds4, hfrT⟩
  obtain ⟨A5, h1, h2, h3, h4, h5, h6⟩ := hfrT.inv
  have hend := run_endRound (P := P) (jumpOf e') h6
  have hlw2 : l < w2.heap.size := (Array.getElem?_eq_some_iff.1 h6).1
  have hrec' : ({ { rec i with state := .busy } with state := if (jumpOf e').isNone then .ready else .done, pending := jumpOf e' } : Loop) = rec (i + 1) := by rw [hnext]
  rw [hrec'] at hend
  have hOA' : ∀ b, O b → ¬ A' b := fun b hb => (hO b hb).2
  let A6 : Nat → Prop := fun b => A5 b ∨ own r4 ds b ∨ b = l
  have hr4A : ∀ b, OwnR r4 b → ¬ A4 b := hfrT.dis
  have hput : ∀ b, b ≠ l → (w2.putObj l (.loop (rec (i + 1)))).heap[b]? = w2.heap[b]? := fun b hb => World.putObj_heap_other hb
  have hA4l : A4 l := (h1 l).2 (.inr (.inr (.inl rfl)))
  have key : R (.returned (.bool (jumpOf e').isNone)) (w2.putObj l (.loop (rec (i + 1)))) := by
    refine hR A6 _ ⟨A5, r4, fun b => Iff.rfl, fun b hb hb' => ?_, (h4 l (.inr (.inl rfl))).1, ?_, ?_, World.putObj_heap_same hlw2⟩ ?_ (fun b hb => ?_)
    · rcases hb' with h | (h | h) | h
      · exact (h4 b (.inl hb)).1 h
      · exact (h4 b (.inl hb)).2.1 (.inl h)
      · exact hOA' b hb (hdsA b h)
      · exact hOA' b hb ((hA b).2 (.inr (.inr h)))
    · have hsub : ∀ b, AR (fun b => A5 b ∨ (O b ∧ b < (w2.putObj l (.loop (rec (i + 1)))).heap.size) ∨ b = l) r4 ds b → AR A4 r4 ds4 b := fun b hb => by
        rcases hb with (h | ⟨h, _⟩ | h) | h | h
        · exact .inl ((h1 b).2 (.inl h))
        · exact .inl ((h1 b).2 (.inr (.inl h)))
        · exact .inl ((h1 b).2 (.inr (.inr (.inl h))))
        · exact .inr (.inl h)
        · exact .inl ((h1 b).2 (.inr (.inr (.inr h))))
      have hk4 : Keeps (AR A4 r4 ds4) (AR (fun b => A5 b ∨ (O b ∧ b < (w2.putObj l (.loop (rec (i + 1)))).heap.size) ∨ b = l) r4 ds) w2 (w2.putObj l (.loop (rec (i + 1)))) :=
        ⟨by simp, fun b _ hb => hput b (fun e => hb (by rw [e]; exact .inl hA4l)), fun b hb => .inl (hsub b hb)⟩
      have hs := hfrT.sav
      rw [hsav] at hs
      have hsz : (S (i + 1)).env.length = a.tmps.size := by rw [hlen]; exact hfr.env.1
      obtain ⟨hs1, hs2⟩ := VRs.split hs hsz
      have elo : locOf T = locOf (S (i + 1)) := by unfold locOf; rw [hloc]
      refine ⟨hs1.mono hk4 (fun _ _ h => h), hs2.mono hk4 (fun _ _ h => h), fun j k hj => ?_, fun j b hj => ?_, fun j v b hj => ?_, hfrT.inj, hfrT.injL, hfrT.sep, fun b hj hb => ?_, fun b hj => by simpa using hfrT.lt b hj, fun b hj hq => hr4A b hj ((h1 b).2 (.inr (.inr (.inr hq)))), fun b hb => ?_, trivial, fun _ _ _ _ _ _ _ _ => trivial, hfr.dfr, hfr.dnd, fun q hq => ⟨?_, fun hb => ?_⟩, hfrT.ylv⟩
      · rw [← elo] at hj
        exact (hfrT.mem j k hj).keep hk4 (fun _ _ h => h) (fun b hb => hput b (fun e => hr4A b (.of hb) (by rw [e]; exact hA4l)))
      · rw [← elo]; exact hfrT.dom j b hj
      · rw [← elo]; exact hfrT.domL j v b hj
      · rcases hb with h | ⟨h, _⟩ | h
        · exact hr4A b hj ((h1 b).2 (.inl h))
        · exact hr4A b hj ((h1 b).2 (.inr (.inl h)))
        · exact hr4A b hj ((h1 b).2 (.inr (.inr (.inl h))))
      · have := hfrT.arLt b (hsub b (.inl hb))
        simpa using this
      · rw [hput q (hql q hq)]; exact h5 q hq
      · rcases hb with h | ⟨h, _⟩ | h
        · exact (h4 q (.inr (.inr hq))).1 h
        · exact hOA' q h (hdsA q hq)
        · exact hql q hq h
    · rw [← hout]
      refine hY.1 _ _ _ _ _ _ h2 ⟨rfl, rfl, rfl, by simp, fun b _ hb => hput b (fun e => hb (.inr (.inr (.inl e)))), Nat.le_refl _⟩ (fun b hb => .inl ?_)
      rcases hb with (h | h) | h | h
      · exact .inl (.inl h)
      · exact .inr (.inr (.inr h))
      · exact .inr (.inl h)
      · exact .inr (.inr (.inl h))
    · refine ⟨by simpa using h3.size, fun b hb hn => ?_, fun b hb => h3.more b ?_⟩
      · rw [hput b (fun e => hn ((hA b).2 (.inr (.inr e))))]; exact h3.block b hb hn
      · rcases hb with h | (h | h) | h
        · exact .inl h
        · exact .inr (.inl (.inl h))
        · exact .inr (.inr (.inr h))
        · exact .inr (.inr (.inl h))
    · rcases hb with h | (h | h) | h
      · have := hfrT.a0 b ((h1 b).2 (.inl h)); simpa using this
      · have := hfrT.lt b h; simpa using this
      · have := (Array.getElem?_eq_some_iff.1 (h5 b h)).1; simpa using this
      · rw [h]; simpa using hlw2
  have hends := hrd.ends
  cases e' with
  | normal => exact ⟨_, _, hend, key⟩
  | ret => exact ⟨_, _, hend, key⟩
  | exit id => exact ⟨_, _, hend, key⟩
  | goto t => simp [roundEnd] at hends
  | panic ch => simp [roundEnd] at hends
  | outgrown => simp [roundEnd] at hends
theorem chain_ext {S : Nat → St} {N : Nat} (h : ∀ i, i < N → Ext (S i) (S (i + 1))) : ∀ i, i ≤ N → Ext (S i) (S N) := by
  intro i hi
  obtain ⟨d, rfl⟩ : ∃ d, N = i + d := ⟨N - i, by omega⟩
  clear hi
  induction d with
  | zero => exact .refl _
  | succ d ih => exact (ih fun k hk => h k (by omega)).trans (h (i + d) (by omega))
theorem FR.move2 {X X' : Fx} {A0 A0' : Nat → Prop} {sav env : List AV} {sv : Array Value} {yl : Option Nat} {loc : Nat → Option Blk} {r : Rr} {ds ds' : List Nat} {a a' : Act} {w w' : World} (h : FR X yl A0 sav sv env loc r ds a w) (ht : a'.tmps = a.tmps)
    (hb : Bel w.heap.size w w') (hX : X' A0' (own r ds') w') (hS : Stands X') (hA : ∀ b, A0' b → A0 b ∨ w.heap.size ≤ b) (hlt : ∀ b, A0' b → b < w'.heap.size) (hds : ∀ q, q ∈ ds' → q ∈ ds ∨ w.heap.size ≤ q)
    (hd : a'.defers = ds'.map fun q => { target := .collected q, args := #[] }) (hn : ds'.Nodup) (hok : ∀ q, q ∈ ds' → w'.heap[q]? = some (.deferred (some [])) ∧ ¬ A0' q) : FR X' yl A0' sav sv env loc r ds' a' w' := by
  have hk : Keeps (AR A0 r ds) (AR A0' r ds') w w' := by
    refine ⟨hb.size, fun b hb' _ => hb.block b hb', fun b hb' => ?_⟩
    rcases hb' with h1 | h1 | h1
    · exact (hA b h1).imp .inl id
    · exact .inl (.inr (.inl h1))
    · exact (hds b h1).imp (fun h => .inr (.inr h)) id
  refine ⟨by rw [ht]; exact h.env.mono hk (fun _ _ h => h), h.sav.mono hk (fun _ _ h => h), fun j k hj => (h.mem j k hj).keep hk (fun _ _ h => h) (fun b hb' => hb.block b (h.lt b (.of hb'))), h.dom, h.domL, h.inj, h.injL, h.sep, fun b hj h1 => ?_, fun b hj => Nat.lt_of_lt_of_le (h.lt b hj) hb.size, fun b hj hq => (hds b hq).elim (h.sepD b hj) (fun e => by have := h.lt b hj; omega), hlt, hX, hS, hd, hn, hok, h.ylv⟩
  · rcases hA b h1 with h2 | h2
    · exact h.dis b hj h2
    · have := h.lt b hj; omega
theorem Ld.range {f : Operand} {g : FuncId} {us vs : List AV} {fnI : Func} {ps : Array Tmp} {assign body : Code} {S : Nat → St} {fin : Exit} {evs : List (List AV × Bool)}
    (hf : evO (S 0).env f = some (.fn (.func g) us vs)) (hg : P.funcs[g]? = some fnI) (hok : nameOk fnI = true) (hn1 : us.all noL = true) (hn2 : vs.all noL = true) (hic : IC P g us vs evs)
    (hr : ∀ i x b, evs[i]? = some (x, b) → ∃ e, Round P ps assign body (S i) (S (i + 1)) x e ∧ (if i + 1 = evs.length then e = fin else e = .normal) ∧ b = (jumpOf e).isNone)
    (hfin : roundEnd fin = true) (h0 : evs = [] → fin = .normal) : Ld P (.rangeFunc f ps assign body) (S 0) fin (S evs.length) := by
  have hround : ∀ i, i < evs.length → ∃ x b e, evs[i]? = some (x, b) ∧ Round P ps assign body (S i) (S (i + 1)) x e ∧ (if i + 1 = evs.length then e = fin else e = .normal) ∧ b = (jumpOf e).isNone := fun i hi => by
    obtain ⟨e, h⟩ := hr i (evs[i]).1 (evs[i]).2 (by rw [List.getElem?_eq_getElem hi])
    exact ⟨_, _, e, List.getElem?_eq_getElem hi, h⟩
  have hext : ∀ i, i ≤ evs.length → Ext (S i) (S evs.length) := chain_ext fun i hi => by
    obtain ⟨x, b, e, _, h, _⟩ := hround i hi
    exact h.ext
  refine ⟨hext 0 (Nat.zero_le _), fun yl evs0 Y hev hY ro n hrc A0 r ds sv a w hfr => wpIn_rangeFunc (fun fn _ => ?_)⟩
  obtain ⟨l, mk, dq, w1, hent, hb1, hrec1, hl1, hmn, hmk⟩ := enter_run (P := P) ro w fn a.tmps ps assign body (fun l hl => hrc l hl _ _ _ _ hfr.inv)
  let mark : Nat → Deferred := fun q => { target := .collected q, args := #[] }
  let a1 : Act := { a with defers := mk.map mark ++ a.defers }
  have hdslt : ∀ q, q ∈ ds → q < w.heap.size := fun q hq => (Array.getElem?_eq_some_iff.1 (hfr.dok q hq).1).1
  have hdsw : ∀ q, q ∈ mk ++ ds → q ∈ ds ∨ w.heap.size ≤ q := fun q hq => by
    rcases List.mem_append.1 hq with h | h
    · exact .inr (hmk q h).1
    · exact .inl h
  have hfr1 : FR (Y (S 0).out.length) yl A0 (S 0).sav sv (S 0).env (locOf (S 0)) r (mk ++ ds) a1 w1 := by
    refine hfr.move rfl (.below hb1) (fun b hj => hb1.block b (hfr.lt b hj)) hdsw ?_ ?_ (fun q hq => ?_)
    · show mk.map mark ++ a.defers = (mk ++ ds).map mark
      rw [List.map_append, hfr.dfr]
    · refine List.nodup_append.2 ⟨hmn, hfr.dnd, fun p hp q hq e => ?_⟩
      have := (hmk p hp).1
      have := hdslt q hq
      omega
    · rcases List.mem_append.1 hq with h | h
      · exact ⟨(hmk q h).2, fun hA => by have := hfr.a0 q hA; have := (hmk q h).1; omega⟩
      · exact ⟨by rw [hb1.block q (hdslt q h)]; exact (hfr.dok q h).1, (hfr.dok q h).2⟩
  have hfv' : VR w (AR A0 r ds) r (.fn (.func g) us vs) (a.eval f) := hfr.eval f _ hf
  have hl1' : l < w1.heap.size := (Array.getElem?_eq_some_iff.1 hrec1).1
  have hA0l : ¬ A0 l := fun h => by have := hfr.a0 l h; omega
  have hownl : ¬ own r (mk ++ ds) l := fun h => by
    rcases h with hj | h
    · have := hfr.lt l hj; omega
    · have := (hfr1.dok l h).1; rw [hrec1] at this; cases this
  let rcd : Nat → Loop := fun i => { state := if (if i = evs.length then jumpOf fin else none).isNone then .ready else .done, pending := if i = evs.length then jumpOf fin else none, fn, tmps := a.tmps, params := ps, assign, body, defers := dq }
  have hp0 : (if 0 = evs.length then jumpOf fin else none) = none := by
    split
    · rename_i h; rw [h0 (List.eq_nil_of_length_eq_zero h.symm)]; rfl
    · rfl
  have hrec0 : w1.heap[l]? = some (.loop (rcd 0)) := by
    rw [hrec1]; simp only [rcd, hp0]; rfl
  generalize hz : a.eval f = z at hfv'
  cases hfv' with
  | fn hx hy h1 h2 =>
    rename_i us' vs'
    have hfnb : fnI.body.isNone = false ∧ (fnI.name == "runtime.NumGoroutine") = false := by
      simp only [nameOk, Bool.and_eq_true, Bool.not_eq_true'] at hok
      refine ⟨?_, hok.2⟩
      cases hb : fnI.body with
      | none => simp [hb] at hok
      | some _ => rfl
    have hA1 : ∀ b, (AR A0 r (mk ++ ds) b ∨ b = l) → AR A0 r ds b ∨ w.heap.size ≤ b := fun b hb => by
      rcases hb with (h | h | h) | h
      · exact .inl (.inl h)
      · exact .inl (.inr (.inl h))
      · rcases List.mem_append.1 h with h | h
        · exact .inr (hmk b h).1
        · exact .inl (.inr (.inr h))
      · rw [h]; exact .inr hl1
    let A' : Nat → Prop := fun b => A0 b ∨ own r (mk ++ ds) b ∨ b = l
    have hkA : Keeps (AR A0 r ds) A' w w1 := ⟨hb1.size, fun b hb _ => hb1.block b hb, fun b hb => hA1 b (by
      rcases hb with h | h | h
      · exact .inl (.inl h)
      · exact .inl (.inr h)
      · exact .inr h)⟩
    have g1 : VRs w1 A' (yR (some l)) us us' := by
      have := VRs.weaken (A' := AR A0 r ds) (r' := yR (some l)) hn1 ⟨hx, h1⟩ (fun _ h => h)
      exact this.mono hkA (fun _ _ h => h)
    have g2 : VRs w1 A' (yR (some l)) vs vs' := by
      have := VRs.weaken (A' := AR A0 r ds) (r' := yR (some l)) hn2 ⟨hy, h2⟩ (fun _ h => h)
      exact this.mono hkA (fun _ _ h => h)
    have gy : VRs w1 A' (yR (some l)) [.yv] #[.func (.yield l) #[] #[]] := VRs.one (.yv rfl)
    have hresolve : (resolve a.eval (rangeCall f l) 0).run P w1 = .ok { target := .fn (.func g) vs', args := us' ++ #[.func (.yield l) #[] #[]] } w1 := by
      have e : Array.map a.eval #[Operand.const (Value.func (Fn.yield l) #[] #[])] = #[Value.func (Fn.yield l) #[] #[]] := by simp [Act.eval]
      simp only [resolve, hz, Deferred.ofValue, Sem.run_pure, e]
    have hinv : (invoke (.fn (.func g) vs') (us' ++ #[.func (.yield l) #[] #[]])).run P w1 = .ok (.enter g (us' ++ #[.func (.yield l) #[] #[]] ++ vs')) w1 := by
      simp only [invoke, callFunc, Sem.run_bind, Sem.run_pure, Result.andThen_ok, run_program, hg, hfnb.1, hfnb.2, Bool.false_eq_true, if_false]
    refine ⟨l, mk.map mark, w1, _, w1, g, _, w1, hent, hresolve, fun _ _ => trivial, hinv, fun h => by simp [wf_depth] at h, ?_⟩
    have hYH : YH P (some l) evs (Mid Y yl S l (mk ++ ds) a1 sv rcd) := by
      refine ⟨Mid.stands hY.1, fun i x b hi ro' n' B O w2 us2 R hB hO hmid hv2 hR => ?_⟩
      have hilt : i < evs.length := (List.getElem?_eq_some_iff.1 hi).1
      obtain ⟨e, hrd, he, hbe⟩ := hr i x b hi
      have hrst : (rcd i).state = .ready := by
        simp only [rcd, if_neg (show ¬ i = evs.length by omega)]; rfl
      refine round_ok (rec := rcd) (e := e) (a := a1) (sv := sv) (ds := mk ++ ds) hY hrd ((hext (i + 1) (by omega)).pre hev) rfl hrst ?_ hB hO hmid hv2 (fun A'' w' hm hk hA => by rw [← hbe]; exact hR A'' w' hm hk hA)
      have hj : jumpOf e = if i + 1 = evs.length then jumpOf fin else none := by
        split at he
        · rename_i h; rw [if_pos h, he]
        · rename_i h; rw [if_neg h, he]; rfl
      simp only [rcd, hj]
    have hMid0 : Mid Y yl S l (mk ++ ds) a1 sv rcd 0 A' (fun _ => False) w1 := by
      refine ⟨A0, r, fun b => Iff.rfl, fun _ h => h.elim, hA0l, ?_, ?_, hrec0⟩
      · refine hfr.move2 (X' := Tr) rfl hb1 trivial (fun _ _ _ _ _ _ _ _ => trivial) (fun b hb => ?_) (fun b hb => ?_) hdsw hfr1.dfr hfr1.dnd (fun q hq => ⟨(hfr1.dok q hq).1, fun hb => ?_⟩)
        · rcases hb with h | ⟨h, _⟩ | h
          · exact .inl h
          · exact h.elim
          · rw [h]; exact .inr hl1
        · rcases hb with h | ⟨h, _⟩ | h
          · exact hfr1.a0 b h
          · exact h.elim
          · rw [h]; exact hl1'
        · rcases hb with h | ⟨h, _⟩ | h
          · exact (hfr1.dok q hq).2 h
          · exact h
          · exact hownl (by rw [← h]; exact .inr hq)
      · refine hfr.clo _ _ _ _ _ hfr.inv (.below hb1) (fun b hb => ?_)
        rcases hb with (h | h) | h | h
        · exact .inl (.inl h)
        · exact (hdsw b h).imp .inr id
        · exact h.elim
        · rw [h]; exact .inr hl1
    refine (hic ro (n - 1) l (Mid Y yl S l (mk ++ ds) a1 sv rcd) A' w1 _ hYH (fun b hb => ?_) hMid0 ((g1.append gy).append g2)).mono ?_
    · rcases hb with h | h | h
      · exact hfr1.a0 b h
      · exact hfr1.arLt b (.inr h)
      · rw [h]; exact hl1'
    · rintro e' w3 ⟨⟨v, rfl⟩, B, ⟨A5, r5, hB, hdis5, hl5, hfr5, hy5, hrec5⟩, hB5⟩
      have hl3 : l < w3.heap.size := (Array.getElem?_eq_some_iff.1 hrec5).1
      have hend := run_endLoop (P := P) hrec5 (fun h => by
        have : ∀ c : Bool, (if c = true then LoopState.ready else LoopState.done) ≠ .busy := fun c => by cases c <;> simp
        exact this _ h)
      have hfr6 : FR (Y (S evs.length).out.length) yl A5 (S evs.length).sav sv (S evs.length).env (locOf (S evs.length)) r5 (mk ++ ds) a1 (w3.putObj l (.loop { rcd evs.length with state := .exhausted })) := by
        refine hfr5.other ?_ (hY.1 _) ⟨by simp, fun b _ hb => World.putObj_heap_other (fun e => hb (.inr (.inr e))), fun b hb => .inl (.inl hb)⟩ (fun b hb => by simpa using hfr5.a0 b (.inl hb))
        refine hY.1 _ _ _ _ _ _ hy5 ⟨rfl, rfl, rfl, by simp, fun b _ hb => World.putObj_heap_other (fun e => hb (.inr (.inr e))), Nat.le_refl _⟩ (fun b hb => .inl (.inl hb))
      have hpend : (rcd evs.length).pending = jumpOf fin := by simp [rcd]
      generalize w3.putObj l (.loop { rcd evs.length with state := .exhausted }) = w4 at hend hfr6
      rw [hpend] at hend
      refine ⟨_, _, hend, ?_⟩
      cases fin with
      | normal => exact ⟨rfl, A5, r5, mk ++ ds, hfr6⟩
      | ret => exact wpIn_ret ⟨rfl, A5, r5, mk ++ ds, hfr6⟩
      | exit id => exact wpIn_exit ⟨rfl, A5, r5, mk ++ ds, hfr6⟩
      | goto t => simp [roundEnd] at hfin
      | panic ch => simp [roundEnd] at hfin
      | outgrown => simp [roundEnd] at hfin
end
end Go.Proofs.YtjbhooodjmjdkaaGreat.Ev
/-! EvO -/
namespace Go.Proofs.YtjbhooodjmjdkaaGreat.Ev
open Go.RowKit
inductive T (α : Type) : Type 1 where
  | fail
  | ret (a : α)
  | chk (g : Bool) (t : T α)
  | br (b : Bool) (t e : T α)
  | obs {β : Type} (o : Option β) (k : β → T α)
  | sum {β γ : Type} (x : β ⊕ γ) (f : β → T α) (g : γ → T α)
namespace T
variable {α β : Type}
def bind : T α → (α → T β) → T β
  | fail, _ => fail
  | ret a, k => k a
  | chk g t, k => chk g (bind t k)
  | br b t e, k => br b (bind t k) (bind e k)
  | obs o f, k => obs o fun x => bind (f x) k
  | sum x f g, k => sum x (fun y => bind (f y) k) (fun z => bind (g z) k)
def run : T α → Option α
  | fail => none
  | ret a => some a
  | chk g t => match g with
    | true => run t
    | false => none
  | br b t e => match b with
    | true => run t
    | false => run e
  | obs o f => match o with
    | some x => run (f x)
    | none => none
  | sum x f g => match x with
    | .inl y => run (f y)
    | .inr z => run (g z)
def ofOpt : Option α → T α
  | some a => ret a
  | none => fail
theorem run_br (b : Bool) (t e : T α) : (T.br b t e).run = if b = true then t.run else e.run := by cases b <;> rfl
theorem run_chk (g : Bool) (t : T α) : (T.chk g t).run = if g = true then t.run else none := by cases g <;> rfl
theorem br_some {b : Bool} {t e : T α} {x y : α} (h1 : t.run = some x) (h2 : e.run = some y) : (T.br b t e).run = some (if b = true then x else y) := by cases b <;> assumption
theorem run_ret (a : α) : (T.ret a).run = some a := rfl
theorem run_fail : (T.fail : T α).run = none := rfl
theorem run_some {β : Type} (x : β) (k : β → T α) : (T.obs (some x) k).run = (k x).run := rfl
theorem run_inl {β γ : Type} (x : β) (f : β → T α) (g : γ → T α) : (T.sum (.inl x) f g).run = (f x).run := rfl
theorem run_inr {β γ : Type} (x : γ) (f : β → T α) (g : γ → T α) : (T.sum (.inr x) f g).run = (g x).run := rfl
theorem run_bind {k : α → T β} {b : β} : ∀ {t : T α}, run (bind t k) = some b → ∃ a, run t = some a ∧ run (k a) = some b
  | fail, h => by simp [bind, run] at h
  | ret a, h => ⟨a, rfl, h⟩
  | chk g t, h => by
    simp only [bind, run] at h
    cases g with
    | true => exact run_bind (t := t) h
    | false => simp at h
  | br c t e, h => by
    simp only [bind, run] at h
    cases c with
    | true => exact run_bind (t := t) h
    | false => exact run_bind (t := e) h
  | obs o f, h => by
    cases o with
    | none => simp [bind, run] at h
    | some x => exact run_bind (t := f x) h
  | sum x f g, h => by
    cases x with
    | inl y => exact run_bind (t := f y) h
    | inr z => exact run_bind (t := g z) h
theorem run_bind_eq {k : α → T β} : ∀ (t : T α), run (bind t k) = match run t with | some a => run (k a) | none => none
  | fail => rfl
  | ret a => rfl
  | chk g t => by
    simp only [bind, run]
    cases g with
    | true => exact run_bind_eq t
    | false => rfl
  | br c t e => by
    simp only [bind, run]
    cases c with
    | true => exact run_bind_eq t
    | false => exact run_bind_eq e
  | obs o f => by
    cases o with
    | none => rfl
    | some x => exact run_bind_eq (f x)
  | sum x f g => by
    cases x with
    | inl y => exact run_bind_eq (f y)
    | inr z => exact run_bind_eq (g z)
end T
/-! ### Values are worked out at once -/
universe u
section
variable {R : Sort u}
def force0 (x : AV) (k : AV → R) : R := match x with
  | .int a n => k (.int a n)
  | .bool b => k (.bool b)
  | .str l => k (.str l)
  | .nilptr => k .nilptr
  | .lptr a b c d => k (.lptr a b c d)
  | .xptr a b c d e => k (.xptr a b c d e)
  | .nilsl => k .nilsl
  | .osl a b c => k (.osl a b c)
  | .oss a b c d e => k (.oss a b c d e)
  | .optr a b c d e => k (.optr a b c d e)
  | .lsl a b c d e f => k (.lsl a b c d e f)
  | .xsl a b c d e f => k (.xsl a b c d e f)
  | .fn a b c => k (.fn a b c)
  | .nilfn => k .nilfn
  | .yv => k .yv
  | .nilif => k .nilif
  | .nilmp => k .nilmp
  | .mp a => k (.mp a)
  | .xmp a b c d => k (.xmp a b c d)
  | .agg a => k (.agg a)
  | .tup a => k (.tup a)
  | .top => k .top
theorem force0_eq (x : AV) (k : AV → R) : force0 x k = k x := by cases x <;> rfl
def forceL0 : List AV → (List AV → R) → R
  | [], k => k []
  | x :: xs, k => force0 x fun y => forceL0 xs fun ys => k (y :: ys)
theorem forceL0_eq : ∀ (l : List AV) (k : List AV → R), forceL0 l k = k l
  | [], k => rfl
  | x :: xs, k => by rw [forceL0, force0_eq, forceL0_eq xs]
def force1 (x : AV) (k : AV → R) : R := match x with
  | .agg cs => forceL0 cs fun ys => k (.agg ys)
  | x => force0 x k
theorem force1_eq (x : AV) (k : AV → R) : force1 x k = k x := by
  unfold force1
  split
  · exact forceL0_eq _ _
  · exact force0_eq _ _
def forceL1 : List AV → (List AV → R) → R
  | [], k => k []
  | x :: xs, k => force1 x fun y => forceL1 xs fun ys => k (y :: ys)
theorem forceL1_eq : ∀ (l : List AV) (k : List AV → R), forceL1 l k = k l
  | [], k => rfl
  | x :: xs, k => by rw [forceL1, force1_eq, forceL1_eq xs]
def force (x : AV) (k : AV → R) : R := match x with
  | .tup cs => forceL1 cs fun ys => k (.tup ys)
  | x => force1 x k
theorem force_eq (x : AV) (k : AV → R) : force x k = k x := by
  unfold force
  split
  · exact forceL1_eq _ _
  · exact force1_eq _ _
def forceB : List Blk → (List Blk → R) → R
  | [], k => k []
  | .flat t cs :: bs, k => forceL0 cs fun ys => forceB bs fun zs => k (.flat t ys :: zs)
  | .list t wd v n g :: bs, k => forceB bs fun zs => k (.list t wd v n g :: zs)
  | .map t ag wd n g :: bs, k => forceB bs fun zs => k (.map t ag wd n g :: zs)
theorem forceB_eq : ∀ (l : List Blk) (k : List Blk → R), forceB l k = k l
  | [], k => rfl
  | .flat t cs :: bs, k => by rw [forceB, forceL0_eq, forceB_eq bs]
  | .list t wd v n g :: bs, k => by rw [forceB, forceB_eq bs]
  | .map t ag wd n g :: bs, k => by rw [forceB, forceB_eq bs]
def forceS (st : St) (k : St → R) : R := forceL1 st.env fun e => forceB st.loc fun l => k { st with env := e, loc := l }
theorem forceS_eq (st : St) (k : St → R) : forceS st k = k st := by rw [forceS, forceL1_eq, forceB_eq]
end
def effT (C : FuncId → List AV → T AV) (loc : Nat → Option Blk) (nx : Nat) (o : Oper) : Res → T Eff
  | .val v => .ret ⟨o.dst, v, none⟩
  | .alloc b v => .ret ⟨o.dst, v, some (nx, b)⟩
  | .grow j b v => .ret ⟨o.dst, v, some (j, b)⟩
  | .store j b => .ret ⟨o.dst, .tup [], some (j, b)⟩
  | .put j b v => .ret ⟨o.dst, v, some (j, b)⟩
  | .call f args => match callArgs loc args with
    | some (ex, args') => (C f args').bind fun v => match ex && !plainR v with
      | true => .fail
      | false => .ret ⟨o.dst, v, none⟩
    | none => .fail
  | .turn f args => match turnArgs loc args with
    | some (j, t, wd, v, n, g, rest) => (C f (.osl 0 wd n :: .xsl wd n g 0 n none :: rest)).bind fun x => match x with
      | .xsl _ _ g' _ _ _ => match fullCK g'.tag wd with
        | true => .ret ⟨o.dst, .tup [], some (j, .list t wd v n g')⟩
        | false => .fail
      | _ => .fail
    | none => .fail
  | .fresh f t args => match callArgs loc args with
    | some (_, args') => (C f (.oss t 0 0 0 0 :: args')).bind fun x => match x with
      | .xsl wd n g _ _ _ => match fullCK g.tag wd with
        | true => .ret ⟨o.dst, .osl nx 0 n, some (nx, .list t wd 0 n g)⟩
        | false => .fail
      | _ => .fail
    | none => .fail
def stepT (P : Program) (C : FuncId → List AV → T AV) (st : St) (o : Oper) : T Eff :=
  match o.op with
  | .pick c a b => match evO st.env c with
    | some (.bool t) => .br t ((T.ofOpt (evO st.env a)).bind fun v => .ret ⟨o.dst, v, none⟩) ((T.ofOpt (evO st.env b)).bind fun v => .ret ⟨o.dst, v, none⟩)
    | _ => .fail
  | _ => match opRes P (evO st.env) (locOf st) st.loc.length o with
    | some (g, res) => .chk g (effT C (locOf st) st.loc.length o res)
    | none => .fail
def yieldOf (st : St) (o : Oper) : Option (List AV) :=
  match o.op with
  | .call c => match c.callee with
    | .value f => match evO st.env f with
      | some .yv => match mapEv (evO st.env) c.args.toList with
        | some vs => match vs.all noL with
          | true => some vs
          | false => none
        | none => none
      | _ => none
    | _ => none
  | _ => none
def inlOf (env : List AV) (o : Oper) : Option (FuncId × List AV) :=
  match o.op with
  | .call c => match c.callee with
    | .value f => match evO env f with
      | some (.fn (.func g) xs ys) => match mapEv (evO env) c.args.toList with
        | some vs => some (g, xs ++ vs ++ ys)
        | none => none
      | _ => none
    | _ => none
  | _ => none
abbrev Inl := FuncId → List AV → St → Option (T (AV × St))
def litSlot (st : St) (d : Nat) (b : Bool) : St := { st with env := st.env.set d (.bool b) }
def tryInl (I : Inl) (o : Oper) (st : St) : Option (T (AV × St)) := match inlOf st.env o with
  | some (g, args) => I g args st
  | none => none
def goT (P : Program) (C : FuncId → List AV → T AV) (I : Inl) (k : St → T St) (o : Oper) (st : St) : T St :=
  match yieldOf st o with
  | some vs => k { st with env := putD st.env o.dst (.bool (st.bs st.out.length)), out := (vs, st.bs st.out.length) :: st.out }
  | none => match tryInl I o st with
    | some t => t.bind fun p => forceS p.2 fun s => force p.1 fun v => k { s with env := putD s.env o.dst v }
    | none => (stepT P C st o).bind fun e => force e.v fun v => k (applyE st { e with v := v })
def skipT (k : St → T St) (o : Oper) (st : St) : T St := k (applyE st ⟨o.dst, .tup [], none⟩)
def guardT (ops : Array Oper) (st : St) (o : Oper) (go skip : St → T St) : T St :=
  match o.guard with
  | none => go st
  | some (j, want) => match ops[j]? with
    | some oj => match oj.dst with
      | some d => match st.env[d]? with
        | some (.bool b) => .br b (match want with | true => go (litSlot st d true) | false => skip (litSlot st d true)) (match want with | true => skip (litSlot st d false) | false => go (litSlot st d false))
        | some (.tup []) => skip st
        | _ => .fail
      | none => .fail
    | none => .fail
def runT (P : Program) (C : FuncId → List AV → T AV) (I : Inl) (ops : Array Oper) : List Oper → St → T St
  | [], st => .ret st
  | o :: rest, st => guardT ops st o (goT P C I (runT P C I ops rest) o) (skipT (runT P C I ops rest) o)
def runTd (P : Program) (C : FuncId → List AV → T AV) (ops : Array Oper) (bf : List Nat) : List Oper → Nat → St → List (Nat × Nat × Bool) → Bool → T St
  | [], _, st, _, _ => .ret st
  | o :: rest, i, st, tr, y => guardT ops st o
      (fun st => match clashAny bf i tr (touch P (evO st.env) st.loc.length o) with
        | true => .fail
        | false => match yieldOf st o with
          | some vs => match y with
            | true => .fail
            | false => runTd P C ops bf rest (i + 1) { st with env := putD st.env o.dst (.bool (st.bs st.out.length)), out := (vs, st.bs st.out.length) :: st.out } (addTr i tr (touch P (evO st.env) st.loc.length o)) true
          | none => (stepT P C st o).bind fun e => force e.v fun v => runTd P C ops bf rest (i + 1) (applyE st { e with v := v }) (addTr i tr (touch P (evO st.env) st.loc.length o)) y)
      (fun st => match clashAny bf i tr (touch P (evO st.env) st.loc.length o) with
        | true => .fail
        | false => runTd P C ops bf rest (i + 1) (applyE st ⟨o.dst, .tup [], none⟩) (addTr i tr (touch P (evO st.env) st.loc.length o)) y)
section
variable {P : Program} {C : FuncId → List AV → T AV} {ops : Array Oper} {st : St} {o : Oper}
theorem effT_run {loc : Nat → Option Blk} {nx : Nat} {res : Res} {e : Eff} (h : (effT C loc nx o res).run = some e) : effR (fun f args => (C f args).run) loc nx o res = some e := by
  cases res with
  | val v => exact h
  | alloc b v => exact h
  | grow j b v => exact h
  | store j b => exact h
  | put j b v => exact h
  | call f args =>
    simp only [effT] at h
    simp only [effR]
    split at h
    · rename_i ex args' hc
      obtain ⟨v, h1, h2⟩ := T.run_bind h
      simp only [hc, h1]
      split at h2
      · simp [T.run] at h2
      · rename_i hx
        simp only [hx]
        exact h2
    · simp [T.run] at h
  | turn f args =>
    simp only [effT] at h
    simp only [effR]
    split at h
    case h_2 => simp [T.run] at h
    rename_i hta
    obtain ⟨x, h1, h2⟩ := T.run_bind h
    simp only [hta, h1]
    cases x <;> simp only [T.run] at h2 <;> try (exact absurd h2 (by simp))
    split at h2
    · rename_i hf; simp only [hf]; exact h2
    · simp [T.run] at h2
  | fresh f t args =>
    simp only [effT] at h
    simp only [effR]
    split at h
    case h_2 => simp [T.run] at h
    rename_i hca
    obtain ⟨x, h1, h2⟩ := T.run_bind h
    simp only [hca, h1]
    cases x <;> simp only [T.run] at h2 <;> try (exact absurd h2 (by simp))
    split at h2
    · rename_i hf; simp only [hf]; exact h2
    · simp [T.run] at h2
theorem stepT_run {e : Eff} (h : (stepT P C st o).run = some e) : ∃ res, opRes P (evO st.env) (locOf st) st.loc.length o = some (true, res) ∧ effR (fun f args => (C f args).run) (locOf st) st.loc.length o res = some e := by
  unfold stepT at h
  split at h
  · rename_i c a b hop
    split at h
    · rename_i t ht
      have key : ∀ x : Operand, (((T.ofOpt (evO st.env x)).bind fun v => (T.ret ⟨o.dst, v, none⟩ : T Eff)).run = some e) → ∃ v, evO st.env x = some v ∧ e = ⟨o.dst, v, none⟩ := fun x hx => by
        obtain ⟨v, h1, h2⟩ := T.run_bind hx
        refine ⟨v, ?_, ?_⟩
        · cases hv : evO st.env x with
          | none => simp [hv, T.ofOpt, T.run] at h1
          | some u => simp [hv, T.ofOpt, T.run] at h1; rw [h1]
        · simp [T.run] at h2; exact h2.symm
      cases t with
      | true =>
        obtain ⟨v, h1, rfl⟩ := key a h
        exact ⟨.val v, by simp [opRes, native, hop, ht, h1], rfl⟩
      | false =>
        obtain ⟨v, h1, rfl⟩ := key b h
        exact ⟨.val v, by simp [opRes, native, hop, ht, h1], rfl⟩
    · simp [T.run] at h
  · split at h
    · rename_i g res hres
      cases g with
      | true => exact ⟨res, hres, effT_run h⟩
      | false => simp [T.run] at h
    · simp [T.run] at h
theorem lit_same {d : Nat} {b : Bool} (h : st.env[d]? = some (.bool b)) : litSlot st d b = st := by
  unfold litSlot
  have : st.env.set d (.bool b) = st.env := by
    apply List.ext_getElem?
    intro i
    rw [List.getElem?_set]
    split
    · rename_i e
      subst e
      have hi := (List.getElem?_eq_some_iff.1 h).1
      rw [if_pos hi, h]
    · rfl
  rw [this]
theorem guardT_run {go skip : St → T St} {r : St} (h : (guardT ops st o go skip).run = some r) : (wantD ops st.env o = some true ∧ (go st).run = some r) ∨ (wantD ops st.env o = some false ∧ (skip st).run = some r) := by
  unfold guardT at h
  split at h
  · rename_i hg
    exact .inl ⟨by simp [wantD, hg], h⟩
  · rename_i j want hg
    split at h
    · rename_i oj hj
      split at h
      · rename_i d hd
        split at h
        · rename_i b hb
          cases b with
          | true =>
            have e := lit_same hb
            cases want with
            | true => rw [e] at h; exact .inl ⟨by simp [wantD, hg, hj, hd, hb], h⟩
            | false => rw [e] at h; exact .inr ⟨by simp [wantD, hg, hj, hd, hb], h⟩
          | false =>
            have e := lit_same hb
            cases want with
            | true => rw [e] at h; exact .inr ⟨by simp [wantD, hg, hj, hd, hb], h⟩
            | false => rw [e] at h; exact .inl ⟨by simp [wantD, hg, hj, hd, hb], h⟩
        · rename_i hb
          exact .inr ⟨by simp [wantD, hg, hj, hd, hb], h⟩
        · simp [T.run] at h
      · simp [T.run] at h
    · simp [T.run] at h
theorem stepE_go {e : Eff} (hw : wantD ops st.env o = some true) (h : (stepT P C st o).run = some e) : stepE P (fun f args => (C f args).run) ops st o = some e := by
  obtain ⟨res, h1, h2⟩ := stepT_run h
  simp only [stepE, effOf, hw, h1, h2]
theorem stepE_skip (hw : wantD ops st.env o = some false) : stepE P (fun f args => (C f args).run) ops st o = some ⟨o.dst, .tup [], none⟩ := by
  simp only [stepE, effOf, hw]
theorem yieldOf_spec {vs : List AV} (h : yieldOf st o = some vs) : ∃ (c : Call) (f : Operand), o.op = .call c ∧ c.callee = .value f ∧ evO st.env f = some .yv ∧ mapEv (evO st.env) c.args.toList = some vs ∧ vs.all noL = true := by
  unfold yieldOf at h
  split at h
  · rename_i c hop
    split at h
    · rename_i f hc
      split at h
      · rename_i hf
        split at h
        · rename_i vs' hvs
          split at h
          · rename_i hn
            injection h with h; subst h
            exact ⟨c, f, hop, hc, hf, hvs, hn⟩
          · simp at h
        · simp at h
      · simp at h
    · simp at h
  · simp at h
theorem inlOf_spec {g : FuncId} {args : List AV} (h : inlOf st.env o = some (g, args)) : ∃ (c : Call) (f : Operand) (xs ys vs : List AV), o.op = .call c ∧ c.callee = .value f ∧ evO st.env f = some (.fn (.func g) xs ys) ∧ mapEv (evO st.env) c.args.toList = some vs ∧ args = xs ++ vs ++ ys := by
  unfold inlOf at h
  split at h
  · rename_i c hop
    split at h
    · rename_i f hc
      split at h
      · rename_i g' xs ys hf
        split at h
        · rename_i vs hvs
          injection h with h
          injection h with h1 h2
          subst h1; subst h2
          exact ⟨c, f, xs, ys, vs, hop, hc, hf, hvs, rfl⟩
        · simp at h
      · simp at h
    · simp at h
  · simp at h
theorem runT_ld {I : Inl} (hcl : ∀ f args v, (C f args).run = some v → CC P f args v) (hI : ∀ g args st t v st3, I g args st = some t → t.run = some (v, st3) → IL P g args st v st3) :
    ∀ (l : List Oper) (i : Nat) (st st' : St), (∀ j, l[j]? = ops[i + j]?) → (runT P C I ops l st).run = some st' → LdO P ops l i st st'
  | [], i, st, st', _, h => by
    simp [runT, T.run] at h; subst h; exact LdO.nil
  | o :: rest, i, st, st', hl, h => by
    have h0 : ops[i]? = some o := by simpa using (hl 0).symm
    have hl' : ∀ j, rest[j]? = ops[i + 1 + j]? := fun j => by have := hl (j + 1); simpa [Nat.add_assoc, Nat.add_comm 1 j] using this
    simp only [runT] at h
    rcases guardT_run h with ⟨hw, h⟩ | ⟨hw, h⟩
    · unfold goT at h
      split at h
      · rename_i vs hy
        obtain ⟨c, f, hop, hc, hf, hvs, hn⟩ := yieldOf_spec hy
        exact LdO.yield h0 hw hop hc hf hvs hn (runT_ld hcl hI rest (i + 1) _ st' hl' h)
      · split at h
        · rename_i t ht
          unfold tryInl at ht
          split at ht
          · rename_i g args hio
            obtain ⟨⟨v, st3⟩, h1, h2⟩ := T.run_bind h
            rw [forceS_eq, force_eq] at h2
            obtain ⟨c, f, xs, ys, vs, hop, hc, hf, hvs, rfl⟩ := inlOf_spec hio
            exact LdO.inl h0 hw hop hc hf hvs (hI _ _ _ _ _ _ ht h1) (runT_ld hcl hI rest (i + 1) _ st' hl' h2)
          · simp at ht
        · obtain ⟨e, h1, h2⟩ := T.run_bind h
          rw [force_eq] at h2
          exact LdO.step (cl := fun f args => (C f args).run) hcl h0 (stepE_go hw h1) (runT_ld hcl hI rest (i + 1) _ st' hl' h2)
    · exact LdO.step (cl := fun f args => (C f args).run) hcl h0 (stepE_skip hw) (runT_ld hcl hI rest (i + 1) _ st' hl' h)
theorem runTd_wk {bf : List Nat} : ∀ (l : List Oper) (i : Nat) (st st' : St) (tr : List (Nat × Nat × Bool)) (y : Bool), (runTd P C ops bf l i st tr y).run = some st' → Wk P (fun f args => (C f args).run) ops bf l i st tr y st'
  | [], i, st, st', tr, y, h => by simp [runTd, T.run] at h; subst h; exact .nil
  | o :: rest, i, st, st', tr, y, h => by
    simp only [runTd] at h
    rcases guardT_run h with ⟨hw, h⟩ | ⟨hw, h⟩
    · split at h
      · simp [T.run] at h
      · rename_i hc
        split at h
        · rename_i vs hy
          split at h
          · simp [T.run] at h
          · obtain ⟨c, f, hop, hcc, hf, hvs, hn⟩ := yieldOf_spec hy
            exact .cons (isY := true) (e := ⟨o.dst, .bool (st.bs st.out.length), none⟩) ⟨c, f, vs, st.bs st.out.length, hw, hop, hcc, hf, hvs, hn, rfl, rfl⟩ (fun _ => rfl) hc (runTd_wk rest _ _ st' _ _ h)
        · obtain ⟨e, h1, h2⟩ := T.run_bind h
          rw [force_eq] at h2
          exact .cons (isY := false) ⟨stepE_go hw h1, rfl⟩ (fun h => by cases h) hc (by rw [Bool.or_false]; exact runTd_wk rest _ _ st' _ _ h2)
    · split at h
      · simp [T.run] at h
      · rename_i hc
        exact .cons (isY := false) ⟨stepE_skip hw, rfl⟩ (fun h => by cases h) hc (by rw [Bool.or_false]; exact runTd_wk rest _ _ st' _ _ h)
end
end Go.Proofs.YtjbhooodjmjdkaaGreat.Ev
/-! EvP -/
namespace Go.Proofs.YtjbhooodjmjdkaaGreat.Ev
open Go.RowKit
/-! ### Forgetting what is not needed any more -/
def idxOf : List Nat → Nat → Nat → Option Nat
  | [], _, _ => none
  | k :: ks, j, i => if k = j then some i else idxOf ks j (i + 1)
theorem idxOf_get : ∀ {ks : List Nat} {j i n : Nat}, idxOf ks j i = some n → i ≤ n ∧ ks[n - i]? = some j
  | [], j, i, n, h => by simp [idxOf] at h
  | k :: ks, j, i, n, h => by
    simp only [idxOf] at h
    split at h
    · rename_i e; injection h with h; subst h; subst e; simp
    · obtain ⟨h1, h2⟩ := idxOf_get h
      refine ⟨by omega, ?_⟩
      rw [show n - i = (n - (i + 1)) + 1 by omega]
      simpa using h2
def ren0 (m : Nat → Option Nat) (c : Nat → Nat) (x : AV) : AV :=
  match x with
  | .lptr j wd row col => match m j with
    | some i => .lptr i wd row col
    | none => .top
  | .lsl j wd row col len cap => match m j with
    | some i => .lsl i wd row col len cap
    | none => .top
  | .osl j v n => match m j with
    | some i => match Nat.beq v (c j) with
      | true => .osl i 0 n
      | false => .top
    | none => .top
  | .oss j v wd row n => match m j with
    | some i => match Nat.beq v (c j) with
      | true => .oss i 0 wd row n
      | false => .top
    | none => .top
  | .optr j v wd row n => match m j with
    | some i => match Nat.beq v (c j) with
      | true => .optr i 0 wd row n
      | false => .top
    | none => .top
  | .mp j => match m j with
    | some i => .mp i
    | none => .top
  | .yv => .yv
  | x => match noL0 x with
    | true => x
    | false => .top
def renA (m : Nat → Option Nat) (c : Nat → Nat) (x : AV) : AV :=
  match x with
  | .fn f xs ys => .fn f (xs.map (ren0 m c)) (ys.map (ren0 m c))
  | .agg cs => .agg (cs.map (ren0 m c))
  | .tup cs => .tup (cs.map (ren0 m c))
  | x => ren0 m c x
def renB (m : Nat → Option Nat) (c : Nat → Nat) : Blk → Blk
  | .flat t cs => .flat t (cs.map (renA m c))
  | .list t wd _ n g => .list t wd 0 n g
  | .map t ag wd n g => .map t ag wd n g
structure RenH (m : Nat → Option Nat) (c : Nat → Nat) (r r' : Rr) : Prop where
  obj : ∀ j i b, m j = some i → r (.obj j) = some b → r' (.obj i) = some b
  lo : ∀ j i b, m j = some i → r (.lo j (c j)) = some b → r' (.lo i 0) = some b
  lc : ∀ j i b, m j = some i → r (.lc j (c j)) = some b → r' (.lc i 0) = some b
  ln : ∀ j i b, m j = some i → r (.ln j (c j)) = some b → r' (.ln i 0) = some b
  yl : r' .yl = r .yl
section
variable {w : World} {A A' : Nat → Prop} {r r' : Rr} {m : Nat → Option Nat} {c : Nat → Nat}
theorem ren0_rel (hA : ∀ b, A' b → A b) (hm : RenH m c r r') {x : AV} {v : Value} (h : VR w A r x v) : VR w A' r' (ren0 m c x) v := by
  cases h with
  | lptr h ho =>
    simp only [ren0]
    split
    · rename_i i hi; exact .lptr (hm.obj _ _ _ hi h) ho
    · exact .top
  | lsl h ho hl hcap =>
    simp only [ren0]
    split
    · rename_i i hi; exact .lsl (hm.obj _ _ _ hi h) ho hl hcap
    · exact .top
  | yv h => exact .yv (by rw [hm.yl]; exact h)
  | nilmp => exact .nilmp
  | mp h =>
    simp only [ren0]
    split
    · rename_i i hi; exact .mp (hm.obj _ _ _ hi h)
    · exact .top
  | xmp b c es u a1 a2 a3 a4 a5 a6 => exact (VR.xmp b c es u a1 a2 a3 a4 a5 a6 : VR w A r _ _).weaken0 rfl hA
  | osl he hc hn h0 hl =>
    simp only [ren0]
    split
    · rename_i i hi
      split
      · rename_i hv
        have := Nat.eq_of_beq_eq_true hv; subst this
        exact .osl (hm.lo _ _ _ hi he) (hm.lc _ _ _ hi hc) (hm.ln _ _ _ hi hn) h0 hl
      · exact .top
    · exact .top
  | oss hn hle hl ha hcf =>
    simp only [ren0]
    split
    · rename_i i hi
      split
      · rename_i hv
        have := Nat.eq_of_beq_eq_true hv; subst this
        exact .oss (hm.ln _ _ _ hi hn) hle hl (fun h0 => by obtain ⟨b, h1, h2⟩ := ha h0; exact ⟨b, hm.lo _ _ _ hi h1, h2⟩) ⟨hm.lc _ _ _ hi hcf.1, hcf.2⟩
      · exact .top
    · exact .top
  | optr hb hn hrow ho =>
    simp only [ren0]
    split
    · rename_i i hi
      split
      · rename_i hv
        have := Nat.eq_of_beq_eq_true hv; subst this
        exact .optr (hm.lo _ _ _ hi hb) (hm.ln _ _ _ hi hn) hrow ho
      · exact .top
    · exact .top
  | top => exact .top
  | int => exact .int
  | bool => exact .bool
  | str => exact .str
  | nilptr => exact .nilptr
  | xptr u a b c d e f => exact (VR.xptr u a b c d e f : VR w A r _ _).weaken0 rfl hA
  | nilsl => exact .nilsl
  | xsl b o u a c d e f g => exact (VR.xsl b o u a c d e f g : VR w A r _ _).weaken0 rfl hA
  | fn a b c d =>
    simp only [ren0]
    split
    · rename_i hn; exact (VR.fn a b c d : VR w A r _ _).weaken0 hn hA
    · exact .top
  | nilfn => exact .nilfn
  | nilif => exact .nilif
  | agg a b => exact .top
  | tup a b => exact .top
theorem ren0s_rel (hA : ∀ b, A' b → A b) (hm : RenH m c r r') {xs : List AV} {us : Array Value} (h : VRs w A r xs us) : VRs w A' r' (xs.map (ren0 m c)) us :=
  ⟨by simpa using h.1, fun i x u hx hu => by
    rw [List.getElem?_map, Option.map_eq_some_iff] at hx
    obtain ⟨y, hy', rfl⟩ := hx
    exact ren0_rel hA hm (h.2 i y u hy' hu)⟩
theorem renA_rel (hA : ∀ b, A' b → A b) (hm : RenH m c r r') {x : AV} {v : Value} (h : VR w A r x v) : VR w A' r' (renA m c x) v := by
  cases x with
  | fn f xs ys =>
    cases h with
    | fn a b c d =>
      have k1 := ren0s_rel hA hm ⟨a, c⟩
      have k2 := ren0s_rel hA hm ⟨b, d⟩
      exact .fn k1.1 k2.1 k1.2 k2.2
  | agg cs => cases h with | agg a b => have k1 := ren0s_rel hA hm ⟨a, b⟩; exact .agg k1.1 k1.2
  | tup cs => cases h with | tup a b => have k1 := ren0s_rel hA hm ⟨a, b⟩; exact .tup k1.1 k1.2
  | _ => exact ren0_rel hA hm h
theorem renAs_rel (hA : ∀ b, A' b → A b) (hm : RenH m c r r') {xs : List AV} {us : Array Value} (h : VRs w A r xs us) : VRs w A' r' (xs.map (renA m c)) us :=
  ⟨by simpa using h.1, fun i x u hx hu => by
    rw [List.getElem?_map, Option.map_eq_some_iff] at hx
    obtain ⟨y, hy', rfl⟩ := hx
    exact renA_rel hA hm (h.2 i y u hy' hu)⟩
end
def keepEnv (live : List Nat) : Nat → List AV → List AV
  | _, [] => []
  | i, x :: xs => (if live.contains i then x else .top) :: keepEnv live (i + 1) xs
theorem keepEnv_get (live : List Nat) : ∀ (env : List AV) (i j : Nat), (keepEnv live i env)[j]? = (env[j]?).map fun x => if live.contains (i + j) then x else .top
  | [], i, j => by simp [keepEnv]
  | x :: xs, i, j => by
    cases j with
    | zero => simp [keepEnv]
    | succ j => simp only [keepEnv, List.getElem?_cons_succ, keepEnv_get live xs (i + 1) j, Nat.add_assoc, Nat.add_comm 1 j]
def reach (loc : List Blk) : Nat → List Nat → List Nat → List Nat
  | 0, _, seen => seen
  | _ + 1, [], seen => seen
  | n + 1, j :: todo, seen => if seen.contains j then reach loc n todo seen else match loc[j]? with
    | some (.flat _ cs) => reach loc n (idsAll cs ++ todo) (seen ++ [j])
    | some (.list ..) => reach loc n todo (seen ++ [j])
    | some (.map ..) => reach loc n todo (seen ++ [j])
    | none => reach loc n todo seen
def verOf (loc : List Blk) (j : Nat) : Nat := match loc[j]? with
  | some (.list _ _ v _ _) => v
  | _ => 0
def pickB (m : Nat → Option Nat) (c : Nat → Nat) (loc : List Blk) : List Nat → Option (List Blk)
  | [] => some []
  | j :: js => match loc[j]? with
    | some b => match pickB m c loc js with
      | some bs => some (renB m c b :: bs)
      | none => none
    | none => none
theorem pickB_get {m : Nat → Option Nat} {c : Nat → Nat} {loc : List Blk} : ∀ {js : List Nat} {bs : List Blk}, pickB m c loc js = some bs → bs.length = js.length ∧ ∀ (i j : Nat), js[i]? = some j → ∃ b, loc[j]? = some b ∧ bs[i]? = some (renB m c b)
  | [], bs, h => by simp [pickB] at h; subst h; exact ⟨rfl, fun i j hi => by simp at hi⟩
  | j :: js, bs, h => by
    simp only [pickB] at h
    split at h
    · rename_i b hb
      split at h
      · rename_i bs' h'
        injection h with h; subst h
        obtain ⟨h1, h2⟩ := pickB_get h'
        refine ⟨by simp [h1], fun i k hi => ?_⟩
        cases i with
        | zero => simp at hi; subst hi; exact ⟨b, hb, rfl⟩
        | succ i => simpa using h2 i k (by simpa using hi)
      · simp at h
    · simp at h
def nodupB : List Nat → Bool
  | [] => true
  | j :: js => !js.contains j && nodupB js
theorem nodupB_inj : ∀ {js : List Nat}, nodupB js = true → ∀ (a b j : Nat), js[a]? = some j → js[b]? = some j → a = b
  | [], _, a, b, j, h, _ => by simp at h
  | k :: js, hn, a, b, j, ha, hb => by
    simp only [nodupB, Bool.and_eq_true, Bool.not_eq_true', List.contains_eq_mem, decide_eq_false_iff_not] at hn
    cases a with
    | zero => cases b with
      | zero => rfl
      | succ b => simp at ha hb; subst ha; exact absurd (List.mem_of_getElem? hb) hn.1
    | succ a => cases b with
      | zero => simp at ha hb; subst hb; exact absurd (List.mem_of_getElem? ha) hn.1
      | succ b => have := nodupB_inj hn.2 a b j (by simpa using ha) (by simpa using hb); omega
def prune (live : List Nat) (st : St) : St :=
  let env := keepEnv live 0 st.env
  let ks := reach st.loc (st.loc.length * st.loc.length + 1000) (idsAll env ++ idsAll st.sav) []
  let m := fun j => idxOf ks j 0
  let c := verOf st.loc
  match nodupB ks with
  | true => match pickB m c st.loc ks with
    | some bs => { st with env := env.map (renA m c), sav := st.sav.map (renA m c), loc := bs }
    | none => st
  | false => st
theorem prune_tidy (live : List Nat) (st : St) : Tidy st (prune live st) := by
  unfold prune
  simp only
  split
  · rename_i hn
    split
    · rename_i bs hb
      refine ⟨rfl, fun X yl A0 r ds sv a w h => ?_⟩
      generalize hks : reach st.loc (st.loc.length * st.loc.length + 1000) (idsAll (keepEnv live 0 st.env) ++ idsAll st.sav) [] = ks at hn hb ⊢
      obtain ⟨hl, hg⟩ := pickB_get hb
      let c := verOf st.loc
      let r' : Rr := fun x => match x with
        | .yl => r .yl
        | .obj i => (ks[i]?).bind fun j => r (.obj j)
        | .lo i v => if v = 0 then (ks[i]?).bind fun j => r (.lo j (c j)) else none
        | .lc i v => if v = 0 then (ks[i]?).bind fun j => r (.lc j (c j)) else none
        | .ln i v => if v = 0 then (ks[i]?).bind fun j => r (.ln j (c j)) else none
      have hinv : ∀ (i b : Nat), r' (.obj i) = some b → ∃ j : Nat, ks[i]? = some j ∧ r (.obj j) = some b := fun i b hi => by
        simp only [r', Option.bind_eq_some_iff] at hi; exact hi
      have hinvL : ∀ (i v b : Nat), r' (.lo i v) = some b → ∃ j : Nat, ks[i]? = some j ∧ v = 0 ∧ r (.lo j (c j)) = some b := fun i v b hi => by
        simp only [r'] at hi
        split at hi
        · rename_i hv
          rw [Option.bind_eq_some_iff] at hi
          obtain ⟨j, h1, h2⟩ := hi; exact ⟨j, h1, hv, h2⟩
        · cases hi
      have hownR : ∀ b, OwnR r' b → OwnR r b := fun b hb => by
        rcases hb with ⟨i, h1⟩ | ⟨i, v, h1⟩
        · obtain ⟨j, _, hj⟩ := hinv i b h1; exact .inl ⟨j, hj⟩
        · obtain ⟨j, _, _, hj⟩ := hinvL i v _ h1; exact .inr ⟨j, _, hj⟩
      have hsub : ∀ b, AR A0 r' ds b → AR A0 r ds b := fun b hb' => by
        rcases hb' with h1 | h1 | h1
        · exact .inl h1
        · exact .inr (.inl (hownR b h1))
        · exact .inr (.inr h1)
      have hix : ∀ {j i : Nat}, idxOf ks j 0 = some i → ks[i]? = some j := fun {j i} hi => by
        have := (idxOf_get hi).2
        simpa using this
      have hm : RenH (fun j => idxOf ks j 0) c r r' := ⟨fun j i b hi hj => by simp only [r', hix hi]; exact hj, fun j i b hi hj => by simp only [r', hix hi, if_true]; exact hj, fun j i b hi hj => by simp only [r', hix hi, if_true]; exact hj, fun j i b hi hj => by simp only [r', hix hi, if_true]; exact hj, rfl⟩
      have henv : VRs w (AR A0 r ds) r (keepEnv live 0 st.env) a.tmps := by
        have hlen : ∀ (env : List AV) (i : Nat), (keepEnv live i env).length = env.length := fun env => by
          induction env with
          | nil => intro i; rfl
          | cons x xs ih => intro i; simp [keepEnv, ih]
        refine ⟨by rw [hlen]; exact h.env.1, fun i x u hx hu => ?_⟩
        rw [keepEnv_get, Option.map_eq_some_iff] at hx
        obtain ⟨y, hy, rfl⟩ := hx
        split
        · exact h.env.2 i y u hy hu
        · exact .top
      have hbs : ∀ (i : Nat) (k : Blk), bs[i]? = some k → ∃ j k0, ks[i]? = some j ∧ st.loc[j]? = some k0 ∧ k = renB (fun j => idxOf ks j 0) c k0 := fun i k hk => by
        have hi : i < ks.length := by rw [← hl]; exact (List.getElem?_eq_some_iff.1 hk).1
        obtain ⟨b, h1, h2⟩ := hg i ks[i] (List.getElem?_eq_getElem hi)
        rw [hk] at h2; injection h2 with h2
        exact ⟨ks[i], b, List.getElem?_eq_getElem hi, h1, h2⟩
      have hkk : Keeps (AR A0 r ds) (AR A0 r' ds) w w := ⟨Nat.le_refl _, fun _ _ _ => rfl, fun b hb => .inl (hsub b hb)⟩
      refine ⟨r', renAs_rel hsub hm henv, renAs_rel hsub hm h.sav, fun i k hk => ?_, fun i b hi => ?_, fun i v b hi => ?_, fun i j b hi hj => ?_, fun i j v u b hi hj => ?_, fun i j v b hi hj => ?_, fun b hb => h.dis b (hownR b hb), fun b hb => h.lt b (hownR b hb), fun b hb => h.sepD b (hownR b hb), h.a0, h.clo _ _ _ _ _ h.inv ⟨rfl, rfl, rfl, Nat.le_refl _, fun _ _ _ => rfl, Nat.le_refl _⟩ (fun b hb' => ?_), h.clo, h.dfr, h.dnd, h.dok, h.ylv⟩
      · obtain ⟨j, k0, h1, h2, rfl⟩ := hbs i k hk
        have hmem := h.mem j k0 h2
        cases k0 with
        | flat t cs =>
          obtain ⟨b, hb1, us, hh, hc⟩ := hmem
          exact ⟨b, by simp only [r', h1]; exact hb1, us, hh, renAs_rel hsub hm hc⟩
        | map t ag wd n g =>
          obtain ⟨b, hb1, es, clock, hh, hes⟩ := hmem
          exact ⟨b, by simp only [r', h1]; exact hb1, es, clock, hh, es_keep hes hkk⟩
        | list t wd v n g =>
          obtain ⟨e, c', xs, g1, g2, g3, g4, g5, g6, hown, hrows⟩ := hmem
          have hcv : c j = v := by simp only [c, verOf, h2]
          exact ⟨e, c', xs, by simp only [r', h1, if_true]; rw [← hcv] at g1; exact g1, by simp only [r', h1, if_true]; rw [← hcv] at g2; exact g2, by simp only [r', h1, if_true]; rw [← hcv] at g3; exact g3, g4, g5, g6, hown, rows_keep hrows hkk⟩
      · obtain ⟨j, h1, hj⟩ := hinv i b hi
        obtain ⟨b', hb', h2⟩ := hg i j h1
        obtain ⟨k0, h3, ho⟩ := h.dom j b hj
        rw [show st.loc[j]? = _ from h3] at hb'; injection hb' with hb'; subst hb'
        exact ⟨_, h2, by cases k0 <;> first | rfl | cases ho⟩
      · obtain ⟨j, h1, hv, hj⟩ : ∃ j : Nat, ks[i]? = some j ∧ v = 0 ∧ (r (.lo j (c j)) = some b ∨ r (.lc j (c j)) = some b ∨ r (.ln j (c j)) = some b) := by
          by_cases hv : v = 0
          · subst hv
            simp only [r', if_true, Option.bind_eq_some_iff] at hi
            rcases hi with ⟨j, h1, h2⟩ | ⟨j, h1, h2⟩ | ⟨j, h1, h2⟩
            · exact ⟨j, h1, rfl, .inl h2⟩
            · exact ⟨j, h1, rfl, .inr (.inl h2)⟩
            · exact ⟨j, h1, rfl, .inr (.inr h2)⟩
          · simp [r', hv] at hi
        obtain ⟨b', hb', h2⟩ := hg i j h1
        obtain ⟨t, wd, v', n, g, h3, _⟩ := h.domL j _ b hj
        rw [show st.loc[j]? = _ from h3] at hb'; injection hb' with hb'; subst hb'
        exact ⟨_, _, _, _, _, h2, Nat.le_of_eq hv⟩
      · obtain ⟨j1, h1, h2⟩ := hinv i b hi
        obtain ⟨j2, h3, h4⟩ := hinv j b hj
        have := h.inj _ _ _ h2 h4
        subst this
        exact nodupB_inj hn _ _ _ h1 h3
      · obtain ⟨j1, h1, _, h2⟩ := hinvL i v _ hi
        obtain ⟨j2, h3, _, h4⟩ := hinvL j u _ hj
        have := h.injL _ _ _ _ _ h2 h4
        subst this
        exact nodupB_inj hn _ _ _ h1 h3
      · obtain ⟨j1, h1, h2⟩ := hinv i b hi
        obtain ⟨j2, h3, _, h4⟩ := hinvL j v _ hj
        exact h.sep _ _ _ _ h2 h4
      · rcases hb' with h1 | h1
        · exact .inl (.inl (hownR b h1))
        · exact .inl (.inr h1)
    · exact ⟨rfl, fun X yl A0 r ds sv a w h => ⟨r, h⟩⟩
  · exact ⟨rfl, fun X yl A0 r ds sv a w h => ⟨r, h⟩⟩
end Go.Proofs.YtjbhooodjmjdkaaGreat.Ev
