/- The evaluator: code, functions, the whole. -/
import Derived.Test.YtkajafmphemedaaEvP
namespace Go.Proofs.Ytkajafmphemedaa.Ev
open Go.RowKit

/-! ### Loops and ranges over functions, by their numbers -/

/-- The first region of a piece of code, and how many loops lead to it. -/
def firstReg : Code → Nat → Option (Nat × Nat)
  | .region id _ _, d => some (id, d)
  | .seq a b, d => match firstReg a d with
    | some r => some r
    | none => firstReg b d
  | .cond _ a b, d => match firstReg a d with
    | some r => some r
    | none => firstReg b d
  | .block _ c, d => firstReg c d
  | .loop c, d => firstReg c (d + 1)
  | .rangeFunc _ _ a b, d => match firstReg a (d + 1) with
    | some r => some r
    | none => firstReg b (d + 1)
  | .scope c, d => firstReg c d
  | _, _ => none

/-- A loop's number. -/
def keyOf (c : Code) : Nat := match firstReg c 0 with
  | some (i, d) => 8 * i + d
  | none => 0

def nodesOf : Code → List Code
  | .seq a b => nodesOf a ++ nodesOf b
  | .cond _ a b => nodesOf a ++ nodesOf b
  | .block _ c => nodesOf c
  | .scope c => nodesOf c
  | .loop c => .loop c :: nodesOf c
  | .rangeFunc f ps a b => .rangeFunc f ps a b :: (nodesOf a ++ nodesOf b)
  | _ => []

/-- What the evaluator may look up: calls; functions that are ranged over; loops and ranges that are proved; what is still needed before a region. -/
structure Cfg where
  call : FuncId → List AV → T AV
  iter : FuncId → List AV → List AV → (Nat → Bool) → T (List (List AV × Bool))
  node : Nat → St → Option (T (Exit × St))
  live : Nat → Option (List Nat)
  fuel : Nat

def seqT (k : St → T (Exit × St)) (p : Exit × St) : T (Exit × St) := match p.1 with
  | .normal => k p.2
  | e => .ret (e, p.2)

def loopT (body : St → T (Exit × St)) : Nat → St → T (Exit × St)
  | 0, _ => .fail
  | n + 1, st => (body st).bind (seqT (loopT body n))

def roundT (assign body : St → T (Exit × St)) (ps : Array Tmp) (x : List AV) (st : St) : T (Exit × St) :=
  match x.length == ps.size with
  | true => (assign { st with env := bindPs st.env ps.toList x, sav := st.env ++ st.sav }).bind fun p => match p.1 with
    | .normal => (body p.2).bind fun q => match decide (st.env.length ≤ q.2.sav.length) && roundEnd q.1 with
      | true => .ret (q.1, { q.2 with env := q.2.sav.take st.env.length, sav := q.2.sav.drop st.env.length })
      | false => .fail
    | _ => .fail
  | false => .fail

/-- The rounds; `some i`: the i-th one is the last. -/
def roundsT (R : List AV → St → T (Exit × St)) : List (List AV × Bool) → St → Nat → T (Option Nat × Exit × St)
  | [], st, _ => .ret (none, .normal, st)
  | (x, b) :: rest, st, i => (R x st).bind fun p => match jumpOf p.1 with
    | none => match b with
      | true => roundsT R rest p.2 (i + 1)
      | false => .fail
    | some _ => match b with
      | true => .ret (some i, p.1, p.2)
      | false => match rest with
        | [] => .ret (none, p.1, p.2)
        | _ :: _ => .fail

def okFn (P : Program) (g : FuncId) : Bool := match P.funcs[g]? with
  | some fn => nameOk fn
  | none => false

def rangeT (P : Program) (C : Cfg) (R : List AV → St → T (Exit × St)) (f : Operand) (st : St) : T (Exit × St) :=
  match evO st.env f with
  | some (.fn (.func g) us vs) => match okFn P g && (us.all noL && vs.all noL) with
    | true => (C.iter g us vs (fun _ => true)).bind fun evs => (roundsT R evs st 0).bind fun p => match p.1 with
      | none => .ret (p.2.1, p.2.2)
      | some i => (C.iter g us vs (fun k => !(Nat.beq k i))).bind fun evs' => (roundsT R evs' st 0).bind fun q => match q.1 with
        | none => .ret (q.2.1, q.2.2)
        | some _ => .fail
    | false => .fail
  | _ => .fail

def pruneAt (live : Option (List Nat)) (st : St) : St := match live with
  | some l => prune l st
  | none => st

def litO (st : St) (c : Operand) (b : Bool) : St := match c with
  | .tmp d => litSlot st d b
  | _ => st

def DT (P : Program) (C : Cfg) : Code → St → T (Exit × St)
  | .skip, st => .ret (.normal, st)
  | .region id ops draw, st => match draw with
    | true => (runTd P C.call ops (masks ops.toList []) ops.toList 0 (pruneAt (C.live id) st) [] false).bind fun st' => forceS st' fun st'' => .ret (.normal, st'')
    | false => (runT P C.call ops ops.toList (pruneAt (C.live id) st)).bind fun st' => forceS st' fun st'' => .ret (.normal, st'')
  | .seq a b, st => (DT P C a st).bind (seqT (DT P C b))
  | .cond c a b, st => match evO st.env c with
    | some (.bool t) => .br t (DT P C a (litO st c true)) (DT P C b (litO st c false))
    | _ => .fail
  | .block id c, st => (DT P C c st).bind fun p => .ret (leave id p.1, p.2)
  | .loop c, st => match C.node (keyOf (.loop c)) st with
    | some t => t
    | none => loopT (DT P C c) C.fuel st
  | .rangeFunc f ps assign body, st => match C.node (keyOf (.rangeFunc f ps assign body)) st with
    | some t => t
    | none => rangeT P C (roundT (DT P C assign) (DT P C body) ps) f st
  | .exit id, st => .ret (.exit id, st)
  | .ret, st => .ret (.ret, st)
  | _, _ => .fail

/-- All regions that draw their order can be carried out in the order of the text. -/
def codeOk : Code → Bool
  | .region _ ops draw => !draw || regOk ops (masks ops.toList [])
  | .seq a b => codeOk a && codeOk b
  | .cond _ a b => codeOk a && codeOk b
  | .block _ c => codeOk c
  | .loop c => codeOk c
  | .rangeFunc _ _ a b => codeOk a && codeOk b
  | .scope c => codeOk c
  | _ => true

/-- What the table of a function says holds; Ns: its loops. -/
structure CfgOk (P : Program) (C : Cfg) (Ns : List Code) : Prop where
  call : ∀ f args v, (C.call f args).run = some v → PC P f args v
  iter : ∀ g us vs bs evs, (C.iter g us vs bs).run = some evs → IC P g us vs evs
  node : ∀ c, c ∈ Ns → ∀ st t e st', C.node (keyOf c) st = some t → t.run = some (e, st') → Ld P c st e st'

section
variable {P : Program} {C : Cfg} {Ns : List Code}

theorem lit_sameO {st : St} {c : Operand} {b : Bool} (h : evO st.env c = some (.bool b)) : litO st c b = st := by
  cases c with
  | tmp d => exact lit_same h
  | _ => rfl

theorem loopT_ld {body : St → T (Exit × St)} {c : Code} (hb : ∀ st e st', (body st).run = some (e, st') → Ld P c st e st') : ∀ (n : Nat) (st : St) (e : Exit) (st' : St), (loopT body n st).run = some (e, st') → LdL P c st e st'
  | 0, st, e, st', h => by simp [loopT, T.run] at h
  | n + 1, st, e, st', h => by
    obtain ⟨⟨e1, st1⟩, h1, h2⟩ := T.run_bind h
    have hl := hb _ _ _ h1
    unfold seqT at h2
    split at h2
    · rename_i he
      simp only at he; subst he
      exact LdL.more hl (loopT_ld hb n _ _ _ h2)
    · rename_i he
      simp only [T.run, Option.some.injEq, Prod.mk.injEq] at h2
      obtain ⟨rfl, rfl⟩ := h2
      exact LdL.done hl (fun hn => he hn)

theorem seqT_ld {a b : Code} {st : St} {e : Exit} {st' : St} {p : Exit × St} {k : St → T (Exit × St)} (ha : Ld P a st p.1 p.2) (hb : ∀ st e st', (k st).run = some (e, st') → Ld P b st e st') (h : (seqT k p).run = some (e, st')) : Ld P (.seq a b) st e st' := by
  unfold seqT at h
  split at h
  · rename_i he
    rw [he] at ha
    exact ha.seq (hb _ _ _ h)
  · rename_i he
    simp only [T.run, Option.some.injEq, Prod.mk.injEq] at h
    obtain ⟨rfl, rfl⟩ := h
    exact ha.seqX (fun hn => he hn)

theorem pruneAt_tidy (l : Option (List Nat)) (st : St) : Tidy st (pruneAt l st) := by
  cases l with
  | none => exact ⟨rfl, fun X yl A0 r ds sv a w h => ⟨r, h⟩⟩
  | some l => exact prune_tidy l st

theorem roundT_round {ps : Array Tmp} {assign body : Code} {fa fb : St → T (Exit × St)} (ha : ∀ st e st', (fa st).run = some (e, st') → Ld P assign st e st') (hb : ∀ st e st', (fb st).run = some (e, st') → Ld P body st e st')
    {x : List AV} {st st' : St} {e : Exit} (h : (roundT fa fb ps x st).run = some (e, st')) : Round P ps assign body st st' x e := by
  unfold roundT at h
  split at h
  · rename_i hx
    obtain ⟨⟨e1, U⟩, h1, h2⟩ := T.run_bind h
    simp only at h2
    split at h2
    · obtain ⟨⟨e2, W⟩, h3, h4⟩ := T.run_bind h2
      simp only at h4
      split at h4
      · rename_i hc
        simp only [T.run, Option.some.injEq, Prod.mk.injEq] at h4
        obtain ⟨rfl, rfl⟩ := h4
        simp only [Bool.and_eq_true, decide_eq_true_eq] at hc
        exact ⟨by simpa using hx, ⟨U, W, ha _ _ _ h1, hb _ _ _ h3, (List.take_append_drop _ _).symm, by simp [hc.1], rfl, rfl⟩, hc.2⟩
      · simp [T.run] at h4
    · simp [T.run] at h2
  · simp [T.run] at h

theorem jump_none {e : Exit} (h : roundEnd e = true) (hj : jumpOf e = none) : e = .normal := by
  cases e <;> simp_all [roundEnd, jumpOf]

theorem roundsT_chain {ps : Array Tmp} {assign body : Code} {R : List AV → St → T (Exit × St)} (hR : ∀ x st e st', (R x st).run = some (e, st') → Round P ps assign body st st' x e) :
    ∀ (evs : List (List AV × Bool)) (st : St) (i : Nat) (e : Exit) (st' : St), (roundsT R evs st i).run = some (none, e, st') →
      ∃ S : Nat → St, S 0 = st ∧ S evs.length = st' ∧ (∀ i x b, evs[i]? = some (x, b) → ∃ ei, Round P ps assign body (S i) (S (i + 1)) x ei ∧ (if i + 1 = evs.length then ei = e else ei = .normal) ∧ b = (jumpOf ei).isNone) ∧ roundEnd e = true ∧ (evs = [] → e = .normal)
  | [], st, i, e, st', h => by
    simp [roundsT, T.run] at h
    obtain ⟨rfl, rfl⟩ := h
    exact ⟨fun _ => st, rfl, rfl, fun i x b hi => by simp at hi, rfl, fun _ => rfl⟩
  | (x, b) :: rest, st, i, e, st', h => by
    simp only [roundsT] at h
    obtain ⟨⟨e1, st1⟩, h1, h2⟩ := T.run_bind h
    have hr := hR _ _ _ _ h1
    simp only at h2
    split at h2
    · rename_i hj
      have en := jump_none hr.ends hj
      subst en
      split at h2
      · obtain ⟨S, hS0, hSn, hSr, he, h0⟩ := roundsT_chain hR rest st1 _ e st' h2
        refine ⟨fun k => match k with | 0 => st | k + 1 => S k, rfl, hSn, fun k y c hk => ?_, he, fun hn => by cases hn⟩
        cases k with
        | zero =>
          simp at hk
          obtain ⟨rfl, rfl⟩ := hk
          refine ⟨.normal, by simpa [hS0] using hr, ?_, rfl⟩
          split
          · rename_i hl
            have : rest = [] := List.eq_nil_of_length_eq_zero (by simpa using hl.symm)
            exact (h0 this).symm
          · rfl
        | succ k =>
          obtain ⟨ei, g1, g2, g3⟩ := hSr k y c (by simpa using hk)
          refine ⟨ei, g1, ?_, g3⟩
          simpa using g2
      · simp [T.run] at h2
    · rename_i c hj
      split at h2
      · simp [T.run] at h2
      · split at h2
        · simp [T.run] at h2
          obtain ⟨rfl, rfl⟩ := h2
          refine ⟨fun k => match k with | 0 => st | _ + 1 => st1, rfl, rfl, fun k y c' hk => ?_, hr.ends, fun hn => by cases hn⟩
          cases k with
          | zero => simp at hk; obtain ⟨rfl, rfl⟩ := hk; exact ⟨e1, hr, by simp, by simp [hj]⟩
          | succ k => simp at hk
        · simp [T.run] at h2

theorem rangeT_ld (hC : CfgOk P C Ns) {ps : Array Tmp} {assign body : Code} {R : List AV → St → T (Exit × St)} (hR : ∀ x st e st', (R x st).run = some (e, st') → Round P ps assign body st st' x e)
    {f : Operand} {st st' : St} {e : Exit} (h : (rangeT P C R f st).run = some (e, st')) : Ld P (.rangeFunc f ps assign body) st e st' := by
  unfold rangeT at h
  split at h
  · rename_i g us vs hf
    split at h
    · rename_i hok
      simp only [Bool.and_eq_true] at hok
      obtain ⟨hg, hn1, hn2⟩ := hok
      have hfn : ∃ fn, P.funcs[g]? = some fn ∧ nameOk fn = true := by
        unfold okFn at hg
        split at hg
        · rename_i fn hfn; exact ⟨fn, hfn, hg⟩
        · simp at hg
      obtain ⟨fn, hfn, hnm⟩ := hfn
      have fin : ∀ evs bs e st', (C.iter g us vs bs).run = some evs → (roundsT R evs st 0).run = some (none, e, st') → Ld P (.rangeFunc f ps assign body) st e st' := fun evs bs e st' h1 h2 => by
        obtain ⟨S, rfl, rfl, hSr, he, h0⟩ := roundsT_chain hR evs st 0 e st' h2
        exact Ld.range hf hfn hnm hn1 hn2 (hC.iter _ _ _ _ _ h1) hSr he h0
      obtain ⟨evs, h1, h2⟩ := T.run_bind h
      obtain ⟨⟨s, e1, st1⟩, h3, h4⟩ := T.run_bind h2
      simp only at h4
      split at h4
      · simp [T.run] at h4
        obtain ⟨rfl, rfl⟩ := h4
        exact fin _ _ _ _ h1 h3
      · obtain ⟨evs', h5, h6⟩ := T.run_bind h4
        obtain ⟨⟨s', e2, st2⟩, h7, h8⟩ := T.run_bind h6
        simp only at h8
        split at h8
        · simp [T.run] at h8
          obtain ⟨rfl, rfl⟩ := h8
          exact fin _ _ _ _ h5 h7
        · simp [T.run] at h8
    · simp [T.run] at h
  · simp [T.run] at h

theorem DT_ld (hC : CfgOk P C Ns) (hm : P.follows .mixedOrders = true) : ∀ (c : Code), codeOk c = true → (∀ x, x ∈ nodesOf c → x ∈ Ns) → ∀ (st : St) (e : Exit) (st' : St), (DT P C c st).run = some (e, st') → Ld P c st e st' := by
  intro c
  induction c with
  | skip => intro _ _ st e st' h; simp [DT, T.run] at h; obtain ⟨rfl, rfl⟩ := h; exact Ld.skip
  | region id ops draw =>
    intro hok hn st e st' h
    simp only [DT] at h
    cases draw with
    | true =>
      obtain ⟨st1, h1, h2⟩ := T.run_bind h
      rw [forceS_eq] at h2
      simp [T.run] at h2; obtain ⟨rfl, rfl⟩ := h2
      exact Ld.pre (pruneAt_tidy (C.live id) st) (Ld.regionAny (cl := fun f args => (C.call f args).run) hC.call hm (by simpa [codeOk] using hok) (runTd_wk _ _ _ _ _ _ h1))
    | false =>
      obtain ⟨st1, h1, h2⟩ := T.run_bind h
      rw [forceS_eq] at h2
      simp [T.run] at h2; obtain ⟨rfl, rfl⟩ := h2
      exact Ld.pre (pruneAt_tidy (C.live id) st) (Ld.region (runT_ld hC.call ops.toList 0 _ _ (fun j => by simp) h1))
  | seq a b iha ihb =>
    intro hok hn st e st' h
    simp only [codeOk, Bool.and_eq_true] at hok
    simp only [DT] at h
    obtain ⟨p, h1, h2⟩ := T.run_bind h
    exact seqT_ld (iha hok.1 (fun x hx => hn x (List.mem_append_left _ hx)) st p.1 p.2 h1) (ihb hok.2 (fun x hx => hn x (List.mem_append_right _ hx))) h2
  | cond c a b iha ihb =>
    intro hok hn st e st' h
    simp only [codeOk, Bool.and_eq_true] at hok
    simp only [DT] at h
    split at h
    · rename_i t ht
      cases t with
      | true => rw [lit_sameO ht] at h; exact Ld.cond ht (iha hok.1 (fun x hx => hn x (List.mem_append_left _ hx)) _ _ _ h)
      | false => rw [lit_sameO ht] at h; exact Ld.cond ht (ihb hok.2 (fun x hx => hn x (List.mem_append_right _ hx)) _ _ _ h)
    · simp [T.run] at h
  | block id c ih =>
    intro hok hn st e st' h
    simp only [DT] at h
    obtain ⟨p, h1, h2⟩ := T.run_bind h
    simp [T.run] at h2; obtain ⟨rfl, rfl⟩ := h2
    exact Ld.block (ih (by simpa [codeOk] using hok) hn _ _ _ h1)
  | loop c ih =>
    intro hok hn st e st' h
    simp only [DT] at h
    split at h
    · rename_i t ht
      exact hC.node _ (hn _ (List.mem_cons_self ..)) _ _ _ _ ht h
    · exact LdL.loop (loopT_ld (ih (by simpa [codeOk] using hok) (fun x hx => hn x (List.mem_cons_of_mem _ hx))) _ _ _ _ h)
  | rangeFunc f ps assign body iha ihb =>
    intro hok hn st e st' h
    simp only [codeOk, Bool.and_eq_true] at hok
    simp only [DT] at h
    split at h
    · rename_i t ht
      exact hC.node _ (hn _ (List.mem_cons_self ..)) _ _ _ _ ht h
    · exact rangeT_ld hC (fun x st e st' hx => roundT_round (iha hok.1 (fun x hx => hn x (List.mem_cons_of_mem _ (List.mem_append_left _ hx)))) (ihb hok.2 (fun x hx => hn x (List.mem_cons_of_mem _ (List.mem_append_right _ hx)))) hx) h
  | exit id => intro _ _ st e st' h; simp [DT, T.run] at h; obtain ⟨rfl, rfl⟩ := h; exact Ld.exit
  | ret => intro _ _ st e st' h; simp [DT, T.run] at h; obtain ⟨rfl, rfl⟩ := h; exact Ld.ret
  | scope c => intro _ _ st e st' h; simp [DT, T.run] at h
  | label l => intro _ _ st e st' h; simp [DT, T.run] at h
  | goto l => intro _ _ st e st' h; simp [DT, T.run] at h
  | refuse why => intro _ _ st e st' h; simp [DT, T.run] at h

end

/-! ### Functions -/

/-- What is proved already, and hints. -/
structure Tab where
  call : FuncId → List AV → Option (T AV)
  iter : FuncId → List AV → List AV → (Nat → Bool) → Option (T (List (List AV × Bool)))
  node : FuncId → Nat → St → Option (T (Exit × St))
  live : FuncId → Nat → Option (List Nat)
  fuel : Nat

structure Lvl where
  call : FuncId → List AV → T AV
  iter : FuncId → List AV → List AV → (Nat → Bool) → T (List (List AV × Bool))

def endOk : Exit → Bool
  | .normal => true
  | .ret => true
  | _ => false

def mkCfg (B : Tab) (L : Lvl) (f : FuncId) : Cfg := { call := L.call, iter := L.iter, node := B.node f, live := B.live f, fuel := B.fuel }

def callBody (P : Program) (C : Cfg) (f : FuncId) (args : List AV) : T AV := match P.funcs[f]? with
  | some fn => match fn.body with
    | some c => (DT P C c (entry fn args)).bind fun p => match endOk p.1 && p.2.out.isEmpty with
      | true => T.ofOpt (resAV P p.2 fn)
      | false => .fail
    | none => .fail
  | none => .fail

def iterBody (P : Program) (C : Cfg) (f : FuncId) (us vs : List AV) (bs : Nat → Bool) : T (List (List AV × Bool)) := match P.funcs[f]? with
  | some fn => match fn.body with
    | some c => (DT P C c { entry fn (us ++ [.yv] ++ vs) with bs := bs }).bind fun p => match endOk p.1 with
      | true => match resAV P p.2 fn with
        | some _ => .ret p.2.out.reverse
        | none => .fail
      | false => .fail
    | none => .fail
  | none => .fail

def lvl (P : Program) (B : Tab) : Nat → Lvl
  | 0 => { call := fun _ _ => .fail, iter := fun _ _ _ _ => .fail }
  | d + 1 =>
    { call := fun f args => match B.call f args with
        | some t => t
        | none => callBody P (mkCfg B (lvl P B d) f) f args
      iter := fun f us vs bs => match B.iter f us vs bs with
        | some t => t
        | none => iterBody P (mkCfg B (lvl P B d) f) f us vs bs }

/-- The loops of a function with a number. -/
def nodesAt (P : Program) (f : FuncId) (k : Nat) : List Code := match P.funcs[f]? with
  | some fn => match fn.body with
    | some c => (nodesOf c).filter fun x => Nat.beq (keyOf x) k
    | none => []
  | none => []

structure TabOk (P : Program) (B : Tab) : Prop where
  call : ∀ f args t v, B.call f args = some t → t.run = some v → PC P f args v
  iter : ∀ g us vs bs t evs, B.iter g us vs bs = some t → t.run = some evs → IC P g us vs evs
  node : ∀ f k c, c ∈ nodesAt P f k → ∀ st t e st', B.node f k st = some t → t.run = some (e, st') → Ld P c st e st'

/-- What is asked of the program's text: checked once. -/
def okProg (P : Program) : Bool := P.follows .mixedOrders && P.funcs.all fun fn => match fn.body with
  | some c => codeOk c
  | none => true

section
variable {P : Program} {B : Tab}

theorem okProg_code (h : okProg P = true) {f : FuncId} {fn : Func} {c : Code} (hf : P.funcs[f]? = some fn) (hb : fn.body = some c) : codeOk c = true := by
  simp only [okProg, Bool.and_eq_true, Array.all_eq_true'] at h
  have := h.2 fn (Array.mem_of_getElem? hf)
  simpa [hb] using this

theorem okProg_mixed (h : okProg P = true) : P.follows .mixedOrders = true := by simp only [okProg, Bool.and_eq_true] at h; exact h.1

theorem endOk_or {e : Exit} (h : endOk e = true) : e = .normal ∨ e = .ret := by
  cases e <;> simp_all [endOk]

/-- The loops of a function. -/
def nodesFn (P : Program) (f : FuncId) : List Code := match P.funcs[f]? with
  | some fn => match fn.body with
    | some c => nodesOf c
    | none => []
  | none => []

theorem callBody_pc (hP : okProg P = true) {C : Cfg} {f : FuncId} (hC : CfgOk P C (nodesFn P f)) {args : List AV} {v : AV} (h : (callBody P C f args).run = some v) : PC P f args v := by
  unfold callBody at h
  split at h
  · rename_i fn hf
    split at h
    · rename_i c hb
      obtain ⟨⟨e, st⟩, h1, h2⟩ := T.run_bind h
      simp only at h2
      split at h2
      · rename_i hc
        simp only [Bool.and_eq_true, List.isEmpty_iff] at hc
        have hr : resAV P st fn = some v := by
          cases hv : resAV P st fn with
          | none => simp [hv, T.ofOpt, T.run] at h2
          | some u => simp [hv, T.ofOpt, T.run] at h2; rw [h2]
        exact PC.of_ld hf hb (DT_ld hC (okProg_mixed hP) c (okProg_code hP hf hb) (fun x hx => by simpa [nodesFn, hf, hb] using hx) _ _ _ h1) (endOk_or hc.1) hc.2 hr
      · simp [T.run] at h2
    · simp [T.run] at h
  · simp [T.run] at h

theorem iterBody_ic (hP : okProg P = true) {C : Cfg} {f : FuncId} (hC : CfgOk P C (nodesFn P f)) {us vs : List AV} {bs : Nat → Bool} {evs : List (List AV × Bool)} (h : (iterBody P C f us vs bs).run = some evs) : IC P f us vs evs := by
  unfold iterBody at h
  split at h
  · rename_i fn hf
    split at h
    · rename_i c hb
      obtain ⟨⟨e, st⟩, h1, h2⟩ := T.run_bind h
      simp only at h2
      split at h2
      · rename_i hc
        split at h2
        · rename_i x hr
          simp only [T.run, Option.some.injEq] at h2
          exact IC.of_ld hf hb bs (DT_ld hC (okProg_mixed hP) c (okProg_code hP hf hb) (fun x hx => by simpa [nodesFn, hf, hb] using hx) _ _ _ h1) (endOk_or hc) h2 hr
        · simp [T.run] at h2
      · simp [T.run] at h2
    · simp [T.run] at h
  · simp [T.run] at h

theorem nodesFn_at {f : FuncId} {c : Code} (h : c ∈ nodesFn P f) : c ∈ nodesAt P f (keyOf c) := by
  unfold nodesFn at h
  unfold nodesAt
  split at h
  · split at h
    · exact List.mem_filter.2 ⟨h, by simp⟩
    · simp at h
  · simp at h

theorem lvl_ok (hP : okProg P = true) (hB : TabOk P B) : ∀ (d : Nat) (f : FuncId), CfgOk P (mkCfg B (lvl P B d) f) (nodesFn P f)
  | 0, f => ⟨fun f args v h => by simp [mkCfg, lvl, T.run] at h, fun g us vs bs evs h => by simp [mkCfg, lvl, T.run] at h, fun c hc st t e st' h k => hB.node f _ c (nodesFn_at hc) st t e st' h k⟩
  | d + 1, f => by
    refine ⟨fun g args v h => ?_, fun g us vs bs evs h => ?_, fun c hc st t e st' h k => hB.node f _ c (nodesFn_at hc) st t e st' h k⟩
    · simp only [mkCfg, lvl] at h
      split at h
      · rename_i t ht; exact hB.call _ _ _ _ ht h
      · exact callBody_pc hP (lvl_ok hP hB d g) h
    · simp only [mkCfg, lvl] at h
      split at h
      · rename_i t ht; exact hB.iter _ _ _ _ _ _ ht h
      · exact iterBody_ic hP (lvl_ok hP hB d g) h

theorem call_pc (hP : okProg P = true) (hB : TabOk P B) (d : Nat) {f : FuncId} {args : List AV} {v : AV} (h : ((lvl P B d).call f args).run = some v) : PC P f args v :=
  (lvl_ok hP hB d 0).call f args v h

theorem body_pc (hP : okProg P = true) (hB : TabOk P B) (d : Nat) {f : FuncId} {args : List AV} {v : AV} (h : (callBody P (mkCfg B (lvl P B d) f) f args).run = some v) : PC P f args v :=
  callBody_pc hP (lvl_ok hP hB d f) h

theorem body_ic (hP : okProg P = true) (hB : TabOk P B) (d : Nat) {f : FuncId} {us vs : List AV} {bs : Nat → Bool} {evs : List (List AV × Bool)} (h : (iterBody P (mkCfg B (lvl P B d) f) f us vs bs).run = some evs) : IC P f us vs evs :=
  iterBody_ic hP (lvl_ok hP hB d f) h

end

/-- Nothing is known. -/
def noTab (fuel : Nat) : Tab := { call := fun _ _ => none, iter := fun _ _ _ _ => none, node := fun _ _ _ => none, live := fun _ _ => none, fuel }

theorem noTab_ok (P : Program) (fuel : Nat) : TabOk P (noTab fuel) :=
  ⟨fun _ _ _ _ h => by simp [noTab] at h, fun _ _ _ _ _ _ h => by simp [noTab] at h, fun _ _ _ _ _ _ _ _ h => by simp [noTab] at h⟩

end Go.Proofs.Ytkajafmphemedaa.Ev
