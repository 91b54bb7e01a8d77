/- What an operation of the evaluator depends on: its operands, and the objects that it touches. -/
import Derived.Test.YtkajafmphemedaaEvG
namespace Go.Proofs.Ytkajafmphemedaa.Ev

/-- The objects that an operation reads (false) or writes (true). -/
def touch (p : Operand → Option AV) (nx : Nat) (o : Oper) : List (Nat × Bool) := match o.op with
  | .load _ x => match p x with
    | some (.lptr j _ _ _) => [(j, false)]
    | _ => []
  | .store _ a _ => match p a with
    | some (.lptr j _ _ _) => [(j, true)]
    | _ => []
  | .alloc _ => [(nx, true)]
  | .box _ _ => [(nx, true)]
  | .buildSlice _ _ _ => [(nx, true)]
  | .call c => match c.callee with
    | .value f => match p f, mapEv p c.args.toList with
      | some (.fn _ xs ys), some vs => (idsAll xs ++ idsAll vs ++ idsAll ys).map fun j => (j, false)
      | _, _ => []
    | _ => []
  | _ => []

section
variable {P : Program} {cl : FuncId → List AV → Option AV} {p p' : Operand → Option AV} {loc loc' : Nat → Option Blk} {nx : Nat} {o : Oper}

theorem mapEv_congr : ∀ {xs : List Operand}, (∀ x ∈ xs, p x = p' x) → mapEv p xs = mapEv p' xs
  | [], _ => rfl
  | x :: xs, h => by simp only [mapEv]; rw [h x (by simp), mapEv_congr fun y hy => h y (by simp [hy])]

theorem mapParts_congr : ∀ {xs : List (Nat × Operand)}, (∀ x ∈ xs, p x.2 = p' x.2) → mapParts p xs = mapParts p' xs
  | [], _ => rfl
  | (i, x) :: xs, h => by simp only [mapParts]; rw [h (i, x) (by simp), mapParts_congr fun y hy => h y (by simp [hy])]

theorem allPlain_congr : ∀ {xs : List Operand}, (∀ x ∈ xs, p x = p' x) → allPlain p xs = allPlain p' xs
  | [], _ => rfl
  | x :: xs, h => by
    have e : plainOf p x = plainOf p' x := by unfold plainOf; rw [h x (by simp)]
    simp only [allPlain]; rw [e, allPlain_congr fun y hy => h y (by simp [hy])]

theorem boundAV_congr {x : Option Operand} {d n : Nat} (h : ∀ y ∈ x.toArray, p y = p' y) : boundAV p x d n = boundAV p' x d n := by
  cases x with
  | none => rfl
  | some y => simp only [boundAV]; rw [h y (by simp)]

theorem byCalm_congr (h : ∀ x ∈ o.op.operands, p x = p' x) : byCalm P p o = byCalm P p' o := by
  have h1 : allPlain p o.op.operands.toList = allPlain p' o.op.operands.toList := allPlain_congr fun x hx => h x (by simpa using hx)
  unfold byCalm
  rw [h1]
  cases hs : notSelect o.op && allPlain p' o.op.operands.toList with
  | false => rfl
  | true =>
    have hns : ∀ cs b, o.op ≠ .select cs b := fun cs b e => by simp [e, notSelect] at hs
    have : execOp (rhoOf p) o = execOp (rhoOf p') o := execOp_congr o hns fun x hx => by
      unfold rhoOf plainOf; rw [h x hx]
    simp only [this]

theorem native_congr (h : ∀ x ∈ o.op.operands, p x = p' x) (hl : ∀ t ∈ touch p nx o, loc t.1 = loc' t.1) : native P p loc nx o = native P p' loc' nx o := by
  unfold native
  unfold touch at hl
  cases hop : o.op with
  | move x => rw [hop] at h; simp only [h x (by simp [Op.operands])]
  | assign x => rw [hop] at h; simp only [h x (by simp [Op.operands])]
  | pick c a b => rw [hop] at h; simp only [h c (by simp [Op.operands]), h a (by simp [Op.operands]), h b (by simp [Op.operands])]
  | alloc t => rfl
  | box t x => rw [hop] at h; simp only [h x (by simp [Op.operands])]
  | build t ps =>
    rw [hop] at h
    have : mapParts p ps.toList = mapParts p' ps.toList := mapParts_congr fun x hx => h x.2 (by simp only [Op.operands, List.mem_toArray, List.mem_map]; exact ⟨x, by simpa using hx, rfl⟩)
    simp only [this]
  | buildSlice t n ps =>
    rw [hop] at h
    have : mapParts p ps.toList = mapParts p' ps.toList := mapParts_congr fun x hx => h x.2 (by simp only [Op.operands, List.mem_toArray, List.mem_map]; exact ⟨x, by simpa using hx, rfl⟩)
    simp only [this]
  | load t x =>
    rw [hop] at h hl
    have hx := h x (by simp [Op.operands])
    simp only [hx] at hl ⊢
    cases hv : p' x with
    | none => rfl
    | some v =>
      rw [hv] at hl
      cases v with
      | lptr j wd row col => simp only [hl (j, false) (by simp)]
      | _ => rfl
  | store t a x =>
    rw [hop] at h hl
    have ha := h a (by simp [Op.operands])
    have hx := h x (by simp [Op.operands])
    simp only [ha] at hl
    simp only [ha, hx]
    cases hv : p' a with
    | none => rfl
    | some v =>
      rw [hv] at hl
      cases v with
      | lptr j wd row col => have e := hl (j, true) (by simp); simp only at e; cases p' x <;> simp only [e]
      | _ => rfl
  | nilCheck x => rw [hop] at h; simp only [h x (by simp [Op.operands])]
  | makeFunc f xs ys =>
    rw [hop] at h
    have e1 : mapEv p xs.toList = mapEv p' xs.toList := mapEv_congr fun x hx => h x (by simp only [Op.operands, Array.mem_append]; exact .inl (by simpa using hx))
    have e2 : mapEv p ys.toList = mapEv p' ys.toList := mapEv_congr fun x hx => h x (by simp only [Op.operands, Array.mem_append]; exact .inr (by simpa using hx))
    simp only [e1, e2]
  | slice t x lo hi mx =>
    rw [hop] at h
    have hx := h x (by simp [Op.operands])
    have h1 : ∀ d n, boundAV p lo d n = boundAV p' lo d n := fun d n => boundAV_congr fun y hy => h y (by simp only [Op.operands, Array.mem_append]; exact .inl (.inl (.inr hy)))
    have h2 : ∀ d n, boundAV p hi d n = boundAV p' hi d n := fun d n => boundAV_congr fun y hy => h y (by simp only [Op.operands, Array.mem_append]; exact .inl (.inr hy))
    have h3 : ∀ d n, boundAV p mx d n = boundAV p' mx d n := fun d n => boundAV_congr fun y hy => h y (by simp only [Op.operands, Array.mem_append]; exact .inr hy)
    cases mx with
    | none => simp only [hx, h1, h2]
    | some m => cases hi with
      | none => rfl
      | some i => simp only [hx, h1, h2, h3]
  | fieldAddr s x f => rw [hop] at h; simp only [h x (by simp [Op.operands])]
  | field s x f => rw [hop] at h; simp only [h x (by simp [Op.operands])]
  | indexAddr t x i => rw [hop] at h; simp only [h x (by simp [Op.operands]), h i (by simp [Op.operands])]
  | index t x i => rw [hop] at h; simp only [h x (by simp [Op.operands]), h i (by simp [Op.operands])]
  | extract x i => rw [hop] at h; simp only [h x (by simp [Op.operands])]
  | binOp b t x y t' => rw [hop] at h; simp only [h x (by simp [Op.operands]), h y (by simp [Op.operands])]
  | call c =>
    rw [hop] at h
    have hargs : mapEv p c.args.toList = mapEv p' c.args.toList := mapEv_congr fun x hx => h x (by
      simp only [Op.operands, Call.operands, Array.mem_append]; exact .inr (by simpa using hx))
    cases hc : c.callee with
    | value f =>
      have hf : p f = p' f := h f (by simp [Op.operands, Call.operands, hc])
      simp only [hc, hf, hargs]
    | invoke x m => simp only [hc]
    | builtin b =>
      cases b <;> simp only [hc]
      cases ha : c.args.toList with
      | nil => rfl
      | cons x xs =>
        have hx : p x = p' x := h x (by simp only [Op.operands, Call.operands, Array.mem_append]; right; rw [← Array.mem_toList_iff, ha]; simp)
        cases xs with
        | nil =>
          cases ht : c.argTypes.toList with
          | nil => rfl
          | cons t ts => cases ts with
            | nil => simp only [hx]
            | cons t' ts => rfl
        | cons y ys => cases c.argTypes.toList <;> rfl
  | _ => rfl

theorem opRes_congr (h : ∀ x ∈ o.op.operands, p x = p' x) (hl : ∀ t ∈ touch p nx o, loc t.1 = loc' t.1) : opRes P p loc nx o = opRes P p' loc' nx o := by
  unfold opRes
  rw [native_congr h hl, byCalm_congr h]

theorem exp0_congr {x : AV} (hl : ∀ j ∈ ids0 x, loc j = loc' j) : exp0 loc x = exp0 loc' x := by
  cases x with
  | lptr j wd row col => simp only [exp0, hl j (by simp [ids0])]
  | lsl j wd row col len cap => simp only [exp0, hl j (by simp [ids0])]
  | _ => rfl

theorem expL_congr : ∀ {xs : List AV}, (∀ j ∈ idsL xs, loc j = loc' j) → expL loc xs = expL loc' xs
  | [], _ => rfl
  | x :: xs, h => by simp only [expL]; rw [exp0_congr fun j hj => h j (by simp [idsL, hj]), expL_congr fun j hj => h j (by simp [idsL, hj])]

theorem expA_congr {x : AV} (hl : ∀ j ∈ ids x, loc j = loc' j) : expA loc x = expA loc' x := by
  cases x with
  | fn f xs ys => simp only [expA]; rw [expL_congr (loc' := loc') fun j hj => hl j (by simp [ids, hj]), expL_congr (xs := ys) (loc' := loc') fun j hj => hl j (by simp [ids, hj])]
  | agg cs => simp only [expA]; rw [expL_congr (loc' := loc') fun j hj => hl j (by simp [ids, hj])]
  | tup cs => simp only [expA]; rw [expL_congr (loc' := loc') fun j hj => hl j (by simp [ids, hj])]
  | lptr j wd row col => exact exp0_congr (by simpa [ids] using hl)
  | lsl j wd row col len cap => exact exp0_congr (by simpa [ids] using hl)
  | _ => rfl

theorem expAll_congr : ∀ {xs : List AV}, (∀ j ∈ idsAll xs, loc j = loc' j) → expAll loc xs = expAll loc' xs
  | [], _ => rfl
  | x :: xs, h => by simp only [expAll]; rw [expA_congr fun j hj => h j (by simp [idsAll, hj]), expAll_congr fun j hj => h j (by simp [idsAll, hj])]

theorem callArgs_congr {args : List AV} (h : ∀ j ∈ idsAll args, loc j = loc' j) : callArgs loc args = callArgs loc' args := by
  unfold callArgs
  rw [expAll_congr h]

theorem idsAll_append (xs ys : List AV) : idsAll (xs ++ ys) = idsAll xs ++ idsAll ys := by
  induction xs with
  | nil => rfl
  | cons x xs ih => simp [idsAll, ih]

/-- A call's arguments name only what it touches. -/
theorem opRes_call {args : List AV} {f : FuncId} {c : Bool} (h : opRes P p loc nx o = some (c, .call f args)) : ∀ j ∈ idsAll args, (j, false) ∈ touch p nx o := by
  unfold opRes at h
  split at h
  · rename_i rr hr
    injection h with h; subst h
    unfold native at hr
    unfold touch
    cases hop : o.op with
    | call cc =>
      rw [hop] at hr
      simp only at hr ⊢
      cases hc : cc.callee with
      | value g =>
        rw [hc] at hr
        simp only at hr ⊢
        cases hg : p g with
        | none => simp [hg] at hr
        | some gv =>
          cases hvs : mapEv p cc.args.toList with
          | none => simp [hg, hvs] at hr
          | some vs =>
            simp only [hg, hvs] at hr
            cases hca : callAV P gv vs with
            | none => simp [hca] at hr
            | some res =>
              simp [hca] at hr
              obtain ⟨_, hr⟩ := hr
              subst hr
              unfold callAV at hca
              split at hca
              · rename_i gi xs ys
                split at hca
                · split at hca
                  · injection hca with hca; injection hca with e1 e2
                    subst e2
                    intro j hj
                    simp only [idsAll_append] at hj
                    simp only [List.mem_map]
                    exact ⟨j, by simpa using hj, rfl⟩
                  · simp at hca
                · simp at hca
              · simp at hca
      | invoke x m => rw [hc] at hr; simp at hr
      | builtin b =>
        rw [hc] at hr
        cases b <;> simp only at hr <;> try (simp at hr; done)
        split at hr
        · split at hr
          · rename_i v n hv hn
            cases hlen : lenAV v <;> simp [hlen] at hr
          · simp at hr
        · simp at hr
    | slice t x lo hi mx =>
      rw [hop] at hr
      cases mx with
      | none => simp only at hr; (repeat' split at hr) <;> simp at hr
      | some m => cases hi with
        | none => simp at hr
        | some i => simp only at hr; (repeat' split at hr) <;> simp at hr
    | _ => rw [hop] at hr; simp only at hr; (repeat' split at hr) <;> simp at hr
  · unfold byCalm at h
    split at h
    · split at h
      · rename_i v hv
        cases hx : ofV v <;> simp [hx] at h
      · simp at h
    · simp at h

/-- What is written is touched. -/
theorem opRes_write {j : Nat} {b : Blk} {c : Bool} (h : opRes P p loc nx o = some (c, .store j b)) : (j, true) ∈ touch p nx o ∧ (loc j).isSome = true := by
  unfold opRes at h
  split at h
  · rename_i rr hr
    injection h with h; subst h
    unfold native at hr
    unfold touch
    cases hop : o.op with
    | store t a x =>
      rw [hop] at hr
      simp only at hr ⊢
      split at hr
      · rename_i j' wd row col v ha hx
        split at hr
        · rename_i u cs xs n hj hcell hsz
          split at hr
          · injection hr with hr; injection hr with _ hr; injection hr with e1 e2
            subst e1
            exact ⟨by simp [ha], by simp [hj]⟩
          · simp at hr
        · simp at hr
      · simp at hr
    | call cc =>
      rw [hop] at hr
      simp only at hr
      cases hc : cc.callee with
      | value g =>
        rw [hc] at hr
        simp only at hr
        split at hr
        · rename_i gv vs hg hvs
          cases hca : callAV P gv vs with
          | none => simp [hca] at hr
          | some res =>
            simp [hca] at hr
            obtain ⟨_, hr⟩ := hr
            subst hr
            unfold callAV at hca
            (repeat' split at hca) <;> simp at hca
        · simp at hr
      | invoke x m => rw [hc] at hr; simp at hr
      | builtin b =>
        rw [hc] at hr
        cases b <;> simp only at hr <;> try (simp at hr; done)
        split at hr
        · split at hr
          · rename_i v n hv hn
            cases hlen : lenAV v <;> simp [hlen] at hr
          · simp at hr
        · simp at hr
    | slice t x lo hi mx =>
      rw [hop] at hr
      cases mx with
      | none => simp only at hr; (repeat' split at hr) <;> simp at hr
      | some m => cases hi with
        | none => simp at hr
        | some i => simp only at hr; (repeat' split at hr) <;> simp at hr
    | _ => rw [hop] at hr; simp only at hr; (repeat' split at hr) <;> simp at hr
  · unfold byCalm at h
    split at h
    · split at h
      · rename_i v hv
        cases hx : ofV v <;> simp [hx] at h
      · simp at h
    · simp at h

theorem opRes_alloc {b : Blk} {v : AV} {c : Bool} (h : opRes P p loc nx o = some (c, .alloc b v)) : (nx, true) ∈ touch p nx o := by
  unfold opRes at h
  split at h
  · rename_i rr hr
    injection h with h; subst h
    unfold native at hr
    unfold touch
    cases hop : o.op with
    | alloc t => simp
    | box t x => simp
    | buildSlice t n ps => simp
    | call cc =>
      rw [hop] at hr
      simp only at hr
      cases hc : cc.callee with
      | value g =>
        rw [hc] at hr
        simp only at hr
        split at hr
        · rename_i gv vs hg hvs
          cases hca : callAV P gv vs with
          | none => simp [hca] at hr
          | some res =>
            simp [hca] at hr
            obtain ⟨_, hr⟩ := hr
            subst hr
            unfold callAV at hca
            (repeat' split at hca) <;> simp at hca
        · simp at hr
      | invoke x m => rw [hc] at hr; simp at hr
      | builtin b =>
        rw [hc] at hr
        cases b <;> simp only at hr <;> try (simp at hr; done)
        split at hr
        · split at hr
          · rename_i v n hv hn
            cases hlen : lenAV v <;> simp [hlen] at hr
          · simp at hr
        · simp at hr
    | slice t x lo hi mx =>
      rw [hop] at hr
      cases mx with
      | none => simp only at hr; (repeat' split at hr) <;> simp at hr
      | some m => cases hi with
        | none => simp at hr
        | some i => simp only at hr; (repeat' split at hr) <;> simp at hr
    | _ => rw [hop] at hr; simp only at hr; (repeat' split at hr) <;> simp at hr
  · unfold byCalm at h
    split at h
    · split at h
      · rename_i v hv
        cases hx : ofV v <;> simp [hx] at h
      · simp at h
    · simp at h

end

section
variable {P : Program} {cl : FuncId → List AV → Option AV} {ops : Array Oper} {env env' : List AV} {loc loc' : Nat → Option Blk} {nx : Nat} {o : Oper} {e : Eff}

theorem evO_congr (h : ∀ t ∈ o.looksAt ops, env[t]? = env'[t]?) : ∀ x ∈ o.op.operands, evO env x = evO env' x := by
  intro x hx
  cases x with
  | tmp t => exact h t (List.mem_append_left _ (List.mem_filterMap.2 ⟨.tmp t, by simpa using hx, rfl⟩))
  | _ => rfl

theorem touch_congr {p p' : Operand → Option AV} (h : ∀ x ∈ o.op.operands, p x = p' x) : touch p nx o = touch p' nx o := by
  unfold touch
  cases hop : o.op with
  | load t x => rw [hop] at h; simp only [h x (by simp [Op.operands])]
  | store t a x => rw [hop] at h; simp only [h a (by simp [Op.operands])]
  | call c =>
    rw [hop] at h
    have hargs : mapEv p c.args.toList = mapEv p' c.args.toList := mapEv_congr fun x hx => h x (by
      simp only [Op.operands, Call.operands, Array.mem_append]; exact .inr (by simpa using hx))
    cases hc : c.callee with
    | value f =>
      have hf : p f = p' f := h f (by simp [Op.operands, Call.operands, hc])
      simp only [hc, hf, hargs]
    | _ => simp only [hc]
  | _ => rfl

theorem wantD_congr (h : ∀ t ∈ o.looksAt ops, env[t]? = env'[t]?) : wantD ops env o = wantD ops env' o := by
  unfold wantD
  cases hg : o.guard with
  | none => rfl
  | some g =>
    obtain ⟨j, want⟩ := g
    cases hj : ops[j]? with
    | none => simp only [hj]
    | some oj =>
      cases hd : oj.dst with
      | none => simp only [hj, hd]
      | some d =>
        have : env[d]? = env'[d]? := h d (List.mem_append_right _ (by simp [hg, hj, hd]))
        simp only [hj, hd, this]

theorem effOf_congr (h : ∀ t ∈ o.looksAt ops, env[t]? = env'[t]?) (hl : ∀ t ∈ touch (evO env) nx o, loc t.1 = loc' t.1) : effOf P cl ops env loc nx o = effOf P cl ops env' loc' nx o := by
  unfold effOf
  rw [wantD_congr h, opRes_congr (evO_congr h) hl]
  cases wantD ops env' o with
  | none => rfl
  | some b =>
    cases b with
    | false => rfl
    | true =>
      cases hr : opRes P (evO env') loc' nx o with
      | none => rfl
      | some x =>
        obtain ⟨c, res⟩ := x
        cases c with
        | false => rfl
        | true =>
          cases res with
          | call f args =>
            have : callArgs loc args = callArgs loc' args := callArgs_congr fun j hj => by
              have := opRes_call hr j hj
              rw [touch_congr (evO_congr h)] at hl
              exact hl _ this
            simp only [effR, this]
          | _ => rfl

theorem effOf_mem {j : Nat} {b : Blk} (he : effOf P cl ops env loc nx o = some e) (hm : e.mem = some (j, b)) : (j, true) ∈ touch (evO env) nx o ∧ (j = nx ∨ (loc j).isSome = true) := by
  unfold effOf at he
  split at he
  · split at he
    · rename_i res hr
      cases res with
      | val v => simp [effR] at he; subst he; simp at hm
      | alloc b' v => simp [effR] at he; subst he; simp at hm; obtain ⟨e1, _⟩ := hm; subst e1; exact ⟨opRes_alloc hr, .inl rfl⟩
      | store j' b' => simp [effR] at he; subst he; simp at hm; obtain ⟨e1, _⟩ := hm; subst e1; exact ⟨(opRes_write hr).1, .inr (opRes_write hr).2⟩
      | call f args =>
        simp only [effR] at he
        split at he
        · split at he
          · split at he
            · simp at he
            · injection he with he; subst he; simp at hm
          · simp at he
        · simp at he
    · simp at he
  · injection he with he; subst he; simp at hm
  · simp at he

theorem effOf_dst (he : effOf P cl ops env loc nx o = some e) : e.dst = o.dst := by
  unfold effOf at he
  split at he
  · split at he
    · rename_i res hr
      cases res with
      | val v => simp [effR] at he; subst he; rfl
      | alloc b' v => simp [effR] at he; subst he; rfl
      | store j' b' => simp [effR] at he; subst he; rfl
      | call f args =>
        simp only [effR] at he
        split at he
        · split at he
          · split at he
            · simp at he
            · injection he with he; subst he; rfl
          · simp at he
        · simp at he
    · simp at he
  · injection he with he; subst he; rfl
  · simp at he

end

end Go.Proofs.Ytkajafmphemedaa.Ev
