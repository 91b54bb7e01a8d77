/- Parts of the proof, one behind the other: EvW, LR0, LS3, LS4, LS5, LS6, LS7, LS8, LS9, LSa, LSb, LSc, LSd, LT2, LB2. No conditions. -/
import Derived.Test.YtelpdkojdfnmiaaGreatLw10
import Derived.ProofKit
import Derived.Carry
/-! EvW -/
namespace Go.Proofs.YtelpdkojdfnmiaaGreat.Ev
open Go.RowKit Go.WideShapes Go.ChangeShapes
section
variable {H : Type} {enc : TypeId × Value → H} {P : Program}
theorem post_of_below {f : Func} {s : ChangeSpec} {apart fresh handsOn again : Bool} {W W' : World} {args : Array Value} {v : Value} {ds gs : List (DataW H)} {before pa pv : List MemPlace}
    (hW : DataW.Whole enc P f.params.toList s.vars apart W args.toList ds gs before)
    (hres : ∀ (b : Nat) (sp : Nat → Bool) (hd : Bool), DataW.TrodAll enc P W' b sp hd f.resultTypes.toList (v.resultList f.resultTypes.size) (s.fn H (ds ++ gs)).results [])
    (hargs : ∀ sp : Nat → Bool, (∀ p ∈ before, sp p.block = true) → DataW.TrodAll enc P W' 0 sp true f.params.toList args.toList (s.fn H (ds ++ gs)).args pa)
    (hvars : ∀ sp : Nat → Bool, (∀ p ∈ before, sp p.block = true) → DataW.TrodVars enc P W' sp s.vars (s.fn H (ds ++ gs)).vars pv)
    (hps : before = pa ++ pv) (hb : Below W.heap.size W W')
    (hok : ∀ (j : Nat) (t : TypeId) (r : Value), f.resultTypes[j]? = some t → (v.resultList f.resultTypes.size)[j]? = some r → Value.okWide P W' .any 0 t r) :
    s.post enc P f apart fresh handsOn again W args v W' := by
  have hlt : ∀ p ∈ before, p.block < W.heap.size := fun p hp => hW.lt p hp
  have hold : ∀ p ∈ before, (fun b => decide (b < W.heap.size)) p.block = true := fun p hp => by simpa using hlt p hp
  refine ⟨ds, gs, before, [], pa, pv, hW, hres _ _ _, hargs _ hold, hvars _ hold, World.keptBut_mono (fun p hp => ⟨hp, ?_⟩) (hb.frame (· ∈ before)), fun _ => ?_⟩
  · rw [hps, List.mem_append] at hp
    exact Or.inr hp
  · obtain ⟨_, _, _, _, _, hz, hn⟩ := hW
    refine ⟨hok, _, _, ([] ++ pa) ++ pv, ⟨[] ++ pa, pv, trodAll_append (hargs _ (fun _ _ => rfl)) (hres _ _ _), hvars _ (fun _ _ => rfl), rfl, ?_, ?_⟩, ?_⟩
    · intro b off hp
      have hin : MemPlace.cell b off ∈ before := by rw [hps]; simpa using hp
      rw [hb.frozen (hlt _ hin)]
      exact hz b off hin
    · intro ha
      have := hn ha
      rw [hps] at this
      simpa using this
    · intro p hp _
      rw [hps]
      simpa using hp
theorem trodAll_stays (hl : laidOutB P = true) {W W' : World} (hb : Below W.heap.size W W') {sp : Nat → Bool} : ∀ {ts : List TypeId} {vs : List Value} {ds : List (DataW H)} {ps : List MemPlace},
    (∀ t ∈ ts, P.readableRec t = true ∧ t < P.types.size) → DataW.TrodAll enc P W 0 (fun _ => true) true ts vs ds ps → (∀ x ∈ ps, x.block < W.heap.size) → (∀ x ∈ ps, sp x.block = true) → DataW.TrodAll enc P W' 0 sp true ts vs ds ps
  | [], [], [], ps, _, h, _, _ => h
  | [], [], _ :: _, _, _, h, _, _ => h.elim
  | [], _ :: _, _, _, _, h, _, _ => h.elim
  | _ :: _, [], _, _, _, h, _, _ => h.elim
  | _ :: _, _ :: _, [], _, _, h, _, _ => h.elim
  | t :: ts, v :: vs, d :: ds, ps, ht, h, hlt, hs => by
    obtain ⟨p, q, h1, h2, rfl⟩ := h
    refine ⟨p, q, ?_, trodAll_stays hl hb (fun t h => ht t (List.mem_cons_of_mem _ h)) h2 (fun x hx => hlt x (List.mem_append_right _ hx)) (fun x hx => hs x (List.mem_append_right _ hx)), rfl⟩
    have h0 := ht t List.mem_cons_self
    exact WideElems.Trod_stays hl h0.1 h0.2 h1 (fun x hx => hb.same (hlt x (List.mem_append_left _ hx))) (fun x hx => hs x (List.mem_append_left _ hx))
inductive FK where
  | int (k : IntKind)
  | bool
  | str
  | sl (e : TypeId)
def flatF (r : TypeId → Option (List FK)) (P : Program) : List Field → Nat → Option (List FK)
  | [], _ => some []
  | f :: fs, off => match r f.type with
    | some l => match Nat.beq f.offset off && Nat.beq (P.cellsOf f.type) l.length with
      | true => match flatF r P fs (off + l.length) with
        | some m => some (l ++ m)
        | none => none
      | false => none
    | none => none
def flat (P : Program) : Nat → TypeId → Option (List FK)
  | 0, _ => none
  | n + 1, t => match P.underlying t with
    | some .bool => some [.bool]
    | some (.int k) => some [.int k]
    | some .string => some [.str]
    | some (.slice e) => some [.sl e]
    | some (.struct fs) => match flatF (flat P n) P fs.toList 0 with
      | some l => match Nat.beq (P.cellsOf t) l.length with
        | true => some l
        | false => none
      | none => none
    | some (.array m e) => match flat P n e with
      | some l => match Nat.beq (P.cellsOf e) l.length && Nat.beq (P.cellsOf t) (m * l.length) with
        | true => some (List.replicate m l).flatten
        | false => none
      | none => none
    | _ => none
def CellR (enc : TypeId × Value → H) (P : Program) (w : World) : FK → Value → Prop
  | .int k, v => ∃ n, v = .int k n ∧ (Lit.int k n).wf = true
  | .bool, v => ∃ b, v = .bool b
  | .str, v => ∃ s : ByteArray, v = .string s ∧ s.size ≤ maxLen
  | .sl e, v => v = .slice none 0 0 ∨ ∃ (a : Addr) (len cap : Nat), v = .slice (some a) len cap ∧ len ≤ cap ∧ cap ≤ maxLen ∧
      ∀ i, i < len → ∃ row, w.cells? 0 (a.add (i * P.cellsOf e)) (P.cellsOf e) = some row ∧ ∃ fuel x, DataW.trod enc P w 0 (fun _ => true) true fuel e row = some x
theorem mapM_mem {α β : Type} {f : α → Option β} : ∀ {l : List α} {ys : List β}, l.mapM f = some ys → ∀ x ∈ l, ∃ y, f x = some y
  | [], _, _, x, hx => by simp at hx
  | a :: l, ys, h, x, hx => by
    rw [List.mapM_cons] at h
    cases ha : f a with
    | none => simp [ha] at h
    | some b =>
      cases hl : l.mapM f with
      | none => simp [ha, hl] at h
      | some bs =>
        rcases List.mem_cons.1 hx with rfl | hx
        · exact ⟨b, ha⟩
        · exact mapM_mem hl x hx
theorem flatF_get {r : TypeId → Option (List FK)} {w : World} {cs : List Value} (hr : ∀ t l, r t = some l → ∀ fuel ds x, DataW.trod enc P w 0 (fun _ => true) true fuel t ds = some x → ds.length = l.length ∧ ∀ (i : Nat) (k : FK), l[i]? = some k → ∃ v, ds[i]? = some v ∧ CellR enc P w k v) :
    ∀ {fs : List Field} {off : Nat} {l : List FK}, flatF r P fs off = some l → off + l.length ≤ cs.length → (∀ f ∈ fs, ∃ fuel x, DataW.trod enc P w 0 (fun _ => true) true fuel f.type ((cs.drop f.offset).take (P.cellsOf f.type)) = some x) →
      ∀ (i : Nat) (k : FK), l[i]? = some k → ∃ v, cs[off + i]? = some v ∧ CellR enc P w k v
  | [], off, l, h, _, _, i, k, hi => by simp [flatF] at h; subst h; simp at hi
  | f :: fs, off, l, h, hle, hf, i, k, hi => by
    simp only [flatF] at h
    split at h
    case h_2 => simp at h
    rename_i l1 h1
    split at h
    case h_2 => simp at h
    rename_i hc
    simp only [Bool.and_eq_true] at hc
    have e1 := Nat.eq_of_beq_eq_true hc.1
    have e2 := Nat.eq_of_beq_eq_true hc.2
    split at h
    case h_2 => simp at h
    rename_i m hm
    injection h with h; subst h
    rw [List.length_append] at hle
    by_cases hlt : i < l1.length
    · rw [List.getElem?_append_left hlt] at hi
      obtain ⟨fuel, x, hx⟩ := hf f List.mem_cons_self
      obtain ⟨v, hv, hcr⟩ := (hr _ _ h1 _ _ _ hx).2 i k hi
      rw [List.getElem?_take] at hv
      split at hv
      · rw [List.getElem?_drop, e1] at hv
        exact ⟨v, hv, hcr⟩
      · simp at hv
    · rw [List.getElem?_append_right (by omega)] at hi
      obtain ⟨v, hv, hcr⟩ := flatF_get hr hm (by omega) (fun f h => hf f (List.mem_cons_of_mem _ h)) _ k hi
      exact ⟨v, by rw [← hv]; congr 1; omega, hcr⟩
theorem flatten_get {l : List FK} {m : Nat} : ∀ {i : Nat} {k : FK}, ((List.replicate m l).flatten)[i]? = some k → 0 < l.length ∧ i / l.length < m ∧ l[i % l.length]? = some k := by
  induction m with
  | zero => intro i k h; simp at h
  | succ m ih =>
    intro i k h
    rw [List.replicate_succ, List.flatten_cons] at h
    by_cases hlt : i < l.length
    · rw [List.getElem?_append_left hlt] at h
      exact ⟨by omega, by rw [Nat.div_eq_of_lt hlt]; omega, by rw [Nat.mod_eq_of_lt hlt]; exact h⟩
    · rw [List.getElem?_append_right (by omega)] at h
      obtain ⟨h1, h2, h3⟩ := ih h
      refine ⟨h1, ?_, ?_⟩
      · rw [Nat.div_eq_sub_div h1 (by omega)]; omega
      · rw [Nat.mod_eq_sub_mod (by omega)]; exact h3
theorem trod_flat {w : World} : ∀ (n : Nat) (t : TypeId) (ks : List FK), flat P n t = some ks → ∀ (fuel : Nat) (cs : List Value) (x : DataW H × List MemPlace), DataW.trod enc P w 0 (fun _ => true) true fuel t cs = some x →
    cs.length = ks.length ∧ ∀ (i : Nat) (k : FK), ks[i]? = some k → ∃ v, cs[i]? = some v ∧ CellR enc P w k v
  | 0, t, ks, h, _, _, _, _ => by simp [flat] at h
  | n + 1, t, ks, h, 0, cs, x, hx => by simp [DataW.trod] at hx
  | n + 1, t, ks, h, fuel + 1, cs, x, hx => by
    simp only [flat] at h
    split at h
    · rename_i hu
      injection h with h; subst h
      simp only [DataW.trod, hu] at hx
      split at hx <;> simp_all
      exact fun i k hi => by
        cases i with
        | zero => simp at hi; subst hi; exact ⟨_, rfl, _, rfl⟩
        | succ i => simp at hi
    · rename_i k0 hu
      injection h with h; subst h
      simp only [DataW.trod, hu] at hx
      split at hx <;> simp_all
      exact fun i k hi => by
        cases i with
        | zero => simp at hi; subst hi; exact ⟨_, rfl, _, rfl, hx.1.2⟩
        | succ i => simp at hi
    · rename_i hu
      injection h with h; subst h
      simp only [DataW.trod, hu] at hx
      split at hx <;> simp_all
      exact fun i k hi => by
        cases i with
        | zero => simp at hi; subst hi; exact ⟨_, rfl, _, rfl, hx.1⟩
        | succ i => simp at hi
    · rename_i e hu
      injection h with h; subst h
      simp only [DataW.trod, hu] at hx
      split at hx
      case h_7 =>
        exact ⟨rfl, fun i k hi => by
          cases i with
          | zero => simp at hi; subst hi; exact ⟨_, rfl, .inl rfl⟩
          | succ i => simp at hi⟩
      case h_8 =>
        rename_i e' a len cap h0
        injection h0 with h0; injection h0 with h0; subst h0
        split at hx
        case isFalse => simp at hx
        rename_i hc
        rw [Option.bind_eq_some_iff] at hx
        obtain ⟨elems, he, _⟩ := hx
        refine ⟨rfl, fun i k hi => ?_⟩
        cases i with
        | succ i => simp at hi
        | zero =>
          simp at hi; subst hi
          refine ⟨_, rfl, .inr ⟨a, len, cap, rfl, hc.2.1, hc.2.2, fun j hj => ?_⟩⟩
          obtain ⟨y, hy⟩ := mapM_mem he j (List.mem_range.2 hj)
          rw [Option.bind_eq_some_iff] at hy
          obtain ⟨row, h1, h2⟩ := hy
          exact ⟨row, h1, fuel, y, h2⟩
      all_goals simp_all
    · rename_i fs hu
      split at h
      case h_2 => simp at h
      rename_i l hl
      split at h
      case h_2 => simp at h
      rename_i hc
      have ec := Nat.eq_of_beq_eq_true hc
      injection h with h; subst h
      simp only [DataW.trod, hu] at hx
      have hx' : (if cs.length = P.cellsOf t then (fs.toList.mapM fun f => DataW.trod enc P w 0 (fun _ => true) true fuel f.type ((cs.drop f.offset).take (P.cellsOf f.type))).map fun xs => (DataW.agg (xs.map (·.1)), xs.flatMap (·.2)) else none) = some x := by
        split at hx <;> simp_all
      clear hx
      split at hx'
      case isFalse => simp at hx'
      rename_i hlen
      rw [Option.map_eq_some_iff] at hx'
      obtain ⟨xs, hxs, _⟩ := hx'
      refine ⟨by rw [hlen, ec], fun i k hi => ?_⟩
      have := flatF_get (cs := cs) (fun t l h => trod_flat n t l h) hl (by omega) (fun f hf => by obtain ⟨y, hy⟩ := mapM_mem hxs f hf; exact ⟨fuel, y, hy⟩) i k hi
      simpa using this
    · rename_i m e hu
      split at h
      case h_2 => simp at h
      rename_i l hl
      split at h
      case h_2 => simp at h
      rename_i hc
      simp only [Bool.and_eq_true] at hc
      have e1 := Nat.eq_of_beq_eq_true hc.1
      have e2 := Nat.eq_of_beq_eq_true hc.2
      injection h with h; subst h
      simp only [DataW.trod, hu] at hx
      have hx' : (if cs.length = P.cellsOf t then ((List.range m).mapM fun i => DataW.trod enc P w 0 (fun _ => true) true fuel e ((cs.drop (i * P.cellsOf e)).take (P.cellsOf e))).map fun xs => (DataW.agg (xs.map (·.1)), xs.flatMap (·.2)) else none) = some x := by
        split at hx <;> simp_all
      clear hx
      split at hx'
      case isFalse => simp at hx'
      rename_i hlen
      rw [Option.map_eq_some_iff] at hx'
      obtain ⟨xs, hxs, _⟩ := hx'
      refine ⟨by rw [hlen, e2]; simp, fun i k hi => ?_⟩
      obtain ⟨h1, h2, h3⟩ := flatten_get hi
      obtain ⟨y, hy⟩ := mapM_mem hxs (i / l.length) (List.mem_range.2 h2)
      obtain ⟨v, hv, hcr⟩ := (trod_flat n e l hl fuel _ _ hy).2 _ k h3
      rw [List.getElem?_take] at hv
      split at hv
      · rw [List.getElem?_drop, e1] at hv
        refine ⟨v, ?_, hcr⟩
        rw [← hv]; congr 1
        have := Nat.div_add_mod i l.length
        rw [Nat.mul_comm]; exact this.symm
      · simp at hv
    · simp at h
def RdV {α : Type} (w : World) (D : Dec α) (v : Value) : Prop := ∃ a, VR w noA noR (D.enc a) v
def RdL {α : Type} (w : World) (E : DecL α) (cs : List Value) : Prop := ∃ a, VRs w noA noR (E.enc a) cs.toArray
def tagK : FK → CK
  | .int k => .int k
  | .bool => .bool
  | .str => .str
  | .sl _ => .any
def flatK : FK → Bool
  | .sl _ => false
  | _ => true
section
variable {w : World} {α β : Type}
theorem rd_int {k : IntKind} {v : Value} (h : CellR enc P w (.int k) v) : RdV w (dI k) v := by
  obtain ⟨n, rfl, _⟩ := h; exact ⟨n, .int⟩
theorem rd_scal {k : FK} (hk : flatK k = true) {v : Value} (h : CellR enc P w k v) : ∃ x, ofScal v = some x ∧ conf (tagK k) x = x := by
  cases k with
  | int k => obtain ⟨n, rfl, _⟩ := h; exact ⟨_, rfl, rfl⟩
  | bool => obtain ⟨n, rfl⟩ := h; exact ⟨_, rfl, rfl⟩
  | str => obtain ⟨n, rfl, _⟩ := h; exact ⟨_, rfl, rfl⟩
  | sl e => simp [flatK] at hk
theorem ckAt_map : ∀ {ks : List FK} {i : Nat} {k : FK}, ks[i]? = some k → ckAt (ks.map tagK) i = tagK k
  | [], i, k, h => by simp at h
  | a :: ks, 0, k, h => by simp at h; subst h; rfl
  | a :: ks, i + 1, k, h => by simp only [List.map_cons, ckAt]; exact ckAt_map (by simpa using h)
theorem mapM_range {f : Nat → Option Value} {n : Nat} {row : List Value} (h : (List.range n).mapM f = some row) (i : Nat) (hi : i < n) : f i = row[i]? := by
  have key : ∀ (l : List Nat) (row : List Value), l.mapM f = some row → ∀ (i x : Nat), l[i]? = some x → f x = row[i]? := by
    intro l
    induction l with
    | nil => intro row _ i x hx; simp at hx
    | cons a l ih =>
      intro row h i x hx
      rw [List.mapM_cons] at h
      cases ha : f a with
      | none => simp [ha] at h
      | some b =>
        cases hl : l.mapM f with
        | none => simp [ha, hl] at h
        | some bs =>
          simp [ha, hl] at h
          subst h
          cases i with
          | zero => simp at hx; subst hx; simpa using ha
          | succ i => simpa using ih bs hl i x (by simpa using hx)
  exact key _ _ h i i (by simp [hi])
theorem cells_at {a : Addr} {n : Nat} {row : List Value} (h : w.cells? 0 a n = some row) : row.length = n ∧ ∀ i, i < n → w.cell? (a.add i) = row[i]? := by
  unfold World.cells? at h
  rw [if_pos (Nat.zero_le _)] at h
  refine ⟨?_, fun i hi => mapM_range h i hi⟩
  have : ∀ (l : List Nat) (row : List Value), (l.mapM fun i => w.cell? (a.add i)) = some row → row.length = l.length := by
    intro l
    induction l with
    | nil => intro row h; simp at h; subst h; rfl
    | cons x l ih =>
      intro row h
      rw [List.mapM_cons] at h
      cases hx : w.cell? (a.add x) with
      | none => simp [hx] at h
      | some b =>
        cases hl : l.mapM (fun i => w.cell? (a.add i)) with
        | none => simp [hx, hl] at h
        | some bs => simp [hx, hl] at h; subst h; simp [ih bs hl]
  simpa using this _ _ h
theorem cell_spot {a : Addr} {v : Value} (h : w.cell? a = some v) : a.spot = none ∧ a.block < w.heap.size := by
  unfold World.cell? at h
  split at h
  · rename_i c _ _ hb
    split at h
    · simp at h
    · rename_i hs; exact ⟨by simpa using hs, (Array.getElem?_eq_some_iff.1 hb).1⟩
  · simp at h
theorem rd_sl {e : TypeId} {n : Nat} {ks : List FK} (hf : flat P n e = some ks) (hwd : P.cellsOf e = ks.length) (hpos : 0 < ks.length) (hk : ks.all flatK = true) {v : Value} (h : CellR enc P w (.sl e) v) : RdV w (dX ks.length (ks.map tagK)) v := by
  rcases h with rfl | ⟨a, len, cap, rfl, h1, h2, h3⟩
  · exact ⟨⟨0, 0, 0, none, fun _ _ => .top⟩, (dX ks.length (ks.map tagK)).ok .nilsl _ rfl _ _ _ _ .nilsl⟩
  · rcases a with ⟨b, off, spot⟩
    rw [hwd] at h3
    have hspot0 : 0 < len → spot = none := fun h0 => by
      obtain ⟨row, hr, fuel, x, hx⟩ := h3 0 h0
      obtain ⟨hl, hat⟩ := cells_at hr
      have h0' := hat 0 hpos
      rw [List.getElem?_eq_getElem (by omega)] at h0'
      have := (cell_spot h0').1
      simpa [Addr.add] using this
    have hcell : ∀ i k, i < len → k < ks.length → ∃ v kk, ks[k]? = some kk ∧ w.cell? ⟨b, off + (i * ks.length + k), spot⟩ = some v ∧ CellR enc P w kk v ∧ spot = none ∧ b < w.heap.size := by
      intro i k hi hkk
      obtain ⟨row, hr, fuel, x, hx⟩ := h3 i hi
      obtain ⟨hl, hat⟩ := cells_at hr
      obtain ⟨v, hv, hc⟩ := (trod_flat n e ks hf fuel row x hx).2 k _ (List.getElem?_eq_getElem hkk)
      have := hat k hkk
      rw [hv] at this
      obtain ⟨hs, hb⟩ := cell_spot this
      have hspot : spot = none := hspot0 (by omega)
      subst hspot
      rw [addr_add, addr_add] at this hb
      exact ⟨v, _, List.getElem?_eq_getElem hkk, by rw [← Nat.add_assoc]; exact this, hc, rfl, hb⟩
    let u : Nat → Nat → Value := fun i k => (w.cell? ⟨b, off + (i * ks.length + k), none⟩).getD undef
    refine ⟨⟨len, 0, len, none, fun i k => (ofScal (u i k)).getD .top⟩, .xsl b off u ⟨h1, ?_⟩ (fun x hx => by cases hx) (by simp) (fun h0 => ?_) (fun h0 i k hi hkk => ?_) (fun h0 i k hi hkk => ?_)⟩
    · have : cap ≤ 2 ^ 63 - 1 := h2
      show len ≤ 9223372036854775807
      omega
    · obtain ⟨v, kk, _, _, _, hs, hb⟩ := hcell 0 0 h0 hpos
      subst hs
      exact ⟨by simp, hb, fun h => h⟩
    · obtain ⟨v, kk, _, hv, _, hs, _⟩ := hcell i k hi hkk
      subst hs
      simp only [u, hv, Option.getD_some]
    · obtain ⟨v, kk, hkk', hv, hc, hs, _⟩ := hcell i k hi hkk
      subst hs
      have hu : u i k = v := by simp only [u, hv, Option.getD_some]
      obtain ⟨x, hx, hcf⟩ := rd_scal (List.all_eq_true.1 hk kk (List.mem_of_getElem? hkk')) hc
      have e : (⟨ks.map tagK, fun i k => (ofScal (u i k)).getD .top⟩ : Get AV).cell i k = x := by
        simp only [Get.cell, hu, hx, Option.getD_some, ckAt_map hkk', hcf]
      rw [e, hu]
      exact ofScal_rel hx
theorem rdL_cons {D : Dec α} {E : DecL β} {v : Value} {cs : List Value} (h : RdV w D v) (k : RdL w E cs) : RdL w (.cons D E) (v :: cs) := by
  obtain ⟨a, ha⟩ := h; obtain ⟨b, hb⟩ := k
  refine ⟨(a, b), ?_⟩
  have := VRs.cons' ha hb
  show VRs w noA noR (D.enc a :: E.enc b) (v :: cs).toArray
  simpa using this
theorem rdL_last {D : Dec α} {v : Value} (h : RdV w D v) : RdL w (.last D 0) [v] := by
  obtain ⟨a, ha⟩ := h
  exact ⟨a, VRs.one ha⟩
theorem okWide_cell {r : Reach} {b : Nat} {t : TypeId} {v : Value} (hu : aggB P t = some false) (h : Value.okWide P w r b t v) : v.cells = #[v] := by
  unfold Value.okWide at h
  unfold aggB at hu
  split at h
  · simp_all
  · simp_all
  · cases v with
    | agg cs =>
      unfold Cell.okWide at h
      split at h <;> try simp_all
      unfold Cell.ok at h
      split at h <;> simp_all
    | _ => rfl
theorem param_cell {n : Nat} {t : TypeId} {k : FK} {r : Reach} {b : Nat} {v : Value} {d : DataW H} {p : List MemPlace} (hf : flat P n t = some [k]) (hu : aggB P t = some false) (hok : Value.okWide P w r b t v) (h : DataW.Trod enc P w 0 (fun _ => true) true t v d p) : CellR enc P w k v := by
  obtain ⟨fuel, hx⟩ := h
  rw [okWide_cell hu hok] at hx
  obtain ⟨v', hv, hc⟩ := (trod_flat n t [k] hf fuel _ _ hx).2 0 k rfl
  simp at hv; subst hv; exact hc
end
theorem law_contract {f : FuncId} {fn : Func} {s : ChangeSpec} {apart fresh handsOn again : Bool} {α : Type} (D : DecL α) (hl : laidOutB P = true) (hts : (fn.params.toList.all fun t => P.readableRec t && decide (t < P.types.size)) = true)
    (hvars : s.vars = []) (hfn : ∀ (ds : List (DataW H)), ds.length = fn.params.toList.length → s.fn H (ds ++ []) = { results := [.lit (.bool true)], args := ds })
    (hres : ∀ (W' : World) (b : Nat) (sp : Nat → Bool) (hd : Bool), DataW.TrodAll enc P W' b sp hd fn.resultTypes.toList ((Value.bool true).resultList fn.resultTypes.size) [.lit (.bool true)] [])
    (hok : ∀ (W' : World) (j : Nat) (t : TypeId) (r : Value), fn.resultTypes[j]? = some t → ((Value.bool true).resultList fn.resultTypes.size)[j]? = some r → Value.okWide P W' .any 0 t r)
    (hread : ∀ (W : World) (base : Nat) (args : Array Value) (ds : List (DataW H)) (p : List MemPlace), (∀ (j : Nat) t v, fn.params[j]? = some t → args[j]? = some v → Value.okWide P W .any base t v) →
      DataW.TrodAll enc P W 0 (fun _ => true) true fn.params.toList args.toList ds p → RdL W D args.toList)
    (hpc : ∀ a, PC P f (D.enc a) (.bool true))
    (W : World) (base : Nat) (args : Array Value) (ds gs : List (DataW H)) (before : List MemPlace) (hval : ∀ (j : Nat) t v, fn.params[j]? = some t → args[j]? = some v → Value.okWide P W .any base t v)
    (hW : DataW.Whole enc P fn.params.toList s.vars apart W args.toList ds gs before) :
    Calls P f args W fun e W' => ∃ v, e = .returned v ∧ s.post enc P fn apart fresh handsOn again W args v W' := by
  have hW' := hW
  obtain ⟨p, q, hA, hV, hbef, hfz, hnd⟩ := hW
  have hV' := hV
  rw [hvars] at hV'
  obtain ⟨rfl, rfl⟩ := trodVars_none hV'
  obtain ⟨a, ha⟩ := hread W base args ds p hval hA
  have h := callsIn_wide.1 (hpc a none 0 noA W args (fun b hb => hb.elim) (by simpa using ha))
  have hlen : ds.length = fn.params.toList.length := by
    have : ∀ (ts : List TypeId) (vs : List Value) (ds : List (DataW H)) (p : List MemPlace), DataW.TrodAll enc P W 0 (fun _ => true) true ts vs ds p → ds.length = ts.length := by
      intro ts
      induction ts with
      | nil => intro vs ds p h; obtain ⟨_, rfl, _⟩ := trodAll_nil h; rfl
      | cons t ts ih =>
        intro vs ds p h
        obtain ⟨_, _, _, _, _, _, _, rfl, _, _, h2⟩ := trodAll_cons h
        simp [ih _ _ _ h2]
    exact this _ _ _ _ hA
  refine h.mono fun e W' hx => ?_
  obtain ⟨v, he, hv, hb0⟩ := hx
  have hb := hb0.toBelow
  obtain rfl : v = .bool true := by cases hv; rfl
  have hpl : before = p := by rw [hbef]; simp
  subst hpl
  refine ⟨_, he, post_of_below (pa := before) (pv := []) hW' (fun b sp hd => ?_) (fun sp hsp => ?_) (fun sp _ => ?_) (by simp) hb (hok W')⟩
  · rw [hfn ds hlen]; exact hres W' b sp hd
  · rw [hfn ds hlen]
    refine trodAll_stays hl hb (fun t ht => ?_) hA (fun x hx => hA.lt x hx) hsp
    have := List.all_eq_true.1 hts t ht
    simpa using this
  · rw [hfn ds hlen, hvars]; rfl
end
end Go.Proofs.YtelpdkojdfnmiaaGreat.Ev
/-! LR0 -/
namespace Go.Proofs.YtelpdkojdfnmiaaGreat
open Ev K
set_option maxRecDepth 100000
section
variable {H : Type} {enc : TypeId × Value → H} {w : World}
theorem fl_item : flat P 8 73 = some (List.replicate 7 (.int .i64)) := by kernel_rfl
theorem fl_int : flat P 8 3 = some [.int .i64] := by kernel_rfl
theorem fl_items : flat P 8 29 = some [.sl 73] := by kernel_rfl
theorem ag_int : aggB P 3 = some false := by kernel_rfl
theorem ag_items : aggB P 29 = some false := by kernel_rfl
theorem rx_items {v : Value} (h : CellR enc P w (.sl 73) v) : RdV w (dRows rItem) v := by
  obtain ⟨a, ha⟩ := rd_sl fl_item (by kernel_rfl) (by decide) (by decide) h
  exact ⟨decF rItem a.len fun i => a.f (a.row + i), (dRows rItem).ok _ _ rfl _ _ _ _ ha⟩
variable {r : Reach} {b : Nat} {v : Value} {d : DataW H} {p : List MemPlace}
theorem rp_items (hok : Value.okWide P w r b 29 v) (h : DataW.Trod enc P w 0 (fun _ => true) true 29 v d p) : RdV w (dRows rItem) v := rx_items (param_cell fl_items ag_items hok h)
theorem rp_int (hok : Value.okWide P w r b 3 v) (h : DataW.Trod enc P w 0 (fun _ => true) true 3 v d p) : RdV w (dI .i64) v := rd_int (param_cell fl_int ag_int hok h)
end
end Go.Proofs.YtelpdkojdfnmiaaGreat
/-! LS3 -/
namespace Go.Proofs.YtelpdkojdfnmiaaGreat
open Ev K
set_option maxRecDepth 100000
def S_sw := DecS.rnd (.cons (dO 0) (.cons dInt (.cons dInt (.cons dInt (.skips 6 (.last dInt 27)))))) O_pT V_own
def X_sw := DecX.one (.exit 0) [] (DecS.rnd (.tops 38) O_pT V_own)
noncomputable def K.st_sw := loopT1 P BLS2i 30 164 9 [10, 1, 0, 2, 3] S_sw X_sw
theorem sl_sw : ∀ s, (K.st_sw) s = T.run (
 let q6 := s.1.2.2.2.2;
 let q1 := Int.toNat (IntKind.wrap IntKind.i64 (s.1.2.2.1 + q6));
 let q2 := Int.toNat (IntKind.wrap IntKind.i64 (s.1.2.1 + q6));
 let q3 := decide ((0 : Int) ≤ IntKind.wrap IntKind.i64 (s.1.2.2.1 + q6) ∧ IntKind.wrap IntKind.i64 (s.1.2.2.1 + q6) < (↑s.1.1 : Int));
 let q4 := decide ((0 : Int) ≤ IntKind.wrap IntKind.i64 (s.1.2.1 + q6) ∧ IntKind.wrap IntKind.i64 (s.1.2.1 + q6) < (↑s.1.1 : Int));
 let q5 := s.2.1.1.2;
  .br (decide (q6 < s.1.2.2.2.1)) (
    .chk q3 <|
    .chk q4 <|
    .chk q4 <|
    .chk q3 <|
    .ret (Sum.inl ((s.1.1, s.1.2.1, s.1.2.2.1, s.1.2.2.2.1, IntKind.wrap IntKind.i64 (q6 + (1 : Int))), ((s.2.1.1.1, decF rPost (List.length q5) (setR q1 (0 : Nat) (nat_lit 4) [AV.int IntKind.i64 (numOf (encF rPost q5 q2 (0 : Nat))), AV.int IntKind.i64 (numOf (encF rPost q5 q2 (nat_lit 1))), AV.int IntKind.i64 (numOf (encF rPost q5 q2 (nat_lit 2))), AV.int IntKind.i64 (numOf (encF rPost q5 q2 (nat_lit 3)))] (setR q2 (0 : Nat) (nat_lit 4) [AV.int IntKind.i64 (numOf (encF rPost q5 q1 (0 : Nat))), AV.int IntKind.i64 (numOf (encF rPost q5 q1 (nat_lit 1))), AV.int IntKind.i64 (numOf (encF rPost q5 q1 (nat_lit 2))), AV.int IntKind.i64 (numOf (encF rPost q5 q1 (nat_lit 3)))] (encF rPost q5)))), PUnit.unit), s.2.2))) (
    .ret (Sum.inr (PUnit.unit, ((s.2.1.1.1, decF rPost (List.length q5) (encF rPost q5)), PUnit.unit), s.2.2)))) := fun s => by kernel_rfl
noncomputable def K.L_sw := lim K.st_sw
noncomputable def BLS31 : Tab := BLS2i.addNode 164 9 (nodeE [10, 1, 0, 2, 3] S_sw X_sw (fun s => .obs (K.L_sw s) .ret))
theorem tLS31 : TabOk P BLS31 := TabOk.addLoop (d := 30) okP tLS2i (by kernel_rfl) (by kernel_rfl) (fun s r h => obs_ret h)
def D_sw : DecL (Int × Int × Int) := (DecL.cons dInt (.cons dInt (.cons dInt (.unit F_cmpD (.tops 0))))).iso (fun p => (p.1, p.2.1, p.2.2.1)) (fun p => (p.1, p.2.1, p.2.2, ())) (fun _ => rfl)
theorem fn_sw : ∀ a, (turnT1 P BLS31 30 164 D_sw rPost) a = T.run (
  .obs (L_sw ((List.length a.2.1, a.2.2.1, a.2.2.2.1, a.2.2.2.2, (0 : Int)), ((a.1, decF rPost (List.length a.2.1) (encF rPost a.2.1)), PUnit.unit), List.length a.2.1)) fun x0 =>
    .ret ((x0.2.1.1.1, decF rPost (List.length a.2.1) (encF rPost x0.2.1.1.2)))) := fun a => by kernel_rfl
namespace K
def swpL (l : List Pst) (a b n : Nat) : List Pst := l.take a ++ ((l.drop b).take n ++ ((l.drop (a + n)).take (b - (a + n)) ++ ((l.drop a).take n ++ l.drop (b + n))))
def M_sw (a : List Pst × Int × Int × Int) : T (List Pst) := .chk (decide (0 ≤ a.2.1 ∧ 0 ≤ a.2.2.2 ∧ a.2.1 + a.2.2.2 ≤ a.2.2.1 ∧ a.2.2.1 + a.2.2.2 ≤ a.1.length ∧ a.1.length ≤ 1000000)) (.ret (swpL a.1 a.2.1.toNat a.2.2.1.toNat a.2.2.2.toNat))
end K
end Go.Proofs.YtelpdkojdfnmiaaGreat
/-! LS4 -/
namespace Go.Proofs.YtelpdkojdfnmiaaGreat
open Ev K
set_option maxRecDepth 100000
namespace K
theorem two_set {α : Type} {P M Q : List α} {x y : α} : ((P ++ x :: (M ++ y :: Q)).set P.length y).set (P.length + 1 + M.length) x = P ++ y :: (M ++ x :: Q) := by
  rw [set_mid]
  have e : P ++ y :: (M ++ y :: Q) = (P ++ y :: M) ++ y :: Q := by simp
  have el : P.length + 1 + M.length = (P ++ y :: M).length := by simp; omega
  rw [e, el, set_mid]; simp
theorem two_get {α : Type} {P M Q : List α} {x y : α} : (P ++ x :: (M ++ y :: Q))[P.length]? = some x ∧ (P ++ x :: (M ++ y :: Q))[P.length + 1 + M.length]? = some y := by
  refine ⟨get_mid, ?_⟩
  have e : P ++ x :: (M ++ y :: Q) = (P ++ x :: M) ++ y :: Q := by simp
  have el : P.length + 1 + M.length = (P ++ x :: M).length := by simp; omega
  rw [e, el]; exact get_mid
theorem L_sw_eq (t : TypeId) (pre mid post : List Pst) (v N a b n : Nat) (hN : N ≤ 1000000) (ha : a = pre.length) : ∀ (X2 Y2 X1 Y1 : List Pst), X2.length = Y2.length → X1.length = Y1.length → n = X1.length + X2.length → b = pre.length + n + mid.length → N = b + n + post.length →
    L_sw ((N, (a : Int), (b : Int), (n : Int), (X1.length : Int)), ((t, pre ++ (Y1 ++ (X2 ++ (mid ++ (X1 ++ (Y2 ++ post)))))), ()), v) = some ((), ((t, pre ++ ((Y1 ++ Y2) ++ (mid ++ ((X1 ++ X2) ++ post)))), ()), v)
  | [], Y2, X1, Y1, h1, h2, hn, hb, hNN => by
    have : Y2 = [] := List.eq_nil_of_length_eq_zero h1.symm
    subst this
    refine lim_done ?_
    rw [sl_sw]
    simp only [decF_encF]
    refine br_f (decide_eq_false (by simp only [List.length_nil] at hn; omega)) ?_
    simp only [List.append_nil, List.nil_append]; rfl
  | x :: X2, [], X1, Y1, h1, _, _, _, _ => by simp at h1
  | x :: X2, y :: Y2, X1, Y1, h1, h2, hn, hb, hNN => by
    simp only [List.length_cons] at h1 hn
    have e0 : pre ++ (Y1 ++ (x :: X2 ++ (mid ++ (X1 ++ (y :: Y2 ++ post))))) = (pre ++ Y1) ++ x :: ((X2 ++ (mid ++ X1)) ++ y :: (Y2 ++ post)) := by simp
    have e1 : pre ++ ((Y1 ++ [y]) ++ (X2 ++ (mid ++ ((X1 ++ [x]) ++ (Y2 ++ post))))) = (pre ++ Y1) ++ y :: ((X2 ++ (mid ++ X1)) ++ x :: (Y2 ++ post)) := by simp
    have lP : (pre ++ Y1).length = a + X1.length := by rw [List.length_append]; omega
    have lM : (pre ++ Y1).length + 1 + (X2 ++ (mid ++ X1)).length = b + X1.length := by rw [List.length_append, List.length_append, List.length_append]; omega
    obtain ⟨g1, g2⟩ := two_get (P := pre ++ Y1) (M := X2 ++ (mid ++ X1)) (Q := Y2 ++ post) (x := x) (y := y)
    have g3 := two_set (P := pre ++ Y1) (M := X2 ++ (mid ++ X1)) (Q := Y2 ++ post) (x := x) (y := y)
    rw [lM] at g2 g3
    rw [lP] at g1 g3
    rw [← e0] at g1 g2 g3
    rw [← e1] at g3
    have w1 : IntKind.i64.wrap ((a : Int) + (X1.length : Int)) = ((a + X1.length : Nat) : Int) := by rw [w64_in (by omega) (by omega)]; rfl
    have w2 : IntKind.i64.wrap ((b : Int) + (X1.length : Int)) = ((b + X1.length : Nat) : Int) := by rw [w64_in (by omega) (by omega)]; rfl
    have w3 : IntKind.i64.wrap ((X1.length : Int) + 1) = ((X1 ++ [x]).length : Int) := by rw [w64_in (by omega) (by omega)]; simp
    have ih := L_sw_eq t pre mid post v N a b n hN ha X2 Y2 (X1 ++ [x]) (Y1 ++ [y]) (by omega) (by simp [h2]) (by simp; omega) hb hNN
    generalize hR : pre ++ (Y1 ++ (x :: X2 ++ (mid ++ (X1 ++ (y :: Y2 ++ post))))) = R at g1 g2 g3 ⊢
    have hs : st_sw ((N, (a : Int), (b : Int), (n : Int), (X1.length : Int)), ((t, R), ()), v) = some (.inl ((N, (a : Int), (b : Int), (n : Int), ((X1 ++ [x]).length : Int)), ((t, pre ++ ((Y1 ++ [y]) ++ (X2 ++ (mid ++ ((X1 ++ [x]) ++ (Y2 ++ post)))))), ()), v)) := by
      rw [sl_sw]
      simp only [w1, w2, w3, Int.toNat_natCast, post_at g1, post_at g2, pw0, pw1, pw2, pw3, decF_setP, decF_encF]
      refine br_t (decide_eq_true (by omega)) (chk_step (decide_eq_true (by omega)) (chk_step (decide_eq_true (by omega)) (chk_step (decide_eq_true (by omega)) (chk_step (decide_eq_true (by omega)) ?_))))
      rw [← g3]; rfl
    refine (lim_step hs).trans (Eq.trans ih ?_)
    simp
theorem sw_turn (t : TypeId) (pre X mid Y post : List Pst) (hXY : X.length = Y.length) (hl : pre.length + X.length + mid.length + Y.length + post.length ≤ 1000000) :
    turnT1 P BLS31 30 164 D_sw rPost (t, pre ++ (X ++ (mid ++ (Y ++ post))), (pre.length : Int), ((pre.length + X.length + mid.length : Nat) : Int), (X.length : Int)) = some (t, pre ++ (Y ++ (mid ++ (X ++ post)))) := by
  rw [fn_sw]
  simp only [decF_encF]
  have hlen : (pre ++ (X ++ (mid ++ (Y ++ post)))).length = pre.length + X.length + mid.length + X.length + post.length := by simp; omega
  have key := L_sw_eq t pre mid post (pre ++ (X ++ (mid ++ (Y ++ post)))).length (pre ++ (X ++ (mid ++ (Y ++ post)))).length pre.length (pre.length + X.length + mid.length) X.length (by omega) rfl X Y [] [] hXY rfl (by simp) rfl hlen
  simp only [List.nil_append] at key
  refine obs_step key ?_
  have h2 : (pre ++ (X ++ (mid ++ (Y ++ post)))).length = (pre ++ (Y ++ (mid ++ (X ++ post)))).length := by simp; omega
  simp only
  rw [h2, decF_encF]; rfl
theorem sw_split {l : List Pst} {a b n : Nat} (h1 : a + n ≤ b) (_h2 : b + n ≤ l.length) : l = l.take a ++ ((l.drop a).take n ++ ((l.drop (a + n)).take (b - (a + n)) ++ ((l.drop b).take n ++ l.drop (b + n)))) := by
  have e1 : l.drop (b + n) = (l.drop b).drop n := by rw [List.drop_drop]
  have e2 : l.drop b = (l.drop (a + n)).drop (b - (a + n)) := by rw [List.drop_drop, show a + n + (b - (a + n)) = b by omega]
  have e3 : l.drop (a + n) = (l.drop a).drop n := by rw [List.drop_drop]
  rw [e1, List.take_append_drop]
  conv => rhs; rw [show (l.drop (a + n)).take (b - (a + n)) ++ l.drop b = l.drop (a + n) by rw [e2, List.take_append_drop]]
  rw [e3, List.take_append_drop, List.take_append_drop]
theorem sw_mc (l : List Pst) (a : Int × Int × Int) (l' : List Pst) (h : (M_sw (l, a)).run = some l') : MC P 164 rPost.wd l.length ⟨rPost.tags, encF rPost l⟩ ⟨rPost.tags, encF rPost l'⟩ (D_sw.enc a) := by
  obtain ⟨x, y, z⟩ := a
  obtain ⟨g, e⟩ := chk_ret h
  subst e
  have g := of_decide_eq_true g
  simp only at g
  obtain ⟨a, rfl⟩ : ∃ a : Nat, x = a := ⟨x.toNat, by omega⟩
  obtain ⟨b, rfl⟩ : ∃ b : Nat, y = b := ⟨y.toNat, by omega⟩
  obtain ⟨n, rfl⟩ : ∃ n : Nat, z = n := ⟨z.toNat, by omega⟩
  refine turn_of (d := 30) okP tLS31 fun t => ?_
  have hsp := sw_split (l := l) (a := a) (b := b) (n := n) (by omega) (by omega)
  unfold swpL
  simp only [Int.toNat_natCast]
  have hl1 : (l.take a).length = a := by rw [List.length_take]; omega
  have hl2 : ((l.drop a).take n).length = n := by rw [List.length_take, List.length_drop]; omega
  have hl3 : ((l.drop (a + n)).take (b - (a + n))).length = b - (a + n) := by rw [List.length_take, List.length_drop]; omega
  have hl4 : ((l.drop b).take n).length = n := by rw [List.length_take, List.length_drop]; omega
  have hl5 : (l.drop (b + n)).length = l.length - (b + n) := List.length_drop
  generalize l.take a = pre at *
  generalize (l.drop a).take n = X at *
  generalize (l.drop (a + n)).take (b - (a + n)) = mid at *
  generalize (l.drop b).take n = Y at *
  generalize l.drop (b + n) = post at *
  have key := sw_turn t pre X mid Y post (by omega) (by omega)
  rw [← hsp, hl1, hl2, hl3, show a + n + (b - (a + n)) = b by omega] at key
  exact key
end K
noncomputable def BLS4s : Tab := BLS31.addTurn 164 (turnE D_sw rPost K.M_sw)
theorem tLS4s : TabOk P BLS4s := TabOk.addTurn tLS31 (turnE_cc K.sw_mc)
def E_rot : DecL (Nat × Int × Int × Int) := .cons (dO 0) (.skip (.cons dInt (.skip (.unit F_cmpD (.skips 5 (.cons dInt (.last dInt 46)))))))
def S_rot := DecS.rnd E_rot O_pT V_own
def X_rot := DecX.one (.exit 0) [10, 4, 2, 0] (DecS.rnd (.cons (dO 0) (.skip (.cons dInt (.skip (.unit F_cmpD (.skips 5 (.last dInt 47))))))) O_pT V_own)
noncomputable def K.st_rot := loopT1 P BLS4s 30 147 17 [11, 10, 4, 2, 0] S_rot X_rot
theorem sl_rot : ∀ s, (K.st_rot) s = T.run (
 let q4 := List.length s.2.1.1.2;
 let q1 := decF rPost q4 (encF rPost s.2.1.1.2);
 let q8 := s.1.2.1;
 let q6 := s.1.2.2.2;
 let q3 := s.1.2.2.1;
 let q2 := IntKind.wrap IntKind.i64 (q8 + q6) - q3;
 let q5 := q8 - q3;
 let q7 := Int.toNat (IntKind.wrap IntKind.i64 q5);
  .br (q3 != q6) (
    .br (decide (q3 > q6)) (
      .chk (decide ((0 : Int) ≤ IntKind.wrap IntKind.i64 q5 ∧ (0 : Int) ≤ q6 ∧ IntKind.wrap IntKind.i64 q5 + q6 ≤ q8 ∧ q8 + q6 ≤ (↑(List.length q1) : Int) ∧ List.length q1 ≤ (1000000 : Nat))) <|
      .ret (Sum.inl ((s.1.1, q8, IntKind.wrap IntKind.i64 (q3 - q6), q6), ((s.2.1.1.1, decF rPost q4 (encF rPost (swpL q1 q7 (Int.toNat q8) (Int.toNat q6)))), PUnit.unit), s.2.2))) (
      .chk (decide ((0 : Int) ≤ IntKind.wrap IntKind.i64 q5 ∧ (0 : Int) ≤ q3 ∧ IntKind.wrap IntKind.i64 q5 + q3 ≤ IntKind.wrap IntKind.i64 q2 ∧ IntKind.wrap IntKind.i64 q2 + q3 ≤ (↑(List.length q1) : Int) ∧ List.length q1 ≤ (1000000 : Nat))) <|
      .ret (Sum.inl ((s.1.1, q8, q3, IntKind.wrap IntKind.i64 (q6 - q3)), ((s.2.1.1.1, decF rPost q4 (encF rPost (swpL q1 q7 (Int.toNat (IntKind.wrap IntKind.i64 q2)) (Int.toNat q3)))), PUnit.unit), s.2.2)))) (
    .ret (Sum.inr ((s.1.1, q8, q3), ((s.2.1.1.1, decF rPost q4 (encF rPost s.2.1.1.2)), PUnit.unit), s.2.2)))) := fun s => by kernel_rfl
noncomputable def K.L_rot := lim K.st_rot
noncomputable def BLS41 : Tab := BLS4s.addNode 147 17 (nodeE [11, 10, 4, 2, 0] S_rot X_rot (fun s => .obs (K.L_rot s) .ret))
theorem tLS41 : TabOk P BLS41 := TabOk.addLoop (d := 30) okP tLS4s (by kernel_rfl) (by kernel_rfl) (fun s r h => obs_ret h)
theorem fn_rot : ∀ a, (turnT1 P BLS41 30 147 D_sw rPost) a = T.run (
  .obs (L_rot ((List.length a.2.1, a.2.2.2.1, IntKind.wrap IntKind.i64 (a.2.2.2.1 - a.2.2.1), IntKind.wrap IntKind.i64 (a.2.2.2.2 - a.2.2.2.1)), ((a.1, decF rPost (List.length a.2.1) (encF rPost a.2.1)), PUnit.unit), List.length a.2.1)) fun x0 =>
 let q1 := decF rPost (List.length x0.2.1.1.2) (encF rPost x0.2.1.1.2);
 let q2 := x0.1.2.1 - x0.1.2.2;
    .chk (decide ((0 : Int) ≤ IntKind.wrap IntKind.i64 q2 ∧ (0 : Int) ≤ x0.1.2.2 ∧ IntKind.wrap IntKind.i64 q2 + x0.1.2.2 ≤ x0.1.2.1 ∧ x0.1.2.1 + x0.1.2.2 ≤ (↑(List.length q1) : Int) ∧ List.length q1 ≤ (1000000 : Nat))) <|
    .ret ((x0.2.1.1.1, decF rPost (List.length a.2.1) (encF rPost (swpL q1 (Int.toNat (IntKind.wrap IntKind.i64 q2)) (Int.toNat x0.1.2.1) (Int.toNat x0.1.2.2)))))) := fun a => by kernel_rfl
end Go.Proofs.YtelpdkojdfnmiaaGreat
/-! LS5 -/
namespace Go.Proofs.YtelpdkojdfnmiaaGreat
open Ev K
set_option maxRecDepth 100000
namespace K
theorem swpL_eq (pre X mid Y post : List Pst) (hXY : X.length = Y.length) {a b n : Nat} (ha : a = pre.length) (hn : n = X.length) (hb : b = pre.length + X.length + mid.length) : swpL (pre ++ (X ++ (mid ++ (Y ++ post)))) a b n = pre ++ (Y ++ (mid ++ (X ++ post))) := by
  subst ha; subst hn; subst hb
  unfold swpL
  have d1 : (pre ++ (X ++ (mid ++ (Y ++ post)))).drop pre.length = X ++ (mid ++ (Y ++ post)) := List.drop_left
  have d2 : (pre ++ (X ++ (mid ++ (Y ++ post)))).drop (pre.length + X.length) = mid ++ (Y ++ post) := by rw [← List.drop_drop, d1]; exact List.drop_left
  have d3 : (pre ++ (X ++ (mid ++ (Y ++ post)))).drop (pre.length + X.length + mid.length) = Y ++ post := by rw [← List.drop_drop, d2]; exact List.drop_left
  have d4 : (pre ++ (X ++ (mid ++ (Y ++ post)))).drop (pre.length + X.length + mid.length + X.length) = post := by rw [← List.drop_drop, d3, hXY]; exact List.drop_left
  rw [d1, d2, d3, d4, List.take_left, List.take_left, show pre.length + X.length + mid.length - (pre.length + X.length) = mid.length by omega, List.take_left]
  conv => lhs; rw [hXY, List.take_left]
theorem L_rot_eq (t : TypeId) (v N m : Nat) (hN : N ≤ 1000000) : ∀ (n : Nat) (pre X Y post : List Pst), X.length + Y.length ≤ n → 1 ≤ X.length → 1 ≤ Y.length → m = pre.length + X.length → N = m + Y.length + post.length →
    ∃ pre' X' Y' post', X'.length = Y'.length ∧ m = pre'.length + X'.length ∧ N = m + Y'.length + post'.length ∧ pre' ++ (Y' ++ (X' ++ post')) = pre ++ (Y ++ (X ++ post)) ∧
      L_rot ((N, (m : Int), (X.length : Int), (Y.length : Int)), ((t, pre ++ (X ++ (Y ++ post))), ()), v) = some ((N, (m : Int), (X'.length : Int)), ((t, pre' ++ (X' ++ (Y' ++ post'))), ()), v)
  | 0, pre, X, Y, post, h, h1, _, _, _ => by omega
  | n + 1, pre, X, Y, post, h, h1, h2, hm, hNN => by
    have hlen : (pre ++ (X ++ (Y ++ post))).length = N := by simp; omega
    have w1 : IntKind.i64.wrap ((m : Int) - (X.length : Int)) = ((pre.length : Nat) : Int) := by rw [w64_in (by omega) (by omega)]; omega
    by_cases he : X.length = Y.length
    · refine ⟨pre, X, Y, post, he, hm, hNN, rfl, lim_done ?_⟩
      rw [sl_rot]
      simp only [decF_encF]
      refine br_f (by rw [bne_eq_false_iff_eq]; omega) rfl
    · by_cases hgt : X.length > Y.length
      · have hX : X = X.take Y.length ++ X.drop Y.length := (List.take_append_drop _ _).symm
        have hx1 : (X.take Y.length).length = Y.length := by rw [List.length_take]; omega
        have hx2 : (X.drop Y.length).length = X.length - Y.length := List.length_drop
        generalize X.take Y.length = X1 at hX hx1
        generalize X.drop Y.length = X2 at hX hx2
        have hsw := swpL_eq pre X1 X2 Y post hx1 (a := pre.length) (b := m) (n := Y.length) rfl hx1.symm (by omega)
        have e0 : pre ++ (X ++ (Y ++ post)) = pre ++ (X1 ++ (X2 ++ (Y ++ post))) := by rw [hX]; simp
        obtain ⟨pre', X', Y', post', a1, a2, a3, a4, a5⟩ := L_rot_eq t v N m hN n (pre ++ Y) X2 X1 post (by omega) (by omega) (by omega) (by rw [List.length_append]; omega) (by omega)
        refine ⟨pre', X', Y', post', a1, a2, a3, by rw [a4, hX]; simp, (lim_step ?_).trans a5⟩
        rw [sl_rot]
        have w2 : IntKind.i64.wrap ((X.length : Int) - (Y.length : Int)) = (X2.length : Int) := by rw [w64_in (by omega) (by omega)]; omega
        have el : (pre ++ (X ++ (Y ++ post))).length = (pre ++ (Y ++ (X2 ++ (X1 ++ post)))).length := by rw [hX]; simp; omega
        simp only [decF_encF, w1, w2, Int.toNat_natCast]
        refine br_t (by rw [bne_iff_ne]; omega) (br_t (decide_eq_true (by omega)) (chk_step (decide_eq_true (by omega)) ?_))
        rw [e0, hsw, ← e0, el, decF_encF, hx1, List.append_assoc]; rfl
      · have hlt : X.length < Y.length := by omega
        have hY : Y = Y.take (Y.length - X.length) ++ Y.drop (Y.length - X.length) := (List.take_append_drop _ _).symm
        have hy1 : (Y.take (Y.length - X.length)).length = Y.length - X.length := by rw [List.length_take]; omega
        have hy2 : (Y.drop (Y.length - X.length)).length = X.length := by rw [List.length_drop]; omega
        generalize Y.take (Y.length - X.length) = Y1 at hY hy1
        generalize Y.drop (Y.length - X.length) = Y2 at hY hy2
        have hsw := swpL_eq pre X Y1 Y2 post hy2.symm (a := pre.length) (b := m + (Y.length - X.length)) (n := X.length) rfl rfl (by omega)
        have e0 : pre ++ (X ++ (Y ++ post)) = pre ++ (X ++ (Y1 ++ (Y2 ++ post))) := by rw [hY]; simp
        obtain ⟨pre', X', Y', post', a1, a2, a3, a4, a5⟩ := L_rot_eq t v N m hN n pre Y2 Y1 (X ++ post) (by omega) (by omega) (by omega) (by omega) (by rw [List.length_append]; omega)
        refine ⟨pre', X', Y', post', a1, a2, a3, by rw [a4, hY]; simp, (lim_step ?_).trans a5⟩
        rw [sl_rot]
        have w2 : IntKind.i64.wrap ((m : Int) + (Y.length : Int)) = ((m + Y.length : Nat) : Int) := by rw [w64_in (by omega) (by omega)]; rfl
        have w3 : IntKind.i64.wrap (((m + Y.length : Nat) : Int) - (X.length : Int)) = ((m + (Y.length - X.length) : Nat) : Int) := by rw [w64_in (by omega) (by omega)]; omega
        have w4 : IntKind.i64.wrap ((Y.length : Int) - (X.length : Int)) = (Y1.length : Int) := by rw [w64_in (by omega) (by omega)]; omega
        have el : (pre ++ (X ++ (Y ++ post))).length = (pre ++ (Y2 ++ (Y1 ++ (X ++ post)))).length := by rw [hY]; simp; omega
        simp only [decF_encF, w1, w2, w3, w4, Int.toNat_natCast]
        refine br_t (by rw [bne_iff_ne]; omega) (br_f (decide_eq_false (by omega)) (chk_step (decide_eq_true (by omega)) ?_))
        rw [e0, hsw, ← e0, el, decF_encF, hy2]; rfl
theorem rot_turn (t : TypeId) (pre X Y post : List Pst) (h1 : 1 ≤ X.length) (h2 : 1 ≤ Y.length) (hl : pre.length + X.length + Y.length + post.length ≤ 1000000) :
    turnT1 P BLS41 30 147 D_sw rPost (t, pre ++ (X ++ (Y ++ post)), (pre.length : Int), ((pre.length + X.length : Nat) : Int), ((pre.length + X.length + Y.length : Nat) : Int)) = some (t, pre ++ (Y ++ (X ++ post))) := by
  rw [fn_rot]
  simp only [decF_encF]
  have w1 : IntKind.i64.wrap (((pre.length + X.length : Nat) : Int) - (pre.length : Int)) = (X.length : Int) := by rw [w64_in (by omega) (by omega)]; omega
  have w2 : IntKind.i64.wrap (((pre.length + X.length + Y.length : Nat) : Int) - ((pre.length + X.length : Nat) : Int)) = (Y.length : Int) := by rw [w64_in (by omega) (by omega)]; omega
  rw [w1, w2]
  have hlen : (pre ++ (X ++ (Y ++ post))).length = pre.length + X.length + Y.length + post.length := by simp; omega
  obtain ⟨pre', X', Y', post', a1, a2, a3, a4, a5⟩ := L_rot_eq t (pre ++ (X ++ (Y ++ post))).length (pre ++ (X ++ (Y ++ post))).length (pre.length + X.length) (by omega) (X.length + Y.length) pre X Y post (Nat.le_refl _) h1 h2 rfl hlen
  refine obs_step a5 ?_
  have hsw := swpL_eq pre' X' [] Y' post' a1 (a := pre'.length) (b := pre.length + X.length) (n := X'.length) rfl rfl (by simp; omega)
  simp only [List.nil_append] at hsw
  have w3 : IntKind.i64.wrap (((pre.length + X.length : Nat) : Int) - (X'.length : Int)) = (pre'.length : Int) := by rw [w64_in (by omega) (by omega)]; omega
  have hl2 : (pre' ++ (X' ++ (Y' ++ post'))).length = pre.length + X.length + Y.length + post.length := by simp; omega
  simp only [w3, Int.toNat_natCast, hsw]
  refine chk_step (decide_eq_true (by omega)) ?_
  have hl3 : (pre ++ (X ++ (Y ++ post))).length = (pre' ++ (Y' ++ (X' ++ post'))).length := by rw [a4]; simp; omega
  rw [hl3, decF_encF, a4]; rfl
def rotL (l : List Pst) (a m b : Nat) : List Pst := l.take a ++ ((l.drop m).take (b - m) ++ ((l.drop a).take (m - a) ++ l.drop b))
def M_rot (a : List Pst × Int × Int × Int) : T (List Pst) := .chk (decide (0 ≤ a.2.1 ∧ a.2.1 < a.2.2.1 ∧ a.2.2.1 < a.2.2.2 ∧ a.2.2.2 ≤ a.1.length ∧ a.1.length ≤ 1000000)) (.ret (rotL a.1 a.2.1.toNat a.2.2.1.toNat a.2.2.2.toNat))
theorem two_split {l : List Pst} {a m b : Nat} (h1 : a ≤ m) (h2 : m ≤ b) (_h3 : b ≤ l.length) : l = l.take a ++ ((l.drop a).take (m - a) ++ ((l.drop m).take (b - m) ++ l.drop b)) := by
  have e1 : l.drop b = (l.drop m).drop (b - m) := by rw [List.drop_drop, show m + (b - m) = b by omega]
  have e2 : l.drop m = (l.drop a).drop (m - a) := by rw [List.drop_drop, show a + (m - a) = m by omega]
  rw [e1, List.take_append_drop, e2, List.take_append_drop, List.take_append_drop]
theorem rot_mc (l : List Pst) (a : Int × Int × Int) (l' : List Pst) (h : (M_rot (l, a)).run = some l') : MC P 147 rPost.wd l.length ⟨rPost.tags, encF rPost l⟩ ⟨rPost.tags, encF rPost l'⟩ (D_sw.enc a) := by
  obtain ⟨x, y, z⟩ := a
  obtain ⟨g, e⟩ := chk_ret h
  subst e
  have g := of_decide_eq_true g
  simp only at g
  obtain ⟨a, rfl⟩ : ∃ a : Nat, x = a := ⟨x.toNat, by omega⟩
  obtain ⟨m, rfl⟩ : ∃ m : Nat, y = m := ⟨y.toNat, by omega⟩
  obtain ⟨b, rfl⟩ : ∃ b : Nat, z = b := ⟨z.toNat, by omega⟩
  refine turn_of (d := 30) okP tLS41 fun t => ?_
  have hsp := two_split (l := l) (a := a) (m := m) (b := b) (by omega) (by omega) (by omega)
  unfold rotL
  simp only [Int.toNat_natCast]
  have hl1 : (l.take a).length = a := by rw [List.length_take]; omega
  have hl2 : ((l.drop a).take (m - a)).length = m - a := by rw [List.length_take, List.length_drop]; omega
  have hl3 : ((l.drop m).take (b - m)).length = b - m := by rw [List.length_take, List.length_drop]; omega
  have hl5 : (l.drop b).length = l.length - b := List.length_drop
  generalize l.take a = pre at *
  generalize (l.drop a).take (m - a) = X at *
  generalize (l.drop m).take (b - m) = Y at *
  generalize l.drop b = post at *
  have key := rot_turn t pre X Y post (by omega) (by omega) (by omega)
  rw [← hsp, hl1, hl2, hl3, show a + (m - a) = m by omega, show m + (b - m) = b by omega] at key
  exact key
end K
noncomputable def BLS5r : Tab := BLS41.addTurn 147 (turnE D_sw rPost K.M_rot)
theorem tLS5r : TabOk P BLS5r := TabOk.addTurn tLS41 (turnE_cc K.rot_mc)
end Go.Proofs.YtelpdkojdfnmiaaGreat
/-! LS6 -/
namespace Go.Proofs.YtelpdkojdfnmiaaGreat
open Ev K
set_option maxRecDepth 100000
namespace K
noncomputable abbrev fSym : FuncId := 125
instance (l : List Pst) : Decidable (Sd l) := by unfold Sd; infer_instance
def symOk (n : Nat) (l : List Pst) (a m b : Int) : Bool := decide ((0 ≤ a ∧ a < m ∧ m < b ∧ b ≤ l.length ∧ l.length ≤ 1000000 ∧ b - a < n) ∧ Sd ((l.drop a.toNat).take (m.toNat - a.toNat)) ∧ Sd ((l.drop m.toNat).take (b.toNat - m.toNat)))
def M_sym (n : Nat) (a : List Pst × Int × Int × Int) : T (List Pst) := .chk (symOk n a.1 a.2.1 a.2.2.1 a.2.2.2) (.ret (sortSeg a.1 a.2.1.toNat a.2.2.2.toNat))
end K
def S_y25 := DecS.rnd (.cons (dO 0) (.cons dInt (.skips 2 (.unit F_cmpD (.skips 5 (.cons dInt (.last dInt 208))))))) O_pT V_own
def X_y25 := DecX.one (.exit 0) [1, 0, 10] (DecS.rnd (.cons (dO 0) (.cons dInt (.skips 8 (.last dInt 209)))) O_pT V_own)
noncomputable def K.st_y25 := loopT1 P BLS5r 30 fSym 25 [1, 0, 4, 11, 10] S_y25 X_y25
theorem sl_y25 : ∀ s, (K.st_y25) s = T.run (
 let q1 := Int.fdiv (IntKind.wrap IntKind.u64 (IntKind.wrap IntKind.i64 (s.1.2.2.1 + s.1.2.2.2))) (Int.ofNat (nat_lit 2));
 let q4 := s.2.1.1.2;
 let q2 := ((s.2.1.1.1, decF rPost (List.length q4) (encF rPost q4)), PUnit.unit);
 let q3 := Int.toNat (IntKind.wrap IntKind.i64 q1);
 let q5 := Int.toNat s.1.2.1;
  .br (decide (s.1.2.2.1 < s.1.2.2.2)) (
    .chk (decide ((0 : Int) ≤ IntKind.wrap IntKind.i64 q1 ∧ IntKind.wrap IntKind.i64 q1 < (↑s.1.1 : Int))) <|
    .chk (decide ((0 : Int) ≤ s.1.2.1 ∧ s.1.2.1 < (↑s.1.1 : Int))) <|
    .br (decide (cmpD (Pst.mk (numOf (encF rPost q4 q3 (0 : Nat))) (numOf (encF rPost q4 q3 (nat_lit 1))) (numOf (encF rPost q4 q3 (nat_lit 2))) (numOf (encF rPost q4 q3 (nat_lit 3))), Pst.mk (numOf (encF rPost q4 q5 (0 : Nat))) (numOf (encF rPost q4 q5 (nat_lit 1))) (numOf (encF rPost q4 q5 (nat_lit 2))) (numOf (encF rPost q4 q5 (nat_lit 3)))) < (0 : Int))) (
      .ret (Sum.inl ((s.1.1, s.1.2.1, IntKind.wrap IntKind.i64 (IntKind.wrap IntKind.i64 q1 + (1 : Int)), s.1.2.2.2), q2, s.2.2))) (
      .ret (Sum.inl ((s.1.1, s.1.2.1, s.1.2.2.1, IntKind.wrap IntKind.i64 q1), q2, s.2.2)))) (
    .ret (Sum.inr ((s.1.1, s.1.2.1, s.1.2.2.1), q2, s.2.2)))) := fun s => by kernel_rfl
noncomputable def K.L_y25 := lim K.st_y25
noncomputable def BLS61 : Tab := BLS5r.addNode 125 25 (nodeE [1, 0, 4, 11, 10] S_y25 X_y25 (fun s => .obs (K.L_y25 s) .ret))
theorem tLS61 : TabOk P BLS61 := TabOk.addLoop (d := 30) okP tLS5r (by kernel_rfl) (by kernel_rfl) (fun s r h => obs_ret h)
def S_y73 := DecS.rnd (.cons (dO 0) (.skips 9 (.cons dInt (.skips 2 (.last dInt 206))))) O_pT V_own
def X_y73 := DecX.one (.exit 2) [] (DecS.rnd (.tops 220) O_pT V_own)
noncomputable def K.st_y73 := loopT1 P BLS61 30 fSym 73 [13, 0, 10] S_y73 X_y73
theorem sl_y73 : ∀ s, (K.st_y73) s = T.run (
 let q6 := s.1.2.2 + (1 : Int);
 let q1 := Int.toNat (IntKind.wrap IntKind.i64 q6);
 let q2 := decide ((0 : Int) ≤ IntKind.wrap IntKind.i64 q6 ∧ IntKind.wrap IntKind.i64 q6 < (↑s.1.1 : Int));
 let q3 := s.2.1.1.2;
 let q4 := Int.toNat s.1.2.2;
 let q5 := decide ((0 : Int) ≤ s.1.2.2 ∧ s.1.2.2 < (↑s.1.1 : Int));
  .br (decide (s.1.2.2 < IntKind.wrap IntKind.i64 (s.1.2.1 - (1 : Int)))) (
    .chk q2 <|
    .chk q5 <|
    .chk q5 <|
    .chk q2 <|
    .ret (Sum.inl ((s.1.1, s.1.2.1, IntKind.wrap IntKind.i64 q6), ((s.2.1.1.1, decF rPost (List.length q3) (setR q1 (0 : Nat) (nat_lit 4) [AV.int IntKind.i64 (numOf (encF rPost q3 q4 (0 : Nat))), AV.int IntKind.i64 (numOf (encF rPost q3 q4 (nat_lit 1))), AV.int IntKind.i64 (numOf (encF rPost q3 q4 (nat_lit 2))), AV.int IntKind.i64 (numOf (encF rPost q3 q4 (nat_lit 3)))] (setR q4 (0 : Nat) (nat_lit 4) [AV.int IntKind.i64 (numOf (encF rPost q3 q1 (0 : Nat))), AV.int IntKind.i64 (numOf (encF rPost q3 q1 (nat_lit 1))), AV.int IntKind.i64 (numOf (encF rPost q3 q1 (nat_lit 2))), AV.int IntKind.i64 (numOf (encF rPost q3 q1 (nat_lit 3)))] (encF rPost q3)))), PUnit.unit), s.2.2))) (
    .ret (Sum.inr (PUnit.unit, ((s.2.1.1.1, decF rPost (List.length q3) (encF rPost q3)), PUnit.unit), s.2.2)))) := fun s => by kernel_rfl
noncomputable def K.L_y73 := lim K.st_y73
noncomputable def BLS62 : Tab := BLS61.addNode 125 73 (nodeE [13, 0, 10] S_y73 X_y73 (fun s => .obs (K.L_y73 s) .ret))
theorem tLS62 : TabOk P BLS62 := TabOk.addLoop (d := 30) okP tLS61 (by kernel_rfl) (by kernel_rfl) (fun s r h => obs_ret h)
def S_y121 := DecS.rnd (.cons (dO 0) (.skip (.cons dInt (.skip (.unit F_cmpD (.skips 9 (.cons dInt (.last dInt 204)))))))) O_pT V_own
def X_y121 := DecX.one (.exit 4) [0, 2, 14] (DecS.rnd (.cons (dO 0) (.skip (.cons dInt (.skips 11 (.last dInt 205))))) O_pT V_own)
noncomputable def K.st_y121 := loopT1 P BLS62 30 fSym 121 [0, 2, 4, 15, 14] S_y121 X_y121
theorem sl_y121 : ∀ s, (K.st_y121) s = T.run (
 let q1 := Int.fdiv (IntKind.wrap IntKind.u64 (IntKind.wrap IntKind.i64 (s.1.2.2.1 + s.1.2.2.2))) (Int.ofNat (nat_lit 2));
 let q4 := s.2.1.1.2;
 let q2 := ((s.2.1.1.1, decF rPost (List.length q4) (encF rPost q4)), PUnit.unit);
 let q3 := Int.toNat (IntKind.wrap IntKind.i64 q1);
 let q5 := Int.toNat s.1.2.1;
  .br (decide (s.1.2.2.1 < s.1.2.2.2)) (
    .chk (decide ((0 : Int) ≤ s.1.2.1 ∧ s.1.2.1 < (↑s.1.1 : Int))) <|
    .chk (decide ((0 : Int) ≤ IntKind.wrap IntKind.i64 q1 ∧ IntKind.wrap IntKind.i64 q1 < (↑s.1.1 : Int))) <|
    .br (!decide (cmpD (Pst.mk (numOf (encF rPost q4 q5 (0 : Nat))) (numOf (encF rPost q4 q5 (nat_lit 1))) (numOf (encF rPost q4 q5 (nat_lit 2))) (numOf (encF rPost q4 q5 (nat_lit 3))), Pst.mk (numOf (encF rPost q4 q3 (0 : Nat))) (numOf (encF rPost q4 q3 (nat_lit 1))) (numOf (encF rPost q4 q3 (nat_lit 2))) (numOf (encF rPost q4 q3 (nat_lit 3)))) < (0 : Int))) (
      .ret (Sum.inl ((s.1.1, s.1.2.1, IntKind.wrap IntKind.i64 (IntKind.wrap IntKind.i64 q1 + (1 : Int)), s.1.2.2.2), q2, s.2.2))) (
      .ret (Sum.inl ((s.1.1, s.1.2.1, s.1.2.2.1, IntKind.wrap IntKind.i64 q1), q2, s.2.2)))) (
    .ret (Sum.inr ((s.1.1, s.1.2.1, s.1.2.2.1), q2, s.2.2)))) := fun s => by kernel_rfl
noncomputable def K.L_y121 := lim K.st_y121
noncomputable def BLS63 : Tab := BLS62.addNode 125 121 (nodeE [0, 2, 4, 15, 14] S_y121 X_y121 (fun s => .obs (K.L_y121 s) .ret))
theorem tLS63 : TabOk P BLS63 := TabOk.addLoop (d := 30) okP tLS62 (by kernel_rfl) (by kernel_rfl) (fun s r h => obs_ret h)
def S_y169 := DecS.rnd (.cons (dO 0) (.skips 13 (.cons dInt (.skips 2 (.last dInt 202))))) O_pT V_own
def X_y169 := DecX.one (.exit 6) [] (DecS.rnd (.tops 220) O_pT V_own)
noncomputable def K.st_y169 := loopT1 P BLS63 30 fSym 169 [17, 0, 14] S_y169 X_y169
theorem sl_y169 : ∀ s, (K.st_y169) s = T.run (
 let q6 := s.1.2.2 - (1 : Int);
 let q1 := Int.toNat (IntKind.wrap IntKind.i64 q6);
 let q2 := decide ((0 : Int) ≤ IntKind.wrap IntKind.i64 q6 ∧ IntKind.wrap IntKind.i64 q6 < (↑s.1.1 : Int));
 let q3 := s.2.1.1.2;
 let q4 := Int.toNat s.1.2.2;
 let q5 := decide ((0 : Int) ≤ s.1.2.2 ∧ s.1.2.2 < (↑s.1.1 : Int));
  .br (decide (s.1.2.2 > s.1.2.1)) (
    .chk q2 <|
    .chk q5 <|
    .chk q5 <|
    .chk q2 <|
    .ret (Sum.inl ((s.1.1, s.1.2.1, IntKind.wrap IntKind.i64 q6), ((s.2.1.1.1, decF rPost (List.length q3) (setR q1 (0 : Nat) (nat_lit 4) [AV.int IntKind.i64 (numOf (encF rPost q3 q4 (0 : Nat))), AV.int IntKind.i64 (numOf (encF rPost q3 q4 (nat_lit 1))), AV.int IntKind.i64 (numOf (encF rPost q3 q4 (nat_lit 2))), AV.int IntKind.i64 (numOf (encF rPost q3 q4 (nat_lit 3)))] (setR q4 (0 : Nat) (nat_lit 4) [AV.int IntKind.i64 (numOf (encF rPost q3 q1 (0 : Nat))), AV.int IntKind.i64 (numOf (encF rPost q3 q1 (nat_lit 1))), AV.int IntKind.i64 (numOf (encF rPost q3 q1 (nat_lit 2))), AV.int IntKind.i64 (numOf (encF rPost q3 q1 (nat_lit 3)))] (encF rPost q3)))), PUnit.unit), s.2.2))) (
    .ret (Sum.inr (PUnit.unit, ((s.2.1.1.1, decF rPost (List.length q3) (encF rPost q3)), PUnit.unit), s.2.2)))) := fun s => by kernel_rfl
noncomputable def K.L_y169 := lim K.st_y169
noncomputable def BLS64 : Tab := BLS63.addNode 125 169 (nodeE [17, 0, 14] S_y169 X_y169 (fun s => .obs (K.L_y169 s) .ret))
theorem tLS64 : TabOk P BLS64 := TabOk.addLoop (d := 30) okP tLS63 (by kernel_rfl) (by kernel_rfl) (fun s r h => obs_ret h)
def S_y265 := DecS.rnd (.cons (dO 0) (.cons dInt (.cons dInt (.cons dInt (.unit F_cmpD (.skips 13 (.cons dInt (.cons dInt (.cons dInt (.cons dInt (.last dInt 197))))))))))) O_pT V_own
def X_y265 := DecX.one (.exit 8) [0, 4, 20, 3, 18, 1, 2, 19] (DecS.rnd (.cons (dO 0) (.cons dInt (.cons dInt (.cons dInt (.unit F_cmpD (.skips 13 (.cons dInt (.cons dInt (.last dInt 199))))))))) O_pT V_own)
noncomputable def K.st_y265 := loopT1 P BLS64 30 fSym 265 [0, 22, 4, 21, 20, 3, 18, 1, 2, 19] S_y265 X_y265
theorem sl_y265 : ∀ s, (K.st_y265) s = T.run (
 let q7 := s.1.2.2.2.2.2.2.1;
 let q1 := Int.fdiv (IntKind.wrap IntKind.u64 (IntKind.wrap IntKind.i64 (q7 + s.1.2.2.2.2.2.2.2.1))) (Int.ofNat (nat_lit 2));
 let q5 := s.1.2.2.2.2.2.2.2.2 - IntKind.wrap IntKind.i64 q1;
 let q2 := Int.toNat (IntKind.wrap IntKind.i64 q5);
 let q6 := s.2.1.1.2;
 let q3 := ((s.2.1.1.1, decF rPost (List.length q6) (encF rPost q6)), PUnit.unit);
 let q4 := Int.toNat (IntKind.wrap IntKind.i64 q1);
  .br (decide (q7 < s.1.2.2.2.2.2.2.2.1)) (
    .chk (decide ((0 : Int) ≤ IntKind.wrap IntKind.i64 q5 ∧ IntKind.wrap IntKind.i64 q5 < (↑s.1.1 : Int))) <|
    .chk (decide ((0 : Int) ≤ IntKind.wrap IntKind.i64 q1 ∧ IntKind.wrap IntKind.i64 q1 < (↑s.1.1 : Int))) <|
    .br (!decide (cmpD (Pst.mk (numOf (encF rPost q6 q2 (0 : Nat))) (numOf (encF rPost q6 q2 (nat_lit 1))) (numOf (encF rPost q6 q2 (nat_lit 2))) (numOf (encF rPost q6 q2 (nat_lit 3))), Pst.mk (numOf (encF rPost q6 q4 (0 : Nat))) (numOf (encF rPost q6 q4 (nat_lit 1))) (numOf (encF rPost q6 q4 (nat_lit 2))) (numOf (encF rPost q6 q4 (nat_lit 3)))) < (0 : Int))) (
      .ret (Sum.inl ((s.1.1, s.1.2.1, s.1.2.2.1, s.1.2.2.2.1, s.1.2.2.2.2.1, s.1.2.2.2.2.2.1, IntKind.wrap IntKind.i64 (IntKind.wrap IntKind.i64 q1 + (1 : Int)), s.1.2.2.2.2.2.2.2), q3, s.2.2))) (
      .ret (Sum.inl ((s.1.1, s.1.2.1, s.1.2.2.1, s.1.2.2.2.1, s.1.2.2.2.2.1, s.1.2.2.2.2.2.1, q7, IntKind.wrap IntKind.i64 q1, s.1.2.2.2.2.2.2.2.2), q3, s.2.2)))) (
    .ret (Sum.inr ((s.1.1, s.1.2.1, s.1.2.2.1, s.1.2.2.2.1, s.1.2.2.2.2.1, s.1.2.2.2.2.2.1, q7), q3, s.2.2)))) := fun s => by kernel_rfl
noncomputable def K.L_y265 := lim K.st_y265
noncomputable def BLS65 : Tab := BLS64.addNode 125 265 (nodeE [0, 22, 4, 21, 20, 3, 18, 1, 2, 19] S_y265 X_y265 (fun s => .obs (K.L_y265 s) .ret))
theorem tLS65 : TabOk P BLS65 := TabOk.addLoop (d := 30) okP tLS64 (by kernel_rfl) (by kernel_rfl) (fun s r h => obs_ret h)
noncomputable def BSy (n : Nat) : Tab := BLS65.addTurn fSym (turnE D_sw rPost (K.M_sym n))
noncomputable def K.t_sym (a : Nat × TypeId × List Pst × Int × Int × Int) := turnT1 P (BSy a.1) 30 fSym D_sw rPost a.2
theorem fn_sym : ∀ a, (K.t_sym) a = T.run (
 let q7 := a.2.2.1;
 let q1 := List.length q7;
 let q9 := a.2.2.2.1;
 let q8 := a.2.2.2.2.2;
 let q2 := Int.fdiv (IntKind.wrap IntKind.u64 (IntKind.wrap IntKind.i64 (q9 + q8))) (Int.ofNat (nat_lit 2));
 let q3 := ((a.2.1, decF rPost q1 (encF rPost q7)), PUnit.unit);
 let q5 := a.2.2.2.2.1;
 let q4 := IntKind.wrap IntKind.i64 q2 + q5;
 let q6 := IntKind.wrap IntKind.i64 q4 - (1 : Int);
  .br (IntKind.wrap IntKind.i64 (q5 - q9) == (1 : Int)) (
    .obs (L_y25 ((List.length q7, a.2.2.2), q3, List.length q7)) fun x0 =>
      .obs (L_y73 ((x0.1.1, x0.1.2.2, x0.1.2.1), ((x0.2.1.1.1, decF rPost (List.length x0.2.1.1.2) (encF rPost x0.2.1.1.2)), PUnit.unit), x0.2.2)) fun x1 =>
        .ret ((x1.2.1.1.1, decF rPost q1 (encF rPost x1.2.1.1.2)))) (
    .br (IntKind.wrap IntKind.i64 (q8 - q5) == (1 : Int)) (
      .obs (L_y121 ((List.length q7, q5, q9, q5), q3, List.length q7)) fun x0 =>
        .obs (L_y169 ((x0.1.1, x0.1.2.2, x0.1.2.1), ((x0.2.1.1.1, decF rPost (List.length x0.2.1.1.2) (encF rPost x0.2.1.1.2)), PUnit.unit), x0.2.2)) fun x1 =>
          .ret ((x1.2.1.1.1, decF rPost q1 (encF rPost x1.2.1.1.2)))) (
      .br (decide (q5 > IntKind.wrap IntKind.i64 q2)) (
        .obs (L_y265 ((List.length q7, q9, q5, q8, IntKind.wrap IntKind.i64 q2, IntKind.wrap IntKind.i64 q4, IntKind.wrap IntKind.i64 (IntKind.wrap IntKind.i64 q4 - q8), IntKind.wrap IntKind.i64 q2, IntKind.wrap IntKind.i64 q6), q3, List.length q7)) fun x0 =>
 let q17 := List.length x0.2.1.1.2;
 let q11 := decF rPost q17 (encF rPost x0.2.1.1.2);
 let q23 := x0.1.2.2.2.2.2.2;
 let q38 := x0.1.2.2.1;
 let q12 := x0.1.2.2.2.2.2.1 - q23;
 let q21 := IntKind.wrap IntKind.i64 q12;
 let q10 := encF rPost (rotL q11 (Int.toNat q23) (Int.toNat q38) (Int.toNat q21));
 let q15 := x0.1.2.2.2.2.1;
 let q18 := decide (q15 < IntKind.wrap IntKind.i64 q12);
 let q24 := x0.1.2.2.2.1;
 let q16 := decide (IntKind.wrap IntKind.i64 q12 < q24);
 let q32 := symOk a.1 q11 q15 q21 q24;
 let q25 := x0.2.1.1.1;
 let q31 := Int.toNat q15;
 let q35 := Int.toNat q24;
 let q22 := (q25, decF rPost q1 (encF rPost (sortSeg q11 q31 q35)));
 let q19 := (q25, decF rPost q1 (encF rPost x0.2.1.1.2));
 let q13 : T _ := .br q18 (
                  .br q16 (
                    .chk q32 <|
                    .ret q22) (
                    .ret q19)) (
                  .ret q19);
 let q14 := encF rPost (sortSeg q11 (Int.toNat x0.1.2.1) q31);
 let q30 := decF rPost q17 q10;
 let q20 := encF rPost (sortSeg q30 (Int.toNat x0.1.2.1) q31);
 let q26 := (q25, decF rPost q1 (encF rPost (sortSeg q30 q31 q35)));
 let q27 := (q25, decF rPost q1 (encF rPost (sortSeg (decF rPost q17 q14) q31 q35)));
 let q28 := (q25, decF rPost q1 q10);
 let q29 := (q25, decF rPost q1 q14);
 let q33 := decide (x0.1.2.1 < q23);
 let q34 := symOk a.1 (decF rPost q17 q14) q15 q21 q24;
 let q36 := decide (q23 < q15);
 let q37 := symOk a.1 q11 x0.1.2.1 q23 q15;
          .br (decide (q23 < q38)) (
            .br (decide (q38 < IntKind.wrap IntKind.i64 q12)) (
              .chk (decide ((0 : Int) ≤ q23 ∧ q23 < q38 ∧ q38 < IntKind.wrap IntKind.i64 q12 ∧ IntKind.wrap IntKind.i64 q12 ≤ (↑(List.length q11) : Int) ∧ List.length q11 ≤ (1000000 : Nat))) <|
              .br q33 (
                .br q36 (
                  .chk (symOk a.1 q30 x0.1.2.1 q23 q15) <|
                  .br q18 (
                    .br q16 (
                      .chk (symOk a.1 (decF rPost q17 q20) q15 q21 q24) <|
                      .ret ((q25, decF rPost q1 (encF rPost (sortSeg (decF rPost q17 q20) q31 q35))))) (
                      .ret ((q25, decF rPost q1 q20)))) (
                    .ret ((q25, decF rPost q1 q20)))) (
                  .br q18 (
                    .br q16 (
                      .chk (symOk a.1 q30 q15 q21 q24) <|
                      .ret q26) (
                      .ret q28)) (
                    .ret q28))) (
                .br q18 (
                  .br q16 (
                    .chk (symOk a.1 q30 q15 q21 q24) <|
                    .ret q26) (
                    .ret q28)) (
                  .ret q28))) (
              .br q33 (
                .br q36 (
                  .chk q37 <|
                  .br q18 (
                    .br q16 (
                      .chk q34 <|
                      .ret q27) (
                      .ret q29)) (
                    .ret q29)) (
                  .br q18 (
                    .br q16 (
                      .chk q32 <|
                      .ret q22) (
                      .ret q19)) (
                    .ret q19))) q13)) (
            .br q33 (
              .br q36 (
                .chk q37 <|
                .br q18 (
                  .br q16 (
                    .chk q34 <|
                    .ret q27) (
                    .ret q29)) (
                  .ret q29)) q13) (
              .br q18 (
                .br q16 (
                  .chk q32 <|
                  .ret q22) (
                  .ret q19)) (
                .ret q19)))) (
        .obs (L_y265 ((List.length q7, q9, q5, q8, IntKind.wrap IntKind.i64 q2, IntKind.wrap IntKind.i64 q4, q9, q5, IntKind.wrap IntKind.i64 q6), q3, List.length q7)) fun x0 =>
 let q46 := List.length x0.2.1.1.2;
 let q40 := decF rPost q46 (encF rPost x0.2.1.1.2);
 let q52 := x0.1.2.2.2.2.2.2;
 let q67 := x0.1.2.2.1;
 let q41 := x0.1.2.2.2.2.2.1 - q52;
 let q50 := IntKind.wrap IntKind.i64 q41;
 let q39 := encF rPost (rotL q40 (Int.toNat q52) (Int.toNat q67) (Int.toNat q50));
 let q44 := x0.1.2.2.2.2.1;
 let q47 := decide (q44 < IntKind.wrap IntKind.i64 q41);
 let q53 := x0.1.2.2.2.1;
 let q45 := decide (IntKind.wrap IntKind.i64 q41 < q53);
 let q61 := symOk a.1 q40 q44 q50 q53;
 let q54 := x0.2.1.1.1;
 let q60 := Int.toNat q44;
 let q64 := Int.toNat q53;
 let q51 := (q54, decF rPost q1 (encF rPost (sortSeg q40 q60 q64)));
 let q48 := (q54, decF rPost q1 (encF rPost x0.2.1.1.2));
 let q42 : T _ := .br q47 (
                  .br q45 (
                    .chk q61 <|
                    .ret q51) (
                    .ret q48)) (
                  .ret q48);
 let q43 := encF rPost (sortSeg q40 (Int.toNat x0.1.2.1) q60);
 let q59 := decF rPost q46 q39;
 let q49 := encF rPost (sortSeg q59 (Int.toNat x0.1.2.1) q60);
 let q55 := (q54, decF rPost q1 (encF rPost (sortSeg q59 q60 q64)));
 let q56 := (q54, decF rPost q1 (encF rPost (sortSeg (decF rPost q46 q43) q60 q64)));
 let q57 := (q54, decF rPost q1 q39);
 let q58 := (q54, decF rPost q1 q43);
 let q62 := decide (x0.1.2.1 < q52);
 let q63 := symOk a.1 (decF rPost q46 q43) q44 q50 q53;
 let q65 := decide (q52 < q44);
 let q66 := symOk a.1 q40 x0.1.2.1 q52 q44;
          .br (decide (q52 < q67)) (
            .br (decide (q67 < IntKind.wrap IntKind.i64 q41)) (
              .chk (decide ((0 : Int) ≤ q52 ∧ q52 < q67 ∧ q67 < IntKind.wrap IntKind.i64 q41 ∧ IntKind.wrap IntKind.i64 q41 ≤ (↑(List.length q40) : Int) ∧ List.length q40 ≤ (1000000 : Nat))) <|
              .br q62 (
                .br q65 (
                  .chk (symOk a.1 q59 x0.1.2.1 q52 q44) <|
                  .br q47 (
                    .br q45 (
                      .chk (symOk a.1 (decF rPost q46 q49) q44 q50 q53) <|
                      .ret ((q54, decF rPost q1 (encF rPost (sortSeg (decF rPost q46 q49) q60 q64))))) (
                      .ret ((q54, decF rPost q1 q49)))) (
                    .ret ((q54, decF rPost q1 q49)))) (
                  .br q47 (
                    .br q45 (
                      .chk (symOk a.1 q59 q44 q50 q53) <|
                      .ret q55) (
                      .ret q57)) (
                    .ret q57))) (
                .br q47 (
                  .br q45 (
                    .chk (symOk a.1 q59 q44 q50 q53) <|
                    .ret q55) (
                    .ret q57)) (
                  .ret q57))) (
              .br q62 (
                .br q65 (
                  .chk q66 <|
                  .br q47 (
                    .br q45 (
                      .chk q63 <|
                      .ret q56) (
                      .ret q58)) (
                    .ret q58)) (
                  .br q47 (
                    .br q45 (
                      .chk q61 <|
                      .ret q51) (
                      .ret q48)) (
                    .ret q48))) q42)) (
            .br q62 (
              .br q65 (
                .chk q66 <|
                .br q47 (
                  .br q45 (
                    .chk q63 <|
                    .ret q56) (
                    .ret q58)) (
                  .ret q58)) q42) (
              .br q47 (
                .br q45 (
                  .chk q61 <|
                  .ret q51) (
                  .ret q48)) (
                .ret q48))))))) := fun a => by kernel_rfl
end Go.Proofs.YtelpdkojdfnmiaaGreat
/-! LS7 -/
namespace Go.Proofs.YtelpdkojdfnmiaaGreat
open Ev K
set_option maxRecDepth 100000
namespace K
theorem cut_exists {Q : Nat → Prop} (s : Nat) : ∀ (n : Nat), (∀ c, s ≤ c → c + 1 < s + n → Q (c + 1) → Q c) → ∃ k, s ≤ k ∧ k ≤ s + n ∧ (∀ c, s ≤ c → c < k → Q c) ∧ ∀ c, k ≤ c → c < s + n → ¬ Q c
  | 0, _ => ⟨s, Nat.le_refl _, Nat.le_refl _, fun c h1 h2 => by omega, fun c h1 h2 => by omega⟩
  | n + 1, h => by
    obtain ⟨k, k1, k2, k3, k4⟩ := cut_exists s n (fun c h1 h2 => h c h1 (by omega))
    by_cases hq : Q (s + n)
    · by_cases hk : k = s + n
      · exact ⟨s + n + 1, by omega, by omega, fun c h1 h2 => by
          by_cases hc : c = s + n
          · subst hc; exact hq
          · exact k3 c h1 (by omega), fun c h1 h2 => by omega⟩
      · exfalso
        have : ∀ d c, c + d = s + n → k ≤ c → Q c := by
          intro d
          induction d with
          | zero => intro c hc _; rw [show c = s + n by omega]; exact hq
          | succ d ih => intro c hc hk'; exact h c (by omega) (by omega) (ih (c + 1) (by omega) (by omega))
        exact k4 k (Nat.le_refl _) (by omega) (this (s + n - k) k (by omega) (Nat.le_refl _))
    · exact ⟨k, k1, by omega, k3, fun c h1 h2 => by
        by_cases hc : c = s + n
        · subst hc; exact hq
        · exact k4 c h1 (by omega)⟩
theorem lim_bin {σ ρ : Type} {step : σ → Option (σ ⊕ ρ)} (S : Nat → Nat → σ) (fin : Nat → ρ) (k s e : Nat) (h1 : ∀ i j, s ≤ i → j ≤ e → i ≤ k → k ≤ j → i < j → step (S i j) = some (.inl (if (i + j) / 2 < k then S ((i + j) / 2 + 1) j else S i ((i + j) / 2)))) (h2 : step (S k k) = some (.inr (fin k))) :
    ∀ (n i j : Nat), j - i ≤ n → s ≤ i → j ≤ e → i ≤ k → k ≤ j → lim step (S i j) = some (fin k)
  | 0, i, j, hn, hs, he, hi, hj => by
    have e1 : i = k := by omega
    have e2 : j = k := by omega
    rw [e1, e2]; exact lim_done h2
  | n + 1, i, j, hn, hs, he, hi, hj => by
    by_cases hij : i < j
    · rw [lim_step (h1 i j hs he hi hj hij)]
      split
      · exact lim_bin S fin k s e h1 h2 n _ _ (by omega) (by omega) he (by omega) hj
      · exact lim_bin S fin k s e h1 h2 n _ _ (by omega) hs (by omega) hi (by omega)
    · have e1 : i = k := by omega
      have e2 : j = k := by omega
      rw [e1, e2]; exact lim_done h2
theorem half_eq {i j : Nat} (h : i + j ≤ 4000000) : IntKind.i64.wrap (Int.fdiv (IntKind.wrap IntKind.u64 (IntKind.i64.wrap ((i : Int) + (j : Int)))) (Int.ofNat 2)) = (((i + j) / 2 : Nat) : Int) := by
  have e1 : IntKind.i64.wrap ((i : Int) + (j : Int)) = ((i + j : Nat) : Int) := by rw [w64_in (by omega) (by omega)]; rfl
  have e2 : IntKind.wrap IntKind.u64 ((i + j : Nat) : Int) = ((i + j : Nat) : Int) := by
    show ((i + j : Nat) : Int) % (2 ^ 64 : Int) = _
    rw [Int.emod_eq_of_lt (by omega) (by omega)]
  rw [e1, e2]
  have e3 : Int.fdiv ((i + j : Nat) : Int) (Int.ofNat 2) = (((i + j) / 2 : Nat) : Int) := by
    rw [Int.fdiv_eq_ediv_of_nonneg _ (by decide)]; rfl
  rw [e3, w64_in (by omega) (by omega)]
def dayAt (l : List Pst) (i : Nat) : Int := (l.getD i default).day
theorem dayAt_eq {l : List Pst} {i : Nat} {x : Pst} (h : l[i]? = some x) : dayAt l i = x.day := by
  unfold dayAt; rw [List.getD_eq_getElem?_getD, h]; rfl
theorem cmp_at {l : List Pst} {i j : Nat} (hi : i < l.length) (hj : j < l.length) : cmpD (⟨numOf (encF rPost l i 0), numOf (encF rPost l i 1), numOf (encF rPost l i 2), numOf (encF rPost l i 3)⟩, ⟨numOf (encF rPost l j 0), numOf (encF rPost l j 1), numOf (encF rPost l j 2), numOf (encF rPost l j 3)⟩) < 0 ↔ dayAt l i < dayAt l j := by
  have h1 := List.getElem?_eq_getElem hi
  have h2 := List.getElem?_eq_getElem hj
  rw [dayAt_eq h1, dayAt_eq h2, post_at h1, post_at h2]
  exact cmpD_neg _ _
theorem sd_idx {l : List Pst} {a m : Nat} (hm : m ≤ l.length) : Sd ((l.drop a).take (m - a)) ↔ ∀ i j, a ≤ i → i < j → j < m → dayAt l i ≤ dayAt l j := by
  have hlen : ((l.drop a).take (m - a)).length = m - a := by rw [List.length_take, List.length_drop]; omega
  have hget : ∀ i, a + i < m → ∀ h, ((l.drop a).take (m - a))[i]'h = l[a + i]'(by rw [hlen] at h; omega) := fun i hi h => by simp
  have hd : ∀ i (h : i < l.length), dayAt l i = (l[i]'h).day := fun i h => dayAt_eq (List.getElem?_eq_getElem h)
  unfold Sd
  rw [List.pairwise_iff_getElem]
  constructor
  · intro h i j h1 h2 h3
    have := h (i - a) (j - a) (by rw [hlen]; omega) (by rw [hlen]; omega) (by omega)
    rw [hget (i - a) (by omega), hget (j - a) (by omega)] at this
    rw [hd i (by omega), hd j (by omega)]
    simpa [show a + (i - a) = i by omega, show a + (j - a) = j by omega] using this
  · intro h i j h1 h2 h3
    rw [hlen] at h1 h2
    rw [hget i (by omega), hget j (by omega), ← hd, ← hd]
    exact h (a + i) (a + j) (by omega) (by omega) (by omega)
theorem seg_mem {l : List Pst} {a m : Nat} {x : Pst} (hm : m ≤ l.length) (h : x ∈ (l.drop a).take (m - a)) : ∃ i, a ≤ i ∧ i < m ∧ x.day = dayAt l i := by
  obtain ⟨i, hi, e⟩ := List.getElem_of_mem h
  have hlen : ((l.drop a).take (m - a)).length = m - a := by rw [List.length_take, List.length_drop]; omega
  rw [hlen] at hi
  refine ⟨a + i, by omega, by omega, ?_⟩
  rw [dayAt_eq (List.getElem?_eq_getElem (show a + i < l.length by omega)), ← e]; simp
theorem succ_w {n : Nat} (h : n ≤ 4000000) : IntKind.i64.wrap ((n : Int) + 1) = ((n + 1 : Nat) : Int) := by rw [w64_in (by omega) (by omega)]; rfl
theorem L_y25_eq (t : TypeId) (l : List Pst) (v a : Nat) (hl : l.length ≤ 1000000) (ha : a < l.length) (k s e : Nat) (hsk : s ≤ k) (hke : k ≤ e) (he : e ≤ l.length) (h1 : ∀ c, s ≤ c → c < k → dayAt l c < dayAt l a) (h2 : ∀ c, k ≤ c → c < e → ¬ dayAt l c < dayAt l a) :
    L_y25 ((l.length, (a : Int), (s : Int), (e : Int)), ((t, l), ()), v) = some ((l.length, (a : Int), (k : Int)), ((t, l), ()), v) := by
  refine lim_bin (step := st_y25) (fun i j => ((l.length, (a : Int), (i : Int), (j : Int)), ((t, l), ()), v)) (fun i => ((l.length, (a : Int), (i : Int)), ((t, l), ()), v)) k s e (fun i j hs hj hi hk hij => ?_) ?_ (e - s) s e (Nat.le_refl _) (Nat.le_refl _) (Nat.le_refl _) hsk hke
  · rw [sl_y25]
    simp only [half_eq (show i + j ≤ 4000000 by omega), Int.toNat_natCast, succ_w (show (i + j) / 2 ≤ 4000000 by omega), decF_encF]
    refine br_t (decide_eq_true (by omega)) (chk_step (decide_eq_true (by omega)) (chk_step (decide_eq_true (by omega)) ?_))
    by_cases hc : (i + j) / 2 < k
    · rw [if_pos hc]
      exact br_t (decide_eq_true ((cmp_at (by omega) ha).2 (h1 _ (by omega) hc))) rfl
    · rw [if_neg hc]
      exact br_f (decide_eq_false (fun h => h2 _ (by omega) (by omega) ((cmp_at (by omega) ha).1 h))) rfl
  · rw [sl_y25]
    simp only [decF_encF]
    exact br_f (decide_eq_false (by omega)) rfl
theorem L_y121_eq (t : TypeId) (l : List Pst) (v m : Nat) (hl : l.length ≤ 1000000) (hm : m < l.length) (k s e : Nat) (hsk : s ≤ k) (hke : k ≤ e) (he : e ≤ l.length) (h1 : ∀ c, s ≤ c → c < k → ¬ dayAt l m < dayAt l c) (h2 : ∀ c, k ≤ c → c < e → dayAt l m < dayAt l c) :
    L_y121 ((l.length, (m : Int), (s : Int), (e : Int)), ((t, l), ()), v) = some ((l.length, (m : Int), (k : Int)), ((t, l), ()), v) := by
  refine lim_bin (step := st_y121) (fun i j => ((l.length, (m : Int), (i : Int), (j : Int)), ((t, l), ()), v)) (fun i => ((l.length, (m : Int), (i : Int)), ((t, l), ()), v)) k s e (fun i j hs hj hi hk hij => ?_) ?_ (e - s) s e (Nat.le_refl _) (Nat.le_refl _) (Nat.le_refl _) hsk hke
  · rw [sl_y121]
    simp only [half_eq (show i + j ≤ 4000000 by omega), Int.toNat_natCast, succ_w (show (i + j) / 2 ≤ 4000000 by omega), decF_encF]
    refine br_t (decide_eq_true (by omega)) (chk_step (decide_eq_true (by omega)) (chk_step (decide_eq_true (by omega)) ?_))
    by_cases hc : (i + j) / 2 < k
    · rw [if_pos hc]
      exact br_t (by rw [Bool.not_eq_true']; exact decide_eq_false (fun h => h1 _ (by omega) hc ((cmp_at hm (by omega)).1 h))) rfl
    · rw [if_neg hc]
      exact br_f (by rw [Bool.not_eq_false']; exact decide_eq_true ((cmp_at hm (by omega)).2 (h2 _ (by omega) (by omega)))) rfl
  · rw [sl_y121]
    simp only [decF_encF]
    exact br_f (decide_eq_false (by omega)) rfl
theorem L_y265_eq (t : TypeId) (l : List Pst) (v : Nat) (a m b mid n : Int) (p : Nat) (hl : l.length ≤ 1000000) (k s e : Nat) (hsk : s ≤ k) (hke : k ≤ e) (he : e ≤ l.length) (hp : ∀ c, s ≤ c → c < e → c ≤ p ∧ p - c < l.length) (hp2 : p ≤ 4000000) (h1 : ∀ c, s ≤ c → c < k → ¬ dayAt l (p - c) < dayAt l c) (h2 : ∀ c, k ≤ c → c < e → dayAt l (p - c) < dayAt l c) :
    L_y265 ((l.length, a, m, b, mid, n, (s : Int), (e : Int), (p : Int)), ((t, l), ()), v) = some ((l.length, a, m, b, mid, n, (k : Int)), ((t, l), ()), v) := by
  refine lim_bin (step := st_y265) (fun i j => ((l.length, a, m, b, mid, n, (i : Int), (j : Int), (p : Int)), ((t, l), ()), v)) (fun i => ((l.length, a, m, b, mid, n, (i : Int)), ((t, l), ()), v)) k s e (fun i j hs hj hi hk hij => ?_) ?_ (e - s) s e (Nat.le_refl _) (Nat.le_refl _) (Nat.le_refl _) hsk hke
  · rw [sl_y265]
    have hpc := hp ((i + j) / 2) (by omega) (by omega)
    have w1 : IntKind.i64.wrap ((p : Int) - (((i + j) / 2 : Nat) : Int)) = ((p - (i + j) / 2 : Nat) : Int) := by rw [w64_in (by omega) (by omega)]; omega
    simp only [half_eq (show i + j ≤ 4000000 by omega), Int.toNat_natCast, succ_w (show (i + j) / 2 ≤ 4000000 by omega), decF_encF, w1]
    refine br_t (decide_eq_true (by omega)) (chk_step (decide_eq_true (by omega)) (chk_step (decide_eq_true (by omega)) ?_))
    by_cases hc : (i + j) / 2 < k
    · rw [if_pos hc]
      exact br_t (by rw [Bool.not_eq_true']; exact decide_eq_false (fun h => h1 _ (by omega) hc ((cmp_at hpc.2 (by omega)).1 h))) rfl
    · rw [if_neg hc]
      exact br_f (by rw [Bool.not_eq_false']; exact decide_eq_true ((cmp_at hpc.2 (by omega)).2 (h2 _ (by omega) (by omega)))) rfl
  · rw [sl_y265]
    simp only [decF_encF]
    exact br_f (decide_eq_false (by omega)) rfl
theorem swap_set {P Q : List Pst} {x y : Pst} : ((P ++ x :: y :: Q).set P.length y).set (P.length + 1) x = P ++ y :: x :: Q := by
  rw [set_mid]
  have h : P ++ y :: y :: Q = (P ++ [y]) ++ y :: Q := by simp
  rw [h, show P.length + 1 = (P ++ [y]).length by simp, set_mid]; simp
theorem L_y73_eq (t : TypeId) (N v i : Nat) (post : List Pst) (x : Pst) (hN : N ≤ 1000000) : ∀ (B pre : List Pst), N = pre.length + 1 + B.length + post.length → i = pre.length + 1 + B.length →
    L_y73 ((N, (i : Int), (pre.length : Int)), ((t, pre ++ (x :: (B ++ post))), ()), v) = some ((), ((t, pre ++ (B ++ x :: post)), ()), v)
  | [], pre, hNN, hi => by
    refine lim_done ?_
    rw [sl_y73]
    have w1 : IntKind.i64.wrap ((i : Int) - 1) = (pre.length : Int) := by simp only [List.length_nil] at hi; rw [w64_in (by omega) (by omega)]; omega
    simp only [w1, decF_encF]
    exact br_f (decide_eq_false (by omega)) rfl
  | y :: B, pre, hNN, hi => by
    simp only [List.length_cons] at hNN hi
    have g1 : (pre ++ (x :: (y :: B ++ post)))[pre.length]? = some x := get_mid
    have g2 : (pre ++ (x :: (y :: B ++ post)))[pre.length + 1]? = some y := get_mid2
    have g3 : ((pre ++ (x :: (y :: B ++ post))).set pre.length y).set (pre.length + 1) x = (pre ++ [y]) ++ (x :: (B ++ post)) := by
      rw [show (x :: (y :: B ++ post)) = x :: y :: (B ++ post) from rfl, swap_set]; simp
    have w1 : IntKind.i64.wrap ((i : Int) - 1) = ((i - 1 : Nat) : Int) := by rw [w64_in (by omega) (by omega)]; omega
    have w2 := succ_w (show pre.length ≤ 4000000 by omega)
    have ih := L_y73_eq t N v i post x hN B (pre ++ [y]) (by simp; omega) (by simp; omega)
    generalize hR : pre ++ (x :: (y :: B ++ post)) = R at g1 g2 g3 ⊢
    have hs : st_y73 ((N, (i : Int), (pre.length : Int)), ((t, R), ()), v) = some (.inl ((N, (i : Int), ((pre ++ [y]).length : Int)), ((t, (pre ++ [y]) ++ (x :: (B ++ post))), ()), v)) := by
      rw [sl_y73]
      simp only [w1, w2, Int.toNat_natCast, post_at g1, post_at g2, pw0, pw1, pw2, pw3, decF_setP, decF_encF]
      refine br_t (decide_eq_true (by omega)) (chk_step (decide_eq_true (by omega)) (chk_step (decide_eq_true (by omega)) (chk_step (decide_eq_true (by omega)) (chk_step (decide_eq_true (by omega)) ?_))))
      rw [← g3, List.length_append]; rfl
    refine (lim_step hs).trans (Eq.trans ih ?_)
    simp
theorem L_y169_eq (t : TypeId) (N v i : Nat) (pre post : List Pst) (y : Pst) (hN : N ≤ 1000000) (hi : i = pre.length) : ∀ (A C : List Pst), N = pre.length + A.length + 1 + C.length + post.length →
    L_y169 ((N, (i : Int), ((pre.length + A.length : Nat) : Int)), ((t, pre ++ (A.reverse ++ y :: (C ++ post))), ()), v) = some ((), ((t, pre ++ (y :: (A.reverse ++ (C ++ post)))), ()), v)
  | [], C, hNN => by
    refine lim_done ?_
    rw [sl_y169]
    simp only [decF_encF]
    exact br_f (decide_eq_false (by simp; omega)) rfl
  | x :: A, C, hNN => by
    simp only [List.length_cons] at hNN
    have e0 : pre ++ ((x :: A).reverse ++ y :: (C ++ post)) = (pre ++ A.reverse) ++ x :: y :: (C ++ post) := by simp
    have e1 : pre ++ (A.reverse ++ y :: (x :: C ++ post)) = (pre ++ A.reverse) ++ y :: x :: (C ++ post) := by simp
    have lP : (pre ++ A.reverse).length = pre.length + A.length := by simp
    have g1 : (pre ++ ((x :: A).reverse ++ y :: (C ++ post)))[pre.length + A.length]? = some x := by rw [e0, ← lP]; exact get_mid
    have g2 : (pre ++ ((x :: A).reverse ++ y :: (C ++ post)))[pre.length + A.length + 1]? = some y := by rw [e0, ← lP]; exact get_mid2
    have g3 : ((pre ++ ((x :: A).reverse ++ y :: (C ++ post))).set (pre.length + A.length + 1) x).set (pre.length + A.length) y = pre ++ (A.reverse ++ y :: (x :: C ++ post)) := by
      rw [e0, e1, ← lP, mid_swap]
    have w1 : IntKind.i64.wrap (((pre.length + (A.length + 1) : Nat) : Int) - 1) = ((pre.length + A.length : Nat) : Int) := by rw [w64_in (by omega) (by omega)]; omega
    have ih := L_y169_eq t N v i pre post y hN hi A (x :: C) (by simp; omega)
    generalize hR : pre ++ ((x :: A).reverse ++ y :: (C ++ post)) = R at g1 g2 g3 ⊢
    rw [show (x :: A).length = A.length + 1 from rfl]
    have g2' : R[pre.length + (A.length + 1)]? = some y := g2
    have hs : st_y169 ((N, (i : Int), ((pre.length + (A.length + 1) : Nat) : Int)), ((t, R), ()), v) = some (.inl ((N, (i : Int), ((pre.length + A.length : Nat) : Int)), ((t, pre ++ (A.reverse ++ y :: (x :: C ++ post))), ()), v)) := by
      rw [sl_y169]
      simp only [w1, Int.toNat_natCast, post_at g1, post_at g2', pw0, pw1, pw2, pw3, decF_setP, decF_encF]
      refine br_t (decide_eq_true (by omega)) (chk_step (decide_eq_true (by omega)) (chk_step (decide_eq_true (by omega)) (chk_step (decide_eq_true (by omega)) (chk_step (decide_eq_true (by omega)) ?_))))
      rw [← g3]; rfl
    refine (lim_step hs).trans (Eq.trans ih ?_)
    simp
end K
end Go.Proofs.YtelpdkojdfnmiaaGreat
/-! LS8 -/
namespace Go.Proofs.YtelpdkojdfnmiaaGreat
open Ev K
set_option maxRecDepth 100000
namespace K
def seg (l : List Pst) (i j : Nat) : List Pst := (l.drop i).take (j - i)
theorem seg_len {l : List Pst} {i j : Nat} (h : j ≤ l.length) : (seg l i j).length = j - i := by unfold seg; rw [List.length_take, List.length_drop]; omega
theorem drop_seg (l : List Pst) {i j : Nat} (h : i ≤ j) : l.drop i = seg l i j ++ l.drop j := by
  unfold seg
  have e : l.drop j = (l.drop i).drop (j - i) := by rw [List.drop_drop, show i + (j - i) = j by omega]
  rw [e, List.take_append_drop]
theorem seg_app (l : List Pst) {i j k : Nat} (h1 : i ≤ j) (h2 : j ≤ k) : seg l i k = seg l i j ++ seg l j k := by
  have e : (l.drop i).take (k - i) = (l.drop i).take (j - i) ++ ((l.drop i).drop (j - i)).take (k - j) := by
    rw [show k - i = (j - i) + (k - j) by omega, List.take_add]
  unfold seg
  rw [e, List.drop_drop, show i + (j - i) = j by omega]
theorem seg_same (l : List Pst) (i : Nat) : seg l i i = [] := by unfold seg; rw [Nat.sub_self]; rfl
theorem take_seg (l : List Pst) {i j : Nat} (h : i ≤ j) : l.take j = l.take i ++ seg l i j := by
  unfold seg
  rw [show j = i + (j - i) by omega, List.take_add, show i + (j - i) - i = j - i by omega]
theorem seg_one {l : List Pst} {i : Nat} (h : i < l.length) : seg l i (i + 1) = [l[i]] := by
  unfold seg
  rw [show i + 1 - i = 1 by omega, List.drop_eq_getElem_cons h]; rfl
theorem split4 (l : List Pst) {a m b : Nat} (h1 : a ≤ m) (h2 : m ≤ b) : l = l.take a ++ (seg l a m ++ (seg l m b ++ l.drop b)) := by
  rw [← drop_seg l h2, ← drop_seg l h1, List.take_append_drop]
theorem seg_mid (P X Q : List Pst) {i j : Nat} (hi : i = P.length) (hj : j = P.length + X.length) : seg (P ++ (X ++ Q)) i j = X := by
  subst hi; subst hj
  unfold seg
  rw [List.drop_left, show P.length + X.length - P.length = X.length by omega, List.take_left]
theorem sortSeg_mid (P X Q : List Pst) {i j : Nat} (hi : i = P.length) (hj : j = P.length + X.length) : sortSeg (P ++ (X ++ Q)) i j = P ++ (stB X ++ Q) := by
  have h := seg_mid P X Q hi hj
  unfold seg at h
  unfold sortSeg
  rw [h]
  subst hi; subst hj
  rw [List.take_left]
  have : (P ++ (X ++ Q)).drop (P.length + X.length) = Q := by rw [← List.drop_drop, List.drop_left, List.drop_left]
  rw [this]
theorem rotL_mid (P X Y Q : List Pst) {i j k : Nat} (hi : i = P.length) (hj : j = P.length + X.length) (hk : k = P.length + X.length + Y.length) : rotL (P ++ (X ++ (Y ++ Q))) i j k = P ++ (Y ++ (X ++ Q)) := by
  subst hi; subst hj; subst hk
  unfold rotL
  have d1 : (P ++ (X ++ (Y ++ Q))).drop P.length = X ++ (Y ++ Q) := List.drop_left
  have d2 : (P ++ (X ++ (Y ++ Q))).drop (P.length + X.length) = Y ++ Q := by rw [← List.drop_drop, d1]; exact List.drop_left
  have d3 : (P ++ (X ++ (Y ++ Q))).drop (P.length + X.length + Y.length) = Q := by rw [← List.drop_drop, d2]; exact List.drop_left
  rw [d1, d2, d3, List.take_left, show P.length + X.length + Y.length - (P.length + X.length) = Y.length by omega, List.take_left, show P.length + X.length - P.length = X.length by omega, List.take_left]
theorem stB_self {l : List Pst} (h : Sd l) : stB l = l := (stB_of (StEq.refl l) h).symm
theorem hdec {n : Nat} {l : List Pst} (h : l.length = n) : decF rPost n (encF rPost l) = l := by rw [← h, decF_encF]
noncomputable def thirdT (n : Nat) (t : TypeId) (X : List Pst) (mid en b : Nat) : T (TypeId × List Pst) := .br (decide ((mid : Int) < (en : Int))) (.br (decide ((en : Int) < (b : Int))) (.chk (symOk n X mid en b) (.ret (t, sortSeg X mid b))) (.ret (t, X))) (.ret (t, X))
noncomputable def tailT (n : Nat) (t : TypeId) (X : List Pst) (a k mid en b : Nat) : T (TypeId × List Pst) := .br (decide ((a : Int) < (k : Int))) (.br (decide ((k : Int) < (mid : Int))) (.chk (symOk n X a k mid) (thirdT n t (sortSeg X a mid) mid en b)) (thirdT n t X mid en b)) (thirdT n t X mid en b)
theorem symOk_iff {n : Nat} {l : List Pst} {a m b : Nat} : symOk n l a m b = true ↔ (a < m ∧ m < b ∧ b ≤ l.length ∧ l.length ≤ 1000000 ∧ b < n + a) ∧ Sd (seg l a m) ∧ Sd (seg l m b) := by
  unfold symOk
  rw [decide_eq_true_eq]
  simp only [Int.toNat_natCast]
  constructor
  · rintro ⟨h1, h2, h3⟩; exact ⟨by omega, h2, h3⟩
  · rintro ⟨h1, h2, h3⟩; exact ⟨by omega, h2, h3⟩
theorem third_eq {n : Nat} (t : TypeId) (P A B Q : List Pst) {mid en b : Nat} (h1 : mid = P.length) (h2 : en = mid + A.length) (h3 : b = en + B.length) (hA : Sd A) (hB : Sd B) (hn : b < n + mid) (hl : P.length + A.length + B.length + Q.length ≤ 1000000) :
    (thirdT n t (P ++ ((A ++ B) ++ Q)) mid en b).run = some (t, P ++ (stB (A ++ B) ++ Q)) := by
  unfold thirdT
  by_cases hA0 : A = []
  · subst hA0
    simp only [List.length_nil] at h2
    rw [List.nil_append, stB_self hB]
    exact br_f (decide_eq_false (by omega)) rfl
  have hA1 : 1 ≤ A.length := by cases A with
    | nil => exact absurd rfl hA0
    | cons x A => simp
  refine br_t (decide_eq_true (by omega)) ?_
  by_cases hB0 : B = []
  · subst hB0
    simp only [List.length_nil] at h3
    rw [List.append_nil, stB_self hA]
    exact br_f (decide_eq_false (by omega)) rfl
  have hB1 : 1 ≤ B.length := by cases B with
    | nil => exact absurd rfl hB0
    | cons x B => simp
  refine br_t (decide_eq_true (by omega)) (chk_step (symOk_iff.2 ⟨⟨by omega, by omega, by simp; omega, by simp; omega, hn⟩, ?_, ?_⟩) ?_)
  · rw [List.append_assoc, seg_mid P A (B ++ Q) h1 (by omega)]; exact hA
  · have e : P ++ ((A ++ B) ++ Q) = (P ++ A) ++ (B ++ Q) := by simp
    rw [e, seg_mid (P ++ A) B Q (by simp; omega) (by simp; omega)]; exact hB
  · rw [sortSeg_mid P (A ++ B) Q h1 (by simp; omega)]; rfl
theorem tail_eq {n : Nat} (t : TypeId) (P A1 B1 A2 B2 Q : List Pst) {a k mid en b : Nat} (h1 : a = P.length) (h2 : k = a + A1.length) (h3 : mid = k + B1.length) (h4 : en = mid + A2.length) (h5 : b = en + B2.length) (s1 : Sd A1) (s2 : Sd B1) (s3 : Sd A2) (s4 : Sd B2) (hn : b < n + mid) (hn2 : mid < n + a) (hl : P.length + A1.length + B1.length + A2.length + B2.length + Q.length ≤ 1000000) :
    (tailT n t (P ++ ((A1 ++ B1) ++ ((A2 ++ B2) ++ Q))) a k mid en b).run = some (t, P ++ (stB (A1 ++ B1) ++ (stB (A2 ++ B2) ++ Q))) := by
  have hthird : (thirdT n t (P ++ (stB (A1 ++ B1) ++ ((A2 ++ B2) ++ Q))) mid en b).run = some (t, P ++ (stB (A1 ++ B1) ++ (stB (A2 ++ B2) ++ Q))) := by
    have := third_eq (n := n) t (P ++ stB (A1 ++ B1)) A2 B2 Q (mid := mid) (en := en) (b := b) (by rw [List.length_append, stB_len, List.length_append]; omega) h4 h5 s3 s4 hn (by rw [List.length_append, stB_len, List.length_append]; omega)
    simpa only [List.append_assoc] using this
  unfold tailT
  by_cases hA0 : A1 = []
  · subst hA0
    simp only [List.length_nil] at h2
    rw [List.nil_append, stB_self s2] at *
    exact br_f (decide_eq_false (by omega)) hthird
  have hA1 : 1 ≤ A1.length := by cases A1 with
    | nil => exact absurd rfl hA0
    | cons x A => simp
  refine br_t (decide_eq_true (by omega)) ?_
  by_cases hB0 : B1 = []
  · subst hB0
    simp only [List.length_nil] at h3
    rw [List.append_nil, stB_self s1] at *
    exact br_f (decide_eq_false (by omega)) hthird
  have hB1 : 1 ≤ B1.length := by cases B1 with
    | nil => exact absurd rfl hB0
    | cons x B => simp
  refine br_t (decide_eq_true (by omega)) (chk_step (symOk_iff.2 ⟨⟨by omega, by omega, by simp; omega, by simp; omega, hn2⟩, ?_, ?_⟩) ?_)
  · rw [List.append_assoc, seg_mid P A1 _ h1 (by omega)]; exact s1
  · have e : P ++ ((A1 ++ B1) ++ ((A2 ++ B2) ++ Q)) = (P ++ A1) ++ (B1 ++ ((A2 ++ B2) ++ Q)) := by simp
    rw [e, seg_mid (P ++ A1) B1 _ (by simp; omega) (by simp; omega)]; exact s2
  · rw [sortSeg_mid P (A1 ++ B1) _ h1 (by simp; omega)]; exact hthird
end K
end Go.Proofs.YtelpdkojdfnmiaaGreat
/-! LS9 -/
namespace Go.Proofs.YtelpdkojdfnmiaaGreat
open Ev K
set_option maxRecDepth 100000
namespace K
theorem seg_sd {l : List Pst} {a m : Nat} (hm : m ≤ l.length) : Sd (seg l a m) ↔ ∀ i j, a ≤ i → i < j → j < m → dayAt l i ≤ dayAt l j := sd_idx hm
theorem seg_sub {l : List Pst} {a m i j : Nat} (hm : m ≤ l.length) (h : Sd (seg l a m)) (h1 : a ≤ i) (h2 : j ≤ m) : Sd (seg l i j) := by
  rw [seg_sd (by omega)]
  exact fun x y h3 h4 h5 => (seg_sd hm).1 h x y (by omega) h4 (by omega)
theorem seg_day {l : List Pst} {a m : Nat} {x : Pst} (hm : m ≤ l.length) (h : x ∈ seg l a m) : ∃ i, a ≤ i ∧ i < m ∧ x.day = dayAt l i := seg_mem hm h
theorem day_le {l : List Pst} {a m i j : Nat} (hm : m ≤ l.length) (h : Sd (seg l a m)) (h1 : a ≤ i) (h2 : i ≤ j) (h3 : j < m) : dayAt l i ≤ dayAt l j := by
  rcases Nat.lt_or_eq_of_le h2 with h2 | h2
  · exact (seg_sd hm).1 h i j h1 h2 h3
  · subst h2; exact Int.le_refl _
set_option maxHeartbeats 0 in
theorem sym_turn (n : Nat) (t : TypeId) (l : List Pst) (a m b : Nat) (h : symOk (n + 1) l a m b = true) : t_sym (n, t, l, (a : Int), (m : Int), (b : Int)) = some (t, sortSeg l a b) := by
  obtain ⟨⟨h1, h2, h3, h4, h5⟩, hA, hB⟩ := symOk_iff.1 h
  rw [fn_sym]
  simp only [decF_encF]
  have hgoal : sortSeg l a b = l.take a ++ (stB (seg l a m ++ seg l m b) ++ l.drop b) := by
    rw [← seg_app l (by omega) (by omega)]; rfl
  rw [hgoal]
  have w1 : IntKind.i64.wrap ((m : Int) - (a : Int)) = ((m - a : Nat) : Int) := by rw [w64_in (by omega) (by omega)]; omega
  have w2 : IntKind.i64.wrap ((b : Int) - (m : Int)) = ((b - m : Nat) : Int) := by rw [w64_in (by omega) (by omega)]; omega
  rw [w1, w2]
  by_cases c1 : m - a = 1
  · refine br_t (by rw [beq_iff_eq]; omega) ?_
    have hma : m = a + 1 := by omega
    obtain ⟨k, k1, k2, k3, k4⟩ := cut_exists (Q := fun c => dayAt l c < dayAt l a) m (b - m) (fun c h6 h7 h8 => by have := day_le (by omega) hB h6 (show c ≤ c + 1 by omega) (by omega); exact Int.lt_of_le_of_lt this h8)
    have key := L_y25_eq t l l.length a h4 (by omega) k m b k1 (by omega) h3 k3 (fun c h6 h7 => k4 c h6 (by omega))
    refine obs_step key ?_
    have ha := seg_one (l := l) (i := a) (by omega)
    rw [← hma] at ha
    have hsp : l = l.take a ++ (l[a] :: (seg l m k ++ l.drop k)) := by
      have := split4 l (a := a) (m := m) (b := k) (by omega) k1
      rw [ha] at this; exact this
    have hday : dayAt l a = (l[a]).day := dayAt_eq (List.getElem?_eq_getElem (by omega))
    generalize l[a] = x at ha hsp hday
    have lt : (l.take a).length = a := by rw [List.length_take]; omega
    have ls : (seg l m k).length = k - m := seg_len (by omega)
    have ld : (l.drop k).length = l.length - k := List.length_drop
    have k73 := L_y73_eq t l.length l.length k (l.drop k) x h4 (seg l m k) (l.take a) (by omega) (by omega)
    rw [← hsp, lt] at k73
    simp only
    refine obs_step k73 ?_
    have hlen : (l.take a ++ (seg l m k ++ x :: l.drop k)).length = l.length := by rw [List.length_append, List.length_append, List.length_cons]; omega
    simp only [hdec hlen]
    show some (t, _) = _
    rw [drop_seg l (show k ≤ b by omega), ha]
    have hB1 : Sd (seg l m k) := seg_sub h3 hB (Nat.le_refl _) (by omega)
    have hB2 : Sd (seg l k b) := seg_sub h3 hB k1 (Nat.le_refl _)
    have hmg := st_merge (A1 := []) (A2 := [x]) (B1 := seg l m k) (B2 := seg l k b) (R1 := seg l m k) (R2 := [x] ++ seg l k b) (by simpa using sd_one x) (by rw [← seg_app l k1 (by omega)]; exact hB) (fun _ h => by cases h)
      (fun y hy z hz => by
        simp only [List.mem_singleton] at hy; subst hy
        obtain ⟨i, i1, i2, i3⟩ := seg_day (by omega) hz
        rw [i3, ← hday]; exact k3 i i1 i2)
      (StEq.refl _) hB1 (StEq.refl _) (sd_app.2 ⟨sd_one x, hB2, fun y hy z hz => by
        simp only [List.mem_singleton] at hy; subst hy
        obtain ⟨i, i1, i2, i3⟩ := seg_day (by omega) hz
        have := k4 i i1 (by omega)
        rw [i3, ← hday]; omega⟩)
    have e := stB_of hmg.2 hmg.1
    rw [List.nil_append, ← seg_app l k1 (show k ≤ b by omega)] at e
    rw [← e]; simp
  refine br_f (by rw [beq_eq_false_iff_ne]; omega) ?_
  by_cases c2 : b - m = 1
  · refine br_t (by rw [beq_iff_eq]; omega) ?_
    have hbm : b = m + 1 := by omega
    obtain ⟨k, k1, k2, k3, k4⟩ := cut_exists (Q := fun c => ¬ dayAt l m < dayAt l c) a (m - a) (fun c h6 h7 h8 => by have := day_le (by omega) hA h6 (show c ≤ c + 1 by omega) (by omega); omega)
    have key := L_y121_eq t l l.length m h4 (by omega) k a m k1 (by omega) (by omega) k3 (fun c h6 h7 => Classical.byContradiction (k4 c h6 (by omega)))
    refine obs_step key ?_
    have hmm := seg_one (l := l) (i := m) (by omega)
    rw [← hbm] at hmm
    have hday : dayAt l m = (l[m]).day := dayAt_eq (List.getElem?_eq_getElem (by omega))
    have hsp : l = l.take k ++ (seg l k m ++ (seg l m b ++ l.drop b)) := split4 l (by omega) (by omega)
    rw [hmm] at hsp
    generalize l[m] = y at hmm hsp hday
    have lt : (l.take k).length = k := by rw [List.length_take]; omega
    have ls : (seg l k m).length = m - k := seg_len (by omega)
    have ld : (l.drop b).length = l.length - b := List.length_drop
    have k169 := L_y169_eq t l.length l.length k (l.take k) (l.drop b) y h4 lt.symm (seg l k m).reverse [] (by rw [List.length_reverse, List.length_nil]; omega)
    rw [List.reverse_reverse, List.nil_append, List.length_reverse, ls, lt, show k + (m - k) = m by omega] at k169
    rw [show l.take k ++ (seg l k m ++ y :: l.drop b) = l from hsp.symm] at k169
    simp only
    refine obs_step k169 ?_
    have hlen : (l.take k ++ (y :: (seg l k m ++ l.drop b))).length = l.length := by rw [List.length_append, List.length_cons, List.length_append]; omega
    simp only [hdec hlen]
    show some (t, _) = _
    rw [take_seg l k1, hmm]
    have hA1 : Sd (seg l a k) := seg_sub (by omega) hA (Nat.le_refl _) (by omega)
    have hA2 : Sd (seg l k m) := seg_sub (by omega) hA k1 (Nat.le_refl _)
    have hmg := st_merge (A1 := seg l a k) (A2 := seg l k m) (B1 := [y]) (B2 := []) (R1 := seg l a k ++ [y]) (R2 := seg l k m) (by rw [← seg_app l k1 (by omega)]; exact hA) (by simpa using sd_one y) (fun _ _ _ h => by cases h)
      (fun x hx z hz => by
        simp only [List.mem_singleton] at hz; subst hz
        obtain ⟨i, i1, i2, i3⟩ := seg_day (by omega) hx
        have := k4 i i1 (by omega)
        rw [i3, ← hday]; omega)
      (StEq.refl _) (sd_app.2 ⟨hA1, sd_one y, fun x hx z hz => by
        simp only [List.mem_singleton] at hz; subst hz
        obtain ⟨i, i1, i2, i3⟩ := seg_day (by omega) hx
        have := k3 i i1 i2
        rw [i3, ← hday]; omega⟩) (by rw [List.append_nil]; exact StEq.refl _) hA2
    have e := stB_of hmg.2 hmg.1
    rw [List.append_nil, ← seg_app l k1 (show k ≤ m by omega)] at e
    rw [← e]; simp
  refine br_f (by rw [beq_eq_false_iff_ne]; omega) ?_
  have hh := half_eq (i := a) (j := b) (by omega)
  generalize hmid : (a + b) / 2 = mid at hh
  have hm1 : a + 1 ≤ mid := by omega
  have hm2 : mid + 1 ≤ b := by omega
  have w3 : IntKind.i64.wrap ((mid : Int) + (m : Int)) = ((mid + m : Nat) : Int) := by rw [w64_in (by omega) (by omega)]; rfl
  have w4 : IntKind.i64.wrap (((mid + m : Nat) : Int) - 1) = ((mid + m - 1 : Nat) : Int) := by rw [w64_in (by omega) (by omega)]; omega
  have key : ∃ s e : Nat, (s = if m > mid then mid + m - b else a) ∧ (e = if m > mid then mid else m) ∧ a ≤ s ∧ s ≤ e ∧ e ≤ m ∧ e ≤ mid ∧ mid + m ≤ s + b ∧ (s = a ∨ s + b = mid + m) ∧ (e = m ∨ e = mid) := by
    by_cases hgt : m > mid
    · exact ⟨mid + m - b, mid, by rw [if_pos hgt], by rw [if_pos hgt], by omega, by omega, by omega, by omega, by omega, .inr (by omega), .inr rfl⟩
    · exact ⟨a, m, by rw [if_neg hgt], by rw [if_neg hgt], by omega, by omega, by omega, by omega, by omega, .inl rfl, .inl rfl⟩
  obtain ⟨s, e, hs, he, b1, b2, b3, b4, b5, b6, b7⟩ := key
  obtain ⟨k, k1, k2, k3, k4⟩ := cut_exists (Q := fun c => ¬ dayAt l (mid + m - 1 - c) < dayAt l c) s (e - s) (fun c h6 h7 h8 => by
    have e1 := day_le (i := c) (j := c + 1) (by omega) hA (by omega) (by omega) (by omega)
    have e2 := day_le (i := mid + m - 1 - (c + 1)) (j := mid + m - 1 - c) h3 hB (by omega) (by omega) (by omega)
    omega)
  have key := L_y265_eq t l l.length (a : Int) (m : Int) (b : Int) (mid : Int) ((mid + m : Nat) : Int) (mid + m - 1) h4 k s e k1 (by omega) (by omega) (fun c h6 h7 => by omega) (by omega) k3 (fun c h6 h7 => Classical.byContradiction (k4 c h6 (by omega)))
  obtain ⟨en, hen⟩ : ∃ en, en = mid + m - k := ⟨_, rfl⟩
  have w5 : IntKind.i64.wrap (((mid + m : Nat) : Int) - (k : Int)) = (en : Int) := by rw [w64_in (by omega) (by omega)]; omega
  have hsp : l = l.take a ++ ((seg l a k ++ seg l k m) ++ ((seg l m en ++ seg l en b) ++ l.drop b)) := by
    rw [← seg_app l (show a ≤ k by omega) (show k ≤ m by omega), ← seg_app l (show m ≤ en by omega) (show en ≤ b by omega)]
    exact split4 l (by omega) (by omega)
  have sA1 : Sd (seg l a k) := seg_sub (by omega) hA (Nat.le_refl _) (by omega)
  have sA2 : Sd (seg l k m) := seg_sub (by omega) hA (by omega) (Nat.le_refl _)
  have sB1 : Sd (seg l m en) := seg_sub h3 hB (Nat.le_refl _) (by omega)
  have sB2 : Sd (seg l en b) := seg_sub h3 hB (by omega) (Nat.le_refl _)
  have lt : (l.take a).length = a := by rw [List.length_take]; omega
  have l1 : (seg l a k).length = k - a := seg_len (by omega)
  have l2 : (seg l k m).length = m - k := seg_len (by omega)
  have l3 : (seg l m en).length = en - m := seg_len (by omega)
  have l4 : (seg l en b).length = b - en := seg_len (by omega)
  have l5 : (l.drop b).length = l.length - b := List.length_drop
  have htail := tail_eq (n := n) t (l.take a) (seg l a k) (seg l m en) (seg l k m) (seg l en b) (l.drop b) (a := a) (k := k) (mid := mid) (en := en) (b := b) (by omega) (by omega) (by omega) (by omega) (by omega) sA1 sB1 sA2 sB2 (by omega) (by omega) (by omega)
  have hmg := st_merge (A1 := seg l a k) (A2 := seg l k m) (B1 := seg l m en) (B2 := seg l en b) (R1 := stB (seg l a k ++ seg l m en)) (R2 := stB (seg l k m ++ seg l en b)) (by rw [← seg_app l (by omega) (by omega)]; exact hA) (by rw [← seg_app l (by omega) (by omega)]; exact hB)
    (fun x hx y hy => by
      obtain ⟨i, i1, i2, i3⟩ := seg_day (by omega) hx
      obtain ⟨j, j1, j2, j3⟩ := seg_day h3 hy
      rw [i3, j3]
      by_cases hks : k = s
      · exfalso; omega
      · have q := k3 (k - 1) (by omega) (by omega)
        rw [show mid + m - 1 - (k - 1) = en by omega] at q
        have q1 := day_le (i := i) (j := k - 1) (by omega) hA i1 (by omega) (by omega)
        have q2 := day_le (i := en) (j := j) h3 hB (by omega) j1 j2
        omega)
    (fun x hx y hy => by
      obtain ⟨i, i1, i2, i3⟩ := seg_day (by omega) hx
      obtain ⟨j, j1, j2, j3⟩ := seg_day (by omega) hy
      rw [i3, j3]
      have q := Classical.byContradiction (k4 k (Nat.le_refl _) (by omega))
      have q1 := day_le (i := k) (j := i) (by omega) hA (by omega) i1 i2
      have q2 := day_le (i := j) (j := mid + m - 1 - k) h3 hB j1 (by omega) (by omega)
      omega)
    (stB_eq _) (stB_sd _) (stB_eq _) (stB_sd _)
  have hfin : stB (seg l a m ++ seg l m b) = stB (seg l a k ++ seg l m en) ++ stB (seg l k m ++ seg l en b) := by
    rw [seg_app l (show a ≤ k by omega) (show k ≤ m by omega), seg_app l (show m ≤ en by omega) (show en ≤ b by omega)]
    exact (stB_of hmg.2 hmg.1).symm
  rw [hfin]
  generalize hX : l.take a ++ ((seg l a k ++ seg l m en) ++ ((seg l k m ++ seg l en b) ++ l.drop b)) = X at htail
  have hXl : X.length = l.length := by rw [← hX]; simp only [List.length_append]; omega
  have hlenS : ∀ (Y : List Pst) (i j : Nat), Y.length = l.length → i ≤ j → j ≤ l.length → (sortSeg Y i j).length = l.length := fun Y i j hY hij hj => by
    unfold sortSeg; simp only [List.length_append, stB_len, List.length_take, List.length_drop]; omega
  have d1 := hdec (hlenS X a mid hXl (by omega) (by omega))
  have d2 := hdec (hlenS X mid b hXl (by omega) (by omega))
  have d3 := hdec (hlenS (sortSeg X a mid) mid b (hlenS X a mid hXl (by omega) (by omega)) (by omega) (by omega))
  have hres : ∀ {u : T (TypeId × List Pst)}, u = tailT n t X a k mid en b → u.run = some (t, l.take a ++ (stB (seg l a k ++ seg l m en) ++ stB (seg l k m ++ seg l en b) ++ l.drop b)) := fun {u} hu => by
    rw [hu, htail, List.append_assoc]
  have hrot : k < m → m < en → rotL l k m en = X := fun r1 r2 => by
    have := rotL_mid (l.take a ++ seg l a k) (seg l k m) (seg l m en) (seg l en b ++ l.drop b) (i := k) (j := m) (k := en) (by rw [List.length_append]; omega) (by rw [List.length_append]; omega) (by rw [List.length_append]; omega)
    have e1 : (l.take a ++ seg l a k) ++ (seg l k m ++ (seg l m en ++ (seg l en b ++ l.drop b))) = l := Eq.trans (by simp only [List.append_assoc]) hsp.symm
    rw [e1] at this
    rw [this, ← hX]; simp
  have hsame : ¬ (k < m ∧ m < en) → l = X := fun r => by
    rw [← hX]
    refine hsp.trans ?_
    by_cases r1 : k < m
    · have r2 : seg l m en = [] := by rw [show en = m by omega]; exact seg_same l m
      rw [r2]; simp only [List.append_assoc, List.append_nil, List.nil_append]
    · have r2 : seg l k m = [] := by rw [show k = m by omega]; exact seg_same l m
      rw [r2]; simp only [List.append_assoc, List.append_nil, List.nil_append]
  by_cases hgt : m > mid
  · rw [if_pos hgt] at hs he
    have w6 : IntKind.i64.wrap (((mid + m : Nat) : Int) - (b : Int)) = (s : Int) := by rw [w64_in (by omega) (by omega)]; omega
    simp only [hh, w3, w4, w6]
    refine br_t (decide_eq_true (by omega)) ?_
    rw [show (mid : Int) = (e : Int) by omega] at key ⊢
    refine obs_step key ?_
    rw [show (e : Int) = (mid : Int) by omega]
    simp only [decF_encF, w5, Int.toNat_natCast]
    by_cases r : k < m ∧ m < en
    · refine br_t (decide_eq_true (by omega)) (br_t (decide_eq_true (by omega)) (chk_step (decide_eq_true (by omega)) ?_))
      rw [hrot r.1 r.2]
      simp only [hdec hXl, d1, d2, d3]
      exact hres rfl
    · have hl := hsame r
      rw [← hl] at d1 d2 d3
      simp only [d1, d2, d3]
      rw [← hl] at hres
      by_cases r1 : k < m
      · exact br_t (decide_eq_true (by omega)) (br_f (decide_eq_false (by omega)) (hres rfl))
      · exact br_f (decide_eq_false (by omega)) (hres rfl)
  · rw [if_neg hgt] at hs he
    simp only [hh, w3, w4]
    refine br_f (decide_eq_false (by omega)) ?_
    subst hs; subst he
    refine obs_step key ?_
    simp only [decF_encF, w5, Int.toNat_natCast]
    by_cases r : k < e ∧ e < en
    · refine br_t (decide_eq_true (by omega)) (br_t (decide_eq_true (by omega)) (chk_step (decide_eq_true (by omega)) ?_))
      rw [hrot r.1 r.2]
      simp only [hdec hXl, d1, d2, d3]
      exact hres rfl
    · have hl := hsame r
      rw [← hl] at d1 d2 d3
      simp only [d1, d2, d3]
      rw [← hl] at hres
      by_cases r1 : k < e
      · exact br_t (decide_eq_true (by omega)) (br_f (decide_eq_false (by omega)) (hres rfl))
      · exact br_f (decide_eq_false (by omega)) (hres rfl)
end K
end Go.Proofs.YtelpdkojdfnmiaaGreat
/-! LSa -/
namespace Go.Proofs.YtelpdkojdfnmiaaGreat
open Ev K
set_option maxRecDepth 100000
namespace K
theorem sym_mc : ∀ (n : Nat) (l : List Pst) (a : Int × Int × Int) (l' : List Pst), (M_sym n (l, a)).run = some l' → MC P fSym rPost.wd l.length ⟨rPost.tags, encF rPost l⟩ ⟨rPost.tags, encF rPost l'⟩ (D_sw.enc a)
  | 0, l, (x, y, z), l', h => by
    obtain ⟨g, e⟩ := chk_ret h
    exfalso
    unfold symOk at g
    have g := of_decide_eq_true g
    simp only at g
    omega
  | n + 1, l, (x, y, z), l', h => by
    obtain ⟨g, e⟩ := chk_ret h
    subst e
    have g' := of_decide_eq_true g
    simp only at g g'
    obtain ⟨a, rfl⟩ : ∃ a : Nat, x = a := ⟨x.toNat, by omega⟩
    obtain ⟨m, rfl⟩ : ∃ m : Nat, y = m := ⟨y.toNat, by omega⟩
    obtain ⟨b, rfl⟩ : ∃ b : Nat, z = b := ⟨z.toNat, by omega⟩
    exact turn_of (d := 30) okP (TabOk.addTurn tLS65 (turnE_cc (sym_mc n))) fun t => sym_turn n t l a m b g
end K
noncomputable def BLSay : Tab := BSy 1000000
theorem tLSay : TabOk P BLSay := TabOk.addTurn tLS65 (turnE_cc (K.sym_mc 1000000))
end Go.Proofs.YtelpdkojdfnmiaaGreat
/-! LSb -/
namespace Go.Proofs.YtelpdkojdfnmiaaGreat
open Ev K
set_option maxRecDepth 100000
noncomputable abbrev K.fSt : FuncId := 105
def S_s17 := DecS.rnd (.cons (dO 0) (.cons dInt (.unit F_cmpD (.skips 3 (.cons dInt (.cons dInt (.last dInt 54))))))) O_pT V_own
def X_s17 := DecX.one (.exit 0) [0, 7, 1, 2, 6] (DecS.rnd (.cons (dO 0) (.cons dInt (.unit F_cmpD (.skips 3 (.cons dInt (.last dInt 55)))))) O_pT V_own)
noncomputable def K.st_s17 := loopT1 P BLSay 30 fSt 17 [6, 8, 2, 7, 0, 1] S_s17 X_s17
theorem sl_s17 : ∀ s, (K.st_s17) s = T.run (
  .br (decide (s.1.2.2.2.2 ≤ s.1.2.1)) (
    .chk (decide ((0 : Int) ≤ s.1.2.2.2.1 ∧ s.1.2.2.2.1 ≤ s.1.2.2.2.2 ∧ s.1.2.2.2.2 ≤ (↑(List.length (decF rPost (List.length s.2.1.1.2) (encF rPost s.2.1.1.2))) : Int) ∧ List.length (decF rPost (List.length s.2.1.1.2) (encF rPost s.2.1.1.2)) ≤ (1000000 : Nat))) <|
    .ret (Sum.inl ((s.1.1, s.1.2.1, s.1.2.2.1, s.1.2.2.2.2, IntKind.wrap IntKind.i64 (s.1.2.2.2.2 + s.1.2.2.1)), ((s.2.1.1.1, decF rPost (List.length s.2.1.1.2) (encF rPost (sortSeg (decF rPost (List.length s.2.1.1.2) (encF rPost s.2.1.1.2)) (Int.toNat s.1.2.2.2.1) (Int.toNat s.1.2.2.2.2)))), PUnit.unit), s.2.2))) (
    .ret (Sum.inr ((s.1.1, s.1.2.1, s.1.2.2.1, s.1.2.2.2.1), ((s.2.1.1.1, decF rPost (List.length s.2.1.1.2) (encF rPost s.2.1.1.2)), PUnit.unit), s.2.2)))) := fun s => by kernel_rfl
noncomputable def K.L_s17 := lim K.st_s17
noncomputable def BLSb1 : Tab := BLSay.addNode 105 17 (nodeE [6, 8, 2, 7, 0, 1] S_s17 X_s17 (fun s => .obs (K.L_s17 s) .ret))
theorem tLSb1 : TabOk P BLSb1 := TabOk.addLoop (d := 30) okP tLSay (by kernel_rfl) (by kernel_rfl) (fun s r h => obs_ret h)
def X_s73 := DecX.one (.exit 4) [0, 7, 1, 2, 6] (DecS.rnd (.cons (dO 0) (.cons dInt (.unit F_cmpD (.skips 3 (.cons dInt (.last dInt 55)))))) O_pT V_own)
noncomputable def K.st_s73 := loopT1 P BLSb1 30 fSt 73 [6, 8, 2, 7, 0, 1] S_s17 X_s73
theorem sl_s73 : ∀ s, (K.st_s73) s = T.run (
  .br (decide (s.1.2.2.2.2 ≤ s.1.2.1)) (
    .chk (symOk (1000000 : Nat) (decF rPost (List.length s.2.1.1.2) (encF rPost s.2.1.1.2)) s.1.2.2.2.1 (IntKind.wrap IntKind.i64 (s.1.2.2.2.1 + s.1.2.2.1)) s.1.2.2.2.2) <|
    .ret (Sum.inl ((s.1.1, s.1.2.1, s.1.2.2.1, s.1.2.2.2.2, IntKind.wrap IntKind.i64 (s.1.2.2.2.2 + IntKind.wrap IntKind.i64 ((2 : Int) * s.1.2.2.1))), ((s.2.1.1.1, decF rPost (List.length s.2.1.1.2) (encF rPost (sortSeg (decF rPost (List.length s.2.1.1.2) (encF rPost s.2.1.1.2)) (Int.toNat s.1.2.2.2.1) (Int.toNat s.1.2.2.2.2)))), PUnit.unit), s.2.2))) (
    .ret (Sum.inr ((s.1.1, s.1.2.1, s.1.2.2.1, s.1.2.2.2.1), ((s.2.1.1.1, decF rPost (List.length s.2.1.1.2) (encF rPost s.2.1.1.2)), PUnit.unit), s.2.2)))) := fun s => by kernel_rfl
noncomputable def K.L_s73 := lim K.st_s73
noncomputable def BLSb2 : Tab := BLSb1.addNode 105 73 (nodeE [6, 8, 2, 7, 0, 1] S_s17 X_s73 (fun s => .obs (K.L_s73 s) .ret))
theorem tLSb2 : TabOk P BLSb2 := TabOk.addLoop (d := 30) okP tLSb1 (by kernel_rfl) (by kernel_rfl) (fun s r h => obs_ret h)
def S_s57 := DecS.rnd (.cons (dO 0) (.cons dInt (.unit F_cmpD (.skips 3 (.last dInt 56))))) O_pT V_own
def X_s57 := DecX.one (.exit 2) [] (DecS.rnd (.tops 63) O_pT V_own)
noncomputable def K.st_s57 := loopT1 P BLSb2 30 fSt 57 [6, 2, 0, 1] S_s57 X_s57
theorem sl_s57 : ∀ s, (K.st_s57) s = T.run (
 let q1 := ((s.2.1.1.1, decF rPost (List.length s.2.1.1.2) (encF rPost s.2.1.1.2)), PUnit.unit);
  .br (decide (s.1.2.2 < s.1.2.1)) (
    .obs (L_s73 ((s.1.1, s.1.2.1, s.1.2.2, (0 : Int), IntKind.wrap IntKind.i64 ((2 : Int) * s.1.2.2)), q1, s.2.2)) fun x0 =>
 let q2 := (x0.1.1, x0.1.2.1, IntKind.wrap IntKind.i64 (x0.1.2.2.1 * (2 : Int)));
 let q3 := List.length x0.2.1.1.2;
 let q4 := encF rPost x0.2.1.1.2;
      .br (decide (IntKind.wrap IntKind.i64 (x0.1.2.2.2 + x0.1.2.2.1) < x0.1.2.1)) (
        .chk (symOk (1000000 : Nat) (decF rPost q3 q4) x0.1.2.2.2 (IntKind.wrap IntKind.i64 (x0.1.2.2.2 + x0.1.2.2.1)) x0.1.2.1) <|
        .ret (Sum.inl (q2, ((x0.2.1.1.1, decF rPost q3 (encF rPost (sortSeg (decF rPost q3 q4) (Int.toNat x0.1.2.2.2) (Int.toNat x0.1.2.1)))), PUnit.unit), x0.2.2))) (
        .ret (Sum.inl (q2, ((x0.2.1.1.1, decF rPost q3 q4), PUnit.unit), x0.2.2)))) (
    .ret (Sum.inr (PUnit.unit, q1, s.2.2)))) := fun s => by kernel_rfl
noncomputable def K.L_s57 := lim K.st_s57
noncomputable def BLSb3 : Tab := BLSb2.addNode 105 57 (nodeE [6, 2, 0, 1] S_s57 X_s57 (fun s => .obs (K.L_s57 s) .ret))
theorem tLSb3 : TabOk P BLSb3 := TabOk.addLoop (d := 30) okP tLSb2 (by kernel_rfl) (by kernel_rfl) (fun s r h => obs_ret h)
def D_st : DecL Int := (DecL.cons dInt (.unit F_cmpD (.tops 0))).iso (fun p => p.1) (fun p => (p, ())) (fun _ => rfl)
theorem fn_st : ∀ a, (turnT1 P BLSb3 30 fSt D_st rPost) a = T.run (
  .obs (L_s17 ((List.length a.2.1, a.2.2, (20 : Int), (0 : Int), (20 : Int)), ((a.1, decF rPost (List.length a.2.1) (encF rPost a.2.1)), PUnit.unit), List.length a.2.1)) fun x0 =>
    .chk (decide ((0 : Int) ≤ x0.1.2.2.2 ∧ x0.1.2.2.2 ≤ x0.1.2.1 ∧ x0.1.2.1 ≤ (↑(List.length (decF rPost (List.length x0.2.1.1.2) (encF rPost x0.2.1.1.2))) : Int) ∧ List.length (decF rPost (List.length x0.2.1.1.2) (encF rPost x0.2.1.1.2)) ≤ (1000000 : Nat))) <|
    .obs (L_s57 ((x0.1.1, x0.1.2.1, x0.1.2.2.1), ((x0.2.1.1.1, decF rPost (List.length x0.2.1.1.2) (encF rPost (sortSeg (decF rPost (List.length x0.2.1.1.2) (encF rPost x0.2.1.1.2)) (Int.toNat x0.1.2.2.2) (Int.toNat x0.1.2.1)))), PUnit.unit), x0.2.2)) fun x1 =>
      .ret ((x1.2.1.1.1, decF rPost (List.length a.2.1) (encF rPost x1.2.1.1.2)))) := fun a => by kernel_rfl
end Go.Proofs.YtelpdkojdfnmiaaGreat
/-! LSc -/
namespace Go.Proofs.YtelpdkojdfnmiaaGreat
open Ev K
set_option maxRecDepth 100000
namespace K
inductive Run (n : Nat) : List Pst → Prop
  | last (x : List Pst) : x.length ≤ n → Sd x → Run n x
  | cons (x l : List Pst) : x.length = n → Sd x → Run n l → Run n (x ++ l)
inductive Full (n : Nat) : List Pst → Prop
  | nil : Full n []
  | snoc (D x : List Pst) : Full n D → x.length = n → Sd x → Full n (D ++ x)
theorem sd_nil : Sd [] := List.Pairwise.nil
theorem full_run {n : Nat} : ∀ {D z : List Pst}, Full n D → Run n z → Run n (D ++ z) := by
  intro D z h
  induction h generalizing z with
  | nil => exact id
  | snoc D x _ hx hs ih => intro hz; rw [List.append_assoc]; exact ih (.cons x z hx hs hz)
theorem run_sd {n : Nat} {l : List Pst} (h : Run n l) (hl : l.length ≤ n) : Sd l := by
  cases h with
  | last _ _ h => exact h
  | cons x t hx hs _ =>
    rw [List.length_append] at hl
    have : t = [] := List.eq_nil_of_length_eq_zero (by omega)
    subst this; rw [List.append_nil]; exact hs
theorem run_two {n : Nat} {l : List Pst} (h1 : 1 ≤ n) (h : Run n l) (hl : 2 * n ≤ l.length) : ∃ x y t, l = x ++ (y ++ t) ∧ x.length = n ∧ y.length = n ∧ Sd x ∧ Sd y ∧ Run n t := by
  cases h with
  | last _ h2 _ => omega
  | cons x t hx hs ht =>
    rw [List.length_append] at hl
    cases ht with
    | last _ h2 h3 => exact ⟨x, t, [], by simp, hx, by omega, hs, h3, .last [] (by simp) sd_nil⟩
    | cons y t hy hs2 ht => exact ⟨x, y, t, rfl, hx, hy, hs, hs2, ht⟩
theorem run_end {n : Nat} {l : List Pst} (h : Run n l) (hl : l.length < 2 * n) : ∃ x y, l = x ++ y ∧ x.length ≤ n ∧ (y ≠ [] → x.length = n) ∧ Sd x ∧ Sd y := by
  cases h with
  | last _ h2 h3 => exact ⟨l, [], by simp, h2, fun h => absurd rfl h, h3, sd_nil⟩
  | cons x t hx hs ht =>
    rw [List.length_append] at hl
    exact ⟨x, t, rfl, by omega, fun _ => hx, hs, run_sd ht (by omega)⟩
theorem st_mid {P X Q : List Pst} : StEq (P ++ (X ++ Q)) (P ++ (stB X ++ Q)) := (StEq.refl P).app ((stB_eq X).app (StEq.refl Q))
theorem L_s17_eq (t : TypeId) (v n : Nat) (hn : n ≤ 100000) : ∀ (d : Nat) (D R : List Pst), R.length ≤ d → D.length + R.length = n → Full 20 D → ∃ D' R', StEq (D ++ R) (D' ++ R') ∧ D'.length + R'.length = n ∧ R'.length < 20 ∧ Full 20 D' ∧
    L_s17 ((n, (n : Int), 20, (D.length : Int), ((D.length + 20 : Nat) : Int)), ((t, D ++ R), ()), v) = some ((n, (n : Int), 20, (D'.length : Int)), ((t, D' ++ R'), ()), v)
  | 0, D, R, hd, hl, hD => by
    have : R = [] := List.eq_nil_of_length_eq_zero (by omega)
    subst this
    refine ⟨D, [], StEq.refl _, hl, by decide, hD, lim_done ?_⟩
    rw [sl_s17]
    simp only [List.length_nil] at hl
    simp only [decF_encF]
    exact br_f (decide_eq_false (by omega)) rfl
  | d + 1, D, R, hd, hl, hD => by
    by_cases h20 : R.length < 20
    · refine ⟨D, R, StEq.refl _, hl, h20, hD, lim_done ?_⟩
      rw [sl_s17]
      simp only [decF_encF]
      exact br_f (decide_eq_false (by omega)) rfl
    · have hR : R = R.take 20 ++ R.drop 20 := (List.take_append_drop _ _).symm
      have hx : (R.take 20).length = 20 := by rw [List.length_take]; omega
      have hy : (R.drop 20).length = R.length - 20 := List.length_drop
      generalize R.take 20 = X at hR hx
      generalize R.drop 20 = Q at hR hy
      subst hR
      have hlen : (stB X).length = 20 := by rw [stB_len]; exact hx
      obtain ⟨D', R', a1, a2, a3, a4, a5⟩ := L_s17_eq t v n hn d (D ++ stB X) Q (by omega) (by rw [List.length_append, hlen]; omega) (.snoc D (stB X) hD hlen (stB_sd X))
      refine ⟨D', R', (st_mid.trans (by rw [List.append_assoc] at a1; exact a1)), a2, a3, a4, (lim_step ?_).trans a5⟩
      rw [sl_s17]
      have w : IntKind.i64.wrap (((D.length + 20 : Nat) : Int) + 20) = ((((D ++ stB X).length + 20 : Nat)) : Int) := by rw [w64_in (by omega) (by omega), List.length_append, hlen]; omega
      have hN : (D ++ (stB X ++ Q)).length = (D ++ (X ++ Q)).length := by simp only [List.length_append, hlen, hx]
      simp only [decF_encF, w, Int.toNat_natCast, sortSeg_mid D X Q (i := D.length) (j := D.length + 20) rfl (by rw [hx]), hdec hN]
      refine br_t (decide_eq_true (by omega)) (chk_step (decide_eq_true ⟨by omega, by omega, by rw [List.length_append, List.length_append]; omega, by rw [List.length_append, List.length_append]; omega⟩) ?_)
      rw [List.append_assoc, show D.length + 20 = (D ++ stB X).length by rw [List.length_append, hlen]]; rfl
theorem L_s73_eq (t : TypeId) (v n b : Nat) (hb : 1 ≤ b) (hb2 : b < n) (hn : n ≤ 100000) : ∀ (d : Nat) (D R : List Pst), R.length ≤ d → D.length + R.length = n → Full (2 * b) D → Run b R → ∃ D' R', StEq (D ++ R) (D' ++ R') ∧ D'.length + R'.length = n ∧ R'.length < 2 * b ∧ Full (2 * b) D' ∧ Run b R' ∧
    L_s73 ((n, (n : Int), (b : Int), (D.length : Int), ((D.length + 2 * b : Nat) : Int)), ((t, D ++ R), ()), v) = some ((n, (n : Int), (b : Int), (D'.length : Int)), ((t, D' ++ R'), ()), v)
  | 0, D, R, hd, hl, hD, hR => by
    have : R = [] := List.eq_nil_of_length_eq_zero (by omega)
    subst this
    refine ⟨D, [], StEq.refl _, hl, by simp; omega, hD, hR, lim_done ?_⟩
    rw [sl_s73]
    simp only [List.length_nil] at hl
    simp only [decF_encF]
    exact br_f (decide_eq_false (by omega)) rfl
  | d + 1, D, R, hd, hl, hD, hR => by
    by_cases h2 : R.length < 2 * b
    · refine ⟨D, R, StEq.refl _, hl, h2, hD, hR, lim_done ?_⟩
      rw [sl_s73]
      simp only [decF_encF]
      exact br_f (decide_eq_false (by omega)) rfl
    · obtain ⟨X, Y, Q, e, hx, hy, sx, sy, hQ⟩ := run_two hb hR (by omega)
      subst e
      have hlQ : (X ++ (Y ++ Q)).length = b + (b + Q.length) := by rw [List.length_append, List.length_append, hx, hy]
      have hlen : (stB (X ++ Y)).length = 2 * b := by rw [stB_len, List.length_append]; omega
      obtain ⟨D', R', a1, a2, a3, a4, a5, a6⟩ := L_s73_eq t v n b hb hb2 hn d (D ++ stB (X ++ Y)) Q (by omega) (by rw [List.length_append, hlen]; omega) (.snoc D _ hD hlen (stB_sd _)) hQ
      refine ⟨D', R', (StEq.trans (by rw [← List.append_assoc X]; exact st_mid) (by rw [List.append_assoc] at a1; exact a1)), a2, a3, a4, a5, (lim_step ?_).trans a6⟩
      rw [sl_s73]
      have w1 : IntKind.i64.wrap ((2 : Int) * (b : Int)) = ((2 * b : Nat) : Int) := by rw [w64_in (by omega) (by omega)]; omega
      have w2 : IntKind.i64.wrap (((D.length + 2 * b : Nat) : Int) + ((2 * b : Nat) : Int)) = ((((D ++ stB (X ++ Y)).length + 2 * b : Nat)) : Int) := by rw [w64_in (by omega) (by omega), List.length_append, hlen]; omega
      have w3 : IntKind.i64.wrap ((D.length : Int) + (b : Int)) = ((D.length + b : Nat) : Int) := by rw [w64_in (by omega) (by omega)]; omega
      have hN : (D ++ (stB (X ++ Y) ++ Q)).length = (D ++ (X ++ (Y ++ Q))).length := by simp only [List.length_append, hlen, hx, hy]; omega
      have hms : sortSeg (D ++ (X ++ (Y ++ Q))) D.length (D.length + 2 * b) = D ++ (stB (X ++ Y) ++ Q) := by
        rw [← List.append_assoc X]; exact sortSeg_mid D (X ++ Y) Q rfl (by rw [List.length_append]; omega)
      simp only [decF_encF, w1, w2, w3, Int.toNat_natCast, hms, hdec hN]
      refine br_t (decide_eq_true (by omega)) (chk_step (symOk_iff.2 ⟨⟨by omega, by omega, by rw [List.length_append, hlQ]; omega, by rw [List.length_append, hlQ]; omega, by omega⟩, ?_, ?_⟩) ?_)
      · rw [seg_mid D X (Y ++ Q) rfl (by rw [hx])]; exact sx
      · rw [← List.append_assoc D, seg_mid (D ++ X) Y Q (by rw [List.length_append, hx]) (by rw [List.length_append, hx, hy]; omega)]; exact sy
      rw [List.append_assoc, show D.length + 2 * b = (D ++ stB (X ++ Y)).length by rw [List.length_append, hlen]]; rfl
theorem L_s57_eq (t : TypeId) (v n : Nat) (l : List Pst) (hn : n ≤ 100000) (hln : l.length = n) : ∀ (d b : Nat) (r : List Pst), 1 ≤ b → b ≤ 200000 → n ≤ b + d → StEq l r → Run b r →
    L_s57 ((n, (n : Int), (b : Int)), ((t, r), ()), v) = some ((), ((t, stB l), ()), v)
  | 0, b, r, h1, hb, hd, hs, hr => by
    refine lim_done ?_
    rw [sl_s57]
    simp only [decF_encF]
    refine br_f (decide_eq_false (by omega)) ?_
    rw [← stB_of hs (run_sd hr (by have := hs.len; omega))]; rfl
  | d + 1, b, r, h1, hb, hd, hs, hr => by
    by_cases hbn : b < n
    · have hrl : r.length = n := by have := hs.len; omega
      obtain ⟨D, R, a1, a2, a3, a4, a5, a6⟩ := L_s73_eq t v n b h1 hbn hn n [] r (by omega) (by simpa using hrl) .nil hr
      simp only [List.length_nil, List.nil_append, Nat.zero_add] at a1 a6
      have w1 : IntKind.i64.wrap ((2 : Int) * (b : Int)) = ((2 * b : Nat) : Int) := by rw [w64_in (by omega) (by omega)]; omega
      have w2 : IntKind.i64.wrap ((b : Int) * (2 : Int)) = ((2 * b : Nat) : Int) := by rw [w64_in (by omega) (by omega)]; omega
      have w3 : IntKind.i64.wrap ((D.length : Int) + (b : Int)) = ((D.length + b : Nat) : Int) := by rw [w64_in (by omega) (by omega)]; omega
      obtain ⟨X, Y, e, hx, hxy, sx, sy⟩ := run_end a5 a3
      subst e
      rw [List.length_append] at a2 a3
      have hnew : Run (2 * b) (D ++ stB (X ++ Y)) := full_run a4 (.last _ (by rw [stB_len, List.length_append]; omega) (stB_sd _))
      have hst : StEq l (D ++ stB (X ++ Y)) := (hs.trans a1).trans ((StEq.refl D).app (stB_eq _))
      have ih := L_s57_eq t v n l hn hln d (2 * b) (D ++ stB (X ++ Y)) (by omega) (by omega) (by omega) hst hnew
      refine (lim_step ?_).trans ih
      rw [sl_s57]
      simp only [decF_encF, w1]
      refine br_t (decide_eq_true (by omega)) (obs_step a6 ?_)
      by_cases hm : D.length + b < n
      · have hY : Y ≠ [] := fun e => by subst e; simp only [List.length_nil] at a2; omega
        have hxb := hxy hY
        have hN : (D ++ stB (X ++ Y)).length = (D ++ (X ++ Y)).length := by simp only [List.length_append, stB_len]
        have hms : sortSeg (D ++ (X ++ Y)) D.length n = D ++ stB (X ++ Y) := by
          have := sortSeg_mid D (X ++ Y) [] (i := D.length) (j := n) rfl (by rw [List.length_append]; omega)
          simpa using this
        simp only [w2, w3, Int.toNat_natCast, hms, hdec hN]
        refine br_t (decide_eq_true (by omega)) (chk_step (symOk_iff.2 ⟨⟨by omega, by omega, by rw [List.length_append, List.length_append]; omega, by rw [List.length_append, List.length_append]; omega, by omega⟩, ?_, ?_⟩) rfl)
        · rw [seg_mid D X Y rfl (by rw [hxb])]; exact sx
        · have := seg_mid (D ++ X) Y [] (i := D.length + b) (j := n) (by rw [List.length_append, hxb]) (by rw [List.length_append]; omega)
          rw [List.append_nil, List.append_assoc] at this
          rw [this]; exact sy
      · have hY : Y = [] := Classical.byContradiction fun hY => by
          have := hxy hY
          have : 1 ≤ Y.length := by cases Y with
            | nil => exact absurd rfl hY
            | cons y Y => simp
          omega
        subst hY
        simp only [w2, w3]
        refine br_f (decide_eq_false (by omega)) ?_
        rw [List.append_nil, stB_self sx]; rfl
    · refine lim_done ?_
      rw [sl_s57]
      simp only [decF_encF]
      refine br_f (decide_eq_false (by omega)) ?_
      rw [← stB_of hs (run_sd hr (by have := hs.len; omega))]; rfl
theorem st_turn (t : TypeId) (l : List Pst) (h : l.length ≤ 100000) : turnT1 P BLSb3 30 fSt D_st rPost (t, l, (l.length : Int)) = some (t, stB l) := by
  rw [fn_st]
  obtain ⟨D, R, a1, a2, a3, a4, a5⟩ := L_s17_eq t l.length l.length h l.length [] l (Nat.le_refl _) (by simp) .nil
  simp only [List.length_nil, List.nil_append, Nat.zero_add] at a1 a5
  simp only [decF_encF]
  refine obs_step a5 ?_
  have hN : (D ++ stB R).length = (D ++ R).length := by simp only [List.length_append, stB_len]
  have hms : sortSeg (D ++ R) D.length l.length = D ++ stB R := by
    have := sortSeg_mid D R [] (i := D.length) (j := l.length) rfl (by omega)
    simpa using this
  simp only [Int.toNat_natCast, hms, hdec hN]
  refine chk_step (decide_eq_true ⟨by omega, by omega, by rw [List.length_append]; omega, by rw [List.length_append]; omega⟩) ?_
  refine obs_step (L_s57_eq t l.length l.length l h rfl l.length 20 (D ++ stB R) (by omega) (by omega) (by omega) (a1.trans ((StEq.refl D).app (stB_eq R))) (full_run a4 (.last _ (by rw [stB_len]; omega) (stB_sd R)))) ?_
  simp only [hdec (stB_len l)]; rfl
def M_st (a : List Pst × Int) : T (List Pst) := .chk (decide (a.2 = a.1.length ∧ a.1.length ≤ 100000)) (.ret (stB a.1))
theorem st_mc (l : List Pst) (a : Int) (l' : List Pst) (h : (M_st (l, a)).run = some l') : MC P fSt rPost.wd l.length ⟨rPost.tags, encF rPost l⟩ ⟨rPost.tags, encF rPost l'⟩ (D_st.enc a) := by
  obtain ⟨g, e⟩ := chk_ret h
  subst e
  have g := of_decide_eq_true g
  simp only at g
  obtain ⟨rfl, g2⟩ := g
  exact turn_of (d := 30) okP tLSb3 fun t => st_turn t l g2
end K
noncomputable def BLScs : Tab := BLSb3.addTurn K.fSt (turnE D_st rPost K.M_st)
theorem tLScs : TabOk P BLScs := TabOk.addTurn tLSb3 (turnE_cc K.st_mc)
def D_sst : DecL Unit := (DecL.unit F_cmpD (.tops 0)).iso (fun _ => ()) (fun _ => ()) (fun _ => rfl)
theorem fn_sst : ∀ a, (turnT1 P BLScs 30 69 D_sst rPost) a = T.run (
  .chk (decide ((↑(List.length a.2.1) : Int) = (↑(List.length (decF rPost (List.length a.2.1) (encF rPost a.2.1))) : Int) ∧ List.length (decF rPost (List.length a.2.1) (encF rPost a.2.1)) ≤ (100000 : Nat))) <|
  .ret ((a.1, decF rPost (List.length a.2.1) (encF rPost (stB (decF rPost (List.length a.2.1) (encF rPost a.2.1))))))) := fun a => by kernel_rfl
end Go.Proofs.YtelpdkojdfnmiaaGreat
/-! LSd -/
namespace Go.Proofs.YtelpdkojdfnmiaaGreat
open Ev K
set_option maxRecDepth 100000
namespace K
def M_sst (a : List Pst × Unit) : T (List Pst) := .chk (decide (a.1.length ≤ 100000)) (.ret (stB a.1))
theorem sst_mc (l : List Pst) (a : Unit) (l' : List Pst) (h : (M_sst (l, a)).run = some l') : MC P 69 rPost.wd l.length ⟨rPost.tags, encF rPost l⟩ ⟨rPost.tags, encF rPost l'⟩ (D_sst.enc a) := by
  obtain ⟨g, e⟩ := chk_ret h
  subst e
  have g := of_decide_eq_true g
  refine turn_of (d := 30) okP tLScs fun t => (fn_sst (t, l, a)).trans ?_
  simp only [decF_encF]
  refine chk_step (decide_eq_true ⟨trivial, g⟩) ?_
  simp only [hdec (stB_len l)]; rfl
end K
end Go.Proofs.YtelpdkojdfnmiaaGreat
/-! LT2 -/
namespace Go.Proofs.YtelpdkojdfnmiaaGreat
open Ev K
set_option maxRecDepth 100000
noncomputable def BLT2t : Tab := BLQ02.addTurn 69 (turnE D_sst rPost K.M_sst)
theorem tLT2t : TabOk P BLT2t := TabOk.addTurn tLQ02 (turnE_cc K.sst_mc)
theorem fn_state : ∀ a, (callT1 P BLT2t 30 22 D_state R_state) a = T.run (
 let q13 := (0 : Nat);
 let q4 := decF rItem (List.length a.1) fun i => encF rItem a.1 (q13 + i);
 let q8 := Bk.posts (readB q4 a.2.2.2);
 let q1 := decF rPost (List.length q8) fun i => encF rPost q8 (q13 + i);
 let q10 := (0 : Int);
 let q12 := a.2.2.1;
 let q7 := sumP q1 (IntKind.wrap IntKind.i64 (Span.lo q12 - (1 : Int)));
 let q11 := Get.mk [CK.int IntKind.i64, CK.int IntKind.i64] (encF rPII q7);
 let q15 := Span.hi q12;
 let q9 := Get.mk [CK.int IntKind.i64, CK.int IntKind.i64] (encF rPII (sumP q1 q15));
 let q2 := L_sta ((a.2.1, decF rPost (List.length q8) fun i => encF rPost q8 (q13 + i), (↑(clampL (List.length q8)) : Int), q10), q12, PUnit.unit, (numOf (mraw q11 (mfind q11 (AV.int IntKind.i64 a.2.1) (List.length q7)) (AV.int IntKind.i64 q10) (1 : Nat)), numOf (mraw q9 (mfind q9 (AV.int IntKind.i64 a.2.1) (List.length (sumP q1 q15))) (AV.int IntKind.i64 q10) (1 : Nat)), q13), decF rPost q13 fun _x _x_1 => AV.top, PUnit.unit);
 let q6 := (Stm.mk q10 q10 [], (1 : Int));
 let q14 := decide (Span.lo q12 > Span.hi q12);
 let q3 : T _ := .br (!l_day (Span.lo q12)) (
        .ret q6) (
        .br (!l_day q15) (
          .ret q6) (
          .br q14 (
            .ret q6) (
            .chk (rdOk q4) <|
            .chk (balOk q1) <|
            .chk (balOk q1) <|
            .obs q2 fun x0 =>
 let q16 := decF rPost (List.length x0.2.2.2.1) (encF rPost x0.2.2.2.1);
              .chk (decide (List.length q16 ≤ (100000 : Nat))) <|
              .ret ((Stm.mk x0.2.2.1.1 x0.2.2.1.2.1 (decF rPost (List.length x0.2.2.2.1) fun i => encF rPost (stB q16) (q13 + i)), q10)))));
 let q5 := decF rInt (1 : Nat) fun i k => Option.getD [AV.int IntKind.i64 a.2.2.2][(q13 + i) * (1 : Nat) + k]? AV.top;
  .chk (decide (nat_lit 1 ≤ (1000 : Nat))) <|
  .br (askedV q4 q5 != q10) (
    .br (askedV q4 q5 != q10) (
      .ret ((Stm.mk q10 q10 [], askedV q4 q5))) q3) (
    .br (l_account a.2.1 != q10) (
      .br (l_account a.2.1 != q10) (
        .ret ((Stm.mk q10 q10 [], l_account a.2.1))) (
        .br (!l_day (Span.lo q12)) (
          .ret q6) (
          .br (!l_day q15) (
            .ret q6) (
            .br q14 (
              .ret q6) (
              .chk (rdOk q4) <|
              .chk (balOk q1) <|
              .chk (balOk q1) <|
              .obs q2 fun x0 =>
 let q17 := decF rPost (List.length x0.2.2.2.1) (encF rPost x0.2.2.2.1);
                .chk (decide (List.length q17 ≤ (100000 : Nat))) <|
                .ret ((Stm.mk x0.2.2.1.1 x0.2.2.1.2.1 (decF rPost (List.length x0.2.2.2.1) fun i => encF rPost (stB q17) (q13 + i)), q10))))))) q3)) := fun a => by kernel_rfl
namespace K
theorem state_eq (a : List Itm × Int × Span × Int) : callT1 P BLT2t 30 22 D_state R_state a = some (stateV a.1 a.2.1 a.2.2.1 a.2.2.2) := by
  obtain ⟨l, acc, sp, known⟩ := a
  rw [fn_state]; unfold stateV stateE orV
  simp only [Nat.zero_add, decF_encF, dInt1, find_M, raw_M, l_account_eq]
  refine chk_step rfl ?_
  by_cases h : askedV l [known] = 0
  · simp only [h, ne_eq, not_true, if_false]
    refine br_f (by decide) ?_
    by_cases h2 : accountE acc = 0
    · simp only [h2, not_true, if_false]
      refine br_f (by decide) ?_
      by_cases h3 : dayOk sp.lo
      · refine br_f (by rw [(l_day_iff _).2 h3]; rfl) ?_
        by_cases h4 : dayOk sp.hi
        · refine br_f (by rw [(l_day_iff _).2 h4]; rfl) ?_
          by_cases h5 : sp.lo ≤ sp.hi
          · have hsp : spanOk sp := ⟨h3, h4, h5⟩
            have hb := chk_bal (ask_check h).1 known
            have hpl : (readB l known).posts.length ≤ 1000 := (of_decide_eq_true hb).1
            have w : IntKind.i64.wrap (sp.lo - 1) = sp.lo - 1 := by unfold dayOk at h3; exact w64_in (by omega) (by omega)
            simp only [hsp, if_true, w]
            refine br_f (decide_eq_false (by omega)) (chk_step (chk_rd (ask_check h).1) (chk_step hb (chk_step hb ?_)))
            rw [clampL_eq (show (readB l known).posts.length ≤ maxL by unfold maxL; omega)]
            have key := L_sta_eq acc (readB l known).posts sp (lookM (sumP (readB l known).posts (sp.lo - 1)) acc) (lookM (sumP (readB l known).posts sp.hi) acc) hpl (readB l known).posts.length 0 [] (by omega) (by simp)
            simp only [List.drop_zero, List.nil_append] at key
            refine obs_step key ?_
            have hfl := List.length_filter_le (onLine acc sp) (readB l known).posts
            simp only
            refine chk_step (decide_eq_true (by omega)) ?_
            rw [hdec (stB_len _)]; rfl
          · have hsp : ¬ spanOk sp := fun h => h5 h.2.2
            simp only [hsp, if_false]
            exact br_t (decide_eq_true (by omega)) rfl
        · have hsp : ¬ spanOk sp := fun h => h4 h.2.1
          simp only [hsp, if_false]
          exact br_t (by rw [Bool.not_eq_true', ← Bool.not_eq_true]; exact fun h => h4 ((l_day_iff _).1 h)) rfl
      · have hsp : ¬ spanOk sp := fun h => h3 h.1
        simp only [hsp, if_false]
        exact br_t (by rw [Bool.not_eq_true', ← Bool.not_eq_true]; exact fun h => h3 ((l_day_iff _).1 h)) rfl
    · simp only [h2, not_false_eq_true, if_true, if_false]
      exact br_t (ne_t h2) (br_t (ne_t h2) rfl)
  · simp only [h, ne_eq, not_false_eq_true, if_true, if_false]
    exact br_t (ne_t h) (br_t (ne_t h) rfl)
end K
noncomputable def BLT21 : Tab := BLT2t.addCall 22 (callE D_state R_state (fun a => .ret (K.stateV a.1 a.2.1 a.2.2.1 a.2.2.2)))
theorem tLT21 : TabOk P BLT21 := TabOk.addPC tLT2t (fun a r h => by rw [← ret_some h]; exact call_of okP tLT2t (K.state_eq a))
end Go.Proofs.YtelpdkojdfnmiaaGreat
/-! LB2 -/
namespace Go.Proofs.YtelpdkojdfnmiaaGreat
open Ev K
set_option maxRecDepth 100000
def D_l6 := DecL.cons (dRows rItem) (.cons dInt (.cons dInt (.cons dInt (.cons dInt (.last dInt 0)))))
def O_st3 : DecB (Stm × Stm × Stm × Unit) := .flat 41 lStm (.flat 41 lStm (.flat 41 lStm .nil))
def S_ls1 := DecS.mk0 (.cons (dRows rItem) (.cons dInt (.skips 2 (.cons dInt (.cons dInt (.skips 7 (.unit (dLp 0 0 0 0) (.skip (.unit (dLp 1 0 0 0) (.skip (.unit (dLp 2 0 0 0) (.skip (.cons dInt (.last dInt 142)))))))))))))) O_st3
def X_ls1 := DecX.one (.exit 0) [0, 1, 4, 5, 13, 15, 17, 19] (DecS.mk0 (.cons (dRows rItem) (.cons dInt (.skips 2 (.cons dInt (.cons dInt (.skips 7 (.unit (dLp 0 0 0 0) (.skip (.unit (dLp 1 0 0 0) (.skip (.unit (dLp 2 0 0 0) (.skip (.last dInt 143))))))))))))) O_st3)
noncomputable def K.st_ls1 := loopT1 P BLT21 30 5 97 [20, 17, 19, 15, 13, 5, 4, 1, 0] S_ls1 X_ls1
theorem sl_ls1 : ∀ s, (K.st_ls1) s = T.run (
 let q1 := Stm.lines s.2.2.2.1;
 let q6 := (0 : Nat);
 let q2 := decF rPost (List.length (Stm.lines s.2.2.1)) fun i => encF rPost (Stm.lines s.2.2.1) (q6 + i);
 let q3 := decF rPost (List.length (Stm.lines s.2.1)) fun i => encF rPost (Stm.lines s.2.1) (q6 + i);
 let q4 := decF rPost (List.length q1) fun i => encF rPost q1 (q6 + i);
 let q5 := s.1.2.2.2.2.2;
  .br (decide (q5 < (↑(clampL (List.length q1)) : Int))) (
    .chk (decide ((0 : Int) ≤ q5 ∧ q5 < (↑(List.length q1) : Int))) <|
    .ret (Sum.inl ((decF rItem (List.length s.1.1) fun i => encF rItem s.1.1 (q6 + i), s.1.2.1, s.1.2.2.1, s.1.2.2.2.1, IntKind.wrap IntKind.i64 (s.1.2.2.2.2.1 + numOf (encF rPost q1 (q6 + Int.toNat q5) (nat_lit 3))), IntKind.wrap IntKind.i64 (q5 + (1 : Int))), Stm.mk (Stm.before s.2.1) (Stm.after s.2.1) q3, Stm.mk (Stm.before s.2.2.1) (Stm.after s.2.2.1) q2, Stm.mk (Stm.before s.2.2.2.1) (Stm.after s.2.2.2.1) q4, PUnit.unit))) (
    .ret (Sum.inr ((decF rItem (List.length s.1.1) fun i => encF rItem s.1.1 (q6 + i), s.1.2.1, s.1.2.2.1, s.1.2.2.2.1, s.1.2.2.2.2.1), Stm.mk (Stm.before s.2.1) (Stm.after s.2.1) q3, Stm.mk (Stm.before s.2.2.1) (Stm.after s.2.2.1) q2, Stm.mk (Stm.before s.2.2.2.1) (Stm.after s.2.2.2.1) q4, PUnit.unit)))) := fun s => by kernel_rfl
noncomputable def K.L_ls1 := lim K.st_ls1
noncomputable def BLB21 : Tab := BLT21.addNode 5 97 (nodeE [20, 17, 19, 15, 13, 5, 4, 1, 0] S_ls1 X_ls1 (fun s => .obs (K.L_ls1 s) .ret))
theorem tLB21 : TabOk P BLB21 := TabOk.addLoop (d := 30) okP tLT21 (by kernel_rfl) (by kernel_rfl) (fun s r h => obs_ret h)
theorem fn_lwSt : ∀ a, (callT1 P BLB21 30 5 D_l6 dB) a = T.run (
 let q5 := (0 : Nat);
 let q1 := decF rItem (List.length a.1) fun i => encF rItem a.1 (q5 + i);
 let q7 := a.2.2.2.2.1;
 let q2 := stateV q1 a.2.1 (Span.mk (IntKind.wrap IntKind.i64 (a.2.2.2.1 + (1 : Int))) q7) a.2.2.2.2.2;
 let q3 := stateV q1 a.2.1 (Span.mk a.2.2.1 a.2.2.2.1) a.2.2.2.2.2;
 let q4 := stateV q1 a.2.1 (Span.mk a.2.2.1 q7) a.2.2.2.2.2;
 let q6 := q4.1;
 let q8 := q3.1;
 let q9 := q2.1;
  .br (!l_few q1) (
    .ret (true)) (
    .br (decide (a.2.2.1 < (0 : Int))) (
      .ret (true)) (
      .br (decide (a.2.2.2.1 < a.2.2.1)) (
        .ret (true)) (
        .br (decide (q7 ≤ a.2.2.2.1)) (
          .ret (true)) (
          .br (decide (q7 > (728 : Int))) (
            .ret (true)) (
            .br (q3.2 != q2.2) (
              .ret (false)) (
              .br (q3.2 != q4.2) (
                .ret (false)) (
                .br (q3.2 != (0 : Int)) (
                  .ret (true)) (
                  .obs (L_ls1 ((decF rItem (List.length a.1) fun i => encF rItem a.1 (q5 + i), a.2.1, q7, a.2.2.2.2.2, Stm.before q6, (0 : Int)), Stm.mk (Stm.before q8) (Stm.after q8) (decF rPost (List.length (Stm.lines q8)) fun i => encF rPost (Stm.lines q8) (q5 + i)), Stm.mk (Stm.before q9) (Stm.after q9) (decF rPost (List.length (Stm.lines q9)) fun i => encF rPost (Stm.lines q9) (q5 + i)), Stm.mk (Stm.before q6) (Stm.after q6) (decF rPost (List.length (Stm.lines q6)) fun i => encF rPost (Stm.lines q6) (q5 + i)), PUnit.unit)) fun x0 =>
 let q12 := Stm.lines x0.2.1;
 let q15 := Stm.lines x0.2.2.1;
 let q14 := q5 + List.length q12 + List.length q15;
 let q10 := decF rPost q14 fun i => appG (q5 + List.length q12) (appG q5 (fun _x _x_1 => AV.top) fun i k => encF rPost q12 (q5 + i) k) (fun i k => encF rPost q15 (q5 + i) k) (q5 + i);
 let q11 := holdV (decF rItem (List.length x0.1.1) fun i => encF rItem x0.1.1 (q5 + i)) x0.1.2.1 x0.1.2.2.1 x0.1.2.2.2.1;
 let q13 := Stm.lines x0.2.2.2.1;
                    .chk (decide ((q5 + List.length q12) * (32 : Nat) ≤ (140737488355328 : Nat) ∧ q5 + List.length q12 ≤ nat_lit 9223372036854775807)) <|
                    .chk (decide (q14 * (32 : Nat) ≤ (140737488355328 : Nat) ∧ q5 + List.length q12 + List.length q15 ≤ nat_lit 9223372036854775807)) <|
                    .br (x0.1.2.2.2.2 == Stm.after x0.2.2.2.1) (
                      .br (q11.2 == (0 : Int)) (
                        .br (q11.1 == x0.1.2.2.2.2) (
                          .br (Stm.before x0.2.1 == Stm.before x0.2.2.2.1) (
                            .br (Stm.after x0.2.1 == Stm.before x0.2.2.1) (
                              .br (Stm.after x0.2.2.1 == Stm.after x0.2.2.2.1) (
                                .chk (decide (List.length q10 ≤ (1000000 : Nat) ∧ List.length (decF rPost (List.length q13) fun i => encF rPost q13 (q5 + i)) ≤ (1000000 : Nat))) <|
                                .ret (decide (q10 = decF rPost (List.length q13) fun i => encF rPost q13 (q5 + i)))) (
                                .ret (false))) (
                              .ret (false))) (
                            .ret (false))) (
                          .ret (false))) (
                        .ret (false))) (
                      .ret (false))))))))))) := fun a => by kernel_rfl
end Go.Proofs.YtelpdkojdfnmiaaGreat
