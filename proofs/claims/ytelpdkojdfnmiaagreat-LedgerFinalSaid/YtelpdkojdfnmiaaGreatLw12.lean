/- LedgerFinal: for every input the law returns true, and the input reads as it did. No conditions. -/
import Derived.Test.YtelpdkojdfnmiaaGreatLw11
import Derived.ProofKit
import Derived.Carry
import Derived.Test.YtelpdkojdfnmiaaGreatRows
/-! EvW -/
namespace Go.Proofs.YtelpdkojdfnmiaaGreat.Ev
open Go.RowKit Go.WideShapes Go.ChangeShapes
section
variable {H : Type} {enc : TypeId × Value → H} {P : Program}
theorem post_of_below {f : Func} {s : ChangeSpec} {apart fresh handsOn again : Bool} {W W' : World} {args : Array Value} {v : Value} {ds gs : List (DataW H)} {before pa pv : List MemPlace}
    (hW : DataW.Whole enc P f.params.toList s.vars apart W args.toList ds gs before)
    (hres : ∀ (b : Nat) (sp : Nat → Bool) (hd : Bool), DataW.TrodAll enc P W' b sp hd f.resultTypes.toList (v.resultList f.resultTypes.size) (s.fn H (ds ++ gs)).results [])
    (hargs : ∀ sp : Nat → Bool, (∀ p ∈ before, sp p.block = true) → DataW.TrodAll enc P W' 0 sp true f.params.toList args.toList (s.fn H (ds ++ gs)).args pa)
    (hvars : ∀ sp : Nat → Bool, (∀ p ∈ before, sp p.block = true) → DataW.TrodVars enc P W' sp s.vars (s.fn H (ds ++ gs)).vars pv)
    (hps : before = pa ++ pv) (hb : Below W.heap.size W W')
    (hok : ∀ (j : Nat) (t : TypeId) (r : Value), f.resultTypes[j]? = some t → (v.resultList f.resultTypes.size)[j]? = some r → Value.okWide P W' .any 0 t r) :
    s.post enc P f apart fresh handsOn again W args v W' := by
  have hlt : ∀ p ∈ before, p.block < W.heap.size := fun p hp => hW.lt p hp
  have hold : ∀ p ∈ before, (fun b => decide (b < W.heap.size)) p.block = true := fun p hp => by simpa using hlt p hp
  refine ⟨ds, gs, before, [], pa, pv, hW, hres _ _ _, hargs _ hold, hvars _ hold, World.keptBut_mono (fun p hp => ⟨hp, ?_⟩) (hb.frame (· ∈ before)), fun _ => ?_⟩
  · rw [hps, List.mem_append] at hp
    exact Or.inr hp
  · obtain ⟨_, _, _, _, _, hz, hn⟩ := hW
    refine ⟨hok, _, _, ([] ++ pa) ++ pv, ⟨[] ++ pa, pv, trodAll_append (hargs _ (fun _ _ => rfl)) (hres _ _ _), hvars _ (fun _ _ => rfl), rfl, ?_, ?_⟩, ?_⟩
    · intro b off hp
      have hin : MemPlace.cell b off ∈ before := by rw [hps]; simpa using hp
      rw [hb.frozen (hlt _ hin)]
      exact hz b off hin
    · intro ha
      have := hn ha
      rw [hps] at this
      simpa using this
    · intro p hp _
      rw [hps]
      simpa using hp
theorem trodAll_stays (hl : laidOutB P = true) {W W' : World} (hb : Below W.heap.size W W') {sp : Nat → Bool} : ∀ {ts : List TypeId} {vs : List Value} {ds : List (DataW H)} {ps : List MemPlace},
    (∀ t ∈ ts, P.readableRec t = true ∧ t < P.types.size) → DataW.TrodAll enc P W 0 (fun _ => true) true ts vs ds ps → (∀ x ∈ ps, x.block < W.heap.size) → (∀ x ∈ ps, sp x.block = true) → DataW.TrodAll enc P W' 0 sp true ts vs ds ps
  | [], [], [], ps, _, h, _, _ => h
  | [], [], _ :: _, _, _, h, _, _ => h.elim
  | [], _ :: _, _, _, _, h, _, _ => h.elim
  | _ :: _, [], _, _, _, h, _, _ => h.elim
  | _ :: _, _ :: _, [], _, _, h, _, _ => h.elim
  | t :: ts, v :: vs, d :: ds, ps, ht, h, hlt, hs => by
    obtain ⟨p, q, h1, h2, rfl⟩ := h
    refine ⟨p, q, ?_, trodAll_stays hl hb (fun t h => ht t (List.mem_cons_of_mem _ h)) h2 (fun x hx => hlt x (List.mem_append_right _ hx)) (fun x hx => hs x (List.mem_append_right _ hx)), rfl⟩
    have h0 := ht t List.mem_cons_self
    exact WideElems.Trod_stays hl h0.1 h0.2 h1 (fun x hx => hb.same (hlt x (List.mem_append_left _ hx))) (fun x hx => hs x (List.mem_append_left _ hx))
inductive FK where
  | int (k : IntKind)
  | bool
  | str
  | sl (e : TypeId)
def flatF (r : TypeId → Option (List FK)) (P : Program) : List Field → Nat → Option (List FK)
  | [], _ => some []
  | f :: fs, off => match r f.type with
    | some l => match Nat.beq f.offset off && Nat.beq (P.cellsOf f.type) l.length with
      | true => match flatF r P fs (off + l.length) with
        | some m => some (l ++ m)
        | none => none
      | false => none
    | none => none
def flat (P : Program) : Nat → TypeId → Option (List FK)
  | 0, _ => none
  | n + 1, t => match P.underlying t with
    | some .bool => some [.bool]
    | some (.int k) => some [.int k]
    | some .string => some [.str]
    | some (.slice e) => some [.sl e]
    | some (.struct fs) => match flatF (flat P n) P fs.toList 0 with
      | some l => match Nat.beq (P.cellsOf t) l.length with
        | true => some l
        | false => none
      | none => none
    | some (.array m e) => match flat P n e with
      | some l => match Nat.beq (P.cellsOf e) l.length && Nat.beq (P.cellsOf t) (m * l.length) with
        | true => some (List.replicate m l).flatten
        | false => none
      | none => none
    | _ => none
def CellR (enc : TypeId × Value → H) (P : Program) (w : World) : FK → Value → Prop
  | .int k, v => ∃ n, v = .int k n ∧ (Lit.int k n).wf = true
  | .bool, v => ∃ b, v = .bool b
  | .str, v => ∃ s : ByteArray, v = .string s ∧ s.size ≤ maxLen
  | .sl e, v => v = .slice none 0 0 ∨ ∃ (a : Addr) (len cap : Nat), v = .slice (some a) len cap ∧ len ≤ cap ∧ cap ≤ maxLen ∧
      ∀ i, i < len → ∃ row, w.cells? 0 (a.add (i * P.cellsOf e)) (P.cellsOf e) = some row ∧ ∃ fuel x, DataW.trod enc P w 0 (fun _ => true) true fuel e row = some x
theorem mapM_mem {α β : Type} {f : α → Option β} : ∀ {l : List α} {ys : List β}, l.mapM f = some ys → ∀ x ∈ l, ∃ y, f x = some y
  | [], _, _, x, hx => by simp at hx
  | a :: l, ys, h, x, hx => by
    rw [List.mapM_cons] at h
    cases ha : f a with
    | none => simp [ha] at h
    | some b =>
      cases hl : l.mapM f with
      | none => simp [ha, hl] at h
      | some bs =>
        rcases List.mem_cons.1 hx with rfl | hx
        · exact ⟨b, ha⟩
        · exact mapM_mem hl x hx
theorem flatF_get {r : TypeId → Option (List FK)} {w : World} {cs : List Value} (hr : ∀ t l, r t = some l → ∀ fuel ds x, DataW.trod enc P w 0 (fun _ => true) true fuel t ds = some x → ds.length = l.length ∧ ∀ (i : Nat) (k : FK), l[i]? = some k → ∃ v, ds[i]? = some v ∧ CellR enc P w k v) :
    ∀ {fs : List Field} {off : Nat} {l : List FK}, flatF r P fs off = some l → off + l.length ≤ cs.length → (∀ f ∈ fs, ∃ fuel x, DataW.trod enc P w 0 (fun _ => true) true fuel f.type ((cs.drop f.offset).take (P.cellsOf f.type)) = some x) →
      ∀ (i : Nat) (k : FK), l[i]? = some k → ∃ v, cs[off + i]? = some v ∧ CellR enc P w k v
  | [], off, l, h, _, _, i, k, hi => by simp [flatF] at h; subst h; simp at hi
  | f :: fs, off, l, h, hle, hf, i, k, hi => by
    simp only [flatF] at h
    split at h
    case h_2 => simp at h
    rename_i l1 h1
    split at h
    case h_2 => simp at h
    rename_i hc
    simp only [Bool.and_eq_true] at hc
    have e1 := Nat.eq_of_beq_eq_true hc.1
    have e2 := Nat.eq_of_beq_eq_true hc.2
    split at h
    case h_2 => simp at h
    rename_i m hm
    injection h with h; subst h
    rw [List.length_append] at hle
    by_cases hlt : i < l1.length
    · rw [List.getElem?_append_left hlt] at hi
      obtain ⟨fuel, x, hx⟩ := hf f List.mem_cons_self
      obtain ⟨v, hv, hcr⟩ := (hr _ _ h1 _ _ _ hx).2 i k hi
      rw [List.getElem?_take] at hv
      split at hv
      · rw [List.getElem?_drop, e1] at hv
        exact ⟨v, hv, hcr⟩
      · simp at hv
    · rw [List.getElem?_append_right (by omega)] at hi
      obtain ⟨v, hv, hcr⟩ := flatF_get hr hm (by omega) (fun f h => hf f (List.mem_cons_of_mem _ h)) _ k hi
      exact ⟨v, by rw [← hv]; congr 1; omega, hcr⟩
theorem flatten_get {l : List FK} {m : Nat} : ∀ {i : Nat} {k : FK}, ((List.replicate m l).flatten)[i]? = some k → 0 < l.length ∧ i / l.length < m ∧ l[i % l.length]? = some k := by
  induction m with
  | zero => intro i k h; simp at h
  | succ m ih =>
    intro i k h
    rw [List.replicate_succ, List.flatten_cons] at h
    by_cases hlt : i < l.length
    · rw [List.getElem?_append_left hlt] at h
      exact ⟨by omega, by rw [Nat.div_eq_of_lt hlt]; omega, by rw [Nat.mod_eq_of_lt hlt]; exact h⟩
    · rw [List.getElem?_append_right (by omega)] at h
      obtain ⟨h1, h2, h3⟩ := ih h
      refine ⟨h1, ?_, ?_⟩
      · rw [Nat.div_eq_sub_div h1 (by omega)]; omega
      · rw [Nat.mod_eq_sub_mod (by omega)]; exact h3
theorem trod_flat {w : World} : ∀ (n : Nat) (t : TypeId) (ks : List FK), flat P n t = some ks → ∀ (fuel : Nat) (cs : List Value) (x : DataW H × List MemPlace), DataW.trod enc P w 0 (fun _ => true) true fuel t cs = some x →
    cs.length = ks.length ∧ ∀ (i : Nat) (k : FK), ks[i]? = some k → ∃ v, cs[i]? = some v ∧ CellR enc P w k v
  | 0, t, ks, h, _, _, _, _ => by simp [flat] at h
  | n + 1, t, ks, h, 0, cs, x, hx => by simp [DataW.trod] at hx
  | n + 1, t, ks, h, fuel + 1, cs, x, hx => by
    simp only [flat] at h
    split at h
    · rename_i hu
      injection h with h; subst h
      simp only [DataW.trod, hu] at hx
      split at hx <;> simp_all
      exact fun i k hi => by
        cases i with
        | zero => simp at hi; subst hi; exact ⟨_, rfl, _, rfl⟩
        | succ i => simp at hi
    · rename_i k0 hu
      injection h with h; subst h
      simp only [DataW.trod, hu] at hx
      split at hx <;> simp_all
      exact fun i k hi => by
        cases i with
        | zero => simp at hi; subst hi; exact ⟨_, rfl, _, rfl, hx.1.2⟩
        | succ i => simp at hi
    · rename_i hu
      injection h with h; subst h
      simp only [DataW.trod, hu] at hx
      split at hx <;> simp_all
      exact fun i k hi => by
        cases i with
        | zero => simp at hi; subst hi; exact ⟨_, rfl, _, rfl, hx.1⟩
        | succ i => simp at hi
    · rename_i e hu
      injection h with h; subst h
      simp only [DataW.trod, hu] at hx
      split at hx
      case h_7 =>
        exact ⟨rfl, fun i k hi => by
          cases i with
          | zero => simp at hi; subst hi; exact ⟨_, rfl, .inl rfl⟩
          | succ i => simp at hi⟩
      case h_8 =>
        rename_i e' a len cap h0
        injection h0 with h0; injection h0 with h0; subst h0
        split at hx
        case isFalse => simp at hx
        rename_i hc
        rw [Option.bind_eq_some_iff] at hx
        obtain ⟨elems, he, _⟩ := hx
        refine ⟨rfl, fun i k hi => ?_⟩
        cases i with
        | succ i => simp at hi
        | zero =>
          simp at hi; subst hi
          refine ⟨_, rfl, .inr ⟨a, len, cap, rfl, hc.2.1, hc.2.2, fun j hj => ?_⟩⟩
          obtain ⟨y, hy⟩ := mapM_mem he j (List.mem_range.2 hj)
          rw [Option.bind_eq_some_iff] at hy
          obtain ⟨row, h1, h2⟩ := hy
          exact ⟨row, h1, fuel, y, h2⟩
      all_goals simp_all
    · rename_i fs hu
      split at h
      case h_2 => simp at h
      rename_i l hl
      split at h
      case h_2 => simp at h
      rename_i hc
      have ec := Nat.eq_of_beq_eq_true hc
      injection h with h; subst h
      simp only [DataW.trod, hu] at hx
      have hx' : (if cs.length = P.cellsOf t then (fs.toList.mapM fun f => DataW.trod enc P w 0 (fun _ => true) true fuel f.type ((cs.drop f.offset).take (P.cellsOf f.type))).map fun xs => (DataW.agg (xs.map (·.1)), xs.flatMap (·.2)) else none) = some x := by
        split at hx <;> simp_all
      clear hx
      split at hx'
      case isFalse => simp at hx'
      rename_i hlen
      rw [Option.map_eq_some_iff] at hx'
      obtain ⟨xs, hxs, _⟩ := hx'
      refine ⟨by rw [hlen, ec], fun i k hi => ?_⟩
      have := flatF_get (cs := cs) (fun t l h => trod_flat n t l h) hl (by omega) (fun f hf => by obtain ⟨y, hy⟩ := mapM_mem hxs f hf; exact ⟨fuel, y, hy⟩) i k hi
      simpa using this
    · rename_i m e hu
      split at h
      case h_2 => simp at h
      rename_i l hl
      split at h
      case h_2 => simp at h
      rename_i hc
      simp only [Bool.and_eq_true] at hc
      have e1 := Nat.eq_of_beq_eq_true hc.1
      have e2 := Nat.eq_of_beq_eq_true hc.2
      injection h with h; subst h
      simp only [DataW.trod, hu] at hx
      have hx' : (if cs.length = P.cellsOf t then ((List.range m).mapM fun i => DataW.trod enc P w 0 (fun _ => true) true fuel e ((cs.drop (i * P.cellsOf e)).take (P.cellsOf e))).map fun xs => (DataW.agg (xs.map (·.1)), xs.flatMap (·.2)) else none) = some x := by
        split at hx <;> simp_all
      clear hx
      split at hx'
      case isFalse => simp at hx'
      rename_i hlen
      rw [Option.map_eq_some_iff] at hx'
      obtain ⟨xs, hxs, _⟩ := hx'
      refine ⟨by rw [hlen, e2]; simp, fun i k hi => ?_⟩
      obtain ⟨h1, h2, h3⟩ := flatten_get hi
      obtain ⟨y, hy⟩ := mapM_mem hxs (i / l.length) (List.mem_range.2 h2)
      obtain ⟨v, hv, hcr⟩ := (trod_flat n e l hl fuel _ _ hy).2 _ k h3
      rw [List.getElem?_take] at hv
      split at hv
      · rw [List.getElem?_drop, e1] at hv
        refine ⟨v, ?_, hcr⟩
        rw [← hv]; congr 1
        have := Nat.div_add_mod i l.length
        rw [Nat.mul_comm]; exact this.symm
      · simp at hv
    · simp at h
def RdV {α : Type} (w : World) (D : Dec α) (v : Value) : Prop := ∃ a, VR w noA noR (D.enc a) v
def RdL {α : Type} (w : World) (E : DecL α) (cs : List Value) : Prop := ∃ a, VRs w noA noR (E.enc a) cs.toArray
def tagK : FK → CK
  | .int k => .int k
  | .bool => .bool
  | .str => .str
  | .sl _ => .any
def flatK : FK → Bool
  | .sl _ => false
  | _ => true
section
variable {w : World} {α β : Type}
theorem rd_int {k : IntKind} {v : Value} (h : CellR enc P w (.int k) v) : RdV w (dI k) v := by
  obtain ⟨n, rfl, _⟩ := h; exact ⟨n, .int⟩
theorem rd_scal {k : FK} (hk : flatK k = true) {v : Value} (h : CellR enc P w k v) : ∃ x, ofScal v = some x ∧ conf (tagK k) x = x := by
  cases k with
  | int k => obtain ⟨n, rfl, _⟩ := h; exact ⟨_, rfl, rfl⟩
  | bool => obtain ⟨n, rfl⟩ := h; exact ⟨_, rfl, rfl⟩
  | str => obtain ⟨n, rfl, _⟩ := h; exact ⟨_, rfl, rfl⟩
  | sl e => simp [flatK] at hk
theorem ckAt_map : ∀ {ks : List FK} {i : Nat} {k : FK}, ks[i]? = some k → ckAt (ks.map tagK) i = tagK k
  | [], i, k, h => by simp at h
  | a :: ks, 0, k, h => by simp at h; subst h; rfl
  | a :: ks, i + 1, k, h => by simp only [List.map_cons, ckAt]; exact ckAt_map (by simpa using h)
theorem mapM_range {f : Nat → Option Value} {n : Nat} {row : List Value} (h : (List.range n).mapM f = some row) (i : Nat) (hi : i < n) : f i = row[i]? := by
  have key : ∀ (l : List Nat) (row : List Value), l.mapM f = some row → ∀ (i x : Nat), l[i]? = some x → f x = row[i]? := by
    intro l
    induction l with
    | nil => intro row _ i x hx; simp at hx
    | cons a l ih =>
      intro row h i x hx
      rw [List.mapM_cons] at h
      cases ha : f a with
      | none => simp [ha] at h
      | some b =>
        cases hl : l.mapM f with
        | none => simp [ha, hl] at h
        | some bs =>
          simp [ha, hl] at h
          subst h
          cases i with
          | zero => simp at hx; subst hx; simpa using ha
          | succ i => simpa using ih bs hl i x (by simpa using hx)
  exact key _ _ h i i (by simp [hi])
theorem cells_at {a : Addr} {n : Nat} {row : List Value} (h : w.cells? 0 a n = some row) : row.length = n ∧ ∀ i, i < n → w.cell? (a.add i) = row[i]? := by
  unfold World.cells? at h
  rw [if_pos (Nat.zero_le _)] at h
  refine ⟨?_, fun i hi => mapM_range h i hi⟩
  have : ∀ (l : List Nat) (row : List Value), (l.mapM fun i => w.cell? (a.add i)) = some row → row.length = l.length := by
    intro l
    induction l with
    | nil => intro row h; simp at h; subst h; rfl
    | cons x l ih =>
      intro row h
      rw [List.mapM_cons] at h
      cases hx : w.cell? (a.add x) with
      | none => simp [hx] at h
      | some b =>
        cases hl : l.mapM (fun i => w.cell? (a.add i)) with
        | none => simp [hx, hl] at h
        | some bs => simp [hx, hl] at h; subst h; simp [ih bs hl]
  simpa using this _ _ h
theorem cell_spot {a : Addr} {v : Value} (h : w.cell? a = some v) : a.spot = none ∧ a.block < w.heap.size := by
  unfold World.cell? at h
  split at h
  · rename_i c _ _ hb
    split at h
    · simp at h
    · rename_i hs; exact ⟨by simpa using hs, (Array.getElem?_eq_some_iff.1 hb).1⟩
  · simp at h
theorem rd_sl {e : TypeId} {n : Nat} {ks : List FK} (hf : flat P n e = some ks) (hwd : P.cellsOf e = ks.length) (hpos : 0 < ks.length) (hk : ks.all flatK = true) {v : Value} (h : CellR enc P w (.sl e) v) : RdV w (dX ks.length (ks.map tagK)) v := by
  rcases h with rfl | ⟨a, len, cap, rfl, h1, h2, h3⟩
  · exact ⟨⟨0, 0, 0, none, fun _ _ => .top⟩, (dX ks.length (ks.map tagK)).ok .nilsl _ rfl _ _ _ _ .nilsl⟩
  · rcases a with ⟨b, off, spot⟩
    rw [hwd] at h3
    have hspot0 : 0 < len → spot = none := fun h0 => by
      obtain ⟨row, hr, fuel, x, hx⟩ := h3 0 h0
      obtain ⟨hl, hat⟩ := cells_at hr
      have h0' := hat 0 hpos
      rw [List.getElem?_eq_getElem (by omega)] at h0'
      have := (cell_spot h0').1
      simpa [Addr.add] using this
    have hcell : ∀ i k, i < len → k < ks.length → ∃ v kk, ks[k]? = some kk ∧ w.cell? ⟨b, off + (i * ks.length + k), spot⟩ = some v ∧ CellR enc P w kk v ∧ spot = none ∧ b < w.heap.size := by
      intro i k hi hkk
      obtain ⟨row, hr, fuel, x, hx⟩ := h3 i hi
      obtain ⟨hl, hat⟩ := cells_at hr
      obtain ⟨v, hv, hc⟩ := (trod_flat n e ks hf fuel row x hx).2 k _ (List.getElem?_eq_getElem hkk)
      have := hat k hkk
      rw [hv] at this
      obtain ⟨hs, hb⟩ := cell_spot this
      have hspot : spot = none := hspot0 (by omega)
      subst hspot
      rw [addr_add, addr_add] at this hb
      exact ⟨v, _, List.getElem?_eq_getElem hkk, by rw [← Nat.add_assoc]; exact this, hc, rfl, hb⟩
    let u : Nat → Nat → Value := fun i k => (w.cell? ⟨b, off + (i * ks.length + k), none⟩).getD undef
    refine ⟨⟨len, 0, len, none, fun i k => (ofScal (u i k)).getD .top⟩, .xsl b off u ⟨h1, ?_⟩ (fun x hx => by cases hx) (by simp) (fun h0 => ?_) (fun h0 i k hi hkk => ?_) (fun h0 i k hi hkk => ?_)⟩
    · have : cap ≤ 2 ^ 63 - 1 := h2
      show len ≤ 9223372036854775807
      omega
    · obtain ⟨v, kk, _, _, _, hs, hb⟩ := hcell 0 0 h0 hpos
      subst hs
      exact ⟨by simp, hb, fun h => h⟩
    · obtain ⟨v, kk, _, hv, _, hs, _⟩ := hcell i k hi hkk
      subst hs
      simp only [u, hv, Option.getD_some]
    · obtain ⟨v, kk, hkk', hv, hc, hs, _⟩ := hcell i k hi hkk
      subst hs
      have hu : u i k = v := by simp only [u, hv, Option.getD_some]
      obtain ⟨x, hx, hcf⟩ := rd_scal (List.all_eq_true.1 hk kk (List.mem_of_getElem? hkk')) hc
      have e : (⟨ks.map tagK, fun i k => (ofScal (u i k)).getD .top⟩ : Get AV).cell i k = x := by
        simp only [Get.cell, hu, hx, Option.getD_some, ckAt_map hkk', hcf]
      rw [e, hu]
      exact ofScal_rel hx
theorem rdL_cons {D : Dec α} {E : DecL β} {v : Value} {cs : List Value} (h : RdV w D v) (k : RdL w E cs) : RdL w (.cons D E) (v :: cs) := by
  obtain ⟨a, ha⟩ := h; obtain ⟨b, hb⟩ := k
  refine ⟨(a, b), ?_⟩
  have := VRs.cons' ha hb
  show VRs w noA noR (D.enc a :: E.enc b) (v :: cs).toArray
  simpa using this
theorem rdL_last {D : Dec α} {v : Value} (h : RdV w D v) : RdL w (.last D 0) [v] := by
  obtain ⟨a, ha⟩ := h
  exact ⟨a, VRs.one ha⟩
theorem okWide_cell {r : Reach} {b : Nat} {t : TypeId} {v : Value} (hu : aggB P t = some false) (h : Value.okWide P w r b t v) : v.cells = #[v] := by
  unfold Value.okWide at h
  unfold aggB at hu
  split at h
  · simp_all
  · simp_all
  · cases v with
    | agg cs =>
      unfold Cell.okWide at h
      split at h <;> try simp_all
      unfold Cell.ok at h
      split at h <;> simp_all
    | _ => rfl
theorem param_cell {n : Nat} {t : TypeId} {k : FK} {r : Reach} {b : Nat} {v : Value} {d : DataW H} {p : List MemPlace} (hf : flat P n t = some [k]) (hu : aggB P t = some false) (hok : Value.okWide P w r b t v) (h : DataW.Trod enc P w 0 (fun _ => true) true t v d p) : CellR enc P w k v := by
  obtain ⟨fuel, hx⟩ := h
  rw [okWide_cell hu hok] at hx
  obtain ⟨v', hv, hc⟩ := (trod_flat n t [k] hf fuel _ _ hx).2 0 k rfl
  simp at hv; subst hv; exact hc
end
theorem law_contract {f : FuncId} {fn : Func} {s : ChangeSpec} {apart fresh handsOn again : Bool} {α : Type} (D : DecL α) (hl : laidOutB P = true) (hts : (fn.params.toList.all fun t => P.readableRec t && decide (t < P.types.size)) = true)
    (hvars : s.vars = []) (hfn : ∀ (ds : List (DataW H)), ds.length = fn.params.toList.length → s.fn H (ds ++ []) = { results := [.lit (.bool true)], args := ds })
    (hres : ∀ (W' : World) (b : Nat) (sp : Nat → Bool) (hd : Bool), DataW.TrodAll enc P W' b sp hd fn.resultTypes.toList ((Value.bool true).resultList fn.resultTypes.size) [.lit (.bool true)] [])
    (hok : ∀ (W' : World) (j : Nat) (t : TypeId) (r : Value), fn.resultTypes[j]? = some t → ((Value.bool true).resultList fn.resultTypes.size)[j]? = some r → Value.okWide P W' .any 0 t r)
    (hread : ∀ (W : World) (base : Nat) (args : Array Value) (ds : List (DataW H)) (p : List MemPlace), (∀ (j : Nat) t v, fn.params[j]? = some t → args[j]? = some v → Value.okWide P W .any base t v) →
      DataW.TrodAll enc P W 0 (fun _ => true) true fn.params.toList args.toList ds p → RdL W D args.toList)
    (hpc : ∀ a, PC P f (D.enc a) (.bool true))
    (W : World) (base : Nat) (args : Array Value) (ds gs : List (DataW H)) (before : List MemPlace) (hval : ∀ (j : Nat) t v, fn.params[j]? = some t → args[j]? = some v → Value.okWide P W .any base t v)
    (hW : DataW.Whole enc P fn.params.toList s.vars apart W args.toList ds gs before) :
    Calls P f args W fun e W' => ∃ v, e = .returned v ∧ s.post enc P fn apart fresh handsOn again W args v W' := by
  have hW' := hW
  obtain ⟨p, q, hA, hV, hbef, hfz, hnd⟩ := hW
  have hV' := hV
  rw [hvars] at hV'
  obtain ⟨rfl, rfl⟩ := trodVars_none hV'
  obtain ⟨a, ha⟩ := hread W base args ds p hval hA
  have h := callsIn_wide.1 (hpc a none 0 noA W args (fun b hb => hb.elim) (by simpa using ha))
  have hlen : ds.length = fn.params.toList.length := by
    have : ∀ (ts : List TypeId) (vs : List Value) (ds : List (DataW H)) (p : List MemPlace), DataW.TrodAll enc P W 0 (fun _ => true) true ts vs ds p → ds.length = ts.length := by
      intro ts
      induction ts with
      | nil => intro vs ds p h; obtain ⟨_, rfl, _⟩ := trodAll_nil h; rfl
      | cons t ts ih =>
        intro vs ds p h
        obtain ⟨_, _, _, _, _, _, _, rfl, _, _, h2⟩ := trodAll_cons h
        simp [ih _ _ _ h2]
    exact this _ _ _ _ hA
  refine h.mono fun e W' hx => ?_
  obtain ⟨v, he, hv, hb0⟩ := hx
  have hb := hb0.toBelow
  obtain rfl : v = .bool true := by cases hv; rfl
  have hpl : before = p := by rw [hbef]; simp
  subst hpl
  refine ⟨_, he, post_of_below (pa := before) (pv := []) hW' (fun b sp hd => ?_) (fun sp hsp => ?_) (fun sp _ => ?_) (by simp) hb (hok W')⟩
  · rw [hfn ds hlen]; exact hres W' b sp hd
  · rw [hfn ds hlen]
    refine trodAll_stays hl hb (fun t ht => ?_) hA (fun x hx => hA.lt x hx) hsp
    have := List.all_eq_true.1 hts t ht
    simpa using this
  · rw [hfn ds hlen, hvars]; rfl
end
end Go.Proofs.YtelpdkojdfnmiaaGreat.Ev
/-! LR0 -/
namespace Go.Proofs.YtelpdkojdfnmiaaGreat
open Ev K
set_option maxRecDepth 100000
section
variable {H : Type} {enc : TypeId × Value → H} {w : World}
theorem fl_item : flat P 8 73 = some (List.replicate 7 (.int .i64)) := by kernel_rfl
theorem fl_int : flat P 8 3 = some [.int .i64] := by kernel_rfl
theorem fl_items : flat P 8 29 = some [.sl 73] := by kernel_rfl
theorem ag_int : aggB P 3 = some false := by kernel_rfl
theorem ag_items : aggB P 29 = some false := by kernel_rfl
theorem rx_items {v : Value} (h : CellR enc P w (.sl 73) v) : RdV w (dRows rItem) v := by
  obtain ⟨a, ha⟩ := rd_sl fl_item (by kernel_rfl) (by decide) (by decide) h
  exact ⟨decF rItem a.len fun i => a.f (a.row + i), (dRows rItem).ok _ _ rfl _ _ _ _ ha⟩
variable {r : Reach} {b : Nat} {v : Value} {d : DataW H} {p : List MemPlace}
theorem rp_items (hok : Value.okWide P w r b 29 v) (h : DataW.Trod enc P w 0 (fun _ => true) true 29 v d p) : RdV w (dRows rItem) v := rx_items (param_cell fl_items ag_items hok h)
theorem rp_int (hok : Value.okWide P w r b 3 v) (h : DataW.Trod enc P w 0 (fun _ => true) true 3 v d p) : RdV w (dI .i64) v := rd_int (param_cell fl_int ag_int hok h)
end
end Go.Proofs.YtelpdkojdfnmiaaGreat
/-! LB6 -/
namespace Go.Proofs.YtelpdkojdfnmiaaGreat
open Ev K
set_option maxRecDepth 100000
def S_of := DecS.mk0 (.cons (dRows rItem) (.cons (dInt) (.cons (dInt) (.skips 4 (.last (dInt) 36))))) .nil
def X_of := DecX.or (DecX.one (.exit 0) [] (DecS.mk0 (.tops 44) .nil)) (DecX.one .ret [6] (DecS.mk0 (.skips 6 (.last (dB) 37)) .nil))
noncomputable def K.st_of := loopT1 P BLQ02 30 36 17 [7, 0, 2, 1] S_of X_of
theorem sl_of : ∀ s, (K.st_of) s = T.run (
  .br (decide (s.1.2.2.2 < (↑(clampL (List.length s.1.1)) : Int))) (
    .chk (decide ((0 : Int) ≤ s.1.2.2.2 ∧ s.1.2.2.2 < (↑(List.length s.1.1) : Int))) <|
    .br (numOf (encF rItem s.1.1 ((0 : Nat) + Int.toNat s.1.2.2.2) (nat_lit 0)) == s.1.2.1) (
      .chk (decide ((0 : Int) ≤ s.1.2.2.2 ∧ s.1.2.2.2 < (↑(List.length s.1.1) : Int))) <|
      .br (numOf (encF rItem s.1.1 ((0 : Nat) + Int.toNat s.1.2.2.2) (nat_lit 4)) == s.1.2.2.1) (
        .chk (decide ((0 : Int) ≤ s.1.2.2.2 ∧ s.1.2.2.2 < (↑(List.length s.1.1) : Int))) <|
        .br (numOf (encF rItem s.1.1 ((0 : Nat) + Int.toNat s.1.2.2.2) (nat_lit 2)) == (1 : Int)) (
          .ret (Sum.inr (Sum.inr (true, PUnit.unit)))) (
          .chk (decide ((0 : Int) ≤ s.1.2.2.2 ∧ s.1.2.2.2 < (↑(List.length s.1.1) : Int))) <|
          .ret (Sum.inr (Sum.inr (numOf (encF rItem s.1.1 ((0 : Nat) + Int.toNat s.1.2.2.2) (nat_lit 2)) == (2 : Int), PUnit.unit))))) (
        .ret (Sum.inr (Sum.inr (false, PUnit.unit))))) (
      .ret (Sum.inl ((decF rItem (List.length s.1.1) fun i => encF rItem s.1.1 ((0 : Nat) + i), s.1.2.1, s.1.2.2.1, IntKind.wrap IntKind.i64 (s.1.2.2.2 + (1 : Int))), PUnit.unit)))) (
    .ret (Sum.inr (Sum.inl (PUnit.unit, PUnit.unit))))) := fun s => by kernel_rfl
noncomputable def K.L_of := lim K.st_of
noncomputable def BLB61 : Tab := BLQ02.addNode 36 17 (nodeE [7, 0, 2, 1] S_of X_of (fun s => .obs (K.L_of s) .ret))
theorem tLB61 : TabOk P BLB61 := TabOk.addLoop (d := 30) okP tLQ02 (by kernel_rfl) (by kernel_rfl) (fun s r h => obs_ret h)
theorem fn_of : ∀ a, (callT1 P BLB61 30 36 D_l3 dB) a = T.run (
  .obs (L_of ((decF rItem (List.length a.1) fun i => encF rItem a.1 ((0 : Nat) + i), a.2.1, a.2.2, (0 : Int)), PUnit.unit)) fun x0 =>
    .sum (x0) (fun _ =>
      .ret (false)) (fun x1 =>
      .ret x1.1)) := fun a => by kernel_rfl
namespace K
def ofV (l : List Itm) (id bill : Int) : Bool := match l.find? fun x => x.id == id with
  | some x => x.bill == bill && (x.kind == 1 || x.kind == 2)
  | none => false
theorem L_of_eq (l : List Itm) (id bill : Int) (hl : l.length ≤ 1000) : ∀ (d i : Nat), i + d = l.length →
    L_of ((l, id, bill, (i : Int)), ()) = some (match (l.drop i).find? fun x => x.id == id with
      | some x => .inr (x.bill == bill && (x.kind == 1 || x.kind == 2), ())
      | none => .inl ((), ())) := by
  intro d
  induction d with
  | zero =>
    intro i h
    refine lim_done ?_
    rw [sl_of]
    simp only [clampL_eq (show l.length ≤ maxL by unfold maxL; omega)]
    refine br_f (decide_eq_false (by omega)) ?_
    rw [List.drop_of_length_le (by omega)]; rfl
  | succ d ih =>
    intro i h
    have hi : i < l.length := by omega
    have hx := List.getElem?_eq_getElem hi
    have hdrop := List.drop_eq_getElem_cons hi
    generalize l[i] = x at hx hdrop
    have w : IntKind.i64.wrap ((i : Int) + 1) = ((i + 1 : Nat) : Int) := by rw [w64_in (by omega) (by omega)]; rfl
    rw [hdrop]
    by_cases hid : x.id = id
    · rw [List.find?_cons_of_pos (by simpa using hid)]
      refine lim_done ?_
      rw [sl_of]
      simp only [clampL_eq (show l.length ≤ maxL by unfold maxL; omega), Int.toNat_natCast, Nat.zero_add, item_at hx, wr0, wr2, wr4, decF_encF, w]
      refine br_t (decide_eq_true (by omega)) (chk_step (decide_eq_true (by omega)) (br_t (beq_iff_eq.2 hid) (chk_step (decide_eq_true (by omega)) ?_)))
      by_cases hb : x.bill = bill
      · refine br_t (beq_iff_eq.2 hb) (chk_step (decide_eq_true (by omega)) ?_)
        by_cases hk : x.kind = 1
        · exact br_t (beq_iff_eq.2 hk) (by simp [T.run, hb, hk])
        · exact br_f (by rw [beq_eq_false_iff_ne]; exact hk) (chk_step (decide_eq_true (by omega)) (by simp [T.run, hb, hk]))
      · exact br_f (by rw [beq_eq_false_iff_ne]; exact hb) (by simp [T.run, hb])
    · rw [List.find?_cons_of_neg (by simpa using hid)]
      refine (lim_step ?_).trans (ih (i + 1) (by omega))
      rw [sl_of]
      simp only [clampL_eq (show l.length ≤ maxL by unfold maxL; omega), Int.toNat_natCast, Nat.zero_add, item_at hx, wr0, wr2, wr4, decF_encF, w]
      exact br_t (decide_eq_true (by omega)) (chk_step (decide_eq_true (by omega)) (br_f (by rw [beq_eq_false_iff_ne]; exact hid) rfl))
theorem of_pc (a : List Itm × Int × Int) (r : Bool) (h : (T.chk (decide (a.1.length ≤ 1000)) (.ret (ofV a.1 a.2.1 a.2.2))).run = some r) : PC P 36 (D_l3.enc a) (dB.enc r) := by
  obtain ⟨g, e⟩ := chk_ret h
  subst e
  have g := of_decide_eq_true g
  refine call_of okP tLB61 ((fn_of a).trans ?_)
  simp only [Nat.zero_add, decF_encF]
  have key := L_of_eq a.1 a.2.1 a.2.2 g a.1.length 0 (by omega)
  rw [List.drop_zero] at key
  refine obs_step key ?_
  unfold ofV
  cases a.1.find? fun x => x.id == a.2.1 <;> rfl
end K
noncomputable def BLB62 : Tab := BLB61.addCall 36 (callE D_l3 dB (fun a => .chk (decide (a.1.length ≤ 1000)) (.ret (K.ofV a.1 a.2.1 a.2.2))))
theorem tLB62 : TabOk P BLB62 := TabOk.addPC tLB61 (K.of_pc)
def S_fn := DecS.mk0 (.cons (dRows rItem) (.skip (.cons (dInt) (.skips 12 (.cons (dInt) (.skip (.cons (dRows rPost) (.cons (dInt) (.cons (dInt) (.last (dInt) 108)))))))))) .nil
def X_fn := DecX.one (.exit 0) [15, 18, 19] (DecS.mk0 (.skips 15 (.cons (dInt) (.skips 2 (.cons (dInt) (.last (dInt) 109))))) .nil)
noncomputable def K.st_fn := loopT1 P BLB62 30 10 137 [20, 17, 19, 2, 0, 15, 18] S_fn X_fn
theorem sl_fn : ∀ s, (K.st_fn) s = T.run (
  .br (decide (s.1.2.2.2.2.2.2 < (↑(clampL (List.length s.1.2.2.2.1)) : Int))) (
    .chk (decide ((0 : Int) ≤ s.1.2.2.2.2.2.2 ∧ s.1.2.2.2.2.2.2 < (↑(List.length s.1.2.2.2.1) : Int))) <|
    .br (decide (numOf (encF rPost s.1.2.2.2.1 ((0 : Nat) + Int.toNat s.1.2.2.2.2.2.2) (nat_lit 2)) ≥ (10 : Int))) (
      .chk (decide ((0 : Int) ≤ s.1.2.2.2.2.2.2 ∧ s.1.2.2.2.2.2.2 < (↑(List.length s.1.2.2.2.1) : Int))) <|
      .chk (decide (List.length (decF rItem (List.length s.1.1) fun i => encF rItem s.1.1 ((0 : Nat) + i)) ≤ (1000 : Nat))) <|
      .br (K.ofV (decF rItem (List.length s.1.1) fun i => encF rItem s.1.1 ((0 : Nat) + i)) (numOf (encF rPost s.1.2.2.2.1 ((0 : Nat) + Int.toNat s.1.2.2.2.2.2.2) (nat_lit 0))) s.1.2.1) (
        .chk (decide ((0 : Int) ≤ s.1.2.2.2.2.2.2 ∧ s.1.2.2.2.2.2.2 < (↑(List.length s.1.2.2.2.1) : Int))) <|
        .ret (Sum.inl ((decF rItem (List.length s.1.1) fun i => encF rItem s.1.1 ((0 : Nat) + i), s.1.2.1, s.1.2.2.1, decF rPost (List.length s.1.2.2.2.1) fun i => encF rPost s.1.2.2.2.1 ((0 : Nat) + i), s.1.2.2.2.2.1, IntKind.wrap IntKind.i64 (s.1.2.2.2.2.2.1 + numOf (encF rPost s.1.2.2.2.1 ((0 : Nat) + Int.toNat s.1.2.2.2.2.2.2) (nat_lit 3))), IntKind.wrap IntKind.i64 (s.1.2.2.2.2.2.2 + (1 : Int))), PUnit.unit))) (
        .ret (Sum.inl ((decF rItem (List.length s.1.1) fun i => encF rItem s.1.1 ((0 : Nat) + i), s.1.2.1, s.1.2.2.1, decF rPost (List.length s.1.2.2.2.1) fun i => encF rPost s.1.2.2.2.1 ((0 : Nat) + i), s.1.2.2.2.2.1, s.1.2.2.2.2.2.1, IntKind.wrap IntKind.i64 (s.1.2.2.2.2.2.2 + (1 : Int))), PUnit.unit)))) (
      .ret (Sum.inl ((decF rItem (List.length s.1.1) fun i => encF rItem s.1.1 ((0 : Nat) + i), s.1.2.1, s.1.2.2.1, decF rPost (List.length s.1.2.2.2.1) fun i => encF rPost s.1.2.2.2.1 ((0 : Nat) + i), s.1.2.2.2.2.1, s.1.2.2.2.2.2.1, IntKind.wrap IntKind.i64 (s.1.2.2.2.2.2.2 + (1 : Int))), PUnit.unit)))) (
    .ret (Sum.inr ((s.1.2.2.1, s.1.2.2.2.2.1, s.1.2.2.2.2.2.1), PUnit.unit)))) := fun s => by kernel_rfl
noncomputable def K.L_fn := lim K.st_fn
noncomputable def BLB63 : Tab := BLB62.addNode 10 137 (nodeE [20, 17, 19, 2, 0, 15, 18] S_fn X_fn (fun s => .obs (K.L_fn s) .ret))
theorem tLB63 : TabOk P BLB63 := TabOk.addLoop (d := 30) okP tLB62 (by kernel_rfl) (by kernel_rfl) (fun s r h => obs_ret h)
theorem fn_lwFn : ∀ a, (callT1 P BLB63 30 10 D_l3 dB) a = T.run (
  .br (!l_few (decF rItem (List.length a.1) fun i => encF rItem a.1 ((0 : Nat) + i))) (
    .ret (true)) (
    .br (Prod.snd (finalV (decF rItem (List.length a.1) fun i => encF rItem a.1 ((0 : Nat) + i)) a.2.1) != (0 : Int)) (
      .ret (true)) (
      .br (Prod.snd (finalV (decF rItem (List.length (Prod.fst (finalV (decF rItem (List.length a.1) fun i => encF rItem a.1 ((0 : Nat) + i)) a.2.1))) fun i => encF rItem (Prod.fst (finalV (decF rItem (List.length a.1) fun i => encF rItem a.1 ((0 : Nat) + i)) a.2.1)) ((0 : Nat) + i)) a.2.1) != (0 : Int)) (
        .ret (false)) (
        .br (Prod.snd (balancesV (decF rItem (List.length a.1) fun i => encF rItem a.1 ((0 : Nat) + i)) (728 : Int) a.2.1) != (0 : Int)) (
          .ret (false)) (
          .br (Prod.snd (balancesV (decF rItem (List.length (Prod.fst (finalV (decF rItem (List.length a.1) fun i => encF rItem a.1 ((0 : Nat) + i)) a.2.1))) fun i => encF rItem (Prod.fst (finalV (decF rItem (List.length a.1) fun i => encF rItem a.1 ((0 : Nat) + i)) a.2.1)) ((0 : Nat) + i)) (728 : Int) a.2.1) != (0 : Int)) (
            .ret (false)) (
            .chk (decide (List.length (decF rItem (List.length (Prod.fst (finalV (decF rItem (List.length a.1) fun i => encF rItem a.1 ((0 : Nat) + i)) a.2.1))) fun i => encF rItem (Prod.fst (finalV (decF rItem (List.length a.1) fun i => encF rItem a.1 ((0 : Nat) + i)) a.2.1)) ((0 : Nat) + i)) ≤ (1000000 : Nat) ∧ List.length (decF rItem (List.length (Prod.fst (finalV (decF rItem (List.length (Prod.fst (finalV (decF rItem (List.length a.1) fun i => encF rItem a.1 ((0 : Nat) + i)) a.2.1))) fun i => encF rItem (Prod.fst (finalV (decF rItem (List.length a.1) fun i => encF rItem a.1 ((0 : Nat) + i)) a.2.1)) ((0 : Nat) + i)) a.2.1))) fun i => encF rItem (Prod.fst (finalV (decF rItem (List.length (Prod.fst (finalV (decF rItem (List.length a.1) fun i => encF rItem a.1 ((0 : Nat) + i)) a.2.1))) fun i => encF rItem (Prod.fst (finalV (decF rItem (List.length a.1) fun i => encF rItem a.1 ((0 : Nat) + i)) a.2.1)) ((0 : Nat) + i)) a.2.1)) ((0 : Nat) + i)) ≤ (1000000 : Nat))) <|
            .br (!decide ((decF rItem (List.length (Prod.fst (finalV (decF rItem (List.length a.1) fun i => encF rItem a.1 ((0 : Nat) + i)) a.2.1))) fun i => encF rItem (Prod.fst (finalV (decF rItem (List.length a.1) fun i => encF rItem a.1 ((0 : Nat) + i)) a.2.1)) ((0 : Nat) + i)) = decF rItem (List.length (Prod.fst (finalV (decF rItem (List.length (Prod.fst (finalV (decF rItem (List.length a.1) fun i => encF rItem a.1 ((0 : Nat) + i)) a.2.1))) fun i => encF rItem (Prod.fst (finalV (decF rItem (List.length a.1) fun i => encF rItem a.1 ((0 : Nat) + i)) a.2.1)) ((0 : Nat) + i)) a.2.1))) fun i => encF rItem (Prod.fst (finalV (decF rItem (List.length (Prod.fst (finalV (decF rItem (List.length a.1) fun i => encF rItem a.1 ((0 : Nat) + i)) a.2.1))) fun i => encF rItem (Prod.fst (finalV (decF rItem (List.length a.1) fun i => encF rItem a.1 ((0 : Nat) + i)) a.2.1)) ((0 : Nat) + i)) a.2.1)) ((0 : Nat) + i))) (
              .ret (false)) (
              .chk (decide (List.length (decF rBal (List.length (Prod.fst (balancesV (decF rItem (List.length a.1) fun i => encF rItem a.1 ((0 : Nat) + i)) (728 : Int) a.2.1))) fun i => encF rBal (Prod.fst (balancesV (decF rItem (List.length a.1) fun i => encF rItem a.1 ((0 : Nat) + i)) (728 : Int) a.2.1)) ((0 : Nat) + i)) ≤ (1000000 : Nat) ∧ List.length (decF rBal (List.length (Prod.fst (balancesV (decF rItem (List.length (Prod.fst (finalV (decF rItem (List.length a.1) fun i => encF rItem a.1 ((0 : Nat) + i)) a.2.1))) fun i => encF rItem (Prod.fst (finalV (decF rItem (List.length a.1) fun i => encF rItem a.1 ((0 : Nat) + i)) a.2.1)) ((0 : Nat) + i)) (728 : Int) a.2.1))) fun i => encF rBal (Prod.fst (balancesV (decF rItem (List.length (Prod.fst (finalV (decF rItem (List.length a.1) fun i => encF rItem a.1 ((0 : Nat) + i)) a.2.1))) fun i => encF rItem (Prod.fst (finalV (decF rItem (List.length a.1) fun i => encF rItem a.1 ((0 : Nat) + i)) a.2.1)) ((0 : Nat) + i)) (728 : Int) a.2.1)) ((0 : Nat) + i)) ≤ (1000000 : Nat))) <|
              .br (!decide ((decF rBal (List.length (Prod.fst (balancesV (decF rItem (List.length a.1) fun i => encF rItem a.1 ((0 : Nat) + i)) (728 : Int) a.2.1))) fun i => encF rBal (Prod.fst (balancesV (decF rItem (List.length a.1) fun i => encF rItem a.1 ((0 : Nat) + i)) (728 : Int) a.2.1)) ((0 : Nat) + i)) = decF rBal (List.length (Prod.fst (balancesV (decF rItem (List.length (Prod.fst (finalV (decF rItem (List.length a.1) fun i => encF rItem a.1 ((0 : Nat) + i)) a.2.1))) fun i => encF rItem (Prod.fst (finalV (decF rItem (List.length a.1) fun i => encF rItem a.1 ((0 : Nat) + i)) a.2.1)) ((0 : Nat) + i)) (728 : Int) a.2.1))) fun i => encF rBal (Prod.fst (balancesV (decF rItem (List.length (Prod.fst (finalV (decF rItem (List.length a.1) fun i => encF rItem a.1 ((0 : Nat) + i)) a.2.1))) fun i => encF rItem (Prod.fst (finalV (decF rItem (List.length a.1) fun i => encF rItem a.1 ((0 : Nat) + i)) a.2.1)) ((0 : Nat) + i)) (728 : Int) a.2.1)) ((0 : Nat) + i))) (
                .ret (false)) (
                .br (Prod.snd (amountV (decF rItem (List.length a.1) fun i => encF rItem a.1 ((0 : Nat) + i)) a.2.2 a.2.1) != (0 : Int)) (
                  .ret (true)) (
                  .obs (L_fn ((decF rItem (List.length a.1) fun i => encF rItem a.1 ((0 : Nat) + i), a.2.2, Prod.fst (amountV (decF rItem (List.length a.1) fun i => encF rItem a.1 ((0 : Nat) + i)) a.2.2 a.2.1), decF rPost (List.length (Prod.fst (postingsV (decF rItem (List.length a.1) fun i => encF rItem a.1 ((0 : Nat) + i)) a.2.1))) fun i => encF rPost (Prod.fst (postingsV (decF rItem (List.length a.1) fun i => encF rItem a.1 ((0 : Nat) + i)) a.2.1)) ((0 : Nat) + i), Prod.snd (postingsV (decF rItem (List.length a.1) fun i => encF rItem a.1 ((0 : Nat) + i)) a.2.1), (0 : Int), (0 : Int)), PUnit.unit)) fun x0 =>
                    .br (x0.1.2.1 == (0 : Int)) (
                      .ret (x0.1.2.2 == x0.1.1)) (
                      .ret (false))))))))))) := fun a => by kernel_rfl
end Go.Proofs.YtelpdkojdfnmiaaGreat
/-! LB4 -/
namespace Go.Proofs.YtelpdkojdfnmiaaGreat
open Ev K
set_option maxRecDepth 100000
namespace Ev
end Ev
end Go.Proofs.YtelpdkojdfnmiaaGreat
/-! LB0 -/
namespace Go.Proofs.YtelpdkojdfnmiaaGreat
open Ev K
set_option maxRecDepth 100000
end Go.Proofs.YtelpdkojdfnmiaaGreat
/-! LP0 -/
namespace Go.Proofs.YtelpdkojdfnmiaaGreat
open Ev K
open Go.Sort Go.Proofs
set_option maxRecDepth 100000
namespace K
def ltK (x y : Itm) : Prop := x.known < y.known ∨ x.known = y.known ∧ x.id < y.id
instance (x y : Itm) : Decidable (ltK x y) := by unfold ltK; infer_instance
theorem sortI_spec (l : List Itm) : (sortI l).Perm l ∧ (sortI l).Pairwise fun x y => ¬ ltK y x := by
  obtain ⟨h1, h2⟩ := sortF_spec swoI l
  exact ⟨h1, h2.imp fun h => by rw [ltI, decide_eq_false_iff_not] at h; exact h⟩
theorem sortB_spec (l : List Bal) : (sortB l).Perm l ∧ (sortB l).Pairwise fun x y => ¬ y.account < x.account := by
  obtain ⟨h1, h2⟩ := sortF_spec swoB l
  exact ⟨h1, h2.imp fun h => by rw [ltB, decide_eq_false_iff_not] at h; exact h⟩
theorem uniq_of {α : Type} {R : α → α → Prop} (has : ∀ a b, R a b → R b a → False) : ∀ {l l' : List α}, l.Pairwise R → l'.Pairwise R → (∀ x, x ∈ l ↔ x ∈ l') → l = l'
  | [], [], _, _, _ => rfl
  | [], y :: t, _, _, h => by have := (h y).2 (List.mem_cons_self ..); cases this
  | x :: t, [], _, _, h => by have := (h x).1 (List.mem_cons_self ..); cases this
  | x :: t, y :: t', h1, h2, h => by
    have a1 := List.pairwise_cons.1 h1
    have a2 := List.pairwise_cons.1 h2
    have e : x = y := Classical.byContradiction fun hne => by
      have hx := (h x).1 (List.mem_cons_self ..)
      have hy := (h y).2 (List.mem_cons_self ..)
      rcases List.mem_cons.1 hx with e | hx
      · exact hne e
      rcases List.mem_cons.1 hy with e | hy
      · exact hne e.symm
      exact has _ _ (a1.1 y hy) (a2.1 x hx)
    subst e
    congr 1
    refine uniq_of has a1.2 a2.2 fun z => ⟨fun hz => ?_, fun hz => ?_⟩
    · rcases List.mem_cons.1 ((h z).1 (List.mem_cons_of_mem _ hz)) with e | h3
      · subst e; exact (has _ _ (a1.1 z hz) (a1.1 z hz)).elim
      · exact h3
    · rcases List.mem_cons.1 ((h z).2 (List.mem_cons_of_mem _ hz)) with e | h3
      · subst e; exact (has _ _ (a2.1 z hz) (a2.1 z hz)).elim
      · exact h3
theorem ltK_as (a b : Itm) (h1 : ltK a b) (h2 : ltK b a) : False := by unfold ltK at *; omega
def One (l : List Itm) : Prop := ∀ x ∈ l, ∀ y ∈ l, x.id = y.id → x = y
theorem One.sub {l l' : List Itm} (h : One l) (hs : ∀ x ∈ l', x ∈ l) : One l' := fun x hx y hy => h x (hs x hx) y (hs y hy)
theorem cp_sorted {l : List Itm} (ho : One l) (hs : l.Pairwise fun x y => ¬ ltK y x) : (cp l).Pairwise ltK ∧ ∀ x, x ∈ cp l ↔ x ∈ l := by
  have key : ∀ (l acc : List Itm), One (acc ++ l) → (acc ++ l).Pairwise (fun x y => ¬ ltK y x) → acc.Pairwise ltK → (l.foldl cpi acc).Pairwise ltK ∧ ∀ x, x ∈ l.foldl cpi acc ↔ x ∈ acc ∨ x ∈ l := by
    intro l
    induction l with
    | nil => intro acc _ _ h; exact ⟨h, fun x => by simp⟩
    | cons x l ih =>
      intro acc ho hs ha
      rw [List.foldl_cons]
      by_cases hx : acc.getLast? = some x
      · have e : cpi acc x = acc := if_pos hx
        have hm : x ∈ acc := List.mem_of_getLast? hx
        rw [e]
        obtain ⟨h1, h2⟩ := ih acc (ho.sub fun y hy => by rcases List.mem_append.1 hy with h | h; exact List.mem_append_left _ h; exact List.mem_append_right _ (List.mem_cons_of_mem _ h))
          (hs.sublist (List.Sublist.append_left (List.sublist_cons_self _ _) _)) ha
        refine ⟨h1, fun y => (h2 y).trans ⟨fun h => ?_, fun h => ?_⟩⟩
        · rcases h with h | h; exact .inl h; exact .inr (List.mem_cons_of_mem _ h)
        · rcases h with h | h
          · exact .inl h
          · rcases List.mem_cons.1 h with e | h
            · subst e; exact .inl hm
            · exact .inr h
      · have e : cpi acc x = acc ++ [x] := if_neg hx
        rw [e]
        have hs2 : ((acc ++ [x]) ++ l).Pairwise (fun x y => ¬ ltK y x) := by rw [List.append_assoc]; exact hs
        have hp : (acc ++ [x]).Pairwise ltK := by
          refine List.pairwise_append.2 ⟨ha, List.pairwise_singleton .., fun y hy z hz => ?_⟩
          simp only [List.mem_singleton] at hz; subst hz
          have h3 := (List.pairwise_append.1 hs).2.2 y hy z (List.mem_cons_self ..)
          have hne : y.id = z.id → False := by
            intro hid
            have hyz : y = z := ho y (List.mem_append_left _ hy) z (List.mem_append_right _ (List.mem_cons_self ..)) hid
            subst hyz
            obtain ⟨w, hw⟩ : ∃ w, acc.getLast? = some w := by
              cases h : acc.getLast? with
              | none => rw [List.getLast?_eq_none_iff] at h; subst h; cases hy
              | some w => exact ⟨w, rfl⟩
            have hwm : w ∈ acc := List.mem_of_getLast? hw
            have hwx := (List.pairwise_append.1 hs).2.2 w hwm y (List.mem_cons_self ..)
            obtain ⟨L, hL⟩ := List.getLast?_eq_some_iff.1 hw
            rw [hL] at hy ha
            rcases List.mem_append.1 hy with h | h
            · exact hwx ((List.pairwise_append.1 ha).2.2 y h w (by simp))
            · simp only [List.mem_singleton] at h; subst h; exact hx hw
          have hne' : y.id ≠ z.id := hne
          show ltK y z
          unfold ltK at h3 ⊢
          omega
        obtain ⟨h1, h2⟩ := ih (acc ++ [x]) (ho.sub fun y hy => by rw [List.append_assoc] at hy; exact hy) hs2 hp
        exact ⟨h1, fun y => (h2 y).trans (by simp [or_assoc])⟩
  obtain ⟨h1, h2⟩ := key l [] (by simpa using ho) (by simpa using hs) List.Pairwise.nil
  exact ⟨h1, fun x => (h2 x).trans (by simp)⟩
theorem srt_sorted {l : List Itm} (ho : One l) : (srt l).Pairwise ltK ∧ ∀ x, x ∈ srt l ↔ x ∈ l := by
  obtain ⟨h1, h2⟩ := sortI_spec l
  obtain ⟨h3, h4⟩ := cp_sorted (ho.sub fun x hx => h1.mem_iff.1 hx) h2
  exact ⟨h3, fun x => (h4 x).trans h1.mem_iff⟩
theorem srt_unique {l l' : List Itm} (ho : One l) (h : l'.Pairwise ltK) (hm : ∀ x, x ∈ l' ↔ x ∈ l) : srt l = l' := by
  obtain ⟨h3, h4⟩ := srt_sorted ho
  exact uniq_of ltK_as h3 h fun x => (h4 x).trans (hm x).symm
theorem known_filter {known : Int} : ∀ {l : List Itm}, l.Pairwise ltK → knownOn known l = l.filter fun x => decide (x.known ≤ known)
  | [], _ => rfl
  | x :: l, h => by
    have a := List.pairwise_cons.1 h
    by_cases hx : x.known ≤ known
    · unfold knownOn
      rw [List.takeWhile_cons_of_pos (by simpa using hx), List.filter_cons_of_pos (by simpa using hx)]
      congr 1
      exact known_filter a.2
    · unfold knownOn
      rw [List.takeWhile_cons_of_neg (by simpa using hx), List.filter_cons_of_neg (by simpa using hx)]
      symm
      rw [List.filter_eq_nil_iff]
      intro y hy
      have := a.1 y hy
      unfold ltK at this
      simp only [decide_eq_true_eq]; omega
end K
end Go.Proofs.YtelpdkojdfnmiaaGreat
/-! LP1 -/
namespace Go.Proofs.YtelpdkojdfnmiaaGreat
open Ev K
set_option maxRecDepth 100000
namespace K
@[ext] structure RB where (number day account : Int) (l : List Chg)
  deriving DecidableEq, Inhabited
@[ext] structure RBk where
  closed : Int
  p : List Pst
  refused : List Int
  bills : List RB
  paid : List Bal
  bonds : List Bal
  stands : List Itm
  deriving DecidableEq, Inhabited
def heldB (l : List Bal) (a : Int) : Int := match l.find? fun b => b.account == a with
  | some b => b.amount
  | none => 0
def moreB (l : List Bal) (a m : Int) : List Bal := match l with
  | [] => [⟨a, m⟩]
  | b :: t => if b.account < a then b :: moreB t a m else if b.account = a then ⟨a, b.amount + m⟩ :: t else ⟨a, m⟩ :: b :: t
def addL (l : List Int) (n : Int) : List Int := match l with
  | [] => [n]
  | b :: t => if b < n then b :: addL t n else n :: b :: t
def billR (l : List RB) (n : Int) : Option Nat := l.findIdx? fun b => b.number == n
def badR (b : RBk) (x : Itm) : Bool :=
  if x.kind = 7 then decide (x.day ≤ b.closed) else
  decide (b.closed + 1 > 728) || (decide (x.kind = 1) && (billR b.bills x.bill).isSome) || (decide (x.kind = 2) && !(billR b.bills x.bill).isSome) ||
    (decide (x.kind = 4) && decide (heldB b.paid x.account < x.amount)) || (decide (x.kind = 6) && decide (heldB b.bonds x.account < x.amount))
def twoR (b : RBk) (x : Itm) (day a c m : Int) : RBk := { b with p := b.p ++ [⟨x.id, max day (b.closed + 1), a, m⟩, ⟨x.id, max day (b.closed + 1), c, 0 - m⟩] }
def lastA (l : List Chg) : Int := (l.getLastD default).amount
def doneR (b : RBk) (x : Itm) : RBk :=
  if badR b x then { b with refused := addL b.refused x.id } else
  let b := { b with stands := b.stands ++ [x] }
  if x.kind = 1 then twoR { b with bills := b.bills ++ [⟨x.bill, x.day, x.account, [⟨x.known, x.amount⟩]⟩] } x x.day x.account 2 x.amount
  else if x.kind = 2 then (match billR b.bills x.bill with
    | some q => twoR { b with bills := b.bills.set q { b.bills.getD q default with l := (b.bills.getD q default).l ++ [⟨x.known, x.amount⟩] } } x (b.bills.getD q default).day (b.bills.getD q default).account 2 (x.amount - lastA (b.bills.getD q default).l)
    | none => b)
  else if x.kind = 3 then twoR { b with paid := moreB b.paid x.account x.amount } x x.day 1 x.account x.amount
  else if x.kind = 4 then twoR { b with paid := moreB b.paid x.account (0 - x.amount) } x x.day x.account 1 x.amount
  else if x.kind = 5 then twoR { b with bonds := moreB b.bonds x.account x.amount } x x.day 1 3 x.amount
  else if x.kind = 6 then twoR { b with bonds := moreB b.bonds x.account (0 - x.amount) } x x.day 3 1 x.amount
  else { b with closed := x.day }
def rb0 : RBk := ⟨-1, [], [], [], [], [], []⟩
structure Mp (m : List (Int × Int)) (l : List Bal) : Prop where
  keys : (m.map (·.1)).Nodup
  sorted : l.Pairwise fun x y => x.account < y.account
  mem : ∀ b, b ∈ l ↔ (b.account, b.amount) ∈ m
theorem Mp.nil : Mp [] [] := ⟨List.nodup_nil, List.Pairwise.nil, fun b => by simp⟩
theorem keys_uniq {m : List (Int × Int)} (h : (m.map (·.1)).Nodup) {a v w : Int} (h1 : (a, v) ∈ m) (h2 : (a, w) ∈ m) : v = w := by
  obtain ⟨i, hi, e1⟩ := List.getElem_of_mem h1
  obtain ⟨j, hj, e2⟩ := List.getElem_of_mem h2
  have := (List.getElem_inj (h₀ := by simpa using hi) (h₁ := by simpa using hj) h).1 (by simp [e1, e2])
  subst this; rw [e1] at e2; injection e2
theorem lookM_mem {m : List (Int × Int)} (h : (m.map (·.1)).Nodup) {a v : Int} (h1 : (a, v) ∈ m) : lookM m a = v := by
  unfold lookM
  cases hf : fM m a with
  | none =>
    unfold fM at hf
    rw [List.findIdx?_eq_none_iff] at hf
    have := hf _ h1
    simp at this
  | some i =>
    have hi := fM_some hf
    unfold fM at hf
    rw [List.findIdx?_eq_some_iff_getElem] at hf
    have hk : m[i].1 = a := (beq_iff_eq.1 hf.2.1).symm
    simp only
    rw [List.getD_eq_getElem?_getD, List.getElem?_eq_getElem hi]
    refine keys_uniq h (a := a) ?_ h1
    have : m[i] = (a, m[i].2) := by rw [← hk]
    simp only [Option.getD_some]
    rw [← this]; exact List.getElem_mem hi
theorem lookM_none {m : List (Int × Int)} {a : Int} (h : ∀ v, (a, v) ∉ m) : lookM m a = 0 := by
  unfold lookM
  cases hf : fM m a with
  | none => rfl
  | some i =>
    have hi := fM_some hf
    unfold fM at hf
    rw [List.findIdx?_eq_some_iff_getElem] at hf
    have hk : m[i].1 = a := (beq_iff_eq.1 hf.2.1).symm
    exfalso
    exact h m[i].2 (by rw [← hk]; exact List.getElem_mem hi)
theorem Mp.held {m : List (Int × Int)} {l : List Bal} (h : Mp m l) (a : Int) : heldB l a = lookM m a := by
  unfold heldB
  cases hf : l.find? fun b => b.account == a with
  | none =>
    rw [List.find?_eq_none] at hf
    refine (lookM_none fun v hv => ?_).symm
    have := hf ⟨a, v⟩ ((h.mem _).2 hv)
    simp at this
  | some b =>
    have hb := List.mem_of_find?_eq_some hf
    have he := List.find?_some hf
    simp only [beq_iff_eq] at he
    subst he
    exact (lookM_mem h.keys ((h.mem b).1 hb)).symm
theorem put_mem {m : List (Int × Int)} (h : (m.map (·.1)).Nodup) (n v : Int) (p : Int × Int) : p ∈ putM m n v ↔ p = (n, v) ∨ (p ∈ m ∧ p.1 ≠ n) := by
  unfold putM
  cases hf : fM m n with
  | none =>
    unfold fM at hf
    rw [List.findIdx?_eq_none_iff] at hf
    simp only [List.mem_append, List.mem_singleton]
    constructor
    · rintro (h1 | h1)
      · have := hf p h1
        exact .inr ⟨h1, fun e => by simp [e] at this⟩
      · exact .inl h1
    · rintro (h1 | h1)
      · exact .inr h1
      · exact .inl h1.1
  | some i =>
    have hi := fM_some hf
    unfold fM at hf
    rw [List.findIdx?_eq_some_iff_getElem] at hf
    have hk : m[i].1 = n := (beq_iff_eq.1 hf.2.1).symm
    simp only
    constructor
    · intro hp
      obtain ⟨j, hj, e⟩ := List.getElem_of_mem hp
      rw [List.length_set] at hj
      rw [List.getElem_set] at e
      split at e
      · exact .inl e.symm
      · rename_i hne
        refine .inr ⟨e ▸ List.getElem_mem hj, fun e2 => hne ?_⟩
        exact (List.getElem_inj (h₀ := by simpa using hi) (h₁ := by simpa using hj) h).1 (by simp [hk, e, e2])
    · rintro (e | ⟨hp, hne⟩)
      · subst e; exact List.mem_set hi _
      · obtain ⟨j, hj, e⟩ := List.getElem_of_mem hp
        have hij : i ≠ j := fun e2 => by subst e2; exact hne (by rw [← e]; exact hk)
        have : (m.set i (n, v))[j]'(by simpa using hj) = p := by rw [List.getElem_set_ne hij]; exact e
        rw [← this]; exact List.getElem_mem _
theorem moreB_mem : ∀ {l : List Bal} {a m : Int}, l.Pairwise (fun x y => x.account < y.account) → (moreB l a m).Pairwise (fun x y => x.account < y.account) ∧ ∀ b, b ∈ moreB l a m ↔ b = ⟨a, heldB l a + m⟩ ∨ (b ∈ l ∧ b.account ≠ a)
  | [], a, m, _ => ⟨List.pairwise_singleton .., fun b => by simp [moreB, heldB]⟩
  | c :: t, a, m, h => by
    have hh := List.pairwise_cons.1 h
    unfold moreB
    by_cases h1 : c.account < a
    · rw [if_pos h1]
      obtain ⟨b1, b2⟩ := moreB_mem (a := a) (m := m) hh.2
      have he : heldB (c :: t) a = heldB t a := by
        unfold heldB; rw [List.find?_cons_of_neg (by simp; omega)]
      refine ⟨List.pairwise_cons.2 ⟨fun z hz => ?_, b1⟩, fun b => ?_⟩
      · rcases (b2 z).1 hz with e | hz
        · subst e; exact h1
        · exact hh.1 z hz.1
      · rw [he, List.mem_cons, b2, List.mem_cons]
        constructor
        · rintro (e | e | e)
          · subst e; exact .inr ⟨.inl rfl, by omega⟩
          · exact .inl e
          · exact .inr ⟨.inr e.1, e.2⟩
        · rintro (e | ⟨e | e, h2⟩)
          · exact .inr (.inl e)
          · exact .inl e
          · exact .inr (.inr ⟨e, h2⟩)
    · rw [if_neg h1]
      by_cases h2 : c.account = a
      · rw [if_pos h2]
        have he : heldB (c :: t) a = c.amount := by
          unfold heldB; rw [List.find?_cons_of_pos (by simpa using h2)]
        refine ⟨List.pairwise_cons.2 ⟨fun z hz => by have := hh.1 z hz; show a < _; omega, hh.2⟩, fun b => ?_⟩
        rw [he, List.mem_cons, List.mem_cons]
        constructor
        · rintro (e | e)
          · exact .inl e
          · exact .inr ⟨.inr e, by have := hh.1 b e; omega⟩
        · rintro (e | ⟨e | e, h3⟩)
          · exact .inl e
          · subst e; exact absurd h2 h3
          · exact .inr e
      · rw [if_neg h2]
        have he : heldB (c :: t) a = 0 := by
          unfold heldB
          rw [List.find?_eq_none.2]
          intro b hb
          rcases List.mem_cons.1 hb with e | hb
          · subst e; simpa using h2
          · have := hh.1 b hb; simp; omega
        refine ⟨List.pairwise_cons.2 ⟨fun z hz => ?_, h⟩, fun b => ?_⟩
        · rcases List.mem_cons.1 hz with e | hz
          · subst e; show a < _; omega
          · have := hh.1 z hz; show a < _; omega
        · rw [he, Int.zero_add, List.mem_cons]
          constructor
          · rintro (e | e)
            · exact .inl e
            · refine .inr ⟨e, ?_⟩
              rcases List.mem_cons.1 e with e | e
              · subst e; exact h2
              · have := hh.1 b e; omega
          · rintro (e | e)
            · exact .inl e
            · exact .inr e.1
theorem Mp.more {m : List (Int × Int)} {l : List Bal} (h : Mp m l) (a v w : Int) (hw : w = lookM m a + v) : Mp (putM m a w) (moreB l a v) := by
  subst hw
  obtain ⟨h1, h2⟩ := moreB_mem (a := a) (m := v) h.sorted
  refine ⟨nodup_put h.keys, h1, fun b => ?_⟩
  rw [h2, put_mem h.keys, h.held, h.mem]
  constructor
  · rintro (e | e)
    · subst e; exact .inl rfl
    · exact .inr e
  · rintro (e | e)
    · injection e with e1 e2; exact .inl (Bal.ext e1 e2)
    · exact .inr e
theorem Mp.list {m : List (Int × Int)} {l : List Bal} (h : Mp m l) : listB m = l := by
  obtain ⟨h1, h2⟩ := sortB_spec (m.map balOf)
  have hk : (listB m).Pairwise fun x y => x.account < y.account := by
    have hn : ((listB m).map (·.account)).Nodup := by
      refine (h1.map _).nodup_iff.2 ?_
      rw [List.map_map]; exact h.keys
    have := (List.pairwise_map.1 hn).and h2
    exact this.imp fun ⟨a, b⟩ => by omega
  refine uniq_of (R := fun x y : Bal => x.account < y.account) (fun a b h1 h2 => by omega) hk h.sorted fun b => ?_
  rw [h.mem]
  refine h1.mem_iff.trans ?_
  rw [List.mem_map]
  constructor
  · rintro ⟨p, hp, rfl⟩; exact hp
  · intro hp; exact ⟨_, hp, rfl⟩
theorem addL_spec : ∀ {l : List Int} {n : Int}, l.Pairwise (· ≤ ·) → (addL l n).Pairwise (· ≤ ·) ∧ (addL l n).Perm (l ++ [n])
  | [], n, _ => ⟨List.pairwise_singleton .., List.Perm.refl _⟩
  | b :: t, n, h => by
    have hh := List.pairwise_cons.1 h
    unfold addL
    by_cases h1 : b < n
    · rw [if_pos h1]
      obtain ⟨a1, a2⟩ := addL_spec (n := n) hh.2
      refine ⟨List.pairwise_cons.2 ⟨fun z hz => ?_, a1⟩, a2.cons b⟩
      rcases List.mem_append.1 (a2.mem_iff.1 hz) with hz | hz
      · exact hh.1 z hz
      · simp only [List.mem_singleton] at hz; omega
    · rw [if_neg h1]
      refine ⟨List.pairwise_cons.2 ⟨fun z hz => ?_, h⟩, List.perm_append_comm (l₁ := [n])⟩
      rcases List.mem_cons.1 hz with e | hz
      · omega
      · have := hh.1 z hz; omega
def rbOf (b : Std × List Chg) : RB := ⟨b.1.no, b.1.item.day, b.1.item.account, b.2⟩
structure Rel (k : Bk) (b : RBk) : Prop where
  closed : b.closed = k.closed
  p : b.p = k.posts
  refused : b.refused.Pairwise (· ≤ ·) ∧ b.refused.Perm k.refused
  bills : b.bills = k.bills.map rbOf
  last : ∀ s ∈ k.bills, lastA s.2 = s.1.amount ∧ (0 ≤ s.1.item.day ∧ s.1.item.day ≤ 728)
  paid : Mp k.paid b.paid
  bonds : Mp k.bonds b.bonds
  stands : b.stands = k.taken
  low : -1 ≤ k.closed
theorem Rel.zero : Rel bk0 rb0 := ⟨rfl, rfl, ⟨List.Pairwise.nil, List.Perm.refl _⟩, rfl, (fun s h => by cases h), Mp.nil, Mp.nil, rfl, by decide⟩
theorem Rel.refuse {k : Bk} {b : RBk} (h : Rel k b) (x : Itm) : Rel (refuse k x) { b with refused := addL b.refused x.id } := by
  obtain ⟨a1, a2⟩ := addL_spec (n := x.id) h.refused.1
  exact ⟨h.closed, h.p, ⟨a1, a2.trans (h.refused.2.append_right _)⟩, h.bills, h.last, h.paid, h.bonds, h.stands, h.low⟩
theorem billR_eq {k : Bk} {b : RBk} (h : Rel k b) (n : Int) : billR b.bills n = fb k n := by
  unfold billR fb
  rw [h.bills, List.findIdx?_map]
  congr 1
  funext s
  show (s.1.no == n) = (n == s.1.no)
  exact Bool.beq_comm
theorem max_on (k : Bk) (b : RBk) (h : Rel k b) (d : Int) : max d (b.closed + 1) = onDay k d := by
  unfold onDay; rw [h.closed]; omega
theorem Rel.done {k : Bk} {b : RBk} (h : Rel k b) {x : Itm} (hx : x.Fm) : Rel (doItem k x) (doneR b x) := by
  have hm := max_on k b h
  have hl := h.low
  have hd := hx.2.2.1
  have hk := hx.2.2.2.2
  have hP : ∀ d, (onDay k d > 728 ↔ (k.closed + 1 > 728 ∨ d > 728)) := fun d => by unfold onDay; split <;> omega
  have hneg : ∀ m : Int, 0 - m = -m := fun m => by omega
  unfold doItem doneR
  by_cases k1 : x.kind = 1
  · rw [if_pos k1]
    have hbad : badR b x = (decide (k.closed + 1 > 728) || (fb k x.bill).isSome) := by
      unfold badR; rw [if_neg (by omega), h.closed, billR_eq h]; simp [k1]
    unfold doBill
    cases hf : fb k x.bill with
    | some q =>
      show Rel (K.refuse k x) _
      rw [if_pos (by rw [hbad, hf]; simp)]; exact h.refuse x
    | none =>
      simp only
      by_cases h7 : onDay k x.day > 728
      · rw [if_pos h7, if_pos (by rw [hbad, hf]; have := (hP x.day).1 h7; simp; omega)]; exact h.refuse x
      · rw [if_neg h7, if_neg (by rw [hbad, hf]; have := mt (hP x.day).2 h7; simp; omega)]
        simp only [k1, if_true]
        refine ⟨h.closed, ?_, h.refused, ?_, fun s hs => ?_, h.paid, h.bonds, ?_, hl⟩
        · simp only [twoR, stand, hm, h.p, hneg]
        · simp only [twoR, h.bills, List.map_append]; rfl
        · rcases List.mem_append.1 hs with hs | hs
          · exact h.last s hs
          · simp only [List.mem_singleton] at hs; subst hs; exact ⟨rfl, hd⟩
        · simp only [twoR, stand, h.stands]
  rw [if_neg k1]
  by_cases k2 : x.kind = 2
  · rw [if_pos k2]
    have hbad : badR b x = (decide (k.closed + 1 > 728) || !(fb k x.bill).isSome) := by
      unfold badR; rw [if_neg (by omega), h.closed, billR_eq h]; simp [k2]
    unfold doMend
    cases hf : fb k x.bill with
    | none =>
      show Rel (K.refuse k x) _
      rw [if_pos (by rw [hbad, hf]; simp)]; exact h.refuse x
    | some q =>
      have hq := fb_some hf
      have hg : k.bills.getD q default = k.bills[q] := by rw [List.getD_eq_getElem?_getD, List.getElem?_eq_getElem hq]; rfl
      have hmem := List.getElem_mem hq
      have hg2 : b.bills.getD q default = rbOf k.bills[q] := by rw [List.getD_eq_getElem?_getD, h.bills, List.getElem?_map, List.getElem?_eq_getElem hq]; rfl
      simp only [hg]
      generalize k.bills[q] = s at hmem hg2
      obtain ⟨e1, e2⟩ := h.last s hmem
      by_cases h7 : onDay k s.1.item.day > 728
      · rw [if_pos h7, if_pos (by rw [hbad, hf]; have := (hP s.1.item.day).1 h7; simp; omega)]; exact h.refuse x
      · rw [if_neg h7, if_neg (by rw [hbad, hf]; have := mt (hP s.1.item.day).2 h7; simp; omega), if_neg k1, if_pos k2]
        have e3 : billR b.bills x.bill = some q := (billR_eq h x.bill).trans hf
        simp only [e3, hg2]
        refine ⟨h.closed, ?_, h.refused, ?_, fun s' hs => ?_, h.paid, h.bonds, ?_, hl⟩
        · simp only [twoR, stand, hm, h.p, hneg, rbOf, e1]
        · simp only [twoR, h.bills, List.map_set]; rfl
        · rcases List.mem_or_eq_of_mem_set hs with hs | hs
          · exact h.last s' hs
          · subst hs; exact ⟨by simp [lastA], e2⟩
        · simp only [twoR, stand, h.stands]
  rw [if_neg k2]
  by_cases k3 : x.kind = 3
  · rw [if_pos k3]
    have hbad : badR b x = decide (k.closed + 1 > 728) := by
      unfold badR; rw [if_neg (by omega), h.closed]; simp [k3]
    unfold doPay
    by_cases h7 : onDay k x.day > 728
    · rw [if_pos h7, if_pos (by rw [hbad]; have := (hP x.day).1 h7; simp; omega)]; exact h.refuse x
    · rw [if_neg h7, if_neg (by rw [hbad]; have := mt (hP x.day).2 h7; simp; omega), if_neg k1, if_neg k2, if_pos k3]
      refine ⟨h.closed, ?_, h.refused, h.bills, h.last, h.paid.more _ _ _ rfl, h.bonds, ?_, hl⟩
      · simp only [twoR, stand, hm, h.p, hneg]
      · simp only [twoR, stand, h.stands]
  rw [if_neg k3]
  by_cases k4 : x.kind = 4
  · rw [if_pos k4]
    have hbad : badR b x = (decide (k.closed + 1 > 728) || decide (lookM k.paid x.account < x.amount)) := by
      unfold badR; rw [if_neg (by omega), h.closed, h.paid.held]; simp [k4]
    unfold doRefund
    by_cases h6 : lookM k.paid x.account < x.amount
    · rw [if_pos h6, if_pos (by rw [hbad]; simp [h6])]; exact h.refuse x
    rw [if_neg h6]
    by_cases h7 : onDay k x.day > 728
    · rw [if_pos h7, if_pos (by rw [hbad]; have := (hP x.day).1 h7; simp; omega)]; exact h.refuse x
    · rw [if_neg h7, if_neg (by rw [hbad]; have := mt (hP x.day).2 h7; simp; omega), if_neg k1, if_neg k2, if_neg k3, if_pos k4]
      refine ⟨h.closed, ?_, h.refused, h.bills, h.last, h.paid.more _ _ _ (by omega), h.bonds, ?_, hl⟩
      · simp only [twoR, stand, hm, h.p, hneg]
      · simp only [twoR, stand, h.stands]
  rw [if_neg k4]
  by_cases k5 : x.kind = 5
  · rw [if_pos k5]
    have hbad : badR b x = decide (k.closed + 1 > 728) := by
      unfold badR; rw [if_neg (by omega), h.closed]; simp [k5]
    unfold doBond
    by_cases h7 : onDay k x.day > 728
    · rw [if_pos h7, if_pos (by rw [hbad]; have := (hP x.day).1 h7; simp; omega)]; exact h.refuse x
    · rw [if_neg h7, if_neg (by rw [hbad]; have := mt (hP x.day).2 h7; simp; omega), if_neg k1, if_neg k2, if_neg k3, if_neg k4, if_pos k5]
      refine ⟨h.closed, ?_, h.refused, h.bills, h.last, h.paid, h.bonds.more _ _ _ rfl, ?_, hl⟩
      · simp only [twoR, stand, hm, h.p, hneg]
      · simp only [twoR, stand, h.stands]
  rw [if_neg k5]
  by_cases k6 : x.kind = 6
  · rw [if_pos k6]
    have hbad : badR b x = (decide (k.closed + 1 > 728) || decide (lookM k.bonds x.account < x.amount)) := by
      unfold badR; rw [if_neg (by omega), h.closed, h.bonds.held]; simp [k6]
    unfold doFree
    by_cases h6 : lookM k.bonds x.account < x.amount
    · rw [if_pos h6, if_pos (by rw [hbad]; simp [h6])]; exact h.refuse x
    rw [if_neg h6]
    by_cases h7 : onDay k x.day > 728
    · rw [if_pos h7, if_pos (by rw [hbad]; have := (hP x.day).1 h7; simp; omega)]; exact h.refuse x
    · rw [if_neg h7, if_neg (by rw [hbad]; have := mt (hP x.day).2 h7; simp; omega), if_neg k1, if_neg k2, if_neg k3, if_neg k4, if_neg k5, if_pos k6]
      refine ⟨h.closed, ?_, h.refused, h.bills, h.last, h.paid, h.bonds.more _ _ _ (by omega), ?_, hl⟩
      · simp only [twoR, stand, hm, h.p, hneg]
      · simp only [twoR, stand, h.stands]
  rw [if_neg k6]
  have k7 : x.kind = 7 := by omega
  have hbad : badR b x = decide (x.day ≤ k.closed) := by
    unfold badR; rw [if_pos k7, h.closed]
  unfold doShut
  by_cases h7 : x.day ≤ k.closed
  · rw [if_pos h7, if_pos (by rw [hbad]; simpa using h7)]; exact h.refuse x
  · rw [if_neg h7, if_neg (by rw [hbad]; simpa using h7), if_neg k1, if_neg k2, if_neg k3, if_neg k4, if_neg k5, if_neg k6]
    exact ⟨rfl, h.p, h.refused, h.bills, h.last, h.paid, h.bonds, by simp [h.stands], by show -1 ≤ x.day; omega⟩
end K
end Go.Proofs.YtelpdkojdfnmiaaGreat
/-! LP2 -/
namespace Go.Proofs.YtelpdkojdfnmiaaGreat
open Ev K
set_option maxRecDepth 100000
namespace K
def balStep (behind : Int) (l : List Bal) (p : Pst) : List Bal := if p.day ≤ behind then moreB l p.account p.amount else l
def balR (ps : List Pst) (behind : Int) : List Bal := ps.foldl (balStep behind) []
theorem mp_fold (behind : Int) : ∀ (ps : List Pst) (m : List (Int × Int)) (l : List Bal), Mp m l → Mp (ps.foldl (sumStep behind) m) (ps.foldl (balStep behind) l)
  | [], _, _, h => h
  | p :: ps, m, l, h => by
    refine mp_fold behind ps _ _ ?_
    unfold sumStep balStep
    split
    · exact h.more _ _ _ rfl
    · exact h
theorem mp_sum (ps : List Pst) (behind : Int) : Mp (sumP ps behind) (balR ps behind) := mp_fold behind ps _ _ Mp.nil
theorem listB_sum (ps : List Pst) (behind : Int) : listB (sumP ps behind) = balR ps behind := (mp_sum ps behind).list
theorem moreB_len : ∀ (l : List Bal) (a m : Int), (moreB l a m).length ≤ l.length + 1
  | [], _, _ => by simp [moreB]
  | b :: t, a, m => by
    unfold moreB
    have := moreB_len t a m
    split
    · simp only [List.length_cons]; omega
    · split <;> simp only [List.length_cons] <;> omega
theorem balR_len (ps : List Pst) (behind : Int) : (balR ps behind).length ≤ ps.length := by
  have key : ∀ (ps : List Pst) (l : List Bal), (ps.foldl (balStep behind) l).length ≤ l.length + ps.length := by
    intro ps
    induction ps with
    | nil => intro l; simp
    | cons p ps ih =>
      intro l
      have h1 := ih (balStep behind l p)
      have h2 : (balStep behind l p).length ≤ l.length + 1 := by
        unfold balStep; split
        · exact moreB_len ..
        · omega
      rw [List.foldl_cons, List.length_cons]; omega
  have := key ps []
  unfold balR; simpa using this
def sumI (l : List Int) : Int := l.sum
theorem balR_sorted (ps : List Pst) (behind : Int) : (balR ps behind).Pairwise fun x y => x.account < y.account := (mp_sum ps behind).sorted
def sumA (ps : List Pst) (a behind : Int) : Int := sumI ((ps.filter fun p => decide (p.account = a ∧ p.day ≤ behind)).map (·.amount))
theorem held_more : ∀ {l : List Bal}, l.Pairwise (fun x y => x.account < y.account) → ∀ (a m c : Int), heldB (moreB l a m) c = heldB l c + if a = c then m else 0
  | [], _, a, m, c => by
    unfold moreB heldB
    by_cases h : a = c
    · subst h; simp
    · simp [h]
  | b :: t, hs, a, m, c => by
    have hh := List.pairwise_cons.1 hs
    unfold moreB
    have cons : ∀ (x : Bal) (t : List Bal), heldB (x :: t) c = if x.account = c then x.amount else heldB t c := fun x t => by
      unfold heldB
      by_cases h : x.account = c
      · rw [List.find?_cons_of_pos (by simpa using h), if_pos h]
      · rw [List.find?_cons_of_neg (by simpa using h), if_neg h]
    by_cases h1 : b.account < a
    · rw [if_pos h1, cons, cons, held_more hh.2]
      by_cases h2 : b.account = c
      · rw [if_pos h2, if_pos h2, if_neg (by omega)]; omega
      · rw [if_neg h2, if_neg h2]
    · rw [if_neg h1]
      by_cases h2 : b.account = a
      · rw [if_pos h2, cons, cons]
        simp only
        by_cases h3 : a = c
        · rw [if_pos h3, if_pos (by omega), if_pos h3]
        · rw [if_neg h3, if_neg (by omega), if_neg h3]; omega
      · rw [if_neg h2, cons]
        simp only
        by_cases h3 : a = c
        · rw [if_pos h3, if_pos h3]
          have : heldB (b :: t) c = 0 := by
            unfold heldB
            rw [List.find?_eq_none.2]
            intro x hx
            rcases List.mem_cons.1 hx with e | hx
            · subst e; simp; omega
            · have := hh.1 x hx; simp; omega
          omega
        · rw [if_neg h3, if_neg h3]; omega
theorem held_balR (ps : List Pst) (behind a : Int) : heldB (balR ps behind) a = sumA ps a behind := by
  have key : ∀ (ps : List Pst) (m : List (Int × Int)) (l : List Bal), Mp m l → heldB (ps.foldl (balStep behind) l) a = heldB l a + sumA ps a behind := by
    intro ps
    induction ps with
    | nil => intro m l _; simp [sumA, sumI]
    | cons p ps ih =>
      intro m l hm
      rw [List.foldl_cons]
      unfold sumA at *
      by_cases h : p.day ≤ behind
      · have e : balStep behind l p = moreB l p.account p.amount := if_pos h
        rw [e, ih _ _ (hm.more p.account p.amount _ rfl), held_more hm.sorted]
        by_cases h2 : p.account = a
        · rw [if_pos h2, List.filter_cons_of_pos (by simp [h, h2]), List.map_cons]; simp only [sumI, List.sum_cons]; omega
        · rw [if_neg h2, List.filter_cons_of_neg (by simp [h2])]; omega
      · have e : balStep behind l p = l := if_neg h
        rw [e, ih _ _ hm, List.filter_cons_of_neg (by simp; intro _; omega)]
  have := key ps [] [] Mp.nil
  unfold balR; rw [this]; simp [heldB]
structure Pr where (x : Itm) (on a b m : Int)
def Pr.two (z : Pr) : List Pst := [⟨z.x.id, z.on, z.a, z.m⟩, ⟨z.x.id, z.on, z.b, -z.m⟩]
def pairs (zs : List Pr) : List Pst := zs.flatMap Pr.two
theorem pairs_cons (z : Pr) (zs : List Pr) : pairs (z :: zs) = ⟨z.x.id, z.on, z.a, z.m⟩ :: ⟨z.x.id, z.on, z.b, -z.m⟩ :: pairs zs := rfl
theorem pairs_app (a b : List Pr) : pairs (a ++ b) = pairs a ++ pairs b := List.flatMap_append ..
def isPair (l : List Pst) : Prop := ∃ zs, l = pairs zs
theorem isPair.app {l : List Pst} (h : isPair l) (x : Itm) (on a b m : Int) : isPair (l ++ [⟨x.id, on, a, m⟩, ⟨x.id, on, b, -m⟩]) := by
  obtain ⟨zs, rfl⟩ := h
  exact ⟨zs ++ [⟨x, on, a, b, m⟩], by rw [pairs_app]; rfl⟩
end K
end Go.Proofs.YtelpdkojdfnmiaaGreat
/-! LB1 -/
namespace Go.Proofs.YtelpdkojdfnmiaaGreat
open Ev K
set_option maxRecDepth 100000
namespace K
theorem wrapS {a : Int} (h1 : -9000000000000000000 ≤ a) (h2 : a ≤ 9000000000000000000) : IntKind.i64.wrap a = a := w64_in (by omega) (by omega)
theorem wrapI {i : Nat} (h : i ≤ 4000000) : IntKind.i64.wrap ((i : Int) + 1) = ((i + 1 : Nat) : Int) := by rw [w64_in (by omega) (by omega)]; rfl
theorem clampS {n : Nat} (h : n ≤ 1000000) : clampL n = n := clampL_eq (by unfold maxL; omega)
end K
end Go.Proofs.YtelpdkojdfnmiaaGreat
/-! LB5 -/
namespace Go.Proofs.YtelpdkojdfnmiaaGreat
open Ev K
set_option maxRecDepth 100000
namespace K
theorem one_of {l : List Itm} (h : checkV l = 0) : One l := by
  obtain ⟨_, _, h3⟩ := checkV_ok h
  intro x hx y hy he
  obtain ⟨i, hi, rfl⟩ := List.getElem_of_mem hx
  obtain ⟨j, hj, rfl⟩ := List.getElem_of_mem hy
  rcases Nat.lt_trichotomy i j with hij | hij | hij
  · exact h3 i j _ _ hij (List.getElem?_eq_getElem hi) (List.getElem?_eq_getElem hj) he
  · subst hij; rfl
  · exact (h3 j i _ _ hij (List.getElem?_eq_getElem hj) (List.getElem?_eq_getElem hi) he.symm).symm
theorem checkV_of {l : List Itm} (h : l.length ≤ 60) (hf : ∀ x ∈ l, x.Fm) (ho : One l) : checkV l = 0 := by
  unfold checkV
  rw [if_neg (by omega)]
  have e : (List.range l.length).findSome? (errAt l) = none := by
    rw [List.findSome?_eq_none_iff]
    intro i hi
    have hi := List.mem_range.1 hi
    unfold errAt
    rw [List.getElem?_eq_getElem hi]
    simp only
    rw [if_pos (hf _ (List.getElem_mem hi)), if_neg]
    rw [Bool.not_eq_true, List.any_eq_false]
    intro y hy
    simp only [decide_eq_true_eq]
    rintro ⟨h1, h2⟩
    exact h2 (ho y (List.mem_of_mem_take hy) _ (List.getElem_mem hi) h1)
  rw [e]; rfl
theorem sumA_app (ps qs : List Pst) (a d : Int) : sumA (ps ++ qs) a d = sumA ps a d + sumA qs a d := by
  unfold sumA sumI; rw [List.filter_append, List.map_append, List.sum_append]
theorem asked_ok {l : List Itm} (h : checkV l = 0) {ds : List Int} (hd : ∀ n ∈ ds, dayOk n) : askedV l ds = 0 := by
  unfold askedV; rw [if_neg (by simpa using h), if_pos hd]
end K
end Go.Proofs.YtelpdkojdfnmiaaGreat
/-! LP3 -/
namespace Go.Proofs.YtelpdkojdfnmiaaGreat
open Ev K
set_option maxRecDepth 100000
namespace K
abbrev Mps := List (Int × Int) × List (Int × Int)
def ntStep (q : Mps) (x : Itm) : Mps :=
  if x.kind = 3 then (addM q.1 x.account x.amount, q.2) else if x.kind = 4 then (putM q.1 x.account (lookM q.1 x.account - x.amount), q.2)
  else if x.kind = 5 then (q.1, addM q.2 x.account x.amount) else if x.kind = 6 then (q.1, putM q.2 x.account (lookM q.2 x.account - x.amount)) else q
def ntOk (q : Mps) (x : Itm) : Prop := 0 ≤ lookM q.1 x.account ∧ 0 ≤ lookM q.2 x.account
instance (q : Mps) (x : Itm) : Decidable (ntOk q x) := by unfold ntOk; infer_instance
def ntRun : Mps → List Itm → Option Mps
  | q, [] => some q
  | q, x :: l => if ntOk (ntStep q x) x then ntRun (ntStep q x) l else none
theorem ntRun_app : ∀ (l : List Itm) (q q' : Mps) (x : Itm), ntRun q l = some q' → ntOk (ntStep q' x) x → ntRun q (l ++ [x]) = some (ntStep q' x)
  | [], q, q', x, h, ho => by
    injection h with h; subst h
    simp only [List.nil_append, ntRun, if_pos ho]
  | y :: l, q, q', x, h, ho => by
    simp only [ntRun] at h
    split at h
    · rename_i hy
      simp only [List.cons_append, ntRun, if_pos hy]
      exact ntRun_app l _ _ x h ho
    · cases h
structure Trc (L : List Itm) (k : Bk) (zs : List Pr) : Prop where
  posts : k.posts = pairs zs
  sub : (zs.map (·.x)).Sublist L
  run : ntRun ([], []) (zs.map (·.x)) = some (k.paid, k.bonds)
  pos : (∀ p ∈ k.paid, 0 ≤ p.2) ∧ ∀ p ∈ k.bonds, 0 ≤ p.2
  acc3 : sumA k.posts 3 728 = - sumI (k.bonds.map (·.2))
  keys : KeysOk k
  bill : ∀ b ∈ k.bills, 10 ≤ b.1.item.account
theorem Trc.zero : Trc [] bk0 [] := ⟨rfl, List.Sublist.refl _, rfl, ⟨(fun p hp => by cases hp), (fun p hp => by cases hp)⟩, rfl, ⟨List.nodup_nil, List.nodup_nil⟩, (fun b hb => by cases hb)⟩
theorem look_nn {m : List (Int × Int)} (h : ∀ p ∈ m, 0 ≤ p.2) (a : Int) : 0 ≤ lookM m a := by
  unfold lookM
  split
  · rename_i i hi
    have hlt := fM_some hi
    have := h m[i] (List.getElem_mem hlt)
    rw [List.getD_eq_getElem?_getD, List.getElem?_eq_getElem hlt]; exact this
  · omega
theorem put_sum {m : List (Int × Int)} (n v : Int) : sumI ((putM m n v).map (·.2)) = sumI (m.map (·.2)) - lookM m n + v := by
  unfold putM lookM
  cases hf : fM m n with
  | none =>
    simp only [List.map_append, List.map_cons, List.map_nil, sumI, List.sum_append, List.sum_cons, List.sum_nil]; omega
  | some i =>
    have hi := fM_some hf
    simp only
    have key : ∀ (m : List (Int × Int)) (i : Nat), i < m.length → ((m.set i (n, v)).map (·.2)).sum = (m.map (·.2)).sum - (m.getD i (0, 0)).2 + v := by
      intro m
      induction m with
      | nil => intro i h; simp at h
      | cons a m ih =>
        intro i h
        cases i with
        | zero => simp; omega
        | succ i =>
          have := ih i (by simpa using h)
          simp only [List.set_cons_succ, List.map_cons, List.sum_cons, List.getD_cons_succ] at *
          omega
    exact key m i hi
theorem Trc.refuse {L : List Itm} {k : Bk} {zs : List Pr} (h : Trc L k zs) (x : Itm) : Trc (L ++ [x]) (refuse k x) zs :=
  ⟨h.posts, h.sub.trans (List.sublist_append_left _ _), h.run, h.pos, h.acc3, ⟨h.keys.1, h.keys.2⟩, h.bill⟩
theorem sum_two (ps : List Pst) (x : Itm) (on a b m : Int) (hon : on ≤ 728) : sumA (ps ++ [⟨x.id, on, a, m⟩, ⟨x.id, on, b, -m⟩]) 3 728 = sumA ps 3 728 + (if a = 3 then m else 0) - (if b = 3 then m else 0) := by
  rw [sumA_app]
  unfold sumA
  by_cases h1 : a = 3
  · by_cases h2 : b = 3
    · rw [List.filter_cons_of_pos (by simp [h1, hon]), List.filter_cons_of_pos (by simp [h2, hon])]; simp [sumI, h1, h2]; omega
    · rw [List.filter_cons_of_pos (by simp [h1, hon]), List.filter_cons_of_neg (by simp [h2])]; simp [sumI, h1, h2]
  · by_cases h2 : b = 3
    · rw [List.filter_cons_of_neg (by simp [h1]), List.filter_cons_of_pos (by simp [h2, hon])]; simp [sumI, h1, h2]; omega
    · rw [List.filter_cons_of_neg (by simp [h1]), List.filter_cons_of_neg (by simp [h2])]; simp [sumI, h1, h2]
theorem Trc.pair {L : List Itm} {k k' : Bk} {zs : List Pr} (h : Trc L k zs) (x : Itm) (on a b m : Int) (hon : ¬ on > 728) (hp : k'.posts = k.posts ++ [⟨x.id, on, a, m⟩, ⟨x.id, on, b, -m⟩]) (hs : ntStep (k.paid, k.bonds) x = (k'.paid, k'.bonds))
    (hpos : (∀ p ∈ k'.paid, 0 ≤ p.2) ∧ ∀ p ∈ k'.bonds, 0 ≤ p.2) (h3 : sumI (k'.bonds.map (·.2)) = sumI (k.bonds.map (·.2)) - (if a = 3 then m else 0) + (if b = 3 then m else 0)) (hk : KeysOk k') (hb : ∀ b ∈ k'.bills, 10 ≤ b.1.item.account) : Trc (L ++ [x]) k' (zs ++ [⟨x, on, a, b, m⟩]) := by
  refine ⟨by rw [hp, h.posts, pairs_app]; rfl, ?_, ?_, hpos, ?_, hk, hb⟩
  · rw [List.map_append]; exact h.sub.append (List.Sublist.refl _)
  · rw [List.map_append]
    have := ntRun_app (zs.map (·.x)) ([], []) (k.paid, k.bonds) x h.run (by rw [hs]; exact ⟨look_nn hpos.1 _, look_nn hpos.2 _⟩)
    rw [hs] at this; exact this
  · rw [hp, sum_two _ _ _ _ _ _ (by omega), h.acc3, h3]; omega
theorem put_nn {m : List (Int × Int)} (h : ∀ p ∈ m, 0 ≤ p.2) {n v : Int} (hv : 0 ≤ v) : ∀ p ∈ putM m n v, 0 ≤ p.2 := putM_all (Q := fun p => 0 ≤ p.2) h hv
theorem Trc.doItem {L : List Itm} {k : Bk} {zs : List Pr} (h : Trc L k zs) {x : Itm} (hx : x.Fm) : ∃ zs', Trc (L ++ [x]) (doItem k x) zs' := by
  have hK := h.keys.doItem x
  have hm : 0 ≤ x.amount := hx.2.2.2.1.1
  have hkd := hx.2.2.2.2
  unfold K.doItem at hK ⊢
  by_cases k1 : x.kind = 1
  · rw [if_pos k1] at hK ⊢
    have ha : 10 ≤ x.account := by omega
    unfold doBill at hK ⊢; split
    · exact ⟨zs, h.refuse x⟩
    · split
      · exact ⟨zs, h.refuse x⟩
      · rename_i h7
        refine ⟨_, h.pair x (onDay k x.day) x.account 2 x.amount h7 rfl ?_ h.pos ?_ ⟨h.keys.1, h.keys.2⟩ fun b hb => ?_⟩
        · unfold ntStep; rw [if_neg (by omega), if_neg (by omega), if_neg (by omega), if_neg (by omega)]; rfl
        · rw [if_neg (by omega), if_neg (by decide)]; show sumI (k.bonds.map _) = _; omega
        · rcases List.mem_append.1 hb with hb | hb
          · exact h.bill b hb
          · simp only [List.mem_singleton] at hb; subst hb; exact ha
  rw [if_neg k1] at hK ⊢
  by_cases k2 : x.kind = 2
  · rw [if_pos k2] at hK ⊢
    unfold doMend at hK ⊢; split
    · exact ⟨zs, h.refuse x⟩
    · rename_i q hq
      split
      · exact ⟨zs, h.refuse x⟩
      · rename_i h7
        have hmem := h.bill _ (getD_mem (d := default) (fb_some hq))
        generalize k.bills.getD q default = s at hmem h7
        refine ⟨_, h.pair x (onDay k s.1.item.day) s.1.item.account 2 (x.amount - s.1.amount) h7 rfl ?_ h.pos ?_ ⟨h.keys.1, h.keys.2⟩ fun b hb => ?_⟩
        · unfold ntStep; rw [if_neg (by omega), if_neg (by omega), if_neg (by omega), if_neg (by omega)]; rfl
        · rw [if_neg (by omega), if_neg (by decide)]; show sumI (k.bonds.map _) = _; omega
        · rcases List.mem_or_eq_of_mem_set hb with hb | hb
          · exact h.bill b hb
          · subst hb; exact hmem
  rw [if_neg k2] at hK ⊢
  by_cases k3 : x.kind = 3
  · rw [if_pos k3] at hK ⊢
    unfold doPay at hK ⊢; split
    · exact ⟨zs, h.refuse x⟩
    · rename_i h7
      rw [if_neg h7] at hK
      have hl := look_nn h.pos.1 x.account
      refine ⟨_, h.pair x (onDay k x.day) 1 x.account x.amount h7 rfl ?_ ⟨put_nn h.pos.1 (by omega), h.pos.2⟩ ?_ hK h.bill⟩
      · unfold ntStep; rw [if_pos k3]; rfl
      · rw [if_neg (by decide), if_neg (by omega)]; show sumI (k.bonds.map _) = _; omega
  rw [if_neg k3] at hK ⊢
  by_cases k4 : x.kind = 4
  · rw [if_pos k4] at hK ⊢
    unfold doRefund at hK ⊢; split
    · exact ⟨zs, h.refuse x⟩
    · rename_i h6
      rw [if_neg h6] at hK
      split
      · exact ⟨zs, h.refuse x⟩
      · rename_i h7
        rw [if_neg h7] at hK
        refine ⟨_, h.pair x (onDay k x.day) x.account 1 x.amount h7 rfl ?_ ⟨put_nn h.pos.1 (by omega), h.pos.2⟩ ?_ hK h.bill⟩
        · unfold ntStep; rw [if_neg k3, if_pos k4]; rfl
        · rw [if_neg (by omega), if_neg (by decide)]; show sumI (k.bonds.map _) = _; omega
  rw [if_neg k4] at hK ⊢
  by_cases k5 : x.kind = 5
  · rw [if_pos k5] at hK ⊢
    unfold doBond at hK ⊢; split
    · exact ⟨zs, h.refuse x⟩
    · rename_i h7
      rw [if_neg h7] at hK
      have hl := look_nn h.pos.2 x.account
      refine ⟨_, h.pair x (onDay k x.day) 1 3 x.amount h7 rfl ?_ ⟨h.pos.1, put_nn h.pos.2 (by omega)⟩ ?_ hK h.bill⟩
      · unfold ntStep; rw [if_neg k3, if_neg k4, if_pos k5]; rfl
      · rw [if_neg (by decide), if_pos rfl]; show sumI ((putM k.bonds _ _).map _) = _; rw [put_sum]; omega
  rw [if_neg k5] at hK ⊢
  by_cases k6 : x.kind = 6
  · rw [if_pos k6] at hK ⊢
    unfold doFree at hK ⊢; split
    · exact ⟨zs, h.refuse x⟩
    · rename_i h6
      rw [if_neg h6] at hK
      split
      · exact ⟨zs, h.refuse x⟩
      · rename_i h7
        rw [if_neg h7] at hK
        refine ⟨_, h.pair x (onDay k x.day) 3 1 x.amount h7 rfl ?_ ⟨h.pos.1, put_nn h.pos.2 (by omega)⟩ ?_ hK h.bill⟩
        · unfold ntStep; rw [if_neg k3, if_neg k4, if_neg k5, if_pos k6]; rfl
        · rw [if_pos rfl, if_neg (by decide)]; show sumI ((putM k.bonds _ _).map _) = _; rw [put_sum]; omega
  rw [if_neg k6] at hK ⊢
  unfold doShut at hK ⊢; split
  · exact ⟨zs, h.refuse x⟩
  · exact ⟨zs, h.posts, h.sub.trans (List.sublist_append_left _ _), h.run, h.pos, h.acc3, ⟨h.keys.1, h.keys.2⟩, h.bill⟩
end K
end Go.Proofs.YtelpdkojdfnmiaaGreat
/-! LP4 -/
namespace Go.Proofs.YtelpdkojdfnmiaaGreat
open Ev K
set_option maxRecDepth 100000
namespace K
def finW (fa : Int → Int) (x : Itm) : Option Itm := if x.kind = 2 then none else if x.kind = 1 then some { x with amount := fa x.bill } else some x
def finB (fa : Int → Int) (s : Std × List Chg) : Std × List Chg := (⟨s.1.no, { s.1.item with amount := fa s.1.no }, fa s.1.no⟩, [⟨s.1.item.known, fa s.1.no⟩])
def lack (fa : Int → Int) (bs : List (Std × List Chg)) (a : Int) : Int := sumI (bs.map fun s => (if s.1.item.account = a then fa s.1.no - s.1.amount else 0) - (if a = 2 then fa s.1.no - s.1.amount else 0))
def hasAcc (ps : List Pst) (a : Int) : Prop := ∃ p ∈ ps, p.account = a
structure Sim (fa : Int → Int) (k k2 : Bk) : Prop where
  closed : k2.closed = k.closed
  refused : k2.refused = []
  taken : k2.taken = k.taken.filterMap (finW fa)
  paid : k2.paid = k.paid
  bonds : k2.bonds = k.bonds
  bills : k2.bills = k.bills.map (finB fa)
  same : ∀ s ∈ k.bills, s.1.item.bill = s.1.no
  sums : ∀ a, sumA k2.posts a 728 = sumA k.posts a 728 + lack fa k.bills a
  accs : ∀ a, hasAcc k2.posts a ↔ hasAcc k.posts a
  bacc : ∀ s ∈ k.bills, hasAcc k.posts s.1.item.account ∧ hasAcc k.posts 2
theorem Sim.zero (fa : Int → Int) : Sim fa bk0 bk0 := ⟨rfl, rfl, rfl, rfl, rfl, rfl, (fun s h => by cases h), (fun a => by simp [bk0, lack, sumI, sumA]), (fun a => Iff.rfl), (fun s h => by cases h)⟩
theorem hasAcc_app (ps qs : List Pst) (a : Int) : hasAcc (ps ++ qs) a ↔ hasAcc ps a ∨ hasAcc qs a := by
  unfold hasAcc
  constructor
  · rintro ⟨p, hp, e⟩
    rcases List.mem_append.1 hp with hp | hp
    · exact .inl ⟨p, hp, e⟩
    · exact .inr ⟨p, hp, e⟩
  · rintro (⟨p, hp, e⟩ | ⟨p, hp, e⟩)
    · exact ⟨p, List.mem_append_left _ hp, e⟩
    · exact ⟨p, List.mem_append_right _ hp, e⟩
theorem hasAcc_two (i on a b m c : Int) : hasAcc [⟨i, on, a, m⟩, ⟨i, on, b, -m⟩] c ↔ a = c ∨ b = c := by
  unfold hasAcc
  constructor
  · rintro ⟨p, hp, e⟩
    simp only [List.mem_cons, List.not_mem_nil, or_false] at hp
    rcases hp with rfl | rfl
    · exact .inl e
    · exact .inr e
  · rintro (e | e)
    · exact ⟨_, List.mem_cons_self .., e⟩
    · exact ⟨⟨i, on, b, -m⟩, by simp, e⟩
theorem sumA_two (ps : List Pst) (i on a b m c : Int) (hon : ¬ on > 728) : sumA (ps ++ [⟨i, on, a, m⟩, ⟨i, on, b, -m⟩]) c 728 = sumA ps c 728 + (if a = c then m else 0) - (if b = c then m else 0) := by
  rw [sumA_app]
  unfold sumA
  have h : on ≤ 728 := by omega
  by_cases h1 : a = c
  · by_cases h2 : b = c
    · rw [List.filter_cons_of_pos (by simp [h1, h]), List.filter_cons_of_pos (by simp [h2, h])]; simp [sumI, h1, h2]; omega
    · rw [List.filter_cons_of_pos (by simp [h1, h]), List.filter_cons_of_neg (by simp [h2])]; simp [sumI, h1, h2]
  · by_cases h2 : b = c
    · rw [List.filter_cons_of_neg (by simp [h1]), List.filter_cons_of_pos (by simp [h2, h])]; simp [sumI, h1, h2]; omega
    · rw [List.filter_cons_of_neg (by simp [h1]), List.filter_cons_of_neg (by simp [h2])]; simp [sumI, h1, h2]
section
variable {fa : Int → Int} {k k2 : Bk} (h : Sim fa k k2)
include h
theorem Sim.onDay (d : Int) : K.onDay k2 d = K.onDay k d := by unfold K.onDay; rw [h.closed]
theorem Sim.fb (n : Int) : K.fb k2 n = K.fb k n := by
  unfold K.fb; rw [h.bills, List.findIdx?_map]; rfl
theorem Sim.no {k' : Bk} {x : Itm} (e : k' = refuse k x) : Sim fa k' k2 := by
  subst e; exact ⟨h.closed, h.refused, h.taken, h.paid, h.bonds, h.bills, h.same, h.sums, h.accs, h.bacc⟩
theorem Sim.yes {k' k2' : Bk} {x x' : Itm} {on a b m m2 : Int} (hon : ¬ on > 728) (_hid : x'.id = x.id) (hw : finW fa x = some x') (c1 : k'.closed = k2'.closed) (c2 : k2'.refused = k2.refused) (t1 : k'.taken = k.taken ++ [x]) (t2 : k2'.taken = k2.taken ++ [x']) (p1 : k'.posts = k.posts ++ [⟨x.id, on, a, m⟩, ⟨x.id, on, b, -m⟩])
    (p2 : k2'.posts = k2.posts ++ [⟨x'.id, on, a, m2⟩, ⟨x'.id, on, b, -m2⟩]) (hp : k2'.paid = k'.paid) (hb : k2'.bonds = k'.bonds) (hbs : k2'.bills = k'.bills.map (finB fa)) (hsame : ∀ s ∈ k'.bills, s.1.item.bill = s.1.no) (hl : ∀ c, (if a = c then m2 else 0) - (if b = c then m2 else 0) + lack fa k.bills c = (if a = c then m else 0) - (if b = c then m else 0) + lack fa k'.bills c)
    (hba : ∀ s ∈ k'.bills, hasAcc k'.posts s.1.item.account ∧ hasAcc k'.posts 2) : Sim fa k' k2' := by
  refine ⟨c1.symm, by rw [c2, h.refused], ?_, hp, hb, hbs, hsame, fun c => ?_, fun c => ?_, hba⟩
  · rw [t2, t1, h.taken, List.filterMap_append]; simp [hw]
  · rw [p1, p2, sumA_two _ _ _ _ _ _ _ hon, sumA_two _ _ _ _ _ _ _ hon, h.sums]
    have := hl c; omega
  · rw [p1, p2, hasAcc_app, hasAcc_app, hasAcc_two, hasAcc_two, h.accs]
end
theorem acc_keep {k k' : Bk} {q : List Pst} (h : ∀ s ∈ k.bills, hasAcc k.posts s.1.item.account ∧ hasAcc k.posts 2) (hp : k'.posts = k.posts ++ q) (hb : k'.bills = k.bills) : ∀ s ∈ k'.bills, hasAcc k'.posts s.1.item.account ∧ hasAcc k'.posts 2 := by
  intro s hs
  rw [hb] at hs
  rw [hp, hasAcc_app, hasAcc_app]
  exact ⟨.inl (h s hs).1, .inl (h s hs).2⟩
theorem lack_set (fa : Int → Int) {bs : List (Std × List Chg)} {q : Nat} {s : Std × List Chg} (hs : bs[q]? = some s) (m : Int) (cs : List Chg) (c : Int) : lack fa (bs.set q ({ s.1 with amount := m }, cs)) c = lack fa bs c - (if s.1.item.account = c then m - s.1.amount else 0) + (if c = 2 then m - s.1.amount else 0) := by
  unfold lack
  induction bs generalizing q with
  | nil => simp at hs
  | cons a bs ih =>
    cases q with
    | zero =>
      simp only [List.getElem?_cons_zero, Option.some.injEq] at hs
      subst hs
      simp only [List.set_cons_zero, List.map_cons, sumI, List.sum_cons]
      by_cases h1 : a.1.item.account = c <;> by_cases h2 : c = 2 <;> simp only [h1, h2, if_true, if_false] <;> (try simp) <;> omega
    | succ q =>
      have := ih (q := q) (by simpa using hs)
      simp only [List.set_cons_succ, List.map_cons, sumI, List.sum_cons] at *
      omega
end K
end Go.Proofs.YtelpdkojdfnmiaaGreat
/-! LP5 -/
namespace Go.Proofs.YtelpdkojdfnmiaaGreat
open Ev K
set_option maxRecDepth 100000
namespace K
def Sm (fa : Int → Int) (k : Bk) : Prop := Sim fa k (foldB (k.taken.filterMap (finW fa)))
theorem fold_one (l : List Itm) (x : Itm) : foldB (l ++ [x]) = doItem (foldB l) x := by unfold foldB; rw [List.foldl_append]; rfl
theorem Sm.stay {fa : Int → Int} {k k' : Bk} (ht : k'.taken.filterMap (finW fa) = k.taken.filterMap (finW fa)) (h' : Sim fa k' (foldB (k.taken.filterMap (finW fa)))) : Sm fa k' := by
  unfold Sm; rw [ht]; exact h'
theorem Sm.go {fa : Int → Int} {k k' : Bk} {x x' : Itm} (ht : k'.taken = k.taken ++ [x]) (hw : finW fa x = some x') (h' : Sim fa k' (doItem (foldB (k.taken.filterMap (finW fa))) x')) : Sm fa k' := by
  unfold Sm
  have e : k'.taken.filterMap (finW fa) = k.taken.filterMap (finW fa) ++ [x'] := by rw [ht, List.filterMap_append]; simp [hw]
  rw [e, fold_one]; exact h'
theorem finW_self {fa : Int → Int} {x : Itm} (h1 : x.kind ≠ 1) (h2 : x.kind ≠ 2) : finW fa x = some x := by unfold finW; rw [if_neg h2, if_neg h1]
theorem Sm.doItem {fa : Int → Int} {k : Bk} (h : Sm fa k) {x : Itm} (hx : x.Fm) : Sm fa (doItem k x) := by
  unfold Sm at h
  have hkd := hx.2.2.2.2
  have refuse_ok : ∀ k', k' = refuse k x → Sm fa k' := fun k' e => Sm.stay (by rw [e]; rfl) (h.no e)
  generalize hk2 : foldB (k.taken.filterMap (finW fa)) = k2 at h
  by_cases k1 : x.kind = 1
  · have ha : 10 ≤ x.account := by omega
    have e1 : K.doItem k x = doBill k x := by unfold K.doItem; rw [if_pos k1]
    rw [e1]
    cases hf : fb k x.bill with
    | some q => exact refuse_ok _ (by unfold doBill; rw [hf])
    | none =>
      by_cases h7 : onDay k x.day > 728
      · exact refuse_ok _ (by unfold doBill; rw [hf]; exact if_pos h7)
      · have hw : finW fa x = some { x with amount := fa x.bill } := by unfold finW; rw [if_neg (by omega), if_pos k1]
        have e2 : doBill k x = { stand k x (onDay k x.day) x.account 2 x.amount with bills := k.bills ++ [(⟨x.bill, x, x.amount⟩, [⟨x.known, x.amount⟩])] } := by unfold doBill; rw [hf]; exact if_neg h7
        have e3 : K.doItem k2 { x with amount := fa x.bill } = { stand k2 { x with amount := fa x.bill } (onDay k x.day) x.account 2 (fa x.bill) with bills := k2.bills ++ [(⟨x.bill, { x with amount := fa x.bill }, fa x.bill⟩, [⟨x.known, fa x.bill⟩])] } := by
          unfold K.doItem; rw [if_pos k1]
          unfold doBill
          have : fb k2 x.bill = none := (h.fb x.bill).trans hf
          simp only [this, h.onDay]
          rw [if_neg h7]
        refine Sm.go (x := x) (by rw [e2]; rfl) hw ?_
        rw [hk2, e3, e2]
        refine h.yes (x := x) (x' := { x with amount := fa x.bill }) (on := onDay k x.day) (a := x.account) (b := 2) (m := x.amount) (m2 := fa x.bill) h7 rfl hw h.closed.symm rfl rfl rfl rfl rfl h.paid h.bonds ?_ ?_ ?_ ?_
        · show k2.bills ++ _ = (k.bills ++ _).map _
          rw [h.bills, List.map_append]; rfl
        · intro s hs
          rcases List.mem_append.1 hs with hs | hs
          · exact h.same s hs
          · simp only [List.mem_singleton] at hs; subst hs; rfl
        · intro c
          show _ = _ + lack fa (k.bills ++ _) c
          have : lack fa (k.bills ++ [(⟨x.bill, x, x.amount⟩, [⟨x.known, x.amount⟩])]) c = lack fa k.bills c + ((if x.account = c then fa x.bill - x.amount else 0) - (if c = 2 then fa x.bill - x.amount else 0)) := by
            unfold lack sumI; rw [List.map_append, List.sum_append]; simp
          rw [this]
          have e2 : ∀ v : Int, (if 2 = c then v else 0) = if c = 2 then v else 0 := fun v => by
            by_cases h2 : c = 2
            · rw [if_pos h2, if_pos h2.symm]
            · rw [if_neg h2, if_neg (fun e => h2 e.symm)]
          rw [e2, e2]
          by_cases h1 : x.account = c
          · rw [if_pos h1, if_pos h1, if_pos h1]
            by_cases h2 : c = 2
            · rw [if_pos h2, if_pos h2, if_pos h2]; omega
            · rw [if_neg h2, if_neg h2, if_neg h2]; omega
          · rw [if_neg h1, if_neg h1, if_neg h1]
            by_cases h2 : c = 2
            · rw [if_pos h2, if_pos h2, if_pos h2]; omega
            · rw [if_neg h2, if_neg h2, if_neg h2]; omega
        · intro s hs
          have hpp : ∀ c, hasAcc (k.posts ++ [⟨x.id, onDay k x.day, x.account, x.amount⟩, ⟨x.id, onDay k x.day, 2, -x.amount⟩]) c ↔ hasAcc k.posts c ∨ (x.account = c ∨ 2 = c) := fun c => by rw [hasAcc_app, hasAcc_two]
          rcases List.mem_append.1 hs with hs | hs
          · exact ⟨(hpp _).2 (.inl (h.bacc s hs).1), (hpp _).2 (.inl (h.bacc s hs).2)⟩
          · simp only [List.mem_singleton] at hs; subst hs
            exact ⟨(hpp _).2 (.inr (.inl rfl)), (hpp _).2 (.inr (.inr rfl))⟩
  by_cases k2' : x.kind = 2
  · have e1 : K.doItem k x = doMend k x := by unfold K.doItem; rw [if_neg k1, if_pos k2']
    rw [e1]
    cases hf : fb k x.bill with
    | none => exact refuse_ok _ (by unfold doMend; rw [hf])
    | some q =>
      have hq := fb_some hf
      have hs := List.getElem?_eq_getElem hq
      have hg : k.bills.getD q default = k.bills[q] := by rw [List.getD_eq_getElem?_getD, hs]; rfl
      have hmem := List.getElem_mem hq
      generalize hss : k.bills[q] = s at hs hg hmem
      by_cases h7 : onDay k s.1.item.day > 728
      · exact refuse_ok _ (by unfold doMend; rw [hf]; simp only [hg]; exact if_pos h7)
      · have hw : finW fa x = none := by unfold finW; rw [if_pos k2']
        have e2 : doMend k x = { stand k x (onDay k s.1.item.day) s.1.item.account 2 (x.amount - s.1.amount) with bills := k.bills.set q ({ s.1 with amount := x.amount }, s.2 ++ [⟨x.known, x.amount⟩]) } := by
          unfold doMend; rw [hf]; simp only [hg]; exact if_neg h7
        rw [e2]
        have ht : (k.taken ++ [x]).filterMap (finW fa) = k.taken.filterMap (finW fa) := by rw [List.filterMap_append]; simp [hw]
        refine Sm.stay ht ?_
        rw [hk2]
        refine ⟨h.closed, h.refused, ?_, h.paid, h.bonds, ?_, ?_, fun c => ?_, fun c => ?_, ?_⟩
        · show k2.taken = (k.taken ++ [x]).filterMap (finW fa)
          rw [ht]; exact h.taken
        · show k2.bills = (k.bills.set q _).map _
          rw [List.map_set, h.bills]
          exact (set_same (by rw [List.getElem?_map, hs]; rfl)).symm
        · intro s' hs'
          rcases List.mem_or_eq_of_mem_set hs' with h3 | h3
          · exact h.same s' h3
          · subst h3; exact h.same s hmem
        · show _ = sumA (k.posts ++ [⟨x.id, onDay k s.1.item.day, s.1.item.account, x.amount - s.1.amount⟩, ⟨x.id, onDay k s.1.item.day, 2, -(x.amount - s.1.amount)⟩]) c 728 + lack fa (k.bills.set q _) c
          rw [sumA_two _ _ _ _ _ _ _ h7, lack_set fa hs, h.sums]
          have e2 : (if 2 = c then x.amount - s.1.amount else 0) = if c = 2 then x.amount - s.1.amount else 0 := by
            by_cases h2 : c = 2
            · rw [if_pos h2, if_pos h2.symm]
            · rw [if_neg h2, if_neg (fun e => h2 e.symm)]
          rw [e2]; omega
        · show _ ↔ hasAcc (k.posts ++ [⟨x.id, onDay k s.1.item.day, s.1.item.account, x.amount - s.1.amount⟩, ⟨x.id, onDay k s.1.item.day, 2, -(x.amount - s.1.amount)⟩]) c
          rw [hasAcc_app, hasAcc_two, h.accs]
          have hb := h.bacc s hmem
          constructor
          · exact .inl
          · rintro (h1 | h1 | h1)
            · exact h1
            · rw [← h1]; exact hb.1
            · rw [← h1]; exact hb.2
        · intro s' hs'
          show hasAcc (k.posts ++ _) _ ∧ hasAcc (k.posts ++ _) 2
          rw [hasAcc_app, hasAcc_app]
          rcases List.mem_or_eq_of_mem_set hs' with h3 | h3
          · exact ⟨.inl (h.bacc s' h3).1, .inl (h.bacc s' h3).2⟩
          · subst h3; exact ⟨.inl (h.bacc s hmem).1, .inl (h.bacc s hmem).2⟩
  have hw : finW fa x = some x := finW_self k1 k2'
  have one : ∀ (k' k2' : Bk) (a b m : Int), ¬ onDay k x.day > 728 → K.doItem k x = k' → K.doItem k2 x = k2' → k'.closed = k.closed → k2'.closed = k2.closed → k2'.refused = k2.refused → k'.taken = k.taken ++ [x] → k2'.taken = k2.taken ++ [x] →
      k'.posts = k.posts ++ [⟨x.id, onDay k x.day, a, m⟩, ⟨x.id, onDay k x.day, b, -m⟩] → k2'.posts = k2.posts ++ [⟨x.id, onDay k x.day, a, m⟩, ⟨x.id, onDay k x.day, b, -m⟩] → k2'.paid = k'.paid → k2'.bonds = k'.bonds → k'.bills = k.bills → k2'.bills = k2.bills → Sm fa (K.doItem k x) := by
    intro k' k2' a b m h7 d1 d2 c1 c2 c3 t1 t2 p1 p2 hp hb b1 b2
    rw [d1]
    refine Sm.go t1 hw ?_
    rw [hk2, d2]
    refine h.yes (x := x) (x' := x) (on := onDay k x.day) (a := a) (b := b) (m := m) (m2 := m) h7 rfl hw (by rw [c1, c2, h.closed]) c3 t1 t2 p1 p2 hp hb (by rw [b1, b2]; exact h.bills) (by rw [b1]; exact h.same) (fun c => by rw [b1]) (acc_keep h.bacc p1 b1)
  by_cases k3 : x.kind = 3
  · have d1 : K.doItem k x = doPay k x := by unfold K.doItem; rw [if_neg k1, if_neg k2', if_pos k3]
    have d2 : K.doItem k2 x = doPay k2 x := by unfold K.doItem; rw [if_neg k1, if_neg k2', if_pos k3]
    by_cases h7 : onDay k x.day > 728
    · rw [d1]; exact refuse_ok _ (if_pos h7)
    · exact one _ _ _ _ _ h7 (d1.trans (if_neg h7)) (d2.trans (if_neg (by rw [h.onDay]; exact h7))) rfl rfl rfl rfl rfl rfl (by rw [← h.onDay x.day]; rfl) (by show putM k2.paid _ _ = putM k.paid _ _; rw [h.paid]) h.bonds rfl rfl
  by_cases k4 : x.kind = 4
  · have d1 : K.doItem k x = doRefund k x := by unfold K.doItem; rw [if_neg k1, if_neg k2', if_neg k3, if_pos k4]
    have d2 : K.doItem k2 x = doRefund k2 x := by unfold K.doItem; rw [if_neg k1, if_neg k2', if_neg k3, if_pos k4]
    by_cases h6 : lookM k.paid x.account < x.amount
    · rw [d1]; exact refuse_ok _ (if_pos h6)
    by_cases h7 : onDay k x.day > 728
    · rw [d1]; exact refuse_ok _ (by unfold doRefund; rw [if_neg h6]; exact if_pos h7)
    · have e1 : doRefund k x = { stand k x (onDay k x.day) x.account 1 x.amount with paid := putM k.paid x.account (lookM k.paid x.account - x.amount) } := by unfold doRefund; rw [if_neg h6]; exact if_neg h7
      have e2 : doRefund k2 x = { stand k2 x (onDay k x.day) x.account 1 x.amount with paid := putM k2.paid x.account (lookM k2.paid x.account - x.amount) } := by unfold doRefund; rw [if_neg (by rw [h.paid]; exact h6), h.onDay]; exact if_neg h7
      exact one _ _ _ _ _ h7 (d1.trans e1) (d2.trans e2) rfl rfl rfl rfl rfl rfl rfl (by show putM k2.paid _ _ = putM k.paid _ _; rw [h.paid]) h.bonds rfl rfl
  by_cases k5 : x.kind = 5
  · have d1 : K.doItem k x = doBond k x := by unfold K.doItem; rw [if_neg k1, if_neg k2', if_neg k3, if_neg k4, if_pos k5]
    have d2 : K.doItem k2 x = doBond k2 x := by unfold K.doItem; rw [if_neg k1, if_neg k2', if_neg k3, if_neg k4, if_pos k5]
    by_cases h7 : onDay k x.day > 728
    · rw [d1]; exact refuse_ok _ (if_pos h7)
    · exact one _ _ _ _ _ h7 (d1.trans (if_neg h7)) (d2.trans (if_neg (by rw [h.onDay]; exact h7))) rfl rfl rfl rfl rfl rfl (by rw [← h.onDay x.day]; rfl) h.paid (by show putM k2.bonds _ _ = putM k.bonds _ _; rw [h.bonds]) rfl rfl
  by_cases k6 : x.kind = 6
  · have d1 : K.doItem k x = doFree k x := by unfold K.doItem; rw [if_neg k1, if_neg k2', if_neg k3, if_neg k4, if_neg k5, if_pos k6]
    have d2 : K.doItem k2 x = doFree k2 x := by unfold K.doItem; rw [if_neg k1, if_neg k2', if_neg k3, if_neg k4, if_neg k5, if_pos k6]
    by_cases h6 : lookM k.bonds x.account < x.amount
    · rw [d1]; exact refuse_ok _ (if_pos h6)
    by_cases h7 : onDay k x.day > 728
    · rw [d1]; exact refuse_ok _ (by unfold doFree; rw [if_neg h6]; exact if_pos h7)
    · have e1 : doFree k x = { stand k x (onDay k x.day) 3 1 x.amount with bonds := putM k.bonds x.account (lookM k.bonds x.account - x.amount) } := by unfold doFree; rw [if_neg h6]; exact if_neg h7
      have e2 : doFree k2 x = { stand k2 x (onDay k x.day) 3 1 x.amount with bonds := putM k2.bonds x.account (lookM k2.bonds x.account - x.amount) } := by unfold doFree; rw [if_neg (by rw [h.bonds]; exact h6), h.onDay]; exact if_neg h7
      exact one _ _ _ _ _ h7 (d1.trans e1) (d2.trans e2) rfl rfl rfl rfl rfl rfl rfl h.paid (by show putM k2.bonds _ _ = putM k.bonds _ _; rw [h.bonds]) rfl rfl
  have d1 : K.doItem k x = doShut k x := by unfold K.doItem; rw [if_neg k1, if_neg k2', if_neg k3, if_neg k4, if_neg k5, if_neg k6]
  have d2 : K.doItem k2 x = doShut k2 x := by unfold K.doItem; rw [if_neg k1, if_neg k2', if_neg k3, if_neg k4, if_neg k5, if_neg k6]
  by_cases h7 : x.day ≤ k.closed
  · rw [d1]; exact refuse_ok _ (if_pos h7)
  · have e1 : doShut k x = { k with closed := x.day, taken := k.taken ++ [x] } := if_neg h7
    have e2 : doShut k2 x = { k2 with closed := x.day, taken := k2.taken ++ [x] } := if_neg (by rw [h.closed]; exact h7)
    rw [d1, e1]
    refine Sm.go rfl hw ?_
    rw [hk2, d2, e2]
    refine ⟨rfl, h.refused, ?_, h.paid, h.bonds, h.bills, h.same, h.sums, h.accs, h.bacc⟩
    show k2.taken ++ [x] = (k.taken ++ [x]).filterMap (finW fa)
    rw [List.filterMap_append, h.taken]; simp [hw]
theorem sm_fold {fa : Int → Int} : ∀ (l : List Itm) (k : Bk), (∀ x ∈ l, x.Fm) → Sm fa k → Sm fa (l.foldl doItem k)
  | [], _, _, h => h
  | x :: l, _, hf, h => sm_fold l _ (fun y hy => hf y (List.mem_cons_of_mem _ hy)) (h.doItem (hf x (List.mem_cons_self ..)))
theorem sm_read {l : List Itm} (hf : ∀ x ∈ l, x.Fm) (known : Int) (fa : Int → Int) : Sm fa (foldB (knownOn known (srt l))) :=
  sm_fold _ bk0 (fun x hx => hf x (srt_mem (known_mem hx))) (Sim.zero fa)
end K
end Go.Proofs.YtelpdkojdfnmiaaGreat
/-! LP6 -/
namespace Go.Proofs.YtelpdkojdfnmiaaGreat
open Ev K
set_option maxRecDepth 100000
namespace K
theorem do_taken (k : Bk) (x : Itm) : (doItem k x).taken = k.taken ∨ (doItem k x).taken = k.taken ++ [x] := by
  unfold doItem
  split
  · unfold doBill; split
    · exact .inl rfl
    · split
      · exact .inl rfl
      · exact .inr rfl
  split
  · unfold doMend; split
    · exact .inl rfl
    · split
      · exact .inl rfl
      · exact .inr rfl
  split
  · unfold doPay; split
    · exact .inl rfl
    · exact .inr rfl
  split
  · unfold doRefund; split
    · exact .inl rfl
    · split
      · exact .inl rfl
      · exact .inr rfl
  split
  · unfold doBond; split
    · exact .inl rfl
    · exact .inr rfl
  split
  · unfold doFree; split
    · exact .inl rfl
    · split
      · exact .inl rfl
      · exact .inr rfl
  · unfold doShut; split
    · exact .inl rfl
    · exact .inr rfl
theorem taken_sub : ∀ (l L : List Itm) (k : Bk), k.taken.Sublist L → (l.foldl doItem k).taken.Sublist (L ++ l)
  | [], L, k, h => by rw [List.append_nil]; exact h
  | x :: l, L, k, h => by
    have h2 : (doItem k x).taken.Sublist (L ++ [x]) := by
      rcases do_taken k x with e | e
      · rw [e]; exact h.trans (List.sublist_append_left _ _)
      · rw [e]; exact h.append (List.Sublist.refl _)
    have := taken_sub l (L ++ [x]) _ h2
    rw [List.append_assoc] at this; exact this
theorem taken_read (l : List Itm) (known : Int) : (readB l known).taken.Sublist (knownOn known (srt l)) := by
  have := taken_sub (knownOn known (srt l)) [] bk0 (List.Sublist.refl _)
  rw [List.nil_append] at this; exact this
def NoOk (k : Bk) : Prop := (k.bills.map (·.1.no)).Nodup
theorem no_do {k : Bk} (h : NoOk k) (x : Itm) : NoOk (doItem k x) := by
  unfold NoOk at *
  unfold doItem
  split
  · unfold doBill
    cases hf : fb k x.bill with
    | some q => exact h
    | none =>
      simp only
      split
      · exact h
      · show ((k.bills ++ [_]).map _).Nodup
        rw [List.map_append, List.nodup_append]
        refine ⟨h, by simp, fun a ha b hb => ?_⟩
        simp only [List.map_cons, List.map_nil, List.mem_singleton] at hb
        subst hb
        obtain ⟨s, hs, rfl⟩ := List.mem_map.1 ha
        unfold fb at hf
        rw [List.findIdx?_eq_none_iff] at hf
        have := hf s hs
        intro e; simp [e] at this
  split
  · unfold doMend
    cases hf : fb k x.bill with
    | none => exact h
    | some q =>
      have hq := fb_some hf
      have hg : k.bills.getD q default = k.bills[q] := by rw [List.getD_eq_getElem?_getD, List.getElem?_eq_getElem hq]; rfl
      simp only
      split
      · exact h
      · show ((k.bills.set q _).map _).Nodup
        rw [List.map_set, set_same (by rw [List.getElem?_map, List.getElem?_eq_getElem hq, hg]; rfl)]; exact h
  split
  · unfold doPay; split <;> exact h
  split
  · unfold doRefund; split
    · exact h
    · split <;> exact h
  split
  · unfold doBond; split <;> exact h
  split
  · unfold doFree; split
    · exact h
    · split <;> exact h
  · unfold doShut; split <;> exact h
theorem no_fold : ∀ (l : List Itm) (k : Bk), NoOk k → NoOk (l.foldl doItem k)
  | [], _, h => h
  | x :: l, _, h => no_fold l _ (no_do h x)
theorem amtL_of {m : Bls} (h : (m.map (·.1.no)).Nodup) {s : Std × List Chg} (hs : s ∈ m) : amtL m s.1.no = s.1.amount := by
  obtain ⟨i, hi, e⟩ := List.getElem_of_mem hs
  have hf : (fbL m s.1.no).isSome := by
    unfold fbL; rw [List.findIdx?_isSome, List.any_eq_true]; exact ⟨s, hs, by simp⟩
  obtain ⟨q, hq⟩ := Option.isSome_iff_exists.1 hf
  unfold amtL
  rw [hq]
  unfold fbL at hq
  rw [List.findIdx?_eq_some_iff_getElem] at hq
  obtain ⟨h1, h2, _⟩ := hq
  have : q = i := (List.getElem_inj (h₀ := by simpa using h1) (h₁ := by simpa using hi) h).1 (by simp only [List.getElem_map]; rw [e]; exact (beq_iff_eq.1 h2).symm)
  subst this
  simp only
  rw [List.getD_eq_getElem?_getD, List.getElem?_eq_getElem h1, e]; rfl
theorem lack_zero {m : Bls} (h : (m.map (·.1.no)).Nodup) (a : Int) : lack (amtL m) m a = 0 := by
  have key : ∀ (t : Bls), (∀ s ∈ t, amtL m s.1.no = s.1.amount) → lack (amtL m) t a = 0 := by
    intro t
    induction t with
    | nil => intro _; rfl
    | cons s t ih =>
      intro ht
      have h1 := ht s (List.mem_cons_self ..)
      have h2 := ih fun x hx => ht x (List.mem_cons_of_mem _ hx)
      unfold lack sumI at *
      rw [List.map_cons, List.sum_cons, h2, h1]
      simp
  exact key m fun s hs => amtL_of h hs
theorem balR_mem {ps : List Pst} (hd : ∀ p ∈ ps, p.day ≤ 728) (b : Bal) : b ∈ balR ps 728 ↔ hasAcc ps b.account ∧ b.amount = sumA ps b.account 728 := by
  have hacc : ∀ (ps : List Pst) (l : List Bal), (∀ p ∈ ps, p.day ≤ 728) → l.Pairwise (fun x y => x.account < y.account) → ∀ a, (∃ b ∈ ps.foldl (balStep 728) l, b.account = a) ↔ (∃ b ∈ l, b.account = a) ∨ hasAcc ps a := by
    intro ps
    induction ps with
    | nil =>
      intro l _ _ a
      exact ⟨.inl, fun h => by
        rcases h with h | ⟨p, hp, _⟩
        · exact h
        · cases hp⟩
    | cons p ps ih =>
      intro l hd hs a
      have e : balStep 728 l p = moreB l p.account p.amount := if_pos (hd p (List.mem_cons_self ..))
      obtain ⟨m1, m2⟩ := moreB_mem (a := p.account) (m := p.amount) hs
      rw [List.foldl_cons, e, ih _ (fun q hq => hd q (List.mem_cons_of_mem _ hq)) m1]
      have e2 : (∃ b ∈ moreB l p.account p.amount, b.account = a) ↔ (∃ b ∈ l, b.account = a) ∨ p.account = a := by
        constructor
        · rintro ⟨b, hb, rfl⟩
          rcases (m2 b).1 hb with e | ⟨e, _⟩
          · exact .inr (by rw [e])
          · exact .inl ⟨b, e, rfl⟩
        · rintro (⟨b, hb, rfl⟩ | rfl)
          · by_cases hba : b.account = p.account
            · exact ⟨_, (m2 _).2 (.inl rfl), hba.symm⟩
            · exact ⟨b, (m2 b).2 (.inr ⟨hb, hba⟩), rfl⟩
          · exact ⟨_, (m2 _).2 (.inl rfl), rfl⟩
      rw [e2]
      unfold hasAcc
      constructor
      · rintro ((h | h) | ⟨q, hq, h⟩)
        · exact .inl h
        · exact .inr ⟨p, List.mem_cons_self .., h⟩
        · exact .inr ⟨q, List.mem_cons_of_mem _ hq, h⟩
      · rintro (h | ⟨q, hq, h⟩)
        · exact .inl (.inl h)
        · rcases List.mem_cons.1 hq with rfl | hq
          · exact .inl (.inr h)
          · exact .inr ⟨q, hq, h⟩
  have hA := hacc ps [] hd List.Pairwise.nil
  have hself : ∀ b ∈ balR ps 728, b.amount = sumA ps b.account 728 := fun b hb => by
    rw [← held_balR, (mp_sum ps 728).held]
    exact (lookM_mem (mp_sum ps 728).keys (((mp_sum ps 728).mem b).1 hb)).symm
  constructor
  · intro hb
    refine ⟨?_, hself b hb⟩
    rcases (hA b.account).1 ⟨b, hb, rfl⟩ with ⟨c, hc, _⟩ | h
    · cases hc
    · exact h
  · rintro ⟨h1, h2⟩
    obtain ⟨c, hc, e⟩ := (hA b.account).2 (.inr h1)
    have := hself c hc
    have : c = b := Bal.ext e (by rw [this, e, h2])
    exact this ▸ hc
def ofBill (n : Int) (x : Itm) : Bool := x.bill == n && (x.kind == 1 || x.kind == 2)
structure Trb (L : List Itm) (k : Bk) (zs : List Pr) : Prop where
  posts : k.posts = pairs zs
  sub : (zs.map (·.x)).Sublist L
  sides : ∀ z ∈ zs, (z.x.kind = 1 ∨ z.x.kind = 2) → 10 ≤ z.a ∧ z.b = 2
  sum : ∀ n, sumI ((zs.filter fun z => ofBill n z.x).map (·.m)) = amtL k.bills n
  bill : ∀ b ∈ k.bills, 10 ≤ b.1.item.account
theorem Trb.zero : Trb [] bk0 [] := ⟨rfl, List.Sublist.refl _, (fun z hz => by cases hz), (fun n => rfl), (fun b hb => by cases hb)⟩
theorem Trb.keep {L : List Itm} {k k' : Bk} {zs : List Pr} (h : Trb L k zs) (x : Itm) (hp : k'.posts = k.posts) (hb : k'.bills = k.bills) : Trb (L ++ [x]) k' zs :=
  ⟨by rw [hp]; exact h.posts, h.sub.trans (List.sublist_append_left _ _), h.sides, by rw [hb]; exact h.sum, by rw [hb]; exact h.bill⟩
theorem Trb.pair {L : List Itm} {k k' : Bk} {zs : List Pr} (h : Trb L k zs) (x : Itm) (on a b m : Int) (hp : k'.posts = k.posts ++ [⟨x.id, on, a, m⟩, ⟨x.id, on, b, -m⟩]) (hs : (x.kind = 1 ∨ x.kind = 2) → 10 ≤ a ∧ b = 2) (hm : ∀ n, amtL k'.bills n = amtL k.bills n + if ofBill n x then m else 0) (hb : ∀ b ∈ k'.bills, 10 ≤ b.1.item.account) : Trb (L ++ [x]) k' (zs ++ [⟨x, on, a, b, m⟩]) := by
  refine ⟨by rw [hp, h.posts, pairs_app]; rfl, ?_, fun z hz => ?_, fun n => ?_, hb⟩
  · rw [List.map_append]; exact h.sub.append (List.Sublist.refl _)
  · rcases List.mem_append.1 hz with hz | hz
    · exact h.sides z hz
    · simp only [List.mem_singleton] at hz; subst hz; exact hs
  · rw [hm, ← h.sum]
    unfold sumI
    rw [List.filter_append, List.map_append, List.sum_append]
    by_cases ho : ofBill n x = true
    · simp [ho]
    · simp [ho]
theorem not_of {x : Itm} (h1 : x.kind ≠ 1) (h2 : x.kind ≠ 2) (n : Int) : ofBill n x = false := by unfold ofBill; simp [h1, h2]
theorem Trb.doItem {L : List Itm} {k : Bk} {zs : List Pr} (h : Trb L k zs) (_hno : NoOk k) {x : Itm} (hx : x.Fm) : ∃ zs', Trb (L ++ [x]) (doItem k x) zs' := by
  have hkd := hx.2.2.2.2
  by_cases k1 : x.kind = 1
  · have ha : 10 ≤ x.account := by omega
    have e1 : K.doItem k x = doBill k x := by unfold K.doItem; rw [if_pos k1]
    rw [e1]
    unfold doBill
    cases hf : fb k x.bill with
    | some q => exact ⟨zs, h.keep x rfl rfl⟩
    | none =>
      simp only
      split
      · exact ⟨zs, h.keep x rfl rfl⟩
      · refine ⟨_, h.pair x (onDay k x.day) x.account 2 x.amount rfl (fun _ => ⟨ha, rfl⟩) (fun n => ?_) fun b hb => ?_⟩
        · show amtL (k.bills ++ [(⟨x.bill, x, x.amount⟩, [⟨x.known, x.amount⟩])]) n = _
          have hfn : ∀ n, fbL (k.bills ++ [((⟨x.bill, x, x.amount⟩ : Std), [(⟨x.known, x.amount⟩ : Chg)])]) n = (fbL k.bills n).or (if x.bill = n then some k.bills.length else none) := fun n => by
            unfold fbL
            rw [List.findIdx?_append]
            congr 1
            by_cases e : x.bill = n
            · simp [List.findIdx?_cons, e]
            · rw [if_neg e]; simp [List.findIdx?_cons]; exact fun e2 => e e2.symm
          unfold amtL
          rw [hfn]
          by_cases hn : x.bill = n
          · subst hn
            have hfl : fbL k.bills x.bill = none := hf
            rw [hfl, if_pos rfl, if_pos (by unfold ofBill; simp [k1])]
            simp
          · rw [if_neg hn, if_neg (by unfold ofBill; simp [hn])]
            cases hq : fbL k.bills n with
            | none => simp
            | some q =>
              have hql : q < k.bills.length := by unfold fbL at hq; rw [List.findIdx?_eq_some_iff_getElem] at hq; exact hq.1
              simp only [Option.some_or, Int.add_zero]
              rw [List.getD_eq_getElem?_getD, List.getD_eq_getElem?_getD, List.getElem?_append_left hql]
        · rcases List.mem_append.1 hb with hb | hb
          · exact h.bill b hb
          · simp only [List.mem_singleton] at hb; subst hb; exact ha
  by_cases k2 : x.kind = 2
  · have e1 : K.doItem k x = doMend k x := by unfold K.doItem; rw [if_neg k1, if_pos k2]
    rw [e1]
    unfold doMend
    cases hf : fb k x.bill with
    | none => exact ⟨zs, h.keep x rfl rfl⟩
    | some q =>
      have hq := fb_some hf
      have hs := List.getElem?_eq_getElem hq
      have hg : k.bills.getD q default = k.bills[q] := by rw [List.getD_eq_getElem?_getD, hs]; rfl
      have hmem := List.getElem_mem hq
      have hsn : (k.bills[q]).1.no = x.bill := by
        unfold fb at hf; rw [List.findIdx?_eq_some_iff_getElem] at hf; exact (beq_iff_eq.1 hf.2.1).symm
      simp only [hg]
      split
      · exact ⟨zs, h.keep x rfl rfl⟩
      · refine ⟨_, h.pair x _ (k.bills[q]).1.item.account 2 (x.amount - (k.bills[q]).1.amount) rfl (fun _ => ⟨h.bill _ hmem, rfl⟩) (fun n => ?_) fun b hb => ?_⟩
        · show amtL (k.bills.set q _) n = _
          have hfn : ∀ n, fbL (k.bills.set q ({ (k.bills[q]).1 with amount := x.amount }, (k.bills[q]).2 ++ [⟨x.known, x.amount⟩])) n = fbL k.bills n := fun n =>
            fb_set (k := k) (n := n) hq ({ (k.bills[q]).1 with amount := x.amount }, (k.bills[q]).2 ++ [⟨x.known, x.amount⟩]) rfl { k with bills := k.bills.set q ({ (k.bills[q]).1 with amount := x.amount }, (k.bills[q]).2 ++ [⟨x.known, x.amount⟩]) } rfl
          unfold amtL
          rw [hfn]
          cases hq2 : fbL k.bills n with
          | none =>
            have hne : ¬ x.bill = n := fun e => by subst e; rw [show fbL k.bills x.bill = fb k x.bill from rfl, hf] at hq2; cases hq2
            rw [if_neg (by unfold ofBill; simp [hne])]; rfl
          | some q2 =>
            by_cases hn : x.bill = n
            · subst hn
              rw [show fbL k.bills x.bill = fb k x.bill from rfl, hf] at hq2
              injection hq2 with hq2; subst hq2
              rw [if_pos (by unfold ofBill; simp [k2])]
              simp only
              rw [List.getD_eq_getElem?_getD, List.getElem?_set_self hq, hg]
              simp only [Option.getD_some]; omega
            · rw [if_neg (by unfold ofBill; simp [hn])]
              have hne : q ≠ q2 := fun e => by
                subst e
                unfold fbL at hq2; rw [List.findIdx?_eq_some_iff_getElem] at hq2
                exact hn (by rw [← hsn]; exact (beq_iff_eq.1 hq2.2.1).symm)
              simp only [Int.add_zero]
              rw [List.getD_eq_getElem?_getD, List.getD_eq_getElem?_getD, List.getElem?_set_ne hne]
        · rcases List.mem_or_eq_of_mem_set hb with hb | hb
          · exact h.bill b hb
          · subst hb; exact h.bill (k.bills[q]) hmem
  have hsd : ∀ a b : Int, (x.kind = 1 ∨ x.kind = 2) → 10 ≤ a ∧ b = 2 := fun a b hh => absurd hh (by omega)
  have hz : ∀ m n : Int, amtL k.bills n = amtL k.bills n + if ofBill n x then m else 0 := fun m n => by rw [not_of k1 k2]; simp
  unfold K.doItem
  rw [if_neg k1, if_neg k2]
  split
  · unfold doPay; split
    · exact ⟨zs, h.keep x rfl rfl⟩
    · exact ⟨_, h.pair x _ _ _ _ rfl (hsd _ _) (hz _) h.bill⟩
  split
  · unfold doRefund; split
    · exact ⟨zs, h.keep x rfl rfl⟩
    · split
      · exact ⟨zs, h.keep x rfl rfl⟩
      · exact ⟨_, h.pair x _ _ _ _ rfl (hsd _ _) (hz _) h.bill⟩
  split
  · unfold doBond; split
    · exact ⟨zs, h.keep x rfl rfl⟩
    · exact ⟨_, h.pair x _ _ _ _ rfl (hsd _ _) (hz _) h.bill⟩
  split
  · unfold doFree; split
    · exact ⟨zs, h.keep x rfl rfl⟩
    · split
      · exact ⟨zs, h.keep x rfl rfl⟩
      · exact ⟨_, h.pair x _ _ _ _ rfl (hsd _ _) (hz _) h.bill⟩
  · unfold doShut; split
    · exact ⟨zs, h.keep x rfl rfl⟩
    · exact ⟨zs, h.keep x rfl rfl⟩
theorem trb_fold : ∀ (l L : List Itm) (k : Bk) (zs : List Pr), (∀ x ∈ l, x.Fm) → NoOk k → Trb L k zs → ∃ zs', Trb (L ++ l) (l.foldl doItem k) zs'
  | [], L, k, zs, _, _, h => ⟨zs, by rw [List.append_nil]; exact h⟩
  | x :: l, L, k, zs, hf, hn, h => by
    obtain ⟨z1, h1⟩ := h.doItem hn (hf x (List.mem_cons_self ..))
    obtain ⟨z2, h2⟩ := trb_fold l (L ++ [x]) _ z1 (fun y hy => hf y (List.mem_cons_of_mem _ hy)) (no_do hn x) h1
    exact ⟨z2, by rw [List.append_assoc] at h2; exact h2⟩
theorem trb_read {l : List Itm} (hf : ∀ x ∈ l, x.Fm) (known : Int) : ∃ zs, Trb (knownOn known (srt l)) (foldB (knownOn known (srt l))) zs := by
  have := trb_fold (knownOn known (srt l)) [] bk0 [] (fun x hx => hf x (srt_mem (known_mem hx))) List.nodup_nil Trb.zero
  rw [List.nil_append] at this; exact this
end K
end Go.Proofs.YtelpdkojdfnmiaaGreat
/-! LB7 -/
namespace Go.Proofs.YtelpdkojdfnmiaaGreat
open Ev K
set_option maxRecDepth 100000
namespace K
theorem filterMap_self {α : Type} {f : α → Option α} : ∀ {l : List α}, (∀ x ∈ l, f x = some x) → l.filterMap f = l
  | [], _ => rfl
  | x :: l, h => by rw [List.filterMap_cons, h x (List.mem_cons_self ..)]; simp only; rw [filterMap_self fun y hy => h y (List.mem_cons_of_mem _ hy)]
theorem filterMap_same {α β : Type} {f g : α → Option β} : ∀ {l : List α}, (∀ x ∈ l, f x = g x) → l.filterMap f = l.filterMap g
  | [], _ => rfl
  | x :: l, h => by rw [List.filterMap_cons, List.filterMap_cons, h x (List.mem_cons_self ..), filterMap_same fun y hy => h y (List.mem_cons_of_mem _ hy)]
def fnF (l : List Itm) (known : Int) : List Itm := (readB l known).taken.filterMap (finW (amtL (readB l known).bills))
theorem fin_is (l : List Itm) (known : Int) : finL (readB l known) = fnF l known := by
  refine filterMap_same fun x hx => ?_
  unfold finItem finW
  by_cases k2 : x.kind = 2
  · rw [if_pos k2, if_pos k2]
  rw [if_neg k2, if_neg k2]
  by_cases k1 : x.kind = 1
  · rw [if_pos k1, if_pos k1]
    obtain ⟨q, hq⟩ := read_tk l known x hx k1
    have e : amtL (readB l known).bills x.bill = ((readB l known).bills.getD q default).1.amount := by
      unfold amtL; rw [show fbL (readB l known).bills x.bill = fb (readB l known) x.bill from rfl, hq]
    rw [hq, e]
  · rw [if_neg k1, if_neg k1]
theorem fn_from {l : List Itm} {known : Int} {y : Itm} (hy : y ∈ fnF l known) : ∃ x ∈ (readB l known).taken, x.kind ≠ 2 ∧ y.id = x.id ∧ y.known = x.known ∧ y.kind = x.kind ∧ y.bill = x.bill ∧ ((x.kind = 1 ∧ y = { x with amount := amtL (readB l known).bills x.bill }) ∨ (x.kind ≠ 1 ∧ y = x)) := by
  obtain ⟨x, hx, e⟩ := List.mem_filterMap.1 hy
  unfold finW at e
  split at e
  · cases e
  rename_i k2
  split at e
  · rename_i k1
    injection e with e
    subst e
    exact ⟨x, hx, k2, rfl, rfl, rfl, rfl, .inl ⟨k1, rfl⟩⟩
  · rename_i k1
    injection e with e
    subst e
    exact ⟨x, hx, k2, rfl, rfl, rfl, rfl, .inr ⟨k1, rfl⟩⟩
theorem fn_len (l : List Itm) (known : Int) : (fnF l known).length ≤ l.length := by
  have h1 := (taken_read l known).length_le
  have h2 := known_len known (srt l); have h3 := srt_len l
  have h4 : (fnF l known).length ≤ (readB l known).taken.length := List.length_filterMap_le _ _
  omega
section
variable {l : List Itm} (hck : checkV l = 0) (known : Int)
include hck
theorem tk_mem {x : Itm} (hx : x ∈ (readB l known).taken) : x ∈ l ∧ x.known ≤ known := by
  have h1 := (taken_read l known).subset hx
  have h2 := (srt_sorted (one_of hck)).1
  rw [known_filter h2] at h1
  have h3 := List.mem_filter.1 h1
  exact ⟨srt_mem h3.1, by simpa using h3.2⟩
theorem fn_one : One (fnF l known) := by
  intro y hy y' hy' e
  obtain ⟨x, hx, _, i1, _, _, _, h1⟩ := fn_from hy
  obtain ⟨x', hx', _, i1', _, _, _, h1'⟩ := fn_from hy'
  have hxx : x = x' := one_of hck x (tk_mem hck known hx).1 x' (tk_mem hck known hx').1 (by rw [← i1, ← i1', e])
  subst hxx
  rcases h1 with ⟨k1, rfl⟩ | ⟨k1, rfl⟩ <;> rcases h1' with ⟨k1', rfl⟩ | ⟨k1', rfl⟩
  · rfl
  · exact absurd k1 k1'
  · exact absurd k1' k1
  · rfl
theorem amt_ok (n : Int) : 0 ≤ amtL (readB l known).bills n ∧ amtL (readB l known).bills n ≤ 16777216 := by
  obtain ⟨_, c2, _⟩ := checkV_ok hck
  unfold amtL
  cases hq : fbL (readB l known).bills n with
  | none => simp
  | some q =>
    have hql : q < (readB l known).bills.length := by unfold fbL at hq; rw [List.findIdx?_eq_some_iff_getElem] at hq; exact hq.1
    exact ((read_ok c2 known).bill _ (getD_mem (d := default) hql)).2.1
theorem fn_fm {y : Itm} (hy : y ∈ fnF l known) : y.Fm ∧ y.known ≤ known := by
  obtain ⟨_, c2, _⟩ := checkV_ok hck
  obtain ⟨x, hx, _, _, _, _, _, h1⟩ := fn_from hy
  obtain ⟨hxl, hxk⟩ := tk_mem hck known hx
  have hf := c2 x hxl
  rcases h1 with ⟨k1, rfl⟩ | ⟨k1, rfl⟩
  · have ha := amt_ok hck known x.bill
    refine ⟨?_, hxk⟩
    unfold Itm.Fm at hf ⊢
    simp only at ha ⊢
    omega
  · exact ⟨hf, hxk⟩
theorem fn_check : checkV (fnF l known) = 0 := by
  obtain ⟨c1, _, _⟩ := checkV_ok hck
  exact checkV_of (Nat.le_trans (fn_len l known) c1) (fun y hy => (fn_fm hck known hy).1) (fn_one hck known)
theorem fn_sorted : (fnF l known).Pairwise ltK := by
  have h1 : (readB l known).taken.Pairwise ltK := ((srt_sorted (one_of hck)).1.sublist (List.takeWhile_sublist _)).sublist (taken_read l known)
  refine List.Pairwise.filterMap _ (fun a b hab c hc d hd => ?_) h1
  have hk : ∀ {a c : Itm}, finW (amtL (readB l known).bills) a = some c → c.id = a.id ∧ c.known = a.known := fun {a c} h => by
    unfold finW at h
    split at h
    · cases h
    · split at h <;> (injection h with h; subst h; exact ⟨rfl, rfl⟩)
  have e1 := hk hc; have e2 := hk hd
  unfold ltK at *
  rw [e1.1, e1.2, e2.1, e2.2]; exact hab
theorem fn_known : knownOn known (srt (fnF l known)) = fnF l known := by
  have h1 : srt (fnF l known) = fnF l known := srt_unique (fn_one hck known) (fn_sorted hck known) fun x => Iff.rfl
  rw [h1, known_filter (fn_sorted hck known), List.filter_eq_self]
  intro y hy
  simpa using (fn_fm hck known hy).2
theorem fn_sim : Sim (amtL (readB l known).bills) (foldB (knownOn known (srt l))) (foldB (fnF l known)) := by
  obtain ⟨_, c2, _⟩ := checkV_ok hck
  exact sm_read c2 known (amtL (readB l known).bills)
theorem fn_read : readB (fnF l known) known = foldB (fnF l known) := by
  unfold readB
  rw [fn_known hck known]
  have h := (fn_sim hck known).refused
  have e : sortL (foldB (fnF l known)).refused = (foldB (fnF l known)).refused := by rw [h]; exact List.mergeSort_nil
  rw [e]
theorem fn_again : finL (readB (fnF l known) known) = fnF l known := by
  have hs := fn_sim hck known
  rw [fn_read hck known]
  have ht : (foldB (fnF l known)).taken = fnF l known := hs.taken
  unfold finL
  rw [ht]
  refine filterMap_self fun y hy => ?_
  obtain ⟨x, hx, k2, _, _, ek, eb, h1⟩ := fn_from hy
  unfold finItem
  rw [if_neg (by rw [ek]; exact k2)]
  rcases h1 with ⟨k1, h1⟩ | ⟨k1, h1⟩
  · rw [if_pos (by rw [ek]; exact k1)]
    obtain ⟨q, hq⟩ := read_tk l known x hx k1
    have hq' : fb (foldB (knownOn known (srt l))) x.bill = some q := hq
    have hf2 : fb (foldB (fnF l known)) y.bill = some q := by rw [hs.fb, eb]; exact hq'
    rw [hf2]
    have hql := fb_some hq'
    have e : ((foldB (fnF l known)).bills.getD q default).1.amount = amtL (readB l known).bills x.bill := by
      rw [List.getD_eq_getElem?_getD, hs.bills, List.getElem?_map, List.getElem?_eq_getElem hql]
      simp only [Option.map_some, Option.getD_some, finB]
      unfold fb at hq'; rw [List.findIdx?_eq_some_iff_getElem] at hq'
      rw [(beq_iff_eq.1 hq'.2.1)]
    simp only
    rw [e, h1]
  · rw [if_neg (by rw [ek]; exact k1)]
theorem fn_bal : balR (readB (fnF l known) known).posts 728 = balR (readB l known).posts 728 := by
  obtain ⟨_, c2, _⟩ := checkV_ok hck
  have hs := fn_sim hck known
  have d1 : ∀ p ∈ (readB l known).posts, p.day ≤ 728 := fun p hp => ((read_ps c2 known).posts p hp).2.1.2
  have d2 : ∀ p ∈ (readB (fnF l known) known).posts, p.day ≤ 728 := fun p hp => ((read_ps (fun y hy => (fn_fm hck known hy).1) known).posts p hp).2.1.2
  have hno : NoOk (foldB (knownOn known (srt l))) := no_fold _ bk0 List.nodup_nil
  refine uniq_of (R := fun x y : Bal => x.account < y.account) (fun a b h1 h2 => by omega) (balR_sorted _ _) (balR_sorted _ _) fun b => ?_
  rw [balR_mem d2, balR_mem d1, fn_read hck known]
  have e1 := hs.accs b.account
  have e2 := hs.sums b.account
  have e3 : lack (amtL (readB l known).bills) (foldB (knownOn known (srt l))).bills b.account = 0 := lack_zero hno _
  rw [e3, Int.add_zero] at e2
  rw [e1, e2]; rfl
end
theorem L_fn_eq {l : List Itm} {bill n : Int} {ps : List Pst} {e : Int} (hl : l.length ≤ 1000) (hps : ps.length ≤ 1000) (ha : ∀ p ∈ ps, amtOk p.amount) : ∀ (d i : Nat) (s : Int), i + d = ps.length → -((i : Int) * 16777216) ≤ s ∧ s ≤ (i : Int) * 16777216 →
    L_fn ((l, bill, n, ps, e, s, (i : Int)), ()) = some ((n, e, s + sumI (((ps.drop i).filter fun p => decide (p.account ≥ 10) && ofV l p.item bill).map (·.amount))), ()) := by
  intro d
  induction d with
  | zero =>
    intro i s h hb
    refine lim_done ?_
    rw [sl_fn]
    simp only [clampS (show ps.length ≤ 1000000 by omega), Nat.zero_add, decF_encF]
    refine br_f (decide_eq_false (by omega)) ?_
    rw [List.drop_of_length_le (by omega)]
    simp [sumI]; rfl
  | succ d ih0 =>
    intro i s h hb
    have hi : i < ps.length := by omega
    have hx := List.getElem?_eq_getElem hi
    have hm := ha _ (List.getElem_mem hi)
    have hdrop := List.drop_eq_getElem_cons hi
    generalize ps[i] = p at hx hm hdrop
    unfold amtOk at hm
    rw [hdrop]
    have g1 : decide ((0 : Int) ≤ (i : Int) ∧ (i : Int) < (ps.length : Int)) = true := decide_eq_true (by omega)
    by_cases h1 : p.account ≥ 10
    · cases ho : ofV l p.item bill with
      | true =>
        rw [List.filter_cons_of_pos (by simp [h1, ho])]
        have ih := ih0 (i + 1) (s + p.amount) (by omega) (by omega)
        have e1 : s + sumI ((p :: (ps.drop (i + 1)).filter fun p => decide (p.account ≥ 10) && ofV l p.item bill).map (·.amount)) = s + p.amount + sumI (((ps.drop (i + 1)).filter fun p => decide (p.account ≥ 10) && ofV l p.item bill).map (·.amount)) := by
          simp only [List.map_cons, sumI, List.sum_cons]; omega
        rw [e1]
        refine (lim_step ?_).trans ih
        rw [sl_fn]
        simp only [clampS (show ps.length ≤ 1000000 by omega), Int.toNat_natCast, Nat.zero_add, post_at hx, pw0, pw2, pw3, decF_encF, wrapI (show i ≤ 4000000 by omega), wrapS (show -9000000000000000000 ≤ s + p.amount by omega) (by omega)]
        exact br_t (decide_eq_true (by omega)) (chk_step g1 (br_t (decide_eq_true h1) (chk_step g1 (chk_step (decide_eq_true hl) (br_t ho (chk_step g1 rfl))))))
      | false =>
        rw [List.filter_cons_of_neg (by simp [ho])]
        refine (lim_step ?_).trans (ih0 (i + 1) s (by omega) (by omega))
        rw [sl_fn]
        simp only [clampS (show ps.length ≤ 1000000 by omega), Int.toNat_natCast, Nat.zero_add, post_at hx, pw0, pw2, pw3, decF_encF, wrapI (show i ≤ 4000000 by omega)]
        exact br_t (decide_eq_true (by omega)) (chk_step g1 (br_t (decide_eq_true h1) (chk_step g1 (chk_step (decide_eq_true hl) (br_f ho rfl)))))
    · rw [List.filter_cons_of_neg (by simp [h1])]
      refine (lim_step ?_).trans (ih0 (i + 1) s (by omega) (by omega))
      rw [sl_fn]
      simp only [clampS (show ps.length ≤ 1000000 by omega), Int.toNat_natCast, Nat.zero_add, post_at hx, pw0, pw2, pw3, decF_encF, wrapI (show i ≤ 4000000 by omega)]
      exact br_t (decide_eq_true (by omega)) (chk_step g1 (br_f (decide_eq_false h1) rfl))
theorem of_mem {l : List Itm} (ho : One l) {x : Itm} (hx : x ∈ l) (bill : Int) : ofV l x.id bill = ofBill bill x := by
  unfold ofV
  cases hf : l.find? fun y => y.id == x.id with
  | none =>
    rw [List.find?_eq_none] at hf
    have := hf x hx; simp at this
  | some y =>
    have hy := List.mem_of_find?_eq_some hf
    have he := List.find?_some hf
    have : y = x := ho y hy x hx (by simpa using he)
    subst this; rfl
theorem bill_sum {l : List Itm} (ho : One l) (bill : Int) : ∀ (zs : List Pr), (∀ z ∈ zs, z.x ∈ l ∧ ((z.x.kind = 1 ∨ z.x.kind = 2) → 10 ≤ z.a ∧ z.b = 2)) →
    sumI (((pairs zs).filter fun p => decide (p.account ≥ 10) && ofV l p.item bill).map (·.amount)) = sumI ((zs.filter fun z => ofBill bill z.x).map (·.m))
  | [], _ => rfl
  | z :: zs, h => by
    have ih := bill_sum ho bill zs fun y hy => h y (List.mem_cons_of_mem _ hy)
    obtain ⟨hx, hs⟩ := h z (List.mem_cons_self ..)
    have ho1 := of_mem ho hx bill
    rw [pairs_cons]
    cases hb : ofBill bill z.x with
    | true =>
      have hk : z.x.kind = 1 ∨ z.x.kind = 2 := by unfold ofBill at hb; simp at hb; exact hb.2
      obtain ⟨h1, h2⟩ := hs hk
      rw [List.filter_cons_of_pos (by simp [ho1, hb, h1]), List.filter_cons_of_neg (by simp [h2]), List.filter_cons_of_pos (p := fun z : Pr => ofBill bill z.x) hb]
      simp only [List.map_cons, sumI, List.sum_cons] at *; omega
    | false =>
      rw [List.filter_cons_of_neg (by simp [ho1, hb]), List.filter_cons_of_neg (by simp [ho1, hb]), List.filter_cons_of_neg (p := fun z : Pr => ofBill bill z.x) (by rw [hb]; decide)]
      exact ih
theorem lwFn_eq (a : List Itm × Int × Int) : callT1 P BLB63 30 10 D_l3 dB a = some true := by
  obtain ⟨l, known, bill⟩ := a
  rw [fn_lwFn]
  simp only [Nat.zero_add, decF_encF]
  by_cases hfew : l_few l = true
  · refine br_f (by rw [hfew]; rfl) ?_
    by_cases h1 : askedV l [known] = 0
    · refine br_f (ne_f h1) ?_
      obtain ⟨hck, hdk⟩ := ask_check h1
      obtain ⟨c1, c2, _⟩ := checkV_ok hck
      have ho := one_of hck
      have hF : (finalV l known).1 = fnF l known := by unfold finalV; rw [if_pos h1]; exact fin_is l known
      have hck2 := fn_check hck known
      have a2 : askedV (fnF l known) [known] = 0 := asked_ok hck2 hdk
      have d2 : ∀ n ∈ [728, known], dayOk n := fun n hn => by
        simp only [List.mem_cons, List.not_mem_nil, or_false] at hn
        rcases hn with rfl | rfl
        · exact ⟨by decide, by decide⟩
        · exact hdk _ (by simp)
      have a3 : askedV l [728, known] = 0 := asked_ok hck d2
      have a4 : askedV (fnF l known) [728, known] = 0 := asked_ok hck2 d2
      have hF2 : finalV (fnF l known) known = (fnF l known, 0) := by unfold finalV; rw [a2, if_pos rfl, fn_again hck known]
      have hB1 : balancesV l 728 known = (balR (readB l known).posts 728, 0) := by unfold balancesV; rw [a3, if_pos rfl, listB_sum]
      have hB2 : balancesV (fnF l known) 728 known = (balR (readB l known).posts 728, 0) := by unfold balancesV; rw [a4, if_pos rfl, listB_sum, fn_bal hck known]
      rw [hF, hF2, hB1, hB2]
      dsimp only
      have hfl := fn_len l known
      have hbl := balR_len (readB l known).posts 728
      obtain ⟨hpl, ha⟩ := of_decide_eq_true (chk_bal hck known)
      refine br_f rfl (br_f rfl (br_f rfl (chk_step (decide_eq_true (by omega)) (br_f (by simp) (chk_step (decide_eq_true (by omega)) (br_f (by simp) ?_))))))
      by_cases h3 : (amountV l bill known).2 = 0
      · refine br_f (ne_f h3) ?_
        have hP : postingsV l known = ((readB l known).posts, 0) := by unfold postingsV; rw [h1, if_pos rfl]
        rw [hP]
        have key := L_fn_eq (l := l) (bill := bill) (n := (amountV l bill known).1) (ps := (readB l known).posts) (e := 0) (by omega) hpl ha (readB l known).posts.length 0 0 (by omega) (by omega)
        refine obs_step key ?_
        refine br_t rfl ?_
        obtain ⟨zs, t⟩ := trb_read c2 known
        have hps : (readB l known).posts = pairs zs := t.posts
        have hsum := bill_sum ho bill zs fun z hz => ⟨srt_mem (known_mem (t.sub.subset (List.mem_map_of_mem hz))), t.sides z hz⟩
        rw [List.drop_zero, hps, hsum, t.sum, Int.zero_add]
        have hA : (amountV l bill known).1 = amtL (foldB (knownOn known (srt l))).bills bill := by
          unfold amountV at h3 ⊢
          rw [if_pos h1] at h3 ⊢
          split at h3
          · rename_i hb
            rw [if_pos hb]
            unfold amtL
            rw [show fbL (foldB (knownOn known (srt l))).bills bill = fb (readB l known) bill from rfl]
            split at h3
            · rename_i q hq
              first
                | rfl
                | (rw [hq]; rfl)
            · cases h3
          · cases h3
        rw [hA]
        simp [T.run]
      · exact br_t (ne_t h3) rfl
    · exact br_t (ne_t h1) rfl
  · exact br_t (by rw [Bool.not_eq_true] at hfew; rw [hfew]; rfl) rfl
end K
end Go.Proofs.YtelpdkojdfnmiaaGreat
/-! LZ6 -/
namespace Go.Proofs.YtelpdkojdfnmiaaGreat
open Ev K
open Go.ChangeShapes Go.WideShapes Go.RowKit
set_option maxRecDepth 100000
theorem law_pc (a) : PC P 10 (D_l3.enc a) (.bool true) := by
  have h := lwFn_eq a
  exact call_of okP tLB63 h
theorem ownP : ownKnob P.godebug = none := by kernel_rfl
theorem laidP : laidOutB P = true := by kernel_rfl
theorem ub : P.underlying 4 = some .bool := by kernel_rfl
theorem ledgerFinal_lifted (os : Os) (started : os.Started) (H : Type) (enc : TypeId × Value → H) :
    ReturnsInHanded {} Tryz.checked os 10 .any (Rows.ledgerFinalSpec.pre6 enc Tryz.prog Tryz.f10 Rows.ledgerFinalRow.domain false) (Rows.ledgerFinalSpec.post enc Tryz.prog Tryz.f10 false true false false) := by
  refine returnsInHanded_of_change (C := Tryz.checked) ownP started (by kernel_rfl) Tryz.func10
    (ChangeSpec.witness6 (enc := enc) (C := Tryz.checked) false ⟨#[], #[.slice none 0 0, .int .i64 0, .int .i64 0], []⟩ 8 (by kernel_rfl) (by kernel_rfl) (by kernel_rfl) (by kernel_rfl)) ?_
  intro W base args ds gs before hval hW _ _
  refine law_contract (P := Tryz.prog) D_l3 laidP (by kernel_rfl) rfl (fun ds hd => ?_) (fun W' b sp hd => trodAll_mk1 (shut_bool ub true)) (fun W' => ok_one (by kernel_rfl) rfl (okWide_bool_mk ub true)) (fun W base args ds p hval hA => ?_) law_pc W base args ds gs before hval hW
  · rw [Tryz.params10] at hd
    match ds, hd with
    | [a, b, c], _ => rfl
  · rw [Tryz.params10] at hA hval
    obtain ⟨v0, vs0, d0, ds0, p0, q0, e0, _, _, h0, r0⟩ := trodAll_cons hA
    obtain ⟨v1, vs1, d1, ds1, p1, q1, e1, _, _, h1, r1⟩ := trodAll_cons r0
    obtain ⟨v2, vs2, d2, ds2, p2, q2, e2, _, _, h2, r2⟩ := trodAll_cons r1
    obtain ⟨e3, _, _⟩ := trodAll_nil r2
    subst e3; subst e2; subst e1
    have ha : args = #[v0, v1, v2] := by apply Array.ext'; exact e0
    subst ha
    exact rdL_cons (rp_items (hval 0 _ v0 rfl rfl) h0) (rdL_cons (rp_int (hval 1 _ v1 rfl rfl) h1) (rdL_last (rp_int (hval 2 _ v2 rfl rfl) h2)))
theorem ledgerFinal_holds : Rows.LedgerFinalSaid :=
  OpenClaim.holds_of_wide 10 Tryz.f10 rfl rfl rfl rfl rfl rfl rfl ⟨rfl, rfl, rfl, rfl, rfl⟩ rfl rfl rfl rfl rfl (by kernel_rfl) Tryz.func10 (by kernel_rfl)
    (of_decide_eq_true (by kernel_rfl)) (by unfold Func.isWrapper; rw [if_neg (of_decide_eq_false (by kernel_rfl))]; exact ⟨rfl, rfl⟩)
    (fun os started H enc _ => ledgerFinal_lifted os started H enc)
#print axioms ledgerFinal_holds
end Go.Proofs.YtelpdkojdfnmiaaGreat
