/- LedgerNeverTooMuch: for every input the law returns true, and the input reads as it did. No conditions. -/
import Derived.Test.YtelpdkojdfnmiaaGreatLw11
import Derived.ProofKit
import Derived.Carry
import Derived.Test.YtelpdkojdfnmiaaGreatRows
/-! EvW -/
namespace Go.Proofs.YtelpdkojdfnmiaaGreat.Ev
open Go.RowKit Go.WideShapes Go.ChangeShapes
section
variable {H : Type} {enc : TypeId × Value → H} {P : Program}
theorem post_of_below {f : Func} {s : ChangeSpec} {apart fresh handsOn again : Bool} {W W' : World} {args : Array Value} {v : Value} {ds gs : List (DataW H)} {before pa pv : List MemPlace}
    (hW : DataW.Whole enc P f.params.toList s.vars apart W args.toList ds gs before)
    (hres : ∀ (b : Nat) (sp : Nat → Bool) (hd : Bool), DataW.TrodAll enc P W' b sp hd f.resultTypes.toList (v.resultList f.resultTypes.size) (s.fn H (ds ++ gs)).results [])
    (hargs : ∀ sp : Nat → Bool, (∀ p ∈ before, sp p.block = true) → DataW.TrodAll enc P W' 0 sp true f.params.toList args.toList (s.fn H (ds ++ gs)).args pa)
    (hvars : ∀ sp : Nat → Bool, (∀ p ∈ before, sp p.block = true) → DataW.TrodVars enc P W' sp s.vars (s.fn H (ds ++ gs)).vars pv)
    (hps : before = pa ++ pv) (hb : Below W.heap.size W W')
    (hok : ∀ (j : Nat) (t : TypeId) (r : Value), f.resultTypes[j]? = some t → (v.resultList f.resultTypes.size)[j]? = some r → Value.okWide P W' .any 0 t r) :
    s.post enc P f apart fresh handsOn again W args v W' := by
  have hlt : ∀ p ∈ before, p.block < W.heap.size := fun p hp => hW.lt p hp
  have hold : ∀ p ∈ before, (fun b => decide (b < W.heap.size)) p.block = true := fun p hp => by simpa using hlt p hp
  refine ⟨ds, gs, before, [], pa, pv, hW, hres _ _ _, hargs _ hold, hvars _ hold, World.keptBut_mono (fun p hp => ⟨hp, ?_⟩) (hb.frame (· ∈ before)), fun _ => ?_⟩
  · rw [hps, List.mem_append] at hp
    exact Or.inr hp
  · obtain ⟨_, _, _, _, _, hz, hn⟩ := hW
    refine ⟨hok, _, _, ([] ++ pa) ++ pv, ⟨[] ++ pa, pv, trodAll_append (hargs _ (fun _ _ => rfl)) (hres _ _ _), hvars _ (fun _ _ => rfl), rfl, ?_, ?_⟩, ?_⟩
    · intro b off hp
      have hin : MemPlace.cell b off ∈ before := by rw [hps]; simpa using hp
      rw [hb.frozen (hlt _ hin)]
      exact hz b off hin
    · intro ha
      have := hn ha
      rw [hps] at this
      simpa using this
    · intro p hp _
      rw [hps]
      simpa using hp
theorem trodAll_stays (hl : laidOutB P = true) {W W' : World} (hb : Below W.heap.size W W') {sp : Nat → Bool} : ∀ {ts : List TypeId} {vs : List Value} {ds : List (DataW H)} {ps : List MemPlace},
    (∀ t ∈ ts, P.readableRec t = true ∧ t < P.types.size) → DataW.TrodAll enc P W 0 (fun _ => true) true ts vs ds ps → (∀ x ∈ ps, x.block < W.heap.size) → (∀ x ∈ ps, sp x.block = true) → DataW.TrodAll enc P W' 0 sp true ts vs ds ps
  | [], [], [], ps, _, h, _, _ => h
  | [], [], _ :: _, _, _, h, _, _ => h.elim
  | [], _ :: _, _, _, _, h, _, _ => h.elim
  | _ :: _, [], _, _, _, h, _, _ => h.elim
  | _ :: _, _ :: _, [], _, _, h, _, _ => h.elim
  | t :: ts, v :: vs, d :: ds, ps, ht, h, hlt, hs => by
    obtain ⟨p, q, h1, h2, rfl⟩ := h
    refine ⟨p, q, ?_, trodAll_stays hl hb (fun t h => ht t (List.mem_cons_of_mem _ h)) h2 (fun x hx => hlt x (List.mem_append_right _ hx)) (fun x hx => hs x (List.mem_append_right _ hx)), rfl⟩
    have h0 := ht t List.mem_cons_self
    exact WideElems.Trod_stays hl h0.1 h0.2 h1 (fun x hx => hb.same (hlt x (List.mem_append_left _ hx))) (fun x hx => hs x (List.mem_append_left _ hx))
inductive FK where
  | int (k : IntKind)
  | bool
  | str
  | sl (e : TypeId)
def flatF (r : TypeId → Option (List FK)) (P : Program) : List Field → Nat → Option (List FK)
  | [], _ => some []
  | f :: fs, off => match r f.type with
    | some l => match Nat.beq f.offset off && Nat.beq (P.cellsOf f.type) l.length with
      | true => match flatF r P fs (off + l.length) with
        | some m => some (l ++ m)
        | none => none
      | false => none
    | none => none
def flat (P : Program) : Nat → TypeId → Option (List FK)
  | 0, _ => none
  | n + 1, t => match P.underlying t with
    | some .bool => some [.bool]
    | some (.int k) => some [.int k]
    | some .string => some [.str]
    | some (.slice e) => some [.sl e]
    | some (.struct fs) => match flatF (flat P n) P fs.toList 0 with
      | some l => match Nat.beq (P.cellsOf t) l.length with
        | true => some l
        | false => none
      | none => none
    | some (.array m e) => match flat P n e with
      | some l => match Nat.beq (P.cellsOf e) l.length && Nat.beq (P.cellsOf t) (m * l.length) with
        | true => some (List.replicate m l).flatten
        | false => none
      | none => none
    | _ => none
def CellR (enc : TypeId × Value → H) (P : Program) (w : World) : FK → Value → Prop
  | .int k, v => ∃ n, v = .int k n ∧ (Lit.int k n).wf = true
  | .bool, v => ∃ b, v = .bool b
  | .str, v => ∃ s : ByteArray, v = .string s ∧ s.size ≤ maxLen
  | .sl e, v => v = .slice none 0 0 ∨ ∃ (a : Addr) (len cap : Nat), v = .slice (some a) len cap ∧ len ≤ cap ∧ cap ≤ maxLen ∧
      ∀ i, i < len → ∃ row, w.cells? 0 (a.add (i * P.cellsOf e)) (P.cellsOf e) = some row ∧ ∃ fuel x, DataW.trod enc P w 0 (fun _ => true) true fuel e row = some x
theorem mapM_mem {α β : Type} {f : α → Option β} : ∀ {l : List α} {ys : List β}, l.mapM f = some ys → ∀ x ∈ l, ∃ y, f x = some y
  | [], _, _, x, hx => by simp at hx
  | a :: l, ys, h, x, hx => by
    rw [List.mapM_cons] at h
    cases ha : f a with
    | none => simp [ha] at h
    | some b =>
      cases hl : l.mapM f with
      | none => simp [ha, hl] at h
      | some bs =>
        rcases List.mem_cons.1 hx with rfl | hx
        · exact ⟨b, ha⟩
        · exact mapM_mem hl x hx
theorem flatF_get {r : TypeId → Option (List FK)} {w : World} {cs : List Value} (hr : ∀ t l, r t = some l → ∀ fuel ds x, DataW.trod enc P w 0 (fun _ => true) true fuel t ds = some x → ds.length = l.length ∧ ∀ (i : Nat) (k : FK), l[i]? = some k → ∃ v, ds[i]? = some v ∧ CellR enc P w k v) :
    ∀ {fs : List Field} {off : Nat} {l : List FK}, flatF r P fs off = some l → off + l.length ≤ cs.length → (∀ f ∈ fs, ∃ fuel x, DataW.trod enc P w 0 (fun _ => true) true fuel f.type ((cs.drop f.offset).take (P.cellsOf f.type)) = some x) →
      ∀ (i : Nat) (k : FK), l[i]? = some k → ∃ v, cs[off + i]? = some v ∧ CellR enc P w k v
  | [], off, l, h, _, _, i, k, hi => by simp [flatF] at h; subst h; simp at hi
  | f :: fs, off, l, h, hle, hf, i, k, hi => by
    simp only [flatF] at h
    split at h
    case h_2 => simp at h
    rename_i l1 h1
    split at h
    case h_2 => simp at h
    rename_i hc
    simp only [Bool.and_eq_true] at hc
    have e1 := Nat.eq_of_beq_eq_true hc.1
    have e2 := Nat.eq_of_beq_eq_true hc.2
    split at h
    case h_2 => simp at h
    rename_i m hm
    injection h with h; subst h
    rw [List.length_append] at hle
    by_cases hlt : i < l1.length
    · rw [List.getElem?_append_left hlt] at hi
      obtain ⟨fuel, x, hx⟩ := hf f List.mem_cons_self
      obtain ⟨v, hv, hcr⟩ := (hr _ _ h1 _ _ _ hx).2 i k hi
      rw [List.getElem?_take] at hv
      split at hv
      · rw [List.getElem?_drop, e1] at hv
        exact ⟨v, hv, hcr⟩
      · simp at hv
    · rw [List.getElem?_append_right (by omega)] at hi
      obtain ⟨v, hv, hcr⟩ := flatF_get hr hm (by omega) (fun f h => hf f (List.mem_cons_of_mem _ h)) _ k hi
      exact ⟨v, by rw [← hv]; congr 1; omega, hcr⟩
theorem flatten_get {l : List FK} {m : Nat} : ∀ {i : Nat} {k : FK}, ((List.replicate m l).flatten)[i]? = some k → 0 < l.length ∧ i / l.length < m ∧ l[i % l.length]? = some k := by
  induction m with
  | zero => intro i k h; simp at h
  | succ m ih =>
    intro i k h
    rw [List.replicate_succ, List.flatten_cons] at h
    by_cases hlt : i < l.length
    · rw [List.getElem?_append_left hlt] at h
      exact ⟨by omega, by rw [Nat.div_eq_of_lt hlt]; omega, by rw [Nat.mod_eq_of_lt hlt]; exact h⟩
    · rw [List.getElem?_append_right (by omega)] at h
      obtain ⟨h1, h2, h3⟩ := ih h
      refine ⟨h1, ?_, ?_⟩
      · rw [Nat.div_eq_sub_div h1 (by omega)]; omega
      · rw [Nat.mod_eq_sub_mod (by omega)]; exact h3
theorem trod_flat {w : World} : ∀ (n : Nat) (t : TypeId) (ks : List FK), flat P n t = some ks → ∀ (fuel : Nat) (cs : List Value) (x : DataW H × List MemPlace), DataW.trod enc P w 0 (fun _ => true) true fuel t cs = some x →
    cs.length = ks.length ∧ ∀ (i : Nat) (k : FK), ks[i]? = some k → ∃ v, cs[i]? = some v ∧ CellR enc P w k v
  | 0, t, ks, h, _, _, _, _ => by simp [flat] at h
  | n + 1, t, ks, h, 0, cs, x, hx => by simp [DataW.trod] at hx
  | n + 1, t, ks, h, fuel + 1, cs, x, hx => by
    simp only [flat] at h
    split at h
    · rename_i hu
      injection h with h; subst h
      simp only [DataW.trod, hu] at hx
      split at hx <;> simp_all
      exact fun i k hi => by
        cases i with
        | zero => simp at hi; subst hi; exact ⟨_, rfl, _, rfl⟩
        | succ i => simp at hi
    · rename_i k0 hu
      injection h with h; subst h
      simp only [DataW.trod, hu] at hx
      split at hx <;> simp_all
      exact fun i k hi => by
        cases i with
        | zero => simp at hi; subst hi; exact ⟨_, rfl, _, rfl, hx.1.2⟩
        | succ i => simp at hi
    · rename_i hu
      injection h with h; subst h
      simp only [DataW.trod, hu] at hx
      split at hx <;> simp_all
      exact fun i k hi => by
        cases i with
        | zero => simp at hi; subst hi; exact ⟨_, rfl, _, rfl, hx.1⟩
        | succ i => simp at hi
    · rename_i e hu
      injection h with h; subst h
      simp only [DataW.trod, hu] at hx
      split at hx
      case h_7 =>
        exact ⟨rfl, fun i k hi => by
          cases i with
          | zero => simp at hi; subst hi; exact ⟨_, rfl, .inl rfl⟩
          | succ i => simp at hi⟩
      case h_8 =>
        rename_i e' a len cap h0
        injection h0 with h0; injection h0 with h0; subst h0
        split at hx
        case isFalse => simp at hx
        rename_i hc
        rw [Option.bind_eq_some_iff] at hx
        obtain ⟨elems, he, _⟩ := hx
        refine ⟨rfl, fun i k hi => ?_⟩
        cases i with
        | succ i => simp at hi
        | zero =>
          simp at hi; subst hi
          refine ⟨_, rfl, .inr ⟨a, len, cap, rfl, hc.2.1, hc.2.2, fun j hj => ?_⟩⟩
          obtain ⟨y, hy⟩ := mapM_mem he j (List.mem_range.2 hj)
          rw [Option.bind_eq_some_iff] at hy
          obtain ⟨row, h1, h2⟩ := hy
          exact ⟨row, h1, fuel, y, h2⟩
      all_goals simp_all
    · rename_i fs hu
      split at h
      case h_2 => simp at h
      rename_i l hl
      split at h
      case h_2 => simp at h
      rename_i hc
      have ec := Nat.eq_of_beq_eq_true hc
      injection h with h; subst h
      simp only [DataW.trod, hu] at hx
      have hx' : (if cs.length = P.cellsOf t then (fs.toList.mapM fun f => DataW.trod enc P w 0 (fun _ => true) true fuel f.type ((cs.drop f.offset).take (P.cellsOf f.type))).map fun xs => (DataW.agg (xs.map (·.1)), xs.flatMap (·.2)) else none) = some x := by
        split at hx <;> simp_all
      clear hx
      split at hx'
      case isFalse => simp at hx'
      rename_i hlen
      rw [Option.map_eq_some_iff] at hx'
      obtain ⟨xs, hxs, _⟩ := hx'
      refine ⟨by rw [hlen, ec], fun i k hi => ?_⟩
      have := flatF_get (cs := cs) (fun t l h => trod_flat n t l h) hl (by omega) (fun f hf => by obtain ⟨y, hy⟩ := mapM_mem hxs f hf; exact ⟨fuel, y, hy⟩) i k hi
      simpa using this
    · rename_i m e hu
      split at h
      case h_2 => simp at h
      rename_i l hl
      split at h
      case h_2 => simp at h
      rename_i hc
      simp only [Bool.and_eq_true] at hc
      have e1 := Nat.eq_of_beq_eq_true hc.1
      have e2 := Nat.eq_of_beq_eq_true hc.2
      injection h with h; subst h
      simp only [DataW.trod, hu] at hx
      have hx' : (if cs.length = P.cellsOf t then ((List.range m).mapM fun i => DataW.trod enc P w 0 (fun _ => true) true fuel e ((cs.drop (i * P.cellsOf e)).take (P.cellsOf e))).map fun xs => (DataW.agg (xs.map (·.1)), xs.flatMap (·.2)) else none) = some x := by
        split at hx <;> simp_all
      clear hx
      split at hx'
      case isFalse => simp at hx'
      rename_i hlen
      rw [Option.map_eq_some_iff] at hx'
      obtain ⟨xs, hxs, _⟩ := hx'
      refine ⟨by rw [hlen, e2]; simp, fun i k hi => ?_⟩
      obtain ⟨h1, h2, h3⟩ := flatten_get hi
      obtain ⟨y, hy⟩ := mapM_mem hxs (i / l.length) (List.mem_range.2 h2)
      obtain ⟨v, hv, hcr⟩ := (trod_flat n e l hl fuel _ _ hy).2 _ k h3
      rw [List.getElem?_take] at hv
      split at hv
      · rw [List.getElem?_drop, e1] at hv
        refine ⟨v, ?_, hcr⟩
        rw [← hv]; congr 1
        have := Nat.div_add_mod i l.length
        rw [Nat.mul_comm]; exact this.symm
      · simp at hv
    · simp at h
def RdV {α : Type} (w : World) (D : Dec α) (v : Value) : Prop := ∃ a, VR w noA noR (D.enc a) v
def RdL {α : Type} (w : World) (E : DecL α) (cs : List Value) : Prop := ∃ a, VRs w noA noR (E.enc a) cs.toArray
def tagK : FK → CK
  | .int k => .int k
  | .bool => .bool
  | .str => .str
  | .sl _ => .any
def flatK : FK → Bool
  | .sl _ => false
  | _ => true
section
variable {w : World} {α β : Type}
theorem rd_int {k : IntKind} {v : Value} (h : CellR enc P w (.int k) v) : RdV w (dI k) v := by
  obtain ⟨n, rfl, _⟩ := h; exact ⟨n, .int⟩
theorem rd_scal {k : FK} (hk : flatK k = true) {v : Value} (h : CellR enc P w k v) : ∃ x, ofScal v = some x ∧ conf (tagK k) x = x := by
  cases k with
  | int k => obtain ⟨n, rfl, _⟩ := h; exact ⟨_, rfl, rfl⟩
  | bool => obtain ⟨n, rfl⟩ := h; exact ⟨_, rfl, rfl⟩
  | str => obtain ⟨n, rfl, _⟩ := h; exact ⟨_, rfl, rfl⟩
  | sl e => simp [flatK] at hk
theorem ckAt_map : ∀ {ks : List FK} {i : Nat} {k : FK}, ks[i]? = some k → ckAt (ks.map tagK) i = tagK k
  | [], i, k, h => by simp at h
  | a :: ks, 0, k, h => by simp at h; subst h; rfl
  | a :: ks, i + 1, k, h => by simp only [List.map_cons, ckAt]; exact ckAt_map (by simpa using h)
theorem mapM_range {f : Nat → Option Value} {n : Nat} {row : List Value} (h : (List.range n).mapM f = some row) (i : Nat) (hi : i < n) : f i = row[i]? := by
  have key : ∀ (l : List Nat) (row : List Value), l.mapM f = some row → ∀ (i x : Nat), l[i]? = some x → f x = row[i]? := by
    intro l
    induction l with
    | nil => intro row _ i x hx; simp at hx
    | cons a l ih =>
      intro row h i x hx
      rw [List.mapM_cons] at h
      cases ha : f a with
      | none => simp [ha] at h
      | some b =>
        cases hl : l.mapM f with
        | none => simp [ha, hl] at h
        | some bs =>
          simp [ha, hl] at h
          subst h
          cases i with
          | zero => simp at hx; subst hx; simpa using ha
          | succ i => simpa using ih bs hl i x (by simpa using hx)
  exact key _ _ h i i (by simp [hi])
theorem cells_at {a : Addr} {n : Nat} {row : List Value} (h : w.cells? 0 a n = some row) : row.length = n ∧ ∀ i, i < n → w.cell? (a.add i) = row[i]? := by
  unfold World.cells? at h
  rw [if_pos (Nat.zero_le _)] at h
  refine ⟨?_, fun i hi => mapM_range h i hi⟩
  have : ∀ (l : List Nat) (row : List Value), (l.mapM fun i => w.cell? (a.add i)) = some row → row.length = l.length := by
    intro l
    induction l with
    | nil => intro row h; simp at h; subst h; rfl
    | cons x l ih =>
      intro row h
      rw [List.mapM_cons] at h
      cases hx : w.cell? (a.add x) with
      | none => simp [hx] at h
      | some b =>
        cases hl : l.mapM (fun i => w.cell? (a.add i)) with
        | none => simp [hx, hl] at h
        | some bs => simp [hx, hl] at h; subst h; simp [ih bs hl]
  simpa using this _ _ h
theorem cell_spot {a : Addr} {v : Value} (h : w.cell? a = some v) : a.spot = none ∧ a.block < w.heap.size := by
  unfold World.cell? at h
  split at h
  · rename_i c _ _ hb
    split at h
    · simp at h
    · rename_i hs; exact ⟨by simpa using hs, (Array.getElem?_eq_some_iff.1 hb).1⟩
  · simp at h
theorem rd_sl {e : TypeId} {n : Nat} {ks : List FK} (hf : flat P n e = some ks) (hwd : P.cellsOf e = ks.length) (hpos : 0 < ks.length) (hk : ks.all flatK = true) {v : Value} (h : CellR enc P w (.sl e) v) : RdV w (dX ks.length (ks.map tagK)) v := by
  rcases h with rfl | ⟨a, len, cap, rfl, h1, h2, h3⟩
  · exact ⟨⟨0, 0, 0, none, fun _ _ => .top⟩, (dX ks.length (ks.map tagK)).ok .nilsl _ rfl _ _ _ _ .nilsl⟩
  · rcases a with ⟨b, off, spot⟩
    rw [hwd] at h3
    have hspot0 : 0 < len → spot = none := fun h0 => by
      obtain ⟨row, hr, fuel, x, hx⟩ := h3 0 h0
      obtain ⟨hl, hat⟩ := cells_at hr
      have h0' := hat 0 hpos
      rw [List.getElem?_eq_getElem (by omega)] at h0'
      have := (cell_spot h0').1
      simpa [Addr.add] using this
    have hcell : ∀ i k, i < len → k < ks.length → ∃ v kk, ks[k]? = some kk ∧ w.cell? ⟨b, off + (i * ks.length + k), spot⟩ = some v ∧ CellR enc P w kk v ∧ spot = none ∧ b < w.heap.size := by
      intro i k hi hkk
      obtain ⟨row, hr, fuel, x, hx⟩ := h3 i hi
      obtain ⟨hl, hat⟩ := cells_at hr
      obtain ⟨v, hv, hc⟩ := (trod_flat n e ks hf fuel row x hx).2 k _ (List.getElem?_eq_getElem hkk)
      have := hat k hkk
      rw [hv] at this
      obtain ⟨hs, hb⟩ := cell_spot this
      have hspot : spot = none := hspot0 (by omega)
      subst hspot
      rw [addr_add, addr_add] at this hb
      exact ⟨v, _, List.getElem?_eq_getElem hkk, by rw [← Nat.add_assoc]; exact this, hc, rfl, hb⟩
    let u : Nat → Nat → Value := fun i k => (w.cell? ⟨b, off + (i * ks.length + k), none⟩).getD undef
    refine ⟨⟨len, 0, len, none, fun i k => (ofScal (u i k)).getD .top⟩, .xsl b off u ⟨h1, ?_⟩ (fun x hx => by cases hx) (by simp) (fun h0 => ?_) (fun h0 i k hi hkk => ?_) (fun h0 i k hi hkk => ?_)⟩
    · have : cap ≤ 2 ^ 63 - 1 := h2
      show len ≤ 9223372036854775807
      omega
    · obtain ⟨v, kk, _, _, _, hs, hb⟩ := hcell 0 0 h0 hpos
      subst hs
      exact ⟨by simp, hb, fun h => h⟩
    · obtain ⟨v, kk, _, hv, _, hs, _⟩ := hcell i k hi hkk
      subst hs
      simp only [u, hv, Option.getD_some]
    · obtain ⟨v, kk, hkk', hv, hc, hs, _⟩ := hcell i k hi hkk
      subst hs
      have hu : u i k = v := by simp only [u, hv, Option.getD_some]
      obtain ⟨x, hx, hcf⟩ := rd_scal (List.all_eq_true.1 hk kk (List.mem_of_getElem? hkk')) hc
      have e : (⟨ks.map tagK, fun i k => (ofScal (u i k)).getD .top⟩ : Get AV).cell i k = x := by
        simp only [Get.cell, hu, hx, Option.getD_some, ckAt_map hkk', hcf]
      rw [e, hu]
      exact ofScal_rel hx
theorem rdL_cons {D : Dec α} {E : DecL β} {v : Value} {cs : List Value} (h : RdV w D v) (k : RdL w E cs) : RdL w (.cons D E) (v :: cs) := by
  obtain ⟨a, ha⟩ := h; obtain ⟨b, hb⟩ := k
  refine ⟨(a, b), ?_⟩
  have := VRs.cons' ha hb
  show VRs w noA noR (D.enc a :: E.enc b) (v :: cs).toArray
  simpa using this
theorem rdL_last {D : Dec α} {v : Value} (h : RdV w D v) : RdL w (.last D 0) [v] := by
  obtain ⟨a, ha⟩ := h
  exact ⟨a, VRs.one ha⟩
theorem okWide_cell {r : Reach} {b : Nat} {t : TypeId} {v : Value} (hu : aggB P t = some false) (h : Value.okWide P w r b t v) : v.cells = #[v] := by
  unfold Value.okWide at h
  unfold aggB at hu
  split at h
  · simp_all
  · simp_all
  · cases v with
    | agg cs =>
      unfold Cell.okWide at h
      split at h <;> try simp_all
      unfold Cell.ok at h
      split at h <;> simp_all
    | _ => rfl
theorem param_cell {n : Nat} {t : TypeId} {k : FK} {r : Reach} {b : Nat} {v : Value} {d : DataW H} {p : List MemPlace} (hf : flat P n t = some [k]) (hu : aggB P t = some false) (hok : Value.okWide P w r b t v) (h : DataW.Trod enc P w 0 (fun _ => true) true t v d p) : CellR enc P w k v := by
  obtain ⟨fuel, hx⟩ := h
  rw [okWide_cell hu hok] at hx
  obtain ⟨v', hv, hc⟩ := (trod_flat n t [k] hf fuel _ _ hx).2 0 k rfl
  simp at hv; subst hv; exact hc
end
theorem law_contract {f : FuncId} {fn : Func} {s : ChangeSpec} {apart fresh handsOn again : Bool} {α : Type} (D : DecL α) (hl : laidOutB P = true) (hts : (fn.params.toList.all fun t => P.readableRec t && decide (t < P.types.size)) = true)
    (hvars : s.vars = []) (hfn : ∀ (ds : List (DataW H)), ds.length = fn.params.toList.length → s.fn H (ds ++ []) = { results := [.lit (.bool true)], args := ds })
    (hres : ∀ (W' : World) (b : Nat) (sp : Nat → Bool) (hd : Bool), DataW.TrodAll enc P W' b sp hd fn.resultTypes.toList ((Value.bool true).resultList fn.resultTypes.size) [.lit (.bool true)] [])
    (hok : ∀ (W' : World) (j : Nat) (t : TypeId) (r : Value), fn.resultTypes[j]? = some t → ((Value.bool true).resultList fn.resultTypes.size)[j]? = some r → Value.okWide P W' .any 0 t r)
    (hread : ∀ (W : World) (base : Nat) (args : Array Value) (ds : List (DataW H)) (p : List MemPlace), (∀ (j : Nat) t v, fn.params[j]? = some t → args[j]? = some v → Value.okWide P W .any base t v) →
      DataW.TrodAll enc P W 0 (fun _ => true) true fn.params.toList args.toList ds p → RdL W D args.toList)
    (hpc : ∀ a, PC P f (D.enc a) (.bool true))
    (W : World) (base : Nat) (args : Array Value) (ds gs : List (DataW H)) (before : List MemPlace) (hval : ∀ (j : Nat) t v, fn.params[j]? = some t → args[j]? = some v → Value.okWide P W .any base t v)
    (hW : DataW.Whole enc P fn.params.toList s.vars apart W args.toList ds gs before) :
    Calls P f args W fun e W' => ∃ v, e = .returned v ∧ s.post enc P fn apart fresh handsOn again W args v W' := by
  have hW' := hW
  obtain ⟨p, q, hA, hV, hbef, hfz, hnd⟩ := hW
  have hV' := hV
  rw [hvars] at hV'
  obtain ⟨rfl, rfl⟩ := trodVars_none hV'
  obtain ⟨a, ha⟩ := hread W base args ds p hval hA
  have h := callsIn_wide.1 (hpc a none 0 noA W args (fun b hb => hb.elim) (by simpa using ha))
  have hlen : ds.length = fn.params.toList.length := by
    have : ∀ (ts : List TypeId) (vs : List Value) (ds : List (DataW H)) (p : List MemPlace), DataW.TrodAll enc P W 0 (fun _ => true) true ts vs ds p → ds.length = ts.length := by
      intro ts
      induction ts with
      | nil => intro vs ds p h; obtain ⟨_, rfl, _⟩ := trodAll_nil h; rfl
      | cons t ts ih =>
        intro vs ds p h
        obtain ⟨_, _, _, _, _, _, _, rfl, _, _, h2⟩ := trodAll_cons h
        simp [ih _ _ _ h2]
    exact this _ _ _ _ hA
  refine h.mono fun e W' hx => ?_
  obtain ⟨v, he, hv, hb0⟩ := hx
  have hb := hb0.toBelow
  obtain rfl : v = .bool true := by cases hv; rfl
  have hpl : before = p := by rw [hbef]; simp
  subst hpl
  refine ⟨_, he, post_of_below (pa := before) (pv := []) hW' (fun b sp hd => ?_) (fun sp hsp => ?_) (fun sp _ => ?_) (by simp) hb (hok W')⟩
  · rw [hfn ds hlen]; exact hres W' b sp hd
  · rw [hfn ds hlen]
    refine trodAll_stays hl hb (fun t ht => ?_) hA (fun x hx => hA.lt x hx) hsp
    have := List.all_eq_true.1 hts t ht
    simpa using this
  · rw [hfn ds hlen, hvars]; rfl
end
end Go.Proofs.YtelpdkojdfnmiaaGreat.Ev
/-! LR0 -/
namespace Go.Proofs.YtelpdkojdfnmiaaGreat
open Ev K
set_option maxRecDepth 100000
section
variable {H : Type} {enc : TypeId × Value → H} {w : World}
theorem fl_item : flat P 8 73 = some (List.replicate 7 (.int .i64)) := by kernel_rfl
theorem fl_int : flat P 8 3 = some [.int .i64] := by kernel_rfl
theorem fl_items : flat P 8 29 = some [.sl 73] := by kernel_rfl
theorem ag_int : aggB P 3 = some false := by kernel_rfl
theorem ag_items : aggB P 29 = some false := by kernel_rfl
theorem rx_items {v : Value} (h : CellR enc P w (.sl 73) v) : RdV w (dRows rItem) v := by
  obtain ⟨a, ha⟩ := rd_sl fl_item (by kernel_rfl) (by decide) (by decide) h
  exact ⟨decF rItem a.len fun i => a.f (a.row + i), (dRows rItem).ok _ _ rfl _ _ _ _ ha⟩
variable {r : Reach} {b : Nat} {v : Value} {d : DataW H} {p : List MemPlace}
theorem rp_items (hok : Value.okWide P w r b 29 v) (h : DataW.Trod enc P w 0 (fun _ => true) true 29 v d p) : RdV w (dRows rItem) v := rx_items (param_cell fl_items ag_items hok h)
theorem rp_int (hok : Value.okWide P w r b 3 v) (h : DataW.Trod enc P w 0 (fun _ => true) true 3 v d p) : RdV w (dI .i64) v := rd_int (param_cell fl_int ag_int hok h)
end
end Go.Proofs.YtelpdkojdfnmiaaGreat
/-! LB8 -/
namespace Go.Proofs.YtelpdkojdfnmiaaGreat
open Ev K
set_option maxRecDepth 100000
def O_nt : DecB (List (Int × Int) × List (Int × Int) × Unit) := .maps 75 false rPII (.maps 75 false rPII .nil)
def O_nt1 : DecB (List (Int × Int) × Unit) := .maps 75 false rPII .nil
def S_nt3 := DecS.mk0 (.cons (dRows rItem) (.cons (dInt) (.skips 3 (.cons (dRows rPost) (.skip (.cons (dRows rBal) (.skip (.unit (dMp 0) (.unit (dMp 1) (.cons (dInt) (.last (dInt) 168))))))))))) O_nt
def X_nt3 := DecX.or (DecX.one (.exit 2) [0, 1, 5, 7, 9, 10, 11] (DecS.mk0 (.cons (dRows rItem) (.cons (dInt) (.skips 3 (.cons (dRows rPost) (.skip (.cons (dRows rBal) (.skip (.unit (dMp 0) (.unit (dMp 1) (.last (dInt) 169)))))))))) O_nt)) (DecX.one .ret [4] (DecS.mk0 (.skips 4 (.last (dB) 176)) .nil))
noncomputable def K.st_nt3 := loopT1 P BLQ02 30 9 113 [12, 10, 9, 5, 0, 7, 1, 11] S_nt3 X_nt3
theorem sl_nt3 : ∀ s, (K.st_nt3) s = T.run (
  .br (decide (s.1.2.2.2.2.2 < (↑(clampL (List.length s.1.1)) : Int))) (
    .chk (decide ((0 : Int) ≤ s.1.2.2.2.2.2 ∧ s.1.2.2.2.2.2 < (↑(List.length s.1.1) : Int))) <|
    .chk (decide ((0 : Int) ≤ s.1.2.2.2.2.1 ∧ s.1.2.2.2.2.1 < (↑(List.length s.1.2.2.1) : Int))) <|
    .br (numOf (encF rItem s.1.1 ((0 : Nat) + Int.toNat s.1.2.2.2.2.2) (0 : Nat)) != numOf (encF rPost s.1.2.2.1 ((0 : Nat) + Int.toNat s.1.2.2.2.2.1) (nat_lit 0))) (
      .ret (Sum.inl ((decF rItem (List.length s.1.1) fun i => encF rItem s.1.1 ((0 : Nat) + i), s.1.2.1, decF rPost (List.length s.1.2.2.1) fun i => encF rPost s.1.2.2.1 ((0 : Nat) + i), decF rBal (List.length s.1.2.2.2.1) fun i => encF rBal s.1.2.2.2.1 ((0 : Nat) + i), s.1.2.2.2.2.1, IntKind.wrap IntKind.i64 (s.1.2.2.2.2.2 + (1 : Int))), decF rPII (List.length s.2.1) (encF rPII s.2.1), decF rPII (List.length s.2.2.1) (encF rPII s.2.2.1), PUnit.unit))) (
      .br (numOf (encF rItem s.1.1 ((0 : Nat) + Int.toNat s.1.2.2.2.2.2) (nat_lit 2)) == (3 : Int)) (
        .br (decide (numOf (mraw (mputG (Get.mk [CK.int IntKind.i64, CK.int IntKind.i64] (encF rPII s.2.1)) (mputP (mfind (Get.mk [CK.int IntKind.i64, CK.int IntKind.i64] (encF rPII s.2.1)) (AV.int IntKind.i64 (numOf (encF rItem s.1.1 ((0 : Nat) + Int.toNat s.1.2.2.2.2.2) (nat_lit 5)))) (List.length s.2.1)) (List.length s.2.1)) [AV.int IntKind.i64 (numOf (encF rItem s.1.1 ((0 : Nat) + Int.toNat s.1.2.2.2.2.2) (nat_lit 5))), AV.int IntKind.i64 (IntKind.wrap IntKind.i64 (numOf (mraw (Get.mk [CK.int IntKind.i64, CK.int IntKind.i64] (encF rPII s.2.1)) (mfind (Get.mk [CK.int IntKind.i64, CK.int IntKind.i64] (encF rPII s.2.1)) (AV.int IntKind.i64 (numOf (encF rItem s.1.1 ((0 : Nat) + Int.toNat s.1.2.2.2.2.2) (nat_lit 5)))) (List.length s.2.1)) (AV.int IntKind.i64 (0 : Int)) (1 : Nat)) + numOf (encF rItem s.1.1 ((0 : Nat) + Int.toNat s.1.2.2.2.2.2) (nat_lit 6))))]) (mfind (mputG (Get.mk [CK.int IntKind.i64, CK.int IntKind.i64] (encF rPII s.2.1)) (mputP (mfind (Get.mk [CK.int IntKind.i64, CK.int IntKind.i64] (encF rPII s.2.1)) (AV.int IntKind.i64 (numOf (encF rItem s.1.1 ((0 : Nat) + Int.toNat s.1.2.2.2.2.2) (nat_lit 5)))) (List.length s.2.1)) (List.length s.2.1)) [AV.int IntKind.i64 (numOf (encF rItem s.1.1 ((0 : Nat) + Int.toNat s.1.2.2.2.2.2) (nat_lit 5))), AV.int IntKind.i64 (IntKind.wrap IntKind.i64 (numOf (mraw (Get.mk [CK.int IntKind.i64, CK.int IntKind.i64] (encF rPII s.2.1)) (mfind (Get.mk [CK.int IntKind.i64, CK.int IntKind.i64] (encF rPII s.2.1)) (AV.int IntKind.i64 (numOf (encF rItem s.1.1 ((0 : Nat) + Int.toNat s.1.2.2.2.2.2) (nat_lit 5)))) (List.length s.2.1)) (AV.int IntKind.i64 (0 : Int)) (1 : Nat)) + numOf (encF rItem s.1.1 ((0 : Nat) + Int.toNat s.1.2.2.2.2.2) (nat_lit 6))))]) (AV.int IntKind.i64 (numOf (encF rItem s.1.1 ((0 : Nat) + Int.toNat s.1.2.2.2.2.2) (nat_lit 5)))) (mputN (mfind (Get.mk [CK.int IntKind.i64, CK.int IntKind.i64] (encF rPII s.2.1)) (AV.int IntKind.i64 (numOf (encF rItem s.1.1 ((0 : Nat) + Int.toNat s.1.2.2.2.2.2) (nat_lit 5)))) (List.length s.2.1)) (List.length s.2.1))) (AV.int IntKind.i64 (0 : Int)) (1 : Nat)) < (0 : Int))) (
          .ret (Sum.inr (Sum.inr (false, PUnit.unit)))) (
          .br (decide (numOf (mraw (Get.mk [CK.int IntKind.i64, CK.int IntKind.i64] (encF rPII s.2.2.1)) (mfind (Get.mk [CK.int IntKind.i64, CK.int IntKind.i64] (encF rPII s.2.2.1)) (AV.int IntKind.i64 (numOf (encF rItem s.1.1 ((0 : Nat) + Int.toNat s.1.2.2.2.2.2) (nat_lit 5)))) (List.length s.2.2.1)) (AV.int IntKind.i64 (0 : Int)) (1 : Nat)) < (0 : Int))) (
            .ret (Sum.inr (Sum.inr (false, PUnit.unit)))) (
            .ret (Sum.inr (Sum.inl ((decF rItem (List.length s.1.1) fun i => encF rItem s.1.1 ((0 : Nat) + i), s.1.2.1, decF rPost (List.length s.1.2.2.1) fun i => encF rPost s.1.2.2.1 ((0 : Nat) + i), decF rBal (List.length s.1.2.2.2.1) fun i => encF rBal s.1.2.2.2.1 ((0 : Nat) + i), s.1.2.2.2.2.1), decF rPII (mputN (mfind (Get.mk [CK.int IntKind.i64, CK.int IntKind.i64] (encF rPII s.2.1)) (AV.int IntKind.i64 (numOf (encF rItem s.1.1 ((0 : Nat) + Int.toNat s.1.2.2.2.2.2) (nat_lit 5)))) (List.length s.2.1)) (List.length s.2.1)) (Get.f (mputG (Get.mk [CK.int IntKind.i64, CK.int IntKind.i64] (encF rPII s.2.1)) (mputP (mfind (Get.mk [CK.int IntKind.i64, CK.int IntKind.i64] (encF rPII s.2.1)) (AV.int IntKind.i64 (numOf (encF rItem s.1.1 ((0 : Nat) + Int.toNat s.1.2.2.2.2.2) (nat_lit 5)))) (List.length s.2.1)) (List.length s.2.1)) [AV.int IntKind.i64 (numOf (encF rItem s.1.1 ((0 : Nat) + Int.toNat s.1.2.2.2.2.2) (nat_lit 5))), AV.int IntKind.i64 (IntKind.wrap IntKind.i64 (numOf (mraw (Get.mk [CK.int IntKind.i64, CK.int IntKind.i64] (encF rPII s.2.1)) (mfind (Get.mk [CK.int IntKind.i64, CK.int IntKind.i64] (encF rPII s.2.1)) (AV.int IntKind.i64 (numOf (encF rItem s.1.1 ((0 : Nat) + Int.toNat s.1.2.2.2.2.2) (nat_lit 5)))) (List.length s.2.1)) (AV.int IntKind.i64 (0 : Int)) (1 : Nat)) + numOf (encF rItem s.1.1 ((0 : Nat) + Int.toNat s.1.2.2.2.2.2) (nat_lit 6))))])), decF rPII (List.length s.2.2.1) (encF rPII s.2.2.1), PUnit.unit)))))) (
        .br (numOf (encF rItem s.1.1 ((0 : Nat) + Int.toNat s.1.2.2.2.2.2) (nat_lit 2)) == (4 : Int)) (
          .br (decide (numOf (mraw (mputG (Get.mk [CK.int IntKind.i64, CK.int IntKind.i64] (encF rPII s.2.1)) (mputP (mfind (Get.mk [CK.int IntKind.i64, CK.int IntKind.i64] (encF rPII s.2.1)) (AV.int IntKind.i64 (numOf (encF rItem s.1.1 ((0 : Nat) + Int.toNat s.1.2.2.2.2.2) (nat_lit 5)))) (List.length s.2.1)) (List.length s.2.1)) [AV.int IntKind.i64 (numOf (encF rItem s.1.1 ((0 : Nat) + Int.toNat s.1.2.2.2.2.2) (nat_lit 5))), AV.int IntKind.i64 (IntKind.wrap IntKind.i64 (numOf (mraw (Get.mk [CK.int IntKind.i64, CK.int IntKind.i64] (encF rPII s.2.1)) (mfind (Get.mk [CK.int IntKind.i64, CK.int IntKind.i64] (encF rPII s.2.1)) (AV.int IntKind.i64 (numOf (encF rItem s.1.1 ((0 : Nat) + Int.toNat s.1.2.2.2.2.2) (nat_lit 5)))) (List.length s.2.1)) (AV.int IntKind.i64 (0 : Int)) (1 : Nat)) - numOf (encF rItem s.1.1 ((0 : Nat) + Int.toNat s.1.2.2.2.2.2) (nat_lit 6))))]) (mfind (mputG (Get.mk [CK.int IntKind.i64, CK.int IntKind.i64] (encF rPII s.2.1)) (mputP (mfind (Get.mk [CK.int IntKind.i64, CK.int IntKind.i64] (encF rPII s.2.1)) (AV.int IntKind.i64 (numOf (encF rItem s.1.1 ((0 : Nat) + Int.toNat s.1.2.2.2.2.2) (nat_lit 5)))) (List.length s.2.1)) (List.length s.2.1)) [AV.int IntKind.i64 (numOf (encF rItem s.1.1 ((0 : Nat) + Int.toNat s.1.2.2.2.2.2) (nat_lit 5))), AV.int IntKind.i64 (IntKind.wrap IntKind.i64 (numOf (mraw (Get.mk [CK.int IntKind.i64, CK.int IntKind.i64] (encF rPII s.2.1)) (mfind (Get.mk [CK.int IntKind.i64, CK.int IntKind.i64] (encF rPII s.2.1)) (AV.int IntKind.i64 (numOf (encF rItem s.1.1 ((0 : Nat) + Int.toNat s.1.2.2.2.2.2) (nat_lit 5)))) (List.length s.2.1)) (AV.int IntKind.i64 (0 : Int)) (1 : Nat)) - numOf (encF rItem s.1.1 ((0 : Nat) + Int.toNat s.1.2.2.2.2.2) (nat_lit 6))))]) (AV.int IntKind.i64 (numOf (encF rItem s.1.1 ((0 : Nat) + Int.toNat s.1.2.2.2.2.2) (nat_lit 5)))) (mputN (mfind (Get.mk [CK.int IntKind.i64, CK.int IntKind.i64] (encF rPII s.2.1)) (AV.int IntKind.i64 (numOf (encF rItem s.1.1 ((0 : Nat) + Int.toNat s.1.2.2.2.2.2) (nat_lit 5)))) (List.length s.2.1)) (List.length s.2.1))) (AV.int IntKind.i64 (0 : Int)) (1 : Nat)) < (0 : Int))) (
            .ret (Sum.inr (Sum.inr (false, PUnit.unit)))) (
            .br (decide (numOf (mraw (Get.mk [CK.int IntKind.i64, CK.int IntKind.i64] (encF rPII s.2.2.1)) (mfind (Get.mk [CK.int IntKind.i64, CK.int IntKind.i64] (encF rPII s.2.2.1)) (AV.int IntKind.i64 (numOf (encF rItem s.1.1 ((0 : Nat) + Int.toNat s.1.2.2.2.2.2) (nat_lit 5)))) (List.length s.2.2.1)) (AV.int IntKind.i64 (0 : Int)) (1 : Nat)) < (0 : Int))) (
              .ret (Sum.inr (Sum.inr (false, PUnit.unit)))) (
              .ret (Sum.inr (Sum.inl ((decF rItem (List.length s.1.1) fun i => encF rItem s.1.1 ((0 : Nat) + i), s.1.2.1, decF rPost (List.length s.1.2.2.1) fun i => encF rPost s.1.2.2.1 ((0 : Nat) + i), decF rBal (List.length s.1.2.2.2.1) fun i => encF rBal s.1.2.2.2.1 ((0 : Nat) + i), s.1.2.2.2.2.1), decF rPII (mputN (mfind (Get.mk [CK.int IntKind.i64, CK.int IntKind.i64] (encF rPII s.2.1)) (AV.int IntKind.i64 (numOf (encF rItem s.1.1 ((0 : Nat) + Int.toNat s.1.2.2.2.2.2) (nat_lit 5)))) (List.length s.2.1)) (List.length s.2.1)) (Get.f (mputG (Get.mk [CK.int IntKind.i64, CK.int IntKind.i64] (encF rPII s.2.1)) (mputP (mfind (Get.mk [CK.int IntKind.i64, CK.int IntKind.i64] (encF rPII s.2.1)) (AV.int IntKind.i64 (numOf (encF rItem s.1.1 ((0 : Nat) + Int.toNat s.1.2.2.2.2.2) (nat_lit 5)))) (List.length s.2.1)) (List.length s.2.1)) [AV.int IntKind.i64 (numOf (encF rItem s.1.1 ((0 : Nat) + Int.toNat s.1.2.2.2.2.2) (nat_lit 5))), AV.int IntKind.i64 (IntKind.wrap IntKind.i64 (numOf (mraw (Get.mk [CK.int IntKind.i64, CK.int IntKind.i64] (encF rPII s.2.1)) (mfind (Get.mk [CK.int IntKind.i64, CK.int IntKind.i64] (encF rPII s.2.1)) (AV.int IntKind.i64 (numOf (encF rItem s.1.1 ((0 : Nat) + Int.toNat s.1.2.2.2.2.2) (nat_lit 5)))) (List.length s.2.1)) (AV.int IntKind.i64 (0 : Int)) (1 : Nat)) - numOf (encF rItem s.1.1 ((0 : Nat) + Int.toNat s.1.2.2.2.2.2) (nat_lit 6))))])), decF rPII (List.length s.2.2.1) (encF rPII s.2.2.1), PUnit.unit)))))) (
          .br (numOf (encF rItem s.1.1 ((0 : Nat) + Int.toNat s.1.2.2.2.2.2) (nat_lit 2)) == (5 : Int)) (
            .br (decide (numOf (mraw (Get.mk [CK.int IntKind.i64, CK.int IntKind.i64] (encF rPII s.2.1)) (mfind (Get.mk [CK.int IntKind.i64, CK.int IntKind.i64] (encF rPII s.2.1)) (AV.int IntKind.i64 (numOf (encF rItem s.1.1 ((0 : Nat) + Int.toNat s.1.2.2.2.2.2) (nat_lit 5)))) (List.length s.2.1)) (AV.int IntKind.i64 (0 : Int)) (1 : Nat)) < (0 : Int))) (
              .ret (Sum.inr (Sum.inr (false, PUnit.unit)))) (
              .br (decide (numOf (mraw (mputG (Get.mk [CK.int IntKind.i64, CK.int IntKind.i64] (encF rPII s.2.2.1)) (mputP (mfind (Get.mk [CK.int IntKind.i64, CK.int IntKind.i64] (encF rPII s.2.2.1)) (AV.int IntKind.i64 (numOf (encF rItem s.1.1 ((0 : Nat) + Int.toNat s.1.2.2.2.2.2) (nat_lit 5)))) (List.length s.2.2.1)) (List.length s.2.2.1)) [AV.int IntKind.i64 (numOf (encF rItem s.1.1 ((0 : Nat) + Int.toNat s.1.2.2.2.2.2) (nat_lit 5))), AV.int IntKind.i64 (IntKind.wrap IntKind.i64 (numOf (mraw (Get.mk [CK.int IntKind.i64, CK.int IntKind.i64] (encF rPII s.2.2.1)) (mfind (Get.mk [CK.int IntKind.i64, CK.int IntKind.i64] (encF rPII s.2.2.1)) (AV.int IntKind.i64 (numOf (encF rItem s.1.1 ((0 : Nat) + Int.toNat s.1.2.2.2.2.2) (nat_lit 5)))) (List.length s.2.2.1)) (AV.int IntKind.i64 (0 : Int)) (1 : Nat)) + numOf (encF rItem s.1.1 ((0 : Nat) + Int.toNat s.1.2.2.2.2.2) (nat_lit 6))))]) (mfind (mputG (Get.mk [CK.int IntKind.i64, CK.int IntKind.i64] (encF rPII s.2.2.1)) (mputP (mfind (Get.mk [CK.int IntKind.i64, CK.int IntKind.i64] (encF rPII s.2.2.1)) (AV.int IntKind.i64 (numOf (encF rItem s.1.1 ((0 : Nat) + Int.toNat s.1.2.2.2.2.2) (nat_lit 5)))) (List.length s.2.2.1)) (List.length s.2.2.1)) [AV.int IntKind.i64 (numOf (encF rItem s.1.1 ((0 : Nat) + Int.toNat s.1.2.2.2.2.2) (nat_lit 5))), AV.int IntKind.i64 (IntKind.wrap IntKind.i64 (numOf (mraw (Get.mk [CK.int IntKind.i64, CK.int IntKind.i64] (encF rPII s.2.2.1)) (mfind (Get.mk [CK.int IntKind.i64, CK.int IntKind.i64] (encF rPII s.2.2.1)) (AV.int IntKind.i64 (numOf (encF rItem s.1.1 ((0 : Nat) + Int.toNat s.1.2.2.2.2.2) (nat_lit 5)))) (List.length s.2.2.1)) (AV.int IntKind.i64 (0 : Int)) (1 : Nat)) + numOf (encF rItem s.1.1 ((0 : Nat) + Int.toNat s.1.2.2.2.2.2) (nat_lit 6))))]) (AV.int IntKind.i64 (numOf (encF rItem s.1.1 ((0 : Nat) + Int.toNat s.1.2.2.2.2.2) (nat_lit 5)))) (mputN (mfind (Get.mk [CK.int IntKind.i64, CK.int IntKind.i64] (encF rPII s.2.2.1)) (AV.int IntKind.i64 (numOf (encF rItem s.1.1 ((0 : Nat) + Int.toNat s.1.2.2.2.2.2) (nat_lit 5)))) (List.length s.2.2.1)) (List.length s.2.2.1))) (AV.int IntKind.i64 (0 : Int)) (1 : Nat)) < (0 : Int))) (
                .ret (Sum.inr (Sum.inr (false, PUnit.unit)))) (
                .ret (Sum.inr (Sum.inl ((decF rItem (List.length s.1.1) fun i => encF rItem s.1.1 ((0 : Nat) + i), s.1.2.1, decF rPost (List.length s.1.2.2.1) fun i => encF rPost s.1.2.2.1 ((0 : Nat) + i), decF rBal (List.length s.1.2.2.2.1) fun i => encF rBal s.1.2.2.2.1 ((0 : Nat) + i), s.1.2.2.2.2.1), decF rPII (List.length s.2.1) (encF rPII s.2.1), decF rPII (mputN (mfind (Get.mk [CK.int IntKind.i64, CK.int IntKind.i64] (encF rPII s.2.2.1)) (AV.int IntKind.i64 (numOf (encF rItem s.1.1 ((0 : Nat) + Int.toNat s.1.2.2.2.2.2) (nat_lit 5)))) (List.length s.2.2.1)) (List.length s.2.2.1)) (Get.f (mputG (Get.mk [CK.int IntKind.i64, CK.int IntKind.i64] (encF rPII s.2.2.1)) (mputP (mfind (Get.mk [CK.int IntKind.i64, CK.int IntKind.i64] (encF rPII s.2.2.1)) (AV.int IntKind.i64 (numOf (encF rItem s.1.1 ((0 : Nat) + Int.toNat s.1.2.2.2.2.2) (nat_lit 5)))) (List.length s.2.2.1)) (List.length s.2.2.1)) [AV.int IntKind.i64 (numOf (encF rItem s.1.1 ((0 : Nat) + Int.toNat s.1.2.2.2.2.2) (nat_lit 5))), AV.int IntKind.i64 (IntKind.wrap IntKind.i64 (numOf (mraw (Get.mk [CK.int IntKind.i64, CK.int IntKind.i64] (encF rPII s.2.2.1)) (mfind (Get.mk [CK.int IntKind.i64, CK.int IntKind.i64] (encF rPII s.2.2.1)) (AV.int IntKind.i64 (numOf (encF rItem s.1.1 ((0 : Nat) + Int.toNat s.1.2.2.2.2.2) (nat_lit 5)))) (List.length s.2.2.1)) (AV.int IntKind.i64 (0 : Int)) (1 : Nat)) + numOf (encF rItem s.1.1 ((0 : Nat) + Int.toNat s.1.2.2.2.2.2) (nat_lit 6))))])), PUnit.unit)))))) (
            .br (numOf (encF rItem s.1.1 ((0 : Nat) + Int.toNat s.1.2.2.2.2.2) (nat_lit 2)) == (6 : Int)) (
              .br (decide (numOf (mraw (Get.mk [CK.int IntKind.i64, CK.int IntKind.i64] (encF rPII s.2.1)) (mfind (Get.mk [CK.int IntKind.i64, CK.int IntKind.i64] (encF rPII s.2.1)) (AV.int IntKind.i64 (numOf (encF rItem s.1.1 ((0 : Nat) + Int.toNat s.1.2.2.2.2.2) (nat_lit 5)))) (List.length s.2.1)) (AV.int IntKind.i64 (0 : Int)) (1 : Nat)) < (0 : Int))) (
                .ret (Sum.inr (Sum.inr (false, PUnit.unit)))) (
                .br (decide (numOf (mraw (mputG (Get.mk [CK.int IntKind.i64, CK.int IntKind.i64] (encF rPII s.2.2.1)) (mputP (mfind (Get.mk [CK.int IntKind.i64, CK.int IntKind.i64] (encF rPII s.2.2.1)) (AV.int IntKind.i64 (numOf (encF rItem s.1.1 ((0 : Nat) + Int.toNat s.1.2.2.2.2.2) (nat_lit 5)))) (List.length s.2.2.1)) (List.length s.2.2.1)) [AV.int IntKind.i64 (numOf (encF rItem s.1.1 ((0 : Nat) + Int.toNat s.1.2.2.2.2.2) (nat_lit 5))), AV.int IntKind.i64 (IntKind.wrap IntKind.i64 (numOf (mraw (Get.mk [CK.int IntKind.i64, CK.int IntKind.i64] (encF rPII s.2.2.1)) (mfind (Get.mk [CK.int IntKind.i64, CK.int IntKind.i64] (encF rPII s.2.2.1)) (AV.int IntKind.i64 (numOf (encF rItem s.1.1 ((0 : Nat) + Int.toNat s.1.2.2.2.2.2) (nat_lit 5)))) (List.length s.2.2.1)) (AV.int IntKind.i64 (0 : Int)) (1 : Nat)) - numOf (encF rItem s.1.1 ((0 : Nat) + Int.toNat s.1.2.2.2.2.2) (nat_lit 6))))]) (mfind (mputG (Get.mk [CK.int IntKind.i64, CK.int IntKind.i64] (encF rPII s.2.2.1)) (mputP (mfind (Get.mk [CK.int IntKind.i64, CK.int IntKind.i64] (encF rPII s.2.2.1)) (AV.int IntKind.i64 (numOf (encF rItem s.1.1 ((0 : Nat) + Int.toNat s.1.2.2.2.2.2) (nat_lit 5)))) (List.length s.2.2.1)) (List.length s.2.2.1)) [AV.int IntKind.i64 (numOf (encF rItem s.1.1 ((0 : Nat) + Int.toNat s.1.2.2.2.2.2) (nat_lit 5))), AV.int IntKind.i64 (IntKind.wrap IntKind.i64 (numOf (mraw (Get.mk [CK.int IntKind.i64, CK.int IntKind.i64] (encF rPII s.2.2.1)) (mfind (Get.mk [CK.int IntKind.i64, CK.int IntKind.i64] (encF rPII s.2.2.1)) (AV.int IntKind.i64 (numOf (encF rItem s.1.1 ((0 : Nat) + Int.toNat s.1.2.2.2.2.2) (nat_lit 5)))) (List.length s.2.2.1)) (AV.int IntKind.i64 (0 : Int)) (1 : Nat)) - numOf (encF rItem s.1.1 ((0 : Nat) + Int.toNat s.1.2.2.2.2.2) (nat_lit 6))))]) (AV.int IntKind.i64 (numOf (encF rItem s.1.1 ((0 : Nat) + Int.toNat s.1.2.2.2.2.2) (nat_lit 5)))) (mputN (mfind (Get.mk [CK.int IntKind.i64, CK.int IntKind.i64] (encF rPII s.2.2.1)) (AV.int IntKind.i64 (numOf (encF rItem s.1.1 ((0 : Nat) + Int.toNat s.1.2.2.2.2.2) (nat_lit 5)))) (List.length s.2.2.1)) (List.length s.2.2.1))) (AV.int IntKind.i64 (0 : Int)) (1 : Nat)) < (0 : Int))) (
                  .ret (Sum.inr (Sum.inr (false, PUnit.unit)))) (
                  .ret (Sum.inr (Sum.inl ((decF rItem (List.length s.1.1) fun i => encF rItem s.1.1 ((0 : Nat) + i), s.1.2.1, decF rPost (List.length s.1.2.2.1) fun i => encF rPost s.1.2.2.1 ((0 : Nat) + i), decF rBal (List.length s.1.2.2.2.1) fun i => encF rBal s.1.2.2.2.1 ((0 : Nat) + i), s.1.2.2.2.2.1), decF rPII (List.length s.2.1) (encF rPII s.2.1), decF rPII (mputN (mfind (Get.mk [CK.int IntKind.i64, CK.int IntKind.i64] (encF rPII s.2.2.1)) (AV.int IntKind.i64 (numOf (encF rItem s.1.1 ((0 : Nat) + Int.toNat s.1.2.2.2.2.2) (nat_lit 5)))) (List.length s.2.2.1)) (List.length s.2.2.1)) (Get.f (mputG (Get.mk [CK.int IntKind.i64, CK.int IntKind.i64] (encF rPII s.2.2.1)) (mputP (mfind (Get.mk [CK.int IntKind.i64, CK.int IntKind.i64] (encF rPII s.2.2.1)) (AV.int IntKind.i64 (numOf (encF rItem s.1.1 ((0 : Nat) + Int.toNat s.1.2.2.2.2.2) (nat_lit 5)))) (List.length s.2.2.1)) (List.length s.2.2.1)) [AV.int IntKind.i64 (numOf (encF rItem s.1.1 ((0 : Nat) + Int.toNat s.1.2.2.2.2.2) (nat_lit 5))), AV.int IntKind.i64 (IntKind.wrap IntKind.i64 (numOf (mraw (Get.mk [CK.int IntKind.i64, CK.int IntKind.i64] (encF rPII s.2.2.1)) (mfind (Get.mk [CK.int IntKind.i64, CK.int IntKind.i64] (encF rPII s.2.2.1)) (AV.int IntKind.i64 (numOf (encF rItem s.1.1 ((0 : Nat) + Int.toNat s.1.2.2.2.2.2) (nat_lit 5)))) (List.length s.2.2.1)) (AV.int IntKind.i64 (0 : Int)) (1 : Nat)) - numOf (encF rItem s.1.1 ((0 : Nat) + Int.toNat s.1.2.2.2.2.2) (nat_lit 6))))])), PUnit.unit)))))) (
              .br (decide (numOf (mraw (Get.mk [CK.int IntKind.i64, CK.int IntKind.i64] (encF rPII s.2.1)) (mfind (Get.mk [CK.int IntKind.i64, CK.int IntKind.i64] (encF rPII s.2.1)) (AV.int IntKind.i64 (numOf (encF rItem s.1.1 ((0 : Nat) + Int.toNat s.1.2.2.2.2.2) (nat_lit 5)))) (List.length s.2.1)) (AV.int IntKind.i64 (0 : Int)) (1 : Nat)) < (0 : Int))) (
                .ret (Sum.inr (Sum.inr (false, PUnit.unit)))) (
                .br (decide (numOf (mraw (Get.mk [CK.int IntKind.i64, CK.int IntKind.i64] (encF rPII s.2.2.1)) (mfind (Get.mk [CK.int IntKind.i64, CK.int IntKind.i64] (encF rPII s.2.2.1)) (AV.int IntKind.i64 (numOf (encF rItem s.1.1 ((0 : Nat) + Int.toNat s.1.2.2.2.2.2) (nat_lit 5)))) (List.length s.2.2.1)) (AV.int IntKind.i64 (0 : Int)) (1 : Nat)) < (0 : Int))) (
                  .ret (Sum.inr (Sum.inr (false, PUnit.unit)))) (
                  .ret (Sum.inr (Sum.inl ((decF rItem (List.length s.1.1) fun i => encF rItem s.1.1 ((0 : Nat) + i), s.1.2.1, decF rPost (List.length s.1.2.2.1) fun i => encF rPost s.1.2.2.1 ((0 : Nat) + i), decF rBal (List.length s.1.2.2.2.1) fun i => encF rBal s.1.2.2.2.1 ((0 : Nat) + i), s.1.2.2.2.2.1), decF rPII (List.length s.2.1) (encF rPII s.2.1), decF rPII (List.length s.2.2.1) (encF rPII s.2.2.1), PUnit.unit))))))))))) (
    .ret (Sum.inr (Sum.inl ((decF rItem (List.length s.1.1) fun i => encF rItem s.1.1 ((0 : Nat) + i), s.1.2.1, decF rPost (List.length s.1.2.2.1) fun i => encF rPost s.1.2.2.1 ((0 : Nat) + i), decF rBal (List.length s.1.2.2.2.1) fun i => encF rBal s.1.2.2.2.1 ((0 : Nat) + i), s.1.2.2.2.2.1), decF rPII (List.length s.2.1) (encF rPII s.2.1), decF rPII (List.length s.2.2.1) (encF rPII s.2.2.1), PUnit.unit))))) := fun s => by kernel_rfl
noncomputable def K.L_nt3 := lim K.st_nt3
noncomputable def BLB81 : Tab := BLQ02.addNode 9 113 (nodeE [12, 10, 9, 5, 0, 7, 1, 11] S_nt3 X_nt3 (fun s => .obs (K.L_nt3 s) .ret))
theorem tLB81 : TabOk P BLB81 := TabOk.addLoop (d := 30) okP tLQ02 (by kernel_rfl) (by kernel_rfl) (fun s r h => obs_ret h)
def S_nt1 := DecS.mk0 (.cons (dRows rItem) (.cons (dInt) (.skips 3 (.cons (dRows rPost) (.skip (.cons (dRows rBal) (.skip (.unit (dMp 0) (.unit (dMp 1) (.last (dInt) 169)))))))))) O_nt
def X_nt1 := DecX.or (DecX.one (.exit 0) [0, 1, 7, 10] (DecS.mk0 (.cons (dRows rItem) (.cons (dInt) (.skips 5 (.cons (dRows rBal) (.skips 2 (.unit (dMp 0) (.tops 170))))))) O_nt1)) (DecX.one .ret [4] (DecS.mk0 (.skips 4 (.last (dB) 176)) .nil))
noncomputable def K.st_nt1 := loopT1 P BLB81 30 9 81 [11, 10, 9, 5, 0, 7, 1] S_nt1 X_nt1
theorem sl_nt1 : ∀ s, (K.st_nt1) s = T.run (
  .br (decide (s.1.2.2.2.2 < (↑(clampL (List.length s.1.2.2.1)) : Int))) (
    .br (decide (s.1.2.2.2.2 > (0 : Int))) (
      .chk (decide ((0 : Int) ≤ IntKind.wrap IntKind.i64 (s.1.2.2.2.2 - (1 : Int)) ∧ IntKind.wrap IntKind.i64 (s.1.2.2.2.2 - (1 : Int)) < (↑(List.length s.1.2.2.1) : Int))) <|
      .chk (decide ((0 : Int) ≤ s.1.2.2.2.2 ∧ s.1.2.2.2.2 < (↑(List.length s.1.2.2.1) : Int))) <|
      .br (numOf (encF rPost s.1.2.2.1 ((0 : Nat) + Int.toNat (IntKind.wrap IntKind.i64 (s.1.2.2.2.2 - (1 : Int)))) (nat_lit 0)) == numOf (encF rPost s.1.2.2.1 ((0 : Nat) + Int.toNat s.1.2.2.2.2) (nat_lit 0))) (
        .ret (Sum.inl ((decF rItem (List.length s.1.1) fun i => encF rItem s.1.1 ((0 : Nat) + i), s.1.2.1, decF rPost (List.length s.1.2.2.1) fun i => encF rPost s.1.2.2.1 ((0 : Nat) + i), decF rBal (List.length s.1.2.2.2.1) fun i => encF rBal s.1.2.2.2.1 ((0 : Nat) + i), IntKind.wrap IntKind.i64 (s.1.2.2.2.2 + (1 : Int))), decF rPII (List.length s.2.1) (encF rPII s.2.1), decF rPII (List.length s.2.2.1) (encF rPII s.2.2.1), PUnit.unit))) (
        .obs (L_nt3 ((decF rItem (List.length s.1.1) fun i => encF rItem s.1.1 ((0 : Nat) + i), s.1.2.1, decF rPost (List.length s.1.2.2.1) fun i => encF rPost s.1.2.2.1 ((0 : Nat) + i), decF rBal (List.length s.1.2.2.2.1) fun i => encF rBal s.1.2.2.2.1 ((0 : Nat) + i), s.1.2.2.2.2, (0 : Int)), decF rPII (List.length s.2.1) (encF rPII s.2.1), decF rPII (List.length s.2.2.1) (encF rPII s.2.2.1), PUnit.unit)) fun x0 =>
          .sum (x0) (fun x1 =>
            .ret (Sum.inl ((decF rItem (List.length x1.1.1) fun i => encF rItem x1.1.1 ((0 : Nat) + i), x1.1.2.1, decF rPost (List.length x1.1.2.2.1) fun i => encF rPost x1.1.2.2.1 ((0 : Nat) + i), decF rBal (List.length x1.1.2.2.2.1) fun i => encF rBal x1.1.2.2.2.1 ((0 : Nat) + i), IntKind.wrap IntKind.i64 (x1.1.2.2.2.2 + (1 : Int))), decF rPII (List.length x1.2.1) (encF rPII x1.2.1), decF rPII (List.length x1.2.2.1) (encF rPII x1.2.2.1), PUnit.unit))) (fun x1 =>
            .ret (Sum.inr (Sum.inr (x1.1, PUnit.unit)))))) (
      .obs (L_nt3 ((decF rItem (List.length s.1.1) fun i => encF rItem s.1.1 ((0 : Nat) + i), s.1.2.1, decF rPost (List.length s.1.2.2.1) fun i => encF rPost s.1.2.2.1 ((0 : Nat) + i), decF rBal (List.length s.1.2.2.2.1) fun i => encF rBal s.1.2.2.2.1 ((0 : Nat) + i), s.1.2.2.2.2, (0 : Int)), decF rPII (List.length s.2.1) (encF rPII s.2.1), decF rPII (List.length s.2.2.1) (encF rPII s.2.2.1), PUnit.unit)) fun x0 =>
        .sum (x0) (fun x1 =>
          .ret (Sum.inl ((decF rItem (List.length x1.1.1) fun i => encF rItem x1.1.1 ((0 : Nat) + i), x1.1.2.1, decF rPost (List.length x1.1.2.2.1) fun i => encF rPost x1.1.2.2.1 ((0 : Nat) + i), decF rBal (List.length x1.1.2.2.2.1) fun i => encF rBal x1.1.2.2.2.1 ((0 : Nat) + i), IntKind.wrap IntKind.i64 (x1.1.2.2.2.2 + (1 : Int))), decF rPII (List.length x1.2.1) (encF rPII x1.2.1), decF rPII (List.length x1.2.2.1) (encF rPII x1.2.2.1), PUnit.unit))) (fun x1 =>
          .ret (Sum.inr (Sum.inr (x1.1, PUnit.unit)))))) (
    .ret (Sum.inr (Sum.inl ((decF rItem (List.length s.1.1) fun i => encF rItem s.1.1 ((0 : Nat) + i), s.1.2.1, decF rBal (List.length s.1.2.2.2.1) fun i => encF rBal s.1.2.2.2.1 ((0 : Nat) + i), PUnit.unit), decF rPII (List.length s.2.2.1) (encF rPII s.2.2.1), PUnit.unit))))) := fun s => by kernel_rfl
noncomputable def K.L_nt1 := lim K.st_nt1
noncomputable def BLB82 : Tab := BLB81.addNode 9 81 (nodeE [11, 10, 9, 5, 0, 7, 1] S_nt1 X_nt1 (fun s => .obs (K.L_nt1 s) .ret))
theorem tLB82 : TabOk P BLB82 := TabOk.addLoop (d := 30) okP tLB81 (by kernel_rfl) (by kernel_rfl) (fun s r h => obs_ret h)
def S_nt2 := DecS.mk0 (.cons (dRows rItem) (.cons (dInt) (.skips 5 (.cons (dRows rBal) (.skips 2 (.unit (dMp 0) (.skips 3 (.cons (dInt) (.last (dInt) 165))))))))) O_nt1
def X_nt2 := DecX.or (DecX.one (.exit 5) [0, 1, 14] (DecS.mk0 (.cons (dRows rItem) (.cons (dInt) (.skips 12 (.last (dInt) 166)))) .nil)) (DecX.one .ret [4] (DecS.mk0 (.skips 4 (.last (dB) 176)) .nil))
noncomputable def K.st_nt2 := loopT1 P BLB82 30 9 249 [15, 7, 10, 14, 1, 0] S_nt2 X_nt2
theorem sl_nt2 : ∀ s, (K.st_nt2) s = T.run (
  .br (decide (s.1.2.2.2.2 < (↑(clampL (List.length s.1.2.2.1)) : Int))) (
    .chk (decide ((0 : Int) ≤ s.1.2.2.2.2 ∧ s.1.2.2.2.2 < (↑(List.length s.1.2.2.1) : Int))) <|
    .chk (decide ((0 : Int) ≤ s.1.2.2.2.2 ∧ s.1.2.2.2.2 < (↑(List.length s.1.2.2.1) : Int))) <|
    .chk (decide ((0 : Int) ≤ s.1.2.2.2.2 ∧ s.1.2.2.2.2 < (↑(List.length s.1.2.2.1) : Int))) <|
    .br (numOf (mraw (Get.mk [CK.int IntKind.i64, CK.int IntKind.i64] (encF rPII s.2.1)) (mfind (Get.mk [CK.int IntKind.i64, CK.int IntKind.i64] (encF rPII s.2.1)) (AV.int IntKind.i64 (numOf (encF rBal s.1.2.2.1 ((0 : Nat) + Int.toNat s.1.2.2.2.2) (nat_lit 0)))) (List.length s.2.1)) (AV.int IntKind.i64 (0 : Int)) (1 : Nat)) != numOf (encF rBal s.1.2.2.1 ((0 : Nat) + Int.toNat s.1.2.2.2.2) (nat_lit 1))) (
      .ret (Sum.inr (Sum.inr (false, PUnit.unit)))) (
      .ret (Sum.inl ((decF rItem (List.length s.1.1) fun i => encF rItem s.1.1 ((0 : Nat) + i), s.1.2.1, decF rBal (List.length s.1.2.2.1) fun i => encF rBal s.1.2.2.1 ((0 : Nat) + i), IntKind.wrap IntKind.i64 (s.1.2.2.2.1 + numOf (encF rBal s.1.2.2.1 ((0 : Nat) + Int.toNat s.1.2.2.2.2) (nat_lit 1))), IntKind.wrap IntKind.i64 (s.1.2.2.2.2 + (1 : Int))), decF rPII (List.length s.2.1) (encF rPII s.2.1), PUnit.unit)))) (
    .ret (Sum.inr (Sum.inl ((decF rItem (List.length s.1.1) fun i => encF rItem s.1.1 ((0 : Nat) + i), s.1.2.1, s.1.2.2.2.1), PUnit.unit))))) := fun s => by kernel_rfl
noncomputable def K.L_nt2 := lim K.st_nt2
noncomputable def BLB83 : Tab := BLB82.addNode 9 249 (nodeE [15, 7, 10, 14, 1, 0] S_nt2 X_nt2 (fun s => .obs (K.L_nt2 s) .ret))
theorem tLB83 : TabOk P BLB83 := TabOk.addLoop (d := 30) okP tLB82 (by kernel_rfl) (by kernel_rfl) (fun s r h => obs_ret h)
theorem fn_lwNt : ∀ a, (callT1 P BLB83 30 9 D_ln dB) a = T.run (
  .br (!l_few (decF rItem (List.length a.1) fun i => encF rItem a.1 ((0 : Nat) + i))) (
    .ret (true)) (
    .br (Prod.snd (postingsV (decF rItem (List.length a.1) fun i => encF rItem a.1 ((0 : Nat) + i)) a.2) != (0 : Int)) (
      .ret (Prod.snd (postingsV (decF rItem (List.length a.1) fun i => encF rItem a.1 ((0 : Nat) + i)) a.2) == Prod.snd (bondsV (decF rItem (List.length a.1) fun i => encF rItem a.1 ((0 : Nat) + i)) a.2))) (
      .br (Prod.snd (bondsV (decF rItem (List.length a.1) fun i => encF rItem a.1 ((0 : Nat) + i)) a.2) != (0 : Int)) (
        .ret (Prod.snd (postingsV (decF rItem (List.length a.1) fun i => encF rItem a.1 ((0 : Nat) + i)) a.2) == Prod.snd (bondsV (decF rItem (List.length a.1) fun i => encF rItem a.1 ((0 : Nat) + i)) a.2))) (
        .obs (L_nt1 ((decF rItem (List.length a.1) fun i => encF rItem a.1 ((0 : Nat) + i), a.2, decF rPost (List.length (Prod.fst (postingsV (decF rItem (List.length a.1) fun i => encF rItem a.1 ((0 : Nat) + i)) a.2))) fun i => encF rPost (Prod.fst (postingsV (decF rItem (List.length a.1) fun i => encF rItem a.1 ((0 : Nat) + i)) a.2)) ((0 : Nat) + i), decF rBal (List.length (Prod.fst (bondsV (decF rItem (List.length a.1) fun i => encF rItem a.1 ((0 : Nat) + i)) a.2))) fun i => encF rBal (Prod.fst (bondsV (decF rItem (List.length a.1) fun i => encF rItem a.1 ((0 : Nat) + i)) a.2)) ((0 : Nat) + i), (0 : Int)), decF rPII (0 : Nat) fun _x _x_1 => AV.top, decF rPII (0 : Nat) fun _x _x_1 => AV.top, PUnit.unit)) fun x0 =>
          .sum (x0) (fun x1 =>
            .obs (L_nt2 ((decF rItem (List.length x1.1.1) fun i => encF rItem x1.1.1 ((0 : Nat) + i), x1.1.2.1, decF rBal (List.length x1.1.2.2.1) fun i => encF rBal x1.1.2.2.1 ((0 : Nat) + i), (0 : Int), (0 : Int)), decF rPII (List.length x1.2.1) (encF rPII x1.2.1), PUnit.unit)) fun x2 =>
              .sum (x2) (fun x3 =>
                .br (Prod.snd (holdV (decF rItem (List.length x3.1.1) fun i => encF rItem x3.1.1 ((0 : Nat) + i)) (3 : Int) (728 : Int) x3.1.2.1) == (0 : Int)) (
                  .ret (Prod.fst (holdV (decF rItem (List.length x3.1.1) fun i => encF rItem x3.1.1 ((0 : Nat) + i)) (3 : Int) (728 : Int) x3.1.2.1) == IntKind.wrap IntKind.i64 ((0 : Int) - x3.1.2.2))) (
                  .ret (false))) (fun x3 =>
                .ret x3.1)) (fun x1 =>
            .ret x1.1))))) := fun a => by kernel_rfl
end Go.Proofs.YtelpdkojdfnmiaaGreat
/-! LB4 -/
namespace Go.Proofs.YtelpdkojdfnmiaaGreat
open Ev K
set_option maxRecDepth 100000
namespace Ev
end Ev
end Go.Proofs.YtelpdkojdfnmiaaGreat
/-! LB0 -/
namespace Go.Proofs.YtelpdkojdfnmiaaGreat
open Ev K
set_option maxRecDepth 100000
end Go.Proofs.YtelpdkojdfnmiaaGreat
/-! LP0 -/
namespace Go.Proofs.YtelpdkojdfnmiaaGreat
open Ev K
open Go.Sort Go.Proofs
set_option maxRecDepth 100000
namespace K
def ltK (x y : Itm) : Prop := x.known < y.known ∨ x.known = y.known ∧ x.id < y.id
instance (x y : Itm) : Decidable (ltK x y) := by unfold ltK; infer_instance
theorem sortI_spec (l : List Itm) : (sortI l).Perm l ∧ (sortI l).Pairwise fun x y => ¬ ltK y x := by
  obtain ⟨h1, h2⟩ := sortF_spec swoI l
  exact ⟨h1, h2.imp fun h => by rw [ltI, decide_eq_false_iff_not] at h; exact h⟩
theorem sortB_spec (l : List Bal) : (sortB l).Perm l ∧ (sortB l).Pairwise fun x y => ¬ y.account < x.account := by
  obtain ⟨h1, h2⟩ := sortF_spec swoB l
  exact ⟨h1, h2.imp fun h => by rw [ltB, decide_eq_false_iff_not] at h; exact h⟩
theorem uniq_of {α : Type} {R : α → α → Prop} (has : ∀ a b, R a b → R b a → False) : ∀ {l l' : List α}, l.Pairwise R → l'.Pairwise R → (∀ x, x ∈ l ↔ x ∈ l') → l = l'
  | [], [], _, _, _ => rfl
  | [], y :: t, _, _, h => by have := (h y).2 (List.mem_cons_self ..); cases this
  | x :: t, [], _, _, h => by have := (h x).1 (List.mem_cons_self ..); cases this
  | x :: t, y :: t', h1, h2, h => by
    have a1 := List.pairwise_cons.1 h1
    have a2 := List.pairwise_cons.1 h2
    have e : x = y := Classical.byContradiction fun hne => by
      have hx := (h x).1 (List.mem_cons_self ..)
      have hy := (h y).2 (List.mem_cons_self ..)
      rcases List.mem_cons.1 hx with e | hx
      · exact hne e
      rcases List.mem_cons.1 hy with e | hy
      · exact hne e.symm
      exact has _ _ (a1.1 y hy) (a2.1 x hx)
    subst e
    congr 1
    refine uniq_of has a1.2 a2.2 fun z => ⟨fun hz => ?_, fun hz => ?_⟩
    · rcases List.mem_cons.1 ((h z).1 (List.mem_cons_of_mem _ hz)) with e | h3
      · subst e; exact (has _ _ (a1.1 z hz) (a1.1 z hz)).elim
      · exact h3
    · rcases List.mem_cons.1 ((h z).2 (List.mem_cons_of_mem _ hz)) with e | h3
      · subst e; exact (has _ _ (a2.1 z hz) (a2.1 z hz)).elim
      · exact h3
theorem ltK_as (a b : Itm) (h1 : ltK a b) (h2 : ltK b a) : False := by unfold ltK at *; omega
def One (l : List Itm) : Prop := ∀ x ∈ l, ∀ y ∈ l, x.id = y.id → x = y
theorem One.sub {l l' : List Itm} (h : One l) (hs : ∀ x ∈ l', x ∈ l) : One l' := fun x hx y hy => h x (hs x hx) y (hs y hy)
theorem cp_sorted {l : List Itm} (ho : One l) (hs : l.Pairwise fun x y => ¬ ltK y x) : (cp l).Pairwise ltK ∧ ∀ x, x ∈ cp l ↔ x ∈ l := by
  have key : ∀ (l acc : List Itm), One (acc ++ l) → (acc ++ l).Pairwise (fun x y => ¬ ltK y x) → acc.Pairwise ltK → (l.foldl cpi acc).Pairwise ltK ∧ ∀ x, x ∈ l.foldl cpi acc ↔ x ∈ acc ∨ x ∈ l := by
    intro l
    induction l with
    | nil => intro acc _ _ h; exact ⟨h, fun x => by simp⟩
    | cons x l ih =>
      intro acc ho hs ha
      rw [List.foldl_cons]
      by_cases hx : acc.getLast? = some x
      · have e : cpi acc x = acc := if_pos hx
        have hm : x ∈ acc := List.mem_of_getLast? hx
        rw [e]
        obtain ⟨h1, h2⟩ := ih acc (ho.sub fun y hy => by rcases List.mem_append.1 hy with h | h; exact List.mem_append_left _ h; exact List.mem_append_right _ (List.mem_cons_of_mem _ h))
          (hs.sublist (List.Sublist.append_left (List.sublist_cons_self _ _) _)) ha
        refine ⟨h1, fun y => (h2 y).trans ⟨fun h => ?_, fun h => ?_⟩⟩
        · rcases h with h | h; exact .inl h; exact .inr (List.mem_cons_of_mem _ h)
        · rcases h with h | h
          · exact .inl h
          · rcases List.mem_cons.1 h with e | h
            · subst e; exact .inl hm
            · exact .inr h
      · have e : cpi acc x = acc ++ [x] := if_neg hx
        rw [e]
        have hs2 : ((acc ++ [x]) ++ l).Pairwise (fun x y => ¬ ltK y x) := by rw [List.append_assoc]; exact hs
        have hp : (acc ++ [x]).Pairwise ltK := by
          refine List.pairwise_append.2 ⟨ha, List.pairwise_singleton .., fun y hy z hz => ?_⟩
          simp only [List.mem_singleton] at hz; subst hz
          have h3 := (List.pairwise_append.1 hs).2.2 y hy z (List.mem_cons_self ..)
          have hne : y.id = z.id → False := by
            intro hid
            have hyz : y = z := ho y (List.mem_append_left _ hy) z (List.mem_append_right _ (List.mem_cons_self ..)) hid
            subst hyz
            obtain ⟨w, hw⟩ : ∃ w, acc.getLast? = some w := by
              cases h : acc.getLast? with
              | none => rw [List.getLast?_eq_none_iff] at h; subst h; cases hy
              | some w => exact ⟨w, rfl⟩
            have hwm : w ∈ acc := List.mem_of_getLast? hw
            have hwx := (List.pairwise_append.1 hs).2.2 w hwm y (List.mem_cons_self ..)
            obtain ⟨L, hL⟩ := List.getLast?_eq_some_iff.1 hw
            rw [hL] at hy ha
            rcases List.mem_append.1 hy with h | h
            · exact hwx ((List.pairwise_append.1 ha).2.2 y h w (by simp))
            · simp only [List.mem_singleton] at h; subst h; exact hx hw
          have hne' : y.id ≠ z.id := hne
          show ltK y z
          unfold ltK at h3 ⊢
          omega
        obtain ⟨h1, h2⟩ := ih (acc ++ [x]) (ho.sub fun y hy => by rw [List.append_assoc] at hy; exact hy) hs2 hp
        exact ⟨h1, fun y => (h2 y).trans (by simp [or_assoc])⟩
  obtain ⟨h1, h2⟩ := key l [] (by simpa using ho) (by simpa using hs) List.Pairwise.nil
  exact ⟨h1, fun x => (h2 x).trans (by simp)⟩
theorem srt_sorted {l : List Itm} (ho : One l) : (srt l).Pairwise ltK ∧ ∀ x, x ∈ srt l ↔ x ∈ l := by
  obtain ⟨h1, h2⟩ := sortI_spec l
  obtain ⟨h3, h4⟩ := cp_sorted (ho.sub fun x hx => h1.mem_iff.1 hx) h2
  exact ⟨h3, fun x => (h4 x).trans h1.mem_iff⟩
end K
end Go.Proofs.YtelpdkojdfnmiaaGreat
/-! LP1 -/
namespace Go.Proofs.YtelpdkojdfnmiaaGreat
open Ev K
set_option maxRecDepth 100000
namespace K
@[ext] structure RB where (number day account : Int) (l : List Chg)
  deriving DecidableEq, Inhabited
@[ext] structure RBk where
  closed : Int
  p : List Pst
  refused : List Int
  bills : List RB
  paid : List Bal
  bonds : List Bal
  stands : List Itm
  deriving DecidableEq, Inhabited
def heldB (l : List Bal) (a : Int) : Int := match l.find? fun b => b.account == a with
  | some b => b.amount
  | none => 0
def moreB (l : List Bal) (a m : Int) : List Bal := match l with
  | [] => [⟨a, m⟩]
  | b :: t => if b.account < a then b :: moreB t a m else if b.account = a then ⟨a, b.amount + m⟩ :: t else ⟨a, m⟩ :: b :: t
def addL (l : List Int) (n : Int) : List Int := match l with
  | [] => [n]
  | b :: t => if b < n then b :: addL t n else n :: b :: t
def billR (l : List RB) (n : Int) : Option Nat := l.findIdx? fun b => b.number == n
def badR (b : RBk) (x : Itm) : Bool :=
  if x.kind = 7 then decide (x.day ≤ b.closed) else
  decide (b.closed + 1 > 728) || (decide (x.kind = 1) && (billR b.bills x.bill).isSome) || (decide (x.kind = 2) && !(billR b.bills x.bill).isSome) ||
    (decide (x.kind = 4) && decide (heldB b.paid x.account < x.amount)) || (decide (x.kind = 6) && decide (heldB b.bonds x.account < x.amount))
def twoR (b : RBk) (x : Itm) (day a c m : Int) : RBk := { b with p := b.p ++ [⟨x.id, max day (b.closed + 1), a, m⟩, ⟨x.id, max day (b.closed + 1), c, 0 - m⟩] }
def lastA (l : List Chg) : Int := (l.getLastD default).amount
def doneR (b : RBk) (x : Itm) : RBk :=
  if badR b x then { b with refused := addL b.refused x.id } else
  let b := { b with stands := b.stands ++ [x] }
  if x.kind = 1 then twoR { b with bills := b.bills ++ [⟨x.bill, x.day, x.account, [⟨x.known, x.amount⟩]⟩] } x x.day x.account 2 x.amount
  else if x.kind = 2 then (match billR b.bills x.bill with
    | some q => twoR { b with bills := b.bills.set q { b.bills.getD q default with l := (b.bills.getD q default).l ++ [⟨x.known, x.amount⟩] } } x (b.bills.getD q default).day (b.bills.getD q default).account 2 (x.amount - lastA (b.bills.getD q default).l)
    | none => b)
  else if x.kind = 3 then twoR { b with paid := moreB b.paid x.account x.amount } x x.day 1 x.account x.amount
  else if x.kind = 4 then twoR { b with paid := moreB b.paid x.account (0 - x.amount) } x x.day x.account 1 x.amount
  else if x.kind = 5 then twoR { b with bonds := moreB b.bonds x.account x.amount } x x.day 1 3 x.amount
  else if x.kind = 6 then twoR { b with bonds := moreB b.bonds x.account (0 - x.amount) } x x.day 3 1 x.amount
  else { b with closed := x.day }
def rb0 : RBk := ⟨-1, [], [], [], [], [], []⟩
structure Mp (m : List (Int × Int)) (l : List Bal) : Prop where
  keys : (m.map (·.1)).Nodup
  sorted : l.Pairwise fun x y => x.account < y.account
  mem : ∀ b, b ∈ l ↔ (b.account, b.amount) ∈ m
theorem Mp.nil : Mp [] [] := ⟨List.nodup_nil, List.Pairwise.nil, fun b => by simp⟩
theorem keys_uniq {m : List (Int × Int)} (h : (m.map (·.1)).Nodup) {a v w : Int} (h1 : (a, v) ∈ m) (h2 : (a, w) ∈ m) : v = w := by
  obtain ⟨i, hi, e1⟩ := List.getElem_of_mem h1
  obtain ⟨j, hj, e2⟩ := List.getElem_of_mem h2
  have := (List.getElem_inj (h₀ := by simpa using hi) (h₁ := by simpa using hj) h).1 (by simp [e1, e2])
  subst this; rw [e1] at e2; injection e2
theorem lookM_mem {m : List (Int × Int)} (h : (m.map (·.1)).Nodup) {a v : Int} (h1 : (a, v) ∈ m) : lookM m a = v := by
  unfold lookM
  cases hf : fM m a with
  | none =>
    unfold fM at hf
    rw [List.findIdx?_eq_none_iff] at hf
    have := hf _ h1
    simp at this
  | some i =>
    have hi := fM_some hf
    unfold fM at hf
    rw [List.findIdx?_eq_some_iff_getElem] at hf
    have hk : m[i].1 = a := (beq_iff_eq.1 hf.2.1).symm
    simp only
    rw [List.getD_eq_getElem?_getD, List.getElem?_eq_getElem hi]
    refine keys_uniq h (a := a) ?_ h1
    have : m[i] = (a, m[i].2) := by rw [← hk]
    simp only [Option.getD_some]
    rw [← this]; exact List.getElem_mem hi
theorem lookM_none {m : List (Int × Int)} {a : Int} (h : ∀ v, (a, v) ∉ m) : lookM m a = 0 := by
  unfold lookM
  cases hf : fM m a with
  | none => rfl
  | some i =>
    have hi := fM_some hf
    unfold fM at hf
    rw [List.findIdx?_eq_some_iff_getElem] at hf
    have hk : m[i].1 = a := (beq_iff_eq.1 hf.2.1).symm
    exfalso
    exact h m[i].2 (by rw [← hk]; exact List.getElem_mem hi)
theorem Mp.held {m : List (Int × Int)} {l : List Bal} (h : Mp m l) (a : Int) : heldB l a = lookM m a := by
  unfold heldB
  cases hf : l.find? fun b => b.account == a with
  | none =>
    rw [List.find?_eq_none] at hf
    refine (lookM_none fun v hv => ?_).symm
    have := hf ⟨a, v⟩ ((h.mem _).2 hv)
    simp at this
  | some b =>
    have hb := List.mem_of_find?_eq_some hf
    have he := List.find?_some hf
    simp only [beq_iff_eq] at he
    subst he
    exact (lookM_mem h.keys ((h.mem b).1 hb)).symm
theorem put_mem {m : List (Int × Int)} (h : (m.map (·.1)).Nodup) (n v : Int) (p : Int × Int) : p ∈ putM m n v ↔ p = (n, v) ∨ (p ∈ m ∧ p.1 ≠ n) := by
  unfold putM
  cases hf : fM m n with
  | none =>
    unfold fM at hf
    rw [List.findIdx?_eq_none_iff] at hf
    simp only [List.mem_append, List.mem_singleton]
    constructor
    · rintro (h1 | h1)
      · have := hf p h1
        exact .inr ⟨h1, fun e => by simp [e] at this⟩
      · exact .inl h1
    · rintro (h1 | h1)
      · exact .inr h1
      · exact .inl h1.1
  | some i =>
    have hi := fM_some hf
    unfold fM at hf
    rw [List.findIdx?_eq_some_iff_getElem] at hf
    have hk : m[i].1 = n := (beq_iff_eq.1 hf.2.1).symm
    simp only
    constructor
    · intro hp
      obtain ⟨j, hj, e⟩ := List.getElem_of_mem hp
      rw [List.length_set] at hj
      rw [List.getElem_set] at e
      split at e
      · exact .inl e.symm
      · rename_i hne
        refine .inr ⟨e ▸ List.getElem_mem hj, fun e2 => hne ?_⟩
        exact (List.getElem_inj (h₀ := by simpa using hi) (h₁ := by simpa using hj) h).1 (by simp [hk, e, e2])
    · rintro (e | ⟨hp, hne⟩)
      · subst e; exact List.mem_set hi _
      · obtain ⟨j, hj, e⟩ := List.getElem_of_mem hp
        have hij : i ≠ j := fun e2 => by subst e2; exact hne (by rw [← e]; exact hk)
        have : (m.set i (n, v))[j]'(by simpa using hj) = p := by rw [List.getElem_set_ne hij]; exact e
        rw [← this]; exact List.getElem_mem _
theorem moreB_mem : ∀ {l : List Bal} {a m : Int}, l.Pairwise (fun x y => x.account < y.account) → (moreB l a m).Pairwise (fun x y => x.account < y.account) ∧ ∀ b, b ∈ moreB l a m ↔ b = ⟨a, heldB l a + m⟩ ∨ (b ∈ l ∧ b.account ≠ a)
  | [], a, m, _ => ⟨List.pairwise_singleton .., fun b => by simp [moreB, heldB]⟩
  | c :: t, a, m, h => by
    have hh := List.pairwise_cons.1 h
    unfold moreB
    by_cases h1 : c.account < a
    · rw [if_pos h1]
      obtain ⟨b1, b2⟩ := moreB_mem (a := a) (m := m) hh.2
      have he : heldB (c :: t) a = heldB t a := by
        unfold heldB; rw [List.find?_cons_of_neg (by simp; omega)]
      refine ⟨List.pairwise_cons.2 ⟨fun z hz => ?_, b1⟩, fun b => ?_⟩
      · rcases (b2 z).1 hz with e | hz
        · subst e; exact h1
        · exact hh.1 z hz.1
      · rw [he, List.mem_cons, b2, List.mem_cons]
        constructor
        · rintro (e | e | e)
          · subst e; exact .inr ⟨.inl rfl, by omega⟩
          · exact .inl e
          · exact .inr ⟨.inr e.1, e.2⟩
        · rintro (e | ⟨e | e, h2⟩)
          · exact .inr (.inl e)
          · exact .inl e
          · exact .inr (.inr ⟨e, h2⟩)
    · rw [if_neg h1]
      by_cases h2 : c.account = a
      · rw [if_pos h2]
        have he : heldB (c :: t) a = c.amount := by
          unfold heldB; rw [List.find?_cons_of_pos (by simpa using h2)]
        refine ⟨List.pairwise_cons.2 ⟨fun z hz => by have := hh.1 z hz; show a < _; omega, hh.2⟩, fun b => ?_⟩
        rw [he, List.mem_cons, List.mem_cons]
        constructor
        · rintro (e | e)
          · exact .inl e
          · exact .inr ⟨.inr e, by have := hh.1 b e; omega⟩
        · rintro (e | ⟨e | e, h3⟩)
          · exact .inl e
          · subst e; exact absurd h2 h3
          · exact .inr e
      · rw [if_neg h2]
        have he : heldB (c :: t) a = 0 := by
          unfold heldB
          rw [List.find?_eq_none.2]
          intro b hb
          rcases List.mem_cons.1 hb with e | hb
          · subst e; simpa using h2
          · have := hh.1 b hb; simp; omega
        refine ⟨List.pairwise_cons.2 ⟨fun z hz => ?_, h⟩, fun b => ?_⟩
        · rcases List.mem_cons.1 hz with e | hz
          · subst e; show a < _; omega
          · have := hh.1 z hz; show a < _; omega
        · rw [he, Int.zero_add, List.mem_cons]
          constructor
          · rintro (e | e)
            · exact .inl e
            · refine .inr ⟨e, ?_⟩
              rcases List.mem_cons.1 e with e | e
              · subst e; exact h2
              · have := hh.1 b e; omega
          · rintro (e | e)
            · exact .inl e
            · exact .inr e.1
theorem Mp.more {m : List (Int × Int)} {l : List Bal} (h : Mp m l) (a v w : Int) (hw : w = lookM m a + v) : Mp (putM m a w) (moreB l a v) := by
  subst hw
  obtain ⟨h1, h2⟩ := moreB_mem (a := a) (m := v) h.sorted
  refine ⟨nodup_put h.keys, h1, fun b => ?_⟩
  rw [h2, put_mem h.keys, h.held, h.mem]
  constructor
  · rintro (e | e)
    · subst e; exact .inl rfl
    · exact .inr e
  · rintro (e | e)
    · injection e with e1 e2; exact .inl (Bal.ext e1 e2)
    · exact .inr e
theorem Mp.list {m : List (Int × Int)} {l : List Bal} (h : Mp m l) : listB m = l := by
  obtain ⟨h1, h2⟩ := sortB_spec (m.map balOf)
  have hk : (listB m).Pairwise fun x y => x.account < y.account := by
    have hn : ((listB m).map (·.account)).Nodup := by
      refine (h1.map _).nodup_iff.2 ?_
      rw [List.map_map]; exact h.keys
    have := (List.pairwise_map.1 hn).and h2
    exact this.imp fun ⟨a, b⟩ => by omega
  refine uniq_of (R := fun x y : Bal => x.account < y.account) (fun a b h1 h2 => by omega) hk h.sorted fun b => ?_
  rw [h.mem]
  refine h1.mem_iff.trans ?_
  rw [List.mem_map]
  constructor
  · rintro ⟨p, hp, rfl⟩; exact hp
  · intro hp; exact ⟨_, hp, rfl⟩
theorem addL_spec : ∀ {l : List Int} {n : Int}, l.Pairwise (· ≤ ·) → (addL l n).Pairwise (· ≤ ·) ∧ (addL l n).Perm (l ++ [n])
  | [], n, _ => ⟨List.pairwise_singleton .., List.Perm.refl _⟩
  | b :: t, n, h => by
    have hh := List.pairwise_cons.1 h
    unfold addL
    by_cases h1 : b < n
    · rw [if_pos h1]
      obtain ⟨a1, a2⟩ := addL_spec (n := n) hh.2
      refine ⟨List.pairwise_cons.2 ⟨fun z hz => ?_, a1⟩, a2.cons b⟩
      rcases List.mem_append.1 (a2.mem_iff.1 hz) with hz | hz
      · exact hh.1 z hz
      · simp only [List.mem_singleton] at hz; omega
    · rw [if_neg h1]
      refine ⟨List.pairwise_cons.2 ⟨fun z hz => ?_, h⟩, List.perm_append_comm (l₁ := [n])⟩
      rcases List.mem_cons.1 hz with e | hz
      · omega
      · have := hh.1 z hz; omega
def rbOf (b : Std × List Chg) : RB := ⟨b.1.no, b.1.item.day, b.1.item.account, b.2⟩
structure Rel (k : Bk) (b : RBk) : Prop where
  closed : b.closed = k.closed
  p : b.p = k.posts
  refused : b.refused.Pairwise (· ≤ ·) ∧ b.refused.Perm k.refused
  bills : b.bills = k.bills.map rbOf
  last : ∀ s ∈ k.bills, lastA s.2 = s.1.amount ∧ (0 ≤ s.1.item.day ∧ s.1.item.day ≤ 728)
  paid : Mp k.paid b.paid
  bonds : Mp k.bonds b.bonds
  stands : b.stands = k.taken
  low : -1 ≤ k.closed
theorem Rel.zero : Rel bk0 rb0 := ⟨rfl, rfl, ⟨List.Pairwise.nil, List.Perm.refl _⟩, rfl, (fun s h => by cases h), Mp.nil, Mp.nil, rfl, by decide⟩
theorem Rel.refuse {k : Bk} {b : RBk} (h : Rel k b) (x : Itm) : Rel (refuse k x) { b with refused := addL b.refused x.id } := by
  obtain ⟨a1, a2⟩ := addL_spec (n := x.id) h.refused.1
  exact ⟨h.closed, h.p, ⟨a1, a2.trans (h.refused.2.append_right _)⟩, h.bills, h.last, h.paid, h.bonds, h.stands, h.low⟩
theorem billR_eq {k : Bk} {b : RBk} (h : Rel k b) (n : Int) : billR b.bills n = fb k n := by
  unfold billR fb
  rw [h.bills, List.findIdx?_map]
  congr 1
  funext s
  show (s.1.no == n) = (n == s.1.no)
  exact Bool.beq_comm
theorem max_on (k : Bk) (b : RBk) (h : Rel k b) (d : Int) : max d (b.closed + 1) = onDay k d := by
  unfold onDay; rw [h.closed]; omega
theorem Rel.done {k : Bk} {b : RBk} (h : Rel k b) {x : Itm} (hx : x.Fm) : Rel (doItem k x) (doneR b x) := by
  have hm := max_on k b h
  have hl := h.low
  have hd := hx.2.2.1
  have hk := hx.2.2.2.2
  have hP : ∀ d, (onDay k d > 728 ↔ (k.closed + 1 > 728 ∨ d > 728)) := fun d => by unfold onDay; split <;> omega
  have hneg : ∀ m : Int, 0 - m = -m := fun m => by omega
  unfold doItem doneR
  by_cases k1 : x.kind = 1
  · rw [if_pos k1]
    have hbad : badR b x = (decide (k.closed + 1 > 728) || (fb k x.bill).isSome) := by
      unfold badR; rw [if_neg (by omega), h.closed, billR_eq h]; simp [k1]
    unfold doBill
    cases hf : fb k x.bill with
    | some q =>
      show Rel (K.refuse k x) _
      rw [if_pos (by rw [hbad, hf]; simp)]; exact h.refuse x
    | none =>
      simp only
      by_cases h7 : onDay k x.day > 728
      · rw [if_pos h7, if_pos (by rw [hbad, hf]; have := (hP x.day).1 h7; simp; omega)]; exact h.refuse x
      · rw [if_neg h7, if_neg (by rw [hbad, hf]; have := mt (hP x.day).2 h7; simp; omega)]
        simp only [k1, if_true]
        refine ⟨h.closed, ?_, h.refused, ?_, fun s hs => ?_, h.paid, h.bonds, ?_, hl⟩
        · simp only [twoR, stand, hm, h.p, hneg]
        · simp only [twoR, h.bills, List.map_append]; rfl
        · rcases List.mem_append.1 hs with hs | hs
          · exact h.last s hs
          · simp only [List.mem_singleton] at hs; subst hs; exact ⟨rfl, hd⟩
        · simp only [twoR, stand, h.stands]
  rw [if_neg k1]
  by_cases k2 : x.kind = 2
  · rw [if_pos k2]
    have hbad : badR b x = (decide (k.closed + 1 > 728) || !(fb k x.bill).isSome) := by
      unfold badR; rw [if_neg (by omega), h.closed, billR_eq h]; simp [k2]
    unfold doMend
    cases hf : fb k x.bill with
    | none =>
      show Rel (K.refuse k x) _
      rw [if_pos (by rw [hbad, hf]; simp)]; exact h.refuse x
    | some q =>
      have hq := fb_some hf
      have hg : k.bills.getD q default = k.bills[q] := by rw [List.getD_eq_getElem?_getD, List.getElem?_eq_getElem hq]; rfl
      have hmem := List.getElem_mem hq
      have hg2 : b.bills.getD q default = rbOf k.bills[q] := by rw [List.getD_eq_getElem?_getD, h.bills, List.getElem?_map, List.getElem?_eq_getElem hq]; rfl
      simp only [hg]
      generalize k.bills[q] = s at hmem hg2
      obtain ⟨e1, e2⟩ := h.last s hmem
      by_cases h7 : onDay k s.1.item.day > 728
      · rw [if_pos h7, if_pos (by rw [hbad, hf]; have := (hP s.1.item.day).1 h7; simp; omega)]; exact h.refuse x
      · rw [if_neg h7, if_neg (by rw [hbad, hf]; have := mt (hP s.1.item.day).2 h7; simp; omega), if_neg k1, if_pos k2]
        have e3 : billR b.bills x.bill = some q := (billR_eq h x.bill).trans hf
        simp only [e3, hg2]
        refine ⟨h.closed, ?_, h.refused, ?_, fun s' hs => ?_, h.paid, h.bonds, ?_, hl⟩
        · simp only [twoR, stand, hm, h.p, hneg, rbOf, e1]
        · simp only [twoR, h.bills, List.map_set]; rfl
        · rcases List.mem_or_eq_of_mem_set hs with hs | hs
          · exact h.last s' hs
          · subst hs; exact ⟨by simp [lastA], e2⟩
        · simp only [twoR, stand, h.stands]
  rw [if_neg k2]
  by_cases k3 : x.kind = 3
  · rw [if_pos k3]
    have hbad : badR b x = decide (k.closed + 1 > 728) := by
      unfold badR; rw [if_neg (by omega), h.closed]; simp [k3]
    unfold doPay
    by_cases h7 : onDay k x.day > 728
    · rw [if_pos h7, if_pos (by rw [hbad]; have := (hP x.day).1 h7; simp; omega)]; exact h.refuse x
    · rw [if_neg h7, if_neg (by rw [hbad]; have := mt (hP x.day).2 h7; simp; omega), if_neg k1, if_neg k2, if_pos k3]
      refine ⟨h.closed, ?_, h.refused, h.bills, h.last, h.paid.more _ _ _ rfl, h.bonds, ?_, hl⟩
      · simp only [twoR, stand, hm, h.p, hneg]
      · simp only [twoR, stand, h.stands]
  rw [if_neg k3]
  by_cases k4 : x.kind = 4
  · rw [if_pos k4]
    have hbad : badR b x = (decide (k.closed + 1 > 728) || decide (lookM k.paid x.account < x.amount)) := by
      unfold badR; rw [if_neg (by omega), h.closed, h.paid.held]; simp [k4]
    unfold doRefund
    by_cases h6 : lookM k.paid x.account < x.amount
    · rw [if_pos h6, if_pos (by rw [hbad]; simp [h6])]; exact h.refuse x
    rw [if_neg h6]
    by_cases h7 : onDay k x.day > 728
    · rw [if_pos h7, if_pos (by rw [hbad]; have := (hP x.day).1 h7; simp; omega)]; exact h.refuse x
    · rw [if_neg h7, if_neg (by rw [hbad]; have := mt (hP x.day).2 h7; simp; omega), if_neg k1, if_neg k2, if_neg k3, if_pos k4]
      refine ⟨h.closed, ?_, h.refused, h.bills, h.last, h.paid.more _ _ _ (by omega), h.bonds, ?_, hl⟩
      · simp only [twoR, stand, hm, h.p, hneg]
      · simp only [twoR, stand, h.stands]
  rw [if_neg k4]
  by_cases k5 : x.kind = 5
  · rw [if_pos k5]
    have hbad : badR b x = decide (k.closed + 1 > 728) := by
      unfold badR; rw [if_neg (by omega), h.closed]; simp [k5]
    unfold doBond
    by_cases h7 : onDay k x.day > 728
    · rw [if_pos h7, if_pos (by rw [hbad]; have := (hP x.day).1 h7; simp; omega)]; exact h.refuse x
    · rw [if_neg h7, if_neg (by rw [hbad]; have := mt (hP x.day).2 h7; simp; omega), if_neg k1, if_neg k2, if_neg k3, if_neg k4, if_pos k5]
      refine ⟨h.closed, ?_, h.refused, h.bills, h.last, h.paid, h.bonds.more _ _ _ rfl, ?_, hl⟩
      · simp only [twoR, stand, hm, h.p, hneg]
      · simp only [twoR, stand, h.stands]
  rw [if_neg k5]
  by_cases k6 : x.kind = 6
  · rw [if_pos k6]
    have hbad : badR b x = (decide (k.closed + 1 > 728) || decide (lookM k.bonds x.account < x.amount)) := by
      unfold badR; rw [if_neg (by omega), h.closed, h.bonds.held]; simp [k6]
    unfold doFree
    by_cases h6 : lookM k.bonds x.account < x.amount
    · rw [if_pos h6, if_pos (by rw [hbad]; simp [h6])]; exact h.refuse x
    rw [if_neg h6]
    by_cases h7 : onDay k x.day > 728
    · rw [if_pos h7, if_pos (by rw [hbad]; have := (hP x.day).1 h7; simp; omega)]; exact h.refuse x
    · rw [if_neg h7, if_neg (by rw [hbad]; have := mt (hP x.day).2 h7; simp; omega), if_neg k1, if_neg k2, if_neg k3, if_neg k4, if_neg k5, if_pos k6]
      refine ⟨h.closed, ?_, h.refused, h.bills, h.last, h.paid, h.bonds.more _ _ _ (by omega), ?_, hl⟩
      · simp only [twoR, stand, hm, h.p, hneg]
      · simp only [twoR, stand, h.stands]
  rw [if_neg k6]
  have k7 : x.kind = 7 := by omega
  have hbad : badR b x = decide (x.day ≤ k.closed) := by
    unfold badR; rw [if_pos k7, h.closed]
  unfold doShut
  by_cases h7 : x.day ≤ k.closed
  · rw [if_pos h7, if_pos (by rw [hbad]; simpa using h7)]; exact h.refuse x
  · rw [if_neg h7, if_neg (by rw [hbad]; simpa using h7), if_neg k1, if_neg k2, if_neg k3, if_neg k4, if_neg k5, if_neg k6]
    exact ⟨rfl, h.p, h.refused, h.bills, h.last, h.paid, h.bonds, by simp [h.stands], by show -1 ≤ x.day; omega⟩
end K
end Go.Proofs.YtelpdkojdfnmiaaGreat
/-! LP2 -/
namespace Go.Proofs.YtelpdkojdfnmiaaGreat
open Ev K
set_option maxRecDepth 100000
namespace K
def balStep (behind : Int) (l : List Bal) (p : Pst) : List Bal := if p.day ≤ behind then moreB l p.account p.amount else l
def balR (ps : List Pst) (behind : Int) : List Bal := ps.foldl (balStep behind) []
theorem mp_fold (behind : Int) : ∀ (ps : List Pst) (m : List (Int × Int)) (l : List Bal), Mp m l → Mp (ps.foldl (sumStep behind) m) (ps.foldl (balStep behind) l)
  | [], _, _, h => h
  | p :: ps, m, l, h => by
    refine mp_fold behind ps _ _ ?_
    unfold sumStep balStep
    split
    · exact h.more _ _ _ rfl
    · exact h
theorem mp_sum (ps : List Pst) (behind : Int) : Mp (sumP ps behind) (balR ps behind) := mp_fold behind ps _ _ Mp.nil
def sumI (l : List Int) : Int := l.sum
def sumA (ps : List Pst) (a behind : Int) : Int := sumI ((ps.filter fun p => decide (p.account = a ∧ p.day ≤ behind)).map (·.amount))
theorem held_more : ∀ {l : List Bal}, l.Pairwise (fun x y => x.account < y.account) → ∀ (a m c : Int), heldB (moreB l a m) c = heldB l c + if a = c then m else 0
  | [], _, a, m, c => by
    unfold moreB heldB
    by_cases h : a = c
    · subst h; simp
    · simp [h]
  | b :: t, hs, a, m, c => by
    have hh := List.pairwise_cons.1 hs
    unfold moreB
    have cons : ∀ (x : Bal) (t : List Bal), heldB (x :: t) c = if x.account = c then x.amount else heldB t c := fun x t => by
      unfold heldB
      by_cases h : x.account = c
      · rw [List.find?_cons_of_pos (by simpa using h), if_pos h]
      · rw [List.find?_cons_of_neg (by simpa using h), if_neg h]
    by_cases h1 : b.account < a
    · rw [if_pos h1, cons, cons, held_more hh.2]
      by_cases h2 : b.account = c
      · rw [if_pos h2, if_pos h2, if_neg (by omega)]; omega
      · rw [if_neg h2, if_neg h2]
    · rw [if_neg h1]
      by_cases h2 : b.account = a
      · rw [if_pos h2, cons, cons]
        simp only
        by_cases h3 : a = c
        · rw [if_pos h3, if_pos (by omega), if_pos h3]
        · rw [if_neg h3, if_neg (by omega), if_neg h3]; omega
      · rw [if_neg h2, cons]
        simp only
        by_cases h3 : a = c
        · rw [if_pos h3, if_pos h3]
          have : heldB (b :: t) c = 0 := by
            unfold heldB
            rw [List.find?_eq_none.2]
            intro x hx
            rcases List.mem_cons.1 hx with e | hx
            · subst e; simp; omega
            · have := hh.1 x hx; simp; omega
          omega
        · rw [if_neg h3, if_neg h3]; omega
theorem held_balR (ps : List Pst) (behind a : Int) : heldB (balR ps behind) a = sumA ps a behind := by
  have key : ∀ (ps : List Pst) (m : List (Int × Int)) (l : List Bal), Mp m l → heldB (ps.foldl (balStep behind) l) a = heldB l a + sumA ps a behind := by
    intro ps
    induction ps with
    | nil => intro m l _; simp [sumA, sumI]
    | cons p ps ih =>
      intro m l hm
      rw [List.foldl_cons]
      unfold sumA at *
      by_cases h : p.day ≤ behind
      · have e : balStep behind l p = moreB l p.account p.amount := if_pos h
        rw [e, ih _ _ (hm.more p.account p.amount _ rfl), held_more hm.sorted]
        by_cases h2 : p.account = a
        · rw [if_pos h2, List.filter_cons_of_pos (by simp [h, h2]), List.map_cons]; simp only [sumI, List.sum_cons]; omega
        · rw [if_neg h2, List.filter_cons_of_neg (by simp [h2])]; omega
      · have e : balStep behind l p = l := if_neg h
        rw [e, ih _ _ hm, List.filter_cons_of_neg (by simp; intro _; omega)]
  have := key ps [] [] Mp.nil
  unfold balR; rw [this]; simp [heldB]
theorem look_sum (ps : List Pst) (behind a : Int) : lookM (sumP ps behind) a = sumA ps a behind := by rw [← (mp_sum ps behind).held, held_balR]
theorem sumI_perm {l l' : List Int} (h : l.Perm l') : sumI l = sumI l' := by
  induction h with
  | nil => rfl
  | cons x _ ih => simp only [sumI, List.sum_cons] at *; omega
  | swap x y l => simp only [sumI, List.sum_cons]; omega
  | trans _ _ a b => exact a.trans b
theorem sumA_bound {ps : List Pst} (h : ∀ p ∈ ps, amtOk p.amount) (a d : Int) : -((ps.length : Int) * 16777216) ≤ sumA ps a d ∧ sumA ps a d ≤ (ps.length : Int) * 16777216 := by
  induction ps with
  | nil => simp [sumA, sumI]
  | cons p ps ih =>
    have h1 := ih fun q hq => h q (List.mem_cons_of_mem _ hq)
    have h2 := h p (List.mem_cons_self ..)
    unfold amtOk at h2
    unfold sumA at *
    rw [List.length_cons, List.filter_cons]
    split
    · simp only [List.map_cons, sumI, List.sum_cons] at *; omega
    · omega
structure Pr where (x : Itm) (on a b m : Int)
def Pr.two (z : Pr) : List Pst := [⟨z.x.id, z.on, z.a, z.m⟩, ⟨z.x.id, z.on, z.b, -z.m⟩]
def pairs (zs : List Pr) : List Pst := zs.flatMap Pr.two
theorem pairs_cons (z : Pr) (zs : List Pr) : pairs (z :: zs) = ⟨z.x.id, z.on, z.a, z.m⟩ :: ⟨z.x.id, z.on, z.b, -z.m⟩ :: pairs zs := rfl
theorem pairs_app (a b : List Pr) : pairs (a ++ b) = pairs a ++ pairs b := List.flatMap_append ..
def isPair (l : List Pst) : Prop := ∃ zs, l = pairs zs
theorem isPair.app {l : List Pst} (h : isPair l) (x : Itm) (on a b m : Int) : isPair (l ++ [⟨x.id, on, a, m⟩, ⟨x.id, on, b, -m⟩]) := by
  obtain ⟨zs, rfl⟩ := h
  exact ⟨zs ++ [⟨x, on, a, b, m⟩], by rw [pairs_app]; rfl⟩
end K
end Go.Proofs.YtelpdkojdfnmiaaGreat
/-! LB1 -/
namespace Go.Proofs.YtelpdkojdfnmiaaGreat
open Ev K
set_option maxRecDepth 100000
namespace K
theorem wrapS {a : Int} (h1 : -9000000000000000000 ≤ a) (h2 : a ≤ 9000000000000000000) : IntKind.i64.wrap a = a := w64_in (by omega) (by omega)
theorem wrapI {i : Nat} (h : i ≤ 4000000) : IntKind.i64.wrap ((i : Int) + 1) = ((i + 1 : Nat) : Int) := by rw [w64_in (by omega) (by omega)]; rfl
theorem clampS {n : Nat} (h : n ≤ 1000000) : clampL n = n := clampL_eq (by unfold maxL; omega)
end K
end Go.Proofs.YtelpdkojdfnmiaaGreat
/-! LB5 -/
namespace Go.Proofs.YtelpdkojdfnmiaaGreat
open Ev K
set_option maxRecDepth 100000
namespace K
theorem one_of {l : List Itm} (h : checkV l = 0) : One l := by
  obtain ⟨_, _, h3⟩ := checkV_ok h
  intro x hx y hy he
  obtain ⟨i, hi, rfl⟩ := List.getElem_of_mem hx
  obtain ⟨j, hj, rfl⟩ := List.getElem_of_mem hy
  rcases Nat.lt_trichotomy i j with hij | hij | hij
  · exact h3 i j _ _ hij (List.getElem?_eq_getElem hi) (List.getElem?_eq_getElem hj) he
  · subst hij; rfl
  · exact (h3 j i _ _ hij (List.getElem?_eq_getElem hj) (List.getElem?_eq_getElem hi) he.symm).symm
theorem sumA_app (ps qs : List Pst) (a d : Int) : sumA (ps ++ qs) a d = sumA ps a d + sumA qs a d := by
  unfold sumA sumI; rw [List.filter_append, List.map_append, List.sum_append]
theorem asked_ok {l : List Itm} (h : checkV l = 0) {ds : List Int} (hd : ∀ n ∈ ds, dayOk n) : askedV l ds = 0 := by
  unfold askedV; rw [if_neg (by simpa using h), if_pos hd]
end K
end Go.Proofs.YtelpdkojdfnmiaaGreat
/-! LP3 -/
namespace Go.Proofs.YtelpdkojdfnmiaaGreat
open Ev K
set_option maxRecDepth 100000
namespace K
abbrev Mps := List (Int × Int) × List (Int × Int)
def ntStep (q : Mps) (x : Itm) : Mps :=
  if x.kind = 3 then (addM q.1 x.account x.amount, q.2) else if x.kind = 4 then (putM q.1 x.account (lookM q.1 x.account - x.amount), q.2)
  else if x.kind = 5 then (q.1, addM q.2 x.account x.amount) else if x.kind = 6 then (q.1, putM q.2 x.account (lookM q.2 x.account - x.amount)) else q
def ntOk (q : Mps) (x : Itm) : Prop := 0 ≤ lookM q.1 x.account ∧ 0 ≤ lookM q.2 x.account
instance (q : Mps) (x : Itm) : Decidable (ntOk q x) := by unfold ntOk; infer_instance
def ntRun : Mps → List Itm → Option Mps
  | q, [] => some q
  | q, x :: l => if ntOk (ntStep q x) x then ntRun (ntStep q x) l else none
theorem ntRun_app : ∀ (l : List Itm) (q q' : Mps) (x : Itm), ntRun q l = some q' → ntOk (ntStep q' x) x → ntRun q (l ++ [x]) = some (ntStep q' x)
  | [], q, q', x, h, ho => by
    injection h with h; subst h
    simp only [List.nil_append, ntRun, if_pos ho]
  | y :: l, q, q', x, h, ho => by
    simp only [ntRun] at h
    split at h
    · rename_i hy
      simp only [List.cons_append, ntRun, if_pos hy]
      exact ntRun_app l _ _ x h ho
    · cases h
structure Trc (L : List Itm) (k : Bk) (zs : List Pr) : Prop where
  posts : k.posts = pairs zs
  sub : (zs.map (·.x)).Sublist L
  run : ntRun ([], []) (zs.map (·.x)) = some (k.paid, k.bonds)
  pos : (∀ p ∈ k.paid, 0 ≤ p.2) ∧ ∀ p ∈ k.bonds, 0 ≤ p.2
  acc3 : sumA k.posts 3 728 = - sumI (k.bonds.map (·.2))
  keys : KeysOk k
  bill : ∀ b ∈ k.bills, 10 ≤ b.1.item.account
theorem Trc.zero : Trc [] bk0 [] := ⟨rfl, List.Sublist.refl _, rfl, ⟨(fun p hp => by cases hp), (fun p hp => by cases hp)⟩, rfl, ⟨List.nodup_nil, List.nodup_nil⟩, (fun b hb => by cases hb)⟩
theorem look_nn {m : List (Int × Int)} (h : ∀ p ∈ m, 0 ≤ p.2) (a : Int) : 0 ≤ lookM m a := by
  unfold lookM
  split
  · rename_i i hi
    have hlt := fM_some hi
    have := h m[i] (List.getElem_mem hlt)
    rw [List.getD_eq_getElem?_getD, List.getElem?_eq_getElem hlt]; exact this
  · omega
theorem put_sum {m : List (Int × Int)} (n v : Int) : sumI ((putM m n v).map (·.2)) = sumI (m.map (·.2)) - lookM m n + v := by
  unfold putM lookM
  cases hf : fM m n with
  | none =>
    simp only [List.map_append, List.map_cons, List.map_nil, sumI, List.sum_append, List.sum_cons, List.sum_nil]; omega
  | some i =>
    have hi := fM_some hf
    simp only
    have key : ∀ (m : List (Int × Int)) (i : Nat), i < m.length → ((m.set i (n, v)).map (·.2)).sum = (m.map (·.2)).sum - (m.getD i (0, 0)).2 + v := by
      intro m
      induction m with
      | nil => intro i h; simp at h
      | cons a m ih =>
        intro i h
        cases i with
        | zero => simp; omega
        | succ i =>
          have := ih i (by simpa using h)
          simp only [List.set_cons_succ, List.map_cons, List.sum_cons, List.getD_cons_succ] at *
          omega
    exact key m i hi
theorem Trc.refuse {L : List Itm} {k : Bk} {zs : List Pr} (h : Trc L k zs) (x : Itm) : Trc (L ++ [x]) (refuse k x) zs :=
  ⟨h.posts, h.sub.trans (List.sublist_append_left _ _), h.run, h.pos, h.acc3, ⟨h.keys.1, h.keys.2⟩, h.bill⟩
theorem sum_two (ps : List Pst) (x : Itm) (on a b m : Int) (hon : on ≤ 728) : sumA (ps ++ [⟨x.id, on, a, m⟩, ⟨x.id, on, b, -m⟩]) 3 728 = sumA ps 3 728 + (if a = 3 then m else 0) - (if b = 3 then m else 0) := by
  rw [sumA_app]
  unfold sumA
  by_cases h1 : a = 3
  · by_cases h2 : b = 3
    · rw [List.filter_cons_of_pos (by simp [h1, hon]), List.filter_cons_of_pos (by simp [h2, hon])]; simp [sumI, h1, h2]; omega
    · rw [List.filter_cons_of_pos (by simp [h1, hon]), List.filter_cons_of_neg (by simp [h2])]; simp [sumI, h1, h2]
  · by_cases h2 : b = 3
    · rw [List.filter_cons_of_neg (by simp [h1]), List.filter_cons_of_pos (by simp [h2, hon])]; simp [sumI, h1, h2]; omega
    · rw [List.filter_cons_of_neg (by simp [h1]), List.filter_cons_of_neg (by simp [h2])]; simp [sumI, h1, h2]
theorem Trc.pair {L : List Itm} {k k' : Bk} {zs : List Pr} (h : Trc L k zs) (x : Itm) (on a b m : Int) (hon : ¬ on > 728) (hp : k'.posts = k.posts ++ [⟨x.id, on, a, m⟩, ⟨x.id, on, b, -m⟩]) (hs : ntStep (k.paid, k.bonds) x = (k'.paid, k'.bonds))
    (hpos : (∀ p ∈ k'.paid, 0 ≤ p.2) ∧ ∀ p ∈ k'.bonds, 0 ≤ p.2) (h3 : sumI (k'.bonds.map (·.2)) = sumI (k.bonds.map (·.2)) - (if a = 3 then m else 0) + (if b = 3 then m else 0)) (hk : KeysOk k') (hb : ∀ b ∈ k'.bills, 10 ≤ b.1.item.account) : Trc (L ++ [x]) k' (zs ++ [⟨x, on, a, b, m⟩]) := by
  refine ⟨by rw [hp, h.posts, pairs_app]; rfl, ?_, ?_, hpos, ?_, hk, hb⟩
  · rw [List.map_append]; exact h.sub.append (List.Sublist.refl _)
  · rw [List.map_append]
    have := ntRun_app (zs.map (·.x)) ([], []) (k.paid, k.bonds) x h.run (by rw [hs]; exact ⟨look_nn hpos.1 _, look_nn hpos.2 _⟩)
    rw [hs] at this; exact this
  · rw [hp, sum_two _ _ _ _ _ _ (by omega), h.acc3, h3]; omega
theorem put_nn {m : List (Int × Int)} (h : ∀ p ∈ m, 0 ≤ p.2) {n v : Int} (hv : 0 ≤ v) : ∀ p ∈ putM m n v, 0 ≤ p.2 := putM_all (Q := fun p => 0 ≤ p.2) h hv
theorem Trc.doItem {L : List Itm} {k : Bk} {zs : List Pr} (h : Trc L k zs) {x : Itm} (hx : x.Fm) : ∃ zs', Trc (L ++ [x]) (doItem k x) zs' := by
  have hK := h.keys.doItem x
  have hm : 0 ≤ x.amount := hx.2.2.2.1.1
  have hkd := hx.2.2.2.2
  unfold K.doItem at hK ⊢
  by_cases k1 : x.kind = 1
  · rw [if_pos k1] at hK ⊢
    have ha : 10 ≤ x.account := by omega
    unfold doBill at hK ⊢; split
    · exact ⟨zs, h.refuse x⟩
    · split
      · exact ⟨zs, h.refuse x⟩
      · rename_i h7
        refine ⟨_, h.pair x (onDay k x.day) x.account 2 x.amount h7 rfl ?_ h.pos ?_ ⟨h.keys.1, h.keys.2⟩ fun b hb => ?_⟩
        · unfold ntStep; rw [if_neg (by omega), if_neg (by omega), if_neg (by omega), if_neg (by omega)]; rfl
        · rw [if_neg (by omega), if_neg (by decide)]; show sumI (k.bonds.map _) = _; omega
        · rcases List.mem_append.1 hb with hb | hb
          · exact h.bill b hb
          · simp only [List.mem_singleton] at hb; subst hb; exact ha
  rw [if_neg k1] at hK ⊢
  by_cases k2 : x.kind = 2
  · rw [if_pos k2] at hK ⊢
    unfold doMend at hK ⊢; split
    · exact ⟨zs, h.refuse x⟩
    · rename_i q hq
      split
      · exact ⟨zs, h.refuse x⟩
      · rename_i h7
        have hmem := h.bill _ (getD_mem (d := default) (fb_some hq))
        generalize k.bills.getD q default = s at hmem h7
        refine ⟨_, h.pair x (onDay k s.1.item.day) s.1.item.account 2 (x.amount - s.1.amount) h7 rfl ?_ h.pos ?_ ⟨h.keys.1, h.keys.2⟩ fun b hb => ?_⟩
        · unfold ntStep; rw [if_neg (by omega), if_neg (by omega), if_neg (by omega), if_neg (by omega)]; rfl
        · rw [if_neg (by omega), if_neg (by decide)]; show sumI (k.bonds.map _) = _; omega
        · rcases List.mem_or_eq_of_mem_set hb with hb | hb
          · exact h.bill b hb
          · subst hb; exact hmem
  rw [if_neg k2] at hK ⊢
  by_cases k3 : x.kind = 3
  · rw [if_pos k3] at hK ⊢
    unfold doPay at hK ⊢; split
    · exact ⟨zs, h.refuse x⟩
    · rename_i h7
      rw [if_neg h7] at hK
      have hl := look_nn h.pos.1 x.account
      refine ⟨_, h.pair x (onDay k x.day) 1 x.account x.amount h7 rfl ?_ ⟨put_nn h.pos.1 (by omega), h.pos.2⟩ ?_ hK h.bill⟩
      · unfold ntStep; rw [if_pos k3]; rfl
      · rw [if_neg (by decide), if_neg (by omega)]; show sumI (k.bonds.map _) = _; omega
  rw [if_neg k3] at hK ⊢
  by_cases k4 : x.kind = 4
  · rw [if_pos k4] at hK ⊢
    unfold doRefund at hK ⊢; split
    · exact ⟨zs, h.refuse x⟩
    · rename_i h6
      rw [if_neg h6] at hK
      split
      · exact ⟨zs, h.refuse x⟩
      · rename_i h7
        rw [if_neg h7] at hK
        refine ⟨_, h.pair x (onDay k x.day) x.account 1 x.amount h7 rfl ?_ ⟨put_nn h.pos.1 (by omega), h.pos.2⟩ ?_ hK h.bill⟩
        · unfold ntStep; rw [if_neg k3, if_pos k4]; rfl
        · rw [if_neg (by omega), if_neg (by decide)]; show sumI (k.bonds.map _) = _; omega
  rw [if_neg k4] at hK ⊢
  by_cases k5 : x.kind = 5
  · rw [if_pos k5] at hK ⊢
    unfold doBond at hK ⊢; split
    · exact ⟨zs, h.refuse x⟩
    · rename_i h7
      rw [if_neg h7] at hK
      have hl := look_nn h.pos.2 x.account
      refine ⟨_, h.pair x (onDay k x.day) 1 3 x.amount h7 rfl ?_ ⟨h.pos.1, put_nn h.pos.2 (by omega)⟩ ?_ hK h.bill⟩
      · unfold ntStep; rw [if_neg k3, if_neg k4, if_pos k5]; rfl
      · rw [if_neg (by decide), if_pos rfl]; show sumI ((putM k.bonds _ _).map _) = _; rw [put_sum]; omega
  rw [if_neg k5] at hK ⊢
  by_cases k6 : x.kind = 6
  · rw [if_pos k6] at hK ⊢
    unfold doFree at hK ⊢; split
    · exact ⟨zs, h.refuse x⟩
    · rename_i h6
      rw [if_neg h6] at hK
      split
      · exact ⟨zs, h.refuse x⟩
      · rename_i h7
        rw [if_neg h7] at hK
        refine ⟨_, h.pair x (onDay k x.day) 3 1 x.amount h7 rfl ?_ ⟨h.pos.1, put_nn h.pos.2 (by omega)⟩ ?_ hK h.bill⟩
        · unfold ntStep; rw [if_neg k3, if_neg k4, if_neg k5, if_pos k6]; rfl
        · rw [if_pos rfl, if_neg (by decide)]; show sumI ((putM k.bonds _ _).map _) = _; rw [put_sum]; omega
  rw [if_neg k6] at hK ⊢
  unfold doShut at hK ⊢; split
  · exact ⟨zs, h.refuse x⟩
  · exact ⟨zs, h.posts, h.sub.trans (List.sublist_append_left _ _), h.run, h.pos, h.acc3, ⟨h.keys.1, h.keys.2⟩, h.bill⟩
theorem trc_fold : ∀ (l L : List Itm) (k : Bk) (zs : List Pr), (∀ x ∈ l, x.Fm) → Trc L k zs → ∃ zs', Trc (L ++ l) (l.foldl doItem k) zs'
  | [], L, k, zs, _, h => ⟨zs, by rw [List.append_nil]; exact h⟩
  | x :: l, L, k, zs, hf, h => by
    obtain ⟨z1, h1⟩ := h.doItem (hf x (List.mem_cons_self ..))
    obtain ⟨z2, h2⟩ := trc_fold l (L ++ [x]) _ z1 (fun y hy => hf y (List.mem_cons_of_mem _ hy)) h1
    exact ⟨z2, by rw [List.append_assoc] at h2; exact h2⟩
theorem trc_read {l : List Itm} (hf : ∀ x ∈ l, x.Fm) (known : Int) : ∃ zs, Trc (knownOn known (srt l)) (foldB (knownOn known (srt l))) zs := by
  have := trc_fold (knownOn known (srt l)) [] bk0 [] (fun x hx => hf x (srt_mem (known_mem hx))) Trc.zero
  rw [List.nil_append] at this; exact this
end K
end Go.Proofs.YtelpdkojdfnmiaaGreat
/-! LB9 -/
namespace Go.Proofs.YtelpdkojdfnmiaaGreat
open Ev K
set_option maxRecDepth 100000
namespace K
theorem find_dec {g : Get AV} (ht : g.tag = [.int .i64, .int .i64]) {n : Nat} {M : List (Int × Int)} (h : decF rPII n g.f = M) (a : Int) : mfind g (.int .i64 a) n = fM M a := by
  subst h
  have hlen : (decF rPII n g.f).length = n := decF_length ..
  have := mfind_gen g (.int .i64 a) (decF rPII n g.f) (fun p => a == p.1) (fun i p hp => by
    obtain ⟨hi, e⟩ := List.getElem?_eq_some_iff.1 hp
    rw [hlen] at hi
    simp only [decF, List.getElem_map, List.getElem_range] at e
    subst e
    simp only [Get.cell, ht, ckAt, conf]; rfl)
  rw [hlen] at this; exact this
theorem raw_dec {g : Get AV} {n : Nat} {M : List (Int × Int)} (h : decF rPII n g.f = M) (a : Int) : numOf (mraw g (fM M a) (.int .i64 0) 1) = lookM M a := by
  subst h
  unfold mraw lookM
  cases hf : fM (decF rPII n g.f) a with
  | none => rfl
  | some i =>
    have hi := fM_some hf
    rw [decF_length] at hi
    simp only
    rw [List.getD_eq_getElem?_getD]
    simp only [decF, List.getElem?_map, List.getElem?_range hi, Option.map_some, Option.getD_some]; rfl
theorem raw_put (m : List (Int × Int)) (n v a : Int) : numOf (mraw (mputG ⟨[.int .i64, .int .i64], encF rPII m⟩ (mputP (fM m n) m.length) [.int .i64 n, .int .i64 v]) (mfind (mputG ⟨[.int .i64, .int .i64], encF rPII m⟩ (mputP (fM m n) m.length) [.int .i64 n, .int .i64 v]) (.int .i64 a) (mputN (fM m n) m.length)) (.int .i64 0) 1) = lookM (putM m n v) a := by
  have h := put_M m n v
  rw [find_dec rfl h, raw_dec h]
def MpB (N : Int) (q : Mps) : Prop := (∀ p ∈ q.1, 0 ≤ p.2 ∧ p.2 ≤ N) ∧ ∀ p ∈ q.2, 0 ≤ p.2 ∧ p.2 ≤ N
theorem ntStep_b {N : Int} (hN : 0 ≤ N) {q : Mps} (h : MpB N q) {x : Itm} (hx : 0 ≤ x.amount ∧ x.amount ≤ 16777216) (ho : ntOk (ntStep q x) x) (hk : KeysOk { bk0 with paid := q.1, bonds := q.2 }) : MpB (N + 16777216) (ntStep q x) := by
  have a1 := lookM_bound hN h.1 x.account
  have a2 := lookM_bound hN h.2 x.account
  have self : ∀ (m : List (Int × Int)) (v : Int), (m.map (·.1)).Nodup → lookM (putM m x.account v) x.account = v := fun m v hm => lookM_mem (nodup_put hm) ((put_mem hm _ _ _).2 (.inl rfl))
  unfold ntStep at *
  split
  · rename_i h3
    rw [if_pos h3] at ho
    unfold ntOk at ho
    have := self q.1 _ hk.1 ▸ ho.1
    exact ⟨putM_all (Q := fun p => 0 ≤ p.2 ∧ p.2 ≤ N + 16777216) (fun p hp => by have := h.1 p hp; omega) (by show 0 ≤ lookM q.1 x.account + x.amount ∧ _; omega), fun p hp => by have := h.2 p hp; omega⟩
  split
  · rename_i h3 h4
    rw [if_neg h3, if_pos h4] at ho
    unfold ntOk at ho
    have e := ho.1
    simp only at e
    rw [self q.1 _ hk.1] at e
    exact ⟨putM_all (Q := fun p => 0 ≤ p.2 ∧ p.2 ≤ N + 16777216) (fun p hp => by have := h.1 p hp; omega) (by show 0 ≤ lookM q.1 x.account - x.amount ∧ _; omega), fun p hp => by have := h.2 p hp; omega⟩
  split
  · exact ⟨fun p hp => by have := h.1 p hp; omega, putM_all (Q := fun p => 0 ≤ p.2 ∧ p.2 ≤ N + 16777216) (fun p hp => by have := h.2 p hp; omega) (by show 0 ≤ lookM q.2 x.account + x.amount ∧ _; omega)⟩
  split
  · rename_i h3 h4 h5 h6
    rw [if_neg h3, if_neg h4, if_neg h5, if_pos h6] at ho
    unfold ntOk at ho
    have e := ho.2
    simp only at e
    rw [self q.2 _ hk.2] at e
    exact ⟨fun p hp => by have := h.1 p hp; omega, putM_all (Q := fun p => 0 ≤ p.2 ∧ p.2 ≤ N + 16777216) (fun p hp => by have := h.2 p hp; omega) (by show 0 ≤ lookM q.2 x.account - x.amount ∧ _; omega)⟩
  · exact ⟨fun p hp => by have := h.1 p hp; omega, fun p hp => by have := h.2 p hp; omega⟩
theorem ntStep_keys {q : Mps} (hk : KeysOk { bk0 with paid := q.1, bonds := q.2 }) (x : Itm) : KeysOk { bk0 with paid := (ntStep q x).1, bonds := (ntStep q x).2 } := by
  obtain ⟨h1, h2⟩ := hk
  unfold ntStep
  split
  · exact ⟨nodup_put h1, h2⟩
  split
  · exact ⟨nodup_put h1, h2⟩
  split
  · exact ⟨h1, nodup_put h2⟩
  split
  · exact ⟨h1, nodup_put h2⟩
  · exact ⟨h1, h2⟩
set_option maxHeartbeats 1000000 in
theorem L_nt3_eq {l : List Itm} {known : Int} {ps : List Pst} {bs : List Bal} {i n : Nat} {p : Pst} {x : Itm} {N : Int} {q : Mps} (hl : l.length ≤ 1000000) (_hps : ps.length ≤ 1000000) (hp : ps[i]? = some p) (hx : l[n]? = some x) (hid : x.id = p.item) (hno : ∀ (j : Nat) (y : Itm), j < n → l[j]? = some y → y.id ≠ p.item)
    (hxa : 0 ≤ x.amount ∧ x.amount ≤ 16777216) (hN : 0 ≤ N ∧ N ≤ 1000000000000000) (hq : MpB N q) (ho : ntOk (ntStep q x) x) : ∀ (d j : Nat), j + d = n →
    L_nt3 ((l, known, ps, bs, (i : Int), (j : Int)), q.1, q.2, ()) = some (.inl ((l, known, ps, bs, (i : Int)), (ntStep q x).1, (ntStep q x).2, ())) := by
  obtain ⟨hi, _⟩ := List.getElem?_eq_some_iff.1 hp
  obtain ⟨hn, _⟩ := List.getElem?_eq_some_iff.1 hx
  obtain ⟨q1, q2⟩ := q
  have a1 := lookM_bound hN.1 hq.1 x.account
  have a2 := lookM_bound hN.1 hq.2 x.account
  simp only at a1 a2
  intro d
  induction d with
  | zero =>
    intro j hj
    obtain rfl : j = n := by omega
    refine lim_done ?_
    rw [sl_nt3]
    simp only [clampS hl, Int.toNat_natCast, Nat.zero_add, item_at hx, post_at hp, wr0, wr2, wr5, wr6, pw0, decF_encF, find_M, raw_M, put_M, raw_put]
    have w4 : IntKind.i64.wrap (lookM q1 x.account + x.amount) = lookM q1 x.account + x.amount := w64_in (by omega) (by omega)
    have w5 : IntKind.i64.wrap (lookM q1 x.account - x.amount) = lookM q1 x.account - x.amount := w64_in (by omega) (by omega)
    have w6 : IntKind.i64.wrap (lookM q2 x.account + x.amount) = lookM q2 x.account + x.amount := w64_in (by omega) (by omega)
    have w7 : IntKind.i64.wrap (lookM q2 x.account - x.amount) = lookM q2 x.account - x.amount := w64_in (by omega) (by omega)
    simp only [w4, w5, w6, w7]
    refine br_t (decide_eq_true (by omega)) (chk_step (decide_eq_true (by omega)) (chk_step (decide_eq_true (by omega)) (br_f (by rw [bne_eq_false_iff_eq]; exact hid) ?_)))
    unfold ntStep ntOk at *
    by_cases k3 : x.kind = 3
    · rw [if_pos k3] at ho ⊢
      exact br_t (beq_iff_eq.2 k3) (br_f (decide_eq_false (by have := ho.1; unfold addM at this; simp only at this; omega)) (br_f (decide_eq_false (by have := ho.2; simp only at this; omega)) rfl))
    rw [if_neg k3] at ho ⊢
    refine br_f (by rw [beq_eq_false_iff_ne]; exact k3) ?_
    by_cases k4 : x.kind = 4
    · rw [if_pos k4] at ho ⊢
      exact br_t (beq_iff_eq.2 k4) (br_f (decide_eq_false (by have := ho.1; simp only at this; omega)) (br_f (decide_eq_false (by have := ho.2; simp only at this; omega)) rfl))
    rw [if_neg k4] at ho ⊢
    refine br_f (by rw [beq_eq_false_iff_ne]; exact k4) ?_
    by_cases k5 : x.kind = 5
    · rw [if_pos k5] at ho ⊢
      exact br_t (beq_iff_eq.2 k5) (br_f (decide_eq_false (by have := ho.1; simp only at this; omega)) (br_f (decide_eq_false (by have := ho.2; unfold addM at this; simp only at this; omega)) rfl))
    rw [if_neg k5] at ho ⊢
    refine br_f (by rw [beq_eq_false_iff_ne]; exact k5) ?_
    by_cases k6 : x.kind = 6
    · rw [if_pos k6] at ho ⊢
      exact br_t (beq_iff_eq.2 k6) (br_f (decide_eq_false (by have := ho.1; simp only at this; omega)) (br_f (decide_eq_false (by have := ho.2; simp only at this; omega)) rfl))
    rw [if_neg k6] at ho ⊢
    refine br_f (by rw [beq_eq_false_iff_ne]; exact k6) ?_
    exact br_f (decide_eq_false (by have := ho.1; simp only at this; omega)) (br_f (decide_eq_false (by have := ho.2; simp only at this; omega)) rfl)
  | succ d ih =>
    intro j hj
    have hjl : j < l.length := by omega
    have hy := List.getElem?_eq_getElem hjl
    have hne := hno j _ (by omega) hy
    generalize l[j] = y at hy hne
    refine (lim_step ?_).trans (ih (j + 1) (by omega))
    rw [sl_nt3]
    simp only [clampS hl, Int.toNat_natCast, Nat.zero_add, item_at hy, post_at hp, wr0, pw0, decF_encF, wrapI (show j ≤ 4000000 by omega)]
    exact br_t (decide_eq_true (by omega)) (chk_step (decide_eq_true (by omega)) (chk_step (decide_eq_true (by omega)) (br_t (by rw [bne_iff_ne]; exact hne) rfl)))
theorem first_id {l : List Itm} (ho : One l) {x : Itm} (hx : x ∈ l) : ∃ n : Nat, l[n]? = some x ∧ ∀ (j : Nat) (y : Itm), j < n → l[j]? = some y → y.id ≠ x.id := by
  have hf : (l.findIdx? fun y => y.id == x.id).isSome := by
    rw [List.findIdx?_isSome, List.any_eq_true]; exact ⟨x, hx, by simp⟩
  obtain ⟨n, hn⟩ := Option.isSome_iff_exists.1 hf
  rw [List.findIdx?_eq_some_iff_getElem] at hn
  obtain ⟨h1, h2, h3⟩ := hn
  refine ⟨n, ?_, fun j y hj hy => ?_⟩
  · rw [List.getElem?_eq_getElem h1, ho _ (List.getElem_mem h1) x hx (by simpa using h2)]
  · obtain ⟨hjl, e⟩ := List.getElem?_eq_some_iff.1 hy
    have := h3 j hj
    rw [e] at this; simpa using this
theorem pairs_len (zs : List Pr) : (pairs zs).length = 2 * zs.length := by
  induction zs with
  | nil => rfl
  | cons z zs ih => rw [pairs_cons]; simp only [List.length_cons, ih]; omega
theorem L_nt1_eq {l : List Itm} {known : Int} {ps : List Pst} {bs : List Bal} {qf : Mps} (hl : l.length ≤ 1000) (ho : One l) (hps : ps.length ≤ 1000) (hf : ∀ x ∈ l, 0 ≤ x.amount ∧ x.amount ≤ 16777216) : ∀ (zs zs0 : List Pr) (q : Mps) (N : Nat), ps = pairs (zs0 ++ zs) → (∀ z ∈ zs, z.x ∈ l) → ((zs0 ++ zs).map (·.x.id)).Nodup →
    MpB ((N : Int) * 16777216) q → N + zs.length ≤ 100000 → KeysOk { bk0 with paid := q.1, bonds := q.2 } → ntRun q (zs.map (·.x)) = some qf →
    L_nt1 ((l, known, ps, bs, ((2 * zs0.length : Nat) : Int)), q.1, q.2, ()) = some (.inl ((l, known, bs, ()), qf.2, ())) := by
  intro zs
  induction zs with
  | nil =>
    intro zs0 q N hp hz hnd hq hN hk hr
    injection hr with hr; subst hr
    rw [List.append_nil] at hp
    have hlen : ps.length = 2 * zs0.length := by rw [hp, pairs_len]
    refine lim_done ?_
    rw [sl_nt1]
    simp only [clampS (show ps.length ≤ 1000000 by omega), Nat.zero_add, decF_encF]
    exact br_f (decide_eq_false (by omega)) rfl
  | cons z zs ihz =>
    intro zs0 q N hp hz hnd hq hN hk hr
    have hlen : ps.length = 2 * zs0.length + 2 + 2 * zs.length := by rw [hp, pairs_len, List.length_append, List.length_cons]; omega
    have e0 : pairs (zs0 ++ z :: zs) = pairs zs0 ++ ⟨z.x.id, z.on, z.a, z.m⟩ :: ⟨z.x.id, z.on, z.b, -z.m⟩ :: pairs zs := by rw [pairs_app, pairs_cons]
    have g1 : ps[2 * zs0.length]? = some ⟨z.x.id, z.on, z.a, z.m⟩ := by rw [hp, e0, ← pairs_len]; exact get_mid
    have g2 : ps[2 * zs0.length + 1]? = some ⟨z.x.id, z.on, z.b, -z.m⟩ := by
      have := get_mid (P := pairs zs0 ++ [⟨z.x.id, z.on, z.a, z.m⟩]) (x := (⟨z.x.id, z.on, z.b, -z.m⟩ : Pst)) (Q := pairs zs)
      rw [List.length_append, pairs_len, List.append_assoc] at this
      rw [hp, e0]; exact this
    have hzx := hz z (List.mem_cons_self ..)
    obtain ⟨n, hn, hfirst⟩ := first_id ho hzx
    simp only [List.map_cons, ntRun] at hr
    split at hr
    case isFalse => cases hr
    rename_i hok
    have hxa := hf z.x hzx
    simp only [List.length_cons] at hN
    have key := L_nt3_eq (known := known) (bs := bs) (n := n) (show l.length ≤ 1000000 by omega) (show ps.length ≤ 1000000 by omega) g1 hn rfl hfirst hxa (N := (N : Int) * 16777216) ⟨by omega, by omega⟩ hq hok n 0 (by omega)
    have hq2 := ntStep_b (by omega) hq hxa hok hk
    have hq3 : MpB (((N + 1 : Nat) : Int) * 16777216) (ntStep q z.x) := by
      have e : ((N + 1 : Nat) : Int) * 16777216 = (N : Int) * 16777216 + 16777216 := by omega
      rw [e]; exact hq2
    have ih := ihz (zs0 ++ [z]) (ntStep q z.x) (N + 1) (by rw [hp]; simp) (fun w hw => hz w (List.mem_cons_of_mem _ hw)) (by simpa using hnd) hq3 (by omega) (ntStep_keys hk z.x) hr
    have w1 := wrapI (show 2 * zs0.length ≤ 4000000 by omega)
    have w2 := wrapI (show 2 * zs0.length + 1 ≤ 4000000 by omega)
    have s1 : st_nt1 ((l, known, ps, bs, ((2 * zs0.length : Nat) : Int)), q.1, q.2, ()) = some (.inl ((l, known, ps, bs, ((2 * zs0.length + 1 : Nat) : Int)), (ntStep q z.x).1, (ntStep q z.x).2, ())) := by
      rw [sl_nt1]
      by_cases h0 : zs0 = []
      · subst h0
        simp only [clampS (show ps.length ≤ 1000000 by omega), Nat.zero_add, decF_encF]
        refine br_t (decide_eq_true (by omega)) (br_f (decide_eq_false (by simp)) ?_)
        refine obs_step key ?_
        refine (T.run_inl _ _ _).trans ?_
        simp only [w1]; rfl
      · obtain ⟨zs', z0, rfl⟩ : ∃ zs' z0, zs0 = zs' ++ [z0] := ⟨zs0.dropLast, zs0.getLast h0, (List.dropLast_concat_getLast h0).symm⟩
        have hne : z0.x.id ≠ z.x.id := by
          have h5 := hnd
          simp only [List.map_append, List.map_cons, List.map_nil] at h5
          have h6 := (List.nodup_append.1 h5).2.2 z0.x.id (by simp) z.x.id (by simp)
          exact h6
        have hl0 : 2 * (zs' ++ [z0]).length = 2 * zs'.length + 1 + 1 := by simp; omega
        have g0 : ps[2 * zs'.length + 1]? = some ⟨z0.x.id, z0.on, z0.b, -z0.m⟩ := by
          have := get_mid (P := pairs zs' ++ [⟨z0.x.id, z0.on, z0.a, z0.m⟩]) (x := (⟨z0.x.id, z0.on, z0.b, -z0.m⟩ : Pst)) (Q := pairs (z :: zs))
          rw [List.length_append, pairs_len, List.append_assoc] at this
          rw [hp, pairs_app, pairs_app, List.append_assoc]; exact this
        have wm : IntKind.i64.wrap (((2 * (zs' ++ [z0]).length : Nat) : Int) - 1) = ((2 * zs'.length + 1 : Nat) : Int) := by rw [w64_in (by omega) (by omega)]; omega
        simp only [clampS (show ps.length ≤ 1000000 by omega), Nat.zero_add, decF_encF, wm, Int.toNat_natCast, post_at g1, post_at g0, pw0]
        refine br_t (decide_eq_true (by omega)) (br_t (decide_eq_true (by omega)) (chk_step (decide_eq_true (by omega)) (chk_step (decide_eq_true (by omega)) (br_f (by rw [beq_eq_false_iff_ne]; exact hne) ?_))))
        refine obs_step key ?_
        refine (T.run_inl _ _ _).trans ?_
        simp only [w1]; rfl
    have s2 : st_nt1 ((l, known, ps, bs, ((2 * zs0.length + 1 : Nat) : Int)), (ntStep q z.x).1, (ntStep q z.x).2, ()) = some (.inl ((l, known, ps, bs, ((2 * zs0.length + 1 + 1 : Nat) : Int)), (ntStep q z.x).1, (ntStep q z.x).2, ())) := by
      rw [sl_nt1]
      have wm : IntKind.i64.wrap (((2 * zs0.length + 1 : Nat) : Int) - 1) = ((2 * zs0.length : Nat) : Int) := by rw [w64_in (by omega) (by omega)]; omega
      simp only [clampS (show ps.length ≤ 1000000 by omega), Nat.zero_add, decF_encF, wm, Int.toNat_natCast, post_at g1, post_at g2, pw0, w2]
      exact br_t (decide_eq_true (by omega)) (br_t (decide_eq_true (by omega)) (chk_step (decide_eq_true (by omega)) (chk_step (decide_eq_true (by omega)) (br_t (by simp) rfl))))
    refine (lim_step s1).trans ((lim_step s2).trans ?_)
    rw [show 2 * zs0.length + 1 + 1 = 2 * (zs0 ++ [z]).length by simp; omega]
    exact ih
end K
end Go.Proofs.YtelpdkojdfnmiaaGreat
/-! LBa -/
namespace Go.Proofs.YtelpdkojdfnmiaaGreat
open Ev K
set_option maxRecDepth 100000
namespace K
theorem L_nt2_eq (l : List Itm) (known : Int) (bs : List Bal) (m : List (Int × Int)) (hl : bs.length ≤ 1000) (ha : ∀ b ∈ bs, (0 ≤ b.amount ∧ b.amount ≤ 2013265920) ∧ lookM m b.account = b.amount) : ∀ (d i : Nat) (s : Int), i + d = bs.length → 0 ≤ s ∧ s ≤ (i : Int) * 2013265920 →
    L_nt2 ((l, known, bs, s, (i : Int)), m, ()) = some (.inl ((l, known, s + sumI ((bs.drop i).map (·.amount))), ())) := by
  intro d
  induction d with
  | zero =>
    intro i s h hb
    refine lim_done ?_
    rw [sl_nt2]
    simp only [clampS (show bs.length ≤ 1000000 by omega), Nat.zero_add, decF_encF]
    refine br_f (decide_eq_false (by omega)) ?_
    rw [List.drop_of_length_le (by omega)]
    simp [sumI]; rfl
  | succ d ih0 =>
    intro i s h hb
    have hi : i < bs.length := by omega
    have hx := List.getElem?_eq_getElem hi
    have hm := ha _ (List.getElem_mem hi)
    have hdrop := List.drop_eq_getElem_cons hi
    generalize bs[i] = x at hx hm hdrop
    have ih := ih0 (i + 1) (s + x.amount) (by omega) (by omega)
    have e : s + sumI ((bs.drop i).map (·.amount)) = s + x.amount + sumI ((bs.drop (i + 1)).map (·.amount)) := by
      rw [hdrop]; simp only [List.map_cons, sumI, List.sum_cons]; omega
    rw [e]
    refine (lim_step ?_).trans ih
    rw [sl_nt2]
    simp only [clampS (show bs.length ≤ 1000000 by omega), Int.toNat_natCast, Nat.zero_add, balr_at hx, bw0, bw1, decF_encF, find_M, raw_M, wrapI (show i ≤ 4000000 by omega), wrapS (show -9000000000000000000 ≤ s + x.amount by omega) (by omega)]
    exact br_t (decide_eq_true (by omega)) (chk_step (decide_eq_true (by omega)) (chk_step (decide_eq_true (by omega)) (chk_step (decide_eq_true (by omega)) (br_f (by rw [bne_eq_false_iff_eq]; exact hm.2) rfl))))
theorem lwNt_eq (a : List Itm × Int) : callT1 P BLB83 30 9 D_ln dB a = some true := by
  obtain ⟨l, known⟩ := a
  rw [fn_lwNt]
  simp only [Nat.zero_add, decF_encF]
  have hE : (bondsV l known).2 = (postingsV l known).2 := rfl
  by_cases hfew : l_few l = true
  · refine br_f (by rw [hfew]; rfl) ?_
    by_cases h1 : askedV l [known] = 0
    · refine br_f (ne_f h1) (br_f (ne_f h1) ?_)
      obtain ⟨hck, hdk⟩ := ask_check h1
      obtain ⟨c1, c2, _⟩ := checkV_ok hck
      have ho := one_of hck
      have e1 : (postingsV l known).1 = (readB l known).posts := by unfold postingsV; rw [if_pos h1]
      have e2 : (bondsV l known).1 = listB (readB l known).bonds := by unfold bondsV; rw [if_pos h1]
      rw [e1, e2]
      obtain ⟨zs, t⟩ := trc_read c2 known
      have hbk := read_ok c2 known
      have hpl := hbk.posts
      have hps : (readB l known).posts = pairs ([] ++ zs) := t.posts
      have hsub : ∀ z ∈ zs, z.x ∈ l := fun z hz => srt_mem (known_mem (t.sub.subset (List.mem_map_of_mem hz)))
      have hnd : ((([] : List Pr) ++ zs).map (·.x.id)).Nodup := by
        have hp : (zs.map Pr.x).Pairwise ltK := ((srt_sorted ho).1.sublist (List.takeWhile_sublist _)).sublist t.sub
        have hp2 : (zs.map Pr.x).Pairwise fun x y : Itm => x.id ≠ y.id := hp.imp_of_mem fun {x y} hx hy hlt he => by
          obtain ⟨z1, h4, rfl⟩ := List.mem_map.1 hx
          obtain ⟨z2, h5, rfl⟩ := List.mem_map.1 hy
          have e := ho _ (hsub z1 h4) _ (hsub z2 h5) he
          rw [e] at hlt
          exact ltK_as _ _ hlt hlt
        have := List.pairwise_map.2 hp2
        rw [List.nil_append, List.Nodup]
        rw [List.pairwise_map, List.pairwise_map] at this
        rw [List.pairwise_map]; exact this
      have hzl : zs.length ≤ 1000 := by have := pairs_len zs; rw [List.nil_append] at hps; rw [hps] at hpl; omega
      have key := L_nt1_eq (known := known) (ps := (readB l known).posts) (bs := listB (readB l known).bonds) (show l.length ≤ 1000 by omega) ho (by omega) (fun x hx => (c2 x hx).2.2.2.1) zs [] ([], []) 0 hps hsub hnd ⟨(fun p hp => by cases hp), (fun p hp => by cases hp)⟩ (by omega) ⟨List.nodup_nil, List.nodup_nil⟩ t.run
      refine obs_step key ?_
      refine (T.run_inl _ _ _).trans ?_
      have hkeys : ((readB l known).bonds.map (·.1)).Nodup := (read_keys l known).bonds
      have hbperm := (sortB_spec ((readB l known).bonds.map balOf)).1
      have hmem : ∀ b ∈ listB (readB l known).bonds, (b.account, b.amount) ∈ (readB l known).bonds := fun b hb => by
        obtain ⟨p, hp, rfl⟩ := List.mem_map.1 (hbperm.mem_iff.1 hb); exact hp
      have hbl : (listB (readB l known).bonds).length ≤ 1000 := by
        rw [listB_length]
        have := of_decide_eq_true (bonds_mapOk (show l.length ≤ 1000 by omega) known); exact this.2
      have k2 := L_nt2_eq l known (listB (readB l known).bonds) (readB l known).bonds hbl (fun b hb => ⟨by have := hbk.bonds _ (hmem b hb); simp only at this; omega, lookM_mem hkeys (hmem b hb)⟩) (listB (readB l known).bonds).length 0 0 (by omega) (by omega)
      simp only
      refine obs_step k2 ?_
      refine (T.run_inl _ _ _).trans ?_
      have hs : sumI ((listB (readB l known).bonds).map (·.amount)) = sumI ((readB l known).bonds.map (·.2)) := by
        refine (sumI_perm (hbperm.map _)).trans ?_
        rw [List.map_map]; rfl
      have h3 : sumA (readB l known).posts 3 728 = - sumI ((readB l known).bonds.map (·.2)) := t.acc3
      have hhold : holdV l 3 728 known = (sumA (readB l known).posts 3 728, 0) := by
        have hh : holdE l [728, known] 3 = 0 := by
          unfold holdE
          rw [asked_ok hck fun n hn => by
            simp only [List.mem_cons, List.not_mem_nil, or_false] at hn
            rcases hn with rfl | rfl
            · exact ⟨by decide, by decide⟩
            · exact hdk _ (by simp)]
          rfl
        unfold holdV; rw [hh, if_pos rfl, look_sum]
      have hb := sumA_bound (of_decide_eq_true (chk_bal hck known)).2 3 728
      rw [List.drop_zero, hs]
      simp only [hhold, Int.zero_add]
      rw [w64_in (by omega) (by omega), h3]
      refine br_t rfl ?_
      simp [T.run]
    · exact br_t (ne_t h1) (by rw [hE]; simp [T.run])
  · exact br_t (by rw [Bool.not_eq_true] at hfew; rw [hfew]; rfl) rfl
end K
end Go.Proofs.YtelpdkojdfnmiaaGreat
/-! LZ5 -/
namespace Go.Proofs.YtelpdkojdfnmiaaGreat
open Ev K
open Go.ChangeShapes Go.WideShapes Go.RowKit
set_option maxRecDepth 100000
theorem law_pc (a) : PC P 9 (D_ln.enc a) (.bool true) := by
  have h := lwNt_eq a
  exact call_of okP tLB83 h
theorem ownP : ownKnob P.godebug = none := by kernel_rfl
theorem laidP : laidOutB P = true := by kernel_rfl
theorem ub : P.underlying 4 = some .bool := by kernel_rfl
theorem ledgerNeverTooMuch_lifted (os : Os) (started : os.Started) (H : Type) (enc : TypeId × Value → H) :
    ReturnsInHanded {} Tryz.checked os 9 .any (Rows.ledgerNeverTooMuchSpec.pre6 enc Tryz.prog Tryz.f9 Rows.ledgerNeverTooMuchRow.domain false) (Rows.ledgerNeverTooMuchSpec.post enc Tryz.prog Tryz.f9 false true false false) := by
  refine returnsInHanded_of_change (C := Tryz.checked) ownP started (by kernel_rfl) Tryz.func9
    (ChangeSpec.witness6 (enc := enc) (C := Tryz.checked) false ⟨#[], #[.slice none 0 0, .int .i64 0], []⟩ 8 (by kernel_rfl) (by kernel_rfl) (by kernel_rfl) (by kernel_rfl)) ?_
  intro W base args ds gs before hval hW _ _
  refine law_contract (P := Tryz.prog) D_ln laidP (by kernel_rfl) rfl (fun ds hd => ?_) (fun W' b sp hd => trodAll_mk1 (shut_bool ub true)) (fun W' => ok_one (by kernel_rfl) rfl (okWide_bool_mk ub true)) (fun W base args ds p hval hA => ?_) law_pc W base args ds gs before hval hW
  · rw [Tryz.params9] at hd
    match ds, hd with
    | [a, b], _ => rfl
  · rw [Tryz.params9] at hA hval
    obtain ⟨v0, vs0, d0, ds0, p0, q0, e0, _, _, h0, r0⟩ := trodAll_cons hA
    obtain ⟨v1, vs1, d1, ds1, p1, q1, e1, _, _, h1, r1⟩ := trodAll_cons r0
    obtain ⟨e2, _, _⟩ := trodAll_nil r1
    subst e2; subst e1
    have ha : args = #[v0, v1] := by apply Array.ext'; exact e0
    subst ha
    exact rdL_cons (rp_items (hval 0 _ v0 rfl rfl) h0) (rdL_last (rp_int (hval 1 _ v1 rfl rfl) h1))
theorem ledgerNeverTooMuch_holds : Rows.LedgerNeverTooMuchSaid :=
  OpenClaim.holds_of_wide 9 Tryz.f9 rfl rfl rfl rfl rfl rfl rfl ⟨rfl, rfl, rfl, rfl, rfl⟩ rfl rfl rfl rfl rfl (by kernel_rfl) Tryz.func9 (by kernel_rfl)
    (of_decide_eq_true (by kernel_rfl)) (by unfold Func.isWrapper; rw [if_neg (of_decide_eq_false (by kernel_rfl))]; exact ⟨rfl, rfl⟩)
    (fun os started H enc _ => ledgerNeverTooMuch_lifted os started H enc)
#print axioms ledgerNeverTooMuch_holds
end Go.Proofs.YtelpdkojdfnmiaaGreat
