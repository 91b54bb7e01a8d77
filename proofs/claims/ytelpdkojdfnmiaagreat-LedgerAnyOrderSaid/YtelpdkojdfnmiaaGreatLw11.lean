/- LedgerAnyOrder: for every input the law returns true, and the input reads as it did. No conditions. -/
import Derived.Test.YtelpdkojdfnmiaaGreatLw10
import Derived.ProofKit
import Derived.Carry
import Derived.Shelf.Spec.SlicesGrow
import Derived.Test.YtelpdkojdfnmiaaGreatRows
/-! EvW -/
namespace Go.Proofs.YtelpdkojdfnmiaaGreat.Ev
open Go.RowKit Go.WideShapes Go.ChangeShapes
section
variable {H : Type} {enc : TypeId × Value → H} {P : Program}
theorem post_of_below {f : Func} {s : ChangeSpec} {apart fresh handsOn again : Bool} {W W' : World} {args : Array Value} {v : Value} {ds gs : List (DataW H)} {before pa pv : List MemPlace}
    (hW : DataW.Whole enc P f.params.toList s.vars apart W args.toList ds gs before)
    (hres : ∀ (b : Nat) (sp : Nat → Bool) (hd : Bool), DataW.TrodAll enc P W' b sp hd f.resultTypes.toList (v.resultList f.resultTypes.size) (s.fn H (ds ++ gs)).results [])
    (hargs : ∀ sp : Nat → Bool, (∀ p ∈ before, sp p.block = true) → DataW.TrodAll enc P W' 0 sp true f.params.toList args.toList (s.fn H (ds ++ gs)).args pa)
    (hvars : ∀ sp : Nat → Bool, (∀ p ∈ before, sp p.block = true) → DataW.TrodVars enc P W' sp s.vars (s.fn H (ds ++ gs)).vars pv)
    (hps : before = pa ++ pv) (hb : Below W.heap.size W W')
    (hok : ∀ (j : Nat) (t : TypeId) (r : Value), f.resultTypes[j]? = some t → (v.resultList f.resultTypes.size)[j]? = some r → Value.okWide P W' .any 0 t r) :
    s.post enc P f apart fresh handsOn again W args v W' := by
  have hlt : ∀ p ∈ before, p.block < W.heap.size := fun p hp => hW.lt p hp
  have hold : ∀ p ∈ before, (fun b => decide (b < W.heap.size)) p.block = true := fun p hp => by simpa using hlt p hp
  refine ⟨ds, gs, before, [], pa, pv, hW, hres _ _ _, hargs _ hold, hvars _ hold, World.keptBut_mono (fun p hp => ⟨hp, ?_⟩) (hb.frame (· ∈ before)), fun _ => ?_⟩
  · rw [hps, List.mem_append] at hp
    exact Or.inr hp
  · obtain ⟨_, _, _, _, _, hz, hn⟩ := hW
    refine ⟨hok, _, _, ([] ++ pa) ++ pv, ⟨[] ++ pa, pv, trodAll_append (hargs _ (fun _ _ => rfl)) (hres _ _ _), hvars _ (fun _ _ => rfl), rfl, ?_, ?_⟩, ?_⟩
    · intro b off hp
      have hin : MemPlace.cell b off ∈ before := by rw [hps]; simpa using hp
      rw [hb.frozen (hlt _ hin)]
      exact hz b off hin
    · intro ha
      have := hn ha
      rw [hps] at this
      simpa using this
    · intro p hp _
      rw [hps]
      simpa using hp
theorem trodAll_stays (hl : laidOutB P = true) {W W' : World} (hb : Below W.heap.size W W') {sp : Nat → Bool} : ∀ {ts : List TypeId} {vs : List Value} {ds : List (DataW H)} {ps : List MemPlace},
    (∀ t ∈ ts, P.readableRec t = true ∧ t < P.types.size) → DataW.TrodAll enc P W 0 (fun _ => true) true ts vs ds ps → (∀ x ∈ ps, x.block < W.heap.size) → (∀ x ∈ ps, sp x.block = true) → DataW.TrodAll enc P W' 0 sp true ts vs ds ps
  | [], [], [], ps, _, h, _, _ => h
  | [], [], _ :: _, _, _, h, _, _ => h.elim
  | [], _ :: _, _, _, _, h, _, _ => h.elim
  | _ :: _, [], _, _, _, h, _, _ => h.elim
  | _ :: _, _ :: _, [], _, _, h, _, _ => h.elim
  | t :: ts, v :: vs, d :: ds, ps, ht, h, hlt, hs => by
    obtain ⟨p, q, h1, h2, rfl⟩ := h
    refine ⟨p, q, ?_, trodAll_stays hl hb (fun t h => ht t (List.mem_cons_of_mem _ h)) h2 (fun x hx => hlt x (List.mem_append_right _ hx)) (fun x hx => hs x (List.mem_append_right _ hx)), rfl⟩
    have h0 := ht t List.mem_cons_self
    exact WideElems.Trod_stays hl h0.1 h0.2 h1 (fun x hx => hb.same (hlt x (List.mem_append_left _ hx))) (fun x hx => hs x (List.mem_append_left _ hx))
inductive FK where
  | int (k : IntKind)
  | bool
  | str
  | sl (e : TypeId)
def flatF (r : TypeId → Option (List FK)) (P : Program) : List Field → Nat → Option (List FK)
  | [], _ => some []
  | f :: fs, off => match r f.type with
    | some l => match Nat.beq f.offset off && Nat.beq (P.cellsOf f.type) l.length with
      | true => match flatF r P fs (off + l.length) with
        | some m => some (l ++ m)
        | none => none
      | false => none
    | none => none
def flat (P : Program) : Nat → TypeId → Option (List FK)
  | 0, _ => none
  | n + 1, t => match P.underlying t with
    | some .bool => some [.bool]
    | some (.int k) => some [.int k]
    | some .string => some [.str]
    | some (.slice e) => some [.sl e]
    | some (.struct fs) => match flatF (flat P n) P fs.toList 0 with
      | some l => match Nat.beq (P.cellsOf t) l.length with
        | true => some l
        | false => none
      | none => none
    | some (.array m e) => match flat P n e with
      | some l => match Nat.beq (P.cellsOf e) l.length && Nat.beq (P.cellsOf t) (m * l.length) with
        | true => some (List.replicate m l).flatten
        | false => none
      | none => none
    | _ => none
def CellR (enc : TypeId × Value → H) (P : Program) (w : World) : FK → Value → Prop
  | .int k, v => ∃ n, v = .int k n ∧ (Lit.int k n).wf = true
  | .bool, v => ∃ b, v = .bool b
  | .str, v => ∃ s : ByteArray, v = .string s ∧ s.size ≤ maxLen
  | .sl e, v => v = .slice none 0 0 ∨ ∃ (a : Addr) (len cap : Nat), v = .slice (some a) len cap ∧ len ≤ cap ∧ cap ≤ maxLen ∧
      ∀ i, i < len → ∃ row, w.cells? 0 (a.add (i * P.cellsOf e)) (P.cellsOf e) = some row ∧ ∃ fuel x, DataW.trod enc P w 0 (fun _ => true) true fuel e row = some x
theorem mapM_mem {α β : Type} {f : α → Option β} : ∀ {l : List α} {ys : List β}, l.mapM f = some ys → ∀ x ∈ l, ∃ y, f x = some y
  | [], _, _, x, hx => by simp at hx
  | a :: l, ys, h, x, hx => by
    rw [List.mapM_cons] at h
    cases ha : f a with
    | none => simp [ha] at h
    | some b =>
      cases hl : l.mapM f with
      | none => simp [ha, hl] at h
      | some bs =>
        rcases List.mem_cons.1 hx with rfl | hx
        · exact ⟨b, ha⟩
        · exact mapM_mem hl x hx
theorem flatF_get {r : TypeId → Option (List FK)} {w : World} {cs : List Value} (hr : ∀ t l, r t = some l → ∀ fuel ds x, DataW.trod enc P w 0 (fun _ => true) true fuel t ds = some x → ds.length = l.length ∧ ∀ (i : Nat) (k : FK), l[i]? = some k → ∃ v, ds[i]? = some v ∧ CellR enc P w k v) :
    ∀ {fs : List Field} {off : Nat} {l : List FK}, flatF r P fs off = some l → off + l.length ≤ cs.length → (∀ f ∈ fs, ∃ fuel x, DataW.trod enc P w 0 (fun _ => true) true fuel f.type ((cs.drop f.offset).take (P.cellsOf f.type)) = some x) →
      ∀ (i : Nat) (k : FK), l[i]? = some k → ∃ v, cs[off + i]? = some v ∧ CellR enc P w k v
  | [], off, l, h, _, _, i, k, hi => by simp [flatF] at h; subst h; simp at hi
  | f :: fs, off, l, h, hle, hf, i, k, hi => by
    simp only [flatF] at h
    split at h
    case h_2 => simp at h
    rename_i l1 h1
    split at h
    case h_2 => simp at h
    rename_i hc
    simp only [Bool.and_eq_true] at hc
    have e1 := Nat.eq_of_beq_eq_true hc.1
    have e2 := Nat.eq_of_beq_eq_true hc.2
    split at h
    case h_2 => simp at h
    rename_i m hm
    injection h with h; subst h
    rw [List.length_append] at hle
    by_cases hlt : i < l1.length
    · rw [List.getElem?_append_left hlt] at hi
      obtain ⟨fuel, x, hx⟩ := hf f List.mem_cons_self
      obtain ⟨v, hv, hcr⟩ := (hr _ _ h1 _ _ _ hx).2 i k hi
      rw [List.getElem?_take] at hv
      split at hv
      · rw [List.getElem?_drop, e1] at hv
        exact ⟨v, hv, hcr⟩
      · simp at hv
    · rw [List.getElem?_append_right (by omega)] at hi
      obtain ⟨v, hv, hcr⟩ := flatF_get hr hm (by omega) (fun f h => hf f (List.mem_cons_of_mem _ h)) _ k hi
      exact ⟨v, by rw [← hv]; congr 1; omega, hcr⟩
theorem flatten_get {l : List FK} {m : Nat} : ∀ {i : Nat} {k : FK}, ((List.replicate m l).flatten)[i]? = some k → 0 < l.length ∧ i / l.length < m ∧ l[i % l.length]? = some k := by
  induction m with
  | zero => intro i k h; simp at h
  | succ m ih =>
    intro i k h
    rw [List.replicate_succ, List.flatten_cons] at h
    by_cases hlt : i < l.length
    · rw [List.getElem?_append_left hlt] at h
      exact ⟨by omega, by rw [Nat.div_eq_of_lt hlt]; omega, by rw [Nat.mod_eq_of_lt hlt]; exact h⟩
    · rw [List.getElem?_append_right (by omega)] at h
      obtain ⟨h1, h2, h3⟩ := ih h
      refine ⟨h1, ?_, ?_⟩
      · rw [Nat.div_eq_sub_div h1 (by omega)]; omega
      · rw [Nat.mod_eq_sub_mod (by omega)]; exact h3
theorem trod_flat {w : World} : ∀ (n : Nat) (t : TypeId) (ks : List FK), flat P n t = some ks → ∀ (fuel : Nat) (cs : List Value) (x : DataW H × List MemPlace), DataW.trod enc P w 0 (fun _ => true) true fuel t cs = some x →
    cs.length = ks.length ∧ ∀ (i : Nat) (k : FK), ks[i]? = some k → ∃ v, cs[i]? = some v ∧ CellR enc P w k v
  | 0, t, ks, h, _, _, _, _ => by simp [flat] at h
  | n + 1, t, ks, h, 0, cs, x, hx => by simp [DataW.trod] at hx
  | n + 1, t, ks, h, fuel + 1, cs, x, hx => by
    simp only [flat] at h
    split at h
    · rename_i hu
      injection h with h; subst h
      simp only [DataW.trod, hu] at hx
      split at hx <;> simp_all
      exact fun i k hi => by
        cases i with
        | zero => simp at hi; subst hi; exact ⟨_, rfl, _, rfl⟩
        | succ i => simp at hi
    · rename_i k0 hu
      injection h with h; subst h
      simp only [DataW.trod, hu] at hx
      split at hx <;> simp_all
      exact fun i k hi => by
        cases i with
        | zero => simp at hi; subst hi; exact ⟨_, rfl, _, rfl, hx.1.2⟩
        | succ i => simp at hi
    · rename_i hu
      injection h with h; subst h
      simp only [DataW.trod, hu] at hx
      split at hx <;> simp_all
      exact fun i k hi => by
        cases i with
        | zero => simp at hi; subst hi; exact ⟨_, rfl, _, rfl, hx.1⟩
        | succ i => simp at hi
    · rename_i e hu
      injection h with h; subst h
      simp only [DataW.trod, hu] at hx
      split at hx
      case h_7 =>
        exact ⟨rfl, fun i k hi => by
          cases i with
          | zero => simp at hi; subst hi; exact ⟨_, rfl, .inl rfl⟩
          | succ i => simp at hi⟩
      case h_8 =>
        rename_i e' a len cap h0
        injection h0 with h0; injection h0 with h0; subst h0
        split at hx
        case isFalse => simp at hx
        rename_i hc
        rw [Option.bind_eq_some_iff] at hx
        obtain ⟨elems, he, _⟩ := hx
        refine ⟨rfl, fun i k hi => ?_⟩
        cases i with
        | succ i => simp at hi
        | zero =>
          simp at hi; subst hi
          refine ⟨_, rfl, .inr ⟨a, len, cap, rfl, hc.2.1, hc.2.2, fun j hj => ?_⟩⟩
          obtain ⟨y, hy⟩ := mapM_mem he j (List.mem_range.2 hj)
          rw [Option.bind_eq_some_iff] at hy
          obtain ⟨row, h1, h2⟩ := hy
          exact ⟨row, h1, fuel, y, h2⟩
      all_goals simp_all
    · rename_i fs hu
      split at h
      case h_2 => simp at h
      rename_i l hl
      split at h
      case h_2 => simp at h
      rename_i hc
      have ec := Nat.eq_of_beq_eq_true hc
      injection h with h; subst h
      simp only [DataW.trod, hu] at hx
      have hx' : (if cs.length = P.cellsOf t then (fs.toList.mapM fun f => DataW.trod enc P w 0 (fun _ => true) true fuel f.type ((cs.drop f.offset).take (P.cellsOf f.type))).map fun xs => (DataW.agg (xs.map (·.1)), xs.flatMap (·.2)) else none) = some x := by
        split at hx <;> simp_all
      clear hx
      split at hx'
      case isFalse => simp at hx'
      rename_i hlen
      rw [Option.map_eq_some_iff] at hx'
      obtain ⟨xs, hxs, _⟩ := hx'
      refine ⟨by rw [hlen, ec], fun i k hi => ?_⟩
      have := flatF_get (cs := cs) (fun t l h => trod_flat n t l h) hl (by omega) (fun f hf => by obtain ⟨y, hy⟩ := mapM_mem hxs f hf; exact ⟨fuel, y, hy⟩) i k hi
      simpa using this
    · rename_i m e hu
      split at h
      case h_2 => simp at h
      rename_i l hl
      split at h
      case h_2 => simp at h
      rename_i hc
      simp only [Bool.and_eq_true] at hc
      have e1 := Nat.eq_of_beq_eq_true hc.1
      have e2 := Nat.eq_of_beq_eq_true hc.2
      injection h with h; subst h
      simp only [DataW.trod, hu] at hx
      have hx' : (if cs.length = P.cellsOf t then ((List.range m).mapM fun i => DataW.trod enc P w 0 (fun _ => true) true fuel e ((cs.drop (i * P.cellsOf e)).take (P.cellsOf e))).map fun xs => (DataW.agg (xs.map (·.1)), xs.flatMap (·.2)) else none) = some x := by
        split at hx <;> simp_all
      clear hx
      split at hx'
      case isFalse => simp at hx'
      rename_i hlen
      rw [Option.map_eq_some_iff] at hx'
      obtain ⟨xs, hxs, _⟩ := hx'
      refine ⟨by rw [hlen, e2]; simp, fun i k hi => ?_⟩
      obtain ⟨h1, h2, h3⟩ := flatten_get hi
      obtain ⟨y, hy⟩ := mapM_mem hxs (i / l.length) (List.mem_range.2 h2)
      obtain ⟨v, hv, hcr⟩ := (trod_flat n e l hl fuel _ _ hy).2 _ k h3
      rw [List.getElem?_take] at hv
      split at hv
      · rw [List.getElem?_drop, e1] at hv
        refine ⟨v, ?_, hcr⟩
        rw [← hv]; congr 1
        have := Nat.div_add_mod i l.length
        rw [Nat.mul_comm]; exact this.symm
      · simp at hv
    · simp at h
def RdV {α : Type} (w : World) (D : Dec α) (v : Value) : Prop := ∃ a, VR w noA noR (D.enc a) v
def RdL {α : Type} (w : World) (E : DecL α) (cs : List Value) : Prop := ∃ a, VRs w noA noR (E.enc a) cs.toArray
def tagK : FK → CK
  | .int k => .int k
  | .bool => .bool
  | .str => .str
  | .sl _ => .any
def flatK : FK → Bool
  | .sl _ => false
  | _ => true
section
variable {w : World} {α β : Type}
theorem rd_int {k : IntKind} {v : Value} (h : CellR enc P w (.int k) v) : RdV w (dI k) v := by
  obtain ⟨n, rfl, _⟩ := h; exact ⟨n, .int⟩
theorem rd_scal {k : FK} (hk : flatK k = true) {v : Value} (h : CellR enc P w k v) : ∃ x, ofScal v = some x ∧ conf (tagK k) x = x := by
  cases k with
  | int k => obtain ⟨n, rfl, _⟩ := h; exact ⟨_, rfl, rfl⟩
  | bool => obtain ⟨n, rfl⟩ := h; exact ⟨_, rfl, rfl⟩
  | str => obtain ⟨n, rfl, _⟩ := h; exact ⟨_, rfl, rfl⟩
  | sl e => simp [flatK] at hk
theorem ckAt_map : ∀ {ks : List FK} {i : Nat} {k : FK}, ks[i]? = some k → ckAt (ks.map tagK) i = tagK k
  | [], i, k, h => by simp at h
  | a :: ks, 0, k, h => by simp at h; subst h; rfl
  | a :: ks, i + 1, k, h => by simp only [List.map_cons, ckAt]; exact ckAt_map (by simpa using h)
theorem mapM_range {f : Nat → Option Value} {n : Nat} {row : List Value} (h : (List.range n).mapM f = some row) (i : Nat) (hi : i < n) : f i = row[i]? := by
  have key : ∀ (l : List Nat) (row : List Value), l.mapM f = some row → ∀ (i x : Nat), l[i]? = some x → f x = row[i]? := by
    intro l
    induction l with
    | nil => intro row _ i x hx; simp at hx
    | cons a l ih =>
      intro row h i x hx
      rw [List.mapM_cons] at h
      cases ha : f a with
      | none => simp [ha] at h
      | some b =>
        cases hl : l.mapM f with
        | none => simp [ha, hl] at h
        | some bs =>
          simp [ha, hl] at h
          subst h
          cases i with
          | zero => simp at hx; subst hx; simpa using ha
          | succ i => simpa using ih bs hl i x (by simpa using hx)
  exact key _ _ h i i (by simp [hi])
theorem cells_at {a : Addr} {n : Nat} {row : List Value} (h : w.cells? 0 a n = some row) : row.length = n ∧ ∀ i, i < n → w.cell? (a.add i) = row[i]? := by
  unfold World.cells? at h
  rw [if_pos (Nat.zero_le _)] at h
  refine ⟨?_, fun i hi => mapM_range h i hi⟩
  have : ∀ (l : List Nat) (row : List Value), (l.mapM fun i => w.cell? (a.add i)) = some row → row.length = l.length := by
    intro l
    induction l with
    | nil => intro row h; simp at h; subst h; rfl
    | cons x l ih =>
      intro row h
      rw [List.mapM_cons] at h
      cases hx : w.cell? (a.add x) with
      | none => simp [hx] at h
      | some b =>
        cases hl : l.mapM (fun i => w.cell? (a.add i)) with
        | none => simp [hx, hl] at h
        | some bs => simp [hx, hl] at h; subst h; simp [ih bs hl]
  simpa using this _ _ h
theorem cell_spot {a : Addr} {v : Value} (h : w.cell? a = some v) : a.spot = none ∧ a.block < w.heap.size := by
  unfold World.cell? at h
  split at h
  · rename_i c _ _ hb
    split at h
    · simp at h
    · rename_i hs; exact ⟨by simpa using hs, (Array.getElem?_eq_some_iff.1 hb).1⟩
  · simp at h
theorem rd_sl {e : TypeId} {n : Nat} {ks : List FK} (hf : flat P n e = some ks) (hwd : P.cellsOf e = ks.length) (hpos : 0 < ks.length) (hk : ks.all flatK = true) {v : Value} (h : CellR enc P w (.sl e) v) : RdV w (dX ks.length (ks.map tagK)) v := by
  rcases h with rfl | ⟨a, len, cap, rfl, h1, h2, h3⟩
  · exact ⟨⟨0, 0, 0, none, fun _ _ => .top⟩, (dX ks.length (ks.map tagK)).ok .nilsl _ rfl _ _ _ _ .nilsl⟩
  · rcases a with ⟨b, off, spot⟩
    rw [hwd] at h3
    have hspot0 : 0 < len → spot = none := fun h0 => by
      obtain ⟨row, hr, fuel, x, hx⟩ := h3 0 h0
      obtain ⟨hl, hat⟩ := cells_at hr
      have h0' := hat 0 hpos
      rw [List.getElem?_eq_getElem (by omega)] at h0'
      have := (cell_spot h0').1
      simpa [Addr.add] using this
    have hcell : ∀ i k, i < len → k < ks.length → ∃ v kk, ks[k]? = some kk ∧ w.cell? ⟨b, off + (i * ks.length + k), spot⟩ = some v ∧ CellR enc P w kk v ∧ spot = none ∧ b < w.heap.size := by
      intro i k hi hkk
      obtain ⟨row, hr, fuel, x, hx⟩ := h3 i hi
      obtain ⟨hl, hat⟩ := cells_at hr
      obtain ⟨v, hv, hc⟩ := (trod_flat n e ks hf fuel row x hx).2 k _ (List.getElem?_eq_getElem hkk)
      have := hat k hkk
      rw [hv] at this
      obtain ⟨hs, hb⟩ := cell_spot this
      have hspot : spot = none := hspot0 (by omega)
      subst hspot
      rw [addr_add, addr_add] at this hb
      exact ⟨v, _, List.getElem?_eq_getElem hkk, by rw [← Nat.add_assoc]; exact this, hc, rfl, hb⟩
    let u : Nat → Nat → Value := fun i k => (w.cell? ⟨b, off + (i * ks.length + k), none⟩).getD undef
    refine ⟨⟨len, 0, len, none, fun i k => (ofScal (u i k)).getD .top⟩, .xsl b off u ⟨h1, ?_⟩ (fun x hx => by cases hx) (by simp) (fun h0 => ?_) (fun h0 i k hi hkk => ?_) (fun h0 i k hi hkk => ?_)⟩
    · have : cap ≤ 2 ^ 63 - 1 := h2
      show len ≤ 9223372036854775807
      omega
    · obtain ⟨v, kk, _, _, _, hs, hb⟩ := hcell 0 0 h0 hpos
      subst hs
      exact ⟨by simp, hb, fun h => h⟩
    · obtain ⟨v, kk, _, hv, _, hs, _⟩ := hcell i k hi hkk
      subst hs
      simp only [u, hv, Option.getD_some]
    · obtain ⟨v, kk, hkk', hv, hc, hs, _⟩ := hcell i k hi hkk
      subst hs
      have hu : u i k = v := by simp only [u, hv, Option.getD_some]
      obtain ⟨x, hx, hcf⟩ := rd_scal (List.all_eq_true.1 hk kk (List.mem_of_getElem? hkk')) hc
      have e : (⟨ks.map tagK, fun i k => (ofScal (u i k)).getD .top⟩ : Get AV).cell i k = x := by
        simp only [Get.cell, hu, hx, Option.getD_some, ckAt_map hkk', hcf]
      rw [e, hu]
      exact ofScal_rel hx
theorem rdL_cons {D : Dec α} {E : DecL β} {v : Value} {cs : List Value} (h : RdV w D v) (k : RdL w E cs) : RdL w (.cons D E) (v :: cs) := by
  obtain ⟨a, ha⟩ := h; obtain ⟨b, hb⟩ := k
  refine ⟨(a, b), ?_⟩
  have := VRs.cons' ha hb
  show VRs w noA noR (D.enc a :: E.enc b) (v :: cs).toArray
  simpa using this
theorem rdL_last {D : Dec α} {v : Value} (h : RdV w D v) : RdL w (.last D 0) [v] := by
  obtain ⟨a, ha⟩ := h
  exact ⟨a, VRs.one ha⟩
theorem okWide_cell {r : Reach} {b : Nat} {t : TypeId} {v : Value} (hu : aggB P t = some false) (h : Value.okWide P w r b t v) : v.cells = #[v] := by
  unfold Value.okWide at h
  unfold aggB at hu
  split at h
  · simp_all
  · simp_all
  · cases v with
    | agg cs =>
      unfold Cell.okWide at h
      split at h <;> try simp_all
      unfold Cell.ok at h
      split at h <;> simp_all
    | _ => rfl
theorem param_cell {n : Nat} {t : TypeId} {k : FK} {r : Reach} {b : Nat} {v : Value} {d : DataW H} {p : List MemPlace} (hf : flat P n t = some [k]) (hu : aggB P t = some false) (hok : Value.okWide P w r b t v) (h : DataW.Trod enc P w 0 (fun _ => true) true t v d p) : CellR enc P w k v := by
  obtain ⟨fuel, hx⟩ := h
  rw [okWide_cell hu hok] at hx
  obtain ⟨v', hv, hc⟩ := (trod_flat n t [k] hf fuel _ _ hx).2 0 k rfl
  simp at hv; subst hv; exact hc
end
theorem law_contract {f : FuncId} {fn : Func} {s : ChangeSpec} {apart fresh handsOn again : Bool} {α : Type} (D : DecL α) (hl : laidOutB P = true) (hts : (fn.params.toList.all fun t => P.readableRec t && decide (t < P.types.size)) = true)
    (hvars : s.vars = []) (hfn : ∀ (ds : List (DataW H)), ds.length = fn.params.toList.length → s.fn H (ds ++ []) = { results := [.lit (.bool true)], args := ds })
    (hres : ∀ (W' : World) (b : Nat) (sp : Nat → Bool) (hd : Bool), DataW.TrodAll enc P W' b sp hd fn.resultTypes.toList ((Value.bool true).resultList fn.resultTypes.size) [.lit (.bool true)] [])
    (hok : ∀ (W' : World) (j : Nat) (t : TypeId) (r : Value), fn.resultTypes[j]? = some t → ((Value.bool true).resultList fn.resultTypes.size)[j]? = some r → Value.okWide P W' .any 0 t r)
    (hread : ∀ (W : World) (base : Nat) (args : Array Value) (ds : List (DataW H)) (p : List MemPlace), (∀ (j : Nat) t v, fn.params[j]? = some t → args[j]? = some v → Value.okWide P W .any base t v) →
      DataW.TrodAll enc P W 0 (fun _ => true) true fn.params.toList args.toList ds p → RdL W D args.toList)
    (hpc : ∀ a, PC P f (D.enc a) (.bool true))
    (W : World) (base : Nat) (args : Array Value) (ds gs : List (DataW H)) (before : List MemPlace) (hval : ∀ (j : Nat) t v, fn.params[j]? = some t → args[j]? = some v → Value.okWide P W .any base t v)
    (hW : DataW.Whole enc P fn.params.toList s.vars apart W args.toList ds gs before) :
    Calls P f args W fun e W' => ∃ v, e = .returned v ∧ s.post enc P fn apart fresh handsOn again W args v W' := by
  have hW' := hW
  obtain ⟨p, q, hA, hV, hbef, hfz, hnd⟩ := hW
  have hV' := hV
  rw [hvars] at hV'
  obtain ⟨rfl, rfl⟩ := trodVars_none hV'
  obtain ⟨a, ha⟩ := hread W base args ds p hval hA
  have h := callsIn_wide.1 (hpc a none 0 noA W args (fun b hb => hb.elim) (by simpa using ha))
  have hlen : ds.length = fn.params.toList.length := by
    have : ∀ (ts : List TypeId) (vs : List Value) (ds : List (DataW H)) (p : List MemPlace), DataW.TrodAll enc P W 0 (fun _ => true) true ts vs ds p → ds.length = ts.length := by
      intro ts
      induction ts with
      | nil => intro vs ds p h; obtain ⟨_, rfl, _⟩ := trodAll_nil h; rfl
      | cons t ts ih =>
        intro vs ds p h
        obtain ⟨_, _, _, _, _, _, _, rfl, _, _, h2⟩ := trodAll_cons h
        simp [ih _ _ _ h2]
    exact this _ _ _ _ hA
  refine h.mono fun e W' hx => ?_
  obtain ⟨v, he, hv, hb0⟩ := hx
  have hb := hb0.toBelow
  obtain rfl : v = .bool true := by cases hv; rfl
  have hpl : before = p := by rw [hbef]; simp
  subst hpl
  refine ⟨_, he, post_of_below (pa := before) (pv := []) hW' (fun b sp hd => ?_) (fun sp hsp => ?_) (fun sp _ => ?_) (by simp) hb (hok W')⟩
  · rw [hfn ds hlen]; exact hres W' b sp hd
  · rw [hfn ds hlen]
    refine trodAll_stays hl hb (fun t ht => ?_) hA (fun x hx => hA.lt x hx) hsp
    have := List.all_eq_true.1 hts t ht
    simpa using this
  · rw [hfn ds hlen, hvars]; rfl
end
end Go.Proofs.YtelpdkojdfnmiaaGreat.Ev
/-! LR0 -/
namespace Go.Proofs.YtelpdkojdfnmiaaGreat
open Ev K
set_option maxRecDepth 100000
section
variable {H : Type} {enc : TypeId × Value → H} {w : World}
theorem fl_item : flat P 8 73 = some (List.replicate 7 (.int .i64)) := by kernel_rfl
theorem fl_int : flat P 8 3 = some [.int .i64] := by kernel_rfl
theorem fl_items : flat P 8 29 = some [.sl 73] := by kernel_rfl
theorem ag_int : aggB P 3 = some false := by kernel_rfl
theorem ag_items : aggB P 29 = some false := by kernel_rfl
theorem rx_items {v : Value} (h : CellR enc P w (.sl 73) v) : RdV w (dRows rItem) v := by
  obtain ⟨a, ha⟩ := rd_sl fl_item (by kernel_rfl) (by decide) (by decide) h
  exact ⟨decF rItem a.len fun i => a.f (a.row + i), (dRows rItem).ok _ _ rfl _ _ _ _ ha⟩
variable {r : Reach} {b : Nat} {v : Value} {d : DataW H} {p : List MemPlace}
theorem rp_items (hok : Value.okWide P w r b 29 v) (h : DataW.Trod enc P w 0 (fun _ => true) true 29 v d p) : RdV w (dRows rItem) v := rx_items (param_cell fl_items ag_items hok h)
theorem rp_int (hok : Value.okWide P w r b 3 v) (h : DataW.Trod enc P w 0 (fun _ => true) true 3 v d p) : RdV w (dI .i64) v := rd_int (param_cell fl_int ag_int hok h)
end
end Go.Proofs.YtelpdkojdfnmiaaGreat
/-! LGr -/
namespace Go.Proofs
open Go.Shelf
def Tryz.growI_ren : Go.Shelf.Ren := ⟨fun | 4 => 118 | n => n, fun | 22 => 29 | 25 => 73 | n => n, fun n => n⟩
theorem Tryz.growI : Lays8.n4 Tryz.prog Tryz.growI_ren := {
  mixed := by kernel_rfl
  f4 := ⟨Tryz.f118.name, by decide, Tryz.func118.trans (congrArg some (by kernel_rfl))⟩
  t0 := Tryz.underlying0
  a0 := Tryz.isAgg0
  z0 := Tryz.sizeOf0
  v0 := Tryz.zeroValue0
  t3 := Tryz.underlying3
  a3 := Tryz.isAgg3
  z3 := Tryz.sizeOf3
  v3 := Tryz.zeroValue3
  t4 := Tryz.underlying4
  a4 := Tryz.isAgg4
  z4 := Tryz.sizeOf4
  v4 := Tryz.zeroValue4
  t9 := Tryz.underlying9
  a9 := Tryz.isAgg9
  z9 := Tryz.sizeOf9
  v9 := Tryz.zeroValue9
  t20 := Tryz.underlying20
  a20 := Tryz.isAgg20
  z20 := Tryz.sizeOf20
  v20 := Tryz.zeroValue20
  t22 := Tryz.underlying29
  a22 := Tryz.isAgg29
  z22 := Tryz.sizeOf29
  v22 := Tryz.zeroValue29 }
end Go.Proofs
namespace Go.Proofs.YtelpdkojdfnmiaaGreat
open Ev K Go.Own Go.Shelf
set_option maxRecDepth 100000
namespace Ev
variable {P : Program}
theorem grow_fc {ρ : Go.Shelf.Ren} (L : Lays8.n4 P ρ) {i0 : TypeInfo} {z : Value} (hi0 : P.info? (ρ.t 25) = some i0) (hz0 : i0.zero = some z) (hs0 : 0 < i0.size) (hzs : z.cells.size = i0.size) (hby : i0.bytes ≤ 1000) {n : Nat} (hn : n ≤ 1000000) (g : Get AV) :
    FC P (ρ.f 4) (ρ.t 25) [.nilsl, .int .i64 n] i0.size 0 g := by
  intro ro m A w us hA hus
  obtain ⟨hsz, hval⟩ := hus
  obtain ⟨u1, u2, rfl⟩ : ∃ u1 u2, us = #[u1, u2] := by
    have h : us.toList.length = 2 := by simpa using hsz.symm
    match hl : us.toList, h with
    | [u1, u2], _ => exact ⟨u1, u2, by apply Array.ext'; exact hl⟩
  have h1 := hval 0 _ u1 rfl rfl
  have h2 := hval 1 _ u2 rfl rfl
  cases h1
  cases h2
  apply callsIn_round
  by_cases h0 : n = 0
  · subst h0
    refine (callsIn_wide.2 (Any8.slices_Grow_room L none 0 0 0 w (Nat.le_refl _) (by omega) (by omega) (Nat.le_refl _))).mono ?_
    rintro en w' ⟨rfl, rfl⟩
    exact ⟨0, 0, [], rfl, (fun b hb => by omega), fun _ => ⟨rfl, rfl⟩, ⟨Nat.le_refl _, Nat.zero_le _⟩, hs0, World.ownsRow_nil w' 0 _ _, fun i k hi => absurd hi (Nat.not_lt_zero _), Bel.refl _ _⟩
  · have hb : (0 + n) * i0.bytes ≤ 140737488355328 := Nat.le_trans (Nat.mul_le_mul (show 0 + n ≤ 1000000 by omega) hby) (by decide)
    refine (callsIn_wide.2 (Any8.slices_Grow_grow L i0 z hi0 hz0 hs0 none 0 0 n [] w (Nat.le_refl _) (by omega) hb (by omega) (by simp) (fun _ => rfl) (fun a h => by cases h))).mono ?_
    rintro en w' ⟨rfl, rfl⟩
    have hge := grownCap_ge w (0 + n) 0 (ρ.t 25)
    have hcm : grownCap w (0 + n) 0 (ρ.t 25) ≤ maxLen := grownCap_le_maxLen w (0 + n) 0 (ρ.t 25) (by unfold maxLen; omega)
    simp only [Nat.zero_add] at hge hcm ⊢
    refine ⟨w.heap.size + 1, grownCap w n 0 (ρ.t 25), [], rfl, (fun b hb => by omega), (fun h => by omega), ⟨Nat.zero_le _, Nat.zero_le _⟩, hs0, ⟨by simp, .inr ⟨w.heap.size, _, _, rfl, Nat.zero_le _, heap_alloc_new w.drew _, Nat.zero_le _, hcm, ?_, ?_⟩⟩, fun i k hi => absurd hi (Nat.not_lt_zero _), ?_⟩
    · simp only [Array.size_append, List.size_toArray, size_zeroCells, hzs, List.length_nil, Nat.zero_add, ← Nat.add_mul]
      congr 1
      omega
    · simp
    · exact (Bel.refl w.heap.size w).drew.alloc (Nat.le_refl _) _
def dNilS : Dec Unit where
  enc _ := .nilsl
  dec x := match x with
    | .nilsl => some ()
    | _ => none
  ok x a h w A r v hv := by
    split at h
    · exact hv
    · simp at h
end Ev
def D_grow : DecL Int := .unit dNilS (.last dInt 0)
namespace K
def M_grow (n : Int) : T (List Itm) := .chk (decide (0 ≤ n ∧ n ≤ 1000000)) (.ret [])
theorem grow_f (n : Int) (r : List Itm) (h : (M_grow n).run = some r) : FC P 118 73 (D_grow.enc n) rItem.wd r.length ⟨rItem.tags, encF rItem r⟩ := by
  obtain ⟨g, e⟩ := chk_ret h
  subst e
  have g := of_decide_eq_true g
  obtain ⟨k, rfl⟩ : ∃ k : Nat, n = k := ⟨n.toNat, by omega⟩
  have h1 : szOf P 73 = some 7 := by kernel_rfl
  have h2 : bytesOf P 73 = some 56 := by kernel_rfl
  have h3 : zeroAV P 73 = some (List.replicate 7 (.int .i64 0)) := by kernel_rfl
  obtain ⟨i, hi, hsize⟩ : ∃ i, P.info? 73 = some i ∧ i.size = 7 := by
    cases hi : P.info? 73 with
    | none => simp [szOf, hi] at h1
    | some i => simp [szOf, hi] at h1; exact ⟨i, rfl, h1⟩
  have hby : i.bytes = 56 := by simp [bytesOf, hi] at h2; exact h2
  obtain ⟨z, hz, hzs⟩ : ∃ z, i.zero = some z ∧ z.cells.size = 7 := by
    cases hz : i.zero with
    | none => simp [zeroAV, hi, hz] at h3
    | some z =>
      simp only [zeroAV, hi, hz] at h3
      have := (ofScals_rel (w := default) (A := noA) (r := noR) h3).1
      exact ⟨z, rfl, by simp at this; omega⟩
  have key := grow_fc (P := P) Tryz.growI hi hz (by omega) (by omega) (by omega) (n := k) (by omega) ⟨rItem.tags, encF rItem []⟩
  rw [hsize] at key
  exact key
end K
end Go.Proofs.YtelpdkojdfnmiaaGreat
/-! LP0 -/
namespace Go.Proofs.YtelpdkojdfnmiaaGreat
open Ev K
open Go.Sort Go.Proofs
set_option maxRecDepth 100000
namespace K
def ltK (x y : Itm) : Prop := x.known < y.known ∨ x.known = y.known ∧ x.id < y.id
instance (x y : Itm) : Decidable (ltK x y) := by unfold ltK; infer_instance
theorem sortI_spec (l : List Itm) : (sortI l).Perm l ∧ (sortI l).Pairwise fun x y => ¬ ltK y x := by
  obtain ⟨h1, h2⟩ := sortF_spec swoI l
  exact ⟨h1, h2.imp fun h => by rw [ltI, decide_eq_false_iff_not] at h; exact h⟩
theorem uniq_of {α : Type} {R : α → α → Prop} (has : ∀ a b, R a b → R b a → False) : ∀ {l l' : List α}, l.Pairwise R → l'.Pairwise R → (∀ x, x ∈ l ↔ x ∈ l') → l = l'
  | [], [], _, _, _ => rfl
  | [], y :: t, _, _, h => by have := (h y).2 (List.mem_cons_self ..); cases this
  | x :: t, [], _, _, h => by have := (h x).1 (List.mem_cons_self ..); cases this
  | x :: t, y :: t', h1, h2, h => by
    have a1 := List.pairwise_cons.1 h1
    have a2 := List.pairwise_cons.1 h2
    have e : x = y := Classical.byContradiction fun hne => by
      have hx := (h x).1 (List.mem_cons_self ..)
      have hy := (h y).2 (List.mem_cons_self ..)
      rcases List.mem_cons.1 hx with e | hx
      · exact hne e
      rcases List.mem_cons.1 hy with e | hy
      · exact hne e.symm
      exact has _ _ (a1.1 y hy) (a2.1 x hx)
    subst e
    congr 1
    refine uniq_of has a1.2 a2.2 fun z => ⟨fun hz => ?_, fun hz => ?_⟩
    · rcases List.mem_cons.1 ((h z).1 (List.mem_cons_of_mem _ hz)) with e | h3
      · subst e; exact (has _ _ (a1.1 z hz) (a1.1 z hz)).elim
      · exact h3
    · rcases List.mem_cons.1 ((h z).2 (List.mem_cons_of_mem _ hz)) with e | h3
      · subst e; exact (has _ _ (a2.1 z hz) (a2.1 z hz)).elim
      · exact h3
theorem ltK_as (a b : Itm) (h1 : ltK a b) (h2 : ltK b a) : False := by unfold ltK at *; omega
def One (l : List Itm) : Prop := ∀ x ∈ l, ∀ y ∈ l, x.id = y.id → x = y
theorem One.sub {l l' : List Itm} (h : One l) (hs : ∀ x ∈ l', x ∈ l) : One l' := fun x hx y hy => h x (hs x hx) y (hs y hy)
theorem cp_sorted {l : List Itm} (ho : One l) (hs : l.Pairwise fun x y => ¬ ltK y x) : (cp l).Pairwise ltK ∧ ∀ x, x ∈ cp l ↔ x ∈ l := by
  have key : ∀ (l acc : List Itm), One (acc ++ l) → (acc ++ l).Pairwise (fun x y => ¬ ltK y x) → acc.Pairwise ltK → (l.foldl cpi acc).Pairwise ltK ∧ ∀ x, x ∈ l.foldl cpi acc ↔ x ∈ acc ∨ x ∈ l := by
    intro l
    induction l with
    | nil => intro acc _ _ h; exact ⟨h, fun x => by simp⟩
    | cons x l ih =>
      intro acc ho hs ha
      rw [List.foldl_cons]
      by_cases hx : acc.getLast? = some x
      · have e : cpi acc x = acc := if_pos hx
        have hm : x ∈ acc := List.mem_of_getLast? hx
        rw [e]
        obtain ⟨h1, h2⟩ := ih acc (ho.sub fun y hy => by rcases List.mem_append.1 hy with h | h; exact List.mem_append_left _ h; exact List.mem_append_right _ (List.mem_cons_of_mem _ h))
          (hs.sublist (List.Sublist.append_left (List.sublist_cons_self _ _) _)) ha
        refine ⟨h1, fun y => (h2 y).trans ⟨fun h => ?_, fun h => ?_⟩⟩
        · rcases h with h | h; exact .inl h; exact .inr (List.mem_cons_of_mem _ h)
        · rcases h with h | h
          · exact .inl h
          · rcases List.mem_cons.1 h with e | h
            · subst e; exact .inl hm
            · exact .inr h
      · have e : cpi acc x = acc ++ [x] := if_neg hx
        rw [e]
        have hs2 : ((acc ++ [x]) ++ l).Pairwise (fun x y => ¬ ltK y x) := by rw [List.append_assoc]; exact hs
        have hp : (acc ++ [x]).Pairwise ltK := by
          refine List.pairwise_append.2 ⟨ha, List.pairwise_singleton .., fun y hy z hz => ?_⟩
          simp only [List.mem_singleton] at hz; subst hz
          have h3 := (List.pairwise_append.1 hs).2.2 y hy z (List.mem_cons_self ..)
          have hne : y.id = z.id → False := by
            intro hid
            have hyz : y = z := ho y (List.mem_append_left _ hy) z (List.mem_append_right _ (List.mem_cons_self ..)) hid
            subst hyz
            obtain ⟨w, hw⟩ : ∃ w, acc.getLast? = some w := by
              cases h : acc.getLast? with
              | none => rw [List.getLast?_eq_none_iff] at h; subst h; cases hy
              | some w => exact ⟨w, rfl⟩
            have hwm : w ∈ acc := List.mem_of_getLast? hw
            have hwx := (List.pairwise_append.1 hs).2.2 w hwm y (List.mem_cons_self ..)
            obtain ⟨L, hL⟩ := List.getLast?_eq_some_iff.1 hw
            rw [hL] at hy ha
            rcases List.mem_append.1 hy with h | h
            · exact hwx ((List.pairwise_append.1 ha).2.2 y h w (by simp))
            · simp only [List.mem_singleton] at h; subst h; exact hx hw
          have hne' : y.id ≠ z.id := hne
          show ltK y z
          unfold ltK at h3 ⊢
          omega
        obtain ⟨h1, h2⟩ := ih (acc ++ [x]) (ho.sub fun y hy => by rw [List.append_assoc] at hy; exact hy) hs2 hp
        exact ⟨h1, fun y => (h2 y).trans (by simp [or_assoc])⟩
  obtain ⟨h1, h2⟩ := key l [] (by simpa using ho) (by simpa using hs) List.Pairwise.nil
  exact ⟨h1, fun x => (h2 x).trans (by simp)⟩
theorem srt_sorted {l : List Itm} (ho : One l) : (srt l).Pairwise ltK ∧ ∀ x, x ∈ srt l ↔ x ∈ l := by
  obtain ⟨h1, h2⟩ := sortI_spec l
  obtain ⟨h3, h4⟩ := cp_sorted (ho.sub fun x hx => h1.mem_iff.1 hx) h2
  exact ⟨h3, fun x => (h4 x).trans h1.mem_iff⟩
theorem srt_unique {l l' : List Itm} (ho : One l) (h : l'.Pairwise ltK) (hm : ∀ x, x ∈ l' ↔ x ∈ l) : srt l = l' := by
  obtain ⟨h3, h4⟩ := srt_sorted ho
  exact uniq_of ltK_as h3 h fun x => (h4 x).trans (hm x).symm
end K
end Go.Proofs.YtelpdkojdfnmiaaGreat
/-! LIp -/
namespace Go.Proofs.YtelpdkojdfnmiaaGreat
open Ev K
set_option maxRecDepth 100000
namespace K
theorem one_mk {l : List Itm} (h : checkV l = 0) : One l := by
  obtain ⟨_, _, h3⟩ := checkV_ok h
  intro x hx y hy he
  obtain ⟨i, hi, rfl⟩ := List.getElem_of_mem hx
  obtain ⟨j, hj, rfl⟩ := List.getElem_of_mem hy
  rcases Nat.lt_trichotomy i j with hij | hij | hij
  · exact h3 i j _ _ hij (List.getElem?_eq_getElem hi) (List.getElem?_eq_getElem hj) he
  · subst hij; rfl
  · exact (h3 j i _ _ hij (List.getElem?_eq_getElem hj) (List.getElem?_eq_getElem hi) he.symm).symm
theorem checkV_mk {l : List Itm} (h : l.length ≤ 60) (hf : ∀ x ∈ l, x.Fm) (ho : One l) : checkV l = 0 := by
  unfold checkV
  rw [if_neg (by omega)]
  have e : (List.range l.length).findSome? (errAt l) = none := by
    rw [List.findSome?_eq_none_iff]
    intro i hi
    have hi := List.mem_range.1 hi
    unfold errAt
    rw [List.getElem?_eq_getElem hi]
    simp only
    rw [if_pos (hf _ (List.getElem_mem hi)), if_neg]
    rw [Bool.not_eq_true, List.any_eq_false]
    intro y hy
    simp only [decide_eq_true_eq]
    rintro ⟨h1, h2⟩
    exact h2 (ho y (List.mem_of_mem_take hy) _ (List.getElem_mem hi) h1)
  rw [e]; rfl
theorem check_same {l l' : List Itm} (h : checkV l = 0) (hl : l'.length ≤ 60) (hm : ∀ x, x ∈ l' ↔ x ∈ l) : checkV l' = 0 ∧ srt l' = srt l := by
  obtain ⟨h1, h2, _⟩ := checkV_ok h
  have ho := one_mk h
  have ho' : One l' := ho.sub fun x hx => (hm x).1 hx
  refine ⟨checkV_mk hl (fun x hx => h2 x ((hm x).1 hx)) ho', ?_⟩
  obtain ⟨s1, s2⟩ := srt_sorted ho'
  exact (srt_unique ho s1 fun x => (s2 x).trans (hm x)).symm
theorem check_comm (a b : List Itm) (h : checkV (a ++ b) = 0) : checkV (b ++ a) = 0 ∧ srt (b ++ a) = srt (a ++ b) := by
  refine check_same h ?_ fun x => by simp only [List.mem_append]; exact or_comm
  have := (checkV_ok h).1
  rw [List.length_append] at this ⊢
  omega
def mergeV (a b : List Itm) : List Itm × Int := if checkV a ≠ 0 then ([], checkV a) else if checkV b ≠ 0 then ([], checkV b) else if checkV (a ++ b) ≠ 0 then ([], checkV (a ++ b)) else (srt (a ++ b), 0)
theorem merge_ok {a b : List Itm} : (mergeV a b).2 = 0 ↔ checkV a = 0 ∧ checkV b = 0 ∧ checkV (a ++ b) = 0 := by
  unfold mergeV
  by_cases h1 : checkV a = 0
  · rw [if_neg (fun h => h h1)]
    by_cases h2 : checkV b = 0
    · rw [if_neg (fun h => h h2)]
      by_cases h3 : checkV (a ++ b) = 0
      · rw [if_neg (fun h => h h3)]; exact ⟨fun _ => ⟨h1, h2, h3⟩, fun _ => rfl⟩
      · rw [if_pos h3]; exact ⟨fun h => absurd h h3, fun h => h.2.2⟩
    · rw [if_pos h2]; exact ⟨fun h => absurd h h2, fun h => h.2.1⟩
  · rw [if_pos h1]; exact ⟨fun h => absurd h h1, fun h => h.1⟩
theorem merge_val {a b : List Itm} (h : (mergeV a b).2 = 0) : mergeV a b = (srt (a ++ b), 0) := by
  obtain ⟨h1, h2, h3⟩ := merge_ok.1 h
  unfold mergeV
  rw [if_neg (fun h => h h1), if_neg (fun h => h h2), if_neg (fun h => h h3)]
theorem merge_comm (a b : List Itm) : ((mergeV a b).2 = 0 ↔ (mergeV b a).2 = 0) ∧ ((mergeV a b).2 = 0 → (mergeV a b).1 = (mergeV b a).1) := by
  have key : ∀ a b : List Itm, (mergeV a b).2 = 0 → (mergeV b a).2 = 0 ∧ (mergeV a b).1 = (mergeV b a).1 := fun a b h => by
    obtain ⟨h1, h2, h3⟩ := merge_ok.1 h
    obtain ⟨c1, c2⟩ := check_comm a b h3
    have h' : (mergeV b a).2 = 0 := merge_ok.2 ⟨h2, h1, c1⟩
    refine ⟨h', ?_⟩
    rw [merge_val h, merge_val h', c2]
  exact ⟨⟨fun h => (key a b h).1, fun h => (key b a h).1⟩, fun h => (key a b h).2⟩
theorem merge_len (a b : List Itm) : (mergeV a b).1.length ≤ 60 := by
  by_cases h : (mergeV a b).2 = 0
  · rw [merge_val h]
    have := (checkV_ok (merge_ok.1 h).2.2).1
    have := srt_len (a ++ b)
    show (srt (a ++ b)).length ≤ 60
    omega
  · unfold mergeV at h ⊢
    split
    · exact Nat.zero_le _
    · split
      · exact Nat.zero_le _
      · split
        · exact Nat.zero_le _
        · rename_i h1 h2 h3
          rw [if_neg h1, if_neg h2, if_neg h3] at h
          exact absurd rfl h
end K
end Go.Proofs.YtelpdkojdfnmiaaGreat
/-! LIb -/
namespace Go.Proofs.YtelpdkojdfnmiaaGreat
open Ev K
set_option maxRecDepth 100000
namespace Ev
def DecS.frz1 {σ : Type} (t : Nat) (D : DecS σ) : DecS σ where
  enc := D.enc
  dec st := forceS st fun st => match st.env[t]? with
    | some (.osl j _ _) => match freeze j st with
      | some s1 => forceS (prune (List.range s1.env.length) s1) D.dec
      | none => none
    | _ => D.dec st
  ok st s h := by
    rw [forceS_eq] at h
    split at h
    · split at h
      · rename_i hs
        rw [forceS_eq] at h
        exact (freeze_tidy hs).trans ((prune_tidy _ _).trans (D.ok _ _ h))
      · cases h
    · exact D.ok _ _ h
  len st s h := by
    rw [forceS_eq] at h
    split at h
    · split at h
      · rename_i hs
        rw [forceS_eq] at h
        rw [D.len _ _ h, prune_len, (freeze_len hs).1]
      · cases h
    · exact D.len _ _ h
end Ev
noncomputable def BLIb1 : Tab := BLQ02.addTurn 118 (freshE 73 D_grow rItem K.M_grow)
theorem tLIb1 : TabOk P BLIb1 := TabOk.addFC tLQ02 (D := D_grow) (R := rItem) (M := K.M_grow) (K.grow_f)
noncomputable def BLIb2 : Tab := BLIb1.addInl 87
theorem tLIb2 : TabOk P BLIb2 := TabOk.addInl tLIb1
def D_ll := DecL.cons (dRows rItem) (.last (dRows rItem) 0)
def S_mg := DecS.frz1 6 (DecS.mk0 (.cons (dRows rItem) (.cons (dRows rItem) (.skips 4 (.last (dRows rItem) 24)))) .nil)
def X_mg := DecX.one .ret [4, 5] (DecS.mk0 (.skips 4 (.cons (dRows rItem) (.last (dInt) 25))) .nil)
theorem t_mg : ∀ s, (cutT1 P BLIb2 30 53 16 S_mg X_mg) s = T.run (
 let q1 := decF rItem (List.length s.1.2.2) fun i => encF rItem s.1.2.2 ((0 : Nat) + i);
 let q2 := decF rItem (List.length s.1.2.1) fun i => encF rItem s.1.2.1 ((0 : Nat) + i);
 let q3 := decF rItem (List.length s.1.1) fun i => encF rItem s.1.1 ((0 : Nat) + i);
  .br (checkV q3 != (0 : Int)) (
    .ret ((([], checkV q3), PUnit.unit))) (
    .br (checkV q2 != (0 : Int)) (
      .ret ((([], checkV q2), PUnit.unit))) (
      .br (checkV q1 != (0 : Int)) (
        .ret ((([], checkV q1), PUnit.unit))) (
        .chk (decide (List.length q1 ≤ (1000000 : Nat))) <|
        .ret (((decF rItem (List.length (srt q1)) fun i => encF rItem (srt q1) ((0 : Nat) + i), (0 : Int)), PUnit.unit)))))) := fun s => by kernel_rfl
namespace K
def mergeC (a b c : List Itm) : T (List Itm × Int) := .br (checkV a != 0) (.ret ([], checkV a)) (.br (checkV b != 0) (.ret ([], checkV b)) (.br (checkV c != 0) (.ret ([], checkV c)) (.chk (decide (c.length ≤ 1000000)) (.ret (srt c, 0)))))
theorem mg_eq (s : (List Itm × List Itm × List Itm) × Unit) : cutT1 P BLIb2 30 53 16 S_mg X_mg s = ((mergeC s.1.1 s.1.2.1 s.1.2.2).bind fun v => .ret (v, ())).run := by
  obtain ⟨⟨a, b, c⟩, u⟩ := s
  rw [t_mg]
  simp only [Nat.zero_add, decF_encF]
  rfl
end K
noncomputable def BLIb3 : Tab := (BLIb2.addNode 53 16 (nodeE [0, 1, 6] S_mg X_mg (fun s => (K.mergeC s.1.1 s.1.2.1 s.1.2.2).bind fun v => .ret (v, ())))).addCut 53 16
theorem tLIb3 : TabOk P BLIb3 := TabOk.addCut (d := 30) okP tLIb2 (by kernel_rfl) (fun s r h => (K.mg_eq s).trans h)
theorem fn_merge : ∀ a, (callT1 P BLIb3 30 53 D_ll R_ie) a = T.run (
 let q6 := (0 : Nat);
 let q1 := decF rItem (nat_lit 0 + List.length a.1 + List.length a.2) fun i => appG (nat_lit 0 + List.length a.1) (appG (nat_lit 0) (encF rItem []) fun i k => encF rItem a.1 (q6 + i) k) (fun i k => encF rItem a.2 (q6 + i) k) (q6 + i);
 let q5 := (0 : Int);
 let q7 := q5 + (↑(clampL (List.length a.1)) : Int);
 let q2 := IntKind.wrap IntKind.i64 q7 + (↑(clampL (List.length a.2)) : Int);
 let q3 := decF rItem (List.length a.1) fun i => encF rItem a.1 (q6 + i);
 let q4 := decF rItem (List.length a.2) fun i => encF rItem a.2 (q6 + i);
  .br (decide (IntKind.wrap IntKind.i64 q7 < q5)) (
    .fail) (
    .br (decide (IntKind.wrap IntKind.i64 q2 < q5)) (
      .fail) (
      .chk (decide (q5 ≤ IntKind.wrap IntKind.i64 q2 ∧ IntKind.wrap IntKind.i64 q2 ≤ (1000000 : Int))) <|
      .chk (decide ((nat_lit 0 + List.length a.1) * (56 : Nat) ≤ (140737488355328 : Nat) ∧ nat_lit 0 + List.length a.1 ≤ nat_lit 9223372036854775807)) <|
      .chk (decide ((nat_lit 0 + List.length a.1 + List.length a.2) * (56 : Nat) ≤ (140737488355328 : Nat) ∧ nat_lit 0 + List.length a.1 + List.length a.2 ≤ nat_lit 9223372036854775807)) <|
      .br (checkV q3 != q5) (
        .ret ((decF rItem (nat_lit 0) fun i => encF rItem [] (q6 + i), checkV q3))) (
        .br (checkV q4 != q5) (
          .ret ((decF rItem (nat_lit 0) fun i => encF rItem [] (q6 + i), checkV q4))) (
          .br (checkV q1 != q5) (
            .ret ((decF rItem (nat_lit 0) fun i => encF rItem [] (q6 + i), checkV q1))) (
            .chk (decide (List.length q1 ≤ (1000000 : Nat))) <|
            .ret ((decF rItem (List.length (srt q1)) fun i => encF rItem (srt q1) (q6 + i), q5)))))))) := fun a => by kernel_rfl
end Go.Proofs.YtelpdkojdfnmiaaGreat
/-! LW0 -/
namespace Go.Proofs.YtelpdkojdfnmiaaGreat
open Ev K
set_option maxRecDepth 100000
namespace Ev
def dW (k : IntKind) : Dec Int where
  enc n := .int k (k.wrap n)
  dec _ := none
  ok x a h := by cases h
end Ev
namespace K
theorem u8_range (n : Int) : 0 ≤ IntKind.u8.wrap n ∧ IntKind.u8.wrap n ≤ 255 := by
  unfold IntKind.wrap
  simp only [IntKind.bits, IntKind.signed]
  have := Int.emod_nonneg n (show (256 : Int) ≠ 0 by decide)
  have := Int.emod_lt_of_pos n (show (0 : Int) < 256 by decide)
  simp
  omega
end K
section
variable {H : Type} {enc : TypeId × Value → H} {w : World}
theorem fl_u8 : flat P 8 5 = some [.int .u8] := by kernel_rfl
theorem ag_u8 : aggB P 5 = some false := by kernel_rfl
theorem rd_wrap {v : Value} (h : CellR enc P w (.int .u8) v) : RdV w (dW .u8) v := by
  obtain ⟨n, rfl, hn⟩ := h
  refine ⟨n, ?_⟩
  have e : IntKind.u8.wrap n = n := by
    simp [Lit.wf, IntKind.bits, IntKind.signed, IntKind.min, IntKind.max] at hn
    unfold IntKind.wrap
    simp [IntKind.bits, IntKind.signed]
    omega
  show VR w noA noR (.int .u8 (IntKind.u8.wrap n)) _
  rw [e]; exact .int
variable {r : Reach} {b : Nat} {v : Value} {d : DataW H} {p : List MemPlace}
theorem rp_u8 (hok : Value.okWide P w r b 5 v) (h : DataW.Trod enc P w 0 (fun _ => true) true 5 v d p) : RdV w (dW .u8) v := rd_wrap (param_cell fl_u8 ag_u8 hok h)
end
end Go.Proofs.YtelpdkojdfnmiaaGreat
/-! LIc -/
namespace Go.Proofs.YtelpdkojdfnmiaaGreat
open Ev K
set_option maxRecDepth 100000
namespace K
theorem app0 (f g : Nat → Nat → AV) : appG 0 f g = g := by
  funext i
  unfold appG
  rw [show Nat.ble 0 i = true by rw [Nat.ble_eq]; exact Nat.zero_le _, Nat.sub_zero]
theorem app_ab (a b : List Itm) : decF rItem (a.length + b.length) (fun i => appG a.length (appG 0 (encF rItem []) fun i k => encF rItem a i k) (fun i k => encF rItem b i k) i) = a ++ b := by
  rw [app0]
  refine (decF_app rItem a b.length _).trans ?_
  congr 1
  exact decF_encF rItem b
def M_merge (a : List Itm × List Itm) : T (List Itm × Int) := .chk (decide (a.1.length ≤ 1000 ∧ a.2.length ≤ 1000)) (.ret (mergeV a.1 a.2))
theorem merge_pc (a : List Itm × List Itm) (r : List Itm × Int) (h : (M_merge a).run = some r) : PC P 53 (D_ll.enc a) (R_ie.enc r) := by
  obtain ⟨a, b⟩ := a
  obtain ⟨g, e⟩ := chk_ret h
  subst e
  obtain ⟨g1, g2⟩ := of_decide_eq_true g
  simp only at g1 g2
  refine call_of okP tLIb3 ((fn_merge (a, b)).trans ?_)
  have w1 : IntKind.i64.wrap (0 + (a.length : Int)) = (a.length : Int) := by rw [w64_in (by omega) (by omega)]; omega
  have w2 : IntKind.i64.wrap ((a.length : Int) + (b.length : Int)) = ((a.length + b.length : Nat) : Int) := by rw [w64_in (by omega) (by omega)]; rfl
  simp only [clampL_eq (show a.length ≤ maxL by unfold maxL; omega), clampL_eq (show b.length ≤ maxL by unfold maxL; omega), w1, w2, Nat.zero_add, decF_encF, app_ab]
  refine br_f (decide_eq_false (by omega)) (br_f (decide_eq_false (by omega)) (chk_step (decide_eq_true (by omega)) (chk_step (decide_eq_true (by omega)) (chk_step (decide_eq_true (by omega)) ?_))))
  unfold mergeV
  by_cases h1 : checkV a = 0
  · rw [if_neg (fun h => h h1)]
    refine br_f (ne_f h1) ?_
    by_cases h2 : checkV b = 0
    · rw [if_neg (fun h => h h2)]
      refine br_f (ne_f h2) ?_
      by_cases h3 : checkV (a ++ b) = 0
      · rw [if_neg (fun h => h h3)]
        exact br_f (ne_f h3) (chk_step (decide_eq_true (by rw [List.length_append]; omega)) rfl)
      · rw [if_pos h3]; exact br_t (ne_t h3) rfl
    · rw [if_pos h2]; exact br_t (ne_t h2) rfl
  · rw [if_pos h1]; exact br_t (ne_t h1) rfl
end K
noncomputable def BLIc1 : Tab := BLQ02.addCall 53 (callE D_ll R_ie K.M_merge)
theorem tLIc1 : TabOk P BLIc1 := TabOk.addPC tLQ02 (K.merge_pc)
def D_lao := DecL.cons (dRows rItem) (.cons (dRows rItem) (.cons (dW .u8) (.cons (dW .u8) (.last dInt 0))))
def S_ao := DecS.frz1 12 (DecS.mk0 (.cons (dRows rItem) (.cons (dRows rItem) (.skips 2 (.cons (dInt) (.skips 7 (.last (dRows rItem) 157)))))) .nil)
def X_ao := DecX.one .ret [10] (DecS.mk0 (.skips 10 (.last (dB) 159)) .nil)
set_option maxHeartbeats 0
theorem t_ao : ∀ s, (cutT1 P BLIc1 30 15 48 S_ao X_ao) s = T.run (
 let q14 := (0 : Nat);
 let q1 := decF rItem (List.length s.1.1) fun i => encF rItem s.1.1 (q14 + i);
 let q2 := decF rItem (List.length s.1.2.2.2) fun i => encF rItem s.1.2.2.2 (q14 + i);
 let q3 := decF rItem (List.length s.1.2.1) fun i => encF rItem s.1.2.1 (q14 + i);
 let q21 := mergeV q1 q1;
 let q4 := decF rItem (List.length q21.1) fun i => encF rItem q21.1 (q14 + i);
 let q13 := (1000000 : Nat);
 let q16 := Prod.fst (lSortedV q2);
 let q5 := decide (List.length q4 ≤ q13 ∧ List.length (decF rItem (List.length q16) fun i => encF rItem q16 (q14 + i)) ≤ q13);
 let q6 := (false, PUnit.unit);
 let q7 := (decide (q4 = decF rItem (List.length q16) fun i => encF rItem q16 (q14 + i)), PUnit.unit);
 let q17 := s.1.2.2.1;
 let q22 := postingsV q1 q17;
 let q8 := decF rPost (List.length q22.1) fun i => encF rPost q22.1 (q14 + i);
 let q9 := decF rItem (List.length (Prod.fst (finalV q1 q17))) fun i => encF rItem (Prod.fst (finalV q1 q17)) (q14 + i);
 let q20 := mergeV q1 q3;
 let q10 := decF rItem (List.length q20.1) fun i => encF rItem q20.1 (q14 + i);
 let q11 := Prod.fst (postingsV q2 q17);
 let q12 := Prod.fst (finalV q2 q17);
 let q15 := Prod.fst (mergeV q3 q1);
 let q18 := (1000 : Nat);
 let q19 := (0 : Int);
 let q23 := Prod.snd (lSortedV q2) == q19;
  .chk (decide (List.length q1 ≤ q18 ∧ List.length q3 ≤ q18)) <|
  .chk (decide (List.length q3 ≤ q18 ∧ List.length q1 ≤ q18)) <|
  .chk (decide (List.length q1 ≤ q18 ∧ List.length q1 ≤ q18)) <|
  .br (q22.2 != Prod.snd (postingsV q2 q17)) (
    .ret q6) (
    .br (Prod.snd (finalV q1 q17) != Prod.snd (finalV q2 q17)) (
      .ret q6) (
      .chk (decide (List.length q8 ≤ q13 ∧ List.length (decF rPost (List.length q11) fun i => encF rPost q11 (q14 + i)) ≤ q13)) <|
      .br (!decide (q8 = decF rPost (List.length q11) fun i => encF rPost q11 (q14 + i))) (
        .ret q6) (
        .chk (decide (List.length q9 ≤ q13 ∧ List.length (decF rItem (List.length q12) fun i => encF rItem q12 (q14 + i)) ≤ q13)) <|
        .br (!decide (q9 = decF rItem (List.length q12) fun i => encF rItem q12 (q14 + i))) (
          .ret q6) (
          .br (!(q20.2 == q19) == (Prod.snd (mergeV q3 q1) == q19)) (
            .ret q6) (
            .br (q20.2 == q19) (
              .chk (decide (List.length q10 ≤ q13 ∧ List.length (decF rItem (List.length q15) fun i => encF rItem q15 (q14 + i)) ≤ q13)) <|
              .br (!decide (q10 = decF rItem (List.length q15) fun i => encF rItem q15 (q14 + i))) (
                .ret q6) (
                .br (q21.2 == q19) (
                  .br q23 (
                    .chk q5 <|
                    .ret q7) (
                    .ret q6)) (
                  .ret q6))) (
              .br (q21.2 == q19) (
                .br q23 (
                  .chk q5 <|
                  .ret q7) (
                  .ret q6)) (
                .ret q6)))))))) := fun s => by kernel_rfl
end Go.Proofs.YtelpdkojdfnmiaaGreat
/-! LId -/
namespace Go.Proofs.YtelpdkojdfnmiaaGreat
open Ev K
set_option maxRecDepth 100000
namespace K
abbrev AoS := List Itm × List Itm × Int × List Itm
def aoOk (s : AoS) : Bool := decide (checkV s.1 = 0 ∧ s.1.length ≤ 30 ∧ s.2.1.length ≤ 1000 ∧ s.2.2.2.length ≤ 60) && (decide (∀ x ∈ s.2.2.2, x ∈ s.1) && decide (∀ x ∈ s.1, x ∈ s.2.2.2))
theorem readB_same {l o : List Itm} (h : srt o = srt l) (known : Int) : readB o known = readB l known := by unfold readB; rw [h]
theorem posts_len (l : List Itm) (known : Int) : (postingsV l known).1.length ≤ 1000 := by
  unfold postingsV
  by_cases h : askedV l [known] = 0
  · rw [if_pos h]
    have hc := (ask_check h).1
    obtain ⟨c1, c2, _⟩ := checkV_ok hc
    have := (read_ok c2 known).posts
    show (readB l known).posts.length ≤ 1000
    omega
  · rw [if_neg h]; exact Nat.zero_le _
theorem fin_len (l : List Itm) (known : Int) : (finalV l known).1.length ≤ 1000 := by
  unfold finalV finL
  by_cases h : askedV l [known] = 0
  · rw [if_pos h]
    have hc := (ask_check h).1
    obtain ⟨c1, c2, _⟩ := checkV_ok hc
    have := (read_ok c2 known).taken
    have := List.length_filterMap_le (finItem (readB l known)) (readB l known).taken
    show (List.filterMap _ _).length ≤ 1000
    omega
  · rw [if_neg h]; exact Nat.zero_le _
theorem ao_eq (s : AoS) (h : aoOk s = true) : cutT1 P BLIc1 30 15 48 S_ao X_ao (s, ()) = some (true, ()) := by
  obtain ⟨l, m, known, o⟩ := s
  unfold aoOk at h
  simp only [Bool.and_eq_true, decide_eq_true_eq] at h
  obtain ⟨⟨hc, hl, hm, ho⟩, h1, h2⟩ := h
  have hmem : ∀ x, x ∈ o ↔ x ∈ l := fun x => ⟨h1 x, h2 x⟩
  obtain ⟨hco, hso⟩ := check_same hc ho hmem
  obtain ⟨hcl, hsl⟩ := check_same (l' := l ++ l) hc (by rw [List.length_append]; omega) (fun x => by simp)
  have ha : ∀ days, askedV o days = askedV l days := fun days => by unfold askedV; rw [hc, hco]
  have e1 : postingsV o known = postingsV l known := by unfold postingsV; rw [ha, readB_same hso]
  have e2 : finalV o known = finalV l known := by unfold finalV; rw [ha, readB_same hso]
  have e3 : mergeV l l = (srt l, 0) := by
    rw [merge_val (merge_ok.2 ⟨hc, hc, hcl⟩), hsl]
  have e4 : lSortedV o = (srt l, 0) := by unfold lSortedV; rw [if_pos hco, hco, hso]
  obtain ⟨c1, c2⟩ := merge_comm l m
  have p1 := posts_len l known
  have p2 := fin_len l known
  have p3 := merge_len l m
  have p4 := merge_len m l
  have p5 := srt_len l
  rw [t_ao]
  simp only [Nat.zero_add, decF_encF, e1, e2, e3, e4]
  refine chk_step (decide_eq_true (by omega)) (chk_step (decide_eq_true (by omega)) (chk_step (decide_eq_true (by omega)) (br_f (by simp) (br_f (by simp) (chk_step (decide_eq_true (by omega)) (br_f (by simp) (chk_step (decide_eq_true (by omega)) (br_f (by simp) ?_))))))))
  have tail : T.run (.br ((0 : Int) == 0) (.br ((0 : Int) == 0) (.chk (decide ((srt l).length ≤ 1000000 ∧ (srt l).length ≤ 1000000)) (.ret (decide (srt l = srt l), PUnit.unit))) (.ret (false, PUnit.unit))) (.ret (false, PUnit.unit))) = some (true, ()) := by
    refine br_t rfl (br_t rfl (chk_step (decide_eq_true (by omega)) ?_))
    rw [decide_eq_true rfl]; rfl
  have hq : ((mergeV l m).2 == 0) = ((mergeV m l).2 == 0) := by
    apply Bool.eq_iff_iff.2
    rw [beq_iff_eq, beq_iff_eq]; exact c1
  refine br_f (by rw [hq]; simp) ?_
  by_cases h0 : (mergeV l m).2 = 0
  · refine br_t (beq_iff_eq.2 h0) (chk_step (decide_eq_true (by omega)) (br_f (by rw [c2 h0]; simp) ?_))
    simpa using tail
  · refine br_f (by rw [beq_eq_false_iff_ne]; exact h0) ?_
    simpa using tail
end K
noncomputable def BLId1 : Tab := (BLIc1.addNode 15 48 (nodeE [0, 1, 4, 12] S_ao X_ao (fun s => .chk (K.aoOk s.1) (.ret (true, ()))))).addCut 15 48
theorem tLId1 : TabOk P BLId1 := TabOk.addCut (d := 30) okP tLIc1 (by kernel_rfl) (fun s r h => by obtain ⟨g, e⟩ := chk_ret h; subst e; exact ao_eq s.1 g)
set_option maxHeartbeats 0
theorem fn_lwAo : ∀ a, (callT1 P BLId1 30 15 D_lao dB) a = T.run (
 let q5 := IntKind.wrap IntKind.i64 (IntKind.wrap IntKind.u8 a.2.2.1);
 let q10 := List.length a.1;
 let q3 := clampL q10;
 let q1 := Int.tmod q5 (↑q3 : Int);
 let q7 := IntKind.wrap IntKind.i64 (IntKind.wrap IntKind.u8 a.2.2.2.1);
 let q8 := IntKind.wrap IntKind.i64 ((↑q3 : Int) + (1 : Int));
 let q6 := (0 : Nat);
 let q2 := Int.toNat (Int.tmod q7 q8) - q6;
 let q4 := List.length a.1 - Int.toNat q1;
 let q9 := Int.toNat q1 - q6;
 let q11 := (0 : Int);
  .br (decide ((↑q3 : Int) > (30 : Int))) (
    .ret (true)) (
    .br ((↑q3 : Int) == q11) (
      .ret (true)) (
      .br (!l_few (decF rItem (List.length a.2.1) fun i => encF rItem a.2.1 (q6 + i))) (
        .ret (true)) (
        .br (checkV (decF rItem q10 fun i => encF rItem a.1 (q6 + i)) != q11) (
          .ret (true)) (
          .chk (!decide ((↑q3 : Int) = q11)) <|
          .chk (true && decide (q11 ≤ Int.tmod q5 (↑q3 : Int) ∧ Int.tmod q5 (↑q3 : Int) ≤ (↑q10 : Int))) <|
          .chk (decide ((q6 + q4) * (56 : Nat) ≤ (140737488355328 : Nat) ∧ q6 + q4 ≤ nat_lit 9223372036854775807)) <|
          .chk (decide (q11 ≤ Int.tmod q5 (↑q3 : Int) ∧ Int.tmod q5 (↑q3 : Int) ≤ (↑q10 : Int)) && true) <|
          .chk (decide ((q6 + q4 + q9) * (56 : Nat) ≤ (140737488355328 : Nat) ∧ q6 + q4 + q9 ≤ nat_lit 9223372036854775807)) <|
          .chk (!decide (IntKind.wrap IntKind.i64 ((↑q3 : Int) + (1 : Int)) = q11)) <|
          .chk (decide (q11 ≤ Int.tmod q7 q8 ∧ Int.tmod q7 q8 ≤ (↑q10 : Int)) && true) <|
          .chk (decide ((q6 + q4 + q9 + q2) * (56 : Nat) ≤ (140737488355328 : Nat) ∧ q6 + q4 + q9 + q2 ≤ nat_lit 9223372036854775807)) <|
          .chk (aoOk (decF rItem q10 fun i => encF rItem a.1 (q6 + i), decF rItem (List.length a.2.1) fun i => encF rItem a.2.1 (q6 + i), a.2.2.2.2, decF rItem (q6 + q4 + q9 + q2) fun i => appG (q6 + q4 + q9) (appG (q6 + q4) (appG q6 (fun _x _x_1 => AV.top) fun i k => encF rItem a.1 (q6 + Int.toNat q1 + i) k) fun i k => encF rItem a.1 (nat_lit 0 + i) k) (fun i k => encF rItem a.1 (nat_lit 0 + i) k) (q6 + i))) <|
          .ret (true)))))) := fun a => by kernel_rfl
end Go.Proofs.YtelpdkojdfnmiaaGreat
/-! LIe -/
namespace Go.Proofs.YtelpdkojdfnmiaaGreat
open Ev K
set_option maxRecDepth 100000
namespace K
theorem decF_appG {ρ : Type} (R : RowD ρ) (n m : Nat) (f g : Nat → Nat → AV) : decF R (n + m) (appG n f g) = decF R n f ++ decF R m g := by
  apply List.ext_getElem?
  intro i
  simp only [decF, List.getElem?_map]
  by_cases h : i < n
  · have e : appG n f g i = f i := by
      funext k; unfold appG; rw [show Nat.ble n i = false by rw [← Bool.not_eq_true, Nat.ble_eq]; omega]
    rw [List.getElem?_append_left (by simpa using h), List.getElem?_range (by omega), List.getElem?_map, List.getElem?_range h, Option.map_some, Option.map_some, e]
  · have e : appG n f g i = g (i - n) := by
      funext k; unfold appG; rw [show Nat.ble n i = true by rw [Nat.ble_eq]; omega]
    rw [List.getElem?_append_right (by simp; omega), List.getElem?_map]
    simp only [List.length_map, List.length_range]
    by_cases h2 : i < n + m
    · rw [List.getElem?_range h2, List.getElem?_range (by omega), Option.map_some, Option.map_some, e]
    · rw [List.getElem?_eq_none (by simp; omega), List.getElem?_eq_none (by simp; omega)]; rfl
theorem decF_cut (l : List Itm) (a n : Nat) (h : a + n ≤ l.length) : decF rItem n (fun i j => encF rItem l (a + i) j) = (l.drop a).take n := by
  apply List.ext_getElem?
  intro i
  simp only [decF, List.getElem?_map]
  by_cases hi : i < n
  · have hx := List.getElem?_eq_getElem (show a + i < l.length by omega)
    rw [List.getElem?_range hi, Option.map_some, List.getElem?_take_of_lt hi, List.getElem?_drop, hx]
    show some (rItem.rd (encF rItem l (a + i))) = _
    rw [item_at hx, rItem.good]
  · rw [List.getElem?_eq_none (by simp; omega), List.getElem?_eq_none (by simp; omega)]; rfl
theorem ao_list (l : List Itm) (k t : Nat) (hk : k ≤ l.length) (ht : t ≤ l.length) :
    decF rItem (l.length - k + k + t) (fun i => appG (l.length - k + k) (appG (l.length - k) (appG 0 (fun _ _ => .top) fun i j => encF rItem l (k + i) j) fun i j => encF rItem l (0 + i) j) (fun i j => encF rItem l (0 + i) j) i) = l.drop k ++ l.take k ++ l.take t := by
  refine (decF_appG rItem (l.length - k + k) t _ _).trans ?_
  rw [decF_appG, app0, decF_cut l k _ (by omega), decF_cut l 0 _ (by omega), decF_cut l 0 _ (by omega), List.drop_zero, List.take_of_length_le (by rw [List.length_drop]; omega)]
theorem few_len {l : List Itm} (h : l_few l = true) : l.length ≤ 1000 := by
  have key : ∀ n : Nat, n ≤ 80 → (clampL l.length : Int) ≤ (n : Int) → l.length ≤ 1000 := fun n hn h => by
    unfold clampL maxL at h
    split at h <;> omega
  unfold l_few at h
  by_cases c : (clampL l.length : Int) ≤ 30
  · exact key 30 (by omega) c
  · rw [if_neg (by rw [decide_eq_true_eq]; exact c)] at h
    by_cases d : (clampL l.length : Int) > 60
    · rw [if_pos (decide_eq_true d)] at h
      exact key 80 (by omega) (of_decide_eq_true h)
    · rw [if_neg (by rw [decide_eq_true_eq]; exact d)] at h
      cases h
theorem lwAo_eq (a : List Itm × List Itm × Int × Int × Int) : callT1 P BLId1 30 15 D_lao dB a = some true := by
  obtain ⟨l, m, turn, twice, known⟩ := a
  rw [fn_lwAo]
  obtain ⟨a1, a2⟩ := u8_range turn
  obtain ⟨b1, b2⟩ := u8_range twice
  have w1 : IntKind.i64.wrap (IntKind.u8.wrap turn) = IntKind.u8.wrap turn := w64_in (by omega) (by omega)
  have w2 : IntKind.i64.wrap (IntKind.u8.wrap twice) = IntKind.u8.wrap twice := w64_in (by omega) (by omega)
  simp only [w1, w2, Nat.zero_add, Nat.sub_zero, decF_encF]
  generalize IntKind.u8.wrap turn = tu at a1 a2
  generalize IntKind.u8.wrap twice = tw at b1 b2
  by_cases h30 : (clampL l.length : Int) > 30
  · exact br_t (decide_eq_true h30) rfl
  refine br_f (decide_eq_false h30) ?_
  have hcl : clampL l.length = l.length := clampL_eq (by
    unfold clampL maxL at h30
    unfold maxL
    split at h30 <;> omega)
  rw [hcl] at h30 ⊢
  by_cases h0 : (l.length : Int) = 0
  · exact br_t (beq_iff_eq.2 h0) rfl
  refine br_f (by rw [beq_eq_false_iff_ne]; exact h0) ?_
  by_cases hfew : l_few m = true
  · refine br_f (by rw [hfew]; rfl) ?_
    by_cases hc : checkV l = 0
    · refine br_f (ne_f hc) ?_
      have wl : IntKind.i64.wrap ((l.length : Int) + 1) = ((l.length + 1 : Nat) : Int) := by rw [w64_in (by omega) (by omega)]; rfl
      rw [wl, Int.tmod_eq_emod_of_nonneg a1, Int.tmod_eq_emod_of_nonneg b1]
      have m1 := Int.emod_nonneg tu (show (l.length : Int) ≠ 0 from h0)
      have m2 := Int.emod_lt_of_pos tu (show (0 : Int) < (l.length : Int) by omega)
      have m3 := Int.emod_nonneg tw (show ((l.length + 1 : Nat) : Int) ≠ 0 by omega)
      have m4 := Int.emod_lt_of_pos tw (show (0 : Int) < ((l.length + 1 : Nat) : Int) by omega)
      obtain ⟨k, hk⟩ : ∃ k : Nat, tu % (l.length : Int) = k := ⟨(tu % (l.length : Int)).toNat, by omega⟩
      obtain ⟨t, ht⟩ : ∃ t : Nat, tw % ((l.length + 1 : Nat) : Int) = t := ⟨(tw % ((l.length + 1 : Nat) : Int)).toNat, by omega⟩
      rw [hk] at m1 m2 ⊢
      rw [ht] at m3 m4 ⊢
      simp only [Int.toNat_natCast]
      have hm : m.length ≤ 1000 := few_len hfew
      have hl := ao_list l k t (by omega) (by omega)
      simp only [Nat.zero_add] at hl
      have hok : aoOk (l, m, known, l.drop k ++ l.take k ++ l.take t) = true := by
        unfold aoOk
        simp only [Bool.and_eq_true, decide_eq_true_eq]
        refine ⟨⟨hc, by omega, hm, ?_⟩, fun x hx => ?_, fun x hx => ?_⟩
        · simp only [List.length_append, List.length_drop, List.length_take]; omega
        · rcases List.mem_append.1 hx with hx | hx
          · rcases List.mem_append.1 hx with hx | hx
            · exact List.mem_of_mem_drop hx
            · exact List.mem_of_mem_take hx
          · exact List.mem_of_mem_take hx
        · refine List.mem_append_left _ (List.mem_append.2 ?_)
          rw [← List.take_append_drop k l] at hx
          rcases List.mem_append.1 hx with hx | hx
          · exact .inr hx
          · exact .inl hx
      refine chk_step (by rw [decide_eq_false h0]; rfl) (chk_step (by rw [Bool.true_and]; exact decide_eq_true (by omega)) (chk_step (decide_eq_true (by omega)) (chk_step (by rw [Bool.and_true]; exact decide_eq_true (by omega)) (chk_step (decide_eq_true (by omega)) (chk_step (by rw [decide_eq_false (by omega)]; rfl) (chk_step (by rw [Bool.and_true]; exact decide_eq_true (by omega)) (chk_step (decide_eq_true (by omega)) (chk_step ?_ rfl))))))))
      refine Eq.trans ?_ hok
      exact congrArg (fun o => aoOk (l, m, known, o)) hl
    · exact br_t (ne_t hc) rfl
  · exact br_t (by rw [Bool.not_eq_true] at hfew; rw [hfew]; rfl) rfl
end K
end Go.Proofs.YtelpdkojdfnmiaaGreat
/-! LZc -/
namespace Go.Proofs.YtelpdkojdfnmiaaGreat
open Ev K
open Go.ChangeShapes Go.WideShapes Go.RowKit
set_option maxRecDepth 100000
theorem law_pc (a) : PC P 15 (D_lao.enc a) (.bool true) := by
  have h := lwAo_eq a
  exact call_of okP tLId1 h
theorem ownP : ownKnob P.godebug = none := by kernel_rfl
theorem laidP : laidOutB P = true := by kernel_rfl
theorem ub : P.underlying 4 = some .bool := by kernel_rfl
theorem ledgerAnyOrder_lifted (os : Os) (started : os.Started) (H : Type) (enc : TypeId × Value → H) :
    ReturnsInHanded {} Tryz.checked os 15 .any (Rows.ledgerAnyOrderSpec.pre6 enc Tryz.prog Tryz.f15 Rows.ledgerAnyOrderRow.domain false) (Rows.ledgerAnyOrderSpec.post enc Tryz.prog Tryz.f15 false true false false) := by
  refine returnsInHanded_of_change (C := Tryz.checked) ownP started (by kernel_rfl) Tryz.func15
    (ChangeSpec.witness6 (enc := enc) (C := Tryz.checked) false ⟨#[], #[.slice none 0 0, .slice none 0 0, .int .u8 0, .int .u8 0, .int .i64 0], []⟩ 8 (by kernel_rfl) (by kernel_rfl) (by kernel_rfl) (by kernel_rfl)) ?_
  intro W base args ds gs before hval hW _ _
  refine law_contract (P := Tryz.prog) D_lao laidP (by kernel_rfl) rfl (fun ds hd => ?_) (fun W' b sp hd => trodAll_mk1 (shut_bool ub true)) (fun W' => ok_one (by kernel_rfl) rfl (okWide_bool_mk ub true)) (fun W base args ds p hval hA => ?_) law_pc W base args ds gs before hval hW
  · rw [Tryz.params15] at hd
    match ds, hd with
    | [a, b, c, d, e], _ => rfl
  · rw [Tryz.params15] at hA hval
    obtain ⟨v0, vs0, d0, ds0, p0, q0, e0, _, _, h0, r0⟩ := trodAll_cons hA
    obtain ⟨v1, vs1, d1, ds1, p1, q1, e1, _, _, h1, r1⟩ := trodAll_cons r0
    obtain ⟨v2, vs2, d2, ds2, p2, q2, e2, _, _, h2, r2⟩ := trodAll_cons r1
    obtain ⟨v3, vs3, d3, ds3, p3, q3, e3, _, _, h3, r3⟩ := trodAll_cons r2
    obtain ⟨v4, vs4, d4, ds4, p4, q4, e4, _, _, h4, r4⟩ := trodAll_cons r3
    obtain ⟨e5, _, _⟩ := trodAll_nil r4
    subst e5; subst e4; subst e3; subst e2; subst e1
    have ha : args = #[v0, v1, v2, v3, v4] := by apply Array.ext'; exact e0
    subst ha
    exact rdL_cons (rp_items (hval 0 _ v0 rfl rfl) h0) (rdL_cons (rp_items (hval 1 _ v1 rfl rfl) h1) (rdL_cons (rp_u8 (hval 2 _ v2 rfl rfl) h2) (rdL_cons (rp_u8 (hval 3 _ v3 rfl rfl) h3) (rdL_last (rp_int (hval 4 _ v4 rfl rfl) h4)))))
theorem ledgerAnyOrder_holds : Rows.LedgerAnyOrderSaid :=
  OpenClaim.holds_of_wide 15 Tryz.f15 rfl rfl rfl rfl rfl rfl rfl ⟨rfl, rfl, rfl, rfl, rfl⟩ rfl rfl rfl rfl rfl (by kernel_rfl) Tryz.func15 (by kernel_rfl)
    (of_decide_eq_true (by kernel_rfl)) (by unfold Func.isWrapper; rw [if_neg (of_decide_eq_false (by kernel_rfl))]; exact ⟨rfl, rfl⟩)
    (fun os started H enc _ => ledgerAnyOrder_lifted os started H enc)
#print axioms ledgerAnyOrder_holds
end Go.Proofs.YtelpdkojdfnmiaaGreat
