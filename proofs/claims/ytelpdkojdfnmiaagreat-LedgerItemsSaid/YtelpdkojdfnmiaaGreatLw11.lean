/- LedgerItems: for every input the law returns true, and the input reads as it did. No conditions. -/
import Derived.Test.YtelpdkojdfnmiaaGreatLw10
import Derived.ProofKit
import Derived.Carry
import Derived.Shelf.Spec.SlicesGrow
import Derived.Test.YtelpdkojdfnmiaaGreatRows
/-! EvW -/
namespace Go.Proofs.YtelpdkojdfnmiaaGreat.Ev
open Go.RowKit Go.WideShapes Go.ChangeShapes
section
variable {H : Type} {enc : TypeId × Value → H} {P : Program}
theorem post_of_below {f : Func} {s : ChangeSpec} {apart fresh handsOn again : Bool} {W W' : World} {args : Array Value} {v : Value} {ds gs : List (DataW H)} {before pa pv : List MemPlace}
    (hW : DataW.Whole enc P f.params.toList s.vars apart W args.toList ds gs before)
    (hres : ∀ (b : Nat) (sp : Nat → Bool) (hd : Bool), DataW.TrodAll enc P W' b sp hd f.resultTypes.toList (v.resultList f.resultTypes.size) (s.fn H (ds ++ gs)).results [])
    (hargs : ∀ sp : Nat → Bool, (∀ p ∈ before, sp p.block = true) → DataW.TrodAll enc P W' 0 sp true f.params.toList args.toList (s.fn H (ds ++ gs)).args pa)
    (hvars : ∀ sp : Nat → Bool, (∀ p ∈ before, sp p.block = true) → DataW.TrodVars enc P W' sp s.vars (s.fn H (ds ++ gs)).vars pv)
    (hps : before = pa ++ pv) (hb : Below W.heap.size W W')
    (hok : ∀ (j : Nat) (t : TypeId) (r : Value), f.resultTypes[j]? = some t → (v.resultList f.resultTypes.size)[j]? = some r → Value.okWide P W' .any 0 t r) :
    s.post enc P f apart fresh handsOn again W args v W' := by
  have hlt : ∀ p ∈ before, p.block < W.heap.size := fun p hp => hW.lt p hp
  have hold : ∀ p ∈ before, (fun b => decide (b < W.heap.size)) p.block = true := fun p hp => by simpa using hlt p hp
  refine ⟨ds, gs, before, [], pa, pv, hW, hres _ _ _, hargs _ hold, hvars _ hold, World.keptBut_mono (fun p hp => ⟨hp, ?_⟩) (hb.frame (· ∈ before)), fun _ => ?_⟩
  · rw [hps, List.mem_append] at hp
    exact Or.inr hp
  · obtain ⟨_, _, _, _, _, hz, hn⟩ := hW
    refine ⟨hok, _, _, ([] ++ pa) ++ pv, ⟨[] ++ pa, pv, trodAll_append (hargs _ (fun _ _ => rfl)) (hres _ _ _), hvars _ (fun _ _ => rfl), rfl, ?_, ?_⟩, ?_⟩
    · intro b off hp
      have hin : MemPlace.cell b off ∈ before := by rw [hps]; simpa using hp
      rw [hb.frozen (hlt _ hin)]
      exact hz b off hin
    · intro ha
      have := hn ha
      rw [hps] at this
      simpa using this
    · intro p hp _
      rw [hps]
      simpa using hp
theorem trodAll_stays (hl : laidOutB P = true) {W W' : World} (hb : Below W.heap.size W W') {sp : Nat → Bool} : ∀ {ts : List TypeId} {vs : List Value} {ds : List (DataW H)} {ps : List MemPlace},
    (∀ t ∈ ts, P.readableRec t = true ∧ t < P.types.size) → DataW.TrodAll enc P W 0 (fun _ => true) true ts vs ds ps → (∀ x ∈ ps, x.block < W.heap.size) → (∀ x ∈ ps, sp x.block = true) → DataW.TrodAll enc P W' 0 sp true ts vs ds ps
  | [], [], [], ps, _, h, _, _ => h
  | [], [], _ :: _, _, _, h, _, _ => h.elim
  | [], _ :: _, _, _, _, h, _, _ => h.elim
  | _ :: _, [], _, _, _, h, _, _ => h.elim
  | _ :: _, _ :: _, [], _, _, h, _, _ => h.elim
  | t :: ts, v :: vs, d :: ds, ps, ht, h, hlt, hs => by
    obtain ⟨p, q, h1, h2, rfl⟩ := h
    refine ⟨p, q, ?_, trodAll_stays hl hb (fun t h => ht t (List.mem_cons_of_mem _ h)) h2 (fun x hx => hlt x (List.mem_append_right _ hx)) (fun x hx => hs x (List.mem_append_right _ hx)), rfl⟩
    have h0 := ht t List.mem_cons_self
    exact WideElems.Trod_stays hl h0.1 h0.2 h1 (fun x hx => hb.same (hlt x (List.mem_append_left _ hx))) (fun x hx => hs x (List.mem_append_left _ hx))
inductive FK where
  | int (k : IntKind)
  | bool
  | str
  | sl (e : TypeId)
def flatF (r : TypeId → Option (List FK)) (P : Program) : List Field → Nat → Option (List FK)
  | [], _ => some []
  | f :: fs, off => match r f.type with
    | some l => match Nat.beq f.offset off && Nat.beq (P.cellsOf f.type) l.length with
      | true => match flatF r P fs (off + l.length) with
        | some m => some (l ++ m)
        | none => none
      | false => none
    | none => none
def flat (P : Program) : Nat → TypeId → Option (List FK)
  | 0, _ => none
  | n + 1, t => match P.underlying t with
    | some .bool => some [.bool]
    | some (.int k) => some [.int k]
    | some .string => some [.str]
    | some (.slice e) => some [.sl e]
    | some (.struct fs) => match flatF (flat P n) P fs.toList 0 with
      | some l => match Nat.beq (P.cellsOf t) l.length with
        | true => some l
        | false => none
      | none => none
    | some (.array m e) => match flat P n e with
      | some l => match Nat.beq (P.cellsOf e) l.length && Nat.beq (P.cellsOf t) (m * l.length) with
        | true => some (List.replicate m l).flatten
        | false => none
      | none => none
    | _ => none
def CellR (enc : TypeId × Value → H) (P : Program) (w : World) : FK → Value → Prop
  | .int k, v => ∃ n, v = .int k n ∧ (Lit.int k n).wf = true
  | .bool, v => ∃ b, v = .bool b
  | .str, v => ∃ s : ByteArray, v = .string s ∧ s.size ≤ maxLen
  | .sl e, v => v = .slice none 0 0 ∨ ∃ (a : Addr) (len cap : Nat), v = .slice (some a) len cap ∧ len ≤ cap ∧ cap ≤ maxLen ∧
      ∀ i, i < len → ∃ row, w.cells? 0 (a.add (i * P.cellsOf e)) (P.cellsOf e) = some row ∧ ∃ fuel x, DataW.trod enc P w 0 (fun _ => true) true fuel e row = some x
theorem mapM_mem {α β : Type} {f : α → Option β} : ∀ {l : List α} {ys : List β}, l.mapM f = some ys → ∀ x ∈ l, ∃ y, f x = some y
  | [], _, _, x, hx => by simp at hx
  | a :: l, ys, h, x, hx => by
    rw [List.mapM_cons] at h
    cases ha : f a with
    | none => simp [ha] at h
    | some b =>
      cases hl : l.mapM f with
      | none => simp [ha, hl] at h
      | some bs =>
        rcases List.mem_cons.1 hx with rfl | hx
        · exact ⟨b, ha⟩
        · exact mapM_mem hl x hx
theorem flatF_get {r : TypeId → Option (List FK)} {w : World} {cs : List Value} (hr : ∀ t l, r t = some l → ∀ fuel ds x, DataW.trod enc P w 0 (fun _ => true) true fuel t ds = some x → ds.length = l.length ∧ ∀ (i : Nat) (k : FK), l[i]? = some k → ∃ v, ds[i]? = some v ∧ CellR enc P w k v) :
    ∀ {fs : List Field} {off : Nat} {l : List FK}, flatF r P fs off = some l → off + l.length ≤ cs.length → (∀ f ∈ fs, ∃ fuel x, DataW.trod enc P w 0 (fun _ => true) true fuel f.type ((cs.drop f.offset).take (P.cellsOf f.type)) = some x) →
      ∀ (i : Nat) (k : FK), l[i]? = some k → ∃ v, cs[off + i]? = some v ∧ CellR enc P w k v
  | [], off, l, h, _, _, i, k, hi => by simp [flatF] at h; subst h; simp at hi
  | f :: fs, off, l, h, hle, hf, i, k, hi => by
    simp only [flatF] at h
    split at h
    case h_2 => simp at h
    rename_i l1 h1
    split at h
    case h_2 => simp at h
    rename_i hc
    simp only [Bool.and_eq_true] at hc
    have e1 := Nat.eq_of_beq_eq_true hc.1
    have e2 := Nat.eq_of_beq_eq_true hc.2
    split at h
    case h_2 => simp at h
    rename_i m hm
    injection h with h; subst h
    rw [List.length_append] at hle
    by_cases hlt : i < l1.length
    · rw [List.getElem?_append_left hlt] at hi
      obtain ⟨fuel, x, hx⟩ := hf f List.mem_cons_self
      obtain ⟨v, hv, hcr⟩ := (hr _ _ h1 _ _ _ hx).2 i k hi
      rw [List.getElem?_take] at hv
      split at hv
      · rw [List.getElem?_drop, e1] at hv
        exact ⟨v, hv, hcr⟩
      · simp at hv
    · rw [List.getElem?_append_right (by omega)] at hi
      obtain ⟨v, hv, hcr⟩ := flatF_get hr hm (by omega) (fun f h => hf f (List.mem_cons_of_mem _ h)) _ k hi
      exact ⟨v, by rw [← hv]; congr 1; omega, hcr⟩
theorem flatten_get {l : List FK} {m : Nat} : ∀ {i : Nat} {k : FK}, ((List.replicate m l).flatten)[i]? = some k → 0 < l.length ∧ i / l.length < m ∧ l[i % l.length]? = some k := by
  induction m with
  | zero => intro i k h; simp at h
  | succ m ih =>
    intro i k h
    rw [List.replicate_succ, List.flatten_cons] at h
    by_cases hlt : i < l.length
    · rw [List.getElem?_append_left hlt] at h
      exact ⟨by omega, by rw [Nat.div_eq_of_lt hlt]; omega, by rw [Nat.mod_eq_of_lt hlt]; exact h⟩
    · rw [List.getElem?_append_right (by omega)] at h
      obtain ⟨h1, h2, h3⟩ := ih h
      refine ⟨h1, ?_, ?_⟩
      · rw [Nat.div_eq_sub_div h1 (by omega)]; omega
      · rw [Nat.mod_eq_sub_mod (by omega)]; exact h3
theorem trod_flat {w : World} : ∀ (n : Nat) (t : TypeId) (ks : List FK), flat P n t = some ks → ∀ (fuel : Nat) (cs : List Value) (x : DataW H × List MemPlace), DataW.trod enc P w 0 (fun _ => true) true fuel t cs = some x →
    cs.length = ks.length ∧ ∀ (i : Nat) (k : FK), ks[i]? = some k → ∃ v, cs[i]? = some v ∧ CellR enc P w k v
  | 0, t, ks, h, _, _, _, _ => by simp [flat] at h
  | n + 1, t, ks, h, 0, cs, x, hx => by simp [DataW.trod] at hx
  | n + 1, t, ks, h, fuel + 1, cs, x, hx => by
    simp only [flat] at h
    split at h
    · rename_i hu
      injection h with h; subst h
      simp only [DataW.trod, hu] at hx
      split at hx <;> simp_all
      exact fun i k hi => by
        cases i with
        | zero => simp at hi; subst hi; exact ⟨_, rfl, _, rfl⟩
        | succ i => simp at hi
    · rename_i k0 hu
      injection h with h; subst h
      simp only [DataW.trod, hu] at hx
      split at hx <;> simp_all
      exact fun i k hi => by
        cases i with
        | zero => simp at hi; subst hi; exact ⟨_, rfl, _, rfl, hx.1.2⟩
        | succ i => simp at hi
    · rename_i hu
      injection h with h; subst h
      simp only [DataW.trod, hu] at hx
      split at hx <;> simp_all
      exact fun i k hi => by
        cases i with
        | zero => simp at hi; subst hi; exact ⟨_, rfl, _, rfl, hx.1⟩
        | succ i => simp at hi
    · rename_i e hu
      injection h with h; subst h
      simp only [DataW.trod, hu] at hx
      split at hx
      case h_7 =>
        exact ⟨rfl, fun i k hi => by
          cases i with
          | zero => simp at hi; subst hi; exact ⟨_, rfl, .inl rfl⟩
          | succ i => simp at hi⟩
      case h_8 =>
        rename_i e' a len cap h0
        injection h0 with h0; injection h0 with h0; subst h0
        split at hx
        case isFalse => simp at hx
        rename_i hc
        rw [Option.bind_eq_some_iff] at hx
        obtain ⟨elems, he, _⟩ := hx
        refine ⟨rfl, fun i k hi => ?_⟩
        cases i with
        | succ i => simp at hi
        | zero =>
          simp at hi; subst hi
          refine ⟨_, rfl, .inr ⟨a, len, cap, rfl, hc.2.1, hc.2.2, fun j hj => ?_⟩⟩
          obtain ⟨y, hy⟩ := mapM_mem he j (List.mem_range.2 hj)
          rw [Option.bind_eq_some_iff] at hy
          obtain ⟨row, h1, h2⟩ := hy
          exact ⟨row, h1, fuel, y, h2⟩
      all_goals simp_all
    · rename_i fs hu
      split at h
      case h_2 => simp at h
      rename_i l hl
      split at h
      case h_2 => simp at h
      rename_i hc
      have ec := Nat.eq_of_beq_eq_true hc
      injection h with h; subst h
      simp only [DataW.trod, hu] at hx
      have hx' : (if cs.length = P.cellsOf t then (fs.toList.mapM fun f => DataW.trod enc P w 0 (fun _ => true) true fuel f.type ((cs.drop f.offset).take (P.cellsOf f.type))).map fun xs => (DataW.agg (xs.map (·.1)), xs.flatMap (·.2)) else none) = some x := by
        split at hx <;> simp_all
      clear hx
      split at hx'
      case isFalse => simp at hx'
      rename_i hlen
      rw [Option.map_eq_some_iff] at hx'
      obtain ⟨xs, hxs, _⟩ := hx'
      refine ⟨by rw [hlen, ec], fun i k hi => ?_⟩
      have := flatF_get (cs := cs) (fun t l h => trod_flat n t l h) hl (by omega) (fun f hf => by obtain ⟨y, hy⟩ := mapM_mem hxs f hf; exact ⟨fuel, y, hy⟩) i k hi
      simpa using this
    · rename_i m e hu
      split at h
      case h_2 => simp at h
      rename_i l hl
      split at h
      case h_2 => simp at h
      rename_i hc
      simp only [Bool.and_eq_true] at hc
      have e1 := Nat.eq_of_beq_eq_true hc.1
      have e2 := Nat.eq_of_beq_eq_true hc.2
      injection h with h; subst h
      simp only [DataW.trod, hu] at hx
      have hx' : (if cs.length = P.cellsOf t then ((List.range m).mapM fun i => DataW.trod enc P w 0 (fun _ => true) true fuel e ((cs.drop (i * P.cellsOf e)).take (P.cellsOf e))).map fun xs => (DataW.agg (xs.map (·.1)), xs.flatMap (·.2)) else none) = some x := by
        split at hx <;> simp_all
      clear hx
      split at hx'
      case isFalse => simp at hx'
      rename_i hlen
      rw [Option.map_eq_some_iff] at hx'
      obtain ⟨xs, hxs, _⟩ := hx'
      refine ⟨by rw [hlen, e2]; simp, fun i k hi => ?_⟩
      obtain ⟨h1, h2, h3⟩ := flatten_get hi
      obtain ⟨y, hy⟩ := mapM_mem hxs (i / l.length) (List.mem_range.2 h2)
      obtain ⟨v, hv, hcr⟩ := (trod_flat n e l hl fuel _ _ hy).2 _ k h3
      rw [List.getElem?_take] at hv
      split at hv
      · rw [List.getElem?_drop, e1] at hv
        refine ⟨v, ?_, hcr⟩
        rw [← hv]; congr 1
        have := Nat.div_add_mod i l.length
        rw [Nat.mul_comm]; exact this.symm
      · simp at hv
    · simp at h
def RdV {α : Type} (w : World) (D : Dec α) (v : Value) : Prop := ∃ a, VR w noA noR (D.enc a) v
def RdL {α : Type} (w : World) (E : DecL α) (cs : List Value) : Prop := ∃ a, VRs w noA noR (E.enc a) cs.toArray
def tagK : FK → CK
  | .int k => .int k
  | .bool => .bool
  | .str => .str
  | .sl _ => .any
def flatK : FK → Bool
  | .sl _ => false
  | _ => true
section
variable {w : World} {α β : Type}
theorem rd_scal {k : FK} (hk : flatK k = true) {v : Value} (h : CellR enc P w k v) : ∃ x, ofScal v = some x ∧ conf (tagK k) x = x := by
  cases k with
  | int k => obtain ⟨n, rfl, _⟩ := h; exact ⟨_, rfl, rfl⟩
  | bool => obtain ⟨n, rfl⟩ := h; exact ⟨_, rfl, rfl⟩
  | str => obtain ⟨n, rfl, _⟩ := h; exact ⟨_, rfl, rfl⟩
  | sl e => simp [flatK] at hk
theorem ckAt_map : ∀ {ks : List FK} {i : Nat} {k : FK}, ks[i]? = some k → ckAt (ks.map tagK) i = tagK k
  | [], i, k, h => by simp at h
  | a :: ks, 0, k, h => by simp at h; subst h; rfl
  | a :: ks, i + 1, k, h => by simp only [List.map_cons, ckAt]; exact ckAt_map (by simpa using h)
theorem mapM_range {f : Nat → Option Value} {n : Nat} {row : List Value} (h : (List.range n).mapM f = some row) (i : Nat) (hi : i < n) : f i = row[i]? := by
  have key : ∀ (l : List Nat) (row : List Value), l.mapM f = some row → ∀ (i x : Nat), l[i]? = some x → f x = row[i]? := by
    intro l
    induction l with
    | nil => intro row _ i x hx; simp at hx
    | cons a l ih =>
      intro row h i x hx
      rw [List.mapM_cons] at h
      cases ha : f a with
      | none => simp [ha] at h
      | some b =>
        cases hl : l.mapM f with
        | none => simp [ha, hl] at h
        | some bs =>
          simp [ha, hl] at h
          subst h
          cases i with
          | zero => simp at hx; subst hx; simpa using ha
          | succ i => simpa using ih bs hl i x (by simpa using hx)
  exact key _ _ h i i (by simp [hi])
theorem cells_at {a : Addr} {n : Nat} {row : List Value} (h : w.cells? 0 a n = some row) : row.length = n ∧ ∀ i, i < n → w.cell? (a.add i) = row[i]? := by
  unfold World.cells? at h
  rw [if_pos (Nat.zero_le _)] at h
  refine ⟨?_, fun i hi => mapM_range h i hi⟩
  have : ∀ (l : List Nat) (row : List Value), (l.mapM fun i => w.cell? (a.add i)) = some row → row.length = l.length := by
    intro l
    induction l with
    | nil => intro row h; simp at h; subst h; rfl
    | cons x l ih =>
      intro row h
      rw [List.mapM_cons] at h
      cases hx : w.cell? (a.add x) with
      | none => simp [hx] at h
      | some b =>
        cases hl : l.mapM (fun i => w.cell? (a.add i)) with
        | none => simp [hx, hl] at h
        | some bs => simp [hx, hl] at h; subst h; simp [ih bs hl]
  simpa using this _ _ h
theorem cell_spot {a : Addr} {v : Value} (h : w.cell? a = some v) : a.spot = none ∧ a.block < w.heap.size := by
  unfold World.cell? at h
  split at h
  · rename_i c _ _ hb
    split at h
    · simp at h
    · rename_i hs; exact ⟨by simpa using hs, (Array.getElem?_eq_some_iff.1 hb).1⟩
  · simp at h
theorem rd_sl {e : TypeId} {n : Nat} {ks : List FK} (hf : flat P n e = some ks) (hwd : P.cellsOf e = ks.length) (hpos : 0 < ks.length) (hk : ks.all flatK = true) {v : Value} (h : CellR enc P w (.sl e) v) : RdV w (dX ks.length (ks.map tagK)) v := by
  rcases h with rfl | ⟨a, len, cap, rfl, h1, h2, h3⟩
  · exact ⟨⟨0, 0, 0, none, fun _ _ => .top⟩, (dX ks.length (ks.map tagK)).ok .nilsl _ rfl _ _ _ _ .nilsl⟩
  · rcases a with ⟨b, off, spot⟩
    rw [hwd] at h3
    have hspot0 : 0 < len → spot = none := fun h0 => by
      obtain ⟨row, hr, fuel, x, hx⟩ := h3 0 h0
      obtain ⟨hl, hat⟩ := cells_at hr
      have h0' := hat 0 hpos
      rw [List.getElem?_eq_getElem (by omega)] at h0'
      have := (cell_spot h0').1
      simpa [Addr.add] using this
    have hcell : ∀ i k, i < len → k < ks.length → ∃ v kk, ks[k]? = some kk ∧ w.cell? ⟨b, off + (i * ks.length + k), spot⟩ = some v ∧ CellR enc P w kk v ∧ spot = none ∧ b < w.heap.size := by
      intro i k hi hkk
      obtain ⟨row, hr, fuel, x, hx⟩ := h3 i hi
      obtain ⟨hl, hat⟩ := cells_at hr
      obtain ⟨v, hv, hc⟩ := (trod_flat n e ks hf fuel row x hx).2 k _ (List.getElem?_eq_getElem hkk)
      have := hat k hkk
      rw [hv] at this
      obtain ⟨hs, hb⟩ := cell_spot this
      have hspot : spot = none := hspot0 (by omega)
      subst hspot
      rw [addr_add, addr_add] at this hb
      exact ⟨v, _, List.getElem?_eq_getElem hkk, by rw [← Nat.add_assoc]; exact this, hc, rfl, hb⟩
    let u : Nat → Nat → Value := fun i k => (w.cell? ⟨b, off + (i * ks.length + k), none⟩).getD undef
    refine ⟨⟨len, 0, len, none, fun i k => (ofScal (u i k)).getD .top⟩, .xsl b off u ⟨h1, ?_⟩ (fun x hx => by cases hx) (by simp) (fun h0 => ?_) (fun h0 i k hi hkk => ?_) (fun h0 i k hi hkk => ?_)⟩
    · have : cap ≤ 2 ^ 63 - 1 := h2
      show len ≤ 9223372036854775807
      omega
    · obtain ⟨v, kk, _, _, _, hs, hb⟩ := hcell 0 0 h0 hpos
      subst hs
      exact ⟨by simp, hb, fun h => h⟩
    · obtain ⟨v, kk, _, hv, _, hs, _⟩ := hcell i k hi hkk
      subst hs
      simp only [u, hv, Option.getD_some]
    · obtain ⟨v, kk, hkk', hv, hc, hs, _⟩ := hcell i k hi hkk
      subst hs
      have hu : u i k = v := by simp only [u, hv, Option.getD_some]
      obtain ⟨x, hx, hcf⟩ := rd_scal (List.all_eq_true.1 hk kk (List.mem_of_getElem? hkk')) hc
      have e : (⟨ks.map tagK, fun i k => (ofScal (u i k)).getD .top⟩ : Get AV).cell i k = x := by
        simp only [Get.cell, hu, hx, Option.getD_some, ckAt_map hkk', hcf]
      rw [e, hu]
      exact ofScal_rel hx
theorem rdL_cons {D : Dec α} {E : DecL β} {v : Value} {cs : List Value} (h : RdV w D v) (k : RdL w E cs) : RdL w (.cons D E) (v :: cs) := by
  obtain ⟨a, ha⟩ := h; obtain ⟨b, hb⟩ := k
  refine ⟨(a, b), ?_⟩
  have := VRs.cons' ha hb
  show VRs w noA noR (D.enc a :: E.enc b) (v :: cs).toArray
  simpa using this
theorem rdL_last {D : Dec α} {v : Value} (h : RdV w D v) : RdL w (.last D 0) [v] := by
  obtain ⟨a, ha⟩ := h
  exact ⟨a, VRs.one ha⟩
theorem okWide_cell {r : Reach} {b : Nat} {t : TypeId} {v : Value} (hu : aggB P t = some false) (h : Value.okWide P w r b t v) : v.cells = #[v] := by
  unfold Value.okWide at h
  unfold aggB at hu
  split at h
  · simp_all
  · simp_all
  · cases v with
    | agg cs =>
      unfold Cell.okWide at h
      split at h <;> try simp_all
      unfold Cell.ok at h
      split at h <;> simp_all
    | _ => rfl
theorem param_cell {n : Nat} {t : TypeId} {k : FK} {r : Reach} {b : Nat} {v : Value} {d : DataW H} {p : List MemPlace} (hf : flat P n t = some [k]) (hu : aggB P t = some false) (hok : Value.okWide P w r b t v) (h : DataW.Trod enc P w 0 (fun _ => true) true t v d p) : CellR enc P w k v := by
  obtain ⟨fuel, hx⟩ := h
  rw [okWide_cell hu hok] at hx
  obtain ⟨v', hv, hc⟩ := (trod_flat n t [k] hf fuel _ _ hx).2 0 k rfl
  simp at hv; subst hv; exact hc
end
theorem law_contract {f : FuncId} {fn : Func} {s : ChangeSpec} {apart fresh handsOn again : Bool} {α : Type} (D : DecL α) (hl : laidOutB P = true) (hts : (fn.params.toList.all fun t => P.readableRec t && decide (t < P.types.size)) = true)
    (hvars : s.vars = []) (hfn : ∀ (ds : List (DataW H)), ds.length = fn.params.toList.length → s.fn H (ds ++ []) = { results := [.lit (.bool true)], args := ds })
    (hres : ∀ (W' : World) (b : Nat) (sp : Nat → Bool) (hd : Bool), DataW.TrodAll enc P W' b sp hd fn.resultTypes.toList ((Value.bool true).resultList fn.resultTypes.size) [.lit (.bool true)] [])
    (hok : ∀ (W' : World) (j : Nat) (t : TypeId) (r : Value), fn.resultTypes[j]? = some t → ((Value.bool true).resultList fn.resultTypes.size)[j]? = some r → Value.okWide P W' .any 0 t r)
    (hread : ∀ (W : World) (base : Nat) (args : Array Value) (ds : List (DataW H)) (p : List MemPlace), (∀ (j : Nat) t v, fn.params[j]? = some t → args[j]? = some v → Value.okWide P W .any base t v) →
      DataW.TrodAll enc P W 0 (fun _ => true) true fn.params.toList args.toList ds p → RdL W D args.toList)
    (hpc : ∀ a, PC P f (D.enc a) (.bool true))
    (W : World) (base : Nat) (args : Array Value) (ds gs : List (DataW H)) (before : List MemPlace) (hval : ∀ (j : Nat) t v, fn.params[j]? = some t → args[j]? = some v → Value.okWide P W .any base t v)
    (hW : DataW.Whole enc P fn.params.toList s.vars apart W args.toList ds gs before) :
    Calls P f args W fun e W' => ∃ v, e = .returned v ∧ s.post enc P fn apart fresh handsOn again W args v W' := by
  have hW' := hW
  obtain ⟨p, q, hA, hV, hbef, hfz, hnd⟩ := hW
  have hV' := hV
  rw [hvars] at hV'
  obtain ⟨rfl, rfl⟩ := trodVars_none hV'
  obtain ⟨a, ha⟩ := hread W base args ds p hval hA
  have h := callsIn_wide.1 (hpc a none 0 noA W args (fun b hb => hb.elim) (by simpa using ha))
  have hlen : ds.length = fn.params.toList.length := by
    have : ∀ (ts : List TypeId) (vs : List Value) (ds : List (DataW H)) (p : List MemPlace), DataW.TrodAll enc P W 0 (fun _ => true) true ts vs ds p → ds.length = ts.length := by
      intro ts
      induction ts with
      | nil => intro vs ds p h; obtain ⟨_, rfl, _⟩ := trodAll_nil h; rfl
      | cons t ts ih =>
        intro vs ds p h
        obtain ⟨_, _, _, _, _, _, _, rfl, _, _, h2⟩ := trodAll_cons h
        simp [ih _ _ _ h2]
    exact this _ _ _ _ hA
  refine h.mono fun e W' hx => ?_
  obtain ⟨v, he, hv, hb0⟩ := hx
  have hb := hb0.toBelow
  obtain rfl : v = .bool true := by cases hv; rfl
  have hpl : before = p := by rw [hbef]; simp
  subst hpl
  refine ⟨_, he, post_of_below (pa := before) (pv := []) hW' (fun b sp hd => ?_) (fun sp hsp => ?_) (fun sp _ => ?_) (by simp) hb (hok W')⟩
  · rw [hfn ds hlen]; exact hres W' b sp hd
  · rw [hfn ds hlen]
    refine trodAll_stays hl hb (fun t ht => ?_) hA (fun x hx => hA.lt x hx) hsp
    have := List.all_eq_true.1 hts t ht
    simpa using this
  · rw [hfn ds hlen, hvars]; rfl
end
end Go.Proofs.YtelpdkojdfnmiaaGreat.Ev
/-! LR0 -/
namespace Go.Proofs.YtelpdkojdfnmiaaGreat
open Ev K
set_option maxRecDepth 100000
section
variable {H : Type} {enc : TypeId × Value → H} {w : World}
theorem fl_item : flat P 8 73 = some (List.replicate 7 (.int .i64)) := by kernel_rfl
theorem fl_items : flat P 8 29 = some [.sl 73] := by kernel_rfl
theorem ag_items : aggB P 29 = some false := by kernel_rfl
theorem rx_items {v : Value} (h : CellR enc P w (.sl 73) v) : RdV w (dRows rItem) v := by
  obtain ⟨a, ha⟩ := rd_sl fl_item (by kernel_rfl) (by decide) (by decide) h
  exact ⟨decF rItem a.len fun i => a.f (a.row + i), (dRows rItem).ok _ _ rfl _ _ _ _ ha⟩
variable {r : Reach} {b : Nat} {v : Value} {d : DataW H} {p : List MemPlace}
theorem rp_items (hok : Value.okWide P w r b 29 v) (h : DataW.Trod enc P w 0 (fun _ => true) true 29 v d p) : RdV w (dRows rItem) v := rx_items (param_cell fl_items ag_items hok h)
end
end Go.Proofs.YtelpdkojdfnmiaaGreat
/-! LGr -/
namespace Go.Proofs
open Go.Shelf
def Tryz.growI_ren : Go.Shelf.Ren := ⟨fun | 4 => 118 | n => n, fun | 22 => 29 | 25 => 73 | n => n, fun n => n⟩
theorem Tryz.growI : Lays8.n4 Tryz.prog Tryz.growI_ren := {
  mixed := by kernel_rfl
  f4 := ⟨Tryz.f118.name, by decide, Tryz.func118.trans (congrArg some (by kernel_rfl))⟩
  t0 := Tryz.underlying0
  a0 := Tryz.isAgg0
  z0 := Tryz.sizeOf0
  v0 := Tryz.zeroValue0
  t3 := Tryz.underlying3
  a3 := Tryz.isAgg3
  z3 := Tryz.sizeOf3
  v3 := Tryz.zeroValue3
  t4 := Tryz.underlying4
  a4 := Tryz.isAgg4
  z4 := Tryz.sizeOf4
  v4 := Tryz.zeroValue4
  t9 := Tryz.underlying9
  a9 := Tryz.isAgg9
  z9 := Tryz.sizeOf9
  v9 := Tryz.zeroValue9
  t20 := Tryz.underlying20
  a20 := Tryz.isAgg20
  z20 := Tryz.sizeOf20
  v20 := Tryz.zeroValue20
  t22 := Tryz.underlying29
  a22 := Tryz.isAgg29
  z22 := Tryz.sizeOf29
  v22 := Tryz.zeroValue29 }
end Go.Proofs
namespace Go.Proofs.YtelpdkojdfnmiaaGreat
open Ev K Go.Own Go.Shelf
set_option maxRecDepth 100000
namespace Ev
variable {P : Program}
theorem grow_fc {ρ : Go.Shelf.Ren} (L : Lays8.n4 P ρ) {i0 : TypeInfo} {z : Value} (hi0 : P.info? (ρ.t 25) = some i0) (hz0 : i0.zero = some z) (hs0 : 0 < i0.size) (hzs : z.cells.size = i0.size) (hby : i0.bytes ≤ 1000) {n : Nat} (hn : n ≤ 1000000) (g : Get AV) :
    FC P (ρ.f 4) (ρ.t 25) [.nilsl, .int .i64 n] i0.size 0 g := by
  intro ro m A w us hA hus
  obtain ⟨hsz, hval⟩ := hus
  obtain ⟨u1, u2, rfl⟩ : ∃ u1 u2, us = #[u1, u2] := by
    have h : us.toList.length = 2 := by simpa using hsz.symm
    match hl : us.toList, h with
    | [u1, u2], _ => exact ⟨u1, u2, by apply Array.ext'; exact hl⟩
  have h1 := hval 0 _ u1 rfl rfl
  have h2 := hval 1 _ u2 rfl rfl
  cases h1
  cases h2
  apply callsIn_round
  by_cases h0 : n = 0
  · subst h0
    refine (callsIn_wide.2 (Any8.slices_Grow_room L none 0 0 0 w (Nat.le_refl _) (by omega) (by omega) (Nat.le_refl _))).mono ?_
    rintro en w' ⟨rfl, rfl⟩
    exact ⟨0, 0, [], rfl, (fun b hb => by omega), fun _ => ⟨rfl, rfl⟩, ⟨Nat.le_refl _, Nat.zero_le _⟩, hs0, World.ownsRow_nil w' 0 _ _, fun i k hi => absurd hi (Nat.not_lt_zero _), Bel.refl _ _⟩
  · have hb : (0 + n) * i0.bytes ≤ 140737488355328 := Nat.le_trans (Nat.mul_le_mul (show 0 + n ≤ 1000000 by omega) hby) (by decide)
    refine (callsIn_wide.2 (Any8.slices_Grow_grow L i0 z hi0 hz0 hs0 none 0 0 n [] w (Nat.le_refl _) (by omega) hb (by omega) (by simp) (fun _ => rfl) (fun a h => by cases h))).mono ?_
    rintro en w' ⟨rfl, rfl⟩
    have hge := grownCap_ge w (0 + n) 0 (ρ.t 25)
    have hcm : grownCap w (0 + n) 0 (ρ.t 25) ≤ maxLen := grownCap_le_maxLen w (0 + n) 0 (ρ.t 25) (by unfold maxLen; omega)
    simp only [Nat.zero_add] at hge hcm ⊢
    refine ⟨w.heap.size + 1, grownCap w n 0 (ρ.t 25), [], rfl, (fun b hb => by omega), (fun h => by omega), ⟨Nat.zero_le _, Nat.zero_le _⟩, hs0, ⟨by simp, .inr ⟨w.heap.size, _, _, rfl, Nat.zero_le _, heap_alloc_new w.drew _, Nat.zero_le _, hcm, ?_, ?_⟩⟩, fun i k hi => absurd hi (Nat.not_lt_zero _), ?_⟩
    · simp only [Array.size_append, List.size_toArray, size_zeroCells, hzs, List.length_nil, Nat.zero_add, ← Nat.add_mul]
      congr 1
      omega
    · simp
    · exact (Bel.refl w.heap.size w).drew.alloc (Nat.le_refl _) _
def dNilS : Dec Unit where
  enc _ := .nilsl
  dec x := match x with
    | .nilsl => some ()
    | _ => none
  ok x a h w A r v hv := by
    split at h
    · exact hv
    · simp at h
end Ev
def D_grow : DecL Int := .unit dNilS (.last dInt 0)
namespace K
def M_grow (n : Int) : T (List Itm) := .chk (decide (0 ≤ n ∧ n ≤ 1000000)) (.ret [])
theorem grow_f (n : Int) (r : List Itm) (h : (M_grow n).run = some r) : FC P 118 73 (D_grow.enc n) rItem.wd r.length ⟨rItem.tags, encF rItem r⟩ := by
  obtain ⟨g, e⟩ := chk_ret h
  subst e
  have g := of_decide_eq_true g
  obtain ⟨k, rfl⟩ : ∃ k : Nat, n = k := ⟨n.toNat, by omega⟩
  have h1 : szOf P 73 = some 7 := by kernel_rfl
  have h2 : bytesOf P 73 = some 56 := by kernel_rfl
  have h3 : zeroAV P 73 = some (List.replicate 7 (.int .i64 0)) := by kernel_rfl
  obtain ⟨i, hi, hsize⟩ : ∃ i, P.info? 73 = some i ∧ i.size = 7 := by
    cases hi : P.info? 73 with
    | none => simp [szOf, hi] at h1
    | some i => simp [szOf, hi] at h1; exact ⟨i, rfl, h1⟩
  have hby : i.bytes = 56 := by simp [bytesOf, hi] at h2; exact h2
  obtain ⟨z, hz, hzs⟩ : ∃ z, i.zero = some z ∧ z.cells.size = 7 := by
    cases hz : i.zero with
    | none => simp [zeroAV, hi, hz] at h3
    | some z =>
      simp only [zeroAV, hi, hz] at h3
      have := (ofScals_rel (w := default) (A := noA) (r := noR) h3).1
      exact ⟨z, rfl, by simp at this; omega⟩
  have key := grow_fc (P := P) Tryz.growI hi hz (by omega) (by omega) (by omega) (n := k) (by omega) ⟨rItem.tags, encF rItem []⟩
  rw [hsize] at key
  exact key
end K
end Go.Proofs.YtelpdkojdfnmiaaGreat
/-! LP0 -/
namespace Go.Proofs.YtelpdkojdfnmiaaGreat
open Ev K
open Go.Sort Go.Proofs
set_option maxRecDepth 100000
namespace K
def ltK (x y : Itm) : Prop := x.known < y.known ∨ x.known = y.known ∧ x.id < y.id
instance (x y : Itm) : Decidable (ltK x y) := by unfold ltK; infer_instance
theorem sortI_spec (l : List Itm) : (sortI l).Perm l ∧ (sortI l).Pairwise fun x y => ¬ ltK y x := by
  obtain ⟨h1, h2⟩ := sortF_spec swoI l
  exact ⟨h1, h2.imp fun h => by rw [ltI, decide_eq_false_iff_not] at h; exact h⟩
theorem sortB_spec (l : List Bal) : (sortB l).Perm l ∧ (sortB l).Pairwise fun x y => ¬ y.account < x.account := by
  obtain ⟨h1, h2⟩ := sortF_spec swoB l
  exact ⟨h1, h2.imp fun h => by rw [ltB, decide_eq_false_iff_not] at h; exact h⟩
theorem uniq_of {α : Type} {R : α → α → Prop} (has : ∀ a b, R a b → R b a → False) : ∀ {l l' : List α}, l.Pairwise R → l'.Pairwise R → (∀ x, x ∈ l ↔ x ∈ l') → l = l'
  | [], [], _, _, _ => rfl
  | [], y :: t, _, _, h => by have := (h y).2 (List.mem_cons_self ..); cases this
  | x :: t, [], _, _, h => by have := (h x).1 (List.mem_cons_self ..); cases this
  | x :: t, y :: t', h1, h2, h => by
    have a1 := List.pairwise_cons.1 h1
    have a2 := List.pairwise_cons.1 h2
    have e : x = y := Classical.byContradiction fun hne => by
      have hx := (h x).1 (List.mem_cons_self ..)
      have hy := (h y).2 (List.mem_cons_self ..)
      rcases List.mem_cons.1 hx with e | hx
      · exact hne e
      rcases List.mem_cons.1 hy with e | hy
      · exact hne e.symm
      exact has _ _ (a1.1 y hy) (a2.1 x hx)
    subst e
    congr 1
    refine uniq_of has a1.2 a2.2 fun z => ⟨fun hz => ?_, fun hz => ?_⟩
    · rcases List.mem_cons.1 ((h z).1 (List.mem_cons_of_mem _ hz)) with e | h3
      · subst e; exact (has _ _ (a1.1 z hz) (a1.1 z hz)).elim
      · exact h3
    · rcases List.mem_cons.1 ((h z).2 (List.mem_cons_of_mem _ hz)) with e | h3
      · subst e; exact (has _ _ (a2.1 z hz) (a2.1 z hz)).elim
      · exact h3
theorem ltK_as (a b : Itm) (h1 : ltK a b) (h2 : ltK b a) : False := by unfold ltK at *; omega
theorem ltK_tr {a b c : Itm} (h1 : ltK a b) (h2 : ltK b c) : ltK a c := by unfold ltK at *; omega
def One (l : List Itm) : Prop := ∀ x ∈ l, ∀ y ∈ l, x.id = y.id → x = y
theorem One.sub {l l' : List Itm} (h : One l) (hs : ∀ x ∈ l', x ∈ l) : One l' := fun x hx y hy => h x (hs x hx) y (hs y hy)
theorem cp_sorted {l : List Itm} (ho : One l) (hs : l.Pairwise fun x y => ¬ ltK y x) : (cp l).Pairwise ltK ∧ ∀ x, x ∈ cp l ↔ x ∈ l := by
  have key : ∀ (l acc : List Itm), One (acc ++ l) → (acc ++ l).Pairwise (fun x y => ¬ ltK y x) → acc.Pairwise ltK → (l.foldl cpi acc).Pairwise ltK ∧ ∀ x, x ∈ l.foldl cpi acc ↔ x ∈ acc ∨ x ∈ l := by
    intro l
    induction l with
    | nil => intro acc _ _ h; exact ⟨h, fun x => by simp⟩
    | cons x l ih =>
      intro acc ho hs ha
      rw [List.foldl_cons]
      by_cases hx : acc.getLast? = some x
      · have e : cpi acc x = acc := if_pos hx
        have hm : x ∈ acc := List.mem_of_getLast? hx
        rw [e]
        obtain ⟨h1, h2⟩ := ih acc (ho.sub fun y hy => by rcases List.mem_append.1 hy with h | h; exact List.mem_append_left _ h; exact List.mem_append_right _ (List.mem_cons_of_mem _ h))
          (hs.sublist (List.Sublist.append_left (List.sublist_cons_self _ _) _)) ha
        refine ⟨h1, fun y => (h2 y).trans ⟨fun h => ?_, fun h => ?_⟩⟩
        · rcases h with h | h; exact .inl h; exact .inr (List.mem_cons_of_mem _ h)
        · rcases h with h | h
          · exact .inl h
          · rcases List.mem_cons.1 h with e | h
            · subst e; exact .inl hm
            · exact .inr h
      · have e : cpi acc x = acc ++ [x] := if_neg hx
        rw [e]
        have hs2 : ((acc ++ [x]) ++ l).Pairwise (fun x y => ¬ ltK y x) := by rw [List.append_assoc]; exact hs
        have hp : (acc ++ [x]).Pairwise ltK := by
          refine List.pairwise_append.2 ⟨ha, List.pairwise_singleton .., fun y hy z hz => ?_⟩
          simp only [List.mem_singleton] at hz; subst hz
          have h3 := (List.pairwise_append.1 hs).2.2 y hy z (List.mem_cons_self ..)
          have hne : y.id = z.id → False := by
            intro hid
            have hyz : y = z := ho y (List.mem_append_left _ hy) z (List.mem_append_right _ (List.mem_cons_self ..)) hid
            subst hyz
            obtain ⟨w, hw⟩ : ∃ w, acc.getLast? = some w := by
              cases h : acc.getLast? with
              | none => rw [List.getLast?_eq_none_iff] at h; subst h; cases hy
              | some w => exact ⟨w, rfl⟩
            have hwm : w ∈ acc := List.mem_of_getLast? hw
            have hwx := (List.pairwise_append.1 hs).2.2 w hwm y (List.mem_cons_self ..)
            obtain ⟨L, hL⟩ := List.getLast?_eq_some_iff.1 hw
            rw [hL] at hy ha
            rcases List.mem_append.1 hy with h | h
            · exact hwx ((List.pairwise_append.1 ha).2.2 y h w (by simp))
            · simp only [List.mem_singleton] at h; subst h; exact hx hw
          have hne' : y.id ≠ z.id := hne
          show ltK y z
          unfold ltK at h3 ⊢
          omega
        obtain ⟨h1, h2⟩ := ih (acc ++ [x]) (ho.sub fun y hy => by rw [List.append_assoc] at hy; exact hy) hs2 hp
        exact ⟨h1, fun y => (h2 y).trans (by simp [or_assoc])⟩
  obtain ⟨h1, h2⟩ := key l [] (by simpa using ho) (by simpa using hs) List.Pairwise.nil
  exact ⟨h1, fun x => (h2 x).trans (by simp)⟩
theorem srt_sorted {l : List Itm} (ho : One l) : (srt l).Pairwise ltK ∧ ∀ x, x ∈ srt l ↔ x ∈ l := by
  obtain ⟨h1, h2⟩ := sortI_spec l
  obtain ⟨h3, h4⟩ := cp_sorted (ho.sub fun x hx => h1.mem_iff.1 hx) h2
  exact ⟨h3, fun x => (h4 x).trans h1.mem_iff⟩
theorem srt_unique {l l' : List Itm} (ho : One l) (h : l'.Pairwise ltK) (hm : ∀ x, x ∈ l' ↔ x ∈ l) : srt l = l' := by
  obtain ⟨h3, h4⟩ := srt_sorted ho
  exact uniq_of ltK_as h3 h fun x => (h4 x).trans (hm x).symm
def insR (l : List Itm) (x : Itm) : List Itm := match l with
  | [] => [x]
  | y :: t => if ltK y x then y :: insR t x else if y = x then y :: t else x :: y :: t
theorem insR_sorted : ∀ {l : List Itm} {x : Itm}, l.Pairwise ltK → One (x :: l) → (insR l x).Pairwise ltK ∧ ∀ z, z ∈ insR l x ↔ z = x ∨ z ∈ l
  | [], x, _, _ => ⟨List.pairwise_singleton .., fun z => by simp [insR]⟩
  | y :: t, x, h, ho => by
    have a := List.pairwise_cons.1 h
    unfold insR
    by_cases h1 : ltK y x
    · rw [if_pos h1]
      obtain ⟨b1, b2⟩ := insR_sorted (x := x) a.2 (ho.sub fun z hz => by rcases List.mem_cons.1 hz with e | hz; exact e ▸ List.mem_cons_self ..; exact List.mem_cons_of_mem _ (List.mem_cons_of_mem _ hz))
      refine ⟨List.pairwise_cons.2 ⟨fun z hz => ?_, b1⟩, fun z => ?_⟩
      · rcases (b2 z).1 hz with e | hz
        · subst e; exact h1
        · exact a.1 z hz
      · simp only [List.mem_cons, b2]
        constructor
        · rintro (h | h | h); exact .inr (.inl h); exact .inl h; exact .inr (.inr h)
        · rintro (h | h | h); exact .inr (.inl h); exact .inl h; exact .inr (.inr h)
    · rw [if_neg h1]
      by_cases h2 : y = x
      · rw [if_pos h2]; subst h2
        exact ⟨h, fun z => by simp⟩
      · rw [if_neg h2]
        have hid : y.id ≠ x.id := fun e => h2 (ho y (by simp) x (by simp) e)
        have hxy : ltK x y := by unfold ltK at *; omega
        refine ⟨List.pairwise_cons.2 ⟨fun z hz => ?_, h⟩, fun z => by simp⟩
        rcases List.mem_cons.1 hz with e | hz
        · subst e; exact hxy
        · exact ltK_tr hxy (a.1 z hz)
def sortedR (l : List Itm) : List Itm := l.foldl insR []
theorem sortedR_eq {l : List Itm} (ho : One l) : sortedR l = srt l := by
  have key : ∀ (l acc : List Itm), acc.Pairwise ltK → One (acc ++ l) → (l.foldl insR acc).Pairwise ltK ∧ ∀ z, z ∈ l.foldl insR acc ↔ z ∈ acc ∨ z ∈ l := by
    intro l
    induction l with
    | nil => intro acc h _; exact ⟨h, fun z => by simp⟩
    | cons x l ih =>
      intro acc h ho
      rw [List.foldl_cons]
      obtain ⟨a, b⟩ := insR_sorted (x := x) h (ho.sub fun z hz => by rcases List.mem_cons.1 hz with e | hz; exact e ▸ List.mem_append_right _ (List.mem_cons_self ..); exact List.mem_append_left _ hz)
      obtain ⟨c, d⟩ := ih (insR acc x) a (ho.sub fun z hz => by
        rcases List.mem_append.1 hz with hz | hz
        · rcases (b z).1 hz with e | hz
          · subst e; exact List.mem_append_right _ (List.mem_cons_self ..)
          · exact List.mem_append_left _ hz
        · exact List.mem_append_right _ (List.mem_cons_of_mem _ hz))
      refine ⟨c, fun z => (d z).trans ?_⟩
      rw [b, List.mem_cons]
      constructor
      · rintro ((h | h) | h); exact .inr (.inl h); exact .inl h; exact .inr (.inr h)
      · rintro (h | h | h); exact .inl (.inr h); exact .inl (.inl h); exact .inr h
  obtain ⟨h1, h2⟩ := key l [] List.Pairwise.nil (by simpa using ho)
  exact (srt_unique ho h1 fun x => (h2 x).trans (by simp)).symm
end K
end Go.Proofs.YtelpdkojdfnmiaaGreat
/-! LIp -/
namespace Go.Proofs.YtelpdkojdfnmiaaGreat
open Ev K
set_option maxRecDepth 100000
namespace K
theorem one_mk {l : List Itm} (h : checkV l = 0) : One l := by
  obtain ⟨_, _, h3⟩ := checkV_ok h
  intro x hx y hy he
  obtain ⟨i, hi, rfl⟩ := List.getElem_of_mem hx
  obtain ⟨j, hj, rfl⟩ := List.getElem_of_mem hy
  rcases Nat.lt_trichotomy i j with hij | hij | hij
  · exact h3 i j _ _ hij (List.getElem?_eq_getElem hi) (List.getElem?_eq_getElem hj) he
  · subst hij; rfl
  · exact (h3 j i _ _ hij (List.getElem?_eq_getElem hj) (List.getElem?_eq_getElem hi) he.symm).symm
def mergeV (a b : List Itm) : List Itm × Int := if checkV a ≠ 0 then ([], checkV a) else if checkV b ≠ 0 then ([], checkV b) else if checkV (a ++ b) ≠ 0 then ([], checkV (a ++ b)) else (srt (a ++ b), 0)
theorem merge_ok {a b : List Itm} : (mergeV a b).2 = 0 ↔ checkV a = 0 ∧ checkV b = 0 ∧ checkV (a ++ b) = 0 := by
  unfold mergeV
  by_cases h1 : checkV a = 0
  · rw [if_neg (fun h => h h1)]
    by_cases h2 : checkV b = 0
    · rw [if_neg (fun h => h h2)]
      by_cases h3 : checkV (a ++ b) = 0
      · rw [if_neg (fun h => h h3)]; exact ⟨fun _ => ⟨h1, h2, h3⟩, fun _ => rfl⟩
      · rw [if_pos h3]; exact ⟨fun h => absurd h h3, fun h => h.2.2⟩
    · rw [if_pos h2]; exact ⟨fun h => absurd h h2, fun h => h.2.1⟩
  · rw [if_pos h1]; exact ⟨fun h => absurd h h1, fun h => h.1⟩
theorem merge_val {a b : List Itm} (h : (mergeV a b).2 = 0) : mergeV a b = (srt (a ++ b), 0) := by
  obtain ⟨h1, h2, h3⟩ := merge_ok.1 h
  unfold mergeV
  rw [if_neg (fun h => h h1), if_neg (fun h => h h2), if_neg (fun h => h h3)]
theorem merge_len (a b : List Itm) : (mergeV a b).1.length ≤ 60 := by
  by_cases h : (mergeV a b).2 = 0
  · rw [merge_val h]
    have := (checkV_ok (merge_ok.1 h).2.2).1
    have := srt_len (a ++ b)
    show (srt (a ++ b)).length ≤ 60
    omega
  · unfold mergeV at h ⊢
    split
    · exact Nat.zero_le _
    · split
      · exact Nat.zero_le _
      · split
        · exact Nat.zero_le _
        · rename_i h1 h2 h3
          rw [if_neg h1, if_neg h2, if_neg h3] at h
          exact absurd rfl h
end K
end Go.Proofs.YtelpdkojdfnmiaaGreat
/-! LIb -/
namespace Go.Proofs.YtelpdkojdfnmiaaGreat
open Ev K
set_option maxRecDepth 100000
namespace Ev
def DecS.frz1 {σ : Type} (t : Nat) (D : DecS σ) : DecS σ where
  enc := D.enc
  dec st := forceS st fun st => match st.env[t]? with
    | some (.osl j _ _) => match freeze j st with
      | some s1 => forceS (prune (List.range s1.env.length) s1) D.dec
      | none => none
    | _ => D.dec st
  ok st s h := by
    rw [forceS_eq] at h
    split at h
    · split at h
      · rename_i hs
        rw [forceS_eq] at h
        exact (freeze_tidy hs).trans ((prune_tidy _ _).trans (D.ok _ _ h))
      · cases h
    · exact D.ok _ _ h
  len st s h := by
    rw [forceS_eq] at h
    split at h
    · split at h
      · rename_i hs
        rw [forceS_eq] at h
        rw [D.len _ _ h, prune_len, (freeze_len hs).1]
      · cases h
    · exact D.len _ _ h
end Ev
noncomputable def BLIb1 : Tab := BLQ02.addTurn 118 (freshE 73 D_grow rItem K.M_grow)
theorem tLIb1 : TabOk P BLIb1 := TabOk.addFC tLQ02 (D := D_grow) (R := rItem) (M := K.M_grow) (K.grow_f)
noncomputable def BLIb2 : Tab := BLIb1.addInl 87
theorem tLIb2 : TabOk P BLIb2 := TabOk.addInl tLIb1
def D_ll := DecL.cons (dRows rItem) (.last (dRows rItem) 0)
def S_mg := DecS.frz1 6 (DecS.mk0 (.cons (dRows rItem) (.cons (dRows rItem) (.skips 4 (.last (dRows rItem) 24)))) .nil)
def X_mg := DecX.one .ret [4, 5] (DecS.mk0 (.skips 4 (.cons (dRows rItem) (.last (dInt) 25))) .nil)
theorem t_mg : ∀ s, (cutT1 P BLIb2 30 53 16 S_mg X_mg) s = T.run (
 let q1 := decF rItem (List.length s.1.2.2) fun i => encF rItem s.1.2.2 ((0 : Nat) + i);
 let q2 := decF rItem (List.length s.1.2.1) fun i => encF rItem s.1.2.1 ((0 : Nat) + i);
 let q3 := decF rItem (List.length s.1.1) fun i => encF rItem s.1.1 ((0 : Nat) + i);
  .br (checkV q3 != (0 : Int)) (
    .ret ((([], checkV q3), PUnit.unit))) (
    .br (checkV q2 != (0 : Int)) (
      .ret ((([], checkV q2), PUnit.unit))) (
      .br (checkV q1 != (0 : Int)) (
        .ret ((([], checkV q1), PUnit.unit))) (
        .chk (decide (List.length q1 ≤ (1000000 : Nat))) <|
        .ret (((decF rItem (List.length (srt q1)) fun i => encF rItem (srt q1) ((0 : Nat) + i), (0 : Int)), PUnit.unit)))))) := fun s => by kernel_rfl
namespace K
def mergeC (a b c : List Itm) : T (List Itm × Int) := .br (checkV a != 0) (.ret ([], checkV a)) (.br (checkV b != 0) (.ret ([], checkV b)) (.br (checkV c != 0) (.ret ([], checkV c)) (.chk (decide (c.length ≤ 1000000)) (.ret (srt c, 0)))))
theorem mg_eq (s : (List Itm × List Itm × List Itm) × Unit) : cutT1 P BLIb2 30 53 16 S_mg X_mg s = ((mergeC s.1.1 s.1.2.1 s.1.2.2).bind fun v => .ret (v, ())).run := by
  obtain ⟨⟨a, b, c⟩, u⟩ := s
  rw [t_mg]
  simp only [Nat.zero_add, decF_encF]
  rfl
end K
noncomputable def BLIb3 : Tab := (BLIb2.addNode 53 16 (nodeE [0, 1, 6] S_mg X_mg (fun s => (K.mergeC s.1.1 s.1.2.1 s.1.2.2).bind fun v => .ret (v, ())))).addCut 53 16
theorem tLIb3 : TabOk P BLIb3 := TabOk.addCut (d := 30) okP tLIb2 (by kernel_rfl) (fun s r h => (K.mg_eq s).trans h)
theorem fn_merge : ∀ a, (callT1 P BLIb3 30 53 D_ll R_ie) a = T.run (
 let q6 := (0 : Nat);
 let q1 := decF rItem (nat_lit 0 + List.length a.1 + List.length a.2) fun i => appG (nat_lit 0 + List.length a.1) (appG (nat_lit 0) (encF rItem []) fun i k => encF rItem a.1 (q6 + i) k) (fun i k => encF rItem a.2 (q6 + i) k) (q6 + i);
 let q5 := (0 : Int);
 let q7 := q5 + (↑(clampL (List.length a.1)) : Int);
 let q2 := IntKind.wrap IntKind.i64 q7 + (↑(clampL (List.length a.2)) : Int);
 let q3 := decF rItem (List.length a.1) fun i => encF rItem a.1 (q6 + i);
 let q4 := decF rItem (List.length a.2) fun i => encF rItem a.2 (q6 + i);
  .br (decide (IntKind.wrap IntKind.i64 q7 < q5)) (
    .fail) (
    .br (decide (IntKind.wrap IntKind.i64 q2 < q5)) (
      .fail) (
      .chk (decide (q5 ≤ IntKind.wrap IntKind.i64 q2 ∧ IntKind.wrap IntKind.i64 q2 ≤ (1000000 : Int))) <|
      .chk (decide ((nat_lit 0 + List.length a.1) * (56 : Nat) ≤ (140737488355328 : Nat) ∧ nat_lit 0 + List.length a.1 ≤ nat_lit 9223372036854775807)) <|
      .chk (decide ((nat_lit 0 + List.length a.1 + List.length a.2) * (56 : Nat) ≤ (140737488355328 : Nat) ∧ nat_lit 0 + List.length a.1 + List.length a.2 ≤ nat_lit 9223372036854775807)) <|
      .br (checkV q3 != q5) (
        .ret ((decF rItem (nat_lit 0) fun i => encF rItem [] (q6 + i), checkV q3))) (
        .br (checkV q4 != q5) (
          .ret ((decF rItem (nat_lit 0) fun i => encF rItem [] (q6 + i), checkV q4))) (
          .br (checkV q1 != q5) (
            .ret ((decF rItem (nat_lit 0) fun i => encF rItem [] (q6 + i), checkV q1))) (
            .chk (decide (List.length q1 ≤ (1000000 : Nat))) <|
            .ret ((decF rItem (List.length (srt q1)) fun i => encF rItem (srt q1) (q6 + i), q5)))))))) := fun a => by kernel_rfl
end Go.Proofs.YtelpdkojdfnmiaaGreat
/-! LW0 -/
namespace Go.Proofs.YtelpdkojdfnmiaaGreat
open Ev K
set_option maxRecDepth 100000
namespace Ev
end Ev
namespace K
end K
section
variable {H : Type} {enc : TypeId × Value → H} {w : World}
variable {r : Reach} {b : Nat} {v : Value} {d : DataW H} {p : List MemPlace}
end
end Go.Proofs.YtelpdkojdfnmiaaGreat
/-! LIc -/
namespace Go.Proofs.YtelpdkojdfnmiaaGreat
open Ev K
set_option maxRecDepth 100000
namespace K
theorem app0 (f g : Nat → Nat → AV) : appG 0 f g = g := by
  funext i
  unfold appG
  rw [show Nat.ble 0 i = true by rw [Nat.ble_eq]; exact Nat.zero_le _, Nat.sub_zero]
theorem app_ab (a b : List Itm) : decF rItem (a.length + b.length) (fun i => appG a.length (appG 0 (encF rItem []) fun i k => encF rItem a i k) (fun i k => encF rItem b i k) i) = a ++ b := by
  rw [app0]
  refine (decF_app rItem a b.length _).trans ?_
  congr 1
  exact decF_encF rItem b
def M_merge (a : List Itm × List Itm) : T (List Itm × Int) := .chk (decide (a.1.length ≤ 1000 ∧ a.2.length ≤ 1000)) (.ret (mergeV a.1 a.2))
theorem merge_pc (a : List Itm × List Itm) (r : List Itm × Int) (h : (M_merge a).run = some r) : PC P 53 (D_ll.enc a) (R_ie.enc r) := by
  obtain ⟨a, b⟩ := a
  obtain ⟨g, e⟩ := chk_ret h
  subst e
  obtain ⟨g1, g2⟩ := of_decide_eq_true g
  simp only at g1 g2
  refine call_of okP tLIb3 ((fn_merge (a, b)).trans ?_)
  have w1 : IntKind.i64.wrap (0 + (a.length : Int)) = (a.length : Int) := by rw [w64_in (by omega) (by omega)]; omega
  have w2 : IntKind.i64.wrap ((a.length : Int) + (b.length : Int)) = ((a.length + b.length : Nat) : Int) := by rw [w64_in (by omega) (by omega)]; rfl
  simp only [clampL_eq (show a.length ≤ maxL by unfold maxL; omega), clampL_eq (show b.length ≤ maxL by unfold maxL; omega), w1, w2, Nat.zero_add, decF_encF, app_ab]
  refine br_f (decide_eq_false (by omega)) (br_f (decide_eq_false (by omega)) (chk_step (decide_eq_true (by omega)) (chk_step (decide_eq_true (by omega)) (chk_step (decide_eq_true (by omega)) ?_))))
  unfold mergeV
  by_cases h1 : checkV a = 0
  · rw [if_neg (fun h => h h1)]
    refine br_f (ne_f h1) ?_
    by_cases h2 : checkV b = 0
    · rw [if_neg (fun h => h h2)]
      refine br_f (ne_f h2) ?_
      by_cases h3 : checkV (a ++ b) = 0
      · rw [if_neg (fun h => h h3)]
        exact br_f (ne_f h3) (chk_step (decide_eq_true (by rw [List.length_append]; omega)) rfl)
      · rw [if_pos h3]; exact br_t (ne_t h3) rfl
    · rw [if_pos h2]; exact br_t (ne_t h2) rfl
  · rw [if_pos h1]; exact br_t (ne_t h1) rfl
end K
set_option maxHeartbeats 0
end Go.Proofs.YtelpdkojdfnmiaaGreat
/-! LP1 -/
namespace Go.Proofs.YtelpdkojdfnmiaaGreat
open Ev K
set_option maxRecDepth 100000
namespace K
@[ext] structure RB where (number day account : Int) (l : List Chg)
  deriving DecidableEq, Inhabited
@[ext] structure RBk where
  closed : Int
  p : List Pst
  refused : List Int
  bills : List RB
  paid : List Bal
  bonds : List Bal
  stands : List Itm
  deriving DecidableEq, Inhabited
def heldB (l : List Bal) (a : Int) : Int := match l.find? fun b => b.account == a with
  | some b => b.amount
  | none => 0
def moreB (l : List Bal) (a m : Int) : List Bal := match l with
  | [] => [⟨a, m⟩]
  | b :: t => if b.account < a then b :: moreB t a m else if b.account = a then ⟨a, b.amount + m⟩ :: t else ⟨a, m⟩ :: b :: t
def addL (l : List Int) (n : Int) : List Int := match l with
  | [] => [n]
  | b :: t => if b < n then b :: addL t n else n :: b :: t
def billR (l : List RB) (n : Int) : Option Nat := l.findIdx? fun b => b.number == n
def badR (b : RBk) (x : Itm) : Bool :=
  if x.kind = 7 then decide (x.day ≤ b.closed) else
  decide (b.closed + 1 > 728) || (decide (x.kind = 1) && (billR b.bills x.bill).isSome) || (decide (x.kind = 2) && !(billR b.bills x.bill).isSome) ||
    (decide (x.kind = 4) && decide (heldB b.paid x.account < x.amount)) || (decide (x.kind = 6) && decide (heldB b.bonds x.account < x.amount))
def twoR (b : RBk) (x : Itm) (day a c m : Int) : RBk := { b with p := b.p ++ [⟨x.id, max day (b.closed + 1), a, m⟩, ⟨x.id, max day (b.closed + 1), c, 0 - m⟩] }
def lastA (l : List Chg) : Int := (l.getLastD default).amount
def doneR (b : RBk) (x : Itm) : RBk :=
  if badR b x then { b with refused := addL b.refused x.id } else
  let b := { b with stands := b.stands ++ [x] }
  if x.kind = 1 then twoR { b with bills := b.bills ++ [⟨x.bill, x.day, x.account, [⟨x.known, x.amount⟩]⟩] } x x.day x.account 2 x.amount
  else if x.kind = 2 then (match billR b.bills x.bill with
    | some q => twoR { b with bills := b.bills.set q { b.bills.getD q default with l := (b.bills.getD q default).l ++ [⟨x.known, x.amount⟩] } } x (b.bills.getD q default).day (b.bills.getD q default).account 2 (x.amount - lastA (b.bills.getD q default).l)
    | none => b)
  else if x.kind = 3 then twoR { b with paid := moreB b.paid x.account x.amount } x x.day 1 x.account x.amount
  else if x.kind = 4 then twoR { b with paid := moreB b.paid x.account (0 - x.amount) } x x.day x.account 1 x.amount
  else if x.kind = 5 then twoR { b with bonds := moreB b.bonds x.account x.amount } x x.day 1 3 x.amount
  else if x.kind = 6 then twoR { b with bonds := moreB b.bonds x.account (0 - x.amount) } x x.day 3 1 x.amount
  else { b with closed := x.day }
def rb0 : RBk := ⟨-1, [], [], [], [], [], []⟩
structure Mp (m : List (Int × Int)) (l : List Bal) : Prop where
  keys : (m.map (·.1)).Nodup
  sorted : l.Pairwise fun x y => x.account < y.account
  mem : ∀ b, b ∈ l ↔ (b.account, b.amount) ∈ m
theorem Mp.nil : Mp [] [] := ⟨List.nodup_nil, List.Pairwise.nil, fun b => by simp⟩
theorem keys_uniq {m : List (Int × Int)} (h : (m.map (·.1)).Nodup) {a v w : Int} (h1 : (a, v) ∈ m) (h2 : (a, w) ∈ m) : v = w := by
  obtain ⟨i, hi, e1⟩ := List.getElem_of_mem h1
  obtain ⟨j, hj, e2⟩ := List.getElem_of_mem h2
  have := (List.getElem_inj (h₀ := by simpa using hi) (h₁ := by simpa using hj) h).1 (by simp [e1, e2])
  subst this; rw [e1] at e2; injection e2
theorem lookM_mem {m : List (Int × Int)} (h : (m.map (·.1)).Nodup) {a v : Int} (h1 : (a, v) ∈ m) : lookM m a = v := by
  unfold lookM
  cases hf : fM m a with
  | none =>
    unfold fM at hf
    rw [List.findIdx?_eq_none_iff] at hf
    have := hf _ h1
    simp at this
  | some i =>
    have hi := fM_some hf
    unfold fM at hf
    rw [List.findIdx?_eq_some_iff_getElem] at hf
    have hk : m[i].1 = a := (beq_iff_eq.1 hf.2.1).symm
    simp only
    rw [List.getD_eq_getElem?_getD, List.getElem?_eq_getElem hi]
    refine keys_uniq h (a := a) ?_ h1
    have : m[i] = (a, m[i].2) := by rw [← hk]
    simp only [Option.getD_some]
    rw [← this]; exact List.getElem_mem hi
theorem lookM_none {m : List (Int × Int)} {a : Int} (h : ∀ v, (a, v) ∉ m) : lookM m a = 0 := by
  unfold lookM
  cases hf : fM m a with
  | none => rfl
  | some i =>
    have hi := fM_some hf
    unfold fM at hf
    rw [List.findIdx?_eq_some_iff_getElem] at hf
    have hk : m[i].1 = a := (beq_iff_eq.1 hf.2.1).symm
    exfalso
    exact h m[i].2 (by rw [← hk]; exact List.getElem_mem hi)
theorem Mp.held {m : List (Int × Int)} {l : List Bal} (h : Mp m l) (a : Int) : heldB l a = lookM m a := by
  unfold heldB
  cases hf : l.find? fun b => b.account == a with
  | none =>
    rw [List.find?_eq_none] at hf
    refine (lookM_none fun v hv => ?_).symm
    have := hf ⟨a, v⟩ ((h.mem _).2 hv)
    simp at this
  | some b =>
    have hb := List.mem_of_find?_eq_some hf
    have he := List.find?_some hf
    simp only [beq_iff_eq] at he
    subst he
    exact (lookM_mem h.keys ((h.mem b).1 hb)).symm
theorem put_mem {m : List (Int × Int)} (h : (m.map (·.1)).Nodup) (n v : Int) (p : Int × Int) : p ∈ putM m n v ↔ p = (n, v) ∨ (p ∈ m ∧ p.1 ≠ n) := by
  unfold putM
  cases hf : fM m n with
  | none =>
    unfold fM at hf
    rw [List.findIdx?_eq_none_iff] at hf
    simp only [List.mem_append, List.mem_singleton]
    constructor
    · rintro (h1 | h1)
      · have := hf p h1
        exact .inr ⟨h1, fun e => by simp [e] at this⟩
      · exact .inl h1
    · rintro (h1 | h1)
      · exact .inr h1
      · exact .inl h1.1
  | some i =>
    have hi := fM_some hf
    unfold fM at hf
    rw [List.findIdx?_eq_some_iff_getElem] at hf
    have hk : m[i].1 = n := (beq_iff_eq.1 hf.2.1).symm
    simp only
    constructor
    · intro hp
      obtain ⟨j, hj, e⟩ := List.getElem_of_mem hp
      rw [List.length_set] at hj
      rw [List.getElem_set] at e
      split at e
      · exact .inl e.symm
      · rename_i hne
        refine .inr ⟨e ▸ List.getElem_mem hj, fun e2 => hne ?_⟩
        exact (List.getElem_inj (h₀ := by simpa using hi) (h₁ := by simpa using hj) h).1 (by simp [hk, e, e2])
    · rintro (e | ⟨hp, hne⟩)
      · subst e; exact List.mem_set hi _
      · obtain ⟨j, hj, e⟩ := List.getElem_of_mem hp
        have hij : i ≠ j := fun e2 => by subst e2; exact hne (by rw [← e]; exact hk)
        have : (m.set i (n, v))[j]'(by simpa using hj) = p := by rw [List.getElem_set_ne hij]; exact e
        rw [← this]; exact List.getElem_mem _
theorem moreB_mem : ∀ {l : List Bal} {a m : Int}, l.Pairwise (fun x y => x.account < y.account) → (moreB l a m).Pairwise (fun x y => x.account < y.account) ∧ ∀ b, b ∈ moreB l a m ↔ b = ⟨a, heldB l a + m⟩ ∨ (b ∈ l ∧ b.account ≠ a)
  | [], a, m, _ => ⟨List.pairwise_singleton .., fun b => by simp [moreB, heldB]⟩
  | c :: t, a, m, h => by
    have hh := List.pairwise_cons.1 h
    unfold moreB
    by_cases h1 : c.account < a
    · rw [if_pos h1]
      obtain ⟨b1, b2⟩ := moreB_mem (a := a) (m := m) hh.2
      have he : heldB (c :: t) a = heldB t a := by
        unfold heldB; rw [List.find?_cons_of_neg (by simp; omega)]
      refine ⟨List.pairwise_cons.2 ⟨fun z hz => ?_, b1⟩, fun b => ?_⟩
      · rcases (b2 z).1 hz with e | hz
        · subst e; exact h1
        · exact hh.1 z hz.1
      · rw [he, List.mem_cons, b2, List.mem_cons]
        constructor
        · rintro (e | e | e)
          · subst e; exact .inr ⟨.inl rfl, by omega⟩
          · exact .inl e
          · exact .inr ⟨.inr e.1, e.2⟩
        · rintro (e | ⟨e | e, h2⟩)
          · exact .inr (.inl e)
          · exact .inl e
          · exact .inr (.inr ⟨e, h2⟩)
    · rw [if_neg h1]
      by_cases h2 : c.account = a
      · rw [if_pos h2]
        have he : heldB (c :: t) a = c.amount := by
          unfold heldB; rw [List.find?_cons_of_pos (by simpa using h2)]
        refine ⟨List.pairwise_cons.2 ⟨fun z hz => by have := hh.1 z hz; show a < _; omega, hh.2⟩, fun b => ?_⟩
        rw [he, List.mem_cons, List.mem_cons]
        constructor
        · rintro (e | e)
          · exact .inl e
          · exact .inr ⟨.inr e, by have := hh.1 b e; omega⟩
        · rintro (e | ⟨e | e, h3⟩)
          · exact .inl e
          · subst e; exact absurd h2 h3
          · exact .inr e
      · rw [if_neg h2]
        have he : heldB (c :: t) a = 0 := by
          unfold heldB
          rw [List.find?_eq_none.2]
          intro b hb
          rcases List.mem_cons.1 hb with e | hb
          · subst e; simpa using h2
          · have := hh.1 b hb; simp; omega
        refine ⟨List.pairwise_cons.2 ⟨fun z hz => ?_, h⟩, fun b => ?_⟩
        · rcases List.mem_cons.1 hz with e | hz
          · subst e; show a < _; omega
          · have := hh.1 z hz; show a < _; omega
        · rw [he, Int.zero_add, List.mem_cons]
          constructor
          · rintro (e | e)
            · exact .inl e
            · refine .inr ⟨e, ?_⟩
              rcases List.mem_cons.1 e with e | e
              · subst e; exact h2
              · have := hh.1 b e; omega
          · rintro (e | e)
            · exact .inl e
            · exact .inr e.1
theorem Mp.more {m : List (Int × Int)} {l : List Bal} (h : Mp m l) (a v w : Int) (hw : w = lookM m a + v) : Mp (putM m a w) (moreB l a v) := by
  subst hw
  obtain ⟨h1, h2⟩ := moreB_mem (a := a) (m := v) h.sorted
  refine ⟨nodup_put h.keys, h1, fun b => ?_⟩
  rw [h2, put_mem h.keys, h.held, h.mem]
  constructor
  · rintro (e | e)
    · subst e; exact .inl rfl
    · exact .inr e
  · rintro (e | e)
    · injection e with e1 e2; exact .inl (Bal.ext e1 e2)
    · exact .inr e
theorem Mp.list {m : List (Int × Int)} {l : List Bal} (h : Mp m l) : listB m = l := by
  obtain ⟨h1, h2⟩ := sortB_spec (m.map balOf)
  have hk : (listB m).Pairwise fun x y => x.account < y.account := by
    have hn : ((listB m).map (·.account)).Nodup := by
      refine (h1.map _).nodup_iff.2 ?_
      rw [List.map_map]; exact h.keys
    have := (List.pairwise_map.1 hn).and h2
    exact this.imp fun ⟨a, b⟩ => by omega
  refine uniq_of (R := fun x y : Bal => x.account < y.account) (fun a b h1 h2 => by omega) hk h.sorted fun b => ?_
  rw [h.mem]
  refine h1.mem_iff.trans ?_
  rw [List.mem_map]
  constructor
  · rintro ⟨p, hp, rfl⟩; exact hp
  · intro hp; exact ⟨_, hp, rfl⟩
theorem addL_spec : ∀ {l : List Int} {n : Int}, l.Pairwise (· ≤ ·) → (addL l n).Pairwise (· ≤ ·) ∧ (addL l n).Perm (l ++ [n])
  | [], n, _ => ⟨List.pairwise_singleton .., List.Perm.refl _⟩
  | b :: t, n, h => by
    have hh := List.pairwise_cons.1 h
    unfold addL
    by_cases h1 : b < n
    · rw [if_pos h1]
      obtain ⟨a1, a2⟩ := addL_spec (n := n) hh.2
      refine ⟨List.pairwise_cons.2 ⟨fun z hz => ?_, a1⟩, a2.cons b⟩
      rcases List.mem_append.1 (a2.mem_iff.1 hz) with hz | hz
      · exact hh.1 z hz
      · simp only [List.mem_singleton] at hz; omega
    · rw [if_neg h1]
      refine ⟨List.pairwise_cons.2 ⟨fun z hz => ?_, h⟩, List.perm_append_comm (l₁ := [n])⟩
      rcases List.mem_cons.1 hz with e | hz
      · omega
      · have := hh.1 z hz; omega
def rbOf (b : Std × List Chg) : RB := ⟨b.1.no, b.1.item.day, b.1.item.account, b.2⟩
structure Rel (k : Bk) (b : RBk) : Prop where
  closed : b.closed = k.closed
  p : b.p = k.posts
  refused : b.refused.Pairwise (· ≤ ·) ∧ b.refused.Perm k.refused
  bills : b.bills = k.bills.map rbOf
  last : ∀ s ∈ k.bills, lastA s.2 = s.1.amount ∧ (0 ≤ s.1.item.day ∧ s.1.item.day ≤ 728)
  paid : Mp k.paid b.paid
  bonds : Mp k.bonds b.bonds
  stands : b.stands = k.taken
  low : -1 ≤ k.closed
theorem Rel.zero : Rel bk0 rb0 := ⟨rfl, rfl, ⟨List.Pairwise.nil, List.Perm.refl _⟩, rfl, (fun s h => by cases h), Mp.nil, Mp.nil, rfl, by decide⟩
theorem Rel.refuse {k : Bk} {b : RBk} (h : Rel k b) (x : Itm) : Rel (refuse k x) { b with refused := addL b.refused x.id } := by
  obtain ⟨a1, a2⟩ := addL_spec (n := x.id) h.refused.1
  exact ⟨h.closed, h.p, ⟨a1, a2.trans (h.refused.2.append_right _)⟩, h.bills, h.last, h.paid, h.bonds, h.stands, h.low⟩
theorem billR_eq {k : Bk} {b : RBk} (h : Rel k b) (n : Int) : billR b.bills n = fb k n := by
  unfold billR fb
  rw [h.bills, List.findIdx?_map]
  congr 1
  funext s
  show (s.1.no == n) = (n == s.1.no)
  exact Bool.beq_comm
theorem max_on (k : Bk) (b : RBk) (h : Rel k b) (d : Int) : max d (b.closed + 1) = onDay k d := by
  unfold onDay; rw [h.closed]; omega
theorem Rel.done {k : Bk} {b : RBk} (h : Rel k b) {x : Itm} (hx : x.Fm) : Rel (doItem k x) (doneR b x) := by
  have hm := max_on k b h
  have hl := h.low
  have hd := hx.2.2.1
  have hk := hx.2.2.2.2
  have hP : ∀ d, (onDay k d > 728 ↔ (k.closed + 1 > 728 ∨ d > 728)) := fun d => by unfold onDay; split <;> omega
  have hneg : ∀ m : Int, 0 - m = -m := fun m => by omega
  unfold doItem doneR
  by_cases k1 : x.kind = 1
  · rw [if_pos k1]
    have hbad : badR b x = (decide (k.closed + 1 > 728) || (fb k x.bill).isSome) := by
      unfold badR; rw [if_neg (by omega), h.closed, billR_eq h]; simp [k1]
    unfold doBill
    cases hf : fb k x.bill with
    | some q =>
      show Rel (K.refuse k x) _
      rw [if_pos (by rw [hbad, hf]; simp)]; exact h.refuse x
    | none =>
      simp only
      by_cases h7 : onDay k x.day > 728
      · rw [if_pos h7, if_pos (by rw [hbad, hf]; have := (hP x.day).1 h7; simp; omega)]; exact h.refuse x
      · rw [if_neg h7, if_neg (by rw [hbad, hf]; have := mt (hP x.day).2 h7; simp; omega)]
        simp only [k1, if_true]
        refine ⟨h.closed, ?_, h.refused, ?_, fun s hs => ?_, h.paid, h.bonds, ?_, hl⟩
        · simp only [twoR, stand, hm, h.p, hneg]
        · simp only [twoR, h.bills, List.map_append]; rfl
        · rcases List.mem_append.1 hs with hs | hs
          · exact h.last s hs
          · simp only [List.mem_singleton] at hs; subst hs; exact ⟨rfl, hd⟩
        · simp only [twoR, stand, h.stands]
  rw [if_neg k1]
  by_cases k2 : x.kind = 2
  · rw [if_pos k2]
    have hbad : badR b x = (decide (k.closed + 1 > 728) || !(fb k x.bill).isSome) := by
      unfold badR; rw [if_neg (by omega), h.closed, billR_eq h]; simp [k2]
    unfold doMend
    cases hf : fb k x.bill with
    | none =>
      show Rel (K.refuse k x) _
      rw [if_pos (by rw [hbad, hf]; simp)]; exact h.refuse x
    | some q =>
      have hq := fb_some hf
      have hg : k.bills.getD q default = k.bills[q] := by rw [List.getD_eq_getElem?_getD, List.getElem?_eq_getElem hq]; rfl
      have hmem := List.getElem_mem hq
      have hg2 : b.bills.getD q default = rbOf k.bills[q] := by rw [List.getD_eq_getElem?_getD, h.bills, List.getElem?_map, List.getElem?_eq_getElem hq]; rfl
      simp only [hg]
      generalize k.bills[q] = s at hmem hg2
      obtain ⟨e1, e2⟩ := h.last s hmem
      by_cases h7 : onDay k s.1.item.day > 728
      · rw [if_pos h7, if_pos (by rw [hbad, hf]; have := (hP s.1.item.day).1 h7; simp; omega)]; exact h.refuse x
      · rw [if_neg h7, if_neg (by rw [hbad, hf]; have := mt (hP s.1.item.day).2 h7; simp; omega), if_neg k1, if_pos k2]
        have e3 : billR b.bills x.bill = some q := (billR_eq h x.bill).trans hf
        simp only [e3, hg2]
        refine ⟨h.closed, ?_, h.refused, ?_, fun s' hs => ?_, h.paid, h.bonds, ?_, hl⟩
        · simp only [twoR, stand, hm, h.p, hneg, rbOf, e1]
        · simp only [twoR, h.bills, List.map_set]; rfl
        · rcases List.mem_or_eq_of_mem_set hs with hs | hs
          · exact h.last s' hs
          · subst hs; exact ⟨by simp [lastA], e2⟩
        · simp only [twoR, stand, h.stands]
  rw [if_neg k2]
  by_cases k3 : x.kind = 3
  · rw [if_pos k3]
    have hbad : badR b x = decide (k.closed + 1 > 728) := by
      unfold badR; rw [if_neg (by omega), h.closed]; simp [k3]
    unfold doPay
    by_cases h7 : onDay k x.day > 728
    · rw [if_pos h7, if_pos (by rw [hbad]; have := (hP x.day).1 h7; simp; omega)]; exact h.refuse x
    · rw [if_neg h7, if_neg (by rw [hbad]; have := mt (hP x.day).2 h7; simp; omega), if_neg k1, if_neg k2, if_pos k3]
      refine ⟨h.closed, ?_, h.refused, h.bills, h.last, h.paid.more _ _ _ rfl, h.bonds, ?_, hl⟩
      · simp only [twoR, stand, hm, h.p, hneg]
      · simp only [twoR, stand, h.stands]
  rw [if_neg k3]
  by_cases k4 : x.kind = 4
  · rw [if_pos k4]
    have hbad : badR b x = (decide (k.closed + 1 > 728) || decide (lookM k.paid x.account < x.amount)) := by
      unfold badR; rw [if_neg (by omega), h.closed, h.paid.held]; simp [k4]
    unfold doRefund
    by_cases h6 : lookM k.paid x.account < x.amount
    · rw [if_pos h6, if_pos (by rw [hbad]; simp [h6])]; exact h.refuse x
    rw [if_neg h6]
    by_cases h7 : onDay k x.day > 728
    · rw [if_pos h7, if_pos (by rw [hbad]; have := (hP x.day).1 h7; simp; omega)]; exact h.refuse x
    · rw [if_neg h7, if_neg (by rw [hbad]; have := mt (hP x.day).2 h7; simp; omega), if_neg k1, if_neg k2, if_neg k3, if_pos k4]
      refine ⟨h.closed, ?_, h.refused, h.bills, h.last, h.paid.more _ _ _ (by omega), h.bonds, ?_, hl⟩
      · simp only [twoR, stand, hm, h.p, hneg]
      · simp only [twoR, stand, h.stands]
  rw [if_neg k4]
  by_cases k5 : x.kind = 5
  · rw [if_pos k5]
    have hbad : badR b x = decide (k.closed + 1 > 728) := by
      unfold badR; rw [if_neg (by omega), h.closed]; simp [k5]
    unfold doBond
    by_cases h7 : onDay k x.day > 728
    · rw [if_pos h7, if_pos (by rw [hbad]; have := (hP x.day).1 h7; simp; omega)]; exact h.refuse x
    · rw [if_neg h7, if_neg (by rw [hbad]; have := mt (hP x.day).2 h7; simp; omega), if_neg k1, if_neg k2, if_neg k3, if_neg k4, if_pos k5]
      refine ⟨h.closed, ?_, h.refused, h.bills, h.last, h.paid, h.bonds.more _ _ _ rfl, ?_, hl⟩
      · simp only [twoR, stand, hm, h.p, hneg]
      · simp only [twoR, stand, h.stands]
  rw [if_neg k5]
  by_cases k6 : x.kind = 6
  · rw [if_pos k6]
    have hbad : badR b x = (decide (k.closed + 1 > 728) || decide (lookM k.bonds x.account < x.amount)) := by
      unfold badR; rw [if_neg (by omega), h.closed, h.bonds.held]; simp [k6]
    unfold doFree
    by_cases h6 : lookM k.bonds x.account < x.amount
    · rw [if_pos h6, if_pos (by rw [hbad]; simp [h6])]; exact h.refuse x
    rw [if_neg h6]
    by_cases h7 : onDay k x.day > 728
    · rw [if_pos h7, if_pos (by rw [hbad]; have := (hP x.day).1 h7; simp; omega)]; exact h.refuse x
    · rw [if_neg h7, if_neg (by rw [hbad]; have := mt (hP x.day).2 h7; simp; omega), if_neg k1, if_neg k2, if_neg k3, if_neg k4, if_neg k5, if_pos k6]
      refine ⟨h.closed, ?_, h.refused, h.bills, h.last, h.paid, h.bonds.more _ _ _ (by omega), ?_, hl⟩
      · simp only [twoR, stand, hm, h.p, hneg]
      · simp only [twoR, stand, h.stands]
  rw [if_neg k6]
  have k7 : x.kind = 7 := by omega
  have hbad : badR b x = decide (x.day ≤ k.closed) := by
    unfold badR; rw [if_pos k7, h.closed]
  unfold doShut
  by_cases h7 : x.day ≤ k.closed
  · rw [if_pos h7, if_pos (by rw [hbad]; simpa using h7)]; exact h.refuse x
  · rw [if_neg h7, if_neg (by rw [hbad]; simpa using h7), if_neg k1, if_neg k2, if_neg k3, if_neg k4, if_neg k5, if_neg k6]
    exact ⟨rfl, h.p, h.refused, h.bills, h.last, h.paid, h.bonds, by simp [h.stands], by show -1 ≤ x.day; omega⟩
end K
end Go.Proofs.YtelpdkojdfnmiaaGreat
/-! LA0 -/
namespace Go.Proofs.YtelpdkojdfnmiaaGreat
open Ev K
set_option maxRecDepth 100000
def S_rc2 := DecS.mk0 (.cons (dRows rItem) (.skips 2 (.cons (dInt) (.skip (.last (dInt) 43))))) .nil
def X_rc2 := DecX.or (DecX.one (.exit 2) [0, 3] (DecS.mk0 (.cons (dRows rItem) (.skips 2 (.last (dInt) 45))) .nil)) (DecX.one .ret [2] (DecS.mk0 (.skips 2 (.last (dInt) 46)) .nil))
noncomputable def K.st_rc2 := loopT1 P BLQ02 30 56 81 [5, 3, 0] S_rc2 X_rc2
theorem sl_rc2 : ∀ s, (K.st_rc2) s = T.run (
 let q8 := (0 : Nat);
 let q1 := q8 + Int.toNat s.1.2.2;
 let q2 := q8 + Int.toNat s.1.2.1;
 let q7 := s.1.1;
 let q4 := List.length q7;
 let q3 := Sum.inl ((decF rItem q4 fun i => encF rItem q7 (q8 + i), s.1.2.1, IntKind.wrap IntKind.i64 (s.1.2.2 + (1 : Int))), PUnit.unit);
 let q5 := decide ((0 : Int) ≤ s.1.2.2 ∧ s.1.2.2 < (↑q4 : Int));
 let q6 := decide ((0 : Int) ≤ s.1.2.1 ∧ s.1.2.1 < (↑q4 : Int));
  .br (decide (s.1.2.2 < s.1.2.1)) (
    .chk q5 <|
    .chk q6 <|
    .br (numOf (encF rItem q7 q1 (nat_lit 0)) == numOf (encF rItem q7 q2 (nat_lit 0))) (
      .chk q5 <|
      .chk q6 <|
      .br (!(numOf (encF rItem q7 q1 q8) == numOf (encF rItem q7 q2 q8) && (numOf (encF rItem q7 q1 (nat_lit 1)) == numOf (encF rItem q7 q2 (nat_lit 1)) && (numOf (encF rItem q7 q1 (nat_lit 2)) == numOf (encF rItem q7 q2 (nat_lit 2)) && (numOf (encF rItem q7 q1 (nat_lit 3)) == numOf (encF rItem q7 q2 (nat_lit 3)) && (numOf (encF rItem q7 q1 (nat_lit 4)) == numOf (encF rItem q7 q2 (nat_lit 4)) && (numOf (encF rItem q7 q1 (nat_lit 5)) == numOf (encF rItem q7 q2 (nat_lit 5)) && numOf (encF rItem q7 q1 (nat_lit 6)) == numOf (encF rItem q7 q2 (nat_lit 6))))))))) (
        .ret (Sum.inr (Sum.inr ((6 : Int), PUnit.unit)))) (
        .ret q3)) (
      .ret q3)) (
    .ret (Sum.inr (Sum.inl ((decF rItem q4 fun i => encF rItem q7 (q8 + i), s.1.2.1), PUnit.unit))))) := fun s => by kernel_rfl
noncomputable def K.L_rc2 := lim K.st_rc2
noncomputable def BLA01 : Tab := BLQ02.addNode 56 81 (nodeE [5, 3, 0] S_rc2 X_rc2 (fun s => .obs (K.L_rc2 s) .ret))
theorem tLA01 : TabOk P BLA01 := TabOk.addLoop (d := 30) okP tLQ02 (by kernel_rfl) (by kernel_rfl) (fun s r h => obs_ret h)
def S_rc1 := DecS.mk0 (.cons (dRows rItem) (.skips 2 (.last (dInt) 45))) .nil
def X_rc1 := DecX.or (DecX.one (.exit 0) [] (DecS.mk0 (.tops 49) .nil)) (DecX.one .ret [2] (DecS.mk0 (.skips 2 (.last (dInt) 46)) .nil))
noncomputable def K.st_rc1 := loopT1 P BLA01 30 56 33 [3, 0] S_rc1 X_rc1
theorem sl_rc1 : ∀ s, (K.st_rc1) s = T.run (
 let q1 := (0 : Nat) + Int.toNat s.1.2;
 let q2 := List.length s.1.1;
  .br (decide (s.1.2 < (↑(clampL q2) : Int))) (
    .chk (decide ((0 : Int) ≤ s.1.2 ∧ s.1.2 < (↑q2 : Int))) <|
    .br (!r_formed (Itm.mk (numOf (encF rItem s.1.1 q1 (0 : Nat))) (numOf (encF rItem s.1.1 q1 (nat_lit 1))) (numOf (encF rItem s.1.1 q1 (nat_lit 2))) (numOf (encF rItem s.1.1 q1 (nat_lit 3))) (numOf (encF rItem s.1.1 q1 (nat_lit 4))) (numOf (encF rItem s.1.1 q1 (nat_lit 5))) (numOf (encF rItem s.1.1 q1 (nat_lit 6))))) (
      .ret (Sum.inr (Sum.inr ((1 : Int), PUnit.unit)))) (
      .obs (L_rc2 ((decF rItem q2 fun i => encF rItem s.1.1 ((0 : Nat) + i), s.1.2, (0 : Int)), PUnit.unit)) fun x0 =>
        .sum (x0) (fun x1 =>
          .ret (Sum.inl ((decF rItem (List.length x1.1.1) fun i => encF rItem x1.1.1 ((0 : Nat) + i), IntKind.wrap IntKind.i64 (x1.1.2 + (1 : Int))), PUnit.unit))) (fun x1 =>
          .ret (Sum.inr (Sum.inr (x1.1, PUnit.unit)))))) (
    .ret (Sum.inr (Sum.inl (PUnit.unit, PUnit.unit))))) := fun s => by kernel_rfl
noncomputable def K.L_rc1 := lim K.st_rc1
noncomputable def BLA02 : Tab := BLA01.addNode 56 33 (nodeE [3, 0] S_rc1 X_rc1 (fun s => .obs (K.L_rc1 s) .ret))
theorem tLA02 : TabOk P BLA02 := TabOk.addLoop (d := 30) okP tLA01 (by kernel_rfl) (by kernel_rfl) (fun s r h => obs_ret h)
theorem fn_rcheck : ∀ a, (callT1 P BLA02 30 56 D_l dInt) a = T.run (
  .br (decide ((↑(clampL (List.length a)) : Int) > (60 : Int))) (
    .ret ((2 : Int))) (
    .obs (L_rc1 ((decF rItem (List.length a) fun i => encF rItem a ((0 : Nat) + i), (0 : Int)), PUnit.unit)) fun x0 =>
      .sum (x0) (fun _ =>
        .ret ((0 : Int))) (fun x1 =>
        .ret x1.1))) := fun a => by kernel_rfl
namespace K
theorem L_rc2_eq (l : List Itm) (hl : l.length ≤ 1000) (i : Nat) (x : Itm) (hx : l[i]? = some x) : L_rc2 ((l, (i : Int), 0), ()) = some (if (l.take i).any (fun y => decide (y.id = x.id ∧ y ≠ x)) then .inr (6, ()) else .inl ((l, (i : Int)), ())) := by
  obtain ⟨hi, _⟩ := List.getElem?_eq_some_iff.1 hx
  rw [any_first]
  have hlen : (l.take i).length = i := by rw [List.length_take]; omega
  rw [hlen]
  have get : ∀ j, j < i → (l.take i)[j]? = l[j]? := fun j hj => List.getElem?_take_of_lt hj
  refine (lim_find (fun j : Nat => ((l, (i : Int), (j : Int)), ())) i (pIx (l.take i) x) (fun _ => .inr (6, ())) (.inl ((l, (i : Int)), ())) (fun j hj hp => ?_) (fun j hj hp => ?_) ?_).trans ?_
  · rw [sl_rc2]
    have hy := List.getElem?_eq_getElem (show j < l.length by omega)
    unfold pIx at hp; rw [get j hj, hy] at hp
    generalize l[j] = y at hy hp
    simp only [decide_eq_true_eq] at hp
    simp only [Int.toNat_natCast, Nat.zero_add, item_at hy, item_at hx, wr0, wr1, wr2, wr3, wr4, wr5, wr6, decF_encF]
    refine br_t (decide_eq_true (by omega)) (chk_step (decide_eq_true (by omega)) (chk_step (decide_eq_true (by omega)) (br_t (beq_iff_eq.2 hp.1) (chk_step (decide_eq_true (by omega)) (chk_step (decide_eq_true (by omega)) (br_t ?_ rfl))))))
    rw [Bool.not_eq_true', ← Bool.not_eq_true]; exact fun h => hp.2 ((sameI_iff y x).1 h)
  · rw [sl_rc2]
    have hy := List.getElem?_eq_getElem (show j < l.length by omega)
    unfold pIx at hp; rw [get j hj, hy] at hp
    generalize l[j] = y at hy hp
    simp only [decide_eq_false_iff_not] at hp
    have w : IntKind.i64.wrap ((j : Int) + 1) = ((j + 1 : Nat) : Int) := by rw [w64_in (by omega) (by omega)]; rfl
    simp only [Int.toNat_natCast, Nat.zero_add, item_at hy, item_at hx, wr0, wr1, wr2, wr3, wr4, wr5, wr6, decF_encF, w]
    refine br_t (decide_eq_true (by omega)) (chk_step (decide_eq_true (by omega)) (chk_step (decide_eq_true (by omega)) ?_))
    by_cases he : y.id = x.id
    · have hxy : y = x := Classical.byContradiction fun hne => hp ⟨he, hne⟩
      exact br_t (beq_iff_eq.2 he) (chk_step (decide_eq_true (by omega)) (chk_step (decide_eq_true (by omega)) (br_f (by rw [Bool.not_eq_false']; exact (sameI_iff y x).2 hxy) rfl)))
    · exact br_f (by rw [beq_eq_false_iff_ne]; exact he) rfl
  · rw [sl_rc2]
    simp only [Nat.zero_add, decF_encF]
    exact br_f (decide_eq_false (by omega)) rfl
  · cases first (pIx (l.take i) x) i <;> rfl
theorem L_rc1_eq (l : List Itm) (hl : l.length ≤ 1000) : L_rc1 ((l, 0), ()) = some (match (List.range l.length).findSome? (errAt l) with
    | some e => .inr (e, ())
    | none => .inl ((), ())) := by
  refine (lim_err (fun i : Nat => ((l, (i : Int)), ())) l.length (errAt l) (fun e => .inr (e, ())) (.inl ((), ())) (fun i hi => ?_) ?_).trans ?_
  · rw [sl_rc1]
    have hy := List.getElem?_eq_getElem hi
    unfold errAt; rw [hy]
    generalize l[i] = x at hy
    have hid : (⟨x.id, x.known, x.kind, x.day, x.bill, x.account, x.amount⟩ : Itm) = x := rfl
    have w : IntKind.i64.wrap ((i : Int) + 1) = ((i + 1 : Nat) : Int) := by rw [w64_in (by omega) (by omega)]; rfl
    simp only [Int.toNat_natCast, Nat.zero_add, item_at hy, wr0, wr1, wr2, wr3, wr4, wr5, wr6, decF_encF, hid, clampL_eq (show l.length ≤ maxL by unfold maxL; omega)]
    refine br_t (decide_eq_true (by omega)) (chk_step (decide_eq_true (by omega)) ?_)
    by_cases hf : x.Fm
    · refine br_f (by rw [Bool.not_eq_false']; exact (r_formed_iff x).2 hf) ?_
      rw [if_pos hf]
      refine obs_step (L_rc2_eq l hl i x hy) ?_
      by_cases ha : (l.take i).any (fun y => decide (y.id = x.id ∧ y ≠ x)) = true
      · rw [if_pos ha, if_pos ha]; rfl
      · rw [if_neg ha, if_neg ha]
        refine (T.run_inl _ _ _).trans ?_
        simp only [w]; rfl
    · rw [if_neg hf]
      exact br_t (by rw [Bool.not_eq_true', ← Bool.not_eq_true]; exact fun h => hf ((r_formed_iff x).1 h)) rfl
  · rw [sl_rc1]
    simp only [clampL_eq (show l.length ≤ maxL by unfold maxL; omega)]
    exact br_f (decide_eq_false (by omega)) rfl
  · cases (List.range l.length).findSome? (errAt l) <;> rfl
theorem rcheck_eq (l : List Itm) : callT1 P BLA02 30 56 D_l dInt l = some (checkV l) := by
  rw [fn_rcheck]
  unfold checkV
  by_cases h : l.length > 60
  · rw [if_pos h]
    refine br_t (decide_eq_true ?_) rfl
    unfold clampL maxL; split <;> omega
  · rw [if_neg h]
    simp only [clampL_eq (show l.length ≤ maxL by unfold maxL; omega), Nat.zero_add, decF_encF]
    refine br_f (decide_eq_false (by omega)) ?_
    refine obs_step (L_rc1_eq l (by omega)) ?_
    cases (List.range l.length).findSome? (errAt l) <;> rfl
end K
noncomputable def BLA03 : Tab := BLA02.addCall 56 (callE D_l dInt (fun a => .ret (K.checkV a)))
theorem tLA03 : TabOk P BLA03 := TabOk.addPC tLA02 (fun a r h => by rw [← ret_some h]; exact call_of okP tLA02 (K.rcheck_eq a))
theorem fn_r_ahead : ∀ a, (callT1 P BLA03 30 107 D_itm2 dB) a = T.run (
  .br (decide (Itm.known a.1 < Itm.known a.2)) (
    .ret (true)) (
    .br (Itm.known a.1 == Itm.known a.2) (
      .ret (decide (Itm.id a.1 < Itm.id a.2))) (
      .ret (false)))) := fun a => by kernel_rfl
noncomputable def K.r_ahead (a : Itm × Itm) : Bool := (if (decide (Itm.known a.1 < Itm.known a.2)) = true then true else (if (Itm.known a.1 == Itm.known a.2) = true then decide (Itm.id a.1 < Itm.id a.2) else false))
theorem eq_r_ahead (a : Itm × Itm) : (callT1 P BLA03 30 107 D_itm2 dB) a = some (K.r_ahead a) := (fn_r_ahead a).trans (T.br_some rfl (T.br_some rfl rfl))
noncomputable def BLA04 : Tab := BLA03.addCall 107 (callE D_itm2 dB (fun a => .ret (K.r_ahead a)))
theorem tLA04 : TabOk P BLA04 := TabOk.addFn (d := 30) okP tLA03 (fun a r h => by rw [eq_r_ahead]; exact congrArg some (ret_some h))
def S_rs2 := DecS.mk0 (.cons (dRows rItem) (.skips 2 (.cons (dO 0) (.cons (dInt) (.last (dInt) 54))))) (.rows 73 rItem .nil)
def X_rs2 := DecX.one (.exit 2) [0, 3, 4, 5] (DecS.mk0 (.cons (dRows rItem) (.skips 2 (.cons (dO 0) (.cons (dInt) (.last (dInt) 54))))) (.rows 73 rItem .nil))
noncomputable def K.st_rs2 := loopT1 P BLA04 30 72 49 [5, 3, 0, 4] S_rs2 X_rs2
theorem sl_rs2 : ∀ s, (K.st_rs2) s = T.run (
 let q1 := (0 : Nat) + Int.toNat s.1.2.2.1;
 let q4 := List.length s.1.1;
 let q2 := Sum.inr ((decF rItem q4 fun i => encF rItem s.1.1 ((0 : Nat) + i), s.1.2), decF rItem (List.length s.2.1) (encF rItem s.2.1), PUnit.unit);
 let q3 := Int.toNat s.1.2.2.2;
  .br (decide (s.1.2.2.2 < (↑s.1.2.1 : Int))) (
    .chk (decide ((0 : Int) ≤ s.1.2.2.2 ∧ s.1.2.2.2 < (↑s.1.2.1 : Int))) <|
    .chk (decide ((0 : Int) ≤ s.1.2.2.1 ∧ s.1.2.2.1 < (↑q4 : Int))) <|
    .br (r_ahead (Itm.mk (numOf (encF rItem s.2.1 q3 (0 : Nat))) (numOf (encF rItem s.2.1 q3 (nat_lit 1))) (numOf (encF rItem s.2.1 q3 (nat_lit 2))) (numOf (encF rItem s.2.1 q3 (nat_lit 3))) (numOf (encF rItem s.2.1 q3 (nat_lit 4))) (numOf (encF rItem s.2.1 q3 (nat_lit 5))) (numOf (encF rItem s.2.1 q3 (nat_lit 6))), Itm.mk (numOf (encF rItem s.1.1 q1 (0 : Nat))) (numOf (encF rItem s.1.1 q1 (nat_lit 1))) (numOf (encF rItem s.1.1 q1 (nat_lit 2))) (numOf (encF rItem s.1.1 q1 (nat_lit 3))) (numOf (encF rItem s.1.1 q1 (nat_lit 4))) (numOf (encF rItem s.1.1 q1 (nat_lit 5))) (numOf (encF rItem s.1.1 q1 (nat_lit 6))))) (
      .ret (Sum.inl ((decF rItem q4 fun i => encF rItem s.1.1 ((0 : Nat) + i), s.1.2.1, s.1.2.2.1, IntKind.wrap IntKind.i64 (s.1.2.2.2 + (1 : Int))), decF rItem (List.length s.2.1) (encF rItem s.2.1), PUnit.unit))) (
      .ret q2)) (
    .ret q2)) := fun s => by kernel_rfl
noncomputable def K.L_rs2 := lim K.st_rs2
noncomputable def BLA05 : Tab := BLA04.addNode 72 49 (nodeE [5, 3, 0, 4] S_rs2 X_rs2 (fun s => .obs (K.L_rs2 s) .ret))
theorem tLA05 : TabOk P BLA05 := TabOk.addLoop (d := 30) okP tLA04 (by kernel_rfl) (by kernel_rfl) (fun s r h => obs_ret h)
def S_rs1 := DecS.ghost 3 73 7 [.int .i64, .int .i64, .int .i64, .int .i64, .int .i64, .int .i64, .int .i64] (DecS.mk0 (.cons (dRows rItem) (.skips 2 (.cons (dO 0) (.last (dInt) 55)))) (.rows 73 rItem .nil))
def X_rs1 := DecX.one (.exit 0) [3] (DecS.mk0 (.skips 3 (.last (dO 0) 56)) (.rows 73 rItem .nil))
noncomputable def K.st_rs1 := loopT1 P BLA05 30 72 25 [4, 3, 0] S_rs1 X_rs1
theorem sl_rs1 : ∀ s, (K.st_rs1) s = T.run (
 let q1 := (0 : Nat);
 let q2 := (140737488355328 : Nat);
 let q3 := (1 : Nat);
 let q4 := (0 : Int);
 let q5 := (56 : Nat);
  .br (decide (s.1.2.2 < (↑(clampL (List.length s.1.1)) : Int))) (
    .obs (L_rs2 ((decF rItem (List.length s.1.1) fun i => encF rItem s.1.1 (q1 + i), s.1.2.1, s.1.2.2, q4), decF rItem (List.length s.2.1) (encF rItem s.2.1), PUnit.unit)) fun x0 =>
 let q16 := x0.1.1;
 let q26 := List.length q16;
 let q9 := x0.1.2.2.2;
 let q7 := Int.toNat q9 - q1;
 let q15 := x0.1.2.1 - Int.toNat q9;
 let q27 := x0.1.2.2.1;
 let q19 := x0.2.1;
 let q8 := q1 + Int.toNat q27;
 let q20 := encF rItem q16 q8 (nat_lit 1);
 let q21 := encF rItem q16 q8 (nat_lit 2);
 let q22 := encF rItem q16 q8 (nat_lit 3);
 let q23 := encF rItem q16 q8 (nat_lit 4);
 let q24 := encF rItem q16 q8 (nat_lit 5);
 let q25 := encF rItem q16 q8 (nat_lit 6);
 let q6 := Sum.inl ((decF rItem q26 fun i => encF rItem q16 (q1 + i), q1 + q7 + q3 + q15, IntKind.wrap IntKind.i64 (q27 + (1 : Int))), decF rItem (q1 + q7 + q3 + q15) (appG (q1 + q7 + q3) (appG (q1 + q7) (appG q1 (fun _x _x_1 => AV.top) fun i k => encF rItem q19 (q1 + i) k) fun i k => Option.getD [AV.int IntKind.i64 (numOf (encF rItem q16 q8 q1)), AV.int IntKind.i64 (numOf q20), AV.int IntKind.i64 (numOf q21), AV.int IntKind.i64 (numOf q22), AV.int IntKind.i64 (numOf q23), AV.int IntKind.i64 (numOf q24), AV.int IntKind.i64 (numOf q25)][(q1 + i) * (7 : Nat) + k]? AV.top) fun i k => encF rItem q19 (Int.toNat q9 + i) k), PUnit.unit);
 let q10 := decide (q4 ≤ q27 ∧ q27 < (↑q26 : Int));
 let q11 := decide ((q1 + q7 + q3 + q15) * q5 ≤ q2 ∧ q1 + q7 + q3 + q15 ≤ nat_lit 9223372036854775807);
 let q12 := decide ((q1 + q7 + q3) * q5 ≤ q2 ∧ q1 + q7 + q3 ≤ nat_lit 9223372036854775807);
 let q13 := decide ((q1 + q7) * q5 ≤ q2 ∧ q1 + q7 ≤ nat_lit 9223372036854775807);
 let q14 := Int.toNat q9;
 let q17 := decide (q4 ≤ q9 ∧ q9 ≤ (↑x0.1.2.1 : Int)) && true;
 let q18 := true && decide (q4 ≤ q9 ∧ q9 ≤ (↑x0.1.2.1 : Int));
      .br (decide (q9 < (↑x0.1.2.1 : Int))) (
        .chk (decide (q4 ≤ q9 ∧ q9 < (↑x0.1.2.1 : Int))) <|
        .chk q10 <|
        .br (numOf (encF rItem q19 q14 q1) == numOf (encF rItem q16 q8 q1) && (numOf (encF rItem q19 q14 (nat_lit 1)) == numOf q20 && (numOf (encF rItem q19 q14 (nat_lit 2)) == numOf q21 && (numOf (encF rItem q19 q14 (nat_lit 3)) == numOf q22 && (numOf (encF rItem q19 q14 (nat_lit 4)) == numOf q23 && (numOf (encF rItem q19 q14 (nat_lit 5)) == numOf q24 && numOf (encF rItem q19 q14 (nat_lit 6)) == numOf q25)))))) (
          .ret (Sum.inl ((decF rItem q26 fun i => encF rItem q16 (q1 + i), x0.1.2.1, IntKind.wrap IntKind.i64 (q27 + (1 : Int))), decF rItem (List.length q19) (encF rItem q19), PUnit.unit))) (
          .chk q17 <|
          .chk q13 <|
          .chk q10 <|
          .chk q12 <|
          .chk q18 <|
          .chk q11 <|
          .ret q6)) (
        .chk q17 <|
        .chk q13 <|
        .chk q10 <|
        .chk q12 <|
        .chk q18 <|
        .chk q11 <|
        .ret q6)) (
    .ret (Sum.inr (s.1.2.1, decF rItem (List.length s.2.1) (encF rItem s.2.1), PUnit.unit)))) := fun s => by kernel_rfl
noncomputable def K.L_rs1 := lim K.st_rs1
noncomputable def BLA06 : Tab := BLA05.addNode 72 25 (nodeE [4, 3, 0] S_rs1 X_rs1 (fun s => .obs (K.L_rs1 s) .ret))
theorem tLA06 : TabOk P BLA06 := TabOk.addLoop (d := 30) okP tLA05 (by kernel_rfl) (by kernel_rfl) (fun s r h => obs_ret h)
theorem fn_rsorted : ∀ a, (freshT1 P BLA06 30 72 73 D_l rItem) a = T.run (
  .obs (L_rs1 ((decF rItem (List.length a) fun i => encF rItem a ((0 : Nat) + i), (0 : Nat), (0 : Int)), decF rItem (0 : Nat) fun _x _x_1 => AV.top, PUnit.unit)) fun x0 =>
    .ret (decF rItem (List.length x0.2.1) fun i => encF rItem x0.2.1 ((0 : Nat) + i))) := fun a => by kernel_rfl
end Go.Proofs.YtelpdkojdfnmiaaGreat
/-! LA1 -/
namespace Go.Proofs.YtelpdkojdfnmiaaGreat
open Ev K
set_option maxRecDepth 100000
end Go.Proofs.YtelpdkojdfnmiaaGreat
/-! LA2 -/
namespace Go.Proofs.YtelpdkojdfnmiaaGreat
open Ev K
set_option maxRecDepth 100000
namespace K
theorem wI {i : Nat} (h : i ≤ 4000000) : IntKind.i64.wrap ((i : Int) + 1) = ((i + 1 : Nat) : Int) := by rw [w64_in (by omega) (by omega)]; rfl
theorem cS {n : Nat} (h : n ≤ 1000000) : clampL n = n := clampL_eq (by unfold maxL; omega)
theorem app3 {ρ : Type} (R : RowD ρ) (l : List ρ) (a : Nat) (h : a ≤ l.length) (g : Nat → Nat → AV) : decF R (a + 1 + (l.length - a)) (fun i => appG (a + 1) (appG a (appG 0 (fun _ _ => .top) fun i k => encF R l i k) g) (fun i k => encF R l (a + i) k) i) = l.take a ++ R.rd (g 0) :: l.drop a := by
  apply List.ext_getElem?
  intro i
  by_cases hi : i < a + 1 + (l.length - a)
  · simp only [decF, List.getElem?_map, List.getElem?_range hi, Option.map_some]
    have hta : (l.take a).length = a := by rw [List.length_take]; omega
    rcases Nat.lt_trichotomy i a with h1 | h1 | h1
    · have e : appG (a + 1) (appG a (appG 0 (fun _ _ => .top) fun i k => encF R l i k) g) (fun i k => encF R l (a + i) k) i = encF R l i := by
        funext k; unfold appG
        rw [show Nat.ble (a + 1) i = false by rw [← Bool.not_eq_true, Nat.ble_eq]; omega, show Nat.ble a i = false by rw [← Bool.not_eq_true, Nat.ble_eq]; omega, show Nat.ble 0 i = true by rw [Nat.ble_eq]; omega]
        simp
      rw [e, List.getElem?_append_left (by omega), List.getElem?_take_of_lt h1, List.getElem?_eq_getElem (by omega), encF_at (List.getElem?_eq_getElem (show i < l.length by omega)), R.good]
    · subst h1
      have e : appG (i + 1) (appG i (appG 0 (fun _ _ => .top) fun i k => encF R l i k) g) (fun j k => encF R l (i + j) k) i = g 0 := by
        funext k; unfold appG
        rw [show Nat.ble (i + 1) i = false by rw [← Bool.not_eq_true, Nat.ble_eq]; omega, show Nat.ble i i = true by rw [Nat.ble_eq]; omega, Nat.sub_self]
      rw [e, List.getElem?_append_right (by omega), hta, Nat.sub_self]; rfl
    · have e : appG (a + 1) (appG a (appG 0 (fun _ _ => .top) fun i k => encF R l i k) g) (fun i k => encF R l (a + i) k) i = encF R l (i - 1) := by
        funext k; unfold appG
        rw [show Nat.ble (a + 1) i = true by rw [Nat.ble_eq]; omega]
        simp only
        rw [show a + (i - (a + 1)) = i - 1 by omega]
      obtain ⟨j, rfl⟩ : ∃ j, i = a + 1 + j := ⟨i - (a + 1), by omega⟩
      rw [e, List.getElem?_append_right (by omega), hta, show a + 1 + j - a = j + 1 by omega, List.getElem?_cons_succ, List.getElem?_drop, show a + 1 + j - 1 = a + j by omega, List.getElem?_eq_getElem (by omega), encF_at (List.getElem?_eq_getElem (show a + j < l.length by omega)), R.good]
  · rw [List.getElem?_eq_none (by simp [decF]; omega), List.getElem?_eq_none (by simp; omega)]
theorem r_ahead_iff (x y : Itm) : r_ahead (x, y) = true ↔ ltK x y := by
  unfold r_ahead ltK
  by_cases h1 : x.known < y.known
  · simp [h1]
  · by_cases h2 : x.known = y.known
    · simp [h2]
    · simp [h1, h2]
def atOf {α : Type} (p : α → Bool) (l : List α) : Nat := (l.takeWhile p).length
theorem atOf_le {α : Type} (p : α → Bool) (l : List α) : atOf p l ≤ l.length := (List.takeWhile_prefix p).length_le
theorem atOf_lt {α : Type} {p : α → Bool} : ∀ {l : List α} {i : Nat} {x : α}, i < atOf p l → l[i]? = some x → p x = true
  | [], i, x, h, _ => by simp [atOf] at h
  | y :: l, i, x, h, hx => by
    unfold atOf at h
    by_cases hy : p y = true
    · rw [List.takeWhile_cons_of_pos hy] at h
      cases i with
      | zero => simp only [List.getElem?_cons_zero, Option.some.injEq] at hx; rw [← hx]; exact hy
      | succ i => exact atOf_lt (l := l) (i := i) (by simpa [atOf] using h) (by simpa using hx)
    · rw [List.takeWhile_cons_of_neg hy] at h; simp at h
theorem atOf_at {α : Type} {p : α → Bool} : ∀ {l : List α} {x : α}, l[atOf p l]? = some x → p x = false
  | [], x, hx => by simp [atOf] at hx
  | y :: l, x, hx => by
    unfold atOf at hx
    by_cases hy : p y = true
    · rw [List.takeWhile_cons_of_pos hy] at hx
      exact atOf_at (l := l) (by simpa [atOf] using hx)
    · rw [List.takeWhile_cons_of_neg hy] at hx
      simp only [List.length_nil, List.getElem?_cons_zero, Option.some.injEq] at hx
      rw [← hx]; simpa using hy
theorem atOf_cons {α : Type} (p : α → Bool) (y : α) (l : List α) : atOf p (y :: l) = if p y then atOf p l + 1 else 0 := by
  unfold atOf
  by_cases hy : p y = true
  · rw [List.takeWhile_cons_of_pos hy, if_pos hy]; rfl
  · rw [List.takeWhile_cons_of_neg hy, if_neg hy]; rfl
def befI (x y : Itm) : Bool := decide (ltK y x)
theorem insR_at : ∀ (l : List Itm) (x : Itm), insR l x = if l[atOf (befI x) l]? = some x then l else l.take (atOf (befI x) l) ++ x :: l.drop (atOf (befI x) l)
  | [], x => by simp [insR, atOf]
  | y :: l, x => by
    unfold insR
    rw [atOf_cons]
    by_cases h : ltK y x
    · have hb : befI x y = true := decide_eq_true h
      rw [if_pos h, hb, if_pos rfl, insR_at l x, List.getElem?_cons_succ, List.take_succ_cons, List.drop_succ_cons]
      split <;> rfl
    · have hb : befI x y = false := decide_eq_false h
      rw [if_neg h, hb]
      simp only [Bool.false_eq_true, if_false, List.getElem?_cons_zero, Option.some.injEq, List.take_zero, List.drop_zero, List.nil_append]
theorem L_rs2_eq {l out : List Itm} (_hl : l.length ≤ 1000) (ho : out.length ≤ 1000) {i : Nat} {x : Itm} (hx : l[i]? = some x) : ∀ (d j : Nat), j + d = atOf (befI x) out → L_rs2 ((l, out.length, (i : Int), (j : Int)), out, ()) = some ((l, out.length, (i : Int), ((atOf (befI x) out : Nat) : Int)), out, ()) := by
  have hle := atOf_le (befI x) out
  obtain ⟨hi, _⟩ := List.getElem?_eq_some_iff.1 hx
  have hid : ∀ x : Itm, (⟨x.id, x.known, x.kind, x.day, x.bill, x.account, x.amount⟩ : Itm) = x := fun _ => rfl
  intro d
  induction d with
  | zero =>
    intro j hj
    refine lim_done ?_
    rw [sl_rs2]
    obtain rfl : j = atOf (befI x) out := by omega
    by_cases h : atOf (befI x) out < out.length
    · have hy := List.getElem?_eq_getElem h
      have hp := atOf_at hy
      generalize out[atOf (befI x) out] = y at hy hp
      simp only [Int.toNat_natCast, Nat.zero_add, item_at hy, item_at hx, wr0, wr1, wr2, wr3, wr4, wr5, wr6, decF_encF, hid]
      refine br_t (decide_eq_true (by omega)) (chk_step (decide_eq_true (by omega)) (chk_step (decide_eq_true (by omega)) (br_f ?_ rfl)))
      rw [← Bool.not_eq_true, r_ahead_iff]
      unfold befI at hp; simpa using hp
    · simp only [Nat.zero_add, decF_encF]
      exact br_f (decide_eq_false (by omega)) rfl
  | succ d ih =>
    intro j hj
    have hjo : j < out.length := by omega
    have hy := List.getElem?_eq_getElem hjo
    have hp := atOf_lt (show j < atOf (befI x) out by omega) hy
    generalize out[j] = y at hy hp
    refine (lim_step ?_).trans (ih (j + 1) (by omega))
    rw [sl_rs2]
    simp only [Int.toNat_natCast, Nat.zero_add, item_at hy, item_at hx, wr0, wr1, wr2, wr3, wr4, wr5, wr6, decF_encF, hid, wI (show j ≤ 4000000 by omega)]
    refine br_t (decide_eq_true (by omega)) (chk_step (decide_eq_true (by omega)) (chk_step (decide_eq_true (by omega)) (br_t ?_ rfl)))
    rw [r_ahead_iff]; unfold befI at hp; simpa using hp
theorem insR_len (l : List Itm) (x : Itm) : (insR l x).length ≤ l.length + 1 := by
  rw [insR_at]
  have := atOf_le (befI x) l
  split
  · omega
  · simp; omega
theorem L_rs1_eq {l : List Itm} (hl : l.length ≤ 500) : ∀ (d i : Nat) (out : List Itm), i + d = l.length → out.length ≤ i → ∃ out', out' = (l.drop i).foldl insR out ∧ L_rs1 ((l, out.length, (i : Int)), out, ()) = some (out'.length, out', ()) := by
  intro d
  induction d with
  | zero =>
    intro i out h ho
    refine ⟨_, rfl, lim_done ?_⟩
    rw [sl_rs1]
    simp only [cS (show l.length ≤ 1000000 by omega), decF_encF]
    refine br_f (decide_eq_false (by omega)) ?_
    rw [List.drop_of_length_le (by omega)]; rfl
  | succ d ih =>
    intro i out h ho
    have hi : i < l.length := by omega
    have hx := List.getElem?_eq_getElem hi
    have hdrop := List.drop_eq_getElem_cons hi
    generalize l[i] = x at hx hdrop
    have hin := insR_len out x
    obtain ⟨out', e1, e2⟩ := ih (i + 1) (insR out x) (by omega) (by omega)
    refine ⟨out', by rw [hdrop, List.foldl_cons]; exact e1, (lim_step ?_).trans e2⟩
    have hle := atOf_le (befI x) out
    rw [sl_rs1]
    simp only [cS (show l.length ≤ 1000000 by omega), Nat.zero_add, decF_encF]
    refine br_t (decide_eq_true (by omega)) (obs_step (L_rs2_eq (l := l) (out := out) (by omega) (by omega) hx (atOf (befI x) out) 0 (by omega)) ?_)
    have wi := wI (show i ≤ 4000000 by omega)
    have same : insR out x = out → (T.ret (Sum.inl ((l, out.length, ((i + 1 : Nat) : Int)), out, ())) : T (((List Itm × Nat × Int) × List Itm × Unit) ⊕ (Nat × List Itm × Unit))).run = some (.inl ((l, (insR out x).length, ((i + 1 : Nat) : Int)), insR out x, ())) := fun e => by rw [e]; rfl
    have ins : insR out x = out.take (atOf (befI x) out) ++ x :: out.drop (atOf (befI x) out) → (T.ret (Sum.inl ((l, atOf (befI x) out + 1 + (out.length - atOf (befI x) out), ((i + 1 : Nat) : Int)), out.take (atOf (befI x) out) ++ x :: out.drop (atOf (befI x) out), ())) : T (((List Itm × Nat × Int) × List Itm × Unit) ⊕ (Nat × List Itm × Unit))).run = some (.inl ((l, (insR out x).length, ((i + 1 : Nat) : Int)), insR out x, ())) := fun e => by
      rw [e]
      have : (out.take (atOf (befI x) out) ++ x :: out.drop (atOf (befI x) out)).length = atOf (befI x) out + 1 + (out.length - atOf (befI x) out) := by simp; omega
      rw [this]; rfl
    have hI := insR_at out x
    have key3 := app3 rItem out (atOf (befI x) out) hle (fun j k => ([(.int .i64 x.id : AV), .int .i64 x.known, .int .i64 x.kind, .int .i64 x.day, .int .i64 x.bill, .int .i64 x.account, .int .i64 x.amount][j * 7 + k]?).getD .top)
    by_cases hlt : atOf (befI x) out < out.length
    · have hy := List.getElem?_eq_getElem hlt
      generalize out[atOf (befI x) out] = y at hy
      rw [hy] at hI
      simp only [Int.toNat_natCast, Nat.sub_zero, item_at hy, item_at hx, wr0, wr1, wr2, wr3, wr4, wr5, wr6, wi]
      refine br_t (decide_eq_true (by omega)) (chk_step (decide_eq_true (by omega)) (chk_step (decide_eq_true (by omega)) ?_))
      by_cases hyx : y = x
      · rw [if_pos (by rw [hyx])] at hI
        exact br_t ((sameI_iff y x).2 hyx) (same hI)
      · rw [if_neg (fun e => hyx (by injection e))] at hI
        refine br_f (by rw [← Bool.not_eq_true]; exact fun h => hyx ((sameI_iff y x).1 h)) ?_
        refine chk_step (by rw [Bool.and_true]; exact decide_eq_true (by omega)) (chk_step (decide_eq_true (by omega)) (chk_step (decide_eq_true (by omega)) (chk_step (decide_eq_true (by omega)) (chk_step (by rw [Bool.true_and]; exact decide_eq_true (by omega)) (chk_step (decide_eq_true (by omega)) ?_)))))
        exact Eq.trans (congrArg (fun L => (some (Sum.inl ((l, atOf (befI x) out + 1 + (out.length - atOf (befI x) out), ((i + 1 : Nat) : Int)), L, ())) : Option (((List Itm × Nat × Int) × List Itm × Unit) ⊕ (Nat × List Itm × Unit)))) key3) (ins hI)
    · rw [List.getElem?_eq_none (by omega)] at hI
      rw [if_neg (by simp)] at hI
      simp only [Int.toNat_natCast, Nat.sub_zero, item_at hx, wr0, wr1, wr2, wr3, wr4, wr5, wr6, wi]
      refine br_f (decide_eq_false (by omega)) ?_
      refine chk_step (by rw [Bool.and_true]; exact decide_eq_true (by omega)) (chk_step (decide_eq_true (by omega)) (chk_step (decide_eq_true (by omega)) (chk_step (decide_eq_true (by omega)) (chk_step (by rw [Bool.true_and]; exact decide_eq_true (by omega)) (chk_step (decide_eq_true (by omega)) ?_)))))
      exact Eq.trans (congrArg (fun L => (some (Sum.inl ((l, atOf (befI x) out + 1 + (out.length - atOf (befI x) out), ((i + 1 : Nat) : Int)), L, ())) : Option (((List Itm × Nat × Int) × List Itm × Unit) ⊕ (Nat × List Itm × Unit)))) key3) (ins hI)
theorem rsorted_eq (l : List Itm) (hl : l.length ≤ 500) : freshT1 P BLA06 30 72 73 D_l rItem l = some (sortedR l) := by
  rw [fn_rsorted]
  obtain ⟨out, e1, e2⟩ := L_rs1_eq hl l.length 0 [] (by omega) (by simp)
  rw [List.drop_zero] at e1
  simp only [Nat.zero_add, decF_encF]
  refine obs_step e2 ?_
  rw [e1]; rfl
def amtB (m : Int) : Prop := -1000000000000 ≤ m ∧ m ≤ 1000000000000
instance (m : Int) : Decidable (amtB m) := by unfold amtB; infer_instance
end K
end Go.Proofs.YtelpdkojdfnmiaaGreat
/-! LIf -/
namespace Go.Proofs.YtelpdkojdfnmiaaGreat
open Ev K
set_option maxRecDepth 100000
noncomputable def BLIf1 : Tab := BLA06.addTurn 72 (freshE 73 D_l rItem (fun l => .chk (decide (l.length ≤ 500)) (.ret (K.sortedR l))))
theorem tLIf1 : TabOk P BLIf1 := TabOk.addFC tLA06 (D := D_l) (R := rItem) (M := (fun l => .chk (decide (l.length ≤ 500)) (.ret (K.sortedR l)))) (fun a r h => by obtain ⟨g, e⟩ := chk_ret h; subst e; exact fresh_of (d := 30) okP tLA06 (K.rsorted_eq a (of_decide_eq_true g)))
def D_its := dAgg (.cons (dRows rItem) (.last dInt 0))
theorem fn_rso : ∀ a, (callT1 P BLIf1 30 52 D_l D_its) a = T.run (
  .br (checkV (decF rItem (List.length a) fun i => encF rItem a ((0 : Nat) + i)) != (0 : Int)) (
    .ret (([], checkV (decF rItem (List.length a) fun i => encF rItem a ((0 : Nat) + i))))) (
    .chk (decide (List.length (decF rItem (List.length a) fun i => encF rItem a ((0 : Nat) + i)) ≤ (500 : Nat))) <|
    .ret ((decF rItem (List.length (sortedR (decF rItem (List.length a) fun i => encF rItem a ((0 : Nat) + i)))) fun i => encF rItem (sortedR (decF rItem (List.length a) fun i => encF rItem a ((0 : Nat) + i))) ((0 : Nat) + i), (0 : Int))))) := fun a => by kernel_rfl
noncomputable def BLIf2 : Tab := BLIf1.addInl 52
theorem tLIf2 : TabOk P BLIf2 := TabOk.addInl tLIf1
theorem fn_rme : ∀ a, (callT1 P BLIf2 30 54 D_ll D_its) a = T.run (
 let q2 := (0 : Nat);
 let q5 := q2 + List.length a.1 + List.length a.2;
 let q1 := decF rItem q5 fun i => appG (q2 + List.length a.1) (appG q2 (fun _x _x_1 => AV.top) fun i k => encF rItem a.1 (q2 + i) k) (fun i k => encF rItem a.2 (q2 + i) k) (q2 + i);
 let q3 := decF rItem (List.length a.1) fun i => encF rItem a.1 (q2 + i);
 let q4 := decF rItem (List.length a.2) fun i => encF rItem a.2 (q2 + i);
  .br (checkV q3 != (0 : Int)) (
    .ret (([], checkV q3))) (
    .br (checkV q4 != (0 : Int)) (
      .ret (([], checkV q4))) (
      .chk (decide ((q2 + List.length a.1) * (56 : Nat) ≤ (140737488355328 : Nat) ∧ q2 + List.length a.1 ≤ nat_lit 9223372036854775807)) <|
      .chk (decide (q5 * (56 : Nat) ≤ (140737488355328 : Nat) ∧ q2 + List.length a.1 + List.length a.2 ≤ nat_lit 9223372036854775807)) <|
      .br (checkV q1 != (0 : Int)) (
        .ret (([], checkV q1))) (
        .chk (decide (List.length q1 ≤ (500 : Nat))) <|
        .ret ((decF rItem (List.length (sortedR q1)) fun i => encF rItem (sortedR q1) (q2 + i), (0 : Int))))))) := fun a => by kernel_rfl
end Go.Proofs.YtelpdkojdfnmiaaGreat
/-! LIg -/
namespace Go.Proofs.YtelpdkojdfnmiaaGreat
open Ev K
set_option maxRecDepth 100000
namespace K
theorem rso_eq (l : List Itm) : callT1 P BLIf1 30 52 D_l D_its l = some (lSortedV l) := by
  rw [fn_rso]; unfold lSortedV
  simp only [Nat.zero_add, decF_encF]
  by_cases h : checkV l = 0
  · obtain ⟨c1, _, _⟩ := checkV_ok h
    rw [if_pos h, h, sortedR_eq (one_mk h)]
    exact br_f rfl (chk_step (decide_eq_true (by omega)) rfl)
  · rw [if_neg h]; exact br_t (ne_t h) rfl
theorem app_ab2 (a b : List Itm) : decF rItem (a.length + b.length) (fun i => appG a.length (appG 0 (fun _ _ => .top) fun i k => encF rItem a i k) (fun i k => encF rItem b i k) i) = a ++ b := by
  rw [app0]
  refine (decF_app rItem a b.length _).trans ?_
  congr 1
  exact decF_encF rItem b
theorem rme_eq (a : List Itm × List Itm) : callT1 P BLIf2 30 54 D_ll D_its a = some (mergeV a.1 a.2) := by
  obtain ⟨a, b⟩ := a
  rw [fn_rme]; unfold mergeV
  simp only [Nat.zero_add, decF_encF, app_ab2]
  by_cases h1 : checkV a = 0
  · rw [if_neg (fun h => h h1)]
    refine br_f (ne_f h1) ?_
    by_cases h2 : checkV b = 0
    · rw [if_neg (fun h => h h2)]
      have l1 := (checkV_ok h1).1
      have l2 := (checkV_ok h2).1
      refine br_f (ne_f h2) (chk_step (decide_eq_true (by omega)) (chk_step (decide_eq_true (by omega)) ?_))
      by_cases h3 : checkV (a ++ b) = 0
      · rw [if_neg (fun h => h h3), sortedR_eq (one_mk h3)]
        exact br_f (ne_f h3) (chk_step (decide_eq_true (by rw [List.length_append]; omega)) rfl)
      · rw [if_pos h3]; exact br_t (ne_t h3) rfl
    · rw [if_pos h2]; exact br_t (ne_t h2) rfl
  · rw [if_pos h1]; exact br_t (ne_t h1) rfl
end K
noncomputable def BLIg1 : Tab := BLA06.addCall 52 (callE D_l D_its (fun a => .ret (K.lSortedV a)))
theorem tLIg1 : TabOk P BLIg1 := TabOk.addPC tLA06 (fun a r h => by rw [← ret_some h]; exact call_of okP tLIf1 (K.rso_eq a))
noncomputable def BLIg2 : Tab := BLIg1.addCall 54 (callE D_ll D_its (fun a => .ret (K.mergeV a.1 a.2)))
theorem tLIg2 : TabOk P BLIg2 := TabOk.addPC tLIg1 (fun a r h => by rw [← ret_some h]; exact call_of okP tLIf2 (K.rme_eq a))
noncomputable def BLIg3 : Tab := BLIg2.addCall 53 (callE D_ll R_ie K.M_merge)
theorem tLIg3 : TabOk P BLIg3 := TabOk.addPC tLIg2 (K.merge_pc)
theorem fn_lwIt : ∀ a, (callT1 P BLIg3 30 14 D_ll dB) a = T.run (
 let q8 := (0 : Nat);
 let q1 := decF rItem (List.length a.1) fun i => encF rItem a.1 (q8 + i);
 let q2 := decF rItem (List.length a.2) fun i => encF rItem a.2 (q8 + i);
 let q5 := Prod.fst (mergeV q1 q2);
 let q3 := decF rItem (List.length q5) fun i => encF rItem q5 (q8 + i);
 let q6 := Prod.fst (lSortedV q1);
 let q4 := decF rItem (List.length q6) fun i => encF rItem q6 (q8 + i);
 let q7 := (1000000 : Nat);
  .br (!l_few q1) (
    .ret (true)) (
    .br (!l_few q2) (
      .ret (true)) (
      .chk (decide (List.length q1 ≤ (1000 : Nat) ∧ List.length q2 ≤ (1000 : Nat))) <|
      .br (checkV q1 == checkV q1) (
        .chk (decide (List.length q4 ≤ q7 ∧ List.length q4 ≤ q7)) <|
        .br (decide (q4 = decF rItem (List.length q6) fun i => encF rItem q6 (q8 + i))) (
          .br (Prod.snd (lSortedV q1) == Prod.snd (lSortedV q1)) (
            .chk (decide (List.length q3 ≤ q7 ∧ List.length q3 ≤ q7)) <|
            .br (decide (q3 = decF rItem (List.length q5) fun i => encF rItem q5 (q8 + i))) (
              .ret (Prod.snd (mergeV q1 q2) == Prod.snd (mergeV q1 q2))) (
              .ret (false))) (
            .ret (false))) (
          .ret (false))) (
        .ret (false))))) := fun a => by kernel_rfl
end Go.Proofs.YtelpdkojdfnmiaaGreat
/-! LIh -/
namespace Go.Proofs.YtelpdkojdfnmiaaGreat
open Ev K
set_option maxRecDepth 100000
namespace K
theorem few_le {l : List Itm} (h : l_few l = true) : l.length ≤ 1000 := by
  have key : ∀ n : Nat, n ≤ 80 → (clampL l.length : Int) ≤ (n : Int) → l.length ≤ 1000 := fun n hn h => by
    unfold clampL maxL at h
    split at h <;> omega
  unfold l_few at h
  by_cases c : (clampL l.length : Int) ≤ 30
  · exact key 30 (by omega) c
  · rw [if_neg (by rw [decide_eq_true_eq]; exact c)] at h
    by_cases d : (clampL l.length : Int) > 60
    · rw [if_pos (decide_eq_true d)] at h
      exact key 80 (by omega) (of_decide_eq_true h)
    · rw [if_neg (by rw [decide_eq_true_eq]; exact d)] at h
      cases h
theorem lsorted_len {l : List Itm} (h : l.length ≤ 1000) : (lSortedV l).1.length ≤ 1000 := by
  unfold lSortedV
  by_cases hc : checkV l = 0
  · rw [if_pos hc]
    have := srt_len l
    show (srt l).length ≤ 1000
    omega
  · rw [if_neg hc]; exact Nat.zero_le _
theorem lwIt_eq (a : List Itm × List Itm) : callT1 P BLIg3 30 14 D_ll dB a = some true := by
  obtain ⟨a, b⟩ := a
  rw [fn_lwIt]
  simp only [Nat.zero_add, decF_encF]
  by_cases h1 : l_few a = true
  · refine br_f (by rw [h1]; rfl) ?_
    by_cases h2 : l_few b = true
    · have l1 := few_le h1
      have l2 := few_le h2
      have l3 := lsorted_len l1
      have l4 := merge_len a b
      refine br_f (by rw [h2]; rfl) (chk_step (decide_eq_true ⟨l1, l2⟩) (br_t (beq_self_eq_true _) (chk_step (decide_eq_true (by omega)) (br_t (by simp) (br_t (beq_self_eq_true _) (chk_step (decide_eq_true (by omega)) (br_t (by simp) ?_)))))))
      show some _ = some true
      rw [beq_self_eq_true]
    · exact br_t (by rw [Bool.not_eq_true] at h2; rw [h2]; rfl) rfl
  · exact br_t (by rw [Bool.not_eq_true] at h1; rw [h1]; rfl) rfl
end K
end Go.Proofs.YtelpdkojdfnmiaaGreat
/-! LZd -/
namespace Go.Proofs.YtelpdkojdfnmiaaGreat
open Ev K
open Go.ChangeShapes Go.WideShapes Go.RowKit
set_option maxRecDepth 100000
theorem law_pc (a) : PC P 14 (D_ll.enc a) (.bool true) := by
  have h := lwIt_eq a
  exact call_of okP tLIg3 h
theorem ownP : ownKnob P.godebug = none := by kernel_rfl
theorem laidP : laidOutB P = true := by kernel_rfl
theorem ub : P.underlying 4 = some .bool := by kernel_rfl
theorem ledgerItems_lifted (os : Os) (started : os.Started) (H : Type) (enc : TypeId × Value → H) :
    ReturnsInHanded {} Tryz.checked os 14 .any (Rows.ledgerItemsSpec.pre6 enc Tryz.prog Tryz.f14 Rows.ledgerItemsRow.domain false) (Rows.ledgerItemsSpec.post enc Tryz.prog Tryz.f14 false true false false) := by
  refine returnsInHanded_of_change (C := Tryz.checked) ownP started (by kernel_rfl) Tryz.func14
    (ChangeSpec.witness6 (enc := enc) (C := Tryz.checked) false ⟨#[], #[.slice none 0 0, .slice none 0 0], []⟩ 8 (by kernel_rfl) (by kernel_rfl) (by kernel_rfl) (by kernel_rfl)) ?_
  intro W base args ds gs before hval hW _ _
  refine law_contract (P := Tryz.prog) D_ll laidP (by kernel_rfl) rfl (fun ds hd => ?_) (fun W' b sp hd => trodAll_mk1 (shut_bool ub true)) (fun W' => ok_one (by kernel_rfl) rfl (okWide_bool_mk ub true)) (fun W base args ds p hval hA => ?_) law_pc W base args ds gs before hval hW
  · rw [Tryz.params14] at hd
    match ds, hd with
    | [a, b], _ => rfl
  · rw [Tryz.params14] at hA hval
    obtain ⟨v0, vs0, d0, ds0, p0, q0, e0, _, _, h0, r0⟩ := trodAll_cons hA
    obtain ⟨v1, vs1, d1, ds1, p1, q1, e1, _, _, h1, r1⟩ := trodAll_cons r0
    obtain ⟨e2, _, _⟩ := trodAll_nil r1
    subst e2; subst e1
    have ha : args = #[v0, v1] := by apply Array.ext'; exact e0
    subst ha
    exact rdL_cons (rp_items (hval 0 _ v0 rfl rfl) h0) (rdL_last (rp_items (hval 1 _ v1 rfl rfl) h1))
theorem ledgerItems_holds : Rows.LedgerItemsSaid :=
  OpenClaim.holds_of_wide 14 Tryz.f14 rfl rfl rfl rfl rfl rfl rfl ⟨rfl, rfl, rfl, rfl, rfl⟩ rfl rfl rfl rfl rfl (by kernel_rfl) Tryz.func14 (by kernel_rfl)
    (of_decide_eq_true (by kernel_rfl)) (by unfold Func.isWrapper; rw [if_neg (of_decide_eq_false (by kernel_rfl))]; exact ⟨rfl, rfl⟩)
    (fun os started H enc _ => ledgerItems_lifted os started H enc)
#print axioms ledgerItems_holds
end Go.Proofs.YtelpdkojdfnmiaaGreat
