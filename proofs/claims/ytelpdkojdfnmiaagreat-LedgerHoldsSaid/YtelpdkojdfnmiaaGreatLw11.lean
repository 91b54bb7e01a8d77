/- Parts of the proof, one behind the other: EvW, LR0, LP0, LP1, LA0, LA1, LA2, LA3. No conditions. -/
import Derived.Test.YtelpdkojdfnmiaaGreatLw10
import Derived.ProofKit
import Derived.Carry
/-! EvW -/
namespace Go.Proofs.YtelpdkojdfnmiaaGreat.Ev
open Go.RowKit Go.WideShapes Go.ChangeShapes
section
variable {H : Type} {enc : TypeId × Value → H} {P : Program}
theorem post_of_below {f : Func} {s : ChangeSpec} {apart fresh handsOn again : Bool} {W W' : World} {args : Array Value} {v : Value} {ds gs : List (DataW H)} {before pa pv : List MemPlace}
    (hW : DataW.Whole enc P f.params.toList s.vars apart W args.toList ds gs before)
    (hres : ∀ (b : Nat) (sp : Nat → Bool) (hd : Bool), DataW.TrodAll enc P W' b sp hd f.resultTypes.toList (v.resultList f.resultTypes.size) (s.fn H (ds ++ gs)).results [])
    (hargs : ∀ sp : Nat → Bool, (∀ p ∈ before, sp p.block = true) → DataW.TrodAll enc P W' 0 sp true f.params.toList args.toList (s.fn H (ds ++ gs)).args pa)
    (hvars : ∀ sp : Nat → Bool, (∀ p ∈ before, sp p.block = true) → DataW.TrodVars enc P W' sp s.vars (s.fn H (ds ++ gs)).vars pv)
    (hps : before = pa ++ pv) (hb : Below W.heap.size W W')
    (hok : ∀ (j : Nat) (t : TypeId) (r : Value), f.resultTypes[j]? = some t → (v.resultList f.resultTypes.size)[j]? = some r → Value.okWide P W' .any 0 t r) :
    s.post enc P f apart fresh handsOn again W args v W' := by
  have hlt : ∀ p ∈ before, p.block < W.heap.size := fun p hp => hW.lt p hp
  have hold : ∀ p ∈ before, (fun b => decide (b < W.heap.size)) p.block = true := fun p hp => by simpa using hlt p hp
  refine ⟨ds, gs, before, [], pa, pv, hW, hres _ _ _, hargs _ hold, hvars _ hold, World.keptBut_mono (fun p hp => ⟨hp, ?_⟩) (hb.frame (· ∈ before)), fun _ => ?_⟩
  · rw [hps, List.mem_append] at hp
    exact Or.inr hp
  · obtain ⟨_, _, _, _, _, hz, hn⟩ := hW
    refine ⟨hok, _, _, ([] ++ pa) ++ pv, ⟨[] ++ pa, pv, trodAll_append (hargs _ (fun _ _ => rfl)) (hres _ _ _), hvars _ (fun _ _ => rfl), rfl, ?_, ?_⟩, ?_⟩
    · intro b off hp
      have hin : MemPlace.cell b off ∈ before := by rw [hps]; simpa using hp
      rw [hb.frozen (hlt _ hin)]
      exact hz b off hin
    · intro ha
      have := hn ha
      rw [hps] at this
      simpa using this
    · intro p hp _
      rw [hps]
      simpa using hp
theorem trodAll_stays (hl : laidOutB P = true) {W W' : World} (hb : Below W.heap.size W W') {sp : Nat → Bool} : ∀ {ts : List TypeId} {vs : List Value} {ds : List (DataW H)} {ps : List MemPlace},
    (∀ t ∈ ts, P.readableRec t = true ∧ t < P.types.size) → DataW.TrodAll enc P W 0 (fun _ => true) true ts vs ds ps → (∀ x ∈ ps, x.block < W.heap.size) → (∀ x ∈ ps, sp x.block = true) → DataW.TrodAll enc P W' 0 sp true ts vs ds ps
  | [], [], [], ps, _, h, _, _ => h
  | [], [], _ :: _, _, _, h, _, _ => h.elim
  | [], _ :: _, _, _, _, h, _, _ => h.elim
  | _ :: _, [], _, _, _, h, _, _ => h.elim
  | _ :: _, _ :: _, [], _, _, h, _, _ => h.elim
  | t :: ts, v :: vs, d :: ds, ps, ht, h, hlt, hs => by
    obtain ⟨p, q, h1, h2, rfl⟩ := h
    refine ⟨p, q, ?_, trodAll_stays hl hb (fun t h => ht t (List.mem_cons_of_mem _ h)) h2 (fun x hx => hlt x (List.mem_append_right _ hx)) (fun x hx => hs x (List.mem_append_right _ hx)), rfl⟩
    have h0 := ht t List.mem_cons_self
    exact WideElems.Trod_stays hl h0.1 h0.2 h1 (fun x hx => hb.same (hlt x (List.mem_append_left _ hx))) (fun x hx => hs x (List.mem_append_left _ hx))
inductive FK where
  | int (k : IntKind)
  | bool
  | str
  | sl (e : TypeId)
def flatF (r : TypeId → Option (List FK)) (P : Program) : List Field → Nat → Option (List FK)
  | [], _ => some []
  | f :: fs, off => match r f.type with
    | some l => match Nat.beq f.offset off && Nat.beq (P.cellsOf f.type) l.length with
      | true => match flatF r P fs (off + l.length) with
        | some m => some (l ++ m)
        | none => none
      | false => none
    | none => none
def flat (P : Program) : Nat → TypeId → Option (List FK)
  | 0, _ => none
  | n + 1, t => match P.underlying t with
    | some .bool => some [.bool]
    | some (.int k) => some [.int k]
    | some .string => some [.str]
    | some (.slice e) => some [.sl e]
    | some (.struct fs) => match flatF (flat P n) P fs.toList 0 with
      | some l => match Nat.beq (P.cellsOf t) l.length with
        | true => some l
        | false => none
      | none => none
    | some (.array m e) => match flat P n e with
      | some l => match Nat.beq (P.cellsOf e) l.length && Nat.beq (P.cellsOf t) (m * l.length) with
        | true => some (List.replicate m l).flatten
        | false => none
      | none => none
    | _ => none
def CellR (enc : TypeId × Value → H) (P : Program) (w : World) : FK → Value → Prop
  | .int k, v => ∃ n, v = .int k n ∧ (Lit.int k n).wf = true
  | .bool, v => ∃ b, v = .bool b
  | .str, v => ∃ s : ByteArray, v = .string s ∧ s.size ≤ maxLen
  | .sl e, v => v = .slice none 0 0 ∨ ∃ (a : Addr) (len cap : Nat), v = .slice (some a) len cap ∧ len ≤ cap ∧ cap ≤ maxLen ∧
      ∀ i, i < len → ∃ row, w.cells? 0 (a.add (i * P.cellsOf e)) (P.cellsOf e) = some row ∧ ∃ fuel x, DataW.trod enc P w 0 (fun _ => true) true fuel e row = some x
theorem mapM_mem {α β : Type} {f : α → Option β} : ∀ {l : List α} {ys : List β}, l.mapM f = some ys → ∀ x ∈ l, ∃ y, f x = some y
  | [], _, _, x, hx => by simp at hx
  | a :: l, ys, h, x, hx => by
    rw [List.mapM_cons] at h
    cases ha : f a with
    | none => simp [ha] at h
    | some b =>
      cases hl : l.mapM f with
      | none => simp [ha, hl] at h
      | some bs =>
        rcases List.mem_cons.1 hx with rfl | hx
        · exact ⟨b, ha⟩
        · exact mapM_mem hl x hx
theorem flatF_get {r : TypeId → Option (List FK)} {w : World} {cs : List Value} (hr : ∀ t l, r t = some l → ∀ fuel ds x, DataW.trod enc P w 0 (fun _ => true) true fuel t ds = some x → ds.length = l.length ∧ ∀ (i : Nat) (k : FK), l[i]? = some k → ∃ v, ds[i]? = some v ∧ CellR enc P w k v) :
    ∀ {fs : List Field} {off : Nat} {l : List FK}, flatF r P fs off = some l → off + l.length ≤ cs.length → (∀ f ∈ fs, ∃ fuel x, DataW.trod enc P w 0 (fun _ => true) true fuel f.type ((cs.drop f.offset).take (P.cellsOf f.type)) = some x) →
      ∀ (i : Nat) (k : FK), l[i]? = some k → ∃ v, cs[off + i]? = some v ∧ CellR enc P w k v
  | [], off, l, h, _, _, i, k, hi => by simp [flatF] at h; subst h; simp at hi
  | f :: fs, off, l, h, hle, hf, i, k, hi => by
    simp only [flatF] at h
    split at h
    case h_2 => simp at h
    rename_i l1 h1
    split at h
    case h_2 => simp at h
    rename_i hc
    simp only [Bool.and_eq_true] at hc
    have e1 := Nat.eq_of_beq_eq_true hc.1
    have e2 := Nat.eq_of_beq_eq_true hc.2
    split at h
    case h_2 => simp at h
    rename_i m hm
    injection h with h; subst h
    rw [List.length_append] at hle
    by_cases hlt : i < l1.length
    · rw [List.getElem?_append_left hlt] at hi
      obtain ⟨fuel, x, hx⟩ := hf f List.mem_cons_self
      obtain ⟨v, hv, hcr⟩ := (hr _ _ h1 _ _ _ hx).2 i k hi
      rw [List.getElem?_take] at hv
      split at hv
      · rw [List.getElem?_drop, e1] at hv
        exact ⟨v, hv, hcr⟩
      · simp at hv
    · rw [List.getElem?_append_right (by omega)] at hi
      obtain ⟨v, hv, hcr⟩ := flatF_get hr hm (by omega) (fun f h => hf f (List.mem_cons_of_mem _ h)) _ k hi
      exact ⟨v, by rw [← hv]; congr 1; omega, hcr⟩
theorem flatten_get {l : List FK} {m : Nat} : ∀ {i : Nat} {k : FK}, ((List.replicate m l).flatten)[i]? = some k → 0 < l.length ∧ i / l.length < m ∧ l[i % l.length]? = some k := by
  induction m with
  | zero => intro i k h; simp at h
  | succ m ih =>
    intro i k h
    rw [List.replicate_succ, List.flatten_cons] at h
    by_cases hlt : i < l.length
    · rw [List.getElem?_append_left hlt] at h
      exact ⟨by omega, by rw [Nat.div_eq_of_lt hlt]; omega, by rw [Nat.mod_eq_of_lt hlt]; exact h⟩
    · rw [List.getElem?_append_right (by omega)] at h
      obtain ⟨h1, h2, h3⟩ := ih h
      refine ⟨h1, ?_, ?_⟩
      · rw [Nat.div_eq_sub_div h1 (by omega)]; omega
      · rw [Nat.mod_eq_sub_mod (by omega)]; exact h3
theorem trod_flat {w : World} : ∀ (n : Nat) (t : TypeId) (ks : List FK), flat P n t = some ks → ∀ (fuel : Nat) (cs : List Value) (x : DataW H × List MemPlace), DataW.trod enc P w 0 (fun _ => true) true fuel t cs = some x →
    cs.length = ks.length ∧ ∀ (i : Nat) (k : FK), ks[i]? = some k → ∃ v, cs[i]? = some v ∧ CellR enc P w k v
  | 0, t, ks, h, _, _, _, _ => by simp [flat] at h
  | n + 1, t, ks, h, 0, cs, x, hx => by simp [DataW.trod] at hx
  | n + 1, t, ks, h, fuel + 1, cs, x, hx => by
    simp only [flat] at h
    split at h
    · rename_i hu
      injection h with h; subst h
      simp only [DataW.trod, hu] at hx
      split at hx <;> simp_all
      exact fun i k hi => by
        cases i with
        | zero => simp at hi; subst hi; exact ⟨_, rfl, _, rfl⟩
        | succ i => simp at hi
    · rename_i k0 hu
      injection h with h; subst h
      simp only [DataW.trod, hu] at hx
      split at hx <;> simp_all
      exact fun i k hi => by
        cases i with
        | zero => simp at hi; subst hi; exact ⟨_, rfl, _, rfl, hx.1.2⟩
        | succ i => simp at hi
    · rename_i hu
      injection h with h; subst h
      simp only [DataW.trod, hu] at hx
      split at hx <;> simp_all
      exact fun i k hi => by
        cases i with
        | zero => simp at hi; subst hi; exact ⟨_, rfl, _, rfl, hx.1⟩
        | succ i => simp at hi
    · rename_i e hu
      injection h with h; subst h
      simp only [DataW.trod, hu] at hx
      split at hx
      case h_7 =>
        exact ⟨rfl, fun i k hi => by
          cases i with
          | zero => simp at hi; subst hi; exact ⟨_, rfl, .inl rfl⟩
          | succ i => simp at hi⟩
      case h_8 =>
        rename_i e' a len cap h0
        injection h0 with h0; injection h0 with h0; subst h0
        split at hx
        case isFalse => simp at hx
        rename_i hc
        rw [Option.bind_eq_some_iff] at hx
        obtain ⟨elems, he, _⟩ := hx
        refine ⟨rfl, fun i k hi => ?_⟩
        cases i with
        | succ i => simp at hi
        | zero =>
          simp at hi; subst hi
          refine ⟨_, rfl, .inr ⟨a, len, cap, rfl, hc.2.1, hc.2.2, fun j hj => ?_⟩⟩
          obtain ⟨y, hy⟩ := mapM_mem he j (List.mem_range.2 hj)
          rw [Option.bind_eq_some_iff] at hy
          obtain ⟨row, h1, h2⟩ := hy
          exact ⟨row, h1, fuel, y, h2⟩
      all_goals simp_all
    · rename_i fs hu
      split at h
      case h_2 => simp at h
      rename_i l hl
      split at h
      case h_2 => simp at h
      rename_i hc
      have ec := Nat.eq_of_beq_eq_true hc
      injection h with h; subst h
      simp only [DataW.trod, hu] at hx
      have hx' : (if cs.length = P.cellsOf t then (fs.toList.mapM fun f => DataW.trod enc P w 0 (fun _ => true) true fuel f.type ((cs.drop f.offset).take (P.cellsOf f.type))).map fun xs => (DataW.agg (xs.map (·.1)), xs.flatMap (·.2)) else none) = some x := by
        split at hx <;> simp_all
      clear hx
      split at hx'
      case isFalse => simp at hx'
      rename_i hlen
      rw [Option.map_eq_some_iff] at hx'
      obtain ⟨xs, hxs, _⟩ := hx'
      refine ⟨by rw [hlen, ec], fun i k hi => ?_⟩
      have := flatF_get (cs := cs) (fun t l h => trod_flat n t l h) hl (by omega) (fun f hf => by obtain ⟨y, hy⟩ := mapM_mem hxs f hf; exact ⟨fuel, y, hy⟩) i k hi
      simpa using this
    · rename_i m e hu
      split at h
      case h_2 => simp at h
      rename_i l hl
      split at h
      case h_2 => simp at h
      rename_i hc
      simp only [Bool.and_eq_true] at hc
      have e1 := Nat.eq_of_beq_eq_true hc.1
      have e2 := Nat.eq_of_beq_eq_true hc.2
      injection h with h; subst h
      simp only [DataW.trod, hu] at hx
      have hx' : (if cs.length = P.cellsOf t then ((List.range m).mapM fun i => DataW.trod enc P w 0 (fun _ => true) true fuel e ((cs.drop (i * P.cellsOf e)).take (P.cellsOf e))).map fun xs => (DataW.agg (xs.map (·.1)), xs.flatMap (·.2)) else none) = some x := by
        split at hx <;> simp_all
      clear hx
      split at hx'
      case isFalse => simp at hx'
      rename_i hlen
      rw [Option.map_eq_some_iff] at hx'
      obtain ⟨xs, hxs, _⟩ := hx'
      refine ⟨by rw [hlen, e2]; simp, fun i k hi => ?_⟩
      obtain ⟨h1, h2, h3⟩ := flatten_get hi
      obtain ⟨y, hy⟩ := mapM_mem hxs (i / l.length) (List.mem_range.2 h2)
      obtain ⟨v, hv, hcr⟩ := (trod_flat n e l hl fuel _ _ hy).2 _ k h3
      rw [List.getElem?_take] at hv
      split at hv
      · rw [List.getElem?_drop, e1] at hv
        refine ⟨v, ?_, hcr⟩
        rw [← hv]; congr 1
        have := Nat.div_add_mod i l.length
        rw [Nat.mul_comm]; exact this.symm
      · simp at hv
    · simp at h
def RdV {α : Type} (w : World) (D : Dec α) (v : Value) : Prop := ∃ a, VR w noA noR (D.enc a) v
def RdL {α : Type} (w : World) (E : DecL α) (cs : List Value) : Prop := ∃ a, VRs w noA noR (E.enc a) cs.toArray
def tagK : FK → CK
  | .int k => .int k
  | .bool => .bool
  | .str => .str
  | .sl _ => .any
def flatK : FK → Bool
  | .sl _ => false
  | _ => true
section
variable {w : World} {α β : Type}
theorem rd_int {k : IntKind} {v : Value} (h : CellR enc P w (.int k) v) : RdV w (dI k) v := by
  obtain ⟨n, rfl, _⟩ := h; exact ⟨n, .int⟩
theorem rd_scal {k : FK} (hk : flatK k = true) {v : Value} (h : CellR enc P w k v) : ∃ x, ofScal v = some x ∧ conf (tagK k) x = x := by
  cases k with
  | int k => obtain ⟨n, rfl, _⟩ := h; exact ⟨_, rfl, rfl⟩
  | bool => obtain ⟨n, rfl⟩ := h; exact ⟨_, rfl, rfl⟩
  | str => obtain ⟨n, rfl, _⟩ := h; exact ⟨_, rfl, rfl⟩
  | sl e => simp [flatK] at hk
theorem ckAt_map : ∀ {ks : List FK} {i : Nat} {k : FK}, ks[i]? = some k → ckAt (ks.map tagK) i = tagK k
  | [], i, k, h => by simp at h
  | a :: ks, 0, k, h => by simp at h; subst h; rfl
  | a :: ks, i + 1, k, h => by simp only [List.map_cons, ckAt]; exact ckAt_map (by simpa using h)
theorem mapM_range {f : Nat → Option Value} {n : Nat} {row : List Value} (h : (List.range n).mapM f = some row) (i : Nat) (hi : i < n) : f i = row[i]? := by
  have key : ∀ (l : List Nat) (row : List Value), l.mapM f = some row → ∀ (i x : Nat), l[i]? = some x → f x = row[i]? := by
    intro l
    induction l with
    | nil => intro row _ i x hx; simp at hx
    | cons a l ih =>
      intro row h i x hx
      rw [List.mapM_cons] at h
      cases ha : f a with
      | none => simp [ha] at h
      | some b =>
        cases hl : l.mapM f with
        | none => simp [ha, hl] at h
        | some bs =>
          simp [ha, hl] at h
          subst h
          cases i with
          | zero => simp at hx; subst hx; simpa using ha
          | succ i => simpa using ih bs hl i x (by simpa using hx)
  exact key _ _ h i i (by simp [hi])
theorem cells_at {a : Addr} {n : Nat} {row : List Value} (h : w.cells? 0 a n = some row) : row.length = n ∧ ∀ i, i < n → w.cell? (a.add i) = row[i]? := by
  unfold World.cells? at h
  rw [if_pos (Nat.zero_le _)] at h
  refine ⟨?_, fun i hi => mapM_range h i hi⟩
  have : ∀ (l : List Nat) (row : List Value), (l.mapM fun i => w.cell? (a.add i)) = some row → row.length = l.length := by
    intro l
    induction l with
    | nil => intro row h; simp at h; subst h; rfl
    | cons x l ih =>
      intro row h
      rw [List.mapM_cons] at h
      cases hx : w.cell? (a.add x) with
      | none => simp [hx] at h
      | some b =>
        cases hl : l.mapM (fun i => w.cell? (a.add i)) with
        | none => simp [hx, hl] at h
        | some bs => simp [hx, hl] at h; subst h; simp [ih bs hl]
  simpa using this _ _ h
theorem cell_spot {a : Addr} {v : Value} (h : w.cell? a = some v) : a.spot = none ∧ a.block < w.heap.size := by
  unfold World.cell? at h
  split at h
  · rename_i c _ _ hb
    split at h
    · simp at h
    · rename_i hs; exact ⟨by simpa using hs, (Array.getElem?_eq_some_iff.1 hb).1⟩
  · simp at h
theorem rd_sl {e : TypeId} {n : Nat} {ks : List FK} (hf : flat P n e = some ks) (hwd : P.cellsOf e = ks.length) (hpos : 0 < ks.length) (hk : ks.all flatK = true) {v : Value} (h : CellR enc P w (.sl e) v) : RdV w (dX ks.length (ks.map tagK)) v := by
  rcases h with rfl | ⟨a, len, cap, rfl, h1, h2, h3⟩
  · exact ⟨⟨0, 0, 0, none, fun _ _ => .top⟩, (dX ks.length (ks.map tagK)).ok .nilsl _ rfl _ _ _ _ .nilsl⟩
  · rcases a with ⟨b, off, spot⟩
    rw [hwd] at h3
    have hspot0 : 0 < len → spot = none := fun h0 => by
      obtain ⟨row, hr, fuel, x, hx⟩ := h3 0 h0
      obtain ⟨hl, hat⟩ := cells_at hr
      have h0' := hat 0 hpos
      rw [List.getElem?_eq_getElem (by omega)] at h0'
      have := (cell_spot h0').1
      simpa [Addr.add] using this
    have hcell : ∀ i k, i < len → k < ks.length → ∃ v kk, ks[k]? = some kk ∧ w.cell? ⟨b, off + (i * ks.length + k), spot⟩ = some v ∧ CellR enc P w kk v ∧ spot = none ∧ b < w.heap.size := by
      intro i k hi hkk
      obtain ⟨row, hr, fuel, x, hx⟩ := h3 i hi
      obtain ⟨hl, hat⟩ := cells_at hr
      obtain ⟨v, hv, hc⟩ := (trod_flat n e ks hf fuel row x hx).2 k _ (List.getElem?_eq_getElem hkk)
      have := hat k hkk
      rw [hv] at this
      obtain ⟨hs, hb⟩ := cell_spot this
      have hspot : spot = none := hspot0 (by omega)
      subst hspot
      rw [addr_add, addr_add] at this hb
      exact ⟨v, _, List.getElem?_eq_getElem hkk, by rw [← Nat.add_assoc]; exact this, hc, rfl, hb⟩
    let u : Nat → Nat → Value := fun i k => (w.cell? ⟨b, off + (i * ks.length + k), none⟩).getD undef
    refine ⟨⟨len, 0, len, none, fun i k => (ofScal (u i k)).getD .top⟩, .xsl b off u ⟨h1, ?_⟩ (fun x hx => by cases hx) (by simp) (fun h0 => ?_) (fun h0 i k hi hkk => ?_) (fun h0 i k hi hkk => ?_)⟩
    · have : cap ≤ 2 ^ 63 - 1 := h2
      show len ≤ 9223372036854775807
      omega
    · obtain ⟨v, kk, _, _, _, hs, hb⟩ := hcell 0 0 h0 hpos
      subst hs
      exact ⟨by simp, hb, fun h => h⟩
    · obtain ⟨v, kk, _, hv, _, hs, _⟩ := hcell i k hi hkk
      subst hs
      simp only [u, hv, Option.getD_some]
    · obtain ⟨v, kk, hkk', hv, hc, hs, _⟩ := hcell i k hi hkk
      subst hs
      have hu : u i k = v := by simp only [u, hv, Option.getD_some]
      obtain ⟨x, hx, hcf⟩ := rd_scal (List.all_eq_true.1 hk kk (List.mem_of_getElem? hkk')) hc
      have e : (⟨ks.map tagK, fun i k => (ofScal (u i k)).getD .top⟩ : Get AV).cell i k = x := by
        simp only [Get.cell, hu, hx, Option.getD_some, ckAt_map hkk', hcf]
      rw [e, hu]
      exact ofScal_rel hx
theorem rdL_cons {D : Dec α} {E : DecL β} {v : Value} {cs : List Value} (h : RdV w D v) (k : RdL w E cs) : RdL w (.cons D E) (v :: cs) := by
  obtain ⟨a, ha⟩ := h; obtain ⟨b, hb⟩ := k
  refine ⟨(a, b), ?_⟩
  have := VRs.cons' ha hb
  show VRs w noA noR (D.enc a :: E.enc b) (v :: cs).toArray
  simpa using this
theorem rdL_last {D : Dec α} {v : Value} (h : RdV w D v) : RdL w (.last D 0) [v] := by
  obtain ⟨a, ha⟩ := h
  exact ⟨a, VRs.one ha⟩
theorem okWide_cell {r : Reach} {b : Nat} {t : TypeId} {v : Value} (hu : aggB P t = some false) (h : Value.okWide P w r b t v) : v.cells = #[v] := by
  unfold Value.okWide at h
  unfold aggB at hu
  split at h
  · simp_all
  · simp_all
  · cases v with
    | agg cs =>
      unfold Cell.okWide at h
      split at h <;> try simp_all
      unfold Cell.ok at h
      split at h <;> simp_all
    | _ => rfl
theorem param_cell {n : Nat} {t : TypeId} {k : FK} {r : Reach} {b : Nat} {v : Value} {d : DataW H} {p : List MemPlace} (hf : flat P n t = some [k]) (hu : aggB P t = some false) (hok : Value.okWide P w r b t v) (h : DataW.Trod enc P w 0 (fun _ => true) true t v d p) : CellR enc P w k v := by
  obtain ⟨fuel, hx⟩ := h
  rw [okWide_cell hu hok] at hx
  obtain ⟨v', hv, hc⟩ := (trod_flat n t [k] hf fuel _ _ hx).2 0 k rfl
  simp at hv; subst hv; exact hc
end
theorem law_contract {f : FuncId} {fn : Func} {s : ChangeSpec} {apart fresh handsOn again : Bool} {α : Type} (D : DecL α) (hl : laidOutB P = true) (hts : (fn.params.toList.all fun t => P.readableRec t && decide (t < P.types.size)) = true)
    (hvars : s.vars = []) (hfn : ∀ (ds : List (DataW H)), ds.length = fn.params.toList.length → s.fn H (ds ++ []) = { results := [.lit (.bool true)], args := ds })
    (hres : ∀ (W' : World) (b : Nat) (sp : Nat → Bool) (hd : Bool), DataW.TrodAll enc P W' b sp hd fn.resultTypes.toList ((Value.bool true).resultList fn.resultTypes.size) [.lit (.bool true)] [])
    (hok : ∀ (W' : World) (j : Nat) (t : TypeId) (r : Value), fn.resultTypes[j]? = some t → ((Value.bool true).resultList fn.resultTypes.size)[j]? = some r → Value.okWide P W' .any 0 t r)
    (hread : ∀ (W : World) (base : Nat) (args : Array Value) (ds : List (DataW H)) (p : List MemPlace), (∀ (j : Nat) t v, fn.params[j]? = some t → args[j]? = some v → Value.okWide P W .any base t v) →
      DataW.TrodAll enc P W 0 (fun _ => true) true fn.params.toList args.toList ds p → RdL W D args.toList)
    (hpc : ∀ a, PC P f (D.enc a) (.bool true))
    (W : World) (base : Nat) (args : Array Value) (ds gs : List (DataW H)) (before : List MemPlace) (hval : ∀ (j : Nat) t v, fn.params[j]? = some t → args[j]? = some v → Value.okWide P W .any base t v)
    (hW : DataW.Whole enc P fn.params.toList s.vars apart W args.toList ds gs before) :
    Calls P f args W fun e W' => ∃ v, e = .returned v ∧ s.post enc P fn apart fresh handsOn again W args v W' := by
  have hW' := hW
  obtain ⟨p, q, hA, hV, hbef, hfz, hnd⟩ := hW
  have hV' := hV
  rw [hvars] at hV'
  obtain ⟨rfl, rfl⟩ := trodVars_none hV'
  obtain ⟨a, ha⟩ := hread W base args ds p hval hA
  have h := callsIn_wide.1 (hpc a none 0 noA W args (fun b hb => hb.elim) (by simpa using ha))
  have hlen : ds.length = fn.params.toList.length := by
    have : ∀ (ts : List TypeId) (vs : List Value) (ds : List (DataW H)) (p : List MemPlace), DataW.TrodAll enc P W 0 (fun _ => true) true ts vs ds p → ds.length = ts.length := by
      intro ts
      induction ts with
      | nil => intro vs ds p h; obtain ⟨_, rfl, _⟩ := trodAll_nil h; rfl
      | cons t ts ih =>
        intro vs ds p h
        obtain ⟨_, _, _, _, _, _, _, rfl, _, _, h2⟩ := trodAll_cons h
        simp [ih _ _ _ h2]
    exact this _ _ _ _ hA
  refine h.mono fun e W' hx => ?_
  obtain ⟨v, he, hv, hb0⟩ := hx
  have hb := hb0.toBelow
  obtain rfl : v = .bool true := by cases hv; rfl
  have hpl : before = p := by rw [hbef]; simp
  subst hpl
  refine ⟨_, he, post_of_below (pa := before) (pv := []) hW' (fun b sp hd => ?_) (fun sp hsp => ?_) (fun sp _ => ?_) (by simp) hb (hok W')⟩
  · rw [hfn ds hlen]; exact hres W' b sp hd
  · rw [hfn ds hlen]
    refine trodAll_stays hl hb (fun t ht => ?_) hA (fun x hx => hA.lt x hx) hsp
    have := List.all_eq_true.1 hts t ht
    simpa using this
  · rw [hfn ds hlen, hvars]; rfl
end
end Go.Proofs.YtelpdkojdfnmiaaGreat.Ev
/-! LR0 -/
namespace Go.Proofs.YtelpdkojdfnmiaaGreat
open Ev K
set_option maxRecDepth 100000
section
variable {H : Type} {enc : TypeId × Value → H} {w : World}
theorem fl_item : flat P 8 73 = some (List.replicate 7 (.int .i64)) := by kernel_rfl
theorem fl_int : flat P 8 3 = some [.int .i64] := by kernel_rfl
theorem fl_items : flat P 8 29 = some [.sl 73] := by kernel_rfl
theorem ag_int : aggB P 3 = some false := by kernel_rfl
theorem ag_items : aggB P 29 = some false := by kernel_rfl
theorem rx_items {v : Value} (h : CellR enc P w (.sl 73) v) : RdV w (dRows rItem) v := by
  obtain ⟨a, ha⟩ := rd_sl fl_item (by kernel_rfl) (by decide) (by decide) h
  exact ⟨decF rItem a.len fun i => a.f (a.row + i), (dRows rItem).ok _ _ rfl _ _ _ _ ha⟩
variable {r : Reach} {b : Nat} {v : Value} {d : DataW H} {p : List MemPlace}
theorem rp_items (hok : Value.okWide P w r b 29 v) (h : DataW.Trod enc P w 0 (fun _ => true) true 29 v d p) : RdV w (dRows rItem) v := rx_items (param_cell fl_items ag_items hok h)
theorem rp_int (hok : Value.okWide P w r b 3 v) (h : DataW.Trod enc P w 0 (fun _ => true) true 3 v d p) : RdV w (dI .i64) v := rd_int (param_cell fl_int ag_int hok h)
end
end Go.Proofs.YtelpdkojdfnmiaaGreat
/-! LP0 -/
namespace Go.Proofs.YtelpdkojdfnmiaaGreat
open Ev K
open Go.Sort Go.Proofs
set_option maxRecDepth 100000
namespace K
def ltK (x y : Itm) : Prop := x.known < y.known ∨ x.known = y.known ∧ x.id < y.id
instance (x y : Itm) : Decidable (ltK x y) := by unfold ltK; infer_instance
theorem sortI_spec (l : List Itm) : (sortI l).Perm l ∧ (sortI l).Pairwise fun x y => ¬ ltK y x := by
  obtain ⟨h1, h2⟩ := sortF_spec swoI l
  exact ⟨h1, h2.imp fun h => by rw [ltI, decide_eq_false_iff_not] at h; exact h⟩
theorem sortB_spec (l : List Bal) : (sortB l).Perm l ∧ (sortB l).Pairwise fun x y => ¬ y.account < x.account := by
  obtain ⟨h1, h2⟩ := sortF_spec swoB l
  exact ⟨h1, h2.imp fun h => by rw [ltB, decide_eq_false_iff_not] at h; exact h⟩
theorem uniq_of {α : Type} {R : α → α → Prop} (has : ∀ a b, R a b → R b a → False) : ∀ {l l' : List α}, l.Pairwise R → l'.Pairwise R → (∀ x, x ∈ l ↔ x ∈ l') → l = l'
  | [], [], _, _, _ => rfl
  | [], y :: t, _, _, h => by have := (h y).2 (List.mem_cons_self ..); cases this
  | x :: t, [], _, _, h => by have := (h x).1 (List.mem_cons_self ..); cases this
  | x :: t, y :: t', h1, h2, h => by
    have a1 := List.pairwise_cons.1 h1
    have a2 := List.pairwise_cons.1 h2
    have e : x = y := Classical.byContradiction fun hne => by
      have hx := (h x).1 (List.mem_cons_self ..)
      have hy := (h y).2 (List.mem_cons_self ..)
      rcases List.mem_cons.1 hx with e | hx
      · exact hne e
      rcases List.mem_cons.1 hy with e | hy
      · exact hne e.symm
      exact has _ _ (a1.1 y hy) (a2.1 x hx)
    subst e
    congr 1
    refine uniq_of has a1.2 a2.2 fun z => ⟨fun hz => ?_, fun hz => ?_⟩
    · rcases List.mem_cons.1 ((h z).1 (List.mem_cons_of_mem _ hz)) with e | h3
      · subst e; exact (has _ _ (a1.1 z hz) (a1.1 z hz)).elim
      · exact h3
    · rcases List.mem_cons.1 ((h z).2 (List.mem_cons_of_mem _ hz)) with e | h3
      · subst e; exact (has _ _ (a2.1 z hz) (a2.1 z hz)).elim
      · exact h3
theorem ltK_as (a b : Itm) (h1 : ltK a b) (h2 : ltK b a) : False := by unfold ltK at *; omega
theorem ltK_tr {a b c : Itm} (h1 : ltK a b) (h2 : ltK b c) : ltK a c := by unfold ltK at *; omega
def One (l : List Itm) : Prop := ∀ x ∈ l, ∀ y ∈ l, x.id = y.id → x = y
theorem One.sub {l l' : List Itm} (h : One l) (hs : ∀ x ∈ l', x ∈ l) : One l' := fun x hx y hy => h x (hs x hx) y (hs y hy)
theorem cp_sorted {l : List Itm} (ho : One l) (hs : l.Pairwise fun x y => ¬ ltK y x) : (cp l).Pairwise ltK ∧ ∀ x, x ∈ cp l ↔ x ∈ l := by
  have key : ∀ (l acc : List Itm), One (acc ++ l) → (acc ++ l).Pairwise (fun x y => ¬ ltK y x) → acc.Pairwise ltK → (l.foldl cpi acc).Pairwise ltK ∧ ∀ x, x ∈ l.foldl cpi acc ↔ x ∈ acc ∨ x ∈ l := by
    intro l
    induction l with
    | nil => intro acc _ _ h; exact ⟨h, fun x => by simp⟩
    | cons x l ih =>
      intro acc ho hs ha
      rw [List.foldl_cons]
      by_cases hx : acc.getLast? = some x
      · have e : cpi acc x = acc := if_pos hx
        have hm : x ∈ acc := List.mem_of_getLast? hx
        rw [e]
        obtain ⟨h1, h2⟩ := ih acc (ho.sub fun y hy => by rcases List.mem_append.1 hy with h | h; exact List.mem_append_left _ h; exact List.mem_append_right _ (List.mem_cons_of_mem _ h))
          (hs.sublist (List.Sublist.append_left (List.sublist_cons_self _ _) _)) ha
        refine ⟨h1, fun y => (h2 y).trans ⟨fun h => ?_, fun h => ?_⟩⟩
        · rcases h with h | h; exact .inl h; exact .inr (List.mem_cons_of_mem _ h)
        · rcases h with h | h
          · exact .inl h
          · rcases List.mem_cons.1 h with e | h
            · subst e; exact .inl hm
            · exact .inr h
      · have e : cpi acc x = acc ++ [x] := if_neg hx
        rw [e]
        have hs2 : ((acc ++ [x]) ++ l).Pairwise (fun x y => ¬ ltK y x) := by rw [List.append_assoc]; exact hs
        have hp : (acc ++ [x]).Pairwise ltK := by
          refine List.pairwise_append.2 ⟨ha, List.pairwise_singleton .., fun y hy z hz => ?_⟩
          simp only [List.mem_singleton] at hz; subst hz
          have h3 := (List.pairwise_append.1 hs).2.2 y hy z (List.mem_cons_self ..)
          have hne : y.id = z.id → False := by
            intro hid
            have hyz : y = z := ho y (List.mem_append_left _ hy) z (List.mem_append_right _ (List.mem_cons_self ..)) hid
            subst hyz
            obtain ⟨w, hw⟩ : ∃ w, acc.getLast? = some w := by
              cases h : acc.getLast? with
              | none => rw [List.getLast?_eq_none_iff] at h; subst h; cases hy
              | some w => exact ⟨w, rfl⟩
            have hwm : w ∈ acc := List.mem_of_getLast? hw
            have hwx := (List.pairwise_append.1 hs).2.2 w hwm y (List.mem_cons_self ..)
            obtain ⟨L, hL⟩ := List.getLast?_eq_some_iff.1 hw
            rw [hL] at hy ha
            rcases List.mem_append.1 hy with h | h
            · exact hwx ((List.pairwise_append.1 ha).2.2 y h w (by simp))
            · simp only [List.mem_singleton] at h; subst h; exact hx hw
          have hne' : y.id ≠ z.id := hne
          show ltK y z
          unfold ltK at h3 ⊢
          omega
        obtain ⟨h1, h2⟩ := ih (acc ++ [x]) (ho.sub fun y hy => by rw [List.append_assoc] at hy; exact hy) hs2 hp
        exact ⟨h1, fun y => (h2 y).trans (by simp [or_assoc])⟩
  obtain ⟨h1, h2⟩ := key l [] (by simpa using ho) (by simpa using hs) List.Pairwise.nil
  exact ⟨h1, fun x => (h2 x).trans (by simp)⟩
theorem srt_sorted {l : List Itm} (ho : One l) : (srt l).Pairwise ltK ∧ ∀ x, x ∈ srt l ↔ x ∈ l := by
  obtain ⟨h1, h2⟩ := sortI_spec l
  obtain ⟨h3, h4⟩ := cp_sorted (ho.sub fun x hx => h1.mem_iff.1 hx) h2
  exact ⟨h3, fun x => (h4 x).trans h1.mem_iff⟩
theorem srt_unique {l l' : List Itm} (ho : One l) (h : l'.Pairwise ltK) (hm : ∀ x, x ∈ l' ↔ x ∈ l) : srt l = l' := by
  obtain ⟨h3, h4⟩ := srt_sorted ho
  exact uniq_of ltK_as h3 h fun x => (h4 x).trans (hm x).symm
theorem known_filter {known : Int} : ∀ {l : List Itm}, l.Pairwise ltK → knownOn known l = l.filter fun x => decide (x.known ≤ known)
  | [], _ => rfl
  | x :: l, h => by
    have a := List.pairwise_cons.1 h
    by_cases hx : x.known ≤ known
    · unfold knownOn
      rw [List.takeWhile_cons_of_pos (by simpa using hx), List.filter_cons_of_pos (by simpa using hx)]
      congr 1
      exact known_filter a.2
    · unfold knownOn
      rw [List.takeWhile_cons_of_neg (by simpa using hx), List.filter_cons_of_neg (by simpa using hx)]
      symm
      rw [List.filter_eq_nil_iff]
      intro y hy
      have := a.1 y hy
      unfold ltK at this
      simp only [decide_eq_true_eq]; omega
def insR (l : List Itm) (x : Itm) : List Itm := match l with
  | [] => [x]
  | y :: t => if ltK y x then y :: insR t x else if y = x then y :: t else x :: y :: t
theorem insR_sorted : ∀ {l : List Itm} {x : Itm}, l.Pairwise ltK → One (x :: l) → (insR l x).Pairwise ltK ∧ ∀ z, z ∈ insR l x ↔ z = x ∨ z ∈ l
  | [], x, _, _ => ⟨List.pairwise_singleton .., fun z => by simp [insR]⟩
  | y :: t, x, h, ho => by
    have a := List.pairwise_cons.1 h
    unfold insR
    by_cases h1 : ltK y x
    · rw [if_pos h1]
      obtain ⟨b1, b2⟩ := insR_sorted (x := x) a.2 (ho.sub fun z hz => by rcases List.mem_cons.1 hz with e | hz; exact e ▸ List.mem_cons_self ..; exact List.mem_cons_of_mem _ (List.mem_cons_of_mem _ hz))
      refine ⟨List.pairwise_cons.2 ⟨fun z hz => ?_, b1⟩, fun z => ?_⟩
      · rcases (b2 z).1 hz with e | hz
        · subst e; exact h1
        · exact a.1 z hz
      · simp only [List.mem_cons, b2]
        constructor
        · rintro (h | h | h); exact .inr (.inl h); exact .inl h; exact .inr (.inr h)
        · rintro (h | h | h); exact .inr (.inl h); exact .inl h; exact .inr (.inr h)
    · rw [if_neg h1]
      by_cases h2 : y = x
      · rw [if_pos h2]; subst h2
        exact ⟨h, fun z => by simp⟩
      · rw [if_neg h2]
        have hid : y.id ≠ x.id := fun e => h2 (ho y (by simp) x (by simp) e)
        have hxy : ltK x y := by unfold ltK at *; omega
        refine ⟨List.pairwise_cons.2 ⟨fun z hz => ?_, h⟩, fun z => by simp⟩
        rcases List.mem_cons.1 hz with e | hz
        · subst e; exact hxy
        · exact ltK_tr hxy (a.1 z hz)
def sortedR (l : List Itm) : List Itm := l.foldl insR []
theorem sortedR_eq {l : List Itm} (ho : One l) : sortedR l = srt l := by
  have key : ∀ (l acc : List Itm), acc.Pairwise ltK → One (acc ++ l) → (l.foldl insR acc).Pairwise ltK ∧ ∀ z, z ∈ l.foldl insR acc ↔ z ∈ acc ∨ z ∈ l := by
    intro l
    induction l with
    | nil => intro acc h _; exact ⟨h, fun z => by simp⟩
    | cons x l ih =>
      intro acc h ho
      rw [List.foldl_cons]
      obtain ⟨a, b⟩ := insR_sorted (x := x) h (ho.sub fun z hz => by rcases List.mem_cons.1 hz with e | hz; exact e ▸ List.mem_append_right _ (List.mem_cons_self ..); exact List.mem_append_left _ hz)
      obtain ⟨c, d⟩ := ih (insR acc x) a (ho.sub fun z hz => by
        rcases List.mem_append.1 hz with hz | hz
        · rcases (b z).1 hz with e | hz
          · subst e; exact List.mem_append_right _ (List.mem_cons_self ..)
          · exact List.mem_append_left _ hz
        · exact List.mem_append_right _ (List.mem_cons_of_mem _ hz))
      refine ⟨c, fun z => (d z).trans ?_⟩
      rw [b, List.mem_cons]
      constructor
      · rintro ((h | h) | h); exact .inr (.inl h); exact .inl h; exact .inr (.inr h)
      · rintro (h | h | h); exact .inl (.inr h); exact .inl (.inl h); exact .inr h
  obtain ⟨h1, h2⟩ := key l [] List.Pairwise.nil (by simpa using ho)
  exact (srt_unique ho h1 fun x => (h2 x).trans (by simp)).symm
end K
end Go.Proofs.YtelpdkojdfnmiaaGreat
/-! LP1 -/
namespace Go.Proofs.YtelpdkojdfnmiaaGreat
open Ev K
set_option maxRecDepth 100000
namespace K
@[ext] structure RB where (number day account : Int) (l : List Chg)
  deriving DecidableEq, Inhabited
@[ext] structure RBk where
  closed : Int
  p : List Pst
  refused : List Int
  bills : List RB
  paid : List Bal
  bonds : List Bal
  stands : List Itm
  deriving DecidableEq, Inhabited
def heldB (l : List Bal) (a : Int) : Int := match l.find? fun b => b.account == a with
  | some b => b.amount
  | none => 0
def moreB (l : List Bal) (a m : Int) : List Bal := match l with
  | [] => [⟨a, m⟩]
  | b :: t => if b.account < a then b :: moreB t a m else if b.account = a then ⟨a, b.amount + m⟩ :: t else ⟨a, m⟩ :: b :: t
def addL (l : List Int) (n : Int) : List Int := match l with
  | [] => [n]
  | b :: t => if b < n then b :: addL t n else n :: b :: t
def billR (l : List RB) (n : Int) : Option Nat := l.findIdx? fun b => b.number == n
def badR (b : RBk) (x : Itm) : Bool :=
  if x.kind = 7 then decide (x.day ≤ b.closed) else
  decide (b.closed + 1 > 728) || (decide (x.kind = 1) && (billR b.bills x.bill).isSome) || (decide (x.kind = 2) && !(billR b.bills x.bill).isSome) ||
    (decide (x.kind = 4) && decide (heldB b.paid x.account < x.amount)) || (decide (x.kind = 6) && decide (heldB b.bonds x.account < x.amount))
def twoR (b : RBk) (x : Itm) (day a c m : Int) : RBk := { b with p := b.p ++ [⟨x.id, max day (b.closed + 1), a, m⟩, ⟨x.id, max day (b.closed + 1), c, 0 - m⟩] }
def lastA (l : List Chg) : Int := (l.getLastD default).amount
def doneR (b : RBk) (x : Itm) : RBk :=
  if badR b x then { b with refused := addL b.refused x.id } else
  let b := { b with stands := b.stands ++ [x] }
  if x.kind = 1 then twoR { b with bills := b.bills ++ [⟨x.bill, x.day, x.account, [⟨x.known, x.amount⟩]⟩] } x x.day x.account 2 x.amount
  else if x.kind = 2 then (match billR b.bills x.bill with
    | some q => twoR { b with bills := b.bills.set q { b.bills.getD q default with l := (b.bills.getD q default).l ++ [⟨x.known, x.amount⟩] } } x (b.bills.getD q default).day (b.bills.getD q default).account 2 (x.amount - lastA (b.bills.getD q default).l)
    | none => b)
  else if x.kind = 3 then twoR { b with paid := moreB b.paid x.account x.amount } x x.day 1 x.account x.amount
  else if x.kind = 4 then twoR { b with paid := moreB b.paid x.account (0 - x.amount) } x x.day x.account 1 x.amount
  else if x.kind = 5 then twoR { b with bonds := moreB b.bonds x.account x.amount } x x.day 1 3 x.amount
  else if x.kind = 6 then twoR { b with bonds := moreB b.bonds x.account (0 - x.amount) } x x.day 3 1 x.amount
  else { b with closed := x.day }
def rb0 : RBk := ⟨-1, [], [], [], [], [], []⟩
def keepR (l : List Itm) (known : Int) : RBk := ((srt l).filter fun x => decide (x.known ≤ known)).foldl doneR rb0
structure Mp (m : List (Int × Int)) (l : List Bal) : Prop where
  keys : (m.map (·.1)).Nodup
  sorted : l.Pairwise fun x y => x.account < y.account
  mem : ∀ b, b ∈ l ↔ (b.account, b.amount) ∈ m
theorem Mp.nil : Mp [] [] := ⟨List.nodup_nil, List.Pairwise.nil, fun b => by simp⟩
theorem keys_uniq {m : List (Int × Int)} (h : (m.map (·.1)).Nodup) {a v w : Int} (h1 : (a, v) ∈ m) (h2 : (a, w) ∈ m) : v = w := by
  obtain ⟨i, hi, e1⟩ := List.getElem_of_mem h1
  obtain ⟨j, hj, e2⟩ := List.getElem_of_mem h2
  have := (List.getElem_inj (h₀ := by simpa using hi) (h₁ := by simpa using hj) h).1 (by simp [e1, e2])
  subst this; rw [e1] at e2; injection e2
theorem lookM_mem {m : List (Int × Int)} (h : (m.map (·.1)).Nodup) {a v : Int} (h1 : (a, v) ∈ m) : lookM m a = v := by
  unfold lookM
  cases hf : fM m a with
  | none =>
    unfold fM at hf
    rw [List.findIdx?_eq_none_iff] at hf
    have := hf _ h1
    simp at this
  | some i =>
    have hi := fM_some hf
    unfold fM at hf
    rw [List.findIdx?_eq_some_iff_getElem] at hf
    have hk : m[i].1 = a := (beq_iff_eq.1 hf.2.1).symm
    simp only
    rw [List.getD_eq_getElem?_getD, List.getElem?_eq_getElem hi]
    refine keys_uniq h (a := a) ?_ h1
    have : m[i] = (a, m[i].2) := by rw [← hk]
    simp only [Option.getD_some]
    rw [← this]; exact List.getElem_mem hi
theorem lookM_none {m : List (Int × Int)} {a : Int} (h : ∀ v, (a, v) ∉ m) : lookM m a = 0 := by
  unfold lookM
  cases hf : fM m a with
  | none => rfl
  | some i =>
    have hi := fM_some hf
    unfold fM at hf
    rw [List.findIdx?_eq_some_iff_getElem] at hf
    have hk : m[i].1 = a := (beq_iff_eq.1 hf.2.1).symm
    exfalso
    exact h m[i].2 (by rw [← hk]; exact List.getElem_mem hi)
theorem Mp.held {m : List (Int × Int)} {l : List Bal} (h : Mp m l) (a : Int) : heldB l a = lookM m a := by
  unfold heldB
  cases hf : l.find? fun b => b.account == a with
  | none =>
    rw [List.find?_eq_none] at hf
    refine (lookM_none fun v hv => ?_).symm
    have := hf ⟨a, v⟩ ((h.mem _).2 hv)
    simp at this
  | some b =>
    have hb := List.mem_of_find?_eq_some hf
    have he := List.find?_some hf
    simp only [beq_iff_eq] at he
    subst he
    exact (lookM_mem h.keys ((h.mem b).1 hb)).symm
theorem put_mem {m : List (Int × Int)} (h : (m.map (·.1)).Nodup) (n v : Int) (p : Int × Int) : p ∈ putM m n v ↔ p = (n, v) ∨ (p ∈ m ∧ p.1 ≠ n) := by
  unfold putM
  cases hf : fM m n with
  | none =>
    unfold fM at hf
    rw [List.findIdx?_eq_none_iff] at hf
    simp only [List.mem_append, List.mem_singleton]
    constructor
    · rintro (h1 | h1)
      · have := hf p h1
        exact .inr ⟨h1, fun e => by simp [e] at this⟩
      · exact .inl h1
    · rintro (h1 | h1)
      · exact .inr h1
      · exact .inl h1.1
  | some i =>
    have hi := fM_some hf
    unfold fM at hf
    rw [List.findIdx?_eq_some_iff_getElem] at hf
    have hk : m[i].1 = n := (beq_iff_eq.1 hf.2.1).symm
    simp only
    constructor
    · intro hp
      obtain ⟨j, hj, e⟩ := List.getElem_of_mem hp
      rw [List.length_set] at hj
      rw [List.getElem_set] at e
      split at e
      · exact .inl e.symm
      · rename_i hne
        refine .inr ⟨e ▸ List.getElem_mem hj, fun e2 => hne ?_⟩
        exact (List.getElem_inj (h₀ := by simpa using hi) (h₁ := by simpa using hj) h).1 (by simp [hk, e, e2])
    · rintro (e | ⟨hp, hne⟩)
      · subst e; exact List.mem_set hi _
      · obtain ⟨j, hj, e⟩ := List.getElem_of_mem hp
        have hij : i ≠ j := fun e2 => by subst e2; exact hne (by rw [← e]; exact hk)
        have : (m.set i (n, v))[j]'(by simpa using hj) = p := by rw [List.getElem_set_ne hij]; exact e
        rw [← this]; exact List.getElem_mem _
theorem moreB_mem : ∀ {l : List Bal} {a m : Int}, l.Pairwise (fun x y => x.account < y.account) → (moreB l a m).Pairwise (fun x y => x.account < y.account) ∧ ∀ b, b ∈ moreB l a m ↔ b = ⟨a, heldB l a + m⟩ ∨ (b ∈ l ∧ b.account ≠ a)
  | [], a, m, _ => ⟨List.pairwise_singleton .., fun b => by simp [moreB, heldB]⟩
  | c :: t, a, m, h => by
    have hh := List.pairwise_cons.1 h
    unfold moreB
    by_cases h1 : c.account < a
    · rw [if_pos h1]
      obtain ⟨b1, b2⟩ := moreB_mem (a := a) (m := m) hh.2
      have he : heldB (c :: t) a = heldB t a := by
        unfold heldB; rw [List.find?_cons_of_neg (by simp; omega)]
      refine ⟨List.pairwise_cons.2 ⟨fun z hz => ?_, b1⟩, fun b => ?_⟩
      · rcases (b2 z).1 hz with e | hz
        · subst e; exact h1
        · exact hh.1 z hz.1
      · rw [he, List.mem_cons, b2, List.mem_cons]
        constructor
        · rintro (e | e | e)
          · subst e; exact .inr ⟨.inl rfl, by omega⟩
          · exact .inl e
          · exact .inr ⟨.inr e.1, e.2⟩
        · rintro (e | ⟨e | e, h2⟩)
          · exact .inr (.inl e)
          · exact .inl e
          · exact .inr (.inr ⟨e, h2⟩)
    · rw [if_neg h1]
      by_cases h2 : c.account = a
      · rw [if_pos h2]
        have he : heldB (c :: t) a = c.amount := by
          unfold heldB; rw [List.find?_cons_of_pos (by simpa using h2)]
        refine ⟨List.pairwise_cons.2 ⟨fun z hz => by have := hh.1 z hz; show a < _; omega, hh.2⟩, fun b => ?_⟩
        rw [he, List.mem_cons, List.mem_cons]
        constructor
        · rintro (e | e)
          · exact .inl e
          · exact .inr ⟨.inr e, by have := hh.1 b e; omega⟩
        · rintro (e | ⟨e | e, h3⟩)
          · exact .inl e
          · subst e; exact absurd h2 h3
          · exact .inr e
      · rw [if_neg h2]
        have he : heldB (c :: t) a = 0 := by
          unfold heldB
          rw [List.find?_eq_none.2]
          intro b hb
          rcases List.mem_cons.1 hb with e | hb
          · subst e; simpa using h2
          · have := hh.1 b hb; simp; omega
        refine ⟨List.pairwise_cons.2 ⟨fun z hz => ?_, h⟩, fun b => ?_⟩
        · rcases List.mem_cons.1 hz with e | hz
          · subst e; show a < _; omega
          · have := hh.1 z hz; show a < _; omega
        · rw [he, Int.zero_add, List.mem_cons]
          constructor
          · rintro (e | e)
            · exact .inl e
            · refine .inr ⟨e, ?_⟩
              rcases List.mem_cons.1 e with e | e
              · subst e; exact h2
              · have := hh.1 b e; omega
          · rintro (e | e)
            · exact .inl e
            · exact .inr e.1
theorem Mp.more {m : List (Int × Int)} {l : List Bal} (h : Mp m l) (a v w : Int) (hw : w = lookM m a + v) : Mp (putM m a w) (moreB l a v) := by
  subst hw
  obtain ⟨h1, h2⟩ := moreB_mem (a := a) (m := v) h.sorted
  refine ⟨nodup_put h.keys, h1, fun b => ?_⟩
  rw [h2, put_mem h.keys, h.held, h.mem]
  constructor
  · rintro (e | e)
    · subst e; exact .inl rfl
    · exact .inr e
  · rintro (e | e)
    · injection e with e1 e2; exact .inl (Bal.ext e1 e2)
    · exact .inr e
theorem Mp.list {m : List (Int × Int)} {l : List Bal} (h : Mp m l) : listB m = l := by
  obtain ⟨h1, h2⟩ := sortB_spec (m.map balOf)
  have hk : (listB m).Pairwise fun x y => x.account < y.account := by
    have hn : ((listB m).map (·.account)).Nodup := by
      refine (h1.map _).nodup_iff.2 ?_
      rw [List.map_map]; exact h.keys
    have := (List.pairwise_map.1 hn).and h2
    exact this.imp fun ⟨a, b⟩ => by omega
  refine uniq_of (R := fun x y : Bal => x.account < y.account) (fun a b h1 h2 => by omega) hk h.sorted fun b => ?_
  rw [h.mem]
  refine h1.mem_iff.trans ?_
  rw [List.mem_map]
  constructor
  · rintro ⟨p, hp, rfl⟩; exact hp
  · intro hp; exact ⟨_, hp, rfl⟩
theorem addL_spec : ∀ {l : List Int} {n : Int}, l.Pairwise (· ≤ ·) → (addL l n).Pairwise (· ≤ ·) ∧ (addL l n).Perm (l ++ [n])
  | [], n, _ => ⟨List.pairwise_singleton .., List.Perm.refl _⟩
  | b :: t, n, h => by
    have hh := List.pairwise_cons.1 h
    unfold addL
    by_cases h1 : b < n
    · rw [if_pos h1]
      obtain ⟨a1, a2⟩ := addL_spec (n := n) hh.2
      refine ⟨List.pairwise_cons.2 ⟨fun z hz => ?_, a1⟩, a2.cons b⟩
      rcases List.mem_append.1 (a2.mem_iff.1 hz) with hz | hz
      · exact hh.1 z hz
      · simp only [List.mem_singleton] at hz; omega
    · rw [if_neg h1]
      refine ⟨List.pairwise_cons.2 ⟨fun z hz => ?_, h⟩, List.perm_append_comm (l₁ := [n])⟩
      rcases List.mem_cons.1 hz with e | hz
      · omega
      · have := hh.1 z hz; omega
def rbOf (b : Std × List Chg) : RB := ⟨b.1.no, b.1.item.day, b.1.item.account, b.2⟩
structure Rel (k : Bk) (b : RBk) : Prop where
  closed : b.closed = k.closed
  p : b.p = k.posts
  refused : b.refused.Pairwise (· ≤ ·) ∧ b.refused.Perm k.refused
  bills : b.bills = k.bills.map rbOf
  last : ∀ s ∈ k.bills, lastA s.2 = s.1.amount ∧ (0 ≤ s.1.item.day ∧ s.1.item.day ≤ 728)
  paid : Mp k.paid b.paid
  bonds : Mp k.bonds b.bonds
  stands : b.stands = k.taken
  low : -1 ≤ k.closed
theorem Rel.zero : Rel bk0 rb0 := ⟨rfl, rfl, ⟨List.Pairwise.nil, List.Perm.refl _⟩, rfl, (fun s h => by cases h), Mp.nil, Mp.nil, rfl, by decide⟩
theorem Rel.refuse {k : Bk} {b : RBk} (h : Rel k b) (x : Itm) : Rel (refuse k x) { b with refused := addL b.refused x.id } := by
  obtain ⟨a1, a2⟩ := addL_spec (n := x.id) h.refused.1
  exact ⟨h.closed, h.p, ⟨a1, a2.trans (h.refused.2.append_right _)⟩, h.bills, h.last, h.paid, h.bonds, h.stands, h.low⟩
theorem billR_eq {k : Bk} {b : RBk} (h : Rel k b) (n : Int) : billR b.bills n = fb k n := by
  unfold billR fb
  rw [h.bills, List.findIdx?_map]
  congr 1
  funext s
  show (s.1.no == n) = (n == s.1.no)
  exact Bool.beq_comm
theorem max_on (k : Bk) (b : RBk) (h : Rel k b) (d : Int) : max d (b.closed + 1) = onDay k d := by
  unfold onDay; rw [h.closed]; omega
theorem Rel.done {k : Bk} {b : RBk} (h : Rel k b) {x : Itm} (hx : x.Fm) : Rel (doItem k x) (doneR b x) := by
  have hm := max_on k b h
  have hl := h.low
  have hd := hx.2.2.1
  have hk := hx.2.2.2.2
  have hP : ∀ d, (onDay k d > 728 ↔ (k.closed + 1 > 728 ∨ d > 728)) := fun d => by unfold onDay; split <;> omega
  have hneg : ∀ m : Int, 0 - m = -m := fun m => by omega
  unfold doItem doneR
  by_cases k1 : x.kind = 1
  · rw [if_pos k1]
    have hbad : badR b x = (decide (k.closed + 1 > 728) || (fb k x.bill).isSome) := by
      unfold badR; rw [if_neg (by omega), h.closed, billR_eq h]; simp [k1]
    unfold doBill
    cases hf : fb k x.bill with
    | some q =>
      show Rel (K.refuse k x) _
      rw [if_pos (by rw [hbad, hf]; simp)]; exact h.refuse x
    | none =>
      simp only
      by_cases h7 : onDay k x.day > 728
      · rw [if_pos h7, if_pos (by rw [hbad, hf]; have := (hP x.day).1 h7; simp; omega)]; exact h.refuse x
      · rw [if_neg h7, if_neg (by rw [hbad, hf]; have := mt (hP x.day).2 h7; simp; omega)]
        simp only [k1, if_true]
        refine ⟨h.closed, ?_, h.refused, ?_, fun s hs => ?_, h.paid, h.bonds, ?_, hl⟩
        · simp only [twoR, stand, hm, h.p, hneg]
        · simp only [twoR, h.bills, List.map_append]; rfl
        · rcases List.mem_append.1 hs with hs | hs
          · exact h.last s hs
          · simp only [List.mem_singleton] at hs; subst hs; exact ⟨rfl, hd⟩
        · simp only [twoR, stand, h.stands]
  rw [if_neg k1]
  by_cases k2 : x.kind = 2
  · rw [if_pos k2]
    have hbad : badR b x = (decide (k.closed + 1 > 728) || !(fb k x.bill).isSome) := by
      unfold badR; rw [if_neg (by omega), h.closed, billR_eq h]; simp [k2]
    unfold doMend
    cases hf : fb k x.bill with
    | none =>
      show Rel (K.refuse k x) _
      rw [if_pos (by rw [hbad, hf]; simp)]; exact h.refuse x
    | some q =>
      have hq := fb_some hf
      have hg : k.bills.getD q default = k.bills[q] := by rw [List.getD_eq_getElem?_getD, List.getElem?_eq_getElem hq]; rfl
      have hmem := List.getElem_mem hq
      have hg2 : b.bills.getD q default = rbOf k.bills[q] := by rw [List.getD_eq_getElem?_getD, h.bills, List.getElem?_map, List.getElem?_eq_getElem hq]; rfl
      simp only [hg]
      generalize k.bills[q] = s at hmem hg2
      obtain ⟨e1, e2⟩ := h.last s hmem
      by_cases h7 : onDay k s.1.item.day > 728
      · rw [if_pos h7, if_pos (by rw [hbad, hf]; have := (hP s.1.item.day).1 h7; simp; omega)]; exact h.refuse x
      · rw [if_neg h7, if_neg (by rw [hbad, hf]; have := mt (hP s.1.item.day).2 h7; simp; omega), if_neg k1, if_pos k2]
        have e3 : billR b.bills x.bill = some q := (billR_eq h x.bill).trans hf
        simp only [e3, hg2]
        refine ⟨h.closed, ?_, h.refused, ?_, fun s' hs => ?_, h.paid, h.bonds, ?_, hl⟩
        · simp only [twoR, stand, hm, h.p, hneg, rbOf, e1]
        · simp only [twoR, h.bills, List.map_set]; rfl
        · rcases List.mem_or_eq_of_mem_set hs with hs | hs
          · exact h.last s' hs
          · subst hs; exact ⟨by simp [lastA], e2⟩
        · simp only [twoR, stand, h.stands]
  rw [if_neg k2]
  by_cases k3 : x.kind = 3
  · rw [if_pos k3]
    have hbad : badR b x = decide (k.closed + 1 > 728) := by
      unfold badR; rw [if_neg (by omega), h.closed]; simp [k3]
    unfold doPay
    by_cases h7 : onDay k x.day > 728
    · rw [if_pos h7, if_pos (by rw [hbad]; have := (hP x.day).1 h7; simp; omega)]; exact h.refuse x
    · rw [if_neg h7, if_neg (by rw [hbad]; have := mt (hP x.day).2 h7; simp; omega), if_neg k1, if_neg k2, if_pos k3]
      refine ⟨h.closed, ?_, h.refused, h.bills, h.last, h.paid.more _ _ _ rfl, h.bonds, ?_, hl⟩
      · simp only [twoR, stand, hm, h.p, hneg]
      · simp only [twoR, stand, h.stands]
  rw [if_neg k3]
  by_cases k4 : x.kind = 4
  · rw [if_pos k4]
    have hbad : badR b x = (decide (k.closed + 1 > 728) || decide (lookM k.paid x.account < x.amount)) := by
      unfold badR; rw [if_neg (by omega), h.closed, h.paid.held]; simp [k4]
    unfold doRefund
    by_cases h6 : lookM k.paid x.account < x.amount
    · rw [if_pos h6, if_pos (by rw [hbad]; simp [h6])]; exact h.refuse x
    rw [if_neg h6]
    by_cases h7 : onDay k x.day > 728
    · rw [if_pos h7, if_pos (by rw [hbad]; have := (hP x.day).1 h7; simp; omega)]; exact h.refuse x
    · rw [if_neg h7, if_neg (by rw [hbad]; have := mt (hP x.day).2 h7; simp; omega), if_neg k1, if_neg k2, if_neg k3, if_pos k4]
      refine ⟨h.closed, ?_, h.refused, h.bills, h.last, h.paid.more _ _ _ (by omega), h.bonds, ?_, hl⟩
      · simp only [twoR, stand, hm, h.p, hneg]
      · simp only [twoR, stand, h.stands]
  rw [if_neg k4]
  by_cases k5 : x.kind = 5
  · rw [if_pos k5]
    have hbad : badR b x = decide (k.closed + 1 > 728) := by
      unfold badR; rw [if_neg (by omega), h.closed]; simp [k5]
    unfold doBond
    by_cases h7 : onDay k x.day > 728
    · rw [if_pos h7, if_pos (by rw [hbad]; have := (hP x.day).1 h7; simp; omega)]; exact h.refuse x
    · rw [if_neg h7, if_neg (by rw [hbad]; have := mt (hP x.day).2 h7; simp; omega), if_neg k1, if_neg k2, if_neg k3, if_neg k4, if_pos k5]
      refine ⟨h.closed, ?_, h.refused, h.bills, h.last, h.paid, h.bonds.more _ _ _ rfl, ?_, hl⟩
      · simp only [twoR, stand, hm, h.p, hneg]
      · simp only [twoR, stand, h.stands]
  rw [if_neg k5]
  by_cases k6 : x.kind = 6
  · rw [if_pos k6]
    have hbad : badR b x = (decide (k.closed + 1 > 728) || decide (lookM k.bonds x.account < x.amount)) := by
      unfold badR; rw [if_neg (by omega), h.closed, h.bonds.held]; simp [k6]
    unfold doFree
    by_cases h6 : lookM k.bonds x.account < x.amount
    · rw [if_pos h6, if_pos (by rw [hbad]; simp [h6])]; exact h.refuse x
    rw [if_neg h6]
    by_cases h7 : onDay k x.day > 728
    · rw [if_pos h7, if_pos (by rw [hbad]; have := (hP x.day).1 h7; simp; omega)]; exact h.refuse x
    · rw [if_neg h7, if_neg (by rw [hbad]; have := mt (hP x.day).2 h7; simp; omega), if_neg k1, if_neg k2, if_neg k3, if_neg k4, if_neg k5, if_pos k6]
      refine ⟨h.closed, ?_, h.refused, h.bills, h.last, h.paid, h.bonds.more _ _ _ (by omega), ?_, hl⟩
      · simp only [twoR, stand, hm, h.p, hneg]
      · simp only [twoR, stand, h.stands]
  rw [if_neg k6]
  have k7 : x.kind = 7 := by omega
  have hbad : badR b x = decide (x.day ≤ k.closed) := by
    unfold badR; rw [if_pos k7, h.closed]
  unfold doShut
  by_cases h7 : x.day ≤ k.closed
  · rw [if_pos h7, if_pos (by rw [hbad]; simpa using h7)]; exact h.refuse x
  · rw [if_neg h7, if_neg (by rw [hbad]; simpa using h7), if_neg k1, if_neg k2, if_neg k3, if_neg k4, if_neg k5, if_neg k6]
    exact ⟨rfl, h.p, h.refused, h.bills, h.last, h.paid, h.bonds, by simp [h.stands], by show -1 ≤ x.day; omega⟩
theorem rel_fold : ∀ (l : List Itm) (k : Bk) (b : RBk), (∀ x ∈ l, x.Fm) → Rel k b → Rel (l.foldl doItem k) (l.foldl doneR b)
  | [], _, _, _, h => h
  | x :: l, _, _, hf, h => rel_fold l _ _ (fun y hy => hf y (List.mem_cons_of_mem _ hy)) (h.done (hf x (List.mem_cons_self ..)))
theorem rel_keep {l : List Itm} (hf : ∀ x ∈ l, x.Fm) (ho : One l) (known : Int) : Rel (foldB (knownOn known (srt l))) (keepR l known) := by
  unfold keepR foldB
  rw [known_filter (srt_sorted ho).1]
  exact rel_fold _ _ _ (fun x hx => hf x (((srt_sorted ho).2 x).1 (List.mem_filter.1 hx).1)) Rel.zero
end K
end Go.Proofs.YtelpdkojdfnmiaaGreat
/-! LA0 -/
namespace Go.Proofs.YtelpdkojdfnmiaaGreat
open Ev K
set_option maxRecDepth 100000
def S_rc2 := DecS.mk0 (.cons (dRows rItem) (.skips 2 (.cons (dInt) (.skip (.last (dInt) 43))))) .nil
def X_rc2 := DecX.or (DecX.one (.exit 2) [0, 3] (DecS.mk0 (.cons (dRows rItem) (.skips 2 (.last (dInt) 45))) .nil)) (DecX.one .ret [2] (DecS.mk0 (.skips 2 (.last (dInt) 46)) .nil))
noncomputable def K.st_rc2 := loopT1 P BLQ02 30 56 81 [5, 3, 0] S_rc2 X_rc2
theorem sl_rc2 : ∀ s, (K.st_rc2) s = T.run (
 let q8 := (0 : Nat);
 let q1 := q8 + Int.toNat s.1.2.2;
 let q2 := q8 + Int.toNat s.1.2.1;
 let q7 := s.1.1;
 let q4 := List.length q7;
 let q3 := Sum.inl ((decF rItem q4 fun i => encF rItem q7 (q8 + i), s.1.2.1, IntKind.wrap IntKind.i64 (s.1.2.2 + (1 : Int))), PUnit.unit);
 let q5 := decide ((0 : Int) ≤ s.1.2.2 ∧ s.1.2.2 < (↑q4 : Int));
 let q6 := decide ((0 : Int) ≤ s.1.2.1 ∧ s.1.2.1 < (↑q4 : Int));
  .br (decide (s.1.2.2 < s.1.2.1)) (
    .chk q5 <|
    .chk q6 <|
    .br (numOf (encF rItem q7 q1 (nat_lit 0)) == numOf (encF rItem q7 q2 (nat_lit 0))) (
      .chk q5 <|
      .chk q6 <|
      .br (!(numOf (encF rItem q7 q1 q8) == numOf (encF rItem q7 q2 q8) && (numOf (encF rItem q7 q1 (nat_lit 1)) == numOf (encF rItem q7 q2 (nat_lit 1)) && (numOf (encF rItem q7 q1 (nat_lit 2)) == numOf (encF rItem q7 q2 (nat_lit 2)) && (numOf (encF rItem q7 q1 (nat_lit 3)) == numOf (encF rItem q7 q2 (nat_lit 3)) && (numOf (encF rItem q7 q1 (nat_lit 4)) == numOf (encF rItem q7 q2 (nat_lit 4)) && (numOf (encF rItem q7 q1 (nat_lit 5)) == numOf (encF rItem q7 q2 (nat_lit 5)) && numOf (encF rItem q7 q1 (nat_lit 6)) == numOf (encF rItem q7 q2 (nat_lit 6))))))))) (
        .ret (Sum.inr (Sum.inr ((6 : Int), PUnit.unit)))) (
        .ret q3)) (
      .ret q3)) (
    .ret (Sum.inr (Sum.inl ((decF rItem q4 fun i => encF rItem q7 (q8 + i), s.1.2.1), PUnit.unit))))) := fun s => by kernel_rfl
noncomputable def K.L_rc2 := lim K.st_rc2
noncomputable def BLA01 : Tab := BLQ02.addNode 56 81 (nodeE [5, 3, 0] S_rc2 X_rc2 (fun s => .obs (K.L_rc2 s) .ret))
theorem tLA01 : TabOk P BLA01 := TabOk.addLoop (d := 30) okP tLQ02 (by kernel_rfl) (by kernel_rfl) (fun s r h => obs_ret h)
def S_rc1 := DecS.mk0 (.cons (dRows rItem) (.skips 2 (.last (dInt) 45))) .nil
def X_rc1 := DecX.or (DecX.one (.exit 0) [] (DecS.mk0 (.tops 49) .nil)) (DecX.one .ret [2] (DecS.mk0 (.skips 2 (.last (dInt) 46)) .nil))
noncomputable def K.st_rc1 := loopT1 P BLA01 30 56 33 [3, 0] S_rc1 X_rc1
theorem sl_rc1 : ∀ s, (K.st_rc1) s = T.run (
 let q1 := (0 : Nat) + Int.toNat s.1.2;
 let q2 := List.length s.1.1;
  .br (decide (s.1.2 < (↑(clampL q2) : Int))) (
    .chk (decide ((0 : Int) ≤ s.1.2 ∧ s.1.2 < (↑q2 : Int))) <|
    .br (!r_formed (Itm.mk (numOf (encF rItem s.1.1 q1 (0 : Nat))) (numOf (encF rItem s.1.1 q1 (nat_lit 1))) (numOf (encF rItem s.1.1 q1 (nat_lit 2))) (numOf (encF rItem s.1.1 q1 (nat_lit 3))) (numOf (encF rItem s.1.1 q1 (nat_lit 4))) (numOf (encF rItem s.1.1 q1 (nat_lit 5))) (numOf (encF rItem s.1.1 q1 (nat_lit 6))))) (
      .ret (Sum.inr (Sum.inr ((1 : Int), PUnit.unit)))) (
      .obs (L_rc2 ((decF rItem q2 fun i => encF rItem s.1.1 ((0 : Nat) + i), s.1.2, (0 : Int)), PUnit.unit)) fun x0 =>
        .sum (x0) (fun x1 =>
          .ret (Sum.inl ((decF rItem (List.length x1.1.1) fun i => encF rItem x1.1.1 ((0 : Nat) + i), IntKind.wrap IntKind.i64 (x1.1.2 + (1 : Int))), PUnit.unit))) (fun x1 =>
          .ret (Sum.inr (Sum.inr (x1.1, PUnit.unit)))))) (
    .ret (Sum.inr (Sum.inl (PUnit.unit, PUnit.unit))))) := fun s => by kernel_rfl
noncomputable def K.L_rc1 := lim K.st_rc1
noncomputable def BLA02 : Tab := BLA01.addNode 56 33 (nodeE [3, 0] S_rc1 X_rc1 (fun s => .obs (K.L_rc1 s) .ret))
theorem tLA02 : TabOk P BLA02 := TabOk.addLoop (d := 30) okP tLA01 (by kernel_rfl) (by kernel_rfl) (fun s r h => obs_ret h)
theorem fn_rcheck : ∀ a, (callT1 P BLA02 30 56 D_l dInt) a = T.run (
  .br (decide ((↑(clampL (List.length a)) : Int) > (60 : Int))) (
    .ret ((2 : Int))) (
    .obs (L_rc1 ((decF rItem (List.length a) fun i => encF rItem a ((0 : Nat) + i), (0 : Int)), PUnit.unit)) fun x0 =>
      .sum (x0) (fun _ =>
        .ret ((0 : Int))) (fun x1 =>
        .ret x1.1))) := fun a => by kernel_rfl
namespace K
theorem L_rc2_eq (l : List Itm) (hl : l.length ≤ 1000) (i : Nat) (x : Itm) (hx : l[i]? = some x) : L_rc2 ((l, (i : Int), 0), ()) = some (if (l.take i).any (fun y => decide (y.id = x.id ∧ y ≠ x)) then .inr (6, ()) else .inl ((l, (i : Int)), ())) := by
  obtain ⟨hi, _⟩ := List.getElem?_eq_some_iff.1 hx
  rw [any_first]
  have hlen : (l.take i).length = i := by rw [List.length_take]; omega
  rw [hlen]
  have get : ∀ j, j < i → (l.take i)[j]? = l[j]? := fun j hj => List.getElem?_take_of_lt hj
  refine (lim_find (fun j : Nat => ((l, (i : Int), (j : Int)), ())) i (pIx (l.take i) x) (fun _ => .inr (6, ())) (.inl ((l, (i : Int)), ())) (fun j hj hp => ?_) (fun j hj hp => ?_) ?_).trans ?_
  · rw [sl_rc2]
    have hy := List.getElem?_eq_getElem (show j < l.length by omega)
    unfold pIx at hp; rw [get j hj, hy] at hp
    generalize l[j] = y at hy hp
    simp only [decide_eq_true_eq] at hp
    simp only [Int.toNat_natCast, Nat.zero_add, item_at hy, item_at hx, wr0, wr1, wr2, wr3, wr4, wr5, wr6, decF_encF]
    refine br_t (decide_eq_true (by omega)) (chk_step (decide_eq_true (by omega)) (chk_step (decide_eq_true (by omega)) (br_t (beq_iff_eq.2 hp.1) (chk_step (decide_eq_true (by omega)) (chk_step (decide_eq_true (by omega)) (br_t ?_ rfl))))))
    rw [Bool.not_eq_true', ← Bool.not_eq_true]; exact fun h => hp.2 ((sameI_iff y x).1 h)
  · rw [sl_rc2]
    have hy := List.getElem?_eq_getElem (show j < l.length by omega)
    unfold pIx at hp; rw [get j hj, hy] at hp
    generalize l[j] = y at hy hp
    simp only [decide_eq_false_iff_not] at hp
    have w : IntKind.i64.wrap ((j : Int) + 1) = ((j + 1 : Nat) : Int) := by rw [w64_in (by omega) (by omega)]; rfl
    simp only [Int.toNat_natCast, Nat.zero_add, item_at hy, item_at hx, wr0, wr1, wr2, wr3, wr4, wr5, wr6, decF_encF, w]
    refine br_t (decide_eq_true (by omega)) (chk_step (decide_eq_true (by omega)) (chk_step (decide_eq_true (by omega)) ?_))
    by_cases he : y.id = x.id
    · have hxy : y = x := Classical.byContradiction fun hne => hp ⟨he, hne⟩
      exact br_t (beq_iff_eq.2 he) (chk_step (decide_eq_true (by omega)) (chk_step (decide_eq_true (by omega)) (br_f (by rw [Bool.not_eq_false']; exact (sameI_iff y x).2 hxy) rfl)))
    · exact br_f (by rw [beq_eq_false_iff_ne]; exact he) rfl
  · rw [sl_rc2]
    simp only [Nat.zero_add, decF_encF]
    exact br_f (decide_eq_false (by omega)) rfl
  · cases first (pIx (l.take i) x) i <;> rfl
theorem L_rc1_eq (l : List Itm) (hl : l.length ≤ 1000) : L_rc1 ((l, 0), ()) = some (match (List.range l.length).findSome? (errAt l) with
    | some e => .inr (e, ())
    | none => .inl ((), ())) := by
  refine (lim_err (fun i : Nat => ((l, (i : Int)), ())) l.length (errAt l) (fun e => .inr (e, ())) (.inl ((), ())) (fun i hi => ?_) ?_).trans ?_
  · rw [sl_rc1]
    have hy := List.getElem?_eq_getElem hi
    unfold errAt; rw [hy]
    generalize l[i] = x at hy
    have hid : (⟨x.id, x.known, x.kind, x.day, x.bill, x.account, x.amount⟩ : Itm) = x := rfl
    have w : IntKind.i64.wrap ((i : Int) + 1) = ((i + 1 : Nat) : Int) := by rw [w64_in (by omega) (by omega)]; rfl
    simp only [Int.toNat_natCast, Nat.zero_add, item_at hy, wr0, wr1, wr2, wr3, wr4, wr5, wr6, decF_encF, hid, clampL_eq (show l.length ≤ maxL by unfold maxL; omega)]
    refine br_t (decide_eq_true (by omega)) (chk_step (decide_eq_true (by omega)) ?_)
    by_cases hf : x.Fm
    · refine br_f (by rw [Bool.not_eq_false']; exact (r_formed_iff x).2 hf) ?_
      rw [if_pos hf]
      refine obs_step (L_rc2_eq l hl i x hy) ?_
      by_cases ha : (l.take i).any (fun y => decide (y.id = x.id ∧ y ≠ x)) = true
      · rw [if_pos ha, if_pos ha]; rfl
      · rw [if_neg ha, if_neg ha]
        refine (T.run_inl _ _ _).trans ?_
        simp only [w]; rfl
    · rw [if_neg hf]
      exact br_t (by rw [Bool.not_eq_true', ← Bool.not_eq_true]; exact fun h => hf ((r_formed_iff x).1 h)) rfl
  · rw [sl_rc1]
    simp only [clampL_eq (show l.length ≤ maxL by unfold maxL; omega)]
    exact br_f (decide_eq_false (by omega)) rfl
  · cases (List.range l.length).findSome? (errAt l) <;> rfl
theorem rcheck_eq (l : List Itm) : callT1 P BLA02 30 56 D_l dInt l = some (checkV l) := by
  rw [fn_rcheck]
  unfold checkV
  by_cases h : l.length > 60
  · rw [if_pos h]
    refine br_t (decide_eq_true ?_) rfl
    unfold clampL maxL; split <;> omega
  · rw [if_neg h]
    simp only [clampL_eq (show l.length ≤ maxL by unfold maxL; omega), Nat.zero_add, decF_encF]
    refine br_f (decide_eq_false (by omega)) ?_
    refine obs_step (L_rc1_eq l (by omega)) ?_
    cases (List.range l.length).findSome? (errAt l) <;> rfl
end K
noncomputable def BLA03 : Tab := BLA02.addCall 56 (callE D_l dInt (fun a => .ret (K.checkV a)))
theorem tLA03 : TabOk P BLA03 := TabOk.addPC tLA02 (fun a r h => by rw [← ret_some h]; exact call_of okP tLA02 (K.rcheck_eq a))
theorem fn_r_ahead : ∀ a, (callT1 P BLA03 30 107 D_itm2 dB) a = T.run (
  .br (decide (Itm.known a.1 < Itm.known a.2)) (
    .ret (true)) (
    .br (Itm.known a.1 == Itm.known a.2) (
      .ret (decide (Itm.id a.1 < Itm.id a.2))) (
      .ret (false)))) := fun a => by kernel_rfl
noncomputable def K.r_ahead (a : Itm × Itm) : Bool := (if (decide (Itm.known a.1 < Itm.known a.2)) = true then true else (if (Itm.known a.1 == Itm.known a.2) = true then decide (Itm.id a.1 < Itm.id a.2) else false))
theorem eq_r_ahead (a : Itm × Itm) : (callT1 P BLA03 30 107 D_itm2 dB) a = some (K.r_ahead a) := (fn_r_ahead a).trans (T.br_some rfl (T.br_some rfl rfl))
noncomputable def BLA04 : Tab := BLA03.addCall 107 (callE D_itm2 dB (fun a => .ret (K.r_ahead a)))
theorem tLA04 : TabOk P BLA04 := TabOk.addFn (d := 30) okP tLA03 (fun a r h => by rw [eq_r_ahead]; exact congrArg some (ret_some h))
def S_rs2 := DecS.mk0 (.cons (dRows rItem) (.skips 2 (.cons (dO 0) (.cons (dInt) (.last (dInt) 54))))) (.rows 73 rItem .nil)
def X_rs2 := DecX.one (.exit 2) [0, 3, 4, 5] (DecS.mk0 (.cons (dRows rItem) (.skips 2 (.cons (dO 0) (.cons (dInt) (.last (dInt) 54))))) (.rows 73 rItem .nil))
noncomputable def K.st_rs2 := loopT1 P BLA04 30 72 49 [5, 3, 0, 4] S_rs2 X_rs2
theorem sl_rs2 : ∀ s, (K.st_rs2) s = T.run (
 let q1 := (0 : Nat) + Int.toNat s.1.2.2.1;
 let q4 := List.length s.1.1;
 let q2 := Sum.inr ((decF rItem q4 fun i => encF rItem s.1.1 ((0 : Nat) + i), s.1.2), decF rItem (List.length s.2.1) (encF rItem s.2.1), PUnit.unit);
 let q3 := Int.toNat s.1.2.2.2;
  .br (decide (s.1.2.2.2 < (↑s.1.2.1 : Int))) (
    .chk (decide ((0 : Int) ≤ s.1.2.2.2 ∧ s.1.2.2.2 < (↑s.1.2.1 : Int))) <|
    .chk (decide ((0 : Int) ≤ s.1.2.2.1 ∧ s.1.2.2.1 < (↑q4 : Int))) <|
    .br (r_ahead (Itm.mk (numOf (encF rItem s.2.1 q3 (0 : Nat))) (numOf (encF rItem s.2.1 q3 (nat_lit 1))) (numOf (encF rItem s.2.1 q3 (nat_lit 2))) (numOf (encF rItem s.2.1 q3 (nat_lit 3))) (numOf (encF rItem s.2.1 q3 (nat_lit 4))) (numOf (encF rItem s.2.1 q3 (nat_lit 5))) (numOf (encF rItem s.2.1 q3 (nat_lit 6))), Itm.mk (numOf (encF rItem s.1.1 q1 (0 : Nat))) (numOf (encF rItem s.1.1 q1 (nat_lit 1))) (numOf (encF rItem s.1.1 q1 (nat_lit 2))) (numOf (encF rItem s.1.1 q1 (nat_lit 3))) (numOf (encF rItem s.1.1 q1 (nat_lit 4))) (numOf (encF rItem s.1.1 q1 (nat_lit 5))) (numOf (encF rItem s.1.1 q1 (nat_lit 6))))) (
      .ret (Sum.inl ((decF rItem q4 fun i => encF rItem s.1.1 ((0 : Nat) + i), s.1.2.1, s.1.2.2.1, IntKind.wrap IntKind.i64 (s.1.2.2.2 + (1 : Int))), decF rItem (List.length s.2.1) (encF rItem s.2.1), PUnit.unit))) (
      .ret q2)) (
    .ret q2)) := fun s => by kernel_rfl
noncomputable def K.L_rs2 := lim K.st_rs2
noncomputable def BLA05 : Tab := BLA04.addNode 72 49 (nodeE [5, 3, 0, 4] S_rs2 X_rs2 (fun s => .obs (K.L_rs2 s) .ret))
theorem tLA05 : TabOk P BLA05 := TabOk.addLoop (d := 30) okP tLA04 (by kernel_rfl) (by kernel_rfl) (fun s r h => obs_ret h)
def S_rs1 := DecS.ghost 3 73 7 [.int .i64, .int .i64, .int .i64, .int .i64, .int .i64, .int .i64, .int .i64] (DecS.mk0 (.cons (dRows rItem) (.skips 2 (.cons (dO 0) (.last (dInt) 55)))) (.rows 73 rItem .nil))
def X_rs1 := DecX.one (.exit 0) [3] (DecS.mk0 (.skips 3 (.last (dO 0) 56)) (.rows 73 rItem .nil))
noncomputable def K.st_rs1 := loopT1 P BLA05 30 72 25 [4, 3, 0] S_rs1 X_rs1
theorem sl_rs1 : ∀ s, (K.st_rs1) s = T.run (
 let q1 := (0 : Nat);
 let q2 := (140737488355328 : Nat);
 let q3 := (1 : Nat);
 let q4 := (0 : Int);
 let q5 := (56 : Nat);
  .br (decide (s.1.2.2 < (↑(clampL (List.length s.1.1)) : Int))) (
    .obs (L_rs2 ((decF rItem (List.length s.1.1) fun i => encF rItem s.1.1 (q1 + i), s.1.2.1, s.1.2.2, q4), decF rItem (List.length s.2.1) (encF rItem s.2.1), PUnit.unit)) fun x0 =>
 let q16 := x0.1.1;
 let q26 := List.length q16;
 let q9 := x0.1.2.2.2;
 let q7 := Int.toNat q9 - q1;
 let q15 := x0.1.2.1 - Int.toNat q9;
 let q27 := x0.1.2.2.1;
 let q19 := x0.2.1;
 let q8 := q1 + Int.toNat q27;
 let q20 := encF rItem q16 q8 (nat_lit 1);
 let q21 := encF rItem q16 q8 (nat_lit 2);
 let q22 := encF rItem q16 q8 (nat_lit 3);
 let q23 := encF rItem q16 q8 (nat_lit 4);
 let q24 := encF rItem q16 q8 (nat_lit 5);
 let q25 := encF rItem q16 q8 (nat_lit 6);
 let q6 := Sum.inl ((decF rItem q26 fun i => encF rItem q16 (q1 + i), q1 + q7 + q3 + q15, IntKind.wrap IntKind.i64 (q27 + (1 : Int))), decF rItem (q1 + q7 + q3 + q15) (appG (q1 + q7 + q3) (appG (q1 + q7) (appG q1 (fun _x _x_1 => AV.top) fun i k => encF rItem q19 (q1 + i) k) fun i k => Option.getD [AV.int IntKind.i64 (numOf (encF rItem q16 q8 q1)), AV.int IntKind.i64 (numOf q20), AV.int IntKind.i64 (numOf q21), AV.int IntKind.i64 (numOf q22), AV.int IntKind.i64 (numOf q23), AV.int IntKind.i64 (numOf q24), AV.int IntKind.i64 (numOf q25)][(q1 + i) * (7 : Nat) + k]? AV.top) fun i k => encF rItem q19 (Int.toNat q9 + i) k), PUnit.unit);
 let q10 := decide (q4 ≤ q27 ∧ q27 < (↑q26 : Int));
 let q11 := decide ((q1 + q7 + q3 + q15) * q5 ≤ q2 ∧ q1 + q7 + q3 + q15 ≤ nat_lit 9223372036854775807);
 let q12 := decide ((q1 + q7 + q3) * q5 ≤ q2 ∧ q1 + q7 + q3 ≤ nat_lit 9223372036854775807);
 let q13 := decide ((q1 + q7) * q5 ≤ q2 ∧ q1 + q7 ≤ nat_lit 9223372036854775807);
 let q14 := Int.toNat q9;
 let q17 := decide (q4 ≤ q9 ∧ q9 ≤ (↑x0.1.2.1 : Int)) && true;
 let q18 := true && decide (q4 ≤ q9 ∧ q9 ≤ (↑x0.1.2.1 : Int));
      .br (decide (q9 < (↑x0.1.2.1 : Int))) (
        .chk (decide (q4 ≤ q9 ∧ q9 < (↑x0.1.2.1 : Int))) <|
        .chk q10 <|
        .br (numOf (encF rItem q19 q14 q1) == numOf (encF rItem q16 q8 q1) && (numOf (encF rItem q19 q14 (nat_lit 1)) == numOf q20 && (numOf (encF rItem q19 q14 (nat_lit 2)) == numOf q21 && (numOf (encF rItem q19 q14 (nat_lit 3)) == numOf q22 && (numOf (encF rItem q19 q14 (nat_lit 4)) == numOf q23 && (numOf (encF rItem q19 q14 (nat_lit 5)) == numOf q24 && numOf (encF rItem q19 q14 (nat_lit 6)) == numOf q25)))))) (
          .ret (Sum.inl ((decF rItem q26 fun i => encF rItem q16 (q1 + i), x0.1.2.1, IntKind.wrap IntKind.i64 (q27 + (1 : Int))), decF rItem (List.length q19) (encF rItem q19), PUnit.unit))) (
          .chk q17 <|
          .chk q13 <|
          .chk q10 <|
          .chk q12 <|
          .chk q18 <|
          .chk q11 <|
          .ret q6)) (
        .chk q17 <|
        .chk q13 <|
        .chk q10 <|
        .chk q12 <|
        .chk q18 <|
        .chk q11 <|
        .ret q6)) (
    .ret (Sum.inr (s.1.2.1, decF rItem (List.length s.2.1) (encF rItem s.2.1), PUnit.unit)))) := fun s => by kernel_rfl
noncomputable def K.L_rs1 := lim K.st_rs1
noncomputable def BLA06 : Tab := BLA05.addNode 72 25 (nodeE [4, 3, 0] S_rs1 X_rs1 (fun s => .obs (K.L_rs1 s) .ret))
theorem tLA06 : TabOk P BLA06 := TabOk.addLoop (d := 30) okP tLA05 (by kernel_rfl) (by kernel_rfl) (fun s r h => obs_ret h)
theorem fn_rsorted : ∀ a, (freshT1 P BLA06 30 72 73 D_l rItem) a = T.run (
  .obs (L_rs1 ((decF rItem (List.length a) fun i => encF rItem a ((0 : Nat) + i), (0 : Nat), (0 : Int)), decF rItem (0 : Nat) fun _x _x_1 => AV.top, PUnit.unit)) fun x0 =>
    .ret (decF rItem (List.length x0.2.1) fun i => encF rItem x0.2.1 ((0 : Nat) + i))) := fun a => by kernel_rfl
end Go.Proofs.YtelpdkojdfnmiaaGreat
/-! LA1 -/
namespace Go.Proofs.YtelpdkojdfnmiaaGreat
open Ev K
set_option maxRecDepth 100000
def nBill : RowN RB where
  wd := 4
  tags := [.int .i64, .int .i64, .int .i64, .sl 2 [.int .i64, .int .i64]]
  rd f := ⟨numOf (f 0), numOf (f 1), numOf (f 2), listOf rChg (sliceOf 2 [.int .i64, .int .i64] (f 3))⟩
  wr a k := match k with
    | 0 => .int .i64 a.number
    | 1 => .int .i64 a.day
    | 2 => .int .i64 a.account
    | _ => slOf rChg a.l
  ok f k hk w A u h := by
    match k, hk, h with
    | 0, _, h => exact h
    | 1, _, h => exact h
    | 2, _, h => exact h
    | 3, _, h => exact slOf_rel (H := rChg) (x := sliceOf 2 [.int .i64, .int .i64] (f 3)) rfl h
    | k + 4, hk, _ => omega
  good a := by
    show (⟨a.number, a.day, a.account, listOf rChg (slOf rChg a.l)⟩ : RB) = a
    rw [listOf_slOf]
def lBkR : DecL RBk := (DecL.cons dInt (.cons (dRows rPost) (.cons (dRows rInt) (.cons (dRowsN nBill) (.cons (dRows rBal) (.cons (dRows rBal) (.last (dRows rItem) 0))))))).iso (fun p => ⟨p.1, p.2.1, p.2.2.1, p.2.2.2.1, p.2.2.2.2.1, p.2.2.2.2.2.1, p.2.2.2.2.2.2⟩) (fun k => (k.closed, k.p, k.refused, k.bills, k.paid, k.bonds, k.stands)) (fun _ => rfl)
def dBkR : Dec RBk := dAgg lBkR
def D_rbill := DecL.cons dBkR (.last dInt 0)
def S_bi := DecS.mk0 (.skip (.cons (dInt) (.unit (dLp 0 0 0 0) (.skips 2 (.last (dInt) 16))))) (.flat 52 lBkR .nil)
def X_bi := DecX.or (DecX.one (.exit 0) [] (DecS.mk0 (.tops 22) .nil)) (DecX.one .ret [4] (DecS.mk0 (.skips 4 (.last (dInt) 17)) .nil))
noncomputable def K.st_bi := loopT1 P BLA06 30 74 17 [5, 1, 2] S_bi X_bi
theorem sl_bi : ∀ s, (K.st_bi) s = T.run (
 let q1 := RBk.bills s.2.1;
 let q2 := (0 : Nat);
  .br (decide (s.1.2 < (↑(clampL (List.length q1)) : Int))) (
    .chk (decide ((0 : Int) ≤ s.1.2 ∧ s.1.2 < (↑(List.length q1) : Int))) <|
    .br (numOf (encN nBill q1 (q2 + Int.toNat s.1.2) (nat_lit 0)) == s.1.1) (
      .ret (Sum.inr (Sum.inr (s.1.2, PUnit.unit)))) (
      .ret (Sum.inl ((s.1.1, IntKind.wrap IntKind.i64 (s.1.2 + (1 : Int))), RBk.mk (RBk.closed s.2.1) (decF rPost (List.length (RBk.p s.2.1)) fun i => encF rPost (RBk.p s.2.1) (q2 + i)) (decF rInt (List.length (RBk.refused s.2.1)) fun i => encF rInt (RBk.refused s.2.1) (q2 + i)) (decN nBill (List.length q1) fun i => encN nBill q1 (q2 + i)) (decF rBal (List.length (RBk.paid s.2.1)) fun i => encF rBal (RBk.paid s.2.1) (q2 + i)) (decF rBal (List.length (RBk.bonds s.2.1)) fun i => encF rBal (RBk.bonds s.2.1) (q2 + i)) (decF rItem (List.length (RBk.stands s.2.1)) fun i => encF rItem (RBk.stands s.2.1) (q2 + i)), PUnit.unit)))) (
    .ret (Sum.inr (Sum.inl (PUnit.unit, PUnit.unit))))) := fun s => by kernel_rfl
noncomputable def K.L_bi := lim K.st_bi
noncomputable def BLA11 : Tab := BLA06.addNode 74 17 (nodeE [5, 1, 2] S_bi X_bi (fun s => .obs (K.L_bi s) .ret))
theorem tLA11 : TabOk P BLA11 := TabOk.addLoop (d := 30) okP tLA06 (by kernel_rfl) (by kernel_rfl) (fun s r h => obs_ret h)
theorem fn_rbill : ∀ a, (callT1 P BLA11 30 74 D_rbill dInt) a = T.run (
  .obs (L_bi ((a.2, (0 : Int)), RBk.mk (RBk.closed a.1) (decF rPost (List.length (RBk.p a.1)) fun i => encF rPost (RBk.p a.1) ((0 : Nat) + i)) (decF rInt (List.length (RBk.refused a.1)) fun i => encF rInt (RBk.refused a.1) ((0 : Nat) + i)) (decN nBill (List.length (RBk.bills a.1)) fun i => encN nBill (RBk.bills a.1) ((0 : Nat) + i)) (decF rBal (List.length (RBk.paid a.1)) fun i => encF rBal (RBk.paid a.1) ((0 : Nat) + i)) (decF rBal (List.length (RBk.bonds a.1)) fun i => encF rBal (RBk.bonds a.1) ((0 : Nat) + i)) (decF rItem (List.length (RBk.stands a.1)) fun i => encF rItem (RBk.stands a.1) ((0 : Nat) + i)), PUnit.unit)) fun x0 =>
    .sum (x0) (fun _ =>
      .ret ((-1 : Int))) (fun x1 =>
      .ret x1.1)) := fun a => by kernel_rfl
def D_held := DecL.cons (dRows rBal) (.last dInt 0)
def S_he := DecS.mk0 (.cons (dRows rBal) (.cons (dInt) (.skips 3 (.last (dInt) 18)))) .nil
def X_he := DecX.or (DecX.one (.exit 0) [] (DecS.mk0 (.tops 24) .nil)) (DecX.one .ret [4] (DecS.mk0 (.skips 4 (.last (dInt) 19)) .nil))
noncomputable def K.st_he := loopT1 P BLA11 30 126 17 [5, 0, 1] S_he X_he
theorem sl_he : ∀ s, (K.st_he) s = T.run (
  .br (decide (s.1.2.2 < (↑(clampL (List.length s.1.1)) : Int))) (
    .chk (decide ((0 : Int) ≤ s.1.2.2 ∧ s.1.2.2 < (↑(List.length s.1.1) : Int))) <|
    .br (numOf (encF rBal s.1.1 ((0 : Nat) + Int.toNat s.1.2.2) (nat_lit 0)) == s.1.2.1) (
      .chk (decide ((0 : Int) ≤ s.1.2.2 ∧ s.1.2.2 < (↑(List.length s.1.1) : Int))) <|
      .ret (Sum.inr (Sum.inr (numOf (encF rBal s.1.1 ((0 : Nat) + Int.toNat s.1.2.2) (nat_lit 1)), PUnit.unit)))) (
      .ret (Sum.inl ((decF rBal (List.length s.1.1) fun i => encF rBal s.1.1 ((0 : Nat) + i), s.1.2.1, IntKind.wrap IntKind.i64 (s.1.2.2 + (1 : Int))), PUnit.unit)))) (
    .ret (Sum.inr (Sum.inl (PUnit.unit, PUnit.unit))))) := fun s => by kernel_rfl
noncomputable def K.L_he := lim K.st_he
noncomputable def BLA12 : Tab := BLA11.addNode 126 17 (nodeE [5, 0, 1] S_he X_he (fun s => .obs (K.L_he s) .ret))
theorem tLA12 : TabOk P BLA12 := TabOk.addLoop (d := 30) okP tLA11 (by kernel_rfl) (by kernel_rfl) (fun s r h => obs_ret h)
theorem fn_held : ∀ a, (callT1 P BLA12 30 126 D_held dInt) a = T.run (
  .obs (L_he ((decF rBal (List.length a.1) fun i => encF rBal a.1 ((0 : Nat) + i), a.2, (0 : Int)), PUnit.unit)) fun x0 =>
    .sum (x0) (fun _ =>
      .ret ((0 : Int))) (fun x1 =>
      .ret x1.1)) := fun a => by kernel_rfl
def D_more := DecL.cons (dRows rBal) (.cons dInt (.last dInt 0))
def S_mo := DecS.mk0 (.cons (dRows rBal) (.cons (dInt) (.cons (dInt) (.skips 4 (.last (dInt) 58))))) .nil
def X_mo := DecX.one (.exit 0) [0, 1, 2, 7] S_mo
noncomputable def K.st_mo := loopT1 P BLA12 30 78 17 [7, 2, 0, 1] S_mo X_mo
theorem sl_mo : ∀ s, (K.st_mo) s = T.run (
  .br (decide (s.1.2.2.2 < (↑(clampL (List.length s.1.1)) : Int))) (
    .chk (decide ((0 : Int) ≤ s.1.2.2.2 ∧ s.1.2.2.2 < (↑(List.length s.1.1) : Int))) <|
    .br (decide (numOf (encF rBal s.1.1 ((0 : Nat) + Int.toNat s.1.2.2.2) (nat_lit 0)) < s.1.2.1)) (
      .ret (Sum.inl ((decF rBal (List.length s.1.1) fun i => encF rBal s.1.1 ((0 : Nat) + i), s.1.2.1, s.1.2.2.1, IntKind.wrap IntKind.i64 (s.1.2.2.2 + (1 : Int))), PUnit.unit))) (
      .ret (Sum.inr ((decF rBal (List.length s.1.1) fun i => encF rBal s.1.1 ((0 : Nat) + i), s.1.2), PUnit.unit)))) (
    .ret (Sum.inr ((decF rBal (List.length s.1.1) fun i => encF rBal s.1.1 ((0 : Nat) + i), s.1.2), PUnit.unit)))) := fun s => by kernel_rfl
noncomputable def K.L_mo := lim K.st_mo
noncomputable def BLA13 : Tab := BLA12.addNode 78 17 (nodeE [7, 2, 0, 1] S_mo X_mo (fun s => .obs (K.L_mo s) .ret))
theorem tLA13 : TabOk P BLA13 := TabOk.addLoop (d := 30) okP tLA12 (by kernel_rfl) (by kernel_rfl) (fun s r h => obs_ret h)
theorem fn_more : ∀ a, (freshT1 P BLA13 30 78 38 D_more rBal) a = T.run (
 let q1 := (0 : Nat);
 let q2 := (140737488355328 : Nat);
 let q3 := (1 : Nat);
 let q4 := (0 : Int);
 let q5 := (16 : Nat);
  .obs (L_mo ((decF rBal (List.length a.1) fun i => encF rBal a.1 (q1 + i), a.2.1, a.2.2, q4), PUnit.unit)) fun x0 =>
 let q9 := x0.1.2.2.2;
 let q7 := Int.toNat q9 - q1;
 let q14 := List.length x0.1.1 - Int.toNat q9;
 let q6 := decF rBal (q1 + q7 + q3 + q14) fun i => appG (q1 + q7 + q3) (appG (q1 + q7) (appG q1 (fun _x _x_1 => AV.top) fun i k => encF rBal x0.1.1 (nat_lit 0 + i) k) fun i k => Option.getD [AV.int IntKind.i64 x0.1.2.1, AV.int IntKind.i64 x0.1.2.2.1][(q1 + i) * (2 : Nat) + k]? AV.top) (fun i k => encF rBal x0.1.1 (q1 + Int.toNat q9 + i) k) (q1 + i);
 let q8 := decide ((q1 + q7 + q3 + q14) * q5 ≤ q2 ∧ q1 + q7 + q3 + q14 ≤ nat_lit 9223372036854775807);
 let q10 := List.length x0.1.1;
 let q11 := decide ((q1 + q7 + q3) * q5 ≤ q2 ∧ q1 + q7 + q3 ≤ nat_lit 9223372036854775807);
 let q12 := decide ((q1 + q7) * q5 ≤ q2 ∧ q1 + q7 ≤ nat_lit 9223372036854775807);
 let q13 := q1 + List.length x0.1.1;
 let q15 := decide (q4 ≤ q9 ∧ q9 ≤ (↑q10 : Int)) && true;
 let q16 := true && decide (q4 ≤ q9 ∧ q9 ≤ (↑q10 : Int));
 let q17 := decide (q4 ≤ q9 ∧ q9 < (↑q13 : Int));
    .chk (decide (q13 * q5 ≤ q2 ∧ q1 + List.length x0.1.1 ≤ nat_lit 9223372036854775807)) <|
    .br (decide (q9 < (↑(clampL q10) : Int))) (
      .chk (decide (q4 ≤ q9 ∧ q9 < (↑q10 : Int))) <|
      .br (numOf (encF rBal x0.1.1 (q1 + Int.toNat q9) (nat_lit 0)) == x0.1.2.1) (
        .chk q17 <|
        .chk q17 <|
        .ret (decF rBal q13 fun i => setR (Int.toNat q9) (nat_lit 1) (nat_lit 1) [AV.int IntKind.i64 (IntKind.wrap IntKind.i64 (numOf (appG q1 (fun _x _x_1 => AV.top) (fun i k => encF rBal x0.1.1 (q1 + i) k) (Int.toNat q9) (nat_lit 1)) + x0.1.2.2.1))] (appG q1 (fun _x _x_1 => AV.top) fun i k => encF rBal x0.1.1 (q1 + i) k) (q1 + i))) (
        .chk q15 <|
        .chk q12 <|
        .chk q11 <|
        .chk q16 <|
        .chk q8 <|
        .ret q6)) (
      .chk q15 <|
      .chk q12 <|
      .chk q11 <|
      .chk q16 <|
      .chk q8 <|
      .ret q6)) := fun a => by kernel_rfl
def D_add := DecL.cons (dRows rInt) (.last dInt 0)
def S_ad := DecS.mk0 (.cons (dRows rInt) (.cons (dInt) (.skips 3 (.last (dInt) 26)))) .nil
def X_ad := DecX.one (.exit 0) [0, 1, 5] S_ad
noncomputable def K.st_ad := loopT1 P BLA13 30 85 17 [5, 0, 1] S_ad X_ad
theorem sl_ad : ∀ s, (K.st_ad) s = T.run (
  .br (decide (s.1.2.2 < (↑(clampL (List.length s.1.1)) : Int))) (
    .chk (decide ((0 : Int) ≤ s.1.2.2 ∧ s.1.2.2 < (↑(List.length s.1.1) : Int))) <|
    .br (decide (numOf (encF rInt s.1.1 ((0 : Nat) + Int.toNat s.1.2.2) (0 : Nat)) < s.1.2.1)) (
      .ret (Sum.inl ((decF rInt (List.length s.1.1) fun i => encF rInt s.1.1 ((0 : Nat) + i), s.1.2.1, IntKind.wrap IntKind.i64 (s.1.2.2 + (1 : Int))), PUnit.unit))) (
      .ret (Sum.inr ((decF rInt (List.length s.1.1) fun i => encF rInt s.1.1 ((0 : Nat) + i), s.1.2), PUnit.unit)))) (
    .ret (Sum.inr ((decF rInt (List.length s.1.1) fun i => encF rInt s.1.1 ((0 : Nat) + i), s.1.2), PUnit.unit)))) := fun s => by kernel_rfl
noncomputable def K.L_ad := lim K.st_ad
noncomputable def BLA14 : Tab := BLA13.addNode 85 17 (nodeE [5, 0, 1] S_ad X_ad (fun s => .obs (K.L_ad s) .ret))
theorem tLA14 : TabOk P BLA14 := TabOk.addLoop (d := 30) okP tLA13 (by kernel_rfl) (by kernel_rfl) (fun s r h => obs_ret h)
theorem fn_add : ∀ a, (freshT1 P BLA14 30 85 3 D_add rInt) a = T.run (
 let q1 := (0 : Nat);
 let q2 := (1 : Nat);
  .obs (L_ad ((decF rInt (List.length a.1) fun i => encF rInt a.1 (q1 + i), a.2, (0 : Int)), PUnit.unit)) fun x0 =>
 let q5 := x0.1.2.2;
 let q3 := Int.toNat q5 - q1;
 let q4 := List.length x0.1.1 - Int.toNat q5;
    .chk (decide ((0 : Int) ≤ q5 ∧ q5 ≤ (↑(List.length x0.1.1) : Int)) && true) <|
    .chk (decide ((q1 + q3) * (8 : Nat) ≤ (140737488355328 : Nat) ∧ q1 + q3 ≤ nat_lit 9223372036854775807)) <|
    .chk (decide ((q1 + q3 + q2) * (8 : Nat) ≤ (140737488355328 : Nat) ∧ q1 + q3 + q2 ≤ nat_lit 9223372036854775807)) <|
    .chk (true && decide ((0 : Int) ≤ q5 ∧ q5 ≤ (↑(List.length x0.1.1) : Int))) <|
    .chk (decide ((q1 + q3 + q2 + q4) * (8 : Nat) ≤ (140737488355328 : Nat) ∧ q1 + q3 + q2 + q4 ≤ nat_lit 9223372036854775807)) <|
    .ret (decF rInt (q1 + q3 + q2 + q4) fun i => appG (q1 + q3 + q2) (appG (q1 + q3) (appG q1 (fun _x _x_1 => AV.top) fun i k => encF rInt x0.1.1 (nat_lit 0 + i) k) fun i k => Option.getD [AV.int IntKind.i64 x0.1.2.1][(q1 + i) * q2 + k]? AV.top) (fun i k => encF rInt x0.1.1 (q1 + Int.toNat q5 + i) k) (q1 + i))) := fun a => by kernel_rfl
end Go.Proofs.YtelpdkojdfnmiaaGreat
/-! LA2 -/
namespace Go.Proofs.YtelpdkojdfnmiaaGreat
open Ev K
set_option maxRecDepth 100000
namespace K
theorem wI {i : Nat} (h : i ≤ 4000000) : IntKind.i64.wrap ((i : Int) + 1) = ((i + 1 : Nat) : Int) := by rw [w64_in (by omega) (by omega)]; rfl
theorem cS {n : Nat} (h : n ≤ 1000000) : clampL n = n := clampL_eq (by unfold maxL; omega)
theorem app3 {ρ : Type} (R : RowD ρ) (l : List ρ) (a : Nat) (h : a ≤ l.length) (g : Nat → Nat → AV) : decF R (a + 1 + (l.length - a)) (fun i => appG (a + 1) (appG a (appG 0 (fun _ _ => .top) fun i k => encF R l i k) g) (fun i k => encF R l (a + i) k) i) = l.take a ++ R.rd (g 0) :: l.drop a := by
  apply List.ext_getElem?
  intro i
  by_cases hi : i < a + 1 + (l.length - a)
  · simp only [decF, List.getElem?_map, List.getElem?_range hi, Option.map_some]
    have hta : (l.take a).length = a := by rw [List.length_take]; omega
    rcases Nat.lt_trichotomy i a with h1 | h1 | h1
    · have e : appG (a + 1) (appG a (appG 0 (fun _ _ => .top) fun i k => encF R l i k) g) (fun i k => encF R l (a + i) k) i = encF R l i := by
        funext k; unfold appG
        rw [show Nat.ble (a + 1) i = false by rw [← Bool.not_eq_true, Nat.ble_eq]; omega, show Nat.ble a i = false by rw [← Bool.not_eq_true, Nat.ble_eq]; omega, show Nat.ble 0 i = true by rw [Nat.ble_eq]; omega]
        simp
      rw [e, List.getElem?_append_left (by omega), List.getElem?_take_of_lt h1, List.getElem?_eq_getElem (by omega), encF_at (List.getElem?_eq_getElem (show i < l.length by omega)), R.good]
    · subst h1
      have e : appG (i + 1) (appG i (appG 0 (fun _ _ => .top) fun i k => encF R l i k) g) (fun j k => encF R l (i + j) k) i = g 0 := by
        funext k; unfold appG
        rw [show Nat.ble (i + 1) i = false by rw [← Bool.not_eq_true, Nat.ble_eq]; omega, show Nat.ble i i = true by rw [Nat.ble_eq]; omega, Nat.sub_self]
      rw [e, List.getElem?_append_right (by omega), hta, Nat.sub_self]; rfl
    · have e : appG (a + 1) (appG a (appG 0 (fun _ _ => .top) fun i k => encF R l i k) g) (fun i k => encF R l (a + i) k) i = encF R l (i - 1) := by
        funext k; unfold appG
        rw [show Nat.ble (a + 1) i = true by rw [Nat.ble_eq]; omega]
        simp only
        rw [show a + (i - (a + 1)) = i - 1 by omega]
      obtain ⟨j, rfl⟩ : ∃ j, i = a + 1 + j := ⟨i - (a + 1), by omega⟩
      rw [e, List.getElem?_append_right (by omega), hta, show a + 1 + j - a = j + 1 by omega, List.getElem?_cons_succ, List.getElem?_drop, show a + 1 + j - 1 = a + j by omega, List.getElem?_eq_getElem (by omega), encF_at (List.getElem?_eq_getElem (show a + j < l.length by omega)), R.good]
  · rw [List.getElem?_eq_none (by simp [decF]; omega), List.getElem?_eq_none (by simp; omega)]
theorem r_ahead_iff (x y : Itm) : r_ahead (x, y) = true ↔ ltK x y := by
  unfold r_ahead ltK
  by_cases h1 : x.known < y.known
  · simp [h1]
  · by_cases h2 : x.known = y.known
    · simp [h2]
    · simp [h1, h2]
def atOf {α : Type} (p : α → Bool) (l : List α) : Nat := (l.takeWhile p).length
theorem atOf_le {α : Type} (p : α → Bool) (l : List α) : atOf p l ≤ l.length := (List.takeWhile_prefix p).length_le
theorem atOf_lt {α : Type} {p : α → Bool} : ∀ {l : List α} {i : Nat} {x : α}, i < atOf p l → l[i]? = some x → p x = true
  | [], i, x, h, _ => by simp [atOf] at h
  | y :: l, i, x, h, hx => by
    unfold atOf at h
    by_cases hy : p y = true
    · rw [List.takeWhile_cons_of_pos hy] at h
      cases i with
      | zero => simp only [List.getElem?_cons_zero, Option.some.injEq] at hx; rw [← hx]; exact hy
      | succ i => exact atOf_lt (l := l) (i := i) (by simpa [atOf] using h) (by simpa using hx)
    · rw [List.takeWhile_cons_of_neg hy] at h; simp at h
theorem atOf_at {α : Type} {p : α → Bool} : ∀ {l : List α} {x : α}, l[atOf p l]? = some x → p x = false
  | [], x, hx => by simp [atOf] at hx
  | y :: l, x, hx => by
    unfold atOf at hx
    by_cases hy : p y = true
    · rw [List.takeWhile_cons_of_pos hy] at hx
      exact atOf_at (l := l) (by simpa [atOf] using hx)
    · rw [List.takeWhile_cons_of_neg hy] at hx
      simp only [List.length_nil, List.getElem?_cons_zero, Option.some.injEq] at hx
      rw [← hx]; simpa using hy
theorem atOf_cons {α : Type} (p : α → Bool) (y : α) (l : List α) : atOf p (y :: l) = if p y then atOf p l + 1 else 0 := by
  unfold atOf
  by_cases hy : p y = true
  · rw [List.takeWhile_cons_of_pos hy, if_pos hy]; rfl
  · rw [List.takeWhile_cons_of_neg hy, if_neg hy]; rfl
def befI (x y : Itm) : Bool := decide (ltK y x)
theorem insR_at : ∀ (l : List Itm) (x : Itm), insR l x = if l[atOf (befI x) l]? = some x then l else l.take (atOf (befI x) l) ++ x :: l.drop (atOf (befI x) l)
  | [], x => by simp [insR, atOf]
  | y :: l, x => by
    unfold insR
    rw [atOf_cons]
    by_cases h : ltK y x
    · have hb : befI x y = true := decide_eq_true h
      rw [if_pos h, hb, if_pos rfl, insR_at l x, List.getElem?_cons_succ, List.take_succ_cons, List.drop_succ_cons]
      split <;> rfl
    · have hb : befI x y = false := decide_eq_false h
      rw [if_neg h, hb]
      simp only [Bool.false_eq_true, if_false, List.getElem?_cons_zero, Option.some.injEq, List.take_zero, List.drop_zero, List.nil_append]
theorem L_rs2_eq {l out : List Itm} (_hl : l.length ≤ 1000) (ho : out.length ≤ 1000) {i : Nat} {x : Itm} (hx : l[i]? = some x) : ∀ (d j : Nat), j + d = atOf (befI x) out → L_rs2 ((l, out.length, (i : Int), (j : Int)), out, ()) = some ((l, out.length, (i : Int), ((atOf (befI x) out : Nat) : Int)), out, ()) := by
  have hle := atOf_le (befI x) out
  obtain ⟨hi, _⟩ := List.getElem?_eq_some_iff.1 hx
  have hid : ∀ x : Itm, (⟨x.id, x.known, x.kind, x.day, x.bill, x.account, x.amount⟩ : Itm) = x := fun _ => rfl
  intro d
  induction d with
  | zero =>
    intro j hj
    refine lim_done ?_
    rw [sl_rs2]
    obtain rfl : j = atOf (befI x) out := by omega
    by_cases h : atOf (befI x) out < out.length
    · have hy := List.getElem?_eq_getElem h
      have hp := atOf_at hy
      generalize out[atOf (befI x) out] = y at hy hp
      simp only [Int.toNat_natCast, Nat.zero_add, item_at hy, item_at hx, wr0, wr1, wr2, wr3, wr4, wr5, wr6, decF_encF, hid]
      refine br_t (decide_eq_true (by omega)) (chk_step (decide_eq_true (by omega)) (chk_step (decide_eq_true (by omega)) (br_f ?_ rfl)))
      rw [← Bool.not_eq_true, r_ahead_iff]
      unfold befI at hp; simpa using hp
    · simp only [Nat.zero_add, decF_encF]
      exact br_f (decide_eq_false (by omega)) rfl
  | succ d ih =>
    intro j hj
    have hjo : j < out.length := by omega
    have hy := List.getElem?_eq_getElem hjo
    have hp := atOf_lt (show j < atOf (befI x) out by omega) hy
    generalize out[j] = y at hy hp
    refine (lim_step ?_).trans (ih (j + 1) (by omega))
    rw [sl_rs2]
    simp only [Int.toNat_natCast, Nat.zero_add, item_at hy, item_at hx, wr0, wr1, wr2, wr3, wr4, wr5, wr6, decF_encF, hid, wI (show j ≤ 4000000 by omega)]
    refine br_t (decide_eq_true (by omega)) (chk_step (decide_eq_true (by omega)) (chk_step (decide_eq_true (by omega)) (br_t ?_ rfl)))
    rw [r_ahead_iff]; unfold befI at hp; simpa using hp
theorem insR_len (l : List Itm) (x : Itm) : (insR l x).length ≤ l.length + 1 := by
  rw [insR_at]
  have := atOf_le (befI x) l
  split
  · omega
  · simp; omega
theorem L_rs1_eq {l : List Itm} (hl : l.length ≤ 500) : ∀ (d i : Nat) (out : List Itm), i + d = l.length → out.length ≤ i → ∃ out', out' = (l.drop i).foldl insR out ∧ L_rs1 ((l, out.length, (i : Int)), out, ()) = some (out'.length, out', ()) := by
  intro d
  induction d with
  | zero =>
    intro i out h ho
    refine ⟨_, rfl, lim_done ?_⟩
    rw [sl_rs1]
    simp only [cS (show l.length ≤ 1000000 by omega), decF_encF]
    refine br_f (decide_eq_false (by omega)) ?_
    rw [List.drop_of_length_le (by omega)]; rfl
  | succ d ih =>
    intro i out h ho
    have hi : i < l.length := by omega
    have hx := List.getElem?_eq_getElem hi
    have hdrop := List.drop_eq_getElem_cons hi
    generalize l[i] = x at hx hdrop
    have hin := insR_len out x
    obtain ⟨out', e1, e2⟩ := ih (i + 1) (insR out x) (by omega) (by omega)
    refine ⟨out', by rw [hdrop, List.foldl_cons]; exact e1, (lim_step ?_).trans e2⟩
    have hle := atOf_le (befI x) out
    rw [sl_rs1]
    simp only [cS (show l.length ≤ 1000000 by omega), Nat.zero_add, decF_encF]
    refine br_t (decide_eq_true (by omega)) (obs_step (L_rs2_eq (l := l) (out := out) (by omega) (by omega) hx (atOf (befI x) out) 0 (by omega)) ?_)
    have wi := wI (show i ≤ 4000000 by omega)
    have same : insR out x = out → (T.ret (Sum.inl ((l, out.length, ((i + 1 : Nat) : Int)), out, ())) : T (((List Itm × Nat × Int) × List Itm × Unit) ⊕ (Nat × List Itm × Unit))).run = some (.inl ((l, (insR out x).length, ((i + 1 : Nat) : Int)), insR out x, ())) := fun e => by rw [e]; rfl
    have ins : insR out x = out.take (atOf (befI x) out) ++ x :: out.drop (atOf (befI x) out) → (T.ret (Sum.inl ((l, atOf (befI x) out + 1 + (out.length - atOf (befI x) out), ((i + 1 : Nat) : Int)), out.take (atOf (befI x) out) ++ x :: out.drop (atOf (befI x) out), ())) : T (((List Itm × Nat × Int) × List Itm × Unit) ⊕ (Nat × List Itm × Unit))).run = some (.inl ((l, (insR out x).length, ((i + 1 : Nat) : Int)), insR out x, ())) := fun e => by
      rw [e]
      have : (out.take (atOf (befI x) out) ++ x :: out.drop (atOf (befI x) out)).length = atOf (befI x) out + 1 + (out.length - atOf (befI x) out) := by simp; omega
      rw [this]; rfl
    have hI := insR_at out x
    have key3 := app3 rItem out (atOf (befI x) out) hle (fun j k => ([(.int .i64 x.id : AV), .int .i64 x.known, .int .i64 x.kind, .int .i64 x.day, .int .i64 x.bill, .int .i64 x.account, .int .i64 x.amount][j * 7 + k]?).getD .top)
    by_cases hlt : atOf (befI x) out < out.length
    · have hy := List.getElem?_eq_getElem hlt
      generalize out[atOf (befI x) out] = y at hy
      rw [hy] at hI
      simp only [Int.toNat_natCast, Nat.sub_zero, item_at hy, item_at hx, wr0, wr1, wr2, wr3, wr4, wr5, wr6, wi]
      refine br_t (decide_eq_true (by omega)) (chk_step (decide_eq_true (by omega)) (chk_step (decide_eq_true (by omega)) ?_))
      by_cases hyx : y = x
      · rw [if_pos (by rw [hyx])] at hI
        exact br_t ((sameI_iff y x).2 hyx) (same hI)
      · rw [if_neg (fun e => hyx (by injection e))] at hI
        refine br_f (by rw [← Bool.not_eq_true]; exact fun h => hyx ((sameI_iff y x).1 h)) ?_
        refine chk_step (by rw [Bool.and_true]; exact decide_eq_true (by omega)) (chk_step (decide_eq_true (by omega)) (chk_step (decide_eq_true (by omega)) (chk_step (decide_eq_true (by omega)) (chk_step (by rw [Bool.true_and]; exact decide_eq_true (by omega)) (chk_step (decide_eq_true (by omega)) ?_)))))
        exact Eq.trans (congrArg (fun L => (some (Sum.inl ((l, atOf (befI x) out + 1 + (out.length - atOf (befI x) out), ((i + 1 : Nat) : Int)), L, ())) : Option (((List Itm × Nat × Int) × List Itm × Unit) ⊕ (Nat × List Itm × Unit)))) key3) (ins hI)
    · rw [List.getElem?_eq_none (by omega)] at hI
      rw [if_neg (by simp)] at hI
      simp only [Int.toNat_natCast, Nat.sub_zero, item_at hx, wr0, wr1, wr2, wr3, wr4, wr5, wr6, wi]
      refine br_f (decide_eq_false (by omega)) ?_
      refine chk_step (by rw [Bool.and_true]; exact decide_eq_true (by omega)) (chk_step (decide_eq_true (by omega)) (chk_step (decide_eq_true (by omega)) (chk_step (decide_eq_true (by omega)) (chk_step (by rw [Bool.true_and]; exact decide_eq_true (by omega)) (chk_step (decide_eq_true (by omega)) ?_)))))
      exact Eq.trans (congrArg (fun L => (some (Sum.inl ((l, atOf (befI x) out + 1 + (out.length - atOf (befI x) out), ((i + 1 : Nat) : Int)), L, ())) : Option (((List Itm × Nat × Int) × List Itm × Unit) ⊕ (Nat × List Itm × Unit)))) key3) (ins hI)
theorem rsorted_eq (l : List Itm) (hl : l.length ≤ 500) : freshT1 P BLA06 30 72 73 D_l rItem l = some (sortedR l) := by
  rw [fn_rsorted]
  obtain ⟨out, e1, e2⟩ := L_rs1_eq hl l.length 0 [] (by omega) (by simp)
  rw [List.drop_zero] at e1
  simp only [Nat.zero_add, decF_encF]
  refine obs_step e2 ?_
  rw [e1]; rfl
theorem bill_at {l : List RB} {i : Nat} {x : RB} (h : l[i]? = some x) : encN nBill l i = nBill.wr x := encN_at h
theorem decN_encN {ρ : Type} (R : RowN ρ) (l : List ρ) : decN R l.length (encN R l) = l := by
  apply List.ext_getElem?
  intro i
  by_cases hi : i < l.length
  · simp only [decN, List.getElem?_map, List.getElem?_range hi, Option.map_some]
    rw [encN_at (List.getElem?_eq_getElem hi), R.good, List.getElem?_eq_getElem hi]
  · rw [List.getElem?_eq_none (by simp [decN]; omega), List.getElem?_eq_none (by omega)]
theorem nb0 (x : RB) : numOf (nBill.wr x 0) = x.number := rfl
theorem nb1 (x : RB) : numOf (nBill.wr x 1) = x.day := rfl
theorem nb2 (x : RB) : numOf (nBill.wr x 2) = x.account := rfl
def atP {α : Type} (l : List α) (p : α → Bool) (j : Nat) : Bool := match l[j]? with
  | some y => p y
  | none => false
def billI (l : List RB) (n : Int) : Int := match billR l n with
  | some i => i
  | none => -1
theorem L_bi_eq (b : RBk) (n : Int) (hl : b.bills.length ≤ 1000) : L_bi ((n, 0), b, ()) = some (match first (atP b.bills fun y => y.number == n) b.bills.length with
    | some j => .inr ((j : Int), ())
    | none => .inl ((), ())) := by
  refine (lim_find (fun i : Nat => ((n, (i : Int)), b, ())) b.bills.length (atP b.bills fun y => y.number == n) (fun j => .inr ((j : Int), ())) (.inl ((), ())) (fun i hi hp => ?_) (fun i hi hp => ?_) ?_).trans ?_
  · rw [sl_bi]
    have hy := List.getElem?_eq_getElem hi
    unfold atP at hp
    rw [hy] at hp
    simp only at hp
    simp only [cS (show b.bills.length ≤ 1000000 by omega), Int.toNat_natCast, Nat.zero_add, bill_at hy, nb0]
    exact br_t (decide_eq_true (by omega)) (chk_step (decide_eq_true (by omega)) (br_t hp rfl))
  · rw [sl_bi]
    have hy := List.getElem?_eq_getElem hi
    unfold atP at hp
    rw [hy] at hp
    simp only at hp
    simp only [cS (show b.bills.length ≤ 1000000 by omega), Int.toNat_natCast, Nat.zero_add, bill_at hy, nb0, decF_encF, decN_encN, wI (show i ≤ 4000000 by omega)]
    exact br_t (decide_eq_true (by omega)) (chk_step (decide_eq_true (by omega)) (br_f hp rfl))
  · rw [sl_bi]
    simp only [cS (show b.bills.length ≤ 1000000 by omega)]
    exact br_f (decide_eq_false (by omega)) rfl
  · cases first (atP b.bills fun y => y.number == n) b.bills.length <;> rfl
theorem first_idx {α : Type} (l : List α) (p : α → Bool) : first (atP l p) l.length = l.findIdx? p := by
  cases hf : first (atP l p) l.length with
  | none =>
    symm
    rw [List.findIdx?_eq_none_iff]
    intro x hx
    obtain ⟨i, hi, rfl⟩ := List.getElem_of_mem hx
    have := first_none' hf i hi
    unfold atP at this
    rw [List.getElem?_eq_getElem hi] at this
    exact this
  | some j =>
    obtain ⟨h1, h2, h3⟩ := first_spec hf
    symm
    rw [List.findIdx?_eq_some_iff_getElem]
    unfold atP at h2
    rw [List.getElem?_eq_getElem h1] at h2
    refine ⟨h1, h2, fun i hi => ?_⟩
    have := h3 i hi
    unfold atP at this
    rw [List.getElem?_eq_getElem (show i < l.length by omega)] at this
    simpa using this
def M_rbill (a : RBk × Int) : T Int := .chk (decide (a.1.bills.length ≤ 1000)) (.ret (billI a.1.bills a.2))
theorem rbill_pc (a : RBk × Int) (r : Int) (h : (M_rbill a).run = some r) : PC P 74 (D_rbill.enc a) (dInt.enc r) := by
  obtain ⟨g, e⟩ := chk_ret h
  subst e
  refine call_of okP tLA11 ((fn_rbill a).trans ?_)
  simp only [Nat.zero_add, decF_encF, decN_encN]
  refine obs_step (L_bi_eq a.1 a.2 (of_decide_eq_true g)) ?_
  rw [first_idx a.1.bills (fun y => y.number == a.2)]
  unfold billI billR
  cases a.1.bills.findIdx? fun y => y.number == a.2 <;> rfl
theorem L_he_eq (l : List Bal) (n : Int) (hl : l.length ≤ 1000) : L_he ((l, n, 0), ()) = some (match first (atP l fun y => y.account == n) l.length with
    | some j => .inr ((l.getD j default).amount, ())
    | none => .inl ((), ())) := by
  refine (lim_find (fun i : Nat => ((l, n, (i : Int)), ())) l.length (atP l fun y => y.account == n) (fun j => .inr ((l.getD j default).amount, ())) (.inl ((), ())) (fun i hi hp => ?_) (fun i hi hp => ?_) ?_).trans ?_
  · rw [sl_he]
    have hy := List.getElem?_eq_getElem hi
    unfold atP at hp
    rw [hy] at hp
    simp only at hp
    simp only [cS (show l.length ≤ 1000000 by omega), Int.toNat_natCast, Nat.zero_add, balr_at hy, bw0, bw1]
    refine br_t (decide_eq_true (by omega)) (chk_step (decide_eq_true (by omega)) (br_t hp (chk_step (decide_eq_true (by omega)) ?_)))
    rw [List.getD_eq_getElem?_getD, hy]; rfl
  · rw [sl_he]
    have hy := List.getElem?_eq_getElem hi
    unfold atP at hp
    rw [hy] at hp
    simp only at hp
    simp only [cS (show l.length ≤ 1000000 by omega), Int.toNat_natCast, Nat.zero_add, balr_at hy, bw0, decF_encF, wI (show i ≤ 4000000 by omega)]
    exact br_t (decide_eq_true (by omega)) (chk_step (decide_eq_true (by omega)) (br_f hp rfl))
  · rw [sl_he]
    simp only [cS (show l.length ≤ 1000000 by omega)]
    exact br_f (decide_eq_false (by omega)) rfl
  · cases first (atP l fun y => y.account == n) l.length <;> rfl
def M_held (a : List Bal × Int) : T Int := .chk (decide (a.1.length ≤ 1000)) (.ret (heldB a.1 a.2))
theorem held_pc (a : List Bal × Int) (r : Int) (h : (M_held a).run = some r) : PC P 126 (D_held.enc a) (dInt.enc r) := by
  obtain ⟨l, n⟩ := a
  obtain ⟨g, e⟩ := chk_ret h
  subst e
  refine call_of okP tLA12 ((fn_held (l, n)).trans ?_)
  simp only [Nat.zero_add, decF_encF]
  refine obs_step (L_he_eq l n (of_decide_eq_true g)) ?_
  rw [first_idx l (fun y => y.account == n)]
  unfold heldB
  cases hf : l.findIdx? fun y => y.account == n with
  | none =>
    rw [List.findIdx?_eq_none_iff] at hf
    rw [List.find?_eq_none.2 (fun x hx => by have := hf x hx; simpa using this)]
    rfl
  | some j =>
    rw [List.findIdx?_eq_some_iff_getElem] at hf
    obtain ⟨h1, h2, h3⟩ := hf
    have hf2 : l.find? (fun b => b.account == n) = some l[j] := by
      rw [List.find?_eq_some_iff_getElem]
      exact ⟨h2, j, h1, rfl, fun i hi => by have := h3 i hi; simpa using this⟩
    rw [hf2]
    show some (l.getD j default).amount = some (l[j]).amount
    rw [List.getD_eq_getElem?_getD, List.getElem?_eq_getElem h1]; rfl
def befB (a : Int) (b : Bal) : Bool := decide (b.account < a)
theorem moreB_at : ∀ (l : List Bal) (a m : Int), moreB l a m = match l[atOf (befB a) l]? with
    | some b => if b.account = a then l.set (atOf (befB a) l) ⟨a, b.amount + m⟩ else l.take (atOf (befB a) l) ++ ⟨a, m⟩ :: l.drop (atOf (befB a) l)
    | none => l.take (atOf (befB a) l) ++ ⟨a, m⟩ :: l.drop (atOf (befB a) l)
  | [], a, m => by simp [moreB, atOf]
  | y :: l, a, m => by
    unfold moreB
    rw [atOf_cons]
    by_cases h : y.account < a
    · have hb : befB a y = true := decide_eq_true h
      rw [if_pos h, hb, if_pos rfl, moreB_at l a m, List.getElem?_cons_succ, List.take_succ_cons, List.drop_succ_cons]
      cases l[atOf (befB a) l]? with
      | none => rfl
      | some b =>
        simp only
        split <;> rfl
    · have hb : befB a y = false := decide_eq_false h
      rw [if_neg h, hb]
      simp only [Bool.false_eq_true, if_false, List.getElem?_cons_zero, List.take_zero, List.drop_zero, List.nil_append, List.set_cons_zero]
theorem L_mo_eq {l : List Bal} {a m : Int} (hl : l.length ≤ 1000) : ∀ (d j : Nat), j + d = atOf (befB a) l → L_mo ((l, a, m, (j : Int)), ()) = some ((l, a, m, ((atOf (befB a) l : Nat) : Int)), ()) := by
  have hle := atOf_le (befB a) l
  intro d
  induction d with
  | zero =>
    intro j hj
    refine lim_done ?_
    rw [sl_mo]
    obtain rfl : j = atOf (befB a) l := by omega
    by_cases h : atOf (befB a) l < l.length
    · have hy := List.getElem?_eq_getElem h
      have hp := atOf_at hy
      generalize l[atOf (befB a) l] = y at hy hp
      simp only [cS (show l.length ≤ 1000000 by omega), Int.toNat_natCast, Nat.zero_add, balr_at hy, bw0, decF_encF]
      exact br_t (decide_eq_true (by omega)) (chk_step (decide_eq_true (by omega)) (br_f hp rfl))
    · simp only [cS (show l.length ≤ 1000000 by omega), Nat.zero_add, decF_encF]
      exact br_f (decide_eq_false (by omega)) rfl
  | succ d ih =>
    intro j hj
    have hjl : j < l.length := by omega
    have hy := List.getElem?_eq_getElem hjl
    have hp := atOf_lt (show j < atOf (befB a) l by omega) hy
    generalize l[j] = y at hy hp
    refine (lim_step ?_).trans (ih (j + 1) (by omega))
    rw [sl_mo]
    simp only [cS (show l.length ≤ 1000000 by omega), Int.toNat_natCast, Nat.zero_add, balr_at hy, bw0, decF_encF, wI (show j ≤ 4000000 by omega)]
    exact br_t (decide_eq_true (by omega)) (chk_step (decide_eq_true (by omega)) (br_t hp rfl))
def amtB (m : Int) : Prop := -1000000000000 ≤ m ∧ m ≤ 1000000000000
instance (m : Int) : Decidable (amtB m) := by unfold amtB; infer_instance
def M_more (a : List Bal × Int × Int) : T (List Bal) := .chk (decide (a.1.length ≤ 1000 ∧ amtB a.2.2 ∧ ∀ b ∈ a.1, amtB b.amount)) (.ret (moreB a.1 a.2.1 a.2.2))
theorem decF_setB (l : List Bal) (i : Nat) (v : Int) {b : Bal} (hb : l[i]? = some b) : decF rBal l.length (fun j => setR i 1 1 [.int .i64 v] (appG 0 (fun _ _ => .top) fun i k => encF rBal l i k) j) = l.set i ⟨b.account, v⟩ := by
  have e0 : (appG 0 (fun _ _ => AV.top) fun i k => encF rBal l i k) = encF rBal l := by
    funext i k; unfold appG
    rw [show Nat.ble 0 i = true by rw [Nat.ble_eq]; omega]; simp
  rw [e0]
  apply List.ext_getElem?
  intro j
  by_cases hj : j < l.length
  · rw [List.getElem?_set]
    simp only [decF, List.getElem?_map, List.getElem?_range hj, Option.map_some]
    by_cases e : i = j
    · subst e
      rw [if_pos rfl, if_pos hj]
      have hbq : Nat.beq i i = true := by simp
      have h0 : setR i 1 1 [AV.int IntKind.i64 v] (encF rBal l) i 0 = encF rBal l i 0 := by simp only [setR, hbq]; rfl
      have h1 : setR i 1 1 [AV.int IntKind.i64 v] (encF rBal l) i 1 = .int .i64 v := by simp only [setR, hbq]; rfl
      show some (⟨numOf (setR i 1 1 [AV.int IntKind.i64 v] (encF rBal l) i 0), numOf (setR i 1 1 [AV.int IntKind.i64 v] (encF rBal l) i 1)⟩ : Bal) = _
      rw [h0, h1, balr_at hb]; rfl
    · rw [if_neg e]
      have hbq : Nat.beq j i = false := by rw [← Bool.not_eq_true, Nat.beq_eq]; omega
      have hy := List.getElem?_eq_getElem hj
      have e2 : (fun k => setR i 1 1 [AV.int IntKind.i64 v] (encF rBal l) j k) = encF rBal l j := by
        funext k; simp only [setR, hbq]; rfl
      rw [show setR i 1 1 [AV.int IntKind.i64 v] (encF rBal l) j = encF rBal l j from e2, encF_at hy, rBal.good, hy]
  · rw [List.getElem?_eq_none (by simp [decF]; omega), List.getElem?_eq_none (by simp; omega)]
theorem more_f (a : List Bal × Int × Int) (r : List Bal) (h : (M_more a).run = some r) : freshT1 P BLA13 30 78 38 D_more rBal a = some r := by
  obtain ⟨l, a, m⟩ := a
  obtain ⟨g, e⟩ := chk_ret h
  subst e
  obtain ⟨hl, hm, hb⟩ := of_decide_eq_true g
  simp only at hl hm hb
  rw [fn_more]
  have hle := atOf_le (befB a) l
  simp only [Nat.zero_add, decF_encF]
  refine obs_step (L_mo_eq hl (atOf (befB a) l) 0 (by omega)) ?_
  have hM := moreB_at l a m
  have key3 := app3 rBal l (atOf (befB a) l) hle (fun j k => ([(.int .i64 a : AV), .int .i64 m][j * 2 + k]?).getD .top)
  have ins : moreB l a m = l.take (atOf (befB a) l) ++ ⟨a, m⟩ :: l.drop (atOf (befB a) l) → some (decF rBal (atOf (befB a) l + 1 + (l.length - atOf (befB a) l)) fun i => appG (atOf (befB a) l + 1) (appG (atOf (befB a) l) (appG 0 (fun _ _ => .top) fun i k => encF rBal l i k) (fun j k => ([(.int .i64 a : AV), .int .i64 m][j * 2 + k]?).getD .top)) (fun i k => encF rBal l (atOf (befB a) l + i) k) i) = some (moreB l a m) := fun e => by
    rw [key3, e]; rfl
  dsimp only
  refine chk_step (decide_eq_true (by omega)) ?_
  by_cases hlt : atOf (befB a) l < l.length
  · have hy := List.getElem?_eq_getElem hlt
    have hmem := List.getElem_mem hlt
    generalize l[atOf (befB a) l] = y at hy hmem
    rw [hy] at hM
    simp only at hM
    have hya := hb y hmem
    unfold amtB at hya hm
    simp only [cS (show l.length ≤ 1000000 by omega), Int.toNat_natCast, Nat.sub_zero, balr_at hy, bw0]
    refine br_t (decide_eq_true (by omega)) (chk_step (decide_eq_true (by omega)) ?_)
    by_cases hay : y.account = a
    · rw [if_pos hay] at hM
      refine br_t (beq_iff_eq.2 hay) (chk_step (decide_eq_true (by omega)) (chk_step (decide_eq_true (by omega)) ?_))
      have e1 : numOf (appG 0 (fun _ _ => AV.top) (fun i k => encF rBal l i k) (atOf (befB a) l) 1) = y.amount := by
        unfold appG
        rw [show Nat.ble 0 (atOf (befB a) l) = true by rw [Nat.ble_eq]; omega]
        simp only [Nat.sub_zero]
        rw [balr_at hy]; rfl
      rw [e1, w64_in (by omega) (by omega), hM]
      show some (decF rBal l.length fun j => setR (atOf (befB a) l) 1 1 [.int .i64 (y.amount + m)] (appG 0 (fun _ _ => .top) fun i k => encF rBal l i k) j) = _
      rw [decF_setB l _ _ hy, hay]
    · rw [if_neg hay] at hM
      refine br_f (by rw [beq_eq_false_iff_ne]; exact hay) (chk_step (by rw [Bool.and_true]; exact decide_eq_true (by omega)) (chk_step (decide_eq_true (by omega)) (chk_step (decide_eq_true (by omega)) (chk_step (by rw [Bool.true_and]; exact decide_eq_true (by omega)) (chk_step (decide_eq_true (by omega)) ?_)))))
      exact ins hM
  · rw [List.getElem?_eq_none (by omega)] at hM
    simp only at hM
    simp only [cS (show l.length ≤ 1000000 by omega), Int.toNat_natCast, Nat.sub_zero]
    refine br_f (decide_eq_false (by omega)) (chk_step (by rw [Bool.and_true]; exact decide_eq_true (by omega)) (chk_step (decide_eq_true (by omega)) (chk_step (decide_eq_true (by omega)) (chk_step (by rw [Bool.true_and]; exact decide_eq_true (by omega)) (chk_step (decide_eq_true (by omega)) ?_)))))
    exact ins hM
def befN (n b : Int) : Bool := decide (b < n)
theorem addL_at : ∀ (l : List Int) (n : Int), addL l n = l.take (atOf (befN n) l) ++ n :: l.drop (atOf (befN n) l)
  | [], n => by simp [addL, atOf]
  | y :: l, n => by
    unfold addL
    rw [atOf_cons]
    by_cases h : y < n
    · have hb : befN n y = true := decide_eq_true h
      rw [if_pos h, hb, if_pos rfl, addL_at l n, List.take_succ_cons, List.drop_succ_cons]; rfl
    · have hb : befN n y = false := decide_eq_false h
      rw [if_neg h, hb]
      simp only [Bool.false_eq_true, if_false, List.take_zero, List.drop_zero, List.nil_append]
theorem L_ad_eq {l : List Int} {n : Int} (hl : l.length ≤ 1000) : ∀ (d j : Nat), j + d = atOf (befN n) l → L_ad ((l, n, (j : Int)), ()) = some ((l, n, ((atOf (befN n) l : Nat) : Int)), ()) := by
  have hle := atOf_le (befN n) l
  intro d
  induction d with
  | zero =>
    intro j hj
    refine lim_done ?_
    rw [sl_ad]
    obtain rfl : j = atOf (befN n) l := by omega
    by_cases h : atOf (befN n) l < l.length
    · have hy := List.getElem?_eq_getElem h
      have hp := atOf_at hy
      generalize l[atOf (befN n) l] = y at hy hp
      simp only [cS (show l.length ≤ 1000000 by omega), Int.toNat_natCast, Nat.zero_add, int_at hy, iw0, decF_encF]
      exact br_t (decide_eq_true (by omega)) (chk_step (decide_eq_true (by omega)) (br_f hp rfl))
    · simp only [cS (show l.length ≤ 1000000 by omega), Nat.zero_add, decF_encF]
      exact br_f (decide_eq_false (by omega)) rfl
  | succ d ih =>
    intro j hj
    have hjl : j < l.length := by omega
    have hy := List.getElem?_eq_getElem hjl
    have hp := atOf_lt (show j < atOf (befN n) l by omega) hy
    generalize l[j] = y at hy hp
    refine (lim_step ?_).trans (ih (j + 1) (by omega))
    rw [sl_ad]
    simp only [cS (show l.length ≤ 1000000 by omega), Int.toNat_natCast, Nat.zero_add, int_at hy, iw0, decF_encF, wI (show j ≤ 4000000 by omega)]
    exact br_t (decide_eq_true (by omega)) (chk_step (decide_eq_true (by omega)) (br_t hp rfl))
def M_add (a : List Int × Int) : T (List Int) := .chk (decide (a.1.length ≤ 1000)) (.ret (addL a.1 a.2))
theorem add_f (a : List Int × Int) (r : List Int) (h : (M_add a).run = some r) : freshT1 P BLA14 30 85 3 D_add rInt a = some r := by
  obtain ⟨l, n⟩ := a
  obtain ⟨g, e⟩ := chk_ret h
  subst e
  have hl := of_decide_eq_true g
  simp only at hl
  rw [fn_add]
  have hle := atOf_le (befN n) l
  simp only [Nat.zero_add, decF_encF]
  refine obs_step (L_ad_eq hl (atOf (befN n) l) 0 (by omega)) ?_
  have key3 := app3 rInt l (atOf (befN n) l) hle (fun j k => ([(.int .i64 n : AV)][j * 1 + k]?).getD .top)
  simp only [Int.toNat_natCast, Nat.sub_zero]
  refine chk_step (by rw [Bool.and_true]; exact decide_eq_true (by omega)) (chk_step (decide_eq_true (by omega)) (chk_step (decide_eq_true (by omega)) (chk_step (by rw [Bool.true_and]; exact decide_eq_true (by omega)) (chk_step (decide_eq_true (by omega)) ?_))))
  rw [addL_at]
  refine Eq.trans ?_ (congrArg some key3)
  rfl
end K
noncomputable def BLA21 : Tab := BLA14.addTurn 72 (freshE 73 D_l rItem (fun l => .chk (decide (l.length ≤ 500)) (.ret (K.sortedR l))))
theorem tLA21 : TabOk P BLA21 := TabOk.addFC tLA14 (D := D_l) (R := rItem) (M := (fun l => .chk (decide (l.length ≤ 500)) (.ret (K.sortedR l)))) (fun a r h => by obtain ⟨g, e⟩ := chk_ret h; subst e; exact fresh_of (d := 30) okP tLA06 (K.rsorted_eq a (of_decide_eq_true g)))
noncomputable def BLA22 : Tab := BLA21.addCall 74 (callE D_rbill dInt K.M_rbill)
theorem tLA22 : TabOk P BLA22 := TabOk.addPC tLA21 (K.rbill_pc)
noncomputable def BLA23 : Tab := BLA22.addCall 126 (callE D_held dInt K.M_held)
theorem tLA23 : TabOk P BLA23 := TabOk.addPC tLA22 (K.held_pc)
noncomputable def BLA24 : Tab := BLA23.addTurn 78 (freshE 38 D_more rBal K.M_more)
theorem tLA24 : TabOk P BLA24 := TabOk.addFC tLA23 (D := D_more) (R := rBal) (M := K.M_more) (fun a r h => fresh_of (d := 30) okP tLA13 (K.more_f a r h))
noncomputable def BLA25 : Tab := BLA24.addTurn 85 (freshE 3 D_add rInt K.M_add)
theorem tLA25 : TabOk P BLA25 := TabOk.addFC tLA24 (D := D_add) (R := rInt) (M := K.M_add) (fun a r h => fresh_of (d := 30) okP tLA14 (K.add_f a r h))
end Go.Proofs.YtelpdkojdfnmiaaGreat
/-! LA3 -/
namespace Go.Proofs.YtelpdkojdfnmiaaGreat
open Ev K
set_option maxRecDepth 100000
set_option maxHeartbeats 0
def D_rbad := DecL.cons dBkR (.last dItem 0)
noncomputable def K.r_bad (a : RBk × Itm) : Option (Bool) := T.run (
 let q1 := decF rBal (List.length (RBk.bonds a.1)) fun i => encF rBal (RBk.bonds a.1) ((0 : Nat) + i);
 let q12 := Itm.kind a.2 == (4 : Int);
 let q3 := decF rBal (List.length (RBk.paid a.1)) fun i => encF rBal (RBk.paid a.1) ((0 : Nat) + i);
 let q10 := decide (List.length q3 ≤ (1000 : Nat));
 let q9 := decide (heldB q3 (Itm.account a.2) < Itm.amount a.2);
 let q11 := Itm.kind a.2 == (6 : Int);
 let q6 := decide (List.length q1 ≤ (1000 : Nat));
 let q5 := decide (heldB q1 (Itm.account a.2) < Itm.amount a.2);
 let q7 : T _ := .br q11 (
                  .chk q6 <|
                  .ret q5) (
                  .ret (false));
 let q8 : T _ := .br q11 (
                .chk q6 <|
                .ret q5) (
                .ret (false));
 let q2 : T _ := .br q12 (
              .chk q10 <|
              .br q9 (
                .ret (true)) q7) q8;
 let q4 := decN nBill (List.length (RBk.bills a.1)) fun i => encN nBill (RBk.bills a.1) ((0 : Nat) + i);
 let q13 := decide (billI q4 (Itm.bill a.2) < (0 : Int));
  .br (Itm.kind a.2 == (7 : Int)) (
    .ret (decide (Itm.day a.2 ≤ RBk.closed a.1))) (
    .chk (decide (List.length q4 ≤ (1000 : Nat))) <|
    .br (decide (IntKind.wrap IntKind.i64 (RBk.closed a.1 + (1 : Int)) > (728 : Int))) (
      .ret (true)) (
      .br (Itm.kind a.2 == (1 : Int)) (
        .br (decide (billI q4 (Itm.bill a.2) ≥ (0 : Int))) (
          .ret (true)) (
          .br (Itm.kind a.2 == (2 : Int)) (
            .br q13 (
              .ret (true)) (
              .br q12 (
                .chk q10 <|
                .br q9 (
                  .ret (true)) (
                  .br q11 (
                    .chk q6 <|
                    .ret q5) (
                    .ret (false)))) q7)) q2)) (
        .br (Itm.kind a.2 == (2 : Int)) (
          .br q13 (
            .ret (true)) q2) (
          .br q12 (
            .chk q10 <|
            .br q9 (
              .ret (true)) q8) (
            .br q11 (
              .chk q6 <|
              .ret q5) (
              .ret (false))))))))
theorem eq_r_bad (a : RBk × Itm) : (callT1 P BLA25 30 108 D_rbad dB) a = K.r_bad a := by kernel_rfl
noncomputable def BLA31 : Tab := BLA25.addCall 108 (callE D_rbad dB (fun a => .obs (K.r_bad a) .ret))
theorem tLA31 : TabOk P BLA31 := TabOk.addFn (d := 30) okP tLA25 (fun a r h => by rw [eq_r_bad]; exact obs_ret h)
noncomputable def BLA32 : Tab := BLA31.addInl 73
theorem tLA32 : TabOk P BLA32 := TabOk.addInl tLA31
noncomputable def BLA33 : Tab := BLA32.addInl 109
theorem tLA33 : TabOk P BLA33 := TabOk.addInl tLA32
noncomputable def BLA34 : Tab := BLA33.addPiv 25 [13]
theorem tLA34 : TabOk P BLA34 := TabOk.addPiv tLA33
abbrev BkRP := Int × Nat × Nat × Nat × Nat × Nat × Nat
def lBkO : DecL BkRP := .cons dInt (.cons (dO 2) (.cons (dO 3) (.cons (dO 4) (.cons (dO 5) (.cons (dO 6) (.last (dO 7) 0))))))
def lBkX : DecL BkRP := .cons dInt (.cons (dO 2) (.cons (dO 3) (.cons (dO 4) (.cons (dO 5) (.cons (dO 6) (.last (dO 7) 0))))))
abbrev KpObj := Unit × BkRP × List Pst × List Int × List RB × List Bal × List Bal × List Itm × List Itm × Unit
def O_kp : DecB KpObj := .flat 54 (.tops 8) (.flat 52 lBkO (.rows 23 rPost (.rows 3 rInt (.rowsN 124 nBill (.rows 38 rBal (.rows 38 rBal (.rows 73 rItem (.rows 73 rItem .nil))))))))
abbrev KpObjX := Unit × BkRP × List Pst × List Int × List RB × List Bal × List Bal × List Itm × Unit
def O_kpx : DecB KpObjX := .flat 54 (.tops 8) (.flat 52 lBkX (.rows 23 rPost (.rows 3 rInt (.rowsN 124 nBill (.rows 38 rBal (.rows 38 rBal (.rows 73 rItem .nil)))))))
def S_kp := DecS.ghostF 7 1 23 4 [.int .i64, .int .i64, .int .i64, .int .i64] (DecS.ghostF 7 2 3 1 [.int .i64] (DecS.ghostF 7 3 124 4 [.int .i64, .int .i64, .int .i64, .sl 2 [.int .i64, .int .i64]] (DecS.ghostF 7 4 38 2 [.int .i64, .int .i64] (DecS.ghostF 7 5 38 2 [.int .i64, .int .i64] (DecS.ghostF 7 6 73 7 [.int .i64, .int .i64, .int .i64, .int .i64, .int .i64, .int .i64, .int .i64] (DecS.mk0 (.skip (.cons (dInt) (.skips 2 (.unit (dLp 0 0 0 0) (.skips 2 (.unit (dLp 1 0 0 0) (.cons (dO 8) (.last (dInt) 35)))))))) O_kp))))))
def X_kp := DecX.one (.exit 0) [4, 7] (DecS.mk0 (.skips 4 (.unit (dLp 0 0 0 0) (.skips 2 (.unit (dLp 1 0 0 0) (.tops 37))))) O_kpx)
noncomputable def K.st_kp := loopT1 P BLA34 30 25 81 [9, 7, 8, 1, 4] S_kp X_kp
theorem sl_kp : ∀ s, (K.st_kp) s = T.run (
 let q18 := s.2.2.2.2.2.2.2.2.1;
 let q54 := List.length q18;
 let q62 := encF rItem q18;
 let q3 := s.2.2.2.2.2.2.2.2.2.1;
 let q5 := Int.toNat s.1.2.2;
 let q25 := (0 : Nat);
 let q13 := numOf (encF rItem q3 q5 q25);
 let q42 := encF rItem q3 q5 (nat_lit 1);
 let q29 := encF rItem q3 q5 (nat_lit 2);
 let q37 := encF rItem q3 q5 (nat_lit 3);
 let q24 := numOf (encF rItem q3 q5 (nat_lit 4));
 let q11 := numOf (encF rItem q3 q5 (nat_lit 5));
 let q57 := encF rItem q3 q5 (nat_lit 6);
 let q12 := numOf q57;
 let q1 := appG q54 q62 fun i k => Option.getD [AV.int IntKind.i64 q13, AV.int IntKind.i64 (numOf q42), AV.int IntKind.i64 (numOf q29), AV.int IntKind.i64 (numOf q37), AV.int IntKind.i64 q24, AV.int IntKind.i64 q11, AV.int IntKind.i64 q12][(q25 + i) * (7 : Nat) + k]? AV.top;
 let q10 := s.2.2.2.2.2.1;
 let q38 := List.length q10;
 let q17 := decN nBill q38 fun i => encN nBill q10 (q25 + i);
 let q2 := Int.toNat (billI q17 q24);
 let q48 := s.2.2.1.1;
 let q50 := (1 : Int);
 let q4 := if IntKind.wrap IntKind.i64 (q48 + q50) > numOf q37 then IntKind.wrap IntKind.i64 (q48 + q50) else numOf q37;
 let q59 := (0 : Int);
 let q6 := IntKind.wrap IntKind.i64 (q59 - numOf q57);
 let q21 := s.2.2.2.2.2.2.2.1;
 let q35 := List.length q21;
 let q7 := decF rBal q35 fun i => encF rBal q21 (q25 + i);
 let q27 := s.2.2.2.1;
 let q47 := (2 : Nat);
 let q33 := List.length q27 + q47;
 let q45 := (140737488355328 : Nat);
 let q8 := decide (q33 * (32 : Nat) ≤ q45 ∧ List.length q27 + q47 ≤ nat_lit 9223372036854775807);
 let q23 := List.length s.2.2.2.2.2.2.1;
 let q9 := decF rBal q23 fun i => encF rBal s.2.2.2.2.2.2.1 (q25 + i);
 let q14 := (s.1.1, s.1.2.1, IntKind.wrap IntKind.i64 (s.1.2.2 + q50));
 let q15 := encN nBill q10 q2 (nat_lit 3);
 let q16 := (1 : Nat);
 let q28 := List.length s.2.2.2.2.1;
 let q19 := decF rInt q28 fun i => encF rInt s.2.2.2.2.1 (q25 + i);
 let q39 := encF rItem q3;
 let q20 := Get.f (Get.mk (RowD.tags rItem) q39) q5 (q25 + q16 + q16 + q16 + q16 + q16 + q16);
 let q22 := Get.f (Get.mk (RowD.tags rItem) q39) q5 (q25 + q16 + q16 + q16 + q16 + q16);
 let q26 := encF rBal s.2.2.2.2.2.2.1;
 let q55 := encN nBill q10 q2 (nat_lit 1);
 let q30 := if IntKind.wrap IntKind.i64 (q48 + q50) > numOf q55 then IntKind.wrap IntKind.i64 (q48 + q50) else numOf q55;
 let q31 := encF rInt s.2.2.2.2.1;
 let q46 := (↑(clampL (slLen q15)) : Int) - q50;
 let q32 := numOf q57 - numOf (slF q15 (slRow q15 + Int.toNat (IntKind.wrap IntKind.i64 q46)) (nat_lit 1));
 let q34 := List.length q27;
 let q36 := List.length q18 + q16;
 let q40 := encF rPost q27;
 let q41 := encN nBill q10;
 let q43 := encF rBal q21;
 let q44 := List.length q3;
 let q49 := s.2.2.1.2.2.2.2.2.1;
 let q51 := s.2.2.1.2.2.1;
 let q52 := s.2.2.1.2.2.2.1;
 let q53 := decide (q59 ≤ s.1.2.2 ∧ s.1.2.2 < (↑s.1.2.1 : Int));
 let q56 := s.2.2.1.2.2.2.2.1;
 let q58 := (1000 : Nat);
 let q60 := q25 + slLen q15 + q16;
 let q61 := q25 + List.length q10;
 let q63 := RowD.tags rBal;
 let q64 := (4 : Nat);
 let q65 := numOf (encN nBill q10 q2 (nat_lit 2));
 let q66 := moreB q9 q11 q12;
 let q67 := moreB q7 q11 q12;
 let q68 := moreB q9 q11 q6;
 let q69 := moreB q7 q11 q6;
  .br (decide (s.1.2.2 < (↑s.1.2.1 : Int))) (
    .chk q53 <|
    .br (decide (numOf q42 ≤ s.1.1)) (
      .chk q53 <|
      .obs (r_bad (RBk.mk q48 (decF rPost q34 fun i => encF rPost q27 (q25 + i)) q19 q17 q9 q7 (decF rItem q54 fun i => encF rItem q18 (q25 + i)), Itm.mk q13 (numOf q42) (numOf q29) (numOf q37) q24 q11 q12)) fun x0 =>
        .br (x0) (
          .chk (decide (List.length q19 ≤ q58)) <|
          .ret (Sum.inl (q14, PUnit.unit, (q48, s.2.2.1.2.1, List.length (K.addL q19 q13), s.2.2.1.2.2.2), decF rPost q34 q40, decF rInt (List.length (K.addL q19 q13)) (encF rInt (K.addL q19 q13)), decN nBill q38 q41, decF rBal q23 q26, decF rBal q35 q43, decF rItem q54 q62, decF rItem q44 q39, PUnit.unit))) (
          .chk (decide (q36 * (56 : Nat) ≤ q45 ∧ List.length q18 + q16 ≤ nat_lit 9223372036854775807)) <|
          .br (numOf q29 == q50) (
            .chk (decide ((List.length q10 + q16) * (48 : Nat) ≤ q45 ∧ List.length q10 + q16 ≤ nat_lit 9223372036854775807)) <|
            .chk q8 <|
            .ret (Sum.inl (q14, PUnit.unit, (q48, List.length q27 + q47, q51, List.length q10 + q16, q56, q49, List.length q18 + q16), decF rPost q33 (appG q34 q40 fun i k => Option.getD [AV.int IntKind.i64 q13, AV.int IntKind.i64 q4, AV.int IntKind.i64 q11, AV.int IntKind.i64 q12, AV.int IntKind.i64 q13, AV.int IntKind.i64 q4, AV.int IntKind.i64 (2 : Int), AV.int IntKind.i64 q6][(q25 + i) * q64 + k]? AV.top), decF rInt q28 q31, decN nBill (List.length q10 + q16) (appG q38 q41 fun i k => Option.getD [AV.int IntKind.i64 q24, AV.int IntKind.i64 (numOf q37), AV.int IntKind.i64 q11, AV.xsl q47 (nat_lit 1) (Get.mk [CK.int IntKind.i64, CK.int IntKind.i64] fun i k => Option.getD [AV.int IntKind.i64 (numOf q42), AV.int IntKind.i64 q12][i * q47 + k]? AV.top) q25 q16 (some q16)][(q25 + i) * q64 + k]? AV.top), decF rBal q23 q26, decF rBal q35 q43, decF rItem q36 q1, decF rItem q44 q39, PUnit.unit))) (
            .br (numOf q29 == (2 : Int)) (
              .chk (decide (List.length q17 ≤ q58)) <|
              .chk (decide (q59 ≤ billI q17 q24 ∧ billI q17 q24 < (↑q52 : Int))) <|
              .chk (decide (q59 ≤ IntKind.wrap IntKind.i64 q46 ∧ IntKind.wrap IntKind.i64 q46 < (↑(slLen q15) : Int))) <|
              .chk (decide ((q25 + slLen q15) * (16 : Nat) ≤ q45 ∧ q25 + slLen q15 ≤ nat_lit 9223372036854775807)) <|
              .chk (decide (q60 * (16 : Nat) ≤ q45 ∧ q25 + slLen q15 + q16 ≤ nat_lit 9223372036854775807)) <|
              .chk (decide (q61 * (48 : Nat) ≤ q45 ∧ q25 + List.length q10 ≤ nat_lit 9223372036854775807)) <|
              .chk (decide (q59 ≤ billI q17 q24 ∧ billI q17 q24 < (↑q61 : Int))) <|
              .chk q8 <|
              .ret (Sum.inl (q14, PUnit.unit, (q48, List.length q27 + q47, q51, q25 + List.length q10, q56, q49, List.length q18 + q16), decF rPost q33 (appG q34 q40 fun i k => Option.getD [AV.int IntKind.i64 q13, AV.int IntKind.i64 q30, AV.int IntKind.i64 q65, AV.int IntKind.i64 (IntKind.wrap IntKind.i64 q32), AV.int IntKind.i64 q13, AV.int IntKind.i64 q30, AV.int IntKind.i64 (2 : Int), AV.int IntKind.i64 (IntKind.wrap IntKind.i64 (q59 - IntKind.wrap IntKind.i64 q32))][(q25 + i) * q64 + k]? AV.top), decF rInt q28 q31, decN nBill q61 (setR q2 q25 (nat_lit 4) [AV.int IntKind.i64 (numOf (encN nBill q10 q2 q25)), AV.int IntKind.i64 (numOf q55), AV.int IntKind.i64 q65, AV.xsl q47 q60 (Get.mk [CK.int IntKind.i64, CK.int IntKind.i64] (appG (q25 + slLen q15) (appG q25 (fun _x _x_1 => AV.top) fun i k => slF q15 (slRow q15 + i) k) fun i k => Option.getD [AV.int IntKind.i64 (numOf q42), AV.int IntKind.i64 q12][(q25 + i) * q47 + k]? AV.top)) q25 q60 none] (appG q25 (fun _x _x_1 => AV.top) q41)), decF rBal q23 q26, decF rBal q35 q43, decF rItem q36 q1, decF rItem q44 q39, PUnit.unit))) (
              .br (numOf q29 == (3 : Int)) (
                .chk (decide (List.length q9 ≤ q58 ∧ amtB q12 ∧ ∀ (b : Bal), b ∈ Prod.fst (decF rBal q23 fun i => Get.f (Get.mk q63 q26) (q25 + i), numOf q22, numOf q20) → amtB (Bal.amount b))) <|
                .chk q8 <|
                .ret (Sum.inl (q14, PUnit.unit, (q48, List.length q27 + q47, q51, q52, List.length q66, q49, List.length q18 + q16), decF rPost q33 (appG q34 q40 fun i k => Option.getD [AV.int IntKind.i64 q13, AV.int IntKind.i64 q4, AV.int IntKind.i64 q50, AV.int IntKind.i64 q12, AV.int IntKind.i64 q13, AV.int IntKind.i64 q4, AV.int IntKind.i64 q11, AV.int IntKind.i64 q6][(q25 + i) * q64 + k]? AV.top), decF rInt q28 q31, decN nBill q38 q41, decF rBal (List.length q66) (encF rBal q66), decF rBal q35 q43, decF rItem q36 q1, decF rItem q44 q39, PUnit.unit))) (
                .br (numOf q29 == (4 : Int)) (
                  .chk (decide (List.length q9 ≤ q58 ∧ amtB q6 ∧ ∀ (b : Bal), b ∈ Prod.fst (decF rBal q23 fun i => Get.f (Get.mk q63 q26) (q25 + i), numOf q22, IntKind.wrap IntKind.i64 (q59 - numOf q20)) → amtB (Bal.amount b))) <|
                  .chk q8 <|
                  .ret (Sum.inl (q14, PUnit.unit, (q48, List.length q27 + q47, q51, q52, List.length q68, q49, List.length q18 + q16), decF rPost q33 (appG q34 q40 fun i k => Option.getD [AV.int IntKind.i64 q13, AV.int IntKind.i64 q4, AV.int IntKind.i64 q11, AV.int IntKind.i64 q12, AV.int IntKind.i64 q13, AV.int IntKind.i64 q4, AV.int IntKind.i64 q50, AV.int IntKind.i64 q6][(q25 + i) * q64 + k]? AV.top), decF rInt q28 q31, decN nBill q38 q41, decF rBal (List.length q68) (encF rBal q68), decF rBal q35 q43, decF rItem q36 q1, decF rItem q44 q39, PUnit.unit))) (
                  .br (numOf q29 == (5 : Int)) (
                    .chk (decide (List.length q7 ≤ q58 ∧ amtB q12 ∧ ∀ (b : Bal), b ∈ Prod.fst (decF rBal q35 fun i => Get.f (Get.mk q63 q43) (q25 + i), numOf q22, numOf q20) → amtB (Bal.amount b))) <|
                    .chk q8 <|
                    .ret (Sum.inl (q14, PUnit.unit, (q48, List.length q27 + q47, q51, q52, q56, List.length q67, List.length q18 + q16), decF rPost q33 (appG q34 q40 fun i k => Option.getD [AV.int IntKind.i64 q13, AV.int IntKind.i64 q4, AV.int IntKind.i64 q50, AV.int IntKind.i64 q12, AV.int IntKind.i64 q13, AV.int IntKind.i64 q4, AV.int IntKind.i64 (3 : Int), AV.int IntKind.i64 q6][(q25 + i) * q64 + k]? AV.top), decF rInt q28 q31, decN nBill q38 q41, decF rBal q23 q26, decF rBal (List.length q67) (encF rBal q67), decF rItem q36 q1, decF rItem q44 q39, PUnit.unit))) (
                    .br (numOf q29 == (6 : Int)) (
                      .chk (decide (List.length q7 ≤ q58 ∧ amtB q6 ∧ ∀ (b : Bal), b ∈ Prod.fst (decF rBal q35 fun i => Get.f (Get.mk q63 q43) (q25 + i), numOf q22, IntKind.wrap IntKind.i64 (q59 - numOf q20)) → amtB (Bal.amount b))) <|
                      .chk q8 <|
                      .ret (Sum.inl (q14, PUnit.unit, (q48, List.length q27 + q47, q51, q52, q56, List.length q69, List.length q18 + q16), decF rPost q33 (appG q34 q40 fun i k => Option.getD [AV.int IntKind.i64 q13, AV.int IntKind.i64 q4, AV.int IntKind.i64 (3 : Int), AV.int IntKind.i64 q12, AV.int IntKind.i64 q13, AV.int IntKind.i64 q4, AV.int IntKind.i64 q50, AV.int IntKind.i64 q6][(q25 + i) * q64 + k]? AV.top), decF rInt q28 q31, decN nBill q38 q41, decF rBal q23 q26, decF rBal (List.length q69) (encF rBal q69), decF rItem q36 q1, decF rItem q44 q39, PUnit.unit))) (
                      .ret (Sum.inl (q14, PUnit.unit, (numOf q37, s.2.2.1.2.1, q51, q52, q56, q49, List.length q18 + q16), decF rPost q34 q40, decF rInt q28 q31, decN nBill q38 q41, decF rBal q23 q26, decF rBal q35 q43, decF rItem q36 q1, decF rItem q44 q39, PUnit.unit)))))))))) (
      .ret (Sum.inl (q14, PUnit.unit, s.2.2.1, decF rPost q34 q40, decF rInt q28 q31, decN nBill q38 q41, decF rBal q23 q26, decF rBal q35 q43, decF rItem q54 q62, decF rItem q44 q39, PUnit.unit)))) (
    .ret (Sum.inr (PUnit.unit, PUnit.unit, s.2.2.1, decF rPost q34 q40, decF rInt q28 q31, decN nBill q38 q41, decF rBal q23 q26, decF rBal q35 q43, decF rItem q54 q62, PUnit.unit)))) := fun s => by kernel_rfl
end Go.Proofs.YtelpdkojdfnmiaaGreat
