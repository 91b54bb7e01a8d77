/- Parts of the proof, one behind the other: EvW, K0, KD, KR, KS, KA, KB, KC. No conditions. -/
import Derived.ProofKit
import Derived.Carry
import Derived.Test.YtkajafmphemedaaProg
import Derived.KernelRfl
import Derived.Test.YtkajafmphemedaaBb3
/-! EvW -/
namespace Go.Proofs.Ytkajafmphemedaa.Ev
open Go.RowKit Go.WideShapes Go.ChangeShapes

section
variable {H : Type} {enc : TypeId × Value → H} {P : Program}

/-- The row's last step where only new memory was made. -/
theorem post_of_below {f : Func} {s : ChangeSpec} {apart fresh handsOn again : Bool} {W W' : World} {args : Array Value} {v : Value} {ds gs : List (DataW H)} {before pa pv : List MemPlace}
    (hW : DataW.Whole enc P f.params.toList s.vars apart W args.toList ds gs before)
    (hres : ∀ (b : Nat) (sp : Nat → Bool) (hd : Bool), DataW.TrodAll enc P W' b sp hd f.resultTypes.toList (v.resultList f.resultTypes.size) (s.fn H (ds ++ gs)).results [])
    (hargs : ∀ sp : Nat → Bool, (∀ p ∈ before, sp p.block = true) → DataW.TrodAll enc P W' 0 sp true f.params.toList args.toList (s.fn H (ds ++ gs)).args pa)
    (hvars : ∀ sp : Nat → Bool, (∀ p ∈ before, sp p.block = true) → DataW.TrodVars enc P W' sp s.vars (s.fn H (ds ++ gs)).vars pv)
    (hps : before = pa ++ pv) (hb : Below W.heap.size W W')
    (hok : ∀ (j : Nat) (t : TypeId) (r : Value), f.resultTypes[j]? = some t → (v.resultList f.resultTypes.size)[j]? = some r → Value.okWide P W' .any 0 t r) :
    s.post enc P f apart fresh handsOn again W args v W' := by
  have hlt : ∀ p ∈ before, p.block < W.heap.size := fun p hp => hW.lt p hp
  have hold : ∀ p ∈ before, (fun b => decide (b < W.heap.size)) p.block = true := fun p hp => by simpa using hlt p hp
  refine ⟨ds, gs, before, [], pa, pv, hW, hres _ _ _, hargs _ hold, hvars _ hold, World.keptBut_mono (fun p hp => ⟨hp, ?_⟩) (hb.frame (· ∈ before)), fun _ => ?_⟩
  · rw [hps, List.mem_append] at hp
    exact Or.inr hp
  · obtain ⟨_, _, _, _, _, hz, hn⟩ := hW
    refine ⟨hok, _, _, ([] ++ pa) ++ pv, ⟨[] ++ pa, pv, trodAll_append (hargs _ (fun _ _ => rfl)) (hres _ _ _), hvars _ (fun _ _ => rfl), rfl, ?_, ?_⟩, ?_⟩
    · intro b off hp
      have hin : MemPlace.cell b off ∈ before := by rw [hps]; simpa using hp
      rw [hb.frozen (hlt _ hin)]
      exact hz b off hin
    · intro ha
      have := hn ha
      rw [hps] at this
      simpa using this
    · intro p hp _
      rw [hps]
      simpa using hp

theorem trodAll_stays (hl : laidOutB P = true) {W W' : World} (hb : Below W.heap.size W W') {sp : Nat → Bool} : ∀ {ts : List TypeId} {vs : List Value} {ds : List (DataW H)} {ps : List MemPlace},
    (∀ t ∈ ts, P.readableRec t = true ∧ t < P.types.size) → DataW.TrodAll enc P W 0 (fun _ => true) true ts vs ds ps → (∀ x ∈ ps, x.block < W.heap.size) → (∀ x ∈ ps, sp x.block = true) → DataW.TrodAll enc P W' 0 sp true ts vs ds ps
  | [], [], [], ps, _, h, _, _ => h
  | [], [], _ :: _, _, _, h, _, _ => h.elim
  | [], _ :: _, _, _, _, h, _, _ => h.elim
  | _ :: _, [], _, _, _, h, _, _ => h.elim
  | _ :: _, _ :: _, [], _, _, h, _, _ => h.elim
  | t :: ts, v :: vs, d :: ds, ps, ht, h, hlt, hs => by
    obtain ⟨p, q, h1, h2, rfl⟩ := h
    refine ⟨p, q, ?_, trodAll_stays hl hb (fun t h => ht t (List.mem_cons_of_mem _ h)) h2 (fun x hx => hlt x (List.mem_append_right _ hx)) (fun x hx => hs x (List.mem_append_right _ hx)), rfl⟩
    have h0 := ht t List.mem_cons_self
    exact WideElems.Trod_stays hl h0.1 h0.2 h1 (fun x hx => hb.same (hlt x (List.mem_append_left _ hx))) (fun x hx => hs x (List.mem_append_left _ hx))

/-! ### How data read -/

inductive FK where
  | int (k : IntKind)
  | bool
  | str
  | sl (e : TypeId)

def flatF (r : TypeId → Option (List FK)) (P : Program) : List Field → Nat → Option (List FK)
  | [], _ => some []
  | f :: fs, off => match r f.type with
    | some l => match Nat.beq f.offset off && Nat.beq (P.cellsOf f.type) l.length with
      | true => match flatF r P fs (off + l.length) with
        | some m => some (l ++ m)
        | none => none
      | false => none
    | none => none

/-- The kinds of the cells of a type. -/
def flat (P : Program) : Nat → TypeId → Option (List FK)
  | 0, _ => none
  | n + 1, t => match P.underlying t with
    | some .bool => some [.bool]
    | some (.int k) => some [.int k]
    | some .string => some [.str]
    | some (.slice e) => some [.sl e]
    | some (.struct fs) => match flatF (flat P n) P fs.toList 0 with
      | some l => match Nat.beq (P.cellsOf t) l.length with
        | true => some l
        | false => none
      | none => none
    | some (.array m e) => match flat P n e with
      | some l => match Nat.beq (P.cellsOf e) l.length && Nat.beq (P.cellsOf t) (m * l.length) with
        | true => some (List.replicate m l).flatten
        | false => none
      | none => none
    | _ => none

/-- A cell of a kind. -/
def CellR (enc : TypeId × Value → H) (P : Program) (w : World) : FK → Value → Prop
  | .int k, v => ∃ n, v = .int k n ∧ (Lit.int k n).wf = true
  | .bool, v => ∃ b, v = .bool b
  | .str, v => ∃ s : ByteArray, v = .string s ∧ s.size ≤ maxLen
  | .sl e, v => v = .slice none 0 0 ∨ ∃ (a : Addr) (len cap : Nat), v = .slice (some a) len cap ∧ len ≤ cap ∧ cap ≤ maxLen ∧
      ∀ i, i < len → ∃ row, w.cells? 0 (a.add (i * P.cellsOf e)) (P.cellsOf e) = some row ∧ ∃ fuel x, DataW.trod enc P w 0 (fun _ => true) true fuel e row = some x

theorem mapM_mem {α β : Type} {f : α → Option β} : ∀ {l : List α} {ys : List β}, l.mapM f = some ys → ∀ x ∈ l, ∃ y, f x = some y
  | [], _, _, x, hx => by simp at hx
  | a :: l, ys, h, x, hx => by
    rw [List.mapM_cons] at h
    cases ha : f a with
    | none => simp [ha] at h
    | some b =>
      cases hl : l.mapM f with
      | none => simp [ha, hl] at h
      | some bs =>
        rcases List.mem_cons.1 hx with rfl | hx
        · exact ⟨b, ha⟩
        · exact mapM_mem hl x hx

theorem flatF_get {r : TypeId → Option (List FK)} {w : World} {cs : List Value} (hr : ∀ t l, r t = some l → ∀ fuel ds x, DataW.trod enc P w 0 (fun _ => true) true fuel t ds = some x → ds.length = l.length ∧ ∀ (i : Nat) (k : FK), l[i]? = some k → ∃ v, ds[i]? = some v ∧ CellR enc P w k v) :
    ∀ {fs : List Field} {off : Nat} {l : List FK}, flatF r P fs off = some l → off + l.length ≤ cs.length → (∀ f ∈ fs, ∃ fuel x, DataW.trod enc P w 0 (fun _ => true) true fuel f.type ((cs.drop f.offset).take (P.cellsOf f.type)) = some x) →
      ∀ (i : Nat) (k : FK), l[i]? = some k → ∃ v, cs[off + i]? = some v ∧ CellR enc P w k v
  | [], off, l, h, _, _, i, k, hi => by simp [flatF] at h; subst h; simp at hi
  | f :: fs, off, l, h, hle, hf, i, k, hi => by
    simp only [flatF] at h
    split at h
    case h_2 => simp at h
    rename_i l1 h1
    split at h
    case h_2 => simp at h
    rename_i hc
    simp only [Bool.and_eq_true] at hc
    have e1 := Nat.eq_of_beq_eq_true hc.1
    have e2 := Nat.eq_of_beq_eq_true hc.2
    split at h
    case h_2 => simp at h
    rename_i m hm
    injection h with h; subst h
    rw [List.length_append] at hle
    by_cases hlt : i < l1.length
    · rw [List.getElem?_append_left hlt] at hi
      obtain ⟨fuel, x, hx⟩ := hf f List.mem_cons_self
      obtain ⟨v, hv, hcr⟩ := (hr _ _ h1 _ _ _ hx).2 i k hi
      rw [List.getElem?_take] at hv
      split at hv
      · rw [List.getElem?_drop, e1] at hv
        exact ⟨v, hv, hcr⟩
      · simp at hv
    · rw [List.getElem?_append_right (by omega)] at hi
      obtain ⟨v, hv, hcr⟩ := flatF_get hr hm (by omega) (fun f h => hf f (List.mem_cons_of_mem _ h)) _ k hi
      exact ⟨v, by rw [← hv]; congr 1; omega, hcr⟩

theorem flatten_get {l : List FK} {m : Nat} : ∀ {i : Nat} {k : FK}, ((List.replicate m l).flatten)[i]? = some k → 0 < l.length ∧ i / l.length < m ∧ l[i % l.length]? = some k := by
  induction m with
  | zero => intro i k h; simp at h
  | succ m ih =>
    intro i k h
    rw [List.replicate_succ, List.flatten_cons] at h
    by_cases hlt : i < l.length
    · rw [List.getElem?_append_left hlt] at h
      exact ⟨by omega, by rw [Nat.div_eq_of_lt hlt]; omega, by rw [Nat.mod_eq_of_lt hlt]; exact h⟩
    · rw [List.getElem?_append_right (by omega)] at h
      obtain ⟨h1, h2, h3⟩ := ih h
      refine ⟨h1, ?_, ?_⟩
      · rw [Nat.div_eq_sub_div h1 (by omega)]; omega
      · rw [Nat.mod_eq_sub_mod (by omega)]; exact h3

theorem trod_flat {w : World} : ∀ (n : Nat) (t : TypeId) (ks : List FK), flat P n t = some ks → ∀ (fuel : Nat) (cs : List Value) (x : DataW H × List MemPlace), DataW.trod enc P w 0 (fun _ => true) true fuel t cs = some x →
    cs.length = ks.length ∧ ∀ (i : Nat) (k : FK), ks[i]? = some k → ∃ v, cs[i]? = some v ∧ CellR enc P w k v
  | 0, t, ks, h, _, _, _, _ => by simp [flat] at h
  | n + 1, t, ks, h, 0, cs, x, hx => by simp [DataW.trod] at hx
  | n + 1, t, ks, h, fuel + 1, cs, x, hx => by
    simp only [flat] at h
    split at h
    · rename_i hu
      injection h with h; subst h
      simp only [DataW.trod, hu] at hx
      split at hx <;> simp_all
      exact fun i k hi => by
        cases i with
        | zero => simp at hi; subst hi; exact ⟨_, rfl, _, rfl⟩
        | succ i => simp at hi
    · rename_i k0 hu
      injection h with h; subst h
      simp only [DataW.trod, hu] at hx
      split at hx <;> simp_all
      exact fun i k hi => by
        cases i with
        | zero => simp at hi; subst hi; exact ⟨_, rfl, _, rfl, hx.1.2⟩
        | succ i => simp at hi
    · rename_i hu
      injection h with h; subst h
      simp only [DataW.trod, hu] at hx
      split at hx <;> simp_all
      exact fun i k hi => by
        cases i with
        | zero => simp at hi; subst hi; exact ⟨_, rfl, _, rfl, hx.1⟩
        | succ i => simp at hi
    · rename_i e hu
      injection h with h; subst h
      simp only [DataW.trod, hu] at hx
      split at hx
      case h_7 =>
        exact ⟨rfl, fun i k hi => by
          cases i with
          | zero => simp at hi; subst hi; exact ⟨_, rfl, .inl rfl⟩
          | succ i => simp at hi⟩
      case h_8 =>
        rename_i e' a len cap h0
        injection h0 with h0; injection h0 with h0; subst h0
        split at hx
        case isFalse => simp at hx
        rename_i hc
        rw [Option.bind_eq_some_iff] at hx
        obtain ⟨elems, he, _⟩ := hx
        refine ⟨rfl, fun i k hi => ?_⟩
        cases i with
        | succ i => simp at hi
        | zero =>
          simp at hi; subst hi
          refine ⟨_, rfl, .inr ⟨a, len, cap, rfl, hc.2.1, hc.2.2, fun j hj => ?_⟩⟩
          obtain ⟨y, hy⟩ := mapM_mem he j (List.mem_range.2 hj)
          rw [Option.bind_eq_some_iff] at hy
          obtain ⟨row, h1, h2⟩ := hy
          exact ⟨row, h1, fuel, y, h2⟩
      all_goals simp_all
    · rename_i fs hu
      split at h
      case h_2 => simp at h
      rename_i l hl
      split at h
      case h_2 => simp at h
      rename_i hc
      have ec := Nat.eq_of_beq_eq_true hc
      injection h with h; subst h
      simp only [DataW.trod, hu] at hx
      have hx' : (if cs.length = P.cellsOf t then (fs.toList.mapM fun f => DataW.trod enc P w 0 (fun _ => true) true fuel f.type ((cs.drop f.offset).take (P.cellsOf f.type))).map fun xs => (DataW.agg (xs.map (·.1)), xs.flatMap (·.2)) else none) = some x := by
        split at hx <;> simp_all
      clear hx
      split at hx'
      case isFalse => simp at hx'
      rename_i hlen
      rw [Option.map_eq_some_iff] at hx'
      obtain ⟨xs, hxs, _⟩ := hx'
      refine ⟨by rw [hlen, ec], fun i k hi => ?_⟩
      have := flatF_get (cs := cs) (fun t l h => trod_flat n t l h) hl (by omega) (fun f hf => by obtain ⟨y, hy⟩ := mapM_mem hxs f hf; exact ⟨fuel, y, hy⟩) i k hi
      simpa using this
    · rename_i m e hu
      split at h
      case h_2 => simp at h
      rename_i l hl
      split at h
      case h_2 => simp at h
      rename_i hc
      simp only [Bool.and_eq_true] at hc
      have e1 := Nat.eq_of_beq_eq_true hc.1
      have e2 := Nat.eq_of_beq_eq_true hc.2
      injection h with h; subst h
      simp only [DataW.trod, hu] at hx
      have hx' : (if cs.length = P.cellsOf t then ((List.range m).mapM fun i => DataW.trod enc P w 0 (fun _ => true) true fuel e ((cs.drop (i * P.cellsOf e)).take (P.cellsOf e))).map fun xs => (DataW.agg (xs.map (·.1)), xs.flatMap (·.2)) else none) = some x := by
        split at hx <;> simp_all
      clear hx
      split at hx'
      case isFalse => simp at hx'
      rename_i hlen
      rw [Option.map_eq_some_iff] at hx'
      obtain ⟨xs, hxs, _⟩ := hx'
      refine ⟨by rw [hlen, e2]; simp, fun i k hi => ?_⟩
      obtain ⟨h1, h2, h3⟩ := flatten_get hi
      obtain ⟨y, hy⟩ := mapM_mem hxs (i / l.length) (List.mem_range.2 h2)
      obtain ⟨v, hv, hcr⟩ := (trod_flat n e l hl fuel _ _ hy).2 _ k h3
      rw [List.getElem?_take] at hv
      split at hv
      · rw [List.getElem?_drop, e1] at hv
        refine ⟨v, ?_, hcr⟩
        rw [← hv]; congr 1
        have := Nat.div_add_mod i l.length
        rw [Nat.mul_comm]; exact this.symm
      · simp at hv
    · simp at h

/-! ### Readers -/

def RdV {α : Type} (w : World) (D : Dec α) (v : Value) : Prop := ∃ a, VR w noA noR (D.enc a) v
def RdL {α : Type} (w : World) (E : DecL α) (cs : List Value) : Prop := ∃ a, VRs w noA noR (E.enc a) cs.toArray

def Cells (enc : TypeId × Value → H) (P : Program) (w : World) (ks : List FK) (cs : List Value) : Prop := cs.length = ks.length ∧ ∀ (i : Nat) (k : FK), ks[i]? = some k → ∃ v, cs[i]? = some v ∧ CellR enc P w k v

def tagK : FK → CK
  | .int k => .int k
  | .bool => .bool
  | .str => .str
  | .sl _ => .any

def flatK : FK → Bool
  | .sl _ => false
  | _ => true

section
variable {w : World} {α β : Type}

theorem rd_int {k : IntKind} {v : Value} (h : CellR enc P w (.int k) v) : RdV w (dI k) v := by
  obtain ⟨n, rfl, _⟩ := h; exact ⟨n, .int⟩
theorem rd_bool {v : Value} (h : CellR enc P w .bool v) : RdV w dB v := by
  obtain ⟨n, rfl⟩ := h; exact ⟨n, .bool⟩
theorem rd_str {v : Value} (h : CellR enc P w .str v) : RdV w dS v := by
  obtain ⟨s, rfl, _⟩ := h; exact ⟨s.data.toList, (.str : VR w noA noR (.str s.data.toList) (.string ⟨s.data.toList.toArray⟩))⟩

theorem rd_scal {k : FK} (hk : flatK k = true) {v : Value} (h : CellR enc P w k v) : ∃ x, ofScal v = some x ∧ conf (tagK k) x = x := by
  cases k with
  | int k => obtain ⟨n, rfl, _⟩ := h; exact ⟨_, rfl, rfl⟩
  | bool => obtain ⟨n, rfl⟩ := h; exact ⟨_, rfl, rfl⟩
  | str => obtain ⟨n, rfl, _⟩ := h; exact ⟨_, rfl, rfl⟩
  | sl e => simp [flatK] at hk

theorem ckAt_map : ∀ {ks : List FK} {i : Nat} {k : FK}, ks[i]? = some k → ckAt (ks.map tagK) i = tagK k
  | [], i, k, h => by simp at h
  | a :: ks, 0, k, h => by simp at h; subst h; rfl
  | a :: ks, i + 1, k, h => by simp only [List.map_cons, ckAt]; exact ckAt_map (by simpa using h)

theorem mapM_range {f : Nat → Option Value} {n : Nat} {row : List Value} (h : (List.range n).mapM f = some row) (i : Nat) (hi : i < n) : f i = row[i]? := by
  have key : ∀ (l : List Nat) (row : List Value), l.mapM f = some row → ∀ (i x : Nat), l[i]? = some x → f x = row[i]? := by
    intro l
    induction l with
    | nil => intro row _ i x hx; simp at hx
    | cons a l ih =>
      intro row h i x hx
      rw [List.mapM_cons] at h
      cases ha : f a with
      | none => simp [ha] at h
      | some b =>
        cases hl : l.mapM f with
        | none => simp [ha, hl] at h
        | some bs =>
          simp [ha, hl] at h
          subst h
          cases i with
          | zero => simp at hx; subst hx; simpa using ha
          | succ i => simpa using ih bs hl i x (by simpa using hx)
  exact key _ _ h i i (by simp [hi])

theorem cells_at {a : Addr} {n : Nat} {row : List Value} (h : w.cells? 0 a n = some row) : row.length = n ∧ ∀ i, i < n → w.cell? (a.add i) = row[i]? := by
  unfold World.cells? at h
  rw [if_pos (Nat.zero_le _)] at h
  refine ⟨?_, fun i hi => mapM_range h i hi⟩
  have : ∀ (l : List Nat) (row : List Value), (l.mapM fun i => w.cell? (a.add i)) = some row → row.length = l.length := by
    intro l
    induction l with
    | nil => intro row h; simp at h; subst h; rfl
    | cons x l ih =>
      intro row h
      rw [List.mapM_cons] at h
      cases hx : w.cell? (a.add x) with
      | none => simp [hx] at h
      | some b =>
        cases hl : l.mapM (fun i => w.cell? (a.add i)) with
        | none => simp [hx, hl] at h
        | some bs => simp [hx, hl] at h; subst h; simp [ih bs hl]
  simpa using this _ _ h

theorem cell_spot {a : Addr} {v : Value} (h : w.cell? a = some v) : a.spot = none ∧ a.block < w.heap.size := by
  unfold World.cell? at h
  split at h
  · rename_i c _ _ hb
    split at h
    · simp at h
    · rename_i hs; exact ⟨by simpa using hs, (Array.getElem?_eq_some_iff.1 hb).1⟩
  · simp at h

/-- A slice of rows of numbers, bools and strings. -/
theorem rd_sl {e : TypeId} {n : Nat} {ks : List FK} (hf : flat P n e = some ks) (hwd : P.cellsOf e = ks.length) (hpos : 0 < ks.length) (hk : ks.all flatK = true) {v : Value} (h : CellR enc P w (.sl e) v) : RdV w (dX ks.length (ks.map tagK)) v := by
  rcases h with rfl | ⟨a, len, cap, rfl, h1, h2, h3⟩
  · exact ⟨⟨0, 0, 0, none, fun _ _ => .top⟩, (dX ks.length (ks.map tagK)).ok .nilsl _ rfl _ _ _ _ .nilsl⟩
  · rcases a with ⟨b, off, spot⟩
    rw [hwd] at h3
    have hspot0 : 0 < len → spot = none := fun h0 => by
      obtain ⟨row, hr, fuel, x, hx⟩ := h3 0 h0
      obtain ⟨hl, hat⟩ := cells_at hr
      have h0' := hat 0 hpos
      rw [List.getElem?_eq_getElem (by omega)] at h0'
      have := (cell_spot h0').1
      simpa [Addr.add] using this
    have hcell : ∀ i k, i < len → k < ks.length → ∃ v kk, ks[k]? = some kk ∧ w.cell? ⟨b, off + (i * ks.length + k), spot⟩ = some v ∧ CellR enc P w kk v ∧ spot = none ∧ b < w.heap.size := by
      intro i k hi hkk
      obtain ⟨row, hr, fuel, x, hx⟩ := h3 i hi
      obtain ⟨hl, hat⟩ := cells_at hr
      obtain ⟨v, hv, hc⟩ := (trod_flat n e ks hf fuel row x hx).2 k _ (List.getElem?_eq_getElem hkk)
      have := hat k hkk
      rw [hv] at this
      obtain ⟨hs, hb⟩ := cell_spot this
      have hspot : spot = none := hspot0 (by omega)
      subst hspot
      rw [addr_add, addr_add] at this hb
      exact ⟨v, _, List.getElem?_eq_getElem hkk, by rw [← Nat.add_assoc]; exact this, hc, rfl, hb⟩
    let u : Nat → Nat → Value := fun i k => (w.cell? ⟨b, off + (i * ks.length + k), none⟩).getD undef
    refine ⟨⟨len, 0, len, none, fun i k => (ofScal (u i k)).getD .top⟩, .xsl b off u ⟨h1, ?_⟩ (fun x hx => by cases hx) (by simp) (fun h0 => ?_) (fun h0 i k hi hkk => ?_) (fun h0 i k hi hkk => ?_)⟩
    · have : cap ≤ 2 ^ 63 - 1 := h2
      show len ≤ 9223372036854775807
      omega
    · obtain ⟨v, kk, _, _, _, hs, hb⟩ := hcell 0 0 h0 hpos
      subst hs
      exact ⟨by simp, hb, fun h => h⟩
    · obtain ⟨v, kk, _, hv, _, hs, _⟩ := hcell i k hi hkk
      subst hs
      simp only [u, hv, Option.getD_some]
    · obtain ⟨v, kk, hkk', hv, hc, hs, _⟩ := hcell i k hi hkk
      subst hs
      have hu : u i k = v := by simp only [u, hv, Option.getD_some]
      obtain ⟨x, hx, hcf⟩ := rd_scal (List.all_eq_true.1 hk kk (List.mem_of_getElem? hkk')) hc
      have e : (⟨ks.map tagK, fun i k => (ofScal (u i k)).getD .top⟩ : Get AV).cell i k = x := by
        simp only [Get.cell, hu, hx, Option.getD_some, ckAt_map hkk', hcf]
      rw [e, hu]
      exact ofScal_rel hx

theorem cells_cons {k : FK} {ks : List FK} {cs : List Value} (h : Cells enc P w (k :: ks) cs) : ∃ v cs', cs = v :: cs' ∧ CellR enc P w k v ∧ Cells enc P w ks cs' := by
  obtain ⟨h1, h2⟩ := h
  cases cs with
  | nil => simp at h1
  | cons v cs' =>
    obtain ⟨v', hv, hc⟩ := h2 0 k rfl
    simp at hv; subst hv
    exact ⟨v, cs', rfl, hc, by simpa using h1, fun i k hi => by simpa using h2 (i + 1) k (by simpa using hi)⟩

theorem cells_nil {cs : List Value} (h : Cells enc P w [] cs) : cs = [] := List.eq_nil_of_length_eq_zero h.1

theorem rdL_cons {D : Dec α} {E : DecL β} {v : Value} {cs : List Value} (h : RdV w D v) (k : RdL w E cs) : RdL w (.cons D E) (v :: cs) := by
  obtain ⟨a, ha⟩ := h; obtain ⟨b, hb⟩ := k
  refine ⟨(a, b), ?_⟩
  have := VRs.cons' ha hb
  show VRs w noA noR (D.enc a :: E.enc b) (v :: cs).toArray
  simpa using this

theorem rdL_last {D : Dec α} {v : Value} (h : RdV w D v) : RdL w (.last D 0) [v] := by
  obtain ⟨a, ha⟩ := h
  exact ⟨a, VRs.one ha⟩

theorem rdL_iso {E : DecL α} {to : α → β} {fro : β → α} {h : ∀ a, fro (to a) = a} {cs : List Value} (k : RdL w E cs) : RdL w (E.iso to fro h) cs := by
  obtain ⟨a, ha⟩ := k
  exact ⟨to a, by show VRs w noA noR (E.enc (fro (to a))) cs.toArray; rw [h]; exact ha⟩

theorem rdV_iso {D : Dec α} {to : α → β} {fro : β → α} {h : ∀ a, fro (to a) = a} {v : Value} (k : RdV w D v) : RdV w (D.iso to fro h) v := by
  obtain ⟨a, ha⟩ := k
  exact ⟨to a, by show VR w noA noR (D.enc (fro (to a))) v; rw [h]; exact ha⟩

theorem rdV_agg {E : DecL α} {cs : Array Value} (k : RdL w E cs.toList) : RdV w (dAgg E) (.agg cs) := by
  obtain ⟨a, ha⟩ := k
  exact ⟨a, .agg ha.1 ha.2⟩

theorem okWide_agg {r : Reach} {b : Nat} {t : TypeId} {v : Value} (hu : aggB P t = some true) (h : Value.okWide P w r b t v) : ∃ cs, v = .agg cs := by
  unfold Value.okWide at h
  unfold aggB at hu
  split at h
  · obtain ⟨cs, rfl, _⟩ := h; exact ⟨cs, rfl⟩
  · obtain ⟨cs, rfl, _⟩ := h; exact ⟨cs, rfl⟩
  · split at hu <;> simp_all

theorem okWide_cell {r : Reach} {b : Nat} {t : TypeId} {v : Value} (hu : aggB P t = some false) (h : Value.okWide P w r b t v) : v.cells = #[v] := by
  unfold Value.okWide at h
  unfold aggB at hu
  split at h
  · simp_all
  · simp_all
  · cases v with
    | agg cs =>
      unfold Cell.okWide at h
      split at h <;> try simp_all
      unfold Cell.ok at h
      split at h <;> simp_all
    | _ => rfl

/-- A parameter that is a struct or an array. -/
theorem param_agg {n : Nat} {t : TypeId} {ks : List FK} {r : Reach} {b : Nat} {v : Value} {d : DataW H} {p : List MemPlace} (hf : flat P n t = some ks) (hu : aggB P t = some true) (hok : Value.okWide P w r b t v) (h : DataW.Trod enc P w 0 (fun _ => true) true t v d p) :
    ∃ cs, v = .agg cs ∧ Cells enc P w ks cs.toList := by
  obtain ⟨cs, rfl⟩ := okWide_agg hu hok
  obtain ⟨fuel, hx⟩ := h
  exact ⟨cs, rfl, trod_flat n t ks hf fuel _ _ hx⟩

/-- A parameter of one cell. -/
theorem param_cell {n : Nat} {t : TypeId} {k : FK} {r : Reach} {b : Nat} {v : Value} {d : DataW H} {p : List MemPlace} (hf : flat P n t = some [k]) (hu : aggB P t = some false) (hok : Value.okWide P w r b t v) (h : DataW.Trod enc P w 0 (fun _ => true) true t v d p) : CellR enc P w k v := by
  obtain ⟨fuel, hx⟩ := h
  rw [okWide_cell hu hok] at hx
  obtain ⟨v', hv, hc⟩ := (trod_flat n t [k] hf fuel _ _ hx).2 0 k rfl
  simp at hv; subst hv; exact hc
end

/-! ### The law -/

theorem law_contract {f : FuncId} {fn : Func} {s : ChangeSpec} {apart fresh handsOn again : Bool} {α : Type} (D : DecL α) (hl : laidOutB P = true) (hts : (fn.params.toList.all fun t => P.readableRec t && decide (t < P.types.size)) = true)
    (hvars : s.vars = []) (hfn : ∀ (ds : List (DataW H)), ds.length = fn.params.toList.length → s.fn H (ds ++ []) = { results := [.lit (.bool true)], args := ds })
    (hres : ∀ (W' : World) (b : Nat) (sp : Nat → Bool) (hd : Bool), DataW.TrodAll enc P W' b sp hd fn.resultTypes.toList ((Value.bool true).resultList fn.resultTypes.size) [.lit (.bool true)] [])
    (hok : ∀ (W' : World) (j : Nat) (t : TypeId) (r : Value), fn.resultTypes[j]? = some t → ((Value.bool true).resultList fn.resultTypes.size)[j]? = some r → Value.okWide P W' .any 0 t r)
    (hread : ∀ (W : World) (base : Nat) (args : Array Value) (ds : List (DataW H)) (p : List MemPlace), (∀ (j : Nat) t v, fn.params[j]? = some t → args[j]? = some v → Value.okWide P W .any base t v) →
      DataW.TrodAll enc P W 0 (fun _ => true) true fn.params.toList args.toList ds p → RdL W D args.toList)
    (hpc : ∀ a, PC P f (D.enc a) (.bool true))
    (W : World) (base : Nat) (args : Array Value) (ds gs : List (DataW H)) (before : List MemPlace) (hval : ∀ (j : Nat) t v, fn.params[j]? = some t → args[j]? = some v → Value.okWide P W .any base t v)
    (hW : DataW.Whole enc P fn.params.toList s.vars apart W args.toList ds gs before) :
    Calls P f args W fun e W' => ∃ v, e = .returned v ∧ s.post enc P fn apart fresh handsOn again W args v W' := by
  have hW' := hW
  obtain ⟨p, q, hA, hV, hbef, hfz, hnd⟩ := hW
  have hV' := hV
  rw [hvars] at hV'
  obtain ⟨rfl, rfl⟩ := trodVars_none hV'
  obtain ⟨a, ha⟩ := hread W base args ds p hval hA
  have h := callsIn_wide.1 (hpc a none 0 noA W args (fun b hb => hb.elim) (by simpa using ha))
  have hlen : ds.length = fn.params.toList.length := by
    have : ∀ (ts : List TypeId) (vs : List Value) (ds : List (DataW H)) (p : List MemPlace), DataW.TrodAll enc P W 0 (fun _ => true) true ts vs ds p → ds.length = ts.length := by
      intro ts
      induction ts with
      | nil => intro vs ds p h; obtain ⟨_, rfl, _⟩ := trodAll_nil h; rfl
      | cons t ts ih =>
        intro vs ds p h
        obtain ⟨_, _, _, _, _, _, _, rfl, _, _, h2⟩ := trodAll_cons h
        simp [ih _ _ _ h2]
    exact this _ _ _ _ hA
  refine h.mono fun e W' hx => ?_
  obtain ⟨v, he, hv, hb⟩ := hx
  obtain rfl : v = .bool true := by cases hv; rfl
  have hpl : before = p := by rw [hbef]; simp
  subst hpl
  refine ⟨_, he, post_of_below (pa := before) (pv := []) hW' (fun b sp hd => ?_) (fun sp hsp => ?_) (fun sp _ => ?_) (by simp) hb (hok W')⟩
  · rw [hfn ds hlen]; exact hres W' b sp hd
  · rw [hfn ds hlen]
    refine trodAll_stays hl hb (fun t ht => ?_) hA (fun x hx => hA.lt x hx) hsp
    have := List.all_eq_true.1 hts t ht
    simpa using this
  · rw [hfn ds hlen, hvars]; rfl
end

end Go.Proofs.Ytkajafmphemedaa.Ev
/-! K0 -/
namespace Go.Proofs.Ytkajafmphemedaa
open Ev
noncomputable abbrev P : Program := Try.prog
theorem okP : okProg P = true := by kernel_rfl
def B0 : Tab := noTab 200
theorem t0 : TabOk P B0 := noTab_ok P 200
end Go.Proofs.Ytkajafmphemedaa
/-! KD -/
namespace Go.Proofs.Ytkajafmphemedaa
open Ev
namespace K
@[ext] structure Span where (lo hi : Int)
@[ext] structure Frac where (num den : Int)
@[ext] structure Range where (lo hi : Frac)
@[ext] structure Hydro where (id : Int) (off : Span)
@[ext] structure Glass where (id hydro dense : Int) (shown : Span)
structure Bulbs where (hydros glasses : XS)
@[ext] structure Survey where (id tick : Int) (m0 m1 m2 m3 m4 m5 : Span) (sag hydro : Int) (shown : Span)
@[ext] structure Knot where (x y : Int)
@[ext] structure Hold where (id room lever height : Int)
structure Curve where (knots : XS) (err : Int)
structure Ship where (id light lever height : Int) (holds : XS) (mean mc : Curve) (turn least : Int)
@[ext] structure Sums where (ends middle : Int)
@[ext] structure GlassE where (g : Glass) (errors : Span)
@[ext] structure Piece where (p q : Knot)
structure Load where (holds : XS) (all : Span)
end K
open K
def lSpan : DecL Span := (DecL.cons (dI .i64) (.last (dI .i64) 0)).iso (fun p => ⟨p.1, p.2⟩) (fun s => (s.lo, s.hi)) (fun _ => rfl)
def dSpan : Dec Span := dAgg lSpan
def dFrac : Dec Frac := (dAgg (.cons (dI .i64) (.last (dI .i64) 0))).iso (fun p => ⟨p.1, p.2⟩) (fun s => (s.num, s.den)) (fun _ => rfl)
def dRatio : Dec Frac := dFrac
def dSums : Dec Sums := (dAgg (.cons (dI .i64) (.last (dI .i64) 0))).iso (fun p => ⟨p.1, p.2⟩) (fun s => (s.ends, s.middle)) (fun _ => rfl)
def lKnot : DecL Knot := (DecL.cons (dI .i64) (.last (dI .i64) 0)).iso (fun p => ⟨p.1, p.2⟩) (fun s => (s.x, s.y)) (fun _ => rfl)
def dKnot : Dec Knot := dAgg lKnot
def lPiece : DecL Piece := (DecL.cons (dI .i64) (.cons (dI .i64) (.cons (dI .i64) (.last (dI .i64) 0)))).iso (fun p => ⟨⟨p.1, p.2.1⟩, ⟨p.2.2.1, p.2.2.2⟩⟩) (fun s => (s.p.x, s.p.y, s.q.x, s.q.y)) (fun _ => rfl)
def dPiece : Dec Piece := dAgg lPiece
def dRange : Dec Range := (dAgg (.cons (dI .i64) (.cons (dI .i64) (.cons (dI .i64) (.last (dI .i64) 0))))).iso (fun p => ⟨⟨p.1, p.2.1⟩, ⟨p.2.2.1, p.2.2.2⟩⟩) (fun s => (s.lo.num, s.lo.den, s.hi.num, s.hi.den)) (fun _ => rfl)
def lHydro : DecL Hydro := (DecL.cons (dI .i64) (.cons (dI .i64) (.last (dI .i64) 0))).iso (fun p => ⟨p.1, ⟨p.2.1, p.2.2⟩⟩) (fun s => (s.id, s.off.lo, s.off.hi)) (fun _ => rfl)
def dHydro : Dec Hydro := dAgg lHydro
def lHold : DecL Hold := (DecL.cons (dI .i64) (.cons (dI .i64) (.cons (dI .i64) (.last (dI .i64) 0)))).iso (fun p => ⟨p.1, p.2.1, p.2.2.1, p.2.2.2⟩) (fun s => (s.id, s.room, s.lever, s.height)) (fun _ => rfl)
def dHold : Dec Hold := dAgg lHold
def lGlass : DecL Glass := (DecL.cons (dI .i64) (.cons (dI .i64) (.cons (dI .i64) (.cons (dI .i64) (.last (dI .i64) 0))))).iso (fun p => ⟨p.1, p.2.1, p.2.2.1, ⟨p.2.2.2.1, p.2.2.2.2⟩⟩) (fun s => (s.id, s.hydro, s.dense, s.shown.lo, s.shown.hi)) (fun _ => rfl)
def dGlass : Dec Glass := dAgg lGlass
def lTold : DecL GlassE := (DecL.cons (dI .i64) (.cons (dI .i64) (.cons (dI .i64) (.cons (dI .i64) (.cons (dI .i64) (.cons (dI .i64) (.last (dI .i64) 0))))))).iso (fun p => ⟨⟨p.1, p.2.1, p.2.2.1, ⟨p.2.2.2.1, p.2.2.2.2.1⟩⟩, ⟨p.2.2.2.2.2.1, p.2.2.2.2.2.2⟩⟩) (fun s => (s.g.id, s.g.hydro, s.g.dense, s.g.shown.lo, s.g.shown.hi, s.errors.lo, s.errors.hi)) (fun _ => rfl)
def dTold : Dec GlassE := dAgg lTold
def xHydros : Dec XS := dX 3 [.int .i64, .int .i64, .int .i64]
def xGlasses : Dec XS := dX 5 [.int .i64, .int .i64, .int .i64, .int .i64, .int .i64]
def xKnots : Dec XS := dX 2 [.int .i64, .int .i64]
def xSurveys : Dec XS := dX 18 (List.replicate 18 (.int .i64))
def xHolds : Dec XS := dX 4 [.int .i64, .int .i64, .int .i64, .int .i64]
def lBulbs : DecL Bulbs := (DecL.cons xHydros (.last xGlasses 0)).iso (fun p => ⟨p.1, p.2⟩) (fun s => (s.hydros, s.glasses)) (fun _ => rfl)
def dBulbs : Dec Bulbs := dAgg lBulbs
def lCurve : DecL Curve := (DecL.cons xKnots (.last (dI .i64) 0)).iso (fun p => ⟨p.1, p.2⟩) (fun s => (s.knots, s.err)) (fun _ => rfl)
def dCurve : Dec Curve := dAgg lCurve
def lShip : DecL Ship := (DecL.cons (dI .i64) (.cons (dI .i64) (.cons (dI .i64) (.cons (dI .i64) (.cons xHolds (.cons xKnots (.cons (dI .i64) (.cons xKnots (.cons (dI .i64) (.cons (dI .i64) (.last (dI .i64) 0))))))))))).iso
  (fun p => ⟨p.1, p.2.1, p.2.2.1, p.2.2.2.1, p.2.2.2.2.1, ⟨p.2.2.2.2.2.1, p.2.2.2.2.2.2.1⟩, ⟨p.2.2.2.2.2.2.2.1, p.2.2.2.2.2.2.2.2.1⟩, p.2.2.2.2.2.2.2.2.2.1, p.2.2.2.2.2.2.2.2.2.2⟩)
  (fun s => (s.id, s.light, s.lever, s.height, s.holds, s.mean.knots, s.mean.err, s.mc.knots, s.mc.err, s.turn, s.least)) (fun _ => rfl)
def dShip : Dec Ship := dAgg lShip
def lSurvey : DecL Survey := (DecL.cons (dI .i64) (.cons (dI .i64) (.cons (dI .i64) (.cons (dI .i64) (.cons (dI .i64) (.cons (dI .i64) (.cons (dI .i64) (.cons (dI .i64) (.cons (dI .i64) (.cons (dI .i64) (.cons (dI .i64) (.cons (dI .i64) (.cons (dI .i64) (.cons (dI .i64) (.cons (dI .i64) (.cons (dI .i64) (.cons (dI .i64) (.last (dI .i64) 0)))))))))))))))))).iso
  (fun (a, b, c, d, e, f, g, h, i, j, k, l, m, n, o, p, q, r) => ⟨a, b, ⟨c, d⟩, ⟨e, f⟩, ⟨g, h⟩, ⟨i, j⟩, ⟨k, l⟩, ⟨m, n⟩, o, p, ⟨q, r⟩⟩)
  (fun s => (s.id, s.tick, s.m0.lo, s.m0.hi, s.m1.lo, s.m1.hi, s.m2.lo, s.m2.hi, s.m3.lo, s.m3.hi, s.m4.lo, s.m4.hi, s.m5.lo, s.m5.hi, s.sag, s.hydro, s.shown.lo, s.shown.hi)) (fun _ => rfl)
def dSurvey : Dec Survey := dAgg lSurvey
/-- What the functions that are ranged over hand out. -/
def eTold (g : GlassE) : List AV := [dTold.enc g]
def ePiece (p : Int × Piece) : List AV := [.int .i64 p.1, dPiece.enc p.2]
def V_gls : DecL (Bulbs × Int) := DecL.cons (dP 2 lBulbs 0) (.last (dP 1 (.last (dI .i64) 0) 0) 0)
def V_pcs : DecL Curve := DecL.last (dP 2 lCurve 0) 0
end Go.Proofs.Ytkajafmphemedaa
/-! KR -/
namespace Go.Proofs.Ytkajafmphemedaa
open Ev K
set_option maxRecDepth 100000
section
variable {H : Type} {enc : TypeId × Value → H} {w : World}
theorem fl_hydro : flat P 8 118 = some (List.replicate 3 (.int .i64)) := by kernel_rfl
theorem fl_glass : flat P 8 39 = some (List.replicate 5 (.int .i64)) := by kernel_rfl
theorem fl_knot : flat P 8 113 = some (List.replicate 2 (.int .i64)) := by kernel_rfl
theorem fl_hold : flat P 8 111 = some (List.replicate 4 (.int .i64)) := by kernel_rfl
theorem fl_survey : flat P 8 36 = some (List.replicate 18 (.int .i64)) := by kernel_rfl
theorem fl_bulbs : flat P 8 31 = some [.sl 118, .sl 39] := by kernel_rfl
theorem fl_ship : flat P 8 27 = some [.int .i64, .int .i64, .int .i64, .int .i64, .sl 111, .sl 113, .int .i64, .sl 113, .int .i64, .int .i64, .int .i64] := by kernel_rfl
theorem fl_int : flat P 8 3 = some [.int .i64] := by kernel_rfl
theorem ag_bulbs : aggB P 31 = some true := by kernel_rfl
theorem ag_survey : aggB P 36 = some true := by kernel_rfl
theorem ag_ship : aggB P 27 = some true := by kernel_rfl
theorem ag_int : aggB P 3 = some false := by kernel_rfl
theorem rx_hydros {v : Value} (h : CellR enc P w (.sl 118) v) : RdV w xHydros v := rd_sl fl_hydro (by kernel_rfl) (by decide) (by decide) h
theorem rx_glasses {v : Value} (h : CellR enc P w (.sl 39) v) : RdV w xGlasses v := rd_sl fl_glass (by kernel_rfl) (by decide) (by decide) h
theorem rx_knots {v : Value} (h : CellR enc P w (.sl 113) v) : RdV w xKnots v := rd_sl fl_knot (by kernel_rfl) (by decide) (by decide) h
theorem rx_holds {v : Value} (h : CellR enc P w (.sl 111) v) : RdV w xHolds v := rd_sl fl_hold (by kernel_rfl) (by decide) (by decide) h
theorem rx_surveys {v : Value} (h : CellR enc P w (.sl 36) v) : RdV w xSurveys v := rd_sl fl_survey (by kernel_rfl) (by decide) (by decide) h
theorem rl_bulbs {cs : List Value} (h : Cells enc P w [.sl 118, .sl 39] cs) : RdL w lBulbs cs := by
  obtain ⟨v0, cs0, rfl, c0, h⟩ := cells_cons h
  obtain ⟨v1, cs1, rfl, c1, h⟩ := cells_cons h
  obtain rfl := cells_nil h
  exact rdL_iso (rdL_cons (rx_hydros c0) (rdL_last (rx_glasses c1)))
theorem rl_survey {cs : List Value} (h : Cells enc P w (List.replicate 18 (.int .i64)) cs) : RdL w lSurvey cs := by
  obtain ⟨v0, cs0, rfl, c0, h⟩ := cells_cons h
  obtain ⟨v1, cs1, rfl, c1, h⟩ := cells_cons h
  obtain ⟨v2, cs2, rfl, c2, h⟩ := cells_cons h
  obtain ⟨v3, cs3, rfl, c3, h⟩ := cells_cons h
  obtain ⟨v4, cs4, rfl, c4, h⟩ := cells_cons h
  obtain ⟨v5, cs5, rfl, c5, h⟩ := cells_cons h
  obtain ⟨v6, cs6, rfl, c6, h⟩ := cells_cons h
  obtain ⟨v7, cs7, rfl, c7, h⟩ := cells_cons h
  obtain ⟨v8, cs8, rfl, c8, h⟩ := cells_cons h
  obtain ⟨v9, cs9, rfl, c9, h⟩ := cells_cons h
  obtain ⟨v10, cs10, rfl, c10, h⟩ := cells_cons h
  obtain ⟨v11, cs11, rfl, c11, h⟩ := cells_cons h
  obtain ⟨v12, cs12, rfl, c12, h⟩ := cells_cons h
  obtain ⟨v13, cs13, rfl, c13, h⟩ := cells_cons h
  obtain ⟨v14, cs14, rfl, c14, h⟩ := cells_cons h
  obtain ⟨v15, cs15, rfl, c15, h⟩ := cells_cons h
  obtain ⟨v16, cs16, rfl, c16, h⟩ := cells_cons h
  obtain ⟨v17, cs17, rfl, c17, h⟩ := cells_cons h
  obtain rfl := cells_nil h
  exact rdL_iso (rdL_cons (rd_int c0) (rdL_cons (rd_int c1) (rdL_cons (rd_int c2) (rdL_cons (rd_int c3) (rdL_cons (rd_int c4) (rdL_cons (rd_int c5) (rdL_cons (rd_int c6) (rdL_cons (rd_int c7) (rdL_cons (rd_int c8) (rdL_cons (rd_int c9) (rdL_cons (rd_int c10) (rdL_cons (rd_int c11) (rdL_cons (rd_int c12) (rdL_cons (rd_int c13) (rdL_cons (rd_int c14) (rdL_cons (rd_int c15) (rdL_cons (rd_int c16) (rdL_last (rd_int c17)))))))))))))))))))
theorem rl_ship {cs : List Value} (h : Cells enc P w [.int .i64, .int .i64, .int .i64, .int .i64, .sl 111, .sl 113, .int .i64, .sl 113, .int .i64, .int .i64, .int .i64] cs) : RdL w lShip cs := by
  obtain ⟨v0, cs0, rfl, c0, h⟩ := cells_cons h
  obtain ⟨v1, cs1, rfl, c1, h⟩ := cells_cons h
  obtain ⟨v2, cs2, rfl, c2, h⟩ := cells_cons h
  obtain ⟨v3, cs3, rfl, c3, h⟩ := cells_cons h
  obtain ⟨v4, cs4, rfl, c4, h⟩ := cells_cons h
  obtain ⟨v5, cs5, rfl, c5, h⟩ := cells_cons h
  obtain ⟨v6, cs6, rfl, c6, h⟩ := cells_cons h
  obtain ⟨v7, cs7, rfl, c7, h⟩ := cells_cons h
  obtain ⟨v8, cs8, rfl, c8, h⟩ := cells_cons h
  obtain ⟨v9, cs9, rfl, c9, h⟩ := cells_cons h
  obtain ⟨v10, cs10, rfl, c10, h⟩ := cells_cons h
  obtain rfl := cells_nil h
  exact rdL_iso (rdL_cons (rd_int c0) (rdL_cons (rd_int c1) (rdL_cons (rd_int c2) (rdL_cons (rd_int c3) (rdL_cons (rx_holds c4) (rdL_cons (rx_knots c5) (rdL_cons (rd_int c6) (rdL_cons (rx_knots c7) (rdL_cons (rd_int c8) (rdL_cons (rd_int c9) (rdL_last (rd_int c10))))))))))))
variable {r : Reach} {b : Nat} {v : Value} {d : DataW H} {p : List MemPlace}
theorem rp_bulbs (hok : Value.okWide P w r b 31 v) (h : DataW.Trod enc P w 0 (fun _ => true) true 31 v d p) : RdV w dBulbs v := by
  obtain ⟨cs, rfl, hc⟩ := param_agg fl_bulbs ag_bulbs hok h
  exact rdV_agg (rl_bulbs hc)
theorem rp_survey (hok : Value.okWide P w r b 36 v) (h : DataW.Trod enc P w 0 (fun _ => true) true 36 v d p) : RdV w dSurvey v := by
  obtain ⟨cs, rfl, hc⟩ := param_agg fl_survey ag_survey hok h
  exact rdV_agg (rl_survey hc)
theorem rp_ship (hok : Value.okWide P w r b 27 v) (h : DataW.Trod enc P w 0 (fun _ => true) true 27 v d p) : RdV w dShip v := by
  obtain ⟨cs, rfl, hc⟩ := param_agg fl_ship ag_ship hok h
  exact rdV_agg (rl_ship hc)
theorem rp_int (hok : Value.okWide P w r b 3 v) (h : DataW.Trod enc P w 0 (fun _ => true) true 3 v d p) : RdV w (dI .i64) v := rd_int (param_cell fl_int ag_int hok h)
end
end Go.Proofs.Ytkajafmphemedaa
/-! KS -/
namespace Go.Proofs.Ytkajafmphemedaa
open Ev
namespace K

theorem w64_in {n : Int} (h1 : -9223372036854775808 ≤ n) (h2 : n ≤ 9223372036854775807) : IntKind.wrap IntKind.i64 n = n := by
  show IntKind.wrap IntKind.i64 n = n
  unfold IntKind.wrap
  simp [IntKind.bits, IntKind.signed]
  omega
def within (n lo hi : Int) : Bool := decide (lo ≤ n) && decide (n ≤ hi)
def spans (s : Span) (lo hi : Int) : Bool := decide (lo ≤ s.lo) && (decide (s.lo ≤ s.hi) && decide (s.hi ≤ hi))
def meet (a b : Span) : Span := ⟨if b.lo > a.lo then b.lo else a.lo, if b.hi < a.hi then b.hi else a.hi⟩
def void (s : Span) : Bool := decide (s.lo > s.hi)
def both (a b : Span) : Span := ⟨IntKind.i64.wrap (a.lo + b.lo), IntKind.i64.wrap (a.hi + b.hi)⟩
def half (n : Int) : Int := IntKind.i64.wrap (Int.tdiv (IntKind.i64.wrap (n - Int.tmod (IntKind.i64.wrap (Int.tmod n 2 + 2)) 2)) 2)
def sums16 (s : Sums) : Int := IntKind.i64.wrap (s.ends + IntKind.i64.wrap (6 * s.middle))
def toldOf (g : Glass) : GlassE := ⟨g, ⟨IntKind.i64.wrap (g.shown.lo - g.dense), IntKind.i64.wrap (g.shown.hi - g.dense)⟩⟩
def rise (p : Piece) : Int := IntKind.i64.wrap (p.q.y - p.p.y)
end K
/-- A number in a row. -/
def Ev.XS.g (x : XS) (i k : Nat) : Int := numOf (x.f (x.row + i) k)
namespace K
def len (x : XS) : Nat := clampL x.len
theorem len_le (x : XS) : len x ≤ 9223372036854775807 := clampL_le _
theorem len_le' (x : XS) : len x ≤ x.len := clampL_le' _
def hyd (x : XS) (i : Nat) : Hydro := ⟨x.g i 0, ⟨x.g i 1, x.g i 2⟩⟩
def gls (x : XS) (i : Nat) : Glass := ⟨x.g i 0, x.g i 1, x.g i 2, ⟨x.g i 3, x.g i 4⟩⟩
def knt (x : XS) (i : Nat) : Knot := ⟨x.g i 0, x.g i 1⟩
def svy (x : XS) (i : Nat) : Survey := ⟨x.g i 0, x.g i 1, ⟨x.g i 2, x.g i 3⟩, ⟨x.g i 4, x.g i 5⟩, ⟨x.g i 6, x.g i 7⟩, ⟨x.g i 8, x.g i 9⟩, ⟨x.g i 10, x.g i 11⟩, ⟨x.g i 12, x.g i 13⟩, x.g i 14, x.g i 15, ⟨x.g i 16, x.g i 17⟩⟩
def hld (x : XS) (i : Nat) : Hold := ⟨x.g i 0, x.g i 1, x.g i 2, x.g i 3⟩
/-- The glasses of a hydrometer. -/
def glassesL (b : Bulbs) (h : Int) : List GlassE := ((List.range (len b.glasses)).filter fun i => (gls b.glasses i).hydro == h).map fun i => toldOf (gls b.glasses i)
/-- The errors that a hydrometer can have, but for a glass. -/
def errs (b : Bulbs) (h : Hydro) (but : Int) : Span := (glassesL b h.id).foldl (fun c g => if g.g.id != but then meet c g.errors else c) h.off
/-- The pieces of a curve. -/
def piecesL (c : Curve) : List (Int × Piece) := (List.range (len c.knots - 1)).map fun (i : Nat) => ((i : Int), ⟨knt c.knots i, knt c.knots (i + 1)⟩)
/-- The first number below n with a property. -/
def first (p : Nat → Bool) (n : Nat) : Option Nat := (List.range n).find? p
def idx (p : Nat → Bool) (n : Nat) : Int := match first p n with
  | some i => i
  | none => -1
def found {α : Type} (at_ : Nat → α) (zero : α) (p : Nat → Bool) (n : Nat) : α × Int := match first p n with
  | some i => (at_ i, i)
  | none => (zero, -1)
theorem first_none {p : Nat → Bool} {n : Nat} (h : ∀ i, i < n → p i = false) : first p n = none := by
  unfold first; rw [List.find?_eq_none]; intro x hx; have := h x (List.mem_range.1 hx); simp [this]
theorem first_some {p : Nat → Bool} {n i : Nat} (hi : i < n) (hp : p i = true) (h : ∀ j, j < i → p j = false) : first p n = some i := by
  unfold first
  rw [List.find?_range_eq_some]
  exact ⟨hp, List.mem_range.2 hi, fun j hj => by simp [h j hj]⟩
theorem first_spec {p : Nat → Bool} {n i : Nat} (h : first p n = some i) : i < n ∧ p i = true ∧ ∀ j, j < i → p j = false := by
  unfold first at h
  rw [List.find?_range_eq_some] at h
  exact ⟨List.mem_range.1 h.2.1, h.1, fun j hj => by simpa using h.2.2 j hj⟩
theorem first_none' {p : Nat → Bool} {n : Nat} (h : first p n = none) : ∀ i, i < n → p i = false := by
  unfold first at h; rw [List.find?_eq_none] at h; intro i hi; simpa using h i (List.mem_range.2 hi)
end K
theorem obs_ret {ρ : Type} {o : Option ρ} {r : ρ} (h : (T.obs o T.ret).run = some r) : o = some r := by
  cases o with
  | none => simp [T.run] at h
  | some x => simpa [T.run] using h
theorem br_step {ρ : Type} {b : Bool} {t e : T ρ} {x y : ρ} (h1 : b = true → t.run = some x) (h2 : ¬ b = true → e.run = some y) : (T.br b t e).run = some (if b = true then x else y) := by
  cases b with
  | true => exact h1 rfl
  | false => exact h2 (by simp)
theorem chk_step {ρ : Type} {g : Bool} {t : T ρ} {r : Option ρ} (h1 : g = true) (h2 : t.run = r) : (T.chk g t).run = r := by subst h1; exact h2
theorem chk_ret {ρ : Type} {g : Bool} {x r : ρ} (h : (T.chk g (.ret x)).run = some r) : g = true ∧ x = r := by
  cases g with
  | true => exact ⟨rfl, by simpa [T.run] using h⟩
  | false => simp [T.run] at h
theorem ret_some {ρ : Type} {x r : ρ} (h : (T.ret x).run = some r) : x = r := by simpa [T.run] using h
/-- What comes of something that may not be there. -/
def K.orr {ε α : Type} (f : ε → α) (z : α) : Option ε → α
  | some x => f x
  | none => z
section
variable {σ ρ : Type} {step : σ → Option (σ ⊕ ρ)}
theorem lim_until (S : Nat → σ) : ∀ (n k : Nat), (∀ i, k ≤ i → i < k + n → step (S i) = some (.inl (S (i + 1)))) → lim step (S k) = lim step (S (k + n))
  | 0, _, _ => rfl
  | n + 1, k, h => by
    rw [lim_step (h k (Nat.le_refl _) (by omega)), lim_until S n (k + 1) (fun i h1 h2 => h i (by omega) (by omega))]
    congr 2; omega
/-- A search. -/
theorem lim_find (S : Nat → σ) (n : Nat) (p : Nat → Bool) (hit : Nat → ρ) (miss : ρ) (h1 : ∀ i, i < n → p i = true → step (S i) = some (.inr (hit i)))
    (h2 : ∀ i, i < n → p i = false → step (S i) = some (.inl (S (i + 1)))) (h3 : step (S n) = some (.inr miss)) : lim step (S 0) = some (match K.first p n with | some i => hit i | none => miss) := by
  cases hf : K.first p n with
  | none =>
    have := K.first_none' hf
    have e := lim_until S n 0 (fun i _ hi => h2 i (by omega) (this i (by omega)))
    rw [e, Nat.zero_add]; exact lim_done h3
  | some i =>
    obtain ⟨g1, g2, g3⟩ := K.first_spec hf
    have e := lim_until S i 0 (fun j _ hj => h2 j (by omega) (g3 j (by omega)))
    rw [e, Nat.zero_add]; exact lim_done (h1 i g1 g2)
section
variable (S : Nat → List (List AV × Bool) → σ) {n : Nat} (p : Nat → Bool) (e : Nat → List AV) {bs : Nat → Bool} (stop fin : List (List AV × Bool) → ρ)
  (h1 : ∀ i, i < n → ∀ out, p i = false → step (S i out) = some (.inl (S (i + 1) out)))
  (h2 : ∀ i, i < n → ∀ out, p i = true → bs out.length = true → step (S i out) = some (.inl (S (i + 1) ((e i, true) :: out))))
  (h3 : ∀ i, i < n → ∀ out, p i = true → bs out.length = false → step (S i out) = some (.inr (stop ((e i, false) :: out))))
  (h4 : ∀ out, step (S n out) = some (.inr (fin out)))
include h1 h2 h4
theorem lim_yields_all (hb : ∀ k, bs k = true) : ∀ k i out, i + k = n → lim step (S i out) = some (fin ((((List.range' i k).filter p).map fun i => (e i, true)).reverse ++ out))
  | 0, i, out, h => by
    have : i = n := by omega
    subst this; simp; exact lim_done (h4 out)
  | k + 1, i, out, h => by
    rw [List.range'_succ]
    cases hp : p i with
    | false => rw [lim_step (h1 i (by omega) out hp), lim_yields_all hb k (i + 1) out (by omega)]; simp [hp]
    | true => rw [lim_step (h2 i (by omega) out hp (hb _)), lim_yields_all hb k (i + 1) _ (by omega)]; simp [hp]
include h3
omit h4 in
theorem lim_yields_stop {m : Nat} {x : List AV} (hb : ∀ k, bs k = !(Nat.beq k m)) : ∀ k i out, i + k = n → out.length ≤ m → (((List.range' i k).filter p).map e)[m - out.length]? = some x →
    lim step (S i out) = some (stop ((x, false) :: (((((List.range' i k).filter p).map e).take (m - out.length)).map fun x => (x, true)).reverse ++ out))
  | 0, i, out, h, _, hx => by simp at hx
  | k + 1, i, out, h, hm, hx => by
    rw [List.range'_succ] at hx ⊢
    cases hp : p i with
    | false =>
      rw [lim_step (h1 i (by omega) out hp)]
      simp only [List.filter_cons, hp] at hx ⊢
      exact lim_yields_stop hb k (i + 1) out (by omega) hm (by simpa using hx)
    | true =>
      simp only [List.filter_cons, hp, if_true, List.map_cons] at hx ⊢
      by_cases hml : out.length = m
      · have hbf : bs out.length = false := by rw [hb, hml]; simp
        rw [lim_done (h3 i (by omega) out hp hbf)]
        rw [show m - out.length = 0 by omega] at hx ⊢
        simp at hx; subst hx; simp
      · have hbt : bs out.length = true := by rw [hb]; cases h : Nat.beq out.length m with
          | false => rfl
          | true => exact absurd (Nat.eq_of_beq_eq_true h) hml
        rw [lim_step (h2 i (by omega) out hp hbt)]
        have e1 : m - out.length = (m - (((e i, true) :: out).length)) + 1 := by simp; omega
        rw [e1] at hx ⊢
        rw [lim_yields_stop hb k (i + 1) _ (by omega) (by simp; omega) (by simpa using hx)]
        simp
end
theorem foldS_total {β : Type} {step : σ → β → Option (σ ⊕ ρ)} {f : σ → β → σ} (h : ∀ s x, step s x = some (.inl (f s x))) : ∀ (L : List β) (s : σ), foldS step L s = some (.inl (L.foldl f s))
  | [], s => rfl
  | x :: L, s => by simp only [foldS, h, List.foldl_cons]; exact foldS_total h L _
/-- A loop that looks for the first error. -/
theorem lim_err {ε : Type} (S : Nat → σ) (n : Nat) (e : Nat → Option ε) (hit : ε → ρ) (miss : ρ) (h : ∀ i, i < n → step (S i) = some (K.orr (fun x => .inr (hit x)) (.inl (S (i + 1))) (e i)))
    (h3 : step (S n) = some (.inr miss)) : lim step (S 0) = some (K.orr hit miss ((List.range n).findSome? e)) := by
  have key : ∀ k i, i + k = n → lim step (S i) = some (K.orr hit miss ((List.range' i k).findSome? e)) := by
    intro k
    induction k with
    | zero => intro i hi; have : i = n := by omega
              subst this; exact lim_done h3
    | succ k ih =>
      intro i hi
      have := h i (by omega)
      rw [List.range'_succ, List.findSome?_cons]
      cases he : e i with
      | some x => rw [he] at this; exact lim_done this
      | none => rw [he] at this; rw [lim_step this]; exact ih (i + 1) (by omega)
  rw [List.range_eq_range']; exact key n 0 (by omega)
/-- A loop that adds something up. -/
theorem lim_fold {α : Type} (S : Nat → α → σ) (n : Nat) (f : α → Nat → α) (fin : α → ρ) (h : ∀ i, i < n → ∀ a, step (S i a) = some (.inl (S (i + 1) (f a i)))) (h2 : ∀ a, step (S n a) = some (.inr (fin a))) (a : α) :
    lim step (S 0 a) = some (fin ((List.range n).foldl f a)) := by
  have key : ∀ k i a, i + k = n → lim step (S i a) = some (fin ((List.range' i k).foldl f a)) := by
    intro k
    induction k with
    | zero => intro i a hi; have : i = n := by omega
              subst this; exact lim_done (h2 a)
    | succ k ih => intro i a hi; rw [lim_step (h i (by omega) a), List.range'_succ, List.foldl_cons]; exact ih (i + 1) _ (by omega)
  rw [List.range_eq_range']; exact key n 0 a (by omega)
/-- A loop over 0 .. n-1 without a way out. -/
theorem lim_all (S : Nat → σ) (n : Nat) {r : ρ} (h : ∀ i, i < n → step (S i) = some (.inl (S (i + 1)))) (h2 : step (S n) = some (.inr r)) : lim step (S 0) = some r := by
  have e := lim_until S n 0 (fun i _ hi => h i (by omega))
  rw [e, Nat.zero_add]; exact lim_done h2
end
end Go.Proofs.Ytkajafmphemedaa
/-! KA -/
namespace Go.Proofs.Ytkajafmphemedaa
open Ev K
def D_within := DecL.cons (dI .i64) (.cons (dI .i64) (.last (dI .i64) 0))
theorem tr_within : ∀ a, (callT1 P B0 30 47 D_within dB) a = T.run (
  .br (decide (Prod.fst (Prod.snd a) ≤ Prod.fst a)) (
    .ret (decide (Prod.fst a ≤ Prod.snd (Prod.snd a)))) (
    .ret (false))) := fun a => by kernel_rfl
noncomputable def BKA1 : Tab := B0.addCall 47 (callE D_within dB (fun a => .ret (within a.1 a.2.1 a.2.2)))
theorem tKA1 : TabOk P BKA1 := TabOk.addFn (d := 30) okP t0 (fun a r h => by rw [tr_within]; simp only [T.run, Option.some.injEq] at h ⊢; subst h; unfold within; cases decide (a.2.1 ≤ a.1) <;> rfl)
theorem tr_hwithin : ∀ a, (callT1 P BKA1 30 76 D_within dB) a = T.run (
  .br (decide (Prod.fst (Prod.snd a) ≤ Prod.fst a)) (
    .ret (decide (Prod.fst a ≤ Prod.snd (Prod.snd a)))) (
    .ret (false))) := fun a => by kernel_rfl
noncomputable def BKA2 : Tab := BKA1.addCall 76 (callE D_within dB (fun a => .ret (within a.1 a.2.1 a.2.2)))
theorem tKA2 : TabOk P BKA2 := TabOk.addFn (d := 30) okP tKA1 (fun a r h => by rw [tr_hwithin]; simp only [T.run, Option.some.injEq] at h ⊢; subst h; unfold within; cases decide (a.2.1 ≤ a.1) <;> rfl)
theorem tr_cwithin : ∀ a, (callT1 P BKA2 30 111 D_within dB) a = T.run (
  .br (decide (Prod.fst (Prod.snd a) ≤ Prod.fst a)) (
    .ret (decide (Prod.fst a ≤ Prod.snd (Prod.snd a)))) (
    .ret (false))) := fun a => by kernel_rfl
noncomputable def BKA3 : Tab := BKA2.addCall 111 (callE D_within dB (fun a => .ret (within a.1 a.2.1 a.2.2)))
theorem tKA3 : TabOk P BKA3 := TabOk.addFn (d := 30) okP tKA2 (fun a r h => by rw [tr_cwithin]; simp only [T.run, Option.some.injEq] at h ⊢; subst h; unfold within; cases decide (a.2.1 ≤ a.1) <;> rfl)
def D_spans := DecL.cons (dSpan) (.cons (dI .i64) (.last (dI .i64) 0))
theorem tr_spans : ∀ a, (callT1 P BKA3 30 88 D_spans dB) a = T.run (
  .br (decide (Prod.fst (Prod.snd a) ≤ Span.lo (Prod.fst a))) (
    .br (decide (Span.lo (Prod.fst a) ≤ Span.hi (Prod.fst a))) (
      .ret (decide (Span.hi (Prod.fst a) ≤ Prod.snd (Prod.snd a)))) (
      .ret (false))) (
    .ret (false))) := fun a => by kernel_rfl
noncomputable def BKA4 : Tab := BKA3.addCall 88 (callE D_spans dB (fun a => .ret (spans a.1 a.2.1 a.2.2)))
theorem tKA4 : TabOk P BKA4 := TabOk.addFn (d := 30) okP tKA3 (fun a r h => by rw [tr_spans]; simp only [T.run, Option.some.injEq] at h ⊢; subst h; unfold spans; cases decide (a.2.1 ≤ a.1.lo) <;> cases decide (a.1.lo ≤ a.1.hi) <;> rfl)
def D_meet := DecL.cons (dSpan) (.last (dSpan) 0)
theorem tr_meet : ∀ a, (callT1 P BKA4 30 62 D_meet dSpan) a = T.run (
  .ret (Span.mk (if Span.lo (Prod.snd a) > Span.lo (Prod.fst a) then Span.lo (Prod.snd a) else Span.lo (Prod.fst a)) (if Span.hi (Prod.snd a) < Span.hi (Prod.fst a) then Span.hi (Prod.snd a) else Span.hi (Prod.fst a)))) := fun a => by kernel_rfl
noncomputable def BKA5 : Tab := BKA4.addCall 62 (callE D_meet dSpan (fun a => .ret (meet a.1 a.2)))
theorem tKA5 : TabOk P BKA5 := TabOk.addFn (d := 30) okP tKA4 (fun a r h => by rw [tr_meet]; exact h)
def D_void := DecL.last (dSpan) 0
theorem tr_void : ∀ a, (callT1 P BKA5 30 40 D_void dB) a = T.run (
  .ret (decide (Span.lo a > Span.hi a))) := fun a => by kernel_rfl
noncomputable def BKA6 : Tab := BKA5.addCall 40 (callE D_void dB (fun a => .ret (void a)))
theorem tKA6 : TabOk P BKA6 := TabOk.addFn (d := 30) okP tKA5 (fun a r h => by rw [tr_void]; exact h)
theorem tr_both : ∀ a, (callT1 P BKA6 30 73 D_meet dSpan) a = T.run (
  .ret (Span.mk (IntKind.wrap IntKind.i64 (Span.lo (Prod.fst a) + Span.lo (Prod.snd a))) (IntKind.wrap IntKind.i64 (Span.hi (Prod.fst a) + Span.hi (Prod.snd a))))) := fun a => by kernel_rfl
noncomputable def BKA7 : Tab := BKA6.addCall 73 (callE D_meet dSpan (fun a => .ret (both a.1 a.2)))
theorem tKA7 : TabOk P BKA7 := TabOk.addFn (d := 30) okP tKA6 (fun a r h => by rw [tr_both]; exact h)
def D_half := DecL.last (dI .i64) 0
theorem tr_half : ∀ a, (callT1 P BKA7 30 74 D_half (dI .i64)) a = T.run (
  .ret (IntKind.wrap IntKind.i64 (Int.tdiv (IntKind.wrap IntKind.i64 (a - Int.tmod (IntKind.wrap IntKind.i64 (Int.tmod a (2 : Int) + (2 : Int))) (2 : Int))) (2 : Int)))) := fun a => by kernel_rfl
noncomputable def BKA8 : Tab := BKA7.addCall 74 (callE D_half (dI .i64) (fun a => .ret (half a)))
theorem tKA8 : TabOk P BKA8 := TabOk.addFn (d := 30) okP tKA7 (fun a r h => by rw [tr_half]; exact h)
def D_sums16 := DecL.last (dSums) 0
theorem tr_sums16 : ∀ a, (callT1 P BKA8 30 52 D_sums16 (dI .i64)) a = T.run (
  .ret (IntKind.wrap IntKind.i64 (Sums.ends a + IntKind.wrap IntKind.i64 ((6 : Int) * Sums.middle a)))) := fun a => by kernel_rfl
noncomputable def BKA9 : Tab := BKA8.addCall 52 (callE D_sums16 (dI .i64) (fun a => .ret (sums16 a)))
theorem tKA9 : TabOk P BKA9 := TabOk.addFn (d := 30) okP tKA8 (fun a r h => by rw [tr_sums16]; exact h)
def D_rise := DecL.last (dPiece) 0
theorem tr_rise : ∀ a, (callT1 P BKA9 30 125 D_rise (dI .i64)) a = T.run (
  .ret (IntKind.wrap IntKind.i64 (Knot.y (Piece.q a) - Knot.y (Piece.p a)))) := fun a => by kernel_rfl
noncomputable def BKA10 : Tab := BKA9.addCall 125 (callE D_rise (dI .i64) (fun a => .ret (rise a)))
theorem tKA10 : TabOk P BKA10 := TabOk.addFn (d := 30) okP tKA9 (fun a r h => by rw [tr_rise]; exact h)
def D_extremes := DecL.last (dSurvey) 0
def R_extremes := dTup (.cons (dAgg (.cons (dI .i64) (.cons (dI .i64) (.cons (dI .i64) (.last (dI .i64) 0))))) (.last (dB) 0))
theorem tr_extremes : ∀ a, (callT1 P BKA10 30 51 D_extremes R_extremes) a = T.run (
  .br (void (Span.mk (Span.lo (meet (Span.mk (Span.lo (both (Span.mk (Span.lo (Survey.m2 a)) (Span.hi (Survey.m2 a))) (Span.mk (Span.lo (Survey.m3 a)) (Span.hi (Survey.m3 a))))) (Span.hi (both (Span.mk (Span.lo (Survey.m2 a)) (Span.hi (Survey.m2 a))) (Span.mk (Span.lo (Survey.m3 a)) (Span.hi (Survey.m3 a)))))) (Span.mk (IntKind.wrap IntKind.i64 ((0 : Int) - half (IntKind.wrap IntKind.i64 (IntKind.wrap IntKind.i64 ((4 : Int) * Survey.sag a) - Span.lo (both (Span.mk (Span.lo (both (Span.mk (Span.lo (Survey.m0 a)) (Span.hi (Survey.m0 a))) (Span.mk (Span.lo (Survey.m1 a)) (Span.hi (Survey.m1 a))))) (Span.hi (both (Span.mk (Span.lo (Survey.m0 a)) (Span.hi (Survey.m0 a))) (Span.mk (Span.lo (Survey.m1 a)) (Span.hi (Survey.m1 a)))))) (Span.mk (Span.lo (both (Span.mk (Span.lo (Survey.m4 a)) (Span.hi (Survey.m4 a))) (Span.mk (Span.lo (Survey.m5 a)) (Span.hi (Survey.m5 a))))) (Span.hi (both (Span.mk (Span.lo (Survey.m4 a)) (Span.hi (Survey.m4 a))) (Span.mk (Span.lo (Survey.m5 a)) (Span.hi (Survey.m5 a))))))))))) (half (IntKind.wrap IntKind.i64 (Span.hi (both (Span.mk (Span.lo (both (Span.mk (Span.lo (Survey.m0 a)) (Span.hi (Survey.m0 a))) (Span.mk (Span.lo (Survey.m1 a)) (Span.hi (Survey.m1 a))))) (Span.hi (both (Span.mk (Span.lo (Survey.m0 a)) (Span.hi (Survey.m0 a))) (Span.mk (Span.lo (Survey.m1 a)) (Span.hi (Survey.m1 a)))))) (Span.mk (Span.lo (both (Span.mk (Span.lo (Survey.m4 a)) (Span.hi (Survey.m4 a))) (Span.mk (Span.lo (Survey.m5 a)) (Span.hi (Survey.m5 a))))) (Span.hi (both (Span.mk (Span.lo (Survey.m4 a)) (Span.hi (Survey.m4 a))) (Span.mk (Span.lo (Survey.m5 a)) (Span.hi (Survey.m5 a))))))) + IntKind.wrap IntKind.i64 ((4 : Int) * Survey.sag a))))))) (Span.hi (meet (Span.mk (Span.lo (both (Span.mk (Span.lo (Survey.m2 a)) (Span.hi (Survey.m2 a))) (Span.mk (Span.lo (Survey.m3 a)) (Span.hi (Survey.m3 a))))) (Span.hi (both (Span.mk (Span.lo (Survey.m2 a)) (Span.hi (Survey.m2 a))) (Span.mk (Span.lo (Survey.m3 a)) (Span.hi (Survey.m3 a)))))) (Span.mk (IntKind.wrap IntKind.i64 ((0 : Int) - half (IntKind.wrap IntKind.i64 (IntKind.wrap IntKind.i64 ((4 : Int) * Survey.sag a) - Span.lo (both (Span.mk (Span.lo (both (Span.mk (Span.lo (Survey.m0 a)) (Span.hi (Survey.m0 a))) (Span.mk (Span.lo (Survey.m1 a)) (Span.hi (Survey.m1 a))))) (Span.hi (both (Span.mk (Span.lo (Survey.m0 a)) (Span.hi (Survey.m0 a))) (Span.mk (Span.lo (Survey.m1 a)) (Span.hi (Survey.m1 a)))))) (Span.mk (Span.lo (both (Span.mk (Span.lo (Survey.m4 a)) (Span.hi (Survey.m4 a))) (Span.mk (Span.lo (Survey.m5 a)) (Span.hi (Survey.m5 a))))) (Span.hi (both (Span.mk (Span.lo (Survey.m4 a)) (Span.hi (Survey.m4 a))) (Span.mk (Span.lo (Survey.m5 a)) (Span.hi (Survey.m5 a))))))))))) (half (IntKind.wrap IntKind.i64 (Span.hi (both (Span.mk (Span.lo (both (Span.mk (Span.lo (Survey.m0 a)) (Span.hi (Survey.m0 a))) (Span.mk (Span.lo (Survey.m1 a)) (Span.hi (Survey.m1 a))))) (Span.hi (both (Span.mk (Span.lo (Survey.m0 a)) (Span.hi (Survey.m0 a))) (Span.mk (Span.lo (Survey.m1 a)) (Span.hi (Survey.m1 a)))))) (Span.mk (Span.lo (both (Span.mk (Span.lo (Survey.m4 a)) (Span.hi (Survey.m4 a))) (Span.mk (Span.lo (Survey.m5 a)) (Span.hi (Survey.m5 a))))) (Span.hi (both (Span.mk (Span.lo (Survey.m4 a)) (Span.hi (Survey.m4 a))) (Span.mk (Span.lo (Survey.m5 a)) (Span.hi (Survey.m5 a))))))) + IntKind.wrap IntKind.i64 ((4 : Int) * Survey.sag a))))))))) (
    .ret ((((0 : Int), (0 : Int), (0 : Int), (0 : Int)), false))) (
    .ret (((if IntKind.wrap IntKind.i64 (IntKind.wrap IntKind.i64 ((2 : Int) * Span.lo (meet (Span.mk (Span.lo (both (Span.mk (Span.lo (Survey.m2 a)) (Span.hi (Survey.m2 a))) (Span.mk (Span.lo (Survey.m3 a)) (Span.hi (Survey.m3 a))))) (Span.hi (both (Span.mk (Span.lo (Survey.m2 a)) (Span.hi (Survey.m2 a))) (Span.mk (Span.lo (Survey.m3 a)) (Span.hi (Survey.m3 a)))))) (Span.mk (IntKind.wrap IntKind.i64 ((0 : Int) - half (IntKind.wrap IntKind.i64 (IntKind.wrap IntKind.i64 ((4 : Int) * Survey.sag a) - Span.lo (both (Span.mk (Span.lo (both (Span.mk (Span.lo (Survey.m0 a)) (Span.hi (Survey.m0 a))) (Span.mk (Span.lo (Survey.m1 a)) (Span.hi (Survey.m1 a))))) (Span.hi (both (Span.mk (Span.lo (Survey.m0 a)) (Span.hi (Survey.m0 a))) (Span.mk (Span.lo (Survey.m1 a)) (Span.hi (Survey.m1 a)))))) (Span.mk (Span.lo (both (Span.mk (Span.lo (Survey.m4 a)) (Span.hi (Survey.m4 a))) (Span.mk (Span.lo (Survey.m5 a)) (Span.hi (Survey.m5 a))))) (Span.hi (both (Span.mk (Span.lo (Survey.m4 a)) (Span.hi (Survey.m4 a))) (Span.mk (Span.lo (Survey.m5 a)) (Span.hi (Survey.m5 a))))))))))) (half (IntKind.wrap IntKind.i64 (Span.hi (both (Span.mk (Span.lo (both (Span.mk (Span.lo (Survey.m0 a)) (Span.hi (Survey.m0 a))) (Span.mk (Span.lo (Survey.m1 a)) (Span.hi (Survey.m1 a))))) (Span.hi (both (Span.mk (Span.lo (Survey.m0 a)) (Span.hi (Survey.m0 a))) (Span.mk (Span.lo (Survey.m1 a)) (Span.hi (Survey.m1 a)))))) (Span.mk (Span.lo (both (Span.mk (Span.lo (Survey.m4 a)) (Span.hi (Survey.m4 a))) (Span.mk (Span.lo (Survey.m5 a)) (Span.hi (Survey.m5 a))))) (Span.hi (both (Span.mk (Span.lo (Survey.m4 a)) (Span.hi (Survey.m4 a))) (Span.mk (Span.lo (Survey.m5 a)) (Span.hi (Survey.m5 a))))))) + IntKind.wrap IntKind.i64 ((4 : Int) * Survey.sag a))))))) - IntKind.wrap IntKind.i64 ((4 : Int) * Survey.sag a)) > Span.lo (both (Span.mk (Span.lo (both (Span.mk (Span.lo (Survey.m0 a)) (Span.hi (Survey.m0 a))) (Span.mk (Span.lo (Survey.m1 a)) (Span.hi (Survey.m1 a))))) (Span.hi (both (Span.mk (Span.lo (Survey.m0 a)) (Span.hi (Survey.m0 a))) (Span.mk (Span.lo (Survey.m1 a)) (Span.hi (Survey.m1 a)))))) (Span.mk (Span.lo (both (Span.mk (Span.lo (Survey.m4 a)) (Span.hi (Survey.m4 a))) (Span.mk (Span.lo (Survey.m5 a)) (Span.hi (Survey.m5 a))))) (Span.hi (both (Span.mk (Span.lo (Survey.m4 a)) (Span.hi (Survey.m4 a))) (Span.mk (Span.lo (Survey.m5 a)) (Span.hi (Survey.m5 a))))))) then IntKind.wrap IntKind.i64 (IntKind.wrap IntKind.i64 ((2 : Int) * Span.lo (meet (Span.mk (Span.lo (both (Span.mk (Span.lo (Survey.m2 a)) (Span.hi (Survey.m2 a))) (Span.mk (Span.lo (Survey.m3 a)) (Span.hi (Survey.m3 a))))) (Span.hi (both (Span.mk (Span.lo (Survey.m2 a)) (Span.hi (Survey.m2 a))) (Span.mk (Span.lo (Survey.m3 a)) (Span.hi (Survey.m3 a)))))) (Span.mk (IntKind.wrap IntKind.i64 ((0 : Int) - half (IntKind.wrap IntKind.i64 (IntKind.wrap IntKind.i64 ((4 : Int) * Survey.sag a) - Span.lo (both (Span.mk (Span.lo (both (Span.mk (Span.lo (Survey.m0 a)) (Span.hi (Survey.m0 a))) (Span.mk (Span.lo (Survey.m1 a)) (Span.hi (Survey.m1 a))))) (Span.hi (both (Span.mk (Span.lo (Survey.m0 a)) (Span.hi (Survey.m0 a))) (Span.mk (Span.lo (Survey.m1 a)) (Span.hi (Survey.m1 a)))))) (Span.mk (Span.lo (both (Span.mk (Span.lo (Survey.m4 a)) (Span.hi (Survey.m4 a))) (Span.mk (Span.lo (Survey.m5 a)) (Span.hi (Survey.m5 a))))) (Span.hi (both (Span.mk (Span.lo (Survey.m4 a)) (Span.hi (Survey.m4 a))) (Span.mk (Span.lo (Survey.m5 a)) (Span.hi (Survey.m5 a))))))))))) (half (IntKind.wrap IntKind.i64 (Span.hi (both (Span.mk (Span.lo (both (Span.mk (Span.lo (Survey.m0 a)) (Span.hi (Survey.m0 a))) (Span.mk (Span.lo (Survey.m1 a)) (Span.hi (Survey.m1 a))))) (Span.hi (both (Span.mk (Span.lo (Survey.m0 a)) (Span.hi (Survey.m0 a))) (Span.mk (Span.lo (Survey.m1 a)) (Span.hi (Survey.m1 a)))))) (Span.mk (Span.lo (both (Span.mk (Span.lo (Survey.m4 a)) (Span.hi (Survey.m4 a))) (Span.mk (Span.lo (Survey.m5 a)) (Span.hi (Survey.m5 a))))) (Span.hi (both (Span.mk (Span.lo (Survey.m4 a)) (Span.hi (Survey.m4 a))) (Span.mk (Span.lo (Survey.m5 a)) (Span.hi (Survey.m5 a))))))) + IntKind.wrap IntKind.i64 ((4 : Int) * Survey.sag a))))))) - IntKind.wrap IntKind.i64 ((4 : Int) * Survey.sag a)) else Span.lo (both (Span.mk (Span.lo (both (Span.mk (Span.lo (Survey.m0 a)) (Span.hi (Survey.m0 a))) (Span.mk (Span.lo (Survey.m1 a)) (Span.hi (Survey.m1 a))))) (Span.hi (both (Span.mk (Span.lo (Survey.m0 a)) (Span.hi (Survey.m0 a))) (Span.mk (Span.lo (Survey.m1 a)) (Span.hi (Survey.m1 a)))))) (Span.mk (Span.lo (both (Span.mk (Span.lo (Survey.m4 a)) (Span.hi (Survey.m4 a))) (Span.mk (Span.lo (Survey.m5 a)) (Span.hi (Survey.m5 a))))) (Span.hi (both (Span.mk (Span.lo (Survey.m4 a)) (Span.hi (Survey.m4 a))) (Span.mk (Span.lo (Survey.m5 a)) (Span.hi (Survey.m5 a))))))), Span.lo (meet (Span.mk (Span.lo (both (Span.mk (Span.lo (Survey.m2 a)) (Span.hi (Survey.m2 a))) (Span.mk (Span.lo (Survey.m3 a)) (Span.hi (Survey.m3 a))))) (Span.hi (both (Span.mk (Span.lo (Survey.m2 a)) (Span.hi (Survey.m2 a))) (Span.mk (Span.lo (Survey.m3 a)) (Span.hi (Survey.m3 a)))))) (Span.mk (IntKind.wrap IntKind.i64 ((0 : Int) - half (IntKind.wrap IntKind.i64 (IntKind.wrap IntKind.i64 ((4 : Int) * Survey.sag a) - Span.lo (both (Span.mk (Span.lo (both (Span.mk (Span.lo (Survey.m0 a)) (Span.hi (Survey.m0 a))) (Span.mk (Span.lo (Survey.m1 a)) (Span.hi (Survey.m1 a))))) (Span.hi (both (Span.mk (Span.lo (Survey.m0 a)) (Span.hi (Survey.m0 a))) (Span.mk (Span.lo (Survey.m1 a)) (Span.hi (Survey.m1 a)))))) (Span.mk (Span.lo (both (Span.mk (Span.lo (Survey.m4 a)) (Span.hi (Survey.m4 a))) (Span.mk (Span.lo (Survey.m5 a)) (Span.hi (Survey.m5 a))))) (Span.hi (both (Span.mk (Span.lo (Survey.m4 a)) (Span.hi (Survey.m4 a))) (Span.mk (Span.lo (Survey.m5 a)) (Span.hi (Survey.m5 a))))))))))) (half (IntKind.wrap IntKind.i64 (Span.hi (both (Span.mk (Span.lo (both (Span.mk (Span.lo (Survey.m0 a)) (Span.hi (Survey.m0 a))) (Span.mk (Span.lo (Survey.m1 a)) (Span.hi (Survey.m1 a))))) (Span.hi (both (Span.mk (Span.lo (Survey.m0 a)) (Span.hi (Survey.m0 a))) (Span.mk (Span.lo (Survey.m1 a)) (Span.hi (Survey.m1 a)))))) (Span.mk (Span.lo (both (Span.mk (Span.lo (Survey.m4 a)) (Span.hi (Survey.m4 a))) (Span.mk (Span.lo (Survey.m5 a)) (Span.hi (Survey.m5 a))))) (Span.hi (both (Span.mk (Span.lo (Survey.m4 a)) (Span.hi (Survey.m4 a))) (Span.mk (Span.lo (Survey.m5 a)) (Span.hi (Survey.m5 a))))))) + IntKind.wrap IntKind.i64 ((4 : Int) * Survey.sag a)))))), if IntKind.wrap IntKind.i64 (IntKind.wrap IntKind.i64 ((2 : Int) * Span.hi (meet (Span.mk (Span.lo (both (Span.mk (Span.lo (Survey.m2 a)) (Span.hi (Survey.m2 a))) (Span.mk (Span.lo (Survey.m3 a)) (Span.hi (Survey.m3 a))))) (Span.hi (both (Span.mk (Span.lo (Survey.m2 a)) (Span.hi (Survey.m2 a))) (Span.mk (Span.lo (Survey.m3 a)) (Span.hi (Survey.m3 a)))))) (Span.mk (IntKind.wrap IntKind.i64 ((0 : Int) - half (IntKind.wrap IntKind.i64 (IntKind.wrap IntKind.i64 ((4 : Int) * Survey.sag a) - Span.lo (both (Span.mk (Span.lo (both (Span.mk (Span.lo (Survey.m0 a)) (Span.hi (Survey.m0 a))) (Span.mk (Span.lo (Survey.m1 a)) (Span.hi (Survey.m1 a))))) (Span.hi (both (Span.mk (Span.lo (Survey.m0 a)) (Span.hi (Survey.m0 a))) (Span.mk (Span.lo (Survey.m1 a)) (Span.hi (Survey.m1 a)))))) (Span.mk (Span.lo (both (Span.mk (Span.lo (Survey.m4 a)) (Span.hi (Survey.m4 a))) (Span.mk (Span.lo (Survey.m5 a)) (Span.hi (Survey.m5 a))))) (Span.hi (both (Span.mk (Span.lo (Survey.m4 a)) (Span.hi (Survey.m4 a))) (Span.mk (Span.lo (Survey.m5 a)) (Span.hi (Survey.m5 a))))))))))) (half (IntKind.wrap IntKind.i64 (Span.hi (both (Span.mk (Span.lo (both (Span.mk (Span.lo (Survey.m0 a)) (Span.hi (Survey.m0 a))) (Span.mk (Span.lo (Survey.m1 a)) (Span.hi (Survey.m1 a))))) (Span.hi (both (Span.mk (Span.lo (Survey.m0 a)) (Span.hi (Survey.m0 a))) (Span.mk (Span.lo (Survey.m1 a)) (Span.hi (Survey.m1 a)))))) (Span.mk (Span.lo (both (Span.mk (Span.lo (Survey.m4 a)) (Span.hi (Survey.m4 a))) (Span.mk (Span.lo (Survey.m5 a)) (Span.hi (Survey.m5 a))))) (Span.hi (both (Span.mk (Span.lo (Survey.m4 a)) (Span.hi (Survey.m4 a))) (Span.mk (Span.lo (Survey.m5 a)) (Span.hi (Survey.m5 a))))))) + IntKind.wrap IntKind.i64 ((4 : Int) * Survey.sag a))))))) + IntKind.wrap IntKind.i64 ((4 : Int) * Survey.sag a)) < Span.hi (both (Span.mk (Span.lo (both (Span.mk (Span.lo (Survey.m0 a)) (Span.hi (Survey.m0 a))) (Span.mk (Span.lo (Survey.m1 a)) (Span.hi (Survey.m1 a))))) (Span.hi (both (Span.mk (Span.lo (Survey.m0 a)) (Span.hi (Survey.m0 a))) (Span.mk (Span.lo (Survey.m1 a)) (Span.hi (Survey.m1 a)))))) (Span.mk (Span.lo (both (Span.mk (Span.lo (Survey.m4 a)) (Span.hi (Survey.m4 a))) (Span.mk (Span.lo (Survey.m5 a)) (Span.hi (Survey.m5 a))))) (Span.hi (both (Span.mk (Span.lo (Survey.m4 a)) (Span.hi (Survey.m4 a))) (Span.mk (Span.lo (Survey.m5 a)) (Span.hi (Survey.m5 a))))))) then IntKind.wrap IntKind.i64 (IntKind.wrap IntKind.i64 ((2 : Int) * Span.hi (meet (Span.mk (Span.lo (both (Span.mk (Span.lo (Survey.m2 a)) (Span.hi (Survey.m2 a))) (Span.mk (Span.lo (Survey.m3 a)) (Span.hi (Survey.m3 a))))) (Span.hi (both (Span.mk (Span.lo (Survey.m2 a)) (Span.hi (Survey.m2 a))) (Span.mk (Span.lo (Survey.m3 a)) (Span.hi (Survey.m3 a)))))) (Span.mk (IntKind.wrap IntKind.i64 ((0 : Int) - half (IntKind.wrap IntKind.i64 (IntKind.wrap IntKind.i64 ((4 : Int) * Survey.sag a) - Span.lo (both (Span.mk (Span.lo (both (Span.mk (Span.lo (Survey.m0 a)) (Span.hi (Survey.m0 a))) (Span.mk (Span.lo (Survey.m1 a)) (Span.hi (Survey.m1 a))))) (Span.hi (both (Span.mk (Span.lo (Survey.m0 a)) (Span.hi (Survey.m0 a))) (Span.mk (Span.lo (Survey.m1 a)) (Span.hi (Survey.m1 a)))))) (Span.mk (Span.lo (both (Span.mk (Span.lo (Survey.m4 a)) (Span.hi (Survey.m4 a))) (Span.mk (Span.lo (Survey.m5 a)) (Span.hi (Survey.m5 a))))) (Span.hi (both (Span.mk (Span.lo (Survey.m4 a)) (Span.hi (Survey.m4 a))) (Span.mk (Span.lo (Survey.m5 a)) (Span.hi (Survey.m5 a))))))))))) (half (IntKind.wrap IntKind.i64 (Span.hi (both (Span.mk (Span.lo (both (Span.mk (Span.lo (Survey.m0 a)) (Span.hi (Survey.m0 a))) (Span.mk (Span.lo (Survey.m1 a)) (Span.hi (Survey.m1 a))))) (Span.hi (both (Span.mk (Span.lo (Survey.m0 a)) (Span.hi (Survey.m0 a))) (Span.mk (Span.lo (Survey.m1 a)) (Span.hi (Survey.m1 a)))))) (Span.mk (Span.lo (both (Span.mk (Span.lo (Survey.m4 a)) (Span.hi (Survey.m4 a))) (Span.mk (Span.lo (Survey.m5 a)) (Span.hi (Survey.m5 a))))) (Span.hi (both (Span.mk (Span.lo (Survey.m4 a)) (Span.hi (Survey.m4 a))) (Span.mk (Span.lo (Survey.m5 a)) (Span.hi (Survey.m5 a))))))) + IntKind.wrap IntKind.i64 ((4 : Int) * Survey.sag a))))))) + IntKind.wrap IntKind.i64 ((4 : Int) * Survey.sag a)) else Span.hi (both (Span.mk (Span.lo (both (Span.mk (Span.lo (Survey.m0 a)) (Span.hi (Survey.m0 a))) (Span.mk (Span.lo (Survey.m1 a)) (Span.hi (Survey.m1 a))))) (Span.hi (both (Span.mk (Span.lo (Survey.m0 a)) (Span.hi (Survey.m0 a))) (Span.mk (Span.lo (Survey.m1 a)) (Span.hi (Survey.m1 a)))))) (Span.mk (Span.lo (both (Span.mk (Span.lo (Survey.m4 a)) (Span.hi (Survey.m4 a))) (Span.mk (Span.lo (Survey.m5 a)) (Span.hi (Survey.m5 a))))) (Span.hi (both (Span.mk (Span.lo (Survey.m4 a)) (Span.hi (Survey.m4 a))) (Span.mk (Span.lo (Survey.m5 a)) (Span.hi (Survey.m5 a))))))), Span.hi (meet (Span.mk (Span.lo (both (Span.mk (Span.lo (Survey.m2 a)) (Span.hi (Survey.m2 a))) (Span.mk (Span.lo (Survey.m3 a)) (Span.hi (Survey.m3 a))))) (Span.hi (both (Span.mk (Span.lo (Survey.m2 a)) (Span.hi (Survey.m2 a))) (Span.mk (Span.lo (Survey.m3 a)) (Span.hi (Survey.m3 a)))))) (Span.mk (IntKind.wrap IntKind.i64 ((0 : Int) - half (IntKind.wrap IntKind.i64 (IntKind.wrap IntKind.i64 ((4 : Int) * Survey.sag a) - Span.lo (both (Span.mk (Span.lo (both (Span.mk (Span.lo (Survey.m0 a)) (Span.hi (Survey.m0 a))) (Span.mk (Span.lo (Survey.m1 a)) (Span.hi (Survey.m1 a))))) (Span.hi (both (Span.mk (Span.lo (Survey.m0 a)) (Span.hi (Survey.m0 a))) (Span.mk (Span.lo (Survey.m1 a)) (Span.hi (Survey.m1 a)))))) (Span.mk (Span.lo (both (Span.mk (Span.lo (Survey.m4 a)) (Span.hi (Survey.m4 a))) (Span.mk (Span.lo (Survey.m5 a)) (Span.hi (Survey.m5 a))))) (Span.hi (both (Span.mk (Span.lo (Survey.m4 a)) (Span.hi (Survey.m4 a))) (Span.mk (Span.lo (Survey.m5 a)) (Span.hi (Survey.m5 a))))))))))) (half (IntKind.wrap IntKind.i64 (Span.hi (both (Span.mk (Span.lo (both (Span.mk (Span.lo (Survey.m0 a)) (Span.hi (Survey.m0 a))) (Span.mk (Span.lo (Survey.m1 a)) (Span.hi (Survey.m1 a))))) (Span.hi (both (Span.mk (Span.lo (Survey.m0 a)) (Span.hi (Survey.m0 a))) (Span.mk (Span.lo (Survey.m1 a)) (Span.hi (Survey.m1 a)))))) (Span.mk (Span.lo (both (Span.mk (Span.lo (Survey.m4 a)) (Span.hi (Survey.m4 a))) (Span.mk (Span.lo (Survey.m5 a)) (Span.hi (Survey.m5 a))))) (Span.hi (both (Span.mk (Span.lo (Survey.m4 a)) (Span.hi (Survey.m4 a))) (Span.mk (Span.lo (Survey.m5 a)) (Span.hi (Survey.m5 a))))))) + IntKind.wrap IntKind.i64 ((4 : Int) * Survey.sag a))))))), true)))) := fun a => by kernel_rfl
end Go.Proofs.Ytkajafmphemedaa
/-! KB -/
namespace Go.Proofs.Ytkajafmphemedaa
open Ev K
/-- A closure that has caught a number; one that has caught a structure of w numbers. -/
def cNum (g : Nat) : Dec Int := dFn g (.last (dP 1 (.last (dI .i64) 0) 0) 0)
def S_hyd1 := DecS.mk1 (.cons xHydros (.cons (cNum 118) (.skips 5 (.cons (dI .i64) (.last (dI .i64) 10)))))
def X_hyd1 := DecX.or (DecX.one .ret [4] (DecS.mk1 (.skips 4 (.last (dI .i64) 14)))) (DecX.one (.exit 0) [] (DecS.mk1 (.tops 19)))
def K.p_hyd1 (c : Int) (x : XS) (i : Nat) : Bool := x.g i 0 == c
theorem sl_hyd1 : ∀ s, (loopT1 P BKA10 30 116 17 [8, 0, 1, 7] S_hyd1 X_hyd1) s = T.run (
  .br (decide (Prod.snd (Prod.snd (Prod.snd s)) < Prod.fst (Prod.snd (Prod.snd s)))) (
    .chk (decide ((0 : Int) ≤ Prod.snd (Prod.snd (Prod.snd s)) ∧ Prod.snd (Prod.snd (Prod.snd s)) < (↑(XS.len (Prod.fst s)) : Int))) <|
    .br (numOf (XS.f (Prod.fst s) (XS.row (Prod.fst s) + Int.toNat (Prod.snd (Prod.snd (Prod.snd s)))) (0 : Nat)) == Prod.fst (Prod.snd s)) (
      .ret (Sum.inr (Sum.inl (Prod.snd (Prod.snd (Prod.snd s)))))) (
      .ret (Sum.inl (Prod.fst s, Prod.fst (Prod.snd s), Prod.fst (Prod.snd (Prod.snd s)), IntKind.wrap IntKind.i64 (Prod.snd (Prod.snd (Prod.snd s)) + (1 : Int)))))) (
    .ret (Sum.inr (Sum.inr PUnit.unit)))) := fun s => by kernel_rfl
noncomputable def K.L_hyd1 := lim (loopT1 P BKA10 30 116 17 [8, 0, 1, 7] S_hyd1 X_hyd1)
theorem K.L_hyd1_eq (x : XS) (c : Int) : K.L_hyd1 (x, c, (K.len x : Int), 0) = some (match first (K.p_hyd1 c x) (K.len x) with | some i => (Sum.inl (i : Int) : Int ⊕ Unit) | none => .inr ()) := by
  have e1 := K.len_le x; have e2 := K.len_le' x
  refine lim_find (fun i => (x, c, (K.len x : Int), (i : Int))) (K.len x) (K.p_hyd1 c x) (fun i => (Sum.inl (i : Int) : Int ⊕ Unit)) (Sum.inr ()) (fun i hi hp => ?_) (fun i hi hp => ?_) ?_
  · rw [sl_hyd1]; unfold K.p_hyd1 at hp
    simp only [T.run_br, T.run_chk, T.run_ret, decide_eq_true_eq, Int.toNat_natCast]
    rw [if_pos (by omega), if_pos (by omega)]
    simp only [XS.g] at hp; rw [if_pos hp]
  · rw [sl_hyd1]; unfold K.p_hyd1 at hp
    simp only [T.run_br, T.run_chk, T.run_ret, decide_eq_true_eq, Int.toNat_natCast]
    rw [if_pos (by omega), if_pos (by omega)]
    simp only [XS.g] at hp; rw [if_neg (by simp [hp])]
    rw [w64_in (by omega) (by omega)]; simp
  · rw [sl_hyd1]
    simp only [T.run_br, T.run_chk, T.run_ret, decide_eq_true_eq]
    rw [if_neg (by omega)]
noncomputable def BKB1 : Tab := BKA10.addNode 116 17 (nodeE [8, 0, 1, 7] S_hyd1 X_hyd1 (fun s => .obs (K.L_hyd1 s) .ret))
theorem tKB1 : TabOk P BKB1 := TabOk.addLoop (d := 30) okP tKA10 (by kernel_rfl) (by kernel_rfl) (fun s r h => obs_ret h)
def D_hyd1 := DecL.cons xHydros (.last (cNum 118) 0)
theorem fn_hyd1 : ∀ a, (callT1 P BKB1 30 116 D_hyd1 (dI .i64)) a = T.run (
  .obs (L_hyd1 (Prod.fst a, Prod.snd a, (↑(clampL (XS.len (Prod.fst a))) : Int), (0 : Int))) fun x0 =>
    .sum (x0) (fun x1 =>
      .ret (x1)) (fun x1 =>
      .ret ((-1 : Int)))) := fun a => by kernel_rfl
theorem ix_hyd1 (a : XS × Int) : callT1 P BKB1 30 116 D_hyd1 (dI .i64) a = some (idx (K.p_hyd1 a.2 a.1) (K.len a.1)) := by
  rw [fn_hyd1]
  show T.run (.obs (K.L_hyd1 (a.1, a.2, (K.len a.1 : Int), 0)) _) = _
  rw [K.L_hyd1_eq]; unfold idx
  cases first (K.p_hyd1 a.2 a.1) (K.len a.1) <;> rfl
noncomputable def BKB2 : Tab := BKB1.addCall 116 (callE D_hyd1 (dI .i64) (fun a => .ret (idx (K.p_hyd1 a.2 a.1) (K.len a.1))))
theorem tKB2 : TabOk P BKB2 := TabOk.addFn (d := 30) okP tKB1 (fun a r h => by rw [ix_hyd1]; exact congrArg some (ret_some h))

def S_chk1 := DecS.mk1 (.cons xHydros (.cons (dFn 90 (.last (dP 3 lHydro 0) 0)) (.skips 5 (.cons (dI .i64) (.last (dI .i64) 10)))))
def X_chk1 := DecX.or (DecX.one .ret [4] (DecS.mk1 (.skips 4 (.last (dI .i64) 14)))) (DecX.one (.exit 0) [] (DecS.mk1 (.tops 19)))
def K.p_chk1 (c : Hydro) (x : XS) (i : Nat) : Bool := x.g i 0 == c.id
theorem sl_chk1 : ∀ s, (loopT1 P BKB2 30 116 17 [8, 0, 1, 7] S_chk1 X_chk1) s = T.run (
  .br (decide (Prod.snd (Prod.snd (Prod.snd s)) < Prod.fst (Prod.snd (Prod.snd s)))) (
    .chk (decide ((0 : Int) ≤ Prod.snd (Prod.snd (Prod.snd s)) ∧ Prod.snd (Prod.snd (Prod.snd s)) < (↑(XS.len (Prod.fst s)) : Int))) <|
    .br (numOf (XS.f (Prod.fst s) (XS.row (Prod.fst s) + Int.toNat (Prod.snd (Prod.snd (Prod.snd s)))) (0 : Nat)) == Hydro.id (Prod.fst (Prod.snd s))) (
      .ret (Sum.inr (Sum.inl (Prod.snd (Prod.snd (Prod.snd s)))))) (
      .ret (Sum.inl (Prod.fst s, Prod.fst (Prod.snd s), Prod.fst (Prod.snd (Prod.snd s)), IntKind.wrap IntKind.i64 (Prod.snd (Prod.snd (Prod.snd s)) + (1 : Int)))))) (
    .ret (Sum.inr (Sum.inr PUnit.unit)))) := fun s => by kernel_rfl
noncomputable def K.L_chk1 := lim (loopT1 P BKB2 30 116 17 [8, 0, 1, 7] S_chk1 X_chk1)
theorem K.L_chk1_eq (x : XS) (c : Hydro) : K.L_chk1 (x, c, (K.len x : Int), 0) = some (match first (K.p_chk1 c x) (K.len x) with | some i => (Sum.inl (i : Int) : Int ⊕ Unit) | none => .inr ()) := by
  have e1 := K.len_le x; have e2 := K.len_le' x
  refine lim_find (fun i => (x, c, (K.len x : Int), (i : Int))) (K.len x) (K.p_chk1 c x) (fun i => (Sum.inl (i : Int) : Int ⊕ Unit)) (Sum.inr ()) (fun i hi hp => ?_) (fun i hi hp => ?_) ?_
  · rw [sl_chk1]; unfold K.p_chk1 at hp
    simp only [T.run_br, T.run_chk, T.run_ret, decide_eq_true_eq, Int.toNat_natCast]
    rw [if_pos (by omega), if_pos (by omega)]
    simp only [XS.g] at hp; rw [if_pos hp]
  · rw [sl_chk1]; unfold K.p_chk1 at hp
    simp only [T.run_br, T.run_chk, T.run_ret, decide_eq_true_eq, Int.toNat_natCast]
    rw [if_pos (by omega), if_pos (by omega)]
    simp only [XS.g] at hp; rw [if_neg (by simp [hp])]
    rw [w64_in (by omega) (by omega)]; simp
  · rw [sl_chk1]
    simp only [T.run_br, T.run_chk, T.run_ret, decide_eq_true_eq]
    rw [if_neg (by omega)]
noncomputable def BKB3 : Tab := BKB2.addNode 116 17 (nodeE [8, 0, 1, 7] S_chk1 X_chk1 (fun s => .obs (K.L_chk1 s) .ret))
theorem tKB3 : TabOk P BKB3 := TabOk.addLoop (d := 30) okP tKB2 (by kernel_rfl) (by kernel_rfl) (fun s r h => obs_ret h)
def D_chk1 := DecL.cons xHydros (.last (dFn 90 (.last (dP 3 lHydro 0) 0)) 0)
theorem fn_chk1 : ∀ a, (callT1 P BKB3 30 116 D_chk1 (dI .i64)) a = T.run (
  .obs (L_chk1 (Prod.fst a, Prod.snd a, (↑(clampL (XS.len (Prod.fst a))) : Int), (0 : Int))) fun x0 =>
    .sum (x0) (fun x1 =>
      .ret (x1)) (fun x1 =>
      .ret ((-1 : Int)))) := fun a => by kernel_rfl
theorem ix_chk1 (a : XS × Hydro) : callT1 P BKB3 30 116 D_chk1 (dI .i64) a = some (idx (K.p_chk1 a.2 a.1) (K.len a.1)) := by
  rw [fn_chk1]
  show T.run (.obs (K.L_chk1 (a.1, a.2, (K.len a.1 : Int), 0)) _) = _
  rw [K.L_chk1_eq]; unfold idx
  cases first (K.p_chk1 a.2 a.1) (K.len a.1) <;> rfl
noncomputable def BKB4 : Tab := BKB3.addCall 116 (callE D_chk1 (dI .i64) (fun a => .ret (idx (K.p_chk1 a.2 a.1) (K.len a.1))))
theorem tKB4 : TabOk P BKB4 := TabOk.addFn (d := 30) okP tKB3 (fun a r h => by rw [ix_chk1]; exact congrArg some (ret_some h))

def S_chk2 := DecS.mk1 (.cons xHydros (.cons (dFn 91 (.last (dP 5 lGlass 0) 0)) (.skips 5 (.cons (dI .i64) (.last (dI .i64) 10)))))
def X_chk2 := DecX.or (DecX.one .ret [4] (DecS.mk1 (.skips 4 (.last (dI .i64) 14)))) (DecX.one (.exit 0) [] (DecS.mk1 (.tops 19)))
def K.p_chk2 (c : Glass) (x : XS) (i : Nat) : Bool := x.g i 0 == c.hydro
theorem sl_chk2 : ∀ s, (loopT1 P BKB4 30 116 17 [8, 0, 1, 7] S_chk2 X_chk2) s = T.run (
  .br (decide (Prod.snd (Prod.snd (Prod.snd s)) < Prod.fst (Prod.snd (Prod.snd s)))) (
    .chk (decide ((0 : Int) ≤ Prod.snd (Prod.snd (Prod.snd s)) ∧ Prod.snd (Prod.snd (Prod.snd s)) < (↑(XS.len (Prod.fst s)) : Int))) <|
    .br (numOf (XS.f (Prod.fst s) (XS.row (Prod.fst s) + Int.toNat (Prod.snd (Prod.snd (Prod.snd s)))) (0 : Nat)) == Glass.hydro (Prod.fst (Prod.snd s))) (
      .ret (Sum.inr (Sum.inl (Prod.snd (Prod.snd (Prod.snd s)))))) (
      .ret (Sum.inl (Prod.fst s, Prod.fst (Prod.snd s), Prod.fst (Prod.snd (Prod.snd s)), IntKind.wrap IntKind.i64 (Prod.snd (Prod.snd (Prod.snd s)) + (1 : Int)))))) (
    .ret (Sum.inr (Sum.inr PUnit.unit)))) := fun s => by kernel_rfl
noncomputable def K.L_chk2 := lim (loopT1 P BKB4 30 116 17 [8, 0, 1, 7] S_chk2 X_chk2)
theorem K.L_chk2_eq (x : XS) (c : Glass) : K.L_chk2 (x, c, (K.len x : Int), 0) = some (match first (K.p_chk2 c x) (K.len x) with | some i => (Sum.inl (i : Int) : Int ⊕ Unit) | none => .inr ()) := by
  have e1 := K.len_le x; have e2 := K.len_le' x
  refine lim_find (fun i => (x, c, (K.len x : Int), (i : Int))) (K.len x) (K.p_chk2 c x) (fun i => (Sum.inl (i : Int) : Int ⊕ Unit)) (Sum.inr ()) (fun i hi hp => ?_) (fun i hi hp => ?_) ?_
  · rw [sl_chk2]; unfold K.p_chk2 at hp
    simp only [T.run_br, T.run_chk, T.run_ret, decide_eq_true_eq, Int.toNat_natCast]
    rw [if_pos (by omega), if_pos (by omega)]
    simp only [XS.g] at hp; rw [if_pos hp]
  · rw [sl_chk2]; unfold K.p_chk2 at hp
    simp only [T.run_br, T.run_chk, T.run_ret, decide_eq_true_eq, Int.toNat_natCast]
    rw [if_pos (by omega), if_pos (by omega)]
    simp only [XS.g] at hp; rw [if_neg (by simp [hp])]
    rw [w64_in (by omega) (by omega)]; simp
  · rw [sl_chk2]
    simp only [T.run_br, T.run_chk, T.run_ret, decide_eq_true_eq]
    rw [if_neg (by omega)]
noncomputable def BKB5 : Tab := BKB4.addNode 116 17 (nodeE [8, 0, 1, 7] S_chk2 X_chk2 (fun s => .obs (K.L_chk2 s) .ret))
theorem tKB5 : TabOk P BKB5 := TabOk.addLoop (d := 30) okP tKB4 (by kernel_rfl) (by kernel_rfl) (fun s r h => obs_ret h)
def D_chk2 := DecL.cons xHydros (.last (dFn 91 (.last (dP 5 lGlass 0) 0)) 0)
theorem fn_chk2 : ∀ a, (callT1 P BKB5 30 116 D_chk2 (dI .i64)) a = T.run (
  .obs (L_chk2 (Prod.fst a, Prod.snd a, (↑(clampL (XS.len (Prod.fst a))) : Int), (0 : Int))) fun x0 =>
    .sum (x0) (fun x1 =>
      .ret (x1)) (fun x1 =>
      .ret ((-1 : Int)))) := fun a => by kernel_rfl
theorem ix_chk2 (a : XS × Glass) : callT1 P BKB5 30 116 D_chk2 (dI .i64) a = some (idx (K.p_chk2 a.2 a.1) (K.len a.1)) := by
  rw [fn_chk2]
  show T.run (.obs (K.L_chk2 (a.1, a.2, (K.len a.1 : Int), 0)) _) = _
  rw [K.L_chk2_eq]; unfold idx
  cases first (K.p_chk2 a.2 a.1) (K.len a.1) <;> rfl
noncomputable def BKB6 : Tab := BKB5.addCall 116 (callE D_chk2 (dI .i64) (fun a => .ret (idx (K.p_chk2 a.2 a.1) (K.len a.1))))
theorem tKB6 : TabOk P BKB6 := TabOk.addFn (d := 30) okP tKB5 (fun a r h => by rw [ix_chk2]; exact congrArg some (ret_some h))

def S_chk3 := DecS.mk1 (.cons xGlasses (.cons (dFn 93 (.last (dP 5 lGlass 0) 0)) (.skips 5 (.cons (dI .i64) (.last (dI .i64) 10)))))
def X_chk3 := DecX.or (DecX.one .ret [4] (DecS.mk1 (.skips 4 (.last (dI .i64) 14)))) (DecX.one (.exit 0) [] (DecS.mk1 (.tops 19)))
def K.p_chk3 (c : Glass) (x : XS) (i : Nat) : Bool := x.g i 0 == c.id
theorem sl_chk3 : ∀ s, (loopT1 P BKB6 30 117 17 [8, 0, 1, 7] S_chk3 X_chk3) s = T.run (
  .br (decide (Prod.snd (Prod.snd (Prod.snd s)) < Prod.fst (Prod.snd (Prod.snd s)))) (
    .chk (decide ((0 : Int) ≤ Prod.snd (Prod.snd (Prod.snd s)) ∧ Prod.snd (Prod.snd (Prod.snd s)) < (↑(XS.len (Prod.fst s)) : Int))) <|
    .br (numOf (XS.f (Prod.fst s) (XS.row (Prod.fst s) + Int.toNat (Prod.snd (Prod.snd (Prod.snd s)))) (0 : Nat)) == Glass.id (Prod.fst (Prod.snd s))) (
      .ret (Sum.inr (Sum.inl (Prod.snd (Prod.snd (Prod.snd s)))))) (
      .ret (Sum.inl (Prod.fst s, Prod.fst (Prod.snd s), Prod.fst (Prod.snd (Prod.snd s)), IntKind.wrap IntKind.i64 (Prod.snd (Prod.snd (Prod.snd s)) + (1 : Int)))))) (
    .ret (Sum.inr (Sum.inr PUnit.unit)))) := fun s => by kernel_rfl
noncomputable def K.L_chk3 := lim (loopT1 P BKB6 30 117 17 [8, 0, 1, 7] S_chk3 X_chk3)
theorem K.L_chk3_eq (x : XS) (c : Glass) : K.L_chk3 (x, c, (K.len x : Int), 0) = some (match first (K.p_chk3 c x) (K.len x) with | some i => (Sum.inl (i : Int) : Int ⊕ Unit) | none => .inr ()) := by
  have e1 := K.len_le x; have e2 := K.len_le' x
  refine lim_find (fun i => (x, c, (K.len x : Int), (i : Int))) (K.len x) (K.p_chk3 c x) (fun i => (Sum.inl (i : Int) : Int ⊕ Unit)) (Sum.inr ()) (fun i hi hp => ?_) (fun i hi hp => ?_) ?_
  · rw [sl_chk3]; unfold K.p_chk3 at hp
    simp only [T.run_br, T.run_chk, T.run_ret, decide_eq_true_eq, Int.toNat_natCast]
    rw [if_pos (by omega), if_pos (by omega)]
    simp only [XS.g] at hp; rw [if_pos hp]
  · rw [sl_chk3]; unfold K.p_chk3 at hp
    simp only [T.run_br, T.run_chk, T.run_ret, decide_eq_true_eq, Int.toNat_natCast]
    rw [if_pos (by omega), if_pos (by omega)]
    simp only [XS.g] at hp; rw [if_neg (by simp [hp])]
    rw [w64_in (by omega) (by omega)]; simp
  · rw [sl_chk3]
    simp only [T.run_br, T.run_chk, T.run_ret, decide_eq_true_eq]
    rw [if_neg (by omega)]
noncomputable def BKB7 : Tab := BKB6.addNode 117 17 (nodeE [8, 0, 1, 7] S_chk3 X_chk3 (fun s => .obs (K.L_chk3 s) .ret))
theorem tKB7 : TabOk P BKB7 := TabOk.addLoop (d := 30) okP tKB6 (by kernel_rfl) (by kernel_rfl) (fun s r h => obs_ret h)
def D_chk3 := DecL.cons xGlasses (.last (dFn 93 (.last (dP 5 lGlass 0) 0)) 0)
theorem fn_chk3 : ∀ a, (callT1 P BKB7 30 117 D_chk3 (dI .i64)) a = T.run (
  .obs (L_chk3 (Prod.fst a, Prod.snd a, (↑(clampL (XS.len (Prod.fst a))) : Int), (0 : Int))) fun x0 =>
    .sum (x0) (fun x1 =>
      .ret (x1)) (fun x1 =>
      .ret ((-1 : Int)))) := fun a => by kernel_rfl
theorem ix_chk3 (a : XS × Glass) : callT1 P BKB7 30 117 D_chk3 (dI .i64) a = some (idx (K.p_chk3 a.2 a.1) (K.len a.1)) := by
  rw [fn_chk3]
  show T.run (.obs (K.L_chk3 (a.1, a.2, (K.len a.1 : Int), 0)) _) = _
  rw [K.L_chk3_eq]; unfold idx
  cases first (K.p_chk3 a.2 a.1) (K.len a.1) <;> rfl
noncomputable def BKB8 : Tab := BKB7.addCall 117 (callE D_chk3 (dI .i64) (fun a => .ret (idx (K.p_chk3 a.2 a.1) (K.len a.1))))
theorem tKB8 : TabOk P BKB8 := TabOk.addFn (d := 30) okP tKB7 (fun a r h => by rw [ix_chk3]; exact congrArg some (ret_some h))

def S_lst1 := DecS.mk1 (.cons xSurveys (.cons (dFn 78 (.last (dP 18 lSurvey 0) 0)) (.skips 5 (.cons (dI .i64) (.last (dI .i64) 10)))))
def X_lst1 := DecX.or (DecX.one .ret [4] (DecS.mk1 (.skips 4 (.last (dI .i64) 14)))) (DecX.one (.exit 0) [] (DecS.mk1 (.tops 19)))
def K.p_lst1 (c : Survey) (x : XS) (i : Nat) : Bool := x.g i 0 == c.id
theorem sl_lst1 : ∀ s, (loopT1 P BKB8 30 108 17 [8, 0, 1, 7] S_lst1 X_lst1) s = T.run (
  .br (decide (Prod.snd (Prod.snd (Prod.snd s)) < Prod.fst (Prod.snd (Prod.snd s)))) (
    .chk (decide ((0 : Int) ≤ Prod.snd (Prod.snd (Prod.snd s)) ∧ Prod.snd (Prod.snd (Prod.snd s)) < (↑(XS.len (Prod.fst s)) : Int))) <|
    .br (numOf (XS.f (Prod.fst s) (XS.row (Prod.fst s) + Int.toNat (Prod.snd (Prod.snd (Prod.snd s)))) (0 : Nat)) == Survey.id (Prod.fst (Prod.snd s))) (
      .ret (Sum.inr (Sum.inl (Prod.snd (Prod.snd (Prod.snd s)))))) (
      .ret (Sum.inl (Prod.fst s, Prod.fst (Prod.snd s), Prod.fst (Prod.snd (Prod.snd s)), IntKind.wrap IntKind.i64 (Prod.snd (Prod.snd (Prod.snd s)) + (1 : Int)))))) (
    .ret (Sum.inr (Sum.inr PUnit.unit)))) := fun s => by kernel_rfl
noncomputable def K.L_lst1 := lim (loopT1 P BKB8 30 108 17 [8, 0, 1, 7] S_lst1 X_lst1)
theorem K.L_lst1_eq (x : XS) (c : Survey) : K.L_lst1 (x, c, (K.len x : Int), 0) = some (match first (K.p_lst1 c x) (K.len x) with | some i => (Sum.inl (i : Int) : Int ⊕ Unit) | none => .inr ()) := by
  have e1 := K.len_le x; have e2 := K.len_le' x
  refine lim_find (fun i => (x, c, (K.len x : Int), (i : Int))) (K.len x) (K.p_lst1 c x) (fun i => (Sum.inl (i : Int) : Int ⊕ Unit)) (Sum.inr ()) (fun i hi hp => ?_) (fun i hi hp => ?_) ?_
  · rw [sl_lst1]; unfold K.p_lst1 at hp
    simp only [T.run_br, T.run_chk, T.run_ret, decide_eq_true_eq, Int.toNat_natCast]
    rw [if_pos (by omega), if_pos (by omega)]
    simp only [XS.g] at hp; rw [if_pos hp]
  · rw [sl_lst1]; unfold K.p_lst1 at hp
    simp only [T.run_br, T.run_chk, T.run_ret, decide_eq_true_eq, Int.toNat_natCast]
    rw [if_pos (by omega), if_pos (by omega)]
    simp only [XS.g] at hp; rw [if_neg (by simp [hp])]
    rw [w64_in (by omega) (by omega)]; simp
  · rw [sl_lst1]
    simp only [T.run_br, T.run_chk, T.run_ret, decide_eq_true_eq]
    rw [if_neg (by omega)]
noncomputable def BKB9 : Tab := BKB8.addNode 108 17 (nodeE [8, 0, 1, 7] S_lst1 X_lst1 (fun s => .obs (K.L_lst1 s) .ret))
theorem tKB9 : TabOk P BKB9 := TabOk.addLoop (d := 30) okP tKB8 (by kernel_rfl) (by kernel_rfl) (fun s r h => obs_ret h)
def D_lst1 := DecL.cons xSurveys (.last (dFn 78 (.last (dP 18 lSurvey 0) 0)) 0)
theorem fn_lst1 : ∀ a, (callT1 P BKB9 30 108 D_lst1 (dI .i64)) a = T.run (
  .obs (L_lst1 (Prod.fst a, Prod.snd a, (↑(clampL (XS.len (Prod.fst a))) : Int), (0 : Int))) fun x0 =>
    .sum (x0) (fun x1 =>
      .ret (x1)) (fun x1 =>
      .ret ((-1 : Int)))) := fun a => by kernel_rfl
theorem ix_lst1 (a : XS × Survey) : callT1 P BKB9 30 108 D_lst1 (dI .i64) a = some (idx (K.p_lst1 a.2 a.1) (K.len a.1)) := by
  rw [fn_lst1]
  show T.run (.obs (K.L_lst1 (a.1, a.2, (K.len a.1 : Int), 0)) _) = _
  rw [K.L_lst1_eq]; unfold idx
  cases first (K.p_lst1 a.2 a.1) (K.len a.1) <;> rfl
noncomputable def BKB10 : Tab := BKB9.addCall 108 (callE D_lst1 (dI .i64) (fun a => .ret (idx (K.p_lst1 a.2 a.1) (K.len a.1))))
theorem tKB10 : TabOk P BKB10 := TabOk.addFn (d := 30) okP tKB9 (fun a r h => by rw [ix_lst1]; exact congrArg some (ret_some h))

def S_hul1 := DecS.mk1 (.cons xHolds (.cons (dFn 82 (.last (dP 4 lHold 0) 0)) (.skips 5 (.cons (dI .i64) (.last (dI .i64) 10)))))
def X_hul1 := DecX.or (DecX.one .ret [4] (DecS.mk1 (.skips 4 (.last (dI .i64) 14)))) (DecX.one (.exit 0) [] (DecS.mk1 (.tops 19)))
def K.p_hul1 (c : Hold) (x : XS) (i : Nat) : Bool := x.g i 0 == c.id
theorem sl_hul1 : ∀ s, (loopT1 P BKB10 30 110 17 [8, 0, 1, 7] S_hul1 X_hul1) s = T.run (
  .br (decide (Prod.snd (Prod.snd (Prod.snd s)) < Prod.fst (Prod.snd (Prod.snd s)))) (
    .chk (decide ((0 : Int) ≤ Prod.snd (Prod.snd (Prod.snd s)) ∧ Prod.snd (Prod.snd (Prod.snd s)) < (↑(XS.len (Prod.fst s)) : Int))) <|
    .br (numOf (XS.f (Prod.fst s) (XS.row (Prod.fst s) + Int.toNat (Prod.snd (Prod.snd (Prod.snd s)))) (0 : Nat)) == Hold.id (Prod.fst (Prod.snd s))) (
      .ret (Sum.inr (Sum.inl (Prod.snd (Prod.snd (Prod.snd s)))))) (
      .ret (Sum.inl (Prod.fst s, Prod.fst (Prod.snd s), Prod.fst (Prod.snd (Prod.snd s)), IntKind.wrap IntKind.i64 (Prod.snd (Prod.snd (Prod.snd s)) + (1 : Int)))))) (
    .ret (Sum.inr (Sum.inr PUnit.unit)))) := fun s => by kernel_rfl
noncomputable def K.L_hul1 := lim (loopT1 P BKB10 30 110 17 [8, 0, 1, 7] S_hul1 X_hul1)
theorem K.L_hul1_eq (x : XS) (c : Hold) : K.L_hul1 (x, c, (K.len x : Int), 0) = some (match first (K.p_hul1 c x) (K.len x) with | some i => (Sum.inl (i : Int) : Int ⊕ Unit) | none => .inr ()) := by
  have e1 := K.len_le x; have e2 := K.len_le' x
  refine lim_find (fun i => (x, c, (K.len x : Int), (i : Int))) (K.len x) (K.p_hul1 c x) (fun i => (Sum.inl (i : Int) : Int ⊕ Unit)) (Sum.inr ()) (fun i hi hp => ?_) (fun i hi hp => ?_) ?_
  · rw [sl_hul1]; unfold K.p_hul1 at hp
    simp only [T.run_br, T.run_chk, T.run_ret, decide_eq_true_eq, Int.toNat_natCast]
    rw [if_pos (by omega), if_pos (by omega)]
    simp only [XS.g] at hp; rw [if_pos hp]
  · rw [sl_hul1]; unfold K.p_hul1 at hp
    simp only [T.run_br, T.run_chk, T.run_ret, decide_eq_true_eq, Int.toNat_natCast]
    rw [if_pos (by omega), if_pos (by omega)]
    simp only [XS.g] at hp; rw [if_neg (by simp [hp])]
    rw [w64_in (by omega) (by omega)]; simp
  · rw [sl_hul1]
    simp only [T.run_br, T.run_chk, T.run_ret, decide_eq_true_eq]
    rw [if_neg (by omega)]
noncomputable def BKB11 : Tab := BKB10.addNode 110 17 (nodeE [8, 0, 1, 7] S_hul1 X_hul1 (fun s => .obs (K.L_hul1 s) .ret))
theorem tKB11 : TabOk P BKB11 := TabOk.addLoop (d := 30) okP tKB10 (by kernel_rfl) (by kernel_rfl) (fun s r h => obs_ret h)
def D_hul1 := DecL.cons xHolds (.last (dFn 82 (.last (dP 4 lHold 0) 0)) 0)
theorem fn_hul1 : ∀ a, (callT1 P BKB11 30 110 D_hul1 (dI .i64)) a = T.run (
  .obs (L_hul1 (Prod.fst a, Prod.snd a, (↑(clampL (XS.len (Prod.fst a))) : Int), (0 : Int))) fun x0 =>
    .sum (x0) (fun x1 =>
      .ret (x1)) (fun x1 =>
      .ret ((-1 : Int)))) := fun a => by kernel_rfl
theorem ix_hul1 (a : XS × Hold) : callT1 P BKB11 30 110 D_hul1 (dI .i64) a = some (idx (K.p_hul1 a.2 a.1) (K.len a.1)) := by
  rw [fn_hul1]
  show T.run (.obs (K.L_hul1 (a.1, a.2, (K.len a.1 : Int), 0)) _) = _
  rw [K.L_hul1_eq]; unfold idx
  cases first (K.p_hul1 a.2 a.1) (K.len a.1) <;> rfl
noncomputable def BKB12 : Tab := BKB11.addCall 110 (callE D_hul1 (dI .i64) (fun a => .ret (idx (K.p_hul1 a.2 a.1) (K.len a.1))))
theorem tKB12 : TabOk P BKB12 := TabOk.addFn (d := 30) okP tKB11 (fun a r h => by rw [ix_hul1]; exact congrArg some (ret_some h))

def S_tab1 := DecS.mk1 (.cons xKnots (.cons (dFn 115 (.tops 0)) (.skips 5 (.cons (dI .i64) (.last (dI .i64) 10)))))
def X_tab1 := DecX.or (DecX.one .ret [4] (DecS.mk1 (.skips 4 (.last (dI .i64) 14)))) (DecX.one (.exit 0) [] (DecS.mk1 (.tops 19)))
def K.p_tab1 (c : Unit) (x : XS) (i : Nat) : Bool := decide (x.g i 1 < 0)
theorem sl_tab1 : ∀ s, (loopT1 P BKB12 30 126 17 [8, 0, 1, 7] S_tab1 X_tab1) s = T.run (
  .br (decide (Prod.snd (Prod.snd (Prod.snd s)) < Prod.fst (Prod.snd (Prod.snd s)))) (
    .chk (decide ((0 : Int) ≤ Prod.snd (Prod.snd (Prod.snd s)) ∧ Prod.snd (Prod.snd (Prod.snd s)) < (↑(XS.len (Prod.fst s)) : Int))) <|
    .br (decide (numOf (XS.f (Prod.fst s) (XS.row (Prod.fst s) + Int.toNat (Prod.snd (Prod.snd (Prod.snd s)))) (nat_lit 1)) < (0 : Int))) (
      .ret (Sum.inr (Sum.inl (Prod.snd (Prod.snd (Prod.snd s)))))) (
      .ret (Sum.inl (Prod.fst s, PUnit.unit, Prod.fst (Prod.snd (Prod.snd s)), IntKind.wrap IntKind.i64 (Prod.snd (Prod.snd (Prod.snd s)) + (1 : Int)))))) (
    .ret (Sum.inr (Sum.inr PUnit.unit)))) := fun s => by kernel_rfl
noncomputable def K.L_tab1 := lim (loopT1 P BKB12 30 126 17 [8, 0, 1, 7] S_tab1 X_tab1)
theorem K.L_tab1_eq (x : XS) (c : Unit) : K.L_tab1 (x, c, (K.len x : Int), 0) = some (match first (K.p_tab1 c x) (K.len x) with | some i => (Sum.inl (i : Int) : Int ⊕ Unit) | none => .inr ()) := by
  have e1 := K.len_le x; have e2 := K.len_le' x
  refine lim_find (fun i => (x, c, (K.len x : Int), (i : Int))) (K.len x) (K.p_tab1 c x) (fun i => (Sum.inl (i : Int) : Int ⊕ Unit)) (Sum.inr ()) (fun i hi hp => ?_) (fun i hi hp => ?_) ?_
  · rw [sl_tab1]; unfold K.p_tab1 at hp
    simp only [T.run_br, T.run_chk, T.run_ret, decide_eq_true_eq, Int.toNat_natCast]
    rw [if_pos (by omega), if_pos (by omega)]
    rw [if_pos (show numOf (x.f (x.row + i) 1) < 0 from of_decide_eq_true hp)]
  · rw [sl_tab1]; unfold K.p_tab1 at hp
    simp only [T.run_br, T.run_chk, T.run_ret, decide_eq_true_eq, Int.toNat_natCast]
    rw [if_pos (by omega), if_pos (by omega)]
    rw [if_neg (show ¬ numOf (x.f (x.row + i) 1) < 0 from of_decide_eq_false hp)]
    rw [w64_in (by omega) (by omega)]; simp
  · rw [sl_tab1]
    simp only [T.run_br, T.run_chk, T.run_ret, decide_eq_true_eq]
    rw [if_neg (by omega)]
noncomputable def BKB13 : Tab := BKB12.addNode 126 17 (nodeE [8, 0, 1, 7] S_tab1 X_tab1 (fun s => .obs (K.L_tab1 s) .ret))
theorem tKB13 : TabOk P BKB13 := TabOk.addLoop (d := 30) okP tKB12 (by kernel_rfl) (by kernel_rfl) (fun s r h => obs_ret h)
def D_tab1 := DecL.cons xKnots (.last (dFn 115 (.tops 0)) 0)
theorem fn_tab1 : ∀ a, (callT1 P BKB13 30 126 D_tab1 (dI .i64)) a = T.run (
  .obs (L_tab1 (Prod.fst a, PUnit.unit, (↑(clampL (XS.len (Prod.fst a))) : Int), (0 : Int))) fun x0 =>
    .sum (x0) (fun x1 =>
      .ret (x1)) (fun x1 =>
      .ret ((-1 : Int)))) := fun a => by kernel_rfl
theorem ix_tab1 (a : XS × Unit) : callT1 P BKB13 30 126 D_tab1 (dI .i64) a = some (idx (K.p_tab1 a.2 a.1) (K.len a.1)) := by
  rw [fn_tab1]
  show T.run (.obs (K.L_tab1 (a.1, a.2, (K.len a.1 : Int), 0)) _) = _
  rw [K.L_tab1_eq]; unfold idx
  cases first (K.p_tab1 a.2 a.1) (K.len a.1) <;> rfl
noncomputable def BKB14 : Tab := BKB13.addCall 126 (callE D_tab1 (dI .i64) (fun a => .ret (idx (K.p_tab1 a.2 a.1) (K.len a.1))))
theorem tKB14 : TabOk P BKB14 := TabOk.addFn (d := 30) okP tKB13 (fun a r h => by rw [ix_tab1]; exact congrArg some (ret_some h))

def R_find_hyd1 := dTup (.cons dHydro (.last (dI .i64) 0))
theorem fd_hyd1 : ∀ a, (callT1 P BKB14 30 89 D_hyd1 R_find_hyd1) a = T.run (
  .br (decide (idx (p_hyd1 (Prod.snd a) (Prod.fst a)) (len (Prod.fst a)) < (0 : Int))) (
    .ret ((Hydro.mk (0 : Int) (Span.mk (0 : Int) (0 : Int)), (-1 : Int)))) (
    .chk (decide ((0 : Int) ≤ idx (p_hyd1 (Prod.snd a) (Prod.fst a)) (len (Prod.fst a)) ∧ idx (p_hyd1 (Prod.snd a) (Prod.fst a)) (len (Prod.fst a)) < (↑(XS.len (Prod.fst a)) : Int))) <|
    .ret ((Hydro.mk (numOf (XS.f (Prod.fst a) (XS.row (Prod.fst a) + Int.toNat (idx (p_hyd1 (Prod.snd a) (Prod.fst a)) (len (Prod.fst a)))) (0 : Nat))) (Span.mk (numOf (XS.f (Prod.fst a) (XS.row (Prod.fst a) + Int.toNat (idx (p_hyd1 (Prod.snd a) (Prod.fst a)) (len (Prod.fst a)))) (nat_lit 1))) (numOf (XS.f (Prod.fst a) (XS.row (Prod.fst a) + Int.toNat (idx (p_hyd1 (Prod.snd a) (Prod.fst a)) (len (Prod.fst a)))) (nat_lit 2)))), idx (p_hyd1 (Prod.snd a) (Prod.fst a)) (len (Prod.fst a)))))) := fun a => by kernel_rfl
def K.find_hyd1 (c : Int) (x : XS) : Hydro × Int := found (hyd x) ⟨0, ⟨0, 0⟩⟩ (K.p_hyd1 c x) (K.len x)
theorem K.find_hyd1_eq (a : XS × Int) : callT1 P BKB14 30 89 D_hyd1 R_find_hyd1 a = some (K.find_hyd1 a.2 a.1) := by
  rw [fd_hyd1]; unfold K.find_hyd1 found idx
  cases h : first (K.p_hyd1 a.2 a.1) (K.len a.1) with
  | none => rfl
  | some i =>
    have h1 := (first_spec h).1; have h2 := K.len_le' a.1
    simp only [T.run_br, T.run_chk, T.run_ret, decide_eq_true_eq]
    rw [if_neg (by omega), if_pos (by omega)]; rfl
noncomputable def BKB15 : Tab := BKB14.addCall 89 (callE D_hyd1 R_find_hyd1 (fun a => .ret (K.find_hyd1 a.2 a.1)))
theorem tKB15 : TabOk P BKB15 := TabOk.addFn (d := 30) okP tKB14 (fun a r h => by rw [K.find_hyd1_eq]; exact congrArg some (ret_some h))

def R_find_chk1 := dTup (.cons dHydro (.last (dI .i64) 0))
theorem fd_chk1 : ∀ a, (callT1 P BKB15 30 89 D_chk1 R_find_chk1) a = T.run (
  .br (decide (idx (p_chk1 (Prod.snd a) (Prod.fst a)) (len (Prod.fst a)) < (0 : Int))) (
    .ret ((Hydro.mk (0 : Int) (Span.mk (0 : Int) (0 : Int)), (-1 : Int)))) (
    .chk (decide ((0 : Int) ≤ idx (p_chk1 (Prod.snd a) (Prod.fst a)) (len (Prod.fst a)) ∧ idx (p_chk1 (Prod.snd a) (Prod.fst a)) (len (Prod.fst a)) < (↑(XS.len (Prod.fst a)) : Int))) <|
    .ret ((Hydro.mk (numOf (XS.f (Prod.fst a) (XS.row (Prod.fst a) + Int.toNat (idx (p_chk1 (Prod.snd a) (Prod.fst a)) (len (Prod.fst a)))) (0 : Nat))) (Span.mk (numOf (XS.f (Prod.fst a) (XS.row (Prod.fst a) + Int.toNat (idx (p_chk1 (Prod.snd a) (Prod.fst a)) (len (Prod.fst a)))) (nat_lit 1))) (numOf (XS.f (Prod.fst a) (XS.row (Prod.fst a) + Int.toNat (idx (p_chk1 (Prod.snd a) (Prod.fst a)) (len (Prod.fst a)))) (nat_lit 2)))), idx (p_chk1 (Prod.snd a) (Prod.fst a)) (len (Prod.fst a)))))) := fun a => by kernel_rfl
def K.find_chk1 (c : Hydro) (x : XS) : Hydro × Int := found (hyd x) ⟨0, ⟨0, 0⟩⟩ (K.p_chk1 c x) (K.len x)
theorem K.find_chk1_eq (a : XS × Hydro) : callT1 P BKB15 30 89 D_chk1 R_find_chk1 a = some (K.find_chk1 a.2 a.1) := by
  rw [fd_chk1]; unfold K.find_chk1 found idx
  cases h : first (K.p_chk1 a.2 a.1) (K.len a.1) with
  | none => rfl
  | some i =>
    have h1 := (first_spec h).1; have h2 := K.len_le' a.1
    simp only [T.run_br, T.run_chk, T.run_ret, decide_eq_true_eq]
    rw [if_neg (by omega), if_pos (by omega)]; rfl
noncomputable def BKB16 : Tab := BKB15.addCall 89 (callE D_chk1 R_find_chk1 (fun a => .ret (K.find_chk1 a.2 a.1)))
theorem tKB16 : TabOk P BKB16 := TabOk.addFn (d := 30) okP tKB15 (fun a r h => by rw [K.find_chk1_eq]; exact congrArg some (ret_some h))

def R_find_chk2 := dTup (.cons dHydro (.last (dI .i64) 0))
theorem fd_chk2 : ∀ a, (callT1 P BKB16 30 89 D_chk2 R_find_chk2) a = T.run (
  .br (decide (idx (p_chk2 (Prod.snd a) (Prod.fst a)) (len (Prod.fst a)) < (0 : Int))) (
    .ret ((Hydro.mk (0 : Int) (Span.mk (0 : Int) (0 : Int)), (-1 : Int)))) (
    .chk (decide ((0 : Int) ≤ idx (p_chk2 (Prod.snd a) (Prod.fst a)) (len (Prod.fst a)) ∧ idx (p_chk2 (Prod.snd a) (Prod.fst a)) (len (Prod.fst a)) < (↑(XS.len (Prod.fst a)) : Int))) <|
    .ret ((Hydro.mk (numOf (XS.f (Prod.fst a) (XS.row (Prod.fst a) + Int.toNat (idx (p_chk2 (Prod.snd a) (Prod.fst a)) (len (Prod.fst a)))) (0 : Nat))) (Span.mk (numOf (XS.f (Prod.fst a) (XS.row (Prod.fst a) + Int.toNat (idx (p_chk2 (Prod.snd a) (Prod.fst a)) (len (Prod.fst a)))) (nat_lit 1))) (numOf (XS.f (Prod.fst a) (XS.row (Prod.fst a) + Int.toNat (idx (p_chk2 (Prod.snd a) (Prod.fst a)) (len (Prod.fst a)))) (nat_lit 2)))), idx (p_chk2 (Prod.snd a) (Prod.fst a)) (len (Prod.fst a)))))) := fun a => by kernel_rfl
def K.find_chk2 (c : Glass) (x : XS) : Hydro × Int := found (hyd x) ⟨0, ⟨0, 0⟩⟩ (K.p_chk2 c x) (K.len x)
theorem K.find_chk2_eq (a : XS × Glass) : callT1 P BKB16 30 89 D_chk2 R_find_chk2 a = some (K.find_chk2 a.2 a.1) := by
  rw [fd_chk2]; unfold K.find_chk2 found idx
  cases h : first (K.p_chk2 a.2 a.1) (K.len a.1) with
  | none => rfl
  | some i =>
    have h1 := (first_spec h).1; have h2 := K.len_le' a.1
    simp only [T.run_br, T.run_chk, T.run_ret, decide_eq_true_eq]
    rw [if_neg (by omega), if_pos (by omega)]; rfl
noncomputable def BKB17 : Tab := BKB16.addCall 89 (callE D_chk2 R_find_chk2 (fun a => .ret (K.find_chk2 a.2 a.1)))
theorem tKB17 : TabOk P BKB17 := TabOk.addFn (d := 30) okP tKB16 (fun a r h => by rw [K.find_chk2_eq]; exact congrArg some (ret_some h))

def R_find_chk3 := dTup (.cons dGlass (.last (dI .i64) 0))
theorem fd_chk3 : ∀ a, (callT1 P BKB17 30 92 D_chk3 R_find_chk3) a = T.run (
  .br (decide (idx (p_chk3 (Prod.snd a) (Prod.fst a)) (len (Prod.fst a)) < (0 : Int))) (
    .ret ((Glass.mk (0 : Int) (0 : Int) (0 : Int) (Span.mk (0 : Int) (0 : Int)), (-1 : Int)))) (
    .chk (decide ((0 : Int) ≤ idx (p_chk3 (Prod.snd a) (Prod.fst a)) (len (Prod.fst a)) ∧ idx (p_chk3 (Prod.snd a) (Prod.fst a)) (len (Prod.fst a)) < (↑(XS.len (Prod.fst a)) : Int))) <|
    .ret ((Glass.mk (numOf (XS.f (Prod.fst a) (XS.row (Prod.fst a) + Int.toNat (idx (p_chk3 (Prod.snd a) (Prod.fst a)) (len (Prod.fst a)))) (0 : Nat))) (numOf (XS.f (Prod.fst a) (XS.row (Prod.fst a) + Int.toNat (idx (p_chk3 (Prod.snd a) (Prod.fst a)) (len (Prod.fst a)))) (nat_lit 1))) (numOf (XS.f (Prod.fst a) (XS.row (Prod.fst a) + Int.toNat (idx (p_chk3 (Prod.snd a) (Prod.fst a)) (len (Prod.fst a)))) (nat_lit 2))) (Span.mk (numOf (XS.f (Prod.fst a) (XS.row (Prod.fst a) + Int.toNat (idx (p_chk3 (Prod.snd a) (Prod.fst a)) (len (Prod.fst a)))) (nat_lit 3))) (numOf (XS.f (Prod.fst a) (XS.row (Prod.fst a) + Int.toNat (idx (p_chk3 (Prod.snd a) (Prod.fst a)) (len (Prod.fst a)))) (nat_lit 4)))), idx (p_chk3 (Prod.snd a) (Prod.fst a)) (len (Prod.fst a)))))) := fun a => by kernel_rfl
def K.find_chk3 (c : Glass) (x : XS) : Glass × Int := found (gls x) ⟨0, 0, 0, ⟨0, 0⟩⟩ (K.p_chk3 c x) (K.len x)
theorem K.find_chk3_eq (a : XS × Glass) : callT1 P BKB17 30 92 D_chk3 R_find_chk3 a = some (K.find_chk3 a.2 a.1) := by
  rw [fd_chk3]; unfold K.find_chk3 found idx
  cases h : first (K.p_chk3 a.2 a.1) (K.len a.1) with
  | none => rfl
  | some i =>
    have h1 := (first_spec h).1; have h2 := K.len_le' a.1
    simp only [T.run_br, T.run_chk, T.run_ret, decide_eq_true_eq]
    rw [if_neg (by omega), if_pos (by omega)]; rfl
noncomputable def BKB18 : Tab := BKB17.addCall 92 (callE D_chk3 R_find_chk3 (fun a => .ret (K.find_chk3 a.2 a.1)))
theorem tKB18 : TabOk P BKB18 := TabOk.addFn (d := 30) okP tKB17 (fun a r h => by rw [K.find_chk3_eq]; exact congrArg some (ret_some h))

def R_find_lst1 := dTup (.cons dSurvey (.last (dI .i64) 0))
theorem fd_lst1 : ∀ a, (callT1 P BKB18 30 77 D_lst1 R_find_lst1) a = T.run (
  .br (decide (idx (p_lst1 (Prod.snd a) (Prod.fst a)) (len (Prod.fst a)) < (0 : Int))) (
    .ret ((Survey.mk (0 : Int) (0 : Int) (Span.mk (0 : Int) (0 : Int)) (Span.mk (0 : Int) (0 : Int)) (Span.mk (0 : Int) (0 : Int)) (Span.mk (0 : Int) (0 : Int)) (Span.mk (0 : Int) (0 : Int)) (Span.mk (0 : Int) (0 : Int)) (0 : Int) (0 : Int) (Span.mk (0 : Int) (0 : Int)), (-1 : Int)))) (
    .chk (decide ((0 : Int) ≤ idx (p_lst1 (Prod.snd a) (Prod.fst a)) (len (Prod.fst a)) ∧ idx (p_lst1 (Prod.snd a) (Prod.fst a)) (len (Prod.fst a)) < (↑(XS.len (Prod.fst a)) : Int))) <|
    .ret ((Survey.mk (numOf (XS.f (Prod.fst a) (XS.row (Prod.fst a) + Int.toNat (idx (p_lst1 (Prod.snd a) (Prod.fst a)) (len (Prod.fst a)))) (0 : Nat))) (numOf (XS.f (Prod.fst a) (XS.row (Prod.fst a) + Int.toNat (idx (p_lst1 (Prod.snd a) (Prod.fst a)) (len (Prod.fst a)))) (nat_lit 1))) (Span.mk (numOf (XS.f (Prod.fst a) (XS.row (Prod.fst a) + Int.toNat (idx (p_lst1 (Prod.snd a) (Prod.fst a)) (len (Prod.fst a)))) (nat_lit 2))) (numOf (XS.f (Prod.fst a) (XS.row (Prod.fst a) + Int.toNat (idx (p_lst1 (Prod.snd a) (Prod.fst a)) (len (Prod.fst a)))) (nat_lit 3)))) (Span.mk (numOf (XS.f (Prod.fst a) (XS.row (Prod.fst a) + Int.toNat (idx (p_lst1 (Prod.snd a) (Prod.fst a)) (len (Prod.fst a)))) (nat_lit 4))) (numOf (XS.f (Prod.fst a) (XS.row (Prod.fst a) + Int.toNat (idx (p_lst1 (Prod.snd a) (Prod.fst a)) (len (Prod.fst a)))) (nat_lit 5)))) (Span.mk (numOf (XS.f (Prod.fst a) (XS.row (Prod.fst a) + Int.toNat (idx (p_lst1 (Prod.snd a) (Prod.fst a)) (len (Prod.fst a)))) (nat_lit 6))) (numOf (XS.f (Prod.fst a) (XS.row (Prod.fst a) + Int.toNat (idx (p_lst1 (Prod.snd a) (Prod.fst a)) (len (Prod.fst a)))) (nat_lit 7)))) (Span.mk (numOf (XS.f (Prod.fst a) (XS.row (Prod.fst a) + Int.toNat (idx (p_lst1 (Prod.snd a) (Prod.fst a)) (len (Prod.fst a)))) (nat_lit 8))) (numOf (XS.f (Prod.fst a) (XS.row (Prod.fst a) + Int.toNat (idx (p_lst1 (Prod.snd a) (Prod.fst a)) (len (Prod.fst a)))) (nat_lit 9)))) (Span.mk (numOf (XS.f (Prod.fst a) (XS.row (Prod.fst a) + Int.toNat (idx (p_lst1 (Prod.snd a) (Prod.fst a)) (len (Prod.fst a)))) (nat_lit 10))) (numOf (XS.f (Prod.fst a) (XS.row (Prod.fst a) + Int.toNat (idx (p_lst1 (Prod.snd a) (Prod.fst a)) (len (Prod.fst a)))) (nat_lit 11)))) (Span.mk (numOf (XS.f (Prod.fst a) (XS.row (Prod.fst a) + Int.toNat (idx (p_lst1 (Prod.snd a) (Prod.fst a)) (len (Prod.fst a)))) (nat_lit 12))) (numOf (XS.f (Prod.fst a) (XS.row (Prod.fst a) + Int.toNat (idx (p_lst1 (Prod.snd a) (Prod.fst a)) (len (Prod.fst a)))) (nat_lit 13)))) (numOf (XS.f (Prod.fst a) (XS.row (Prod.fst a) + Int.toNat (idx (p_lst1 (Prod.snd a) (Prod.fst a)) (len (Prod.fst a)))) (nat_lit 14))) (numOf (XS.f (Prod.fst a) (XS.row (Prod.fst a) + Int.toNat (idx (p_lst1 (Prod.snd a) (Prod.fst a)) (len (Prod.fst a)))) (nat_lit 15))) (Span.mk (numOf (XS.f (Prod.fst a) (XS.row (Prod.fst a) + Int.toNat (idx (p_lst1 (Prod.snd a) (Prod.fst a)) (len (Prod.fst a)))) (nat_lit 16))) (numOf (XS.f (Prod.fst a) (XS.row (Prod.fst a) + Int.toNat (idx (p_lst1 (Prod.snd a) (Prod.fst a)) (len (Prod.fst a)))) (nat_lit 17)))), idx (p_lst1 (Prod.snd a) (Prod.fst a)) (len (Prod.fst a)))))) := fun a => by kernel_rfl
def K.find_lst1 (c : Survey) (x : XS) : Survey × Int := found (svy x) ⟨0, 0, ⟨0, 0⟩, ⟨0, 0⟩, ⟨0, 0⟩, ⟨0, 0⟩, ⟨0, 0⟩, ⟨0, 0⟩, 0, 0, ⟨0, 0⟩⟩ (K.p_lst1 c x) (K.len x)
theorem K.find_lst1_eq (a : XS × Survey) : callT1 P BKB18 30 77 D_lst1 R_find_lst1 a = some (K.find_lst1 a.2 a.1) := by
  rw [fd_lst1]; unfold K.find_lst1 found idx
  cases h : first (K.p_lst1 a.2 a.1) (K.len a.1) with
  | none => rfl
  | some i =>
    have h1 := (first_spec h).1; have h2 := K.len_le' a.1
    simp only [T.run_br, T.run_chk, T.run_ret, decide_eq_true_eq]
    rw [if_neg (by omega), if_pos (by omega)]; rfl
noncomputable def BKB19 : Tab := BKB18.addCall 77 (callE D_lst1 R_find_lst1 (fun a => .ret (K.find_lst1 a.2 a.1)))
theorem tKB19 : TabOk P BKB19 := TabOk.addFn (d := 30) okP tKB18 (fun a r h => by rw [K.find_lst1_eq]; exact congrArg some (ret_some h))

theorem ct_hul1 : ∀ a, (callT1 P BKB19 30 81 D_hul1 dB) a = T.run (
  .ret (decide (idx (p_hul1 (Prod.snd a) (Prod.fst a)) (len (Prod.fst a)) ≥ (0 : Int)))) := fun a => by kernel_rfl
def K.has_hul1 (c : Hold) (x : XS) : Bool := (first (K.p_hul1 c x) (K.len x)).isSome
theorem K.has_hul1_eq (a : XS × Hold) : callT1 P BKB19 30 81 D_hul1 dB a = some (K.has_hul1 a.2 a.1) := by
  rw [ct_hul1]; unfold K.has_hul1 idx
  cases h : first (K.p_hul1 a.2 a.1) (K.len a.1) with
  | none => rfl
  | some i => simp [T.run_ret]
noncomputable def BKB20 : Tab := BKB19.addCall 81 (callE D_hul1 dB (fun a => .ret (K.has_hul1 a.2 a.1)))
theorem tKB20 : TabOk P BKB20 := TabOk.addFn (d := 30) okP tKB19 (fun a r h => by rw [K.has_hul1_eq]; exact congrArg some (ret_some h))

theorem ct_tab1 : ∀ a, (callT1 P BKB20 30 114 D_tab1 dB) a = T.run (
  .ret (decide (idx (p_tab1 PUnit.unit (Prod.fst a)) (len (Prod.fst a)) ≥ (0 : Int)))) := fun a => by kernel_rfl
def K.has_tab1 (c : Unit) (x : XS) : Bool := (first (K.p_tab1 c x) (K.len x)).isSome
theorem K.has_tab1_eq (a : XS × Unit) : callT1 P BKB20 30 114 D_tab1 dB a = some (K.has_tab1 a.2 a.1) := by
  rw [ct_tab1]; unfold K.has_tab1 idx
  cases h : first (K.p_tab1 a.2 a.1) (K.len a.1) with
  | none => rfl
  | some i => simp [T.run_ret]
noncomputable def BKB21 : Tab := BKB20.addCall 114 (callE D_tab1 dB (fun a => .ret (K.has_tab1 a.2 a.1)))
theorem tKB21 : TabOk P BKB21 := TabOk.addFn (d := 30) okP tKB20 (fun a r h => by rw [K.has_tab1_eq]; exact congrArg some (ret_some h))


end Go.Proofs.Ytkajafmphemedaa
/-! KC -/
namespace Go.Proofs.Ytkajafmphemedaa
open Ev K
set_option maxRecDepth 100000
/-! glasses -/
def S_gls := DecS.yld (.unit dYv (.skip (.cons (dP 1 (.last (dI .i64) 0) 0) (.skips 4 (.cons xGlasses (.cons (dI .i64) (.last (dI .i64) 28))))))) .nil
def X_gls := DecX.or (DecX.one .ret [] (DecS.yld (.tops 38) .nil)) (DecX.one (.exit 0) [] (DecS.yld (.tops 38) .nil))
noncomputable def K.st_gls := loopT1 P BKB21 30 127 9 [9, 0, 2, 7, 8] S_gls X_gls
theorem sl_gls : ∀ s, (K.st_gls) s = T.run (
  .br (decide (Prod.snd (Prod.snd (Prod.snd (Prod.fst s))) < Prod.fst (Prod.snd (Prod.snd (Prod.fst s))))) (
    .chk (decide ((0 : Int) ≤ Prod.snd (Prod.snd (Prod.snd (Prod.fst s))) ∧ Prod.snd (Prod.snd (Prod.snd (Prod.fst s))) < (↑(XS.len (Prod.fst (Prod.snd (Prod.fst s)))) : Int))) <|
    .br (numOf (XS.f (Prod.fst (Prod.snd (Prod.fst s))) (XS.row (Prod.fst (Prod.snd (Prod.fst s))) + Int.toNat (Prod.snd (Prod.snd (Prod.snd (Prod.fst s))))) (nat_lit 1)) == Prod.fst (Prod.fst s)) (
      .br (!Prod.fst (Prod.snd (Prod.snd s)) (List.length (Prod.snd (Prod.snd (Prod.snd s))))) (
        .ret (Sum.inr (Sum.inl (PUnit.unit, PUnit.unit, Prod.fst (Prod.snd (Prod.snd s)), ([AV.agg [AV.int IntKind.i64 (numOf (XS.f (Prod.fst (Prod.snd (Prod.fst s))) (XS.row (Prod.fst (Prod.snd (Prod.fst s))) + Int.toNat (Prod.snd (Prod.snd (Prod.snd (Prod.fst s))))) (0 : Nat))), AV.int IntKind.i64 (numOf (XS.f (Prod.fst (Prod.snd (Prod.fst s))) (XS.row (Prod.fst (Prod.snd (Prod.fst s))) + Int.toNat (Prod.snd (Prod.snd (Prod.snd (Prod.fst s))))) (nat_lit 1))), AV.int IntKind.i64 (numOf (XS.f (Prod.fst (Prod.snd (Prod.fst s))) (XS.row (Prod.fst (Prod.snd (Prod.fst s))) + Int.toNat (Prod.snd (Prod.snd (Prod.snd (Prod.fst s))))) (nat_lit 2))), AV.int IntKind.i64 (numOf (XS.f (Prod.fst (Prod.snd (Prod.fst s))) (XS.row (Prod.fst (Prod.snd (Prod.fst s))) + Int.toNat (Prod.snd (Prod.snd (Prod.snd (Prod.fst s))))) (nat_lit 3))), AV.int IntKind.i64 (numOf (XS.f (Prod.fst (Prod.snd (Prod.fst s))) (XS.row (Prod.fst (Prod.snd (Prod.fst s))) + Int.toNat (Prod.snd (Prod.snd (Prod.snd (Prod.fst s))))) (nat_lit 4))), AV.int IntKind.i64 (IntKind.wrap IntKind.i64 (numOf (XS.f (Prod.fst (Prod.snd (Prod.fst s))) (XS.row (Prod.fst (Prod.snd (Prod.fst s))) + Int.toNat (Prod.snd (Prod.snd (Prod.snd (Prod.fst s))))) (nat_lit 3)) - numOf (XS.f (Prod.fst (Prod.snd (Prod.fst s))) (XS.row (Prod.fst (Prod.snd (Prod.fst s))) + Int.toNat (Prod.snd (Prod.snd (Prod.snd (Prod.fst s))))) (nat_lit 2)))), AV.int IntKind.i64 (IntKind.wrap IntKind.i64 (numOf (XS.f (Prod.fst (Prod.snd (Prod.fst s))) (XS.row (Prod.fst (Prod.snd (Prod.fst s))) + Int.toNat (Prod.snd (Prod.snd (Prod.snd (Prod.fst s))))) (nat_lit 4)) - numOf (XS.f (Prod.fst (Prod.snd (Prod.fst s))) (XS.row (Prod.fst (Prod.snd (Prod.fst s))) + Int.toNat (Prod.snd (Prod.snd (Prod.snd (Prod.fst s))))) (nat_lit 2))))]], Prod.fst (Prod.snd (Prod.snd s)) (List.length (Prod.snd (Prod.snd (Prod.snd s))))) :: Prod.snd (Prod.snd (Prod.snd s)))))) (
        .ret (Sum.inl ((Prod.fst (Prod.fst s), Prod.fst (Prod.snd (Prod.fst s)), Prod.fst (Prod.snd (Prod.snd (Prod.fst s))), IntKind.wrap IntKind.i64 (Prod.snd (Prod.snd (Prod.snd (Prod.fst s))) + (1 : Int))), PUnit.unit, Prod.fst (Prod.snd (Prod.snd s)), ([AV.agg [AV.int IntKind.i64 (numOf (XS.f (Prod.fst (Prod.snd (Prod.fst s))) (XS.row (Prod.fst (Prod.snd (Prod.fst s))) + Int.toNat (Prod.snd (Prod.snd (Prod.snd (Prod.fst s))))) (0 : Nat))), AV.int IntKind.i64 (numOf (XS.f (Prod.fst (Prod.snd (Prod.fst s))) (XS.row (Prod.fst (Prod.snd (Prod.fst s))) + Int.toNat (Prod.snd (Prod.snd (Prod.snd (Prod.fst s))))) (nat_lit 1))), AV.int IntKind.i64 (numOf (XS.f (Prod.fst (Prod.snd (Prod.fst s))) (XS.row (Prod.fst (Prod.snd (Prod.fst s))) + Int.toNat (Prod.snd (Prod.snd (Prod.snd (Prod.fst s))))) (nat_lit 2))), AV.int IntKind.i64 (numOf (XS.f (Prod.fst (Prod.snd (Prod.fst s))) (XS.row (Prod.fst (Prod.snd (Prod.fst s))) + Int.toNat (Prod.snd (Prod.snd (Prod.snd (Prod.fst s))))) (nat_lit 3))), AV.int IntKind.i64 (numOf (XS.f (Prod.fst (Prod.snd (Prod.fst s))) (XS.row (Prod.fst (Prod.snd (Prod.fst s))) + Int.toNat (Prod.snd (Prod.snd (Prod.snd (Prod.fst s))))) (nat_lit 4))), AV.int IntKind.i64 (IntKind.wrap IntKind.i64 (numOf (XS.f (Prod.fst (Prod.snd (Prod.fst s))) (XS.row (Prod.fst (Prod.snd (Prod.fst s))) + Int.toNat (Prod.snd (Prod.snd (Prod.snd (Prod.fst s))))) (nat_lit 3)) - numOf (XS.f (Prod.fst (Prod.snd (Prod.fst s))) (XS.row (Prod.fst (Prod.snd (Prod.fst s))) + Int.toNat (Prod.snd (Prod.snd (Prod.snd (Prod.fst s))))) (nat_lit 2)))), AV.int IntKind.i64 (IntKind.wrap IntKind.i64 (numOf (XS.f (Prod.fst (Prod.snd (Prod.fst s))) (XS.row (Prod.fst (Prod.snd (Prod.fst s))) + Int.toNat (Prod.snd (Prod.snd (Prod.snd (Prod.fst s))))) (nat_lit 4)) - numOf (XS.f (Prod.fst (Prod.snd (Prod.fst s))) (XS.row (Prod.fst (Prod.snd (Prod.fst s))) + Int.toNat (Prod.snd (Prod.snd (Prod.snd (Prod.fst s))))) (nat_lit 2))))]], Prod.fst (Prod.snd (Prod.snd s)) (List.length (Prod.snd (Prod.snd (Prod.snd s))))) :: Prod.snd (Prod.snd (Prod.snd s)))))) (
      .ret (Sum.inl ((Prod.fst (Prod.fst s), Prod.fst (Prod.snd (Prod.fst s)), Prod.fst (Prod.snd (Prod.snd (Prod.fst s))), IntKind.wrap IntKind.i64 (Prod.snd (Prod.snd (Prod.snd (Prod.fst s))) + (1 : Int))), PUnit.unit, Prod.snd (Prod.snd s))))) (
    .ret (Sum.inr (Sum.inr (PUnit.unit, PUnit.unit, Prod.snd (Prod.snd s)))))) := fun s => by kernel_rfl
noncomputable def K.L_gls := lim K.st_gls
noncomputable def BKC1 : Tab := BKB21.addNode 127 9 (nodeE [9, 0, 2, 7, 8] S_gls X_gls (fun s => .obs (K.L_gls s) .ret))
theorem tKC1 : TabOk P BKC1 := TabOk.addLoop (d := 30) okP tKB21 (by kernel_rfl) (by kernel_rfl) (fun s r h => obs_ret h)
noncomputable def I_gls (a : Bulbs × Int) (bs : Nat → Bool) := iterT1 P BKC1 30 127 [] (V_gls.enc a) bs
theorem it_gls : ∀ a bs, (I_gls) a bs = T.run (
  .obs (L_gls ((Prod.snd a, Bulbs.glasses (Prod.fst a), (↑(clampL (XS.len (Bulbs.glasses (Prod.fst a)))) : Int), (0 : Int)), PUnit.unit, bs, [])) fun x0 =>
    .sum (x0) (fun x1 =>
      .ret (List.reverse (Prod.snd (Prod.snd (Prod.snd x1))))) (fun x1 =>
      .ret (List.reverse (Prod.snd (Prod.snd (Prod.snd x1)))))) := fun a bs => by kernel_rfl
section
variable (x : XS) (h : Int) {bs : Nat → Bool}
abbrev K.Sg (x : XS) (h : Int) (bs : Nat → Bool) (i : Nat) (out : List (List AV × Bool)) := ((h, x, (K.len x : Int), (i : Int)), PUnit.unit, bs, out)
abbrev K.pg (x : XS) (h : Int) (i : Nat) : Bool := (gls x i).hydro == h
abbrev K.eg (x : XS) (i : Nat) : List AV := eTold (toldOf (gls x i))
theorem gls_n (i : Nat) (hi : i < K.len x) (out) (hp : pg x h i = false) : st_gls (Sg x h bs i out) = some (.inl (Sg x h bs (i + 1) out)) := by
  have e1 := K.len_le x; have e2 := K.len_le' x
  rw [sl_gls]
  simp only [T.run_br, T.run_chk, T.run_ret, decide_eq_true_eq, Int.toNat_natCast]
  rw [if_pos (by omega), if_pos (by omega)]
  simp only [pg, gls, XS.g] at hp
  rw [if_neg (by simp [hp]), w64_in (by omega) (by omega)]; simp
theorem gls_y (i : Nat) (hi : i < K.len x) (out : List (List AV × Bool)) (hp : pg x h i = true) (hb : bs out.length = true) : st_gls (Sg x h bs i out) = some (.inl (Sg x h bs (i + 1) ((eg x i, true) :: out))) := by
  have e1 := K.len_le x; have e2 := K.len_le' x
  rw [sl_gls]
  simp only [T.run_br, T.run_chk, T.run_ret, decide_eq_true_eq, Int.toNat_natCast, hb]
  rw [if_pos (by omega), if_pos (by omega)]
  simp only [pg, gls, XS.g] at hp
  rw [if_pos hp, if_neg (by simp), w64_in (by omega) (by omega)]; simp; rfl
theorem gls_s (i : Nat) (hi : i < K.len x) (out : List (List AV × Bool)) (hp : pg x h i = true) (hb : bs out.length = false) : st_gls (Sg x h bs i out) = some (.inr (.inl ((), (), bs, (eg x i, false) :: out))) := by
  have e1 := K.len_le x; have e2 := K.len_le' x
  rw [sl_gls]
  simp only [T.run_br, T.run_chk, T.run_ret, decide_eq_true_eq, Int.toNat_natCast, hb]
  rw [if_pos (by omega), if_pos (by omega)]
  simp only [pg, gls, XS.g] at hp
  rw [if_pos hp, if_pos (by simp)]; rfl
theorem gls_e (out) : st_gls (Sg x h bs (K.len x) out) = some (.inr (.inr ((), (), bs, out))) := by
  rw [sl_gls]
  simp only [T.run_br, T.run_chk, T.run_ret, decide_eq_true_eq]
  rw [if_neg (by omega)]
theorem icl_gls (b : Bulbs) : ICL P 127 [] (V_gls.enc (b, h)) ((glassesL b h).map eTold) := by
  refine iter_of okP tKC1  (d := 30) ?_ (fun m y hy => ?_)
  · show I_gls (b, h) _ = _
    rw [it_gls]
    show T.run (.obs (lim st_gls (Sg b.glasses h _ 0 [])) _) = _
    rw [lim_yields_all (Sg b.glasses h _) (pg b.glasses h) (eg b.glasses) (fun o => Sum.inr ((), (), (fun _ => true), o)) (fun i hi out hp => gls_n b.glasses h i hi out hp) (fun i hi out hp hb => gls_y b.glasses h i hi out hp hb) (fun out => gls_e b.glasses h out) (fun _ => rfl) (K.len b.glasses) 0 [] (by omega)]
    simp only [T.run_some, T.run_inr, T.run_ret, List.append_nil, List.reverse_reverse, glassesL, List.map_map, ← List.range_eq_range']
    rfl
  · show I_gls (b, h) _ = _
    rw [it_gls]
    show T.run (.obs (lim st_gls (Sg b.glasses h _ 0 [])) _) = _
    have hy' : (((List.range' 0 (K.len b.glasses)).filter (pg b.glasses h)).map (eg b.glasses))[m - ([] : List (List AV × Bool)).length]? = some y := by
      rw [← List.range_eq_range']; simpa [glassesL, List.map_map, Function.comp_def] using hy
    rw [lim_yields_stop (Sg b.glasses h _) (pg b.glasses h) (eg b.glasses) (fun o => Sum.inl ((), (), (fun k => !(Nat.beq k m)), o)) (fun i hi out hp => gls_n b.glasses h i hi out hp) (fun i hi out hp hb => gls_y b.glasses h i hi out hp hb) (fun i hi out hp hb => gls_s b.glasses h i hi out hp hb) (fun _ => rfl) (K.len b.glasses) 0 [] (by omega) (by simp) hy']
    simp only [T.run_some, T.run_inl, T.run_ret, List.append_nil, List.reverse_cons, List.reverse_reverse, List.length_nil, Nat.sub_zero, ← List.range_eq_range', glassesL, List.map_map]
    rfl
end
/-! errors -/
def D_gl := DecL.cons (dBulbs) (.last (dI .i64) 0)
def R_gl := dFn 127 V_gls
theorem fn_gl : ∀ a, (callT1 P BKC1 30 119 D_gl R_gl) a = T.run (
  .ret ((Prod.fst a, numOf (AV.int IntKind.i64 (Prod.snd a))))) := fun a => by kernel_rfl
noncomputable def BKC2 : Tab := BKC1.addCall 119 (callE D_gl R_gl (fun a => .ret a))
theorem tKC2 : TabOk P BKC2 := TabOk.addFn (d := 30) okP tKC1 (fun a r h => by rw [fn_gl]; exact h)
def S_err := DecS.mk0 (.skips 5 (.unit (dLp 0 0 0 0) (.unit (dLp 1 0 0 0) (.unit (dLp 2 0 0 0) (.skips 6 (.last R_gl 11)))))) (.flat 3 (.last (dI .i64) 0) (.flat 33 lSpan (.flat 33 lSpan .nil)))
noncomputable def K.st_err := rangeT1 P BKC2 30 95 25 [14, 6, 7, 5] S_err DecX.no eTold
theorem rg_err : ∀ s x, (K.st_err) s x = T.run (
  .br (Glass.id (GlassE.g x) != Prod.fst (Prod.snd s)) (
    .ret (Sum.inl (Prod.fst s, Prod.fst (Prod.snd s), Prod.fst (Prod.snd (Prod.snd s)), meet (Prod.fst (Prod.snd (Prod.snd (Prod.snd s)))) (GlassE.errors x), PUnit.unit))) (
    .ret (Sum.inl (Prod.fst s, Prod.fst (Prod.snd s), Prod.fst (Prod.snd (Prod.snd s)), Prod.fst (Prod.snd (Prod.snd (Prod.snd s))), PUnit.unit)))) := fun s x => by kernel_rfl
theorem st_err_eq (s) (x : GlassE) : st_err s x = some (.inl (s.1, s.2.1, s.2.2.1, if x.g.id != s.2.1 then meet s.2.2.2.1 x.errors else s.2.2.2.1, ())) := by
  rw [rg_err]; simp only [T.run_br, T.run_ret]; cases (x.g.id != s.2.1) <;> rfl
theorem fold_err (L : List GlassE) (a : Bulbs × Int) (but : Int) (r c : Span) : L.foldl (fun (s : (Bulbs × Int) × Int × Span × Span × Unit) (x : GlassE) => (s.1, s.2.1, s.2.2.1, if x.g.id != s.2.1 then meet s.2.2.2.1 x.errors else s.2.2.2.1, ())) (a, but, r, c, ()) =
    (a, but, r, L.foldl (fun c g => if g.g.id != but then meet c g.errors else c) c, ()) := by
  induction L generalizing c with
  | nil => rfl
  | cons x L ih => simp only [List.foldl_cons]; exact ih _
noncomputable def BKC3 : Tab := BKC2.addNode 95 25 (rangeE [14, 6, 7, 5] S_err DecX.no (fun s => .ret (.inl (s.1, s.2.1, s.2.2.1, (glassesL s.1.1 s.1.2).foldl (fun c g => if g.g.id != s.2.1 then meet c g.errors else c) s.2.2.2.1, ()))))
theorem tKC3 : TabOk P BKC3 := TabOk.addRange (d := 30) (enc := eTold) (L := (fun s => glassesL s.1.1 s.1.2)) okP tKC2 (by kernel_rfl) (by kernel_rfl) (fun s r h => ⟨_, _, _, (by kernel_rfl : _ = some (127, [], V_gls.enc s.1)), icl_gls s.1.2 s.1.1⟩) (fun s r h => by have e := ret_some h; subst e; rw [← fold_err]; exact foldS_total st_err_eq _ _)
def D_errs := DecL.cons (dBulbs) (.cons (dHydro) (.last (dI .i64) 0))
theorem fn_errs : ∀ a, (callT1 P BKC3 30 95 D_errs dSpan) a = T.run (
  .ret (List.foldl (fun c g => if (Glass.id (GlassE.g g) != Prod.snd (Prod.snd a)) = true then meet c (GlassE.errors g) else c) (Hydro.off (Prod.fst (Prod.snd a))) (glassesL (Prod.fst a) (Hydro.id (Prod.fst (Prod.snd a)))))) := fun a => by kernel_rfl
noncomputable def BKC4 : Tab := BKC3.addCall 95 (callE D_errs dSpan (fun a => .ret (errs a.1 a.2.1 a.2.2)))
theorem tKC4 : TabOk P BKC4 := TabOk.addFn (d := 30) okP tKC3 (fun a r h => by rw [fn_errs]; exact h)
def D_hydro := DecL.cons (dBulbs) (.last (dI .i64) 0)
def R_hydro := dTup (.cons dHydro (.last dB 0))
theorem fn_hydro : ∀ a, (callT1 P BKC4 30 94 D_hydro R_hydro) a = T.run (
  .ret ((Prod.fst (find_hyd1 (numOf (AV.int IntKind.i64 (Prod.snd a))) (Bulbs.hydros (Prod.fst a))), decide (Prod.snd (find_hyd1 (numOf (AV.int IntKind.i64 (Prod.snd a))) (Bulbs.hydros (Prod.fst a))) ≥ (0 : Int))))) := fun a => by kernel_rfl
noncomputable def K.hydro (a : Bulbs × Int) : Hydro × Bool := (Prod.fst (find_hyd1 (numOf (AV.int IntKind.i64 (Prod.snd a))) (Bulbs.hydros (Prod.fst a))), decide (Prod.snd (find_hyd1 (numOf (AV.int IntKind.i64 (Prod.snd a))) (Bulbs.hydros (Prod.fst a))) ≥ (0 : Int)))
theorem eq_hydro (a : Bulbs × Int) : (callT1 P BKC4 30 94 D_hydro R_hydro) a = some (K.hydro a) := (fn_hydro a).trans rfl
noncomputable def BKC5 : Tab := BKC4.addCall 94 (callE D_hydro R_hydro (fun a => .ret (K.hydro a)))
theorem tKC5 : TabOk P BKC5 := TabOk.addFn (d := 30) okP tKC4 (fun a r h => by rw [eq_hydro]; exact congrArg some (ret_some h))
def D_off := DecL.cons (dBulbs) (.last (dI .i64) 0)
def R_off := dTup (.cons dSpan (.last (dI .i64) 0))
theorem fn_off : ∀ a, (callT1 P BKC5 30 61 D_off R_off) a = T.run (
  .br (!Prod.snd (hydro a)) (
    .ret ((Span.mk (0 : Int) (0 : Int), (5 : Int)))) (
    .br (void (errs (Prod.fst a) (Prod.fst (hydro a)) (0 : Int))) (
      .ret ((Span.mk (0 : Int) (0 : Int), (9 : Int)))) (
      .ret ((errs (Prod.fst a) (Prod.fst (hydro a)) (0 : Int), (0 : Int)))))) := fun a => by kernel_rfl
noncomputable def K.off (a : Bulbs × Int) : Span × Int := (if (!Prod.snd (hydro a)) = true then (Span.mk (0 : Int) (0 : Int), (5 : Int)) else (if (void (errs (Prod.fst a) (Prod.fst (hydro a)) (0 : Int))) = true then (Span.mk (0 : Int) (0 : Int), (9 : Int)) else (errs (Prod.fst a) (Prod.fst (hydro a)) (0 : Int), (0 : Int))))
theorem eq_off (a : Bulbs × Int) : (callT1 P BKC5 30 61 D_off R_off) a = some (K.off a) := (fn_off a).trans (T.br_some rfl (T.br_some rfl rfl))
noncomputable def BKC6 : Tab := BKC5.addCall 61 (callE D_off R_off (fun a => .ret (K.off a)))
theorem tKC6 : TabOk P BKC6 := TabOk.addFn (d := 30) okP tKC5 (fun a r h => by rw [eq_off]; exact congrArg some (ret_some h))
def D_dens := DecL.cons (dBulbs) (.last (dSurvey) 0)
theorem fn_density : ∀ a, (callT1 P BKC6 30 54 D_dens R_off) a = T.run (
  .br (Prod.snd (off (Prod.fst a, Survey.hydro (Prod.snd a))) != (0 : Int)) (
    .ret ((Span.mk (0 : Int) (0 : Int), Prod.snd (off (Prod.fst a, Survey.hydro (Prod.snd a)))))) (
    .br (void (meet (Span.mk (IntKind.wrap IntKind.i64 (Span.lo (Survey.shown (Prod.snd a)) - Span.hi (Prod.fst (off (Prod.fst a, Survey.hydro (Prod.snd a)))))) (IntKind.wrap IntKind.i64 (Span.hi (Survey.shown (Prod.snd a)) - Span.lo (Prod.fst (off (Prod.fst a, Survey.hydro (Prod.snd a))))))) (Span.mk (900 : Int) (1100 : Int)))) (
      .ret ((Span.mk (0 : Int) (0 : Int), (9 : Int)))) (
      .ret ((meet (Span.mk (IntKind.wrap IntKind.i64 (Span.lo (Survey.shown (Prod.snd a)) - Span.hi (Prod.fst (off (Prod.fst a, Survey.hydro (Prod.snd a)))))) (IntKind.wrap IntKind.i64 (Span.hi (Survey.shown (Prod.snd a)) - Span.lo (Prod.fst (off (Prod.fst a, Survey.hydro (Prod.snd a))))))) (Span.mk (900 : Int) (1100 : Int)), (0 : Int)))))) := fun a => by kernel_rfl
noncomputable def K.density (a : Bulbs × Survey) : Span × Int := (if (Prod.snd (off (Prod.fst a, Survey.hydro (Prod.snd a))) != (0 : Int)) = true then (Span.mk (0 : Int) (0 : Int), Prod.snd (off (Prod.fst a, Survey.hydro (Prod.snd a)))) else (if (void (meet (Span.mk (IntKind.wrap IntKind.i64 (Span.lo (Survey.shown (Prod.snd a)) - Span.hi (Prod.fst (off (Prod.fst a, Survey.hydro (Prod.snd a)))))) (IntKind.wrap IntKind.i64 (Span.hi (Survey.shown (Prod.snd a)) - Span.lo (Prod.fst (off (Prod.fst a, Survey.hydro (Prod.snd a))))))) (Span.mk (900 : Int) (1100 : Int)))) = true then (Span.mk (0 : Int) (0 : Int), (9 : Int)) else (meet (Span.mk (IntKind.wrap IntKind.i64 (Span.lo (Survey.shown (Prod.snd a)) - Span.hi (Prod.fst (off (Prod.fst a, Survey.hydro (Prod.snd a)))))) (IntKind.wrap IntKind.i64 (Span.hi (Survey.shown (Prod.snd a)) - Span.lo (Prod.fst (off (Prod.fst a, Survey.hydro (Prod.snd a))))))) (Span.mk (900 : Int) (1100 : Int)), (0 : Int))))
theorem eq_density (a : Bulbs × Survey) : (callT1 P BKC6 30 54 D_dens R_off) a = some (K.density a) := (fn_density a).trans (T.br_some rfl (T.br_some rfl rfl))
noncomputable def BKC7 : Tab := BKC6.addCall 54 (callE D_dens R_off (fun a => .ret (K.density a)))
theorem tKC7 : TabOk P BKC7 := TabOk.addFn (d := 30) okP tKC6 (fun a r h => by rw [eq_density]; exact congrArg some (ret_some h))
def D_extr := DecL.last (dSurvey) 0
def R_extr := (dTup (.cons (dAgg (.cons (dI .i64) (.cons (dI .i64) (.cons (dI .i64) (.last (dI .i64) 0))))) (.last dB 0))).iso (fun p => ((⟨p.1.1, p.1.2.1⟩, ⟨p.1.2.2.1, p.1.2.2.2⟩), p.2)) (fun (s : (Sums × Sums) × Bool) => ((s.1.1.ends, s.1.1.middle, s.1.2.ends, s.1.2.middle), s.2)) (fun _ => rfl)
theorem fn_extr : ∀ a, (callT1 P BKC7 30 51 D_extr R_extr) a = T.run (
  .br (void (meet (both (Survey.m2 a) (Survey.m3 a)) (Span.mk (IntKind.wrap IntKind.i64 ((0 : Int) - half (IntKind.wrap IntKind.i64 (IntKind.wrap IntKind.i64 ((4 : Int) * Survey.sag a) - Span.lo (both (both (Survey.m0 a) (Survey.m1 a)) (both (Survey.m4 a) (Survey.m5 a))))))) (half (IntKind.wrap IntKind.i64 (Span.hi (both (both (Survey.m0 a) (Survey.m1 a)) (both (Survey.m4 a) (Survey.m5 a))) + IntKind.wrap IntKind.i64 ((4 : Int) * Survey.sag a))))))) (
    .ret (((Sums.mk (0 : Int) (0 : Int), Sums.mk (0 : Int) (0 : Int)), false))) (
    .ret (((Sums.mk (if IntKind.wrap IntKind.i64 (IntKind.wrap IntKind.i64 ((2 : Int) * Span.lo (meet (both (Survey.m2 a) (Survey.m3 a)) (Span.mk (IntKind.wrap IntKind.i64 ((0 : Int) - half (IntKind.wrap IntKind.i64 (IntKind.wrap IntKind.i64 ((4 : Int) * Survey.sag a) - Span.lo (both (both (Survey.m0 a) (Survey.m1 a)) (both (Survey.m4 a) (Survey.m5 a))))))) (half (IntKind.wrap IntKind.i64 (Span.hi (both (both (Survey.m0 a) (Survey.m1 a)) (both (Survey.m4 a) (Survey.m5 a))) + IntKind.wrap IntKind.i64 ((4 : Int) * Survey.sag a))))))) - IntKind.wrap IntKind.i64 ((4 : Int) * Survey.sag a)) > Span.lo (both (both (Survey.m0 a) (Survey.m1 a)) (both (Survey.m4 a) (Survey.m5 a))) then IntKind.wrap IntKind.i64 (IntKind.wrap IntKind.i64 ((2 : Int) * Span.lo (meet (both (Survey.m2 a) (Survey.m3 a)) (Span.mk (IntKind.wrap IntKind.i64 ((0 : Int) - half (IntKind.wrap IntKind.i64 (IntKind.wrap IntKind.i64 ((4 : Int) * Survey.sag a) - Span.lo (both (both (Survey.m0 a) (Survey.m1 a)) (both (Survey.m4 a) (Survey.m5 a))))))) (half (IntKind.wrap IntKind.i64 (Span.hi (both (both (Survey.m0 a) (Survey.m1 a)) (both (Survey.m4 a) (Survey.m5 a))) + IntKind.wrap IntKind.i64 ((4 : Int) * Survey.sag a))))))) - IntKind.wrap IntKind.i64 ((4 : Int) * Survey.sag a)) else Span.lo (both (both (Survey.m0 a) (Survey.m1 a)) (both (Survey.m4 a) (Survey.m5 a)))) (Span.lo (meet (both (Survey.m2 a) (Survey.m3 a)) (Span.mk (IntKind.wrap IntKind.i64 ((0 : Int) - half (IntKind.wrap IntKind.i64 (IntKind.wrap IntKind.i64 ((4 : Int) * Survey.sag a) - Span.lo (both (both (Survey.m0 a) (Survey.m1 a)) (both (Survey.m4 a) (Survey.m5 a))))))) (half (IntKind.wrap IntKind.i64 (Span.hi (both (both (Survey.m0 a) (Survey.m1 a)) (both (Survey.m4 a) (Survey.m5 a))) + IntKind.wrap IntKind.i64 ((4 : Int) * Survey.sag a))))))), Sums.mk (if IntKind.wrap IntKind.i64 (IntKind.wrap IntKind.i64 ((2 : Int) * Span.hi (meet (both (Survey.m2 a) (Survey.m3 a)) (Span.mk (IntKind.wrap IntKind.i64 ((0 : Int) - half (IntKind.wrap IntKind.i64 (IntKind.wrap IntKind.i64 ((4 : Int) * Survey.sag a) - Span.lo (both (both (Survey.m0 a) (Survey.m1 a)) (both (Survey.m4 a) (Survey.m5 a))))))) (half (IntKind.wrap IntKind.i64 (Span.hi (both (both (Survey.m0 a) (Survey.m1 a)) (both (Survey.m4 a) (Survey.m5 a))) + IntKind.wrap IntKind.i64 ((4 : Int) * Survey.sag a))))))) + IntKind.wrap IntKind.i64 ((4 : Int) * Survey.sag a)) < Span.hi (both (both (Survey.m0 a) (Survey.m1 a)) (both (Survey.m4 a) (Survey.m5 a))) then IntKind.wrap IntKind.i64 (IntKind.wrap IntKind.i64 ((2 : Int) * Span.hi (meet (both (Survey.m2 a) (Survey.m3 a)) (Span.mk (IntKind.wrap IntKind.i64 ((0 : Int) - half (IntKind.wrap IntKind.i64 (IntKind.wrap IntKind.i64 ((4 : Int) * Survey.sag a) - Span.lo (both (both (Survey.m0 a) (Survey.m1 a)) (both (Survey.m4 a) (Survey.m5 a))))))) (half (IntKind.wrap IntKind.i64 (Span.hi (both (both (Survey.m0 a) (Survey.m1 a)) (both (Survey.m4 a) (Survey.m5 a))) + IntKind.wrap IntKind.i64 ((4 : Int) * Survey.sag a))))))) + IntKind.wrap IntKind.i64 ((4 : Int) * Survey.sag a)) else Span.hi (both (both (Survey.m0 a) (Survey.m1 a)) (both (Survey.m4 a) (Survey.m5 a)))) (Span.hi (meet (both (Survey.m2 a) (Survey.m3 a)) (Span.mk (IntKind.wrap IntKind.i64 ((0 : Int) - half (IntKind.wrap IntKind.i64 (IntKind.wrap IntKind.i64 ((4 : Int) * Survey.sag a) - Span.lo (both (both (Survey.m0 a) (Survey.m1 a)) (both (Survey.m4 a) (Survey.m5 a))))))) (half (IntKind.wrap IntKind.i64 (Span.hi (both (both (Survey.m0 a) (Survey.m1 a)) (both (Survey.m4 a) (Survey.m5 a))) + IntKind.wrap IntKind.i64 ((4 : Int) * Survey.sag a)))))))), true)))) := fun a => by kernel_rfl
/-- The ends' sums, and the middle's. -/
def K.endsOf (x : Survey) : Span := both (both x.m0 x.m1) (both x.m4 x.m5)
def K.bend (x : Survey) : Int := IntKind.i64.wrap (4 * x.sag)
def K.mids (x : Survey) : Span := meet (both x.m2 x.m3) ⟨IntKind.i64.wrap (0 - half (IntKind.i64.wrap (bend x - (endsOf x).lo))), half (IntKind.i64.wrap ((endsOf x).hi + bend x))⟩
def K.extremes (x : Survey) : (Sums × Sums) × Bool := if void (mids x) = true then ((⟨0, 0⟩, ⟨0, 0⟩), false) else
  ((⟨if IntKind.i64.wrap (IntKind.i64.wrap (2 * (mids x).lo) - bend x) > (endsOf x).lo then IntKind.i64.wrap (IntKind.i64.wrap (2 * (mids x).lo) - bend x) else (endsOf x).lo, (mids x).lo⟩,
    ⟨if IntKind.i64.wrap (IntKind.i64.wrap (2 * (mids x).hi) + bend x) < (endsOf x).hi then IntKind.i64.wrap (IntKind.i64.wrap (2 * (mids x).hi) + bend x) else (endsOf x).hi, (mids x).hi⟩), true)
noncomputable def BKC8 : Tab := BKC7.addCall 51 (callE D_extr R_extr (fun a => .ret (K.extremes a)))
theorem tKC8 : TabOk P BKC8 := TabOk.addFn (d := 30) okP tKC7 (fun a r h => by rw [fn_extr, ← ret_some h]; exact T.br_some rfl rfl)
end Go.Proofs.Ytkajafmphemedaa
