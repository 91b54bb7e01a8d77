/- The operations of the evaluator are right: `opRes` says what the model's operation does. -/
import Derived.Test.YtkajafmphemedaaEvC
namespace Go.Proofs.Ytkajafmphemedaa.Ev
open Go.RowKit

section
variable {P : Program} {w : World} {A : Nat → Prop} {r : Rr} {loc : Nat → Option Blk} {p : Operand → Option AV} {ev : Operand → Value} {nx : Nat} {o : Oper} {res : Res}

theorem mapEv_rel (hp : ∀ x v, p x = some v → VR w A r v (ev x)) : ∀ (xs : List Operand) (vs : List AV), mapEv p xs = some vs → VRs w A r vs (xs.map ev).toArray
  | [], vs, h => by simp [mapEv] at h; subst h; exact VRs.nil
  | x :: xs, vs, h => by
    simp only [mapEv] at h
    split at h
    · rename_i v hv
      split at h
      · rename_i vs' hvs
        injection h with h; subst h
        have ih := mapEv_rel hp xs vs' hvs
        have := (VRs.one (hp x v hv)).append ih
        simpa using this
      · simp at h
    · simp at h

theorem mapParts_rel (hp : ∀ x v, p x = some v → VR w A r v (ev x)) : ∀ (xs : List (Nat × Operand)) (vs : List (Nat × AV)), mapParts p xs = some vs →
    vs.length = (xs.map fun (i, x) => (i, ev x)).length ∧ ∀ (i : Nat) a b, vs[i]? = some a → (xs.map fun (i, x) => (i, ev x))[i]? = some b → a.1 = b.1 ∧ VR w A r a.2 b.2
  | [], vs, h => by simp [mapParts] at h; subst h; exact ⟨rfl, fun i a b ha => by simp at ha⟩
  | (k, x) :: xs, vs, h => by
    simp only [mapParts] at h
    split at h
    · rename_i v hv
      split at h
      · rename_i vs' hvs
        injection h with h; subst h
        obtain ⟨hl, hr⟩ := mapParts_rel hp xs vs' hvs
        refine ⟨by simpa using hl, fun i a b ha hb => ?_⟩
        cases i with
        | zero => simp at ha hb; subst ha; subst hb; exact ⟨rfl, hp x v hv⟩
        | succ i => exact hr i a b (by simpa using ha) (by simpa using hb)
      · simp at h
    · simp at h

theorem structPlaces_run : ∀ (fs : List Field) (pl : List (Nat × Nat)), structPlaces P fs = some pl →
    (fs.mapM (fun (f : Field) => do pure (f.offset, ← sizeOf f.type)) : Sem (List (Nat × Nat))).run P w = .ok pl w
  | [], pl, h => by simp [structPlaces] at h; subst h; simp
  | f :: fs, pl, h => by
    simp only [structPlaces] at h
    split at h
    · rename_i n hn
      split at h
      · rename_i l hl
        injection h with h; subst h
        simp only [List.mapM_cons, Sem.run_bind, run_sizeOf' hn, Result.andThen_ok, Sem.run_pure, structPlaces_run fs l hl]
      · simp at h
    · simp at h

theorem does_val {s : Sem Next} {x : AV} {v : Value} (h : s.run P w = .ok (.value v) w) (k : VR w A r x v) : Does P w A r loc nx s (.val x) := ⟨v, h, k⟩

/-- The pointer operand of a load, a store ..: an address of a frame's object, or one that came in. -/
theorem lptr_inv {j wd row col : Nat} {v : Value} (h : VR w A r (.lptr j wd row col) v) : ∃ b, r j = some b ∧ v = .pointer (some ⟨b, row * wd + col, none⟩) := by
  cases h with
  | lptr h ho => subst ho; exact ⟨_, h, rfl⟩

theorem lift0 {y : AV} {z : Value} (h : VR w A noR y z) : VR w A r y z := h.mono (Keeps.refl A w) (fun j b h => by simp [noR] at h)

variable (hcx : Cx w A r loc p ev)
include hcx

theorem s_load {t : TypeId} {x : Operand} (hop : o.op = .load t x) (h : native P p loc nx o = some (true, res)) : Does P w A r loc nx (execOp ev o) res := by
  simp only [native, hop] at h
  split at h
  · rename_i j wd row col hx
    obtain ⟨b, hb, hv⟩ := lptr_inv (hcx.val _ _ hx)
    split at h
    · rename_i tt cs hj
      obtain ⟨b', hb', us, hh, hc⟩ := hcx.mem _ _ hj
      have : b' = b := by rw [hb] at hb'; injection hb' with hb'; exact hb'.symm
      subst this
      cases hl : loadAV P t cs (row * wd + col) with
      | none => simp [hl] at h
      | some y =>
        simp [hl] at h; subst h
        obtain ⟨v, hr, hvr⟩ := load_flat (P := P) hh hc hl
        exact does_val (by simp only [execOp, hop, hv, Instr.loadAt, Instr.sureAddr, Sem.run_bind, Sem.run_pure, Result.andThen_ok, hr]) hvr
    · simp at h
  · rename_i wd m get row col hx
    have hx' := hcx.val _ _ hx
    generalize hev : ev x = z at hx'
    cases hx' with
    | xptr u hb hA hc hv ho hrow =>
      cases hl : loadX P t wd get row col with
      | none => simp [hl] at h
      | some y =>
        simp [hl] at h; subst h
        obtain ⟨v, hr, hvr⟩ := load_ext (P := P) (r := r) u hc hv ho hrow hl
        exact does_val (by simp only [execOp, hop, hev, Instr.loadAt, Instr.sureAddr, Sem.run_bind, Sem.run_pure, Result.andThen_ok, hr]) hvr
  · simp at h

theorem s_store {t : TypeId} {a x : Operand} (hop : o.op = .store t a x) (h : native P p loc nx o = some (true, res)) : Does P w A r loc nx (execOp ev o) res := by
  simp only [native, hop] at h
  split at h
  · rename_i j wd row col v ha hx
    obtain ⟨b, hb, hva⟩ := lptr_inv (hcx.val _ _ ha)
    split at h
    · rename_i u cs xs n hj hcell hsz
      obtain ⟨b', hb', us, hh, hc⟩ := hcx.mem _ _ hj
      have : b' = b := by rw [hb] at hb'; injection hb' with hb'; exact hb'.symm
      subst this
      split at h
      · rename_i hcond
        obtain ⟨h1, h2, h3⟩ := hcond
        injection h with h
        injection h with _ h; subst h
        have hcr := cells_rel hcell (hcx.val _ _ hx)
        have e1 := hcr.1
        have e2 := hc.1
        refine ⟨b', us, _, _, hb, hj, hh, ?_, hc.ovw (xs := xs) (vs := (ev x).cells.toList) (by simpa using hcr) (by omega)⟩
        have hone : ∀ z ∈ (ev x).cells.toList, z.oneCell' = true := by
          intro z hz
          obtain ⟨i, hi, rfl⟩ := List.getElem_of_mem hz
          have hi' : i < xs.length := by rw [e1]; simpa using hi
          exact oneCell_rel (List.all_eq_true.1 h3 xs[i] (List.getElem_mem hi')) (hcr.2 i xs[i] _ (List.getElem?_eq_getElem hi') (by simp at hi ⊢))
        have hst := run_storeCells_at (P := P) b' (row * wd + col) u (ev x).cells.toList 0 us w hh (by simp; omega) hone
        simp only [Nat.add_zero] at hst
        have hne : ¬ (ev x).cells.size ≠ n := by omega
        simp only [execOp, hop, hva, Instr.storeAt, Instr.sureAddr, Sem.run_bind, Sem.run_pure, Result.andThen_ok, storeVar, run_sizeOf' hsz, Sem.run_ite, hne, if_false, hst]
      · simp at h
    · simp at h
  · simp at h

omit hcx in
theorem s_alloc {t : TypeId} (hop : o.op = .alloc t) (h : native P p loc nx o = some (true, res)) : Does P w A r loc nx (execOp ev o) res := by
  simp only [native, hop] at h
  cases hz : zeroAV P t with
  | none => simp [hz] at h
  | some cs =>
    simp [hz] at h; subst h
    obtain ⟨v, hr, hc⟩ := run_zero' (P := P) (w := w) (A := A) (r := r) hz
    exact ⟨v.cells, _, by simp only [execOp, hop, Instr.alloc, Sem.run_bind, hr, Result.andThen_ok, newVar, newRow, run_newObj, Sem.run_pure, World.alloc_eq], hc, fun w' A' r' h' => .lptr h' rfl⟩

theorem s_box {t : TypeId} {x : Operand} (hop : o.op = .box t x) (h : native P p loc nx o = some (true, res)) : Does P w A r loc nx (execOp ev o) res := by
  simp only [native, hop] at h
  split at h
  · rename_i v hv
    cases hc : cellsAV v with
    | none => simp [hc] at h
    | some cs =>
      simp [hc] at h; subst h
      exact ⟨(ev x).cells, _, by simp only [execOp, hop, Instr.box, Sem.run_bind, newVar, newRow, run_newObj, Result.andThen_ok, Sem.run_pure, World.alloc_eq], cells_rel hc (hcx.val _ _ hv), fun w' A' r' h' => .lptr h' rfl⟩
  · simp at h

theorem s_move {x : Operand} (hop : o.op = .move x ∨ o.op = .assign x) (h : native P p loc nx o = some (true, res)) : Does P w A r loc nx (execOp ev o) res := by
  rcases hop with hop | hop
  all_goals
    simp only [native, hop] at h
    cases hx : p x with
    | none => simp [hx] at h
    | some v =>
      simp [hx] at h; subst h
      exact does_val (by simp only [execOp, hop, Sem.run_pure]) (hcx.val _ _ hx)

theorem s_pick {c a b : Operand} (hop : o.op = .pick c a b) (h : native P p loc nx o = some (true, res)) : Does P w A r loc nx (execOp ev o) res := by
  simp only [native, hop] at h
  split at h
  · rename_i t hc
    have hc' := hcx.val _ _ hc
    generalize hev : ev c = z at hc'
    cases hc'
    cases t with
    | true =>
      cases ha : p a with
      | none => simp [ha] at h
      | some v =>
        simp [ha] at h; subst h
        exact does_val (by simp only [execOp, hop, hev, asBool, Sem.run_bind, Sem.run_pure, Result.andThen_ok, if_true]) (hcx.val _ _ ha)
    | false =>
      cases hb : p b with
      | none => simp [hb] at h
      | some v =>
        simp [hb] at h; subst h
        exact does_val (by simp only [execOp, hop, hev, asBool, Sem.run_bind, Sem.run_pure, Result.andThen_ok, Bool.false_eq_true, if_false]) (hcx.val _ _ hb)
  · simp at h

theorem s_build {t : TypeId} {parts : Array (Nat × Operand)} (hop : o.op = .build t parts) (h : native P p loc nx o = some (true, res)) : Does P w A r loc nx (execOp ev o) res := by
  simp only [native, hop] at h
  split at h
  · rename_i zs ps hz hps
    obtain ⟨v, hzr, hzc⟩ := run_zero' (P := P) (w := w) (A := A) (r := r) hz
    obtain ⟨hl, hr⟩ := mapParts_rel hcx.val _ _ hps
    have eparts : (parts.map fun (i, x) => (i, ev x)).toList = parts.toList.map fun (i, x) => (i, ev x) := by simp
    split at h
    · rename_i fields hu
      split at h
      · rename_i pl hpl
        cases hf : fillAV (fun i => pl[i]?) zs ps with
        | none => simp [hf] at h
        | some cs =>
          simp [hf] at h; subst h
          obtain ⟨us, hfill, hus⟩ := fill_rel _ ps _ zs cs v.cells hf hzc hl hr
          have hpla : (fields.mapM (fun (f : Field) => do pure (f.offset, ← sizeOf f.type)) : Sem (Array (Nat × Nat))).run P w = .ok pl.toArray w := by
            rw [Array.mapM_eq_mapM_toList]
            simp only [Sem.run_map, structPlaces_run fields.toList pl hpl, Result.andThen_ok]
          have hfill' : Instr.fill (pl.toArray[·]?) v.cells (parts.toList.map fun (i, x) => (i, ev x)) = some us := by simpa using hfill
          refine does_val (v := .agg us) ?_ (.agg hus.1 hus.2)
          simp only [execOp, hop, Instr.build, Sem.run_bind, hzr, Result.andThen_ok, run_underlying hu, hpla, eparts, hfill', Sem.run_pure]
      · simp at h
    · rename_i len e hu
      split at h
      · rename_i n hn
        cases hf : fillAV (fun i => some (i * n, n)) zs ps with
        | none => simp [hf] at h
        | some cs =>
          simp [hf] at h; subst h
          obtain ⟨us, hfill, hus⟩ := fill_rel _ ps _ zs cs v.cells hf hzc hl hr
          refine does_val (v := .agg us) ?_ (.agg hus.1 hus.2)
          simp only [execOp, hop, Instr.build, Sem.run_bind, hzr, Result.andThen_ok, run_underlying hu, run_sizeOf' hn, eparts, hfill, Sem.run_pure]
      · simp at h
    · simp at h
  · simp at h

end

end Go.Proofs.Ytkajafmphemedaa.Ev
