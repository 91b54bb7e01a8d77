/- The operations of the evaluator are right: what `opRes` says is what the model's operation does, in every world that stands to the frame as it should. -/
import Derived.Test.YtkajafmphemedaaEvB
import Derived.Great.FillDense
namespace Go.Proofs.Ytkajafmphemedaa.Ev
open Go.RowKit

/-- An object's block. -/
def BlkR (w : World) (A : Nat → Prop) (r : Rr) : Blk → Nat → Prop
  | .flat t cs, b => ∃ us : Array Value, w.heap[b]? = some (.cells us t (0, 0)) ∧ VRs w A r cs us

structure Cx (w : World) (A : Nat → Prop) (r : Rr) (loc : Nat → Option Blk) (p : Operand → Option AV) (ev : Operand → Value) : Prop where
  val : ∀ x v, p x = some v → VR w A r v (ev x)
  mem : ∀ j k, loc j = some k → ∃ b, r j = some b ∧ BlkR w A r k b

/-- What is asked of the model's operation. -/
def Does (P : Program) (w : World) (A : Nat → Prop) (r : Rr) (loc : Nat → Option Blk) (nx : Nat) (s : Sem Next) : Res → Prop
  | .val x => ∃ v, s.run P w = .ok (.value v) w ∧ VR w A r x v
  | .alloc (.flat t cs) x => ∃ us v, s.run P w = .ok (.value v) (w.alloc (.cells us t)) ∧ VRs w A r cs us ∧ ∀ (w' : World) (A' : Nat → Prop) (r' : Rr), r' nx = some w.heap.size → VR w' A' r' x v
  | .store j (.flat t cs) => ∃ b cur us k, r j = some b ∧ loc j = some k ∧ w.heap[b]? = some (.cells cur t (0, 0)) ∧ s.run P w = .ok .skip (w.setRow b us) ∧ VRs w A r cs us
  | .call f args => ∃ vs, s.run P w = .ok (.enter f vs) w ∧ VRs w A r args vs

section
variable {P : Program} {w : World} {A : Nat → Prop} {r : Rr}

theorem run_sizeOf' {t : TypeId} {n : Nat} (h : szOf P t = some n) : (sizeOf t).run P w = .ok n w := by
  unfold szOf at h
  cases hi : P.info? t with
  | none => simp [hi] at h
  | some i => simp [hi] at h; simp [sizeOf, typeInfo, hi, h]

theorem run_isAgg' {t : TypeId} {b : Bool} (h : aggB P t = some b) : (isAgg t).run P w = .ok b w := by
  unfold aggB at h
  cases hu : P.underlying t with
  | none => simp [hu] at h
  | some d => simp only [isAgg, Sem.run_bind, run_underlying hu, Result.andThen_ok]; cases d <;> simp [hu] at h <;> simp [← h]

theorem run_zero' {t : TypeId} {cs : List AV} (h : zeroAV P t = some cs) : ∃ v, (zeroValue t).run P w = .ok v w ∧ VRs w A r cs v.cells := by
  unfold zeroAV at h
  cases hi : P.info? t with
  | none => simp [hi] at h
  | some i =>
    cases hz : i.zero with
    | none => simp [hi, hz] at h
    | some v =>
      simp only [hi, hz] at h
      obtain ⟨hl, hr⟩ := ofScals_rel (w := w) (A := A) (r := r) h
      exact ⟨v, by simp [zeroValue, typeInfo, hi, hz], by simpa using hl, fun i x u hx hu => hr i x u hx (by simpa using hu)⟩

theorem VRs.one {x : AV} {v : Value} (h : VR w A r x v) : VRs w A r [x] #[v] := by
  refine ⟨rfl, fun i y u hy hu => ?_⟩
  cases i with
  | zero => simp at hy hu; subst hy; subst hu; exact h
  | succ i => simp at hy

theorem cells_rel {x : AV} {v : Value} {cs : List AV} (h : cellsAV x = some cs) (k : VR w A r x v) : VRs w A r cs v.cells := by
  cases k with
  | agg hx h1 => simp [cellsAV] at h; subst h; exact ⟨hx, h1⟩
  | top => simp [cellsAV] at h
  | tup hx h1 => simp [cellsAV] at h
  | int => simp [cellsAV] at h; subst h; exact VRs.one .int
  | bool => simp [cellsAV] at h; subst h; exact VRs.one .bool
  | str => simp [cellsAV] at h; subst h; exact VRs.one .str
  | nilptr => simp [cellsAV] at h; subst h; exact VRs.one .nilptr
  | lptr a b => simp [cellsAV] at h; subst h; exact VRs.one (.lptr a b)
  | xptr u a b c d e f => simp [cellsAV] at h; subst h; exact VRs.one (.xptr u a b c d e f)
  | nilsl => simp [cellsAV] at h; subst h; exact VRs.one .nilsl
  | lsl a b c d => simp [cellsAV] at h; subst h; exact VRs.one (.lsl a b c d)
  | xsl b o u a c d e f g => simp [cellsAV] at h; subst h; exact VRs.one (.xsl b o u a c d e f g)
  | fn a b c d => simp [cellsAV] at h; subst h; exact VRs.one (.fn a b c d)
  | nilfn => simp [cellsAV] at h; subst h; exact VRs.one .nilfn
  | yv a => simp [cellsAV] at h; subst h; exact VRs.one (.yv a)
  | nilif => simp [cellsAV] at h; subst h; exact VRs.one .nilif

theorem oneCell_rel {x : AV} {v : Value} (h : isCell x = true) (k : VR w A r x v) : v.oneCell' = true := by
  cases k <;> first | rfl | (simp [isCell] at h)

theorem addr_add (b o n : Nat) : (⟨b, o, none⟩ : Addr).add n = ⟨b, o + n, none⟩ := by unfold Addr.add; split <;> simp_all

theorem VRs.take_drop {cs : List AV} {us : Array Value} (h : VRs w A r cs us) (i n : Nat) (hn : i + n ≤ cs.length) : VRs w A r ((cs.drop i).take n) (us.extract i (i + n)) := by
  refine ⟨by simp; have := h.1; omega, fun k x u hx hu => ?_⟩
  rw [List.getElem?_take] at hx
  split at hx
  · rename_i hk
    rw [List.getElem?_drop] at hx
    rw [Array.getElem?_extract] at hu
    split at hu
    · exact h.2 _ x u hx hu
    · simp at hu
  · simp at hx

theorem load_flat {t : TypeId} {cs : List AV} {us : Array Value} {tt : TypeId} {b col : Nat} {x : AV} (hh : w.heap[b]? = some (.cells us tt (0, 0))) (hc : VRs w A r cs us) (h : loadAV P t cs col = some x) :
    ∃ v, (loadVar t ⟨b, col, none⟩).run P w = .ok v w ∧ VR w A r x v := by
  have cell : ∀ i, w.cell? ⟨b, i, none⟩ = us[i]? := fun i => by simp [World.cell?, hh]
  unfold loadAV at h
  split at h
  · rename_i n hagg hsz
    split at h
    · rename_i hle
      injection h with h; subst h
      have hl := run_loadCells (P := P) w ⟨b, col, none⟩ n (fun j => us.getD (col + j) undef) (fun j hj => by
        rw [addr_add, cell, Array.getD_eq_getD_getElem?, Array.getElem?_eq_getElem (by rw [← hc.1]; omega)]; rfl)
      refine ⟨_, by simp only [loadVar, Sem.run_bind, run_isAgg' hagg, Result.andThen_ok, if_true, run_sizeOf' hsz, hl, Sem.run_pure]; rfl, ?_⟩
      have e : ((List.range n).map fun j => us.getD (col + j) undef).toArray = us.extract col (col + n) := by
        apply Array.ext_getElem?
        intro i
        rw [Array.getElem?_extract]
        have := hc.1
        by_cases hi : i < n
        · simp [hi, Array.getD_eq_getD_getElem?, Array.getElem?_eq_getElem (show col + i < us.size by omega), show i < min (col + n) us.size - col by omega]
        · simp [hi, show ¬ i < min (col + n) us.size - col by omega]
      rw [e]
      exact .agg (hc.take_drop col n hle).1 (hc.take_drop col n hle).2
    · simp at h
  · rename_i n hagg hsz
    obtain ⟨u, hu, hr⟩ := hc.get h
    exact ⟨u, by simp only [loadVar, Sem.run_bind, run_isAgg' hagg, Result.andThen_ok, Bool.false_eq_true, if_false, run_load, cell, hu], hr⟩
  · simp at h

theorem rngGet_length (get : Get AV) (row : Nat) : ∀ col n, (rngGet get row col n).length = n
  | _, 0 => rfl
  | col, n + 1 => by simp [rngGet, rngGet_length get row (col + 1) n]

theorem rngGet_get (get : Get AV) (row : Nat) : ∀ n col i, i < n → (rngGet get row col n)[i]? = some (get row (col + i))
  | 0, _, _, h => by omega
  | n + 1, col, 0, _ => by simp [rngGet]
  | n + 1, col, i + 1, h => by simp only [rngGet, List.getElem?_cons_succ]; rw [rngGet_get get row n (col + 1) i (by omega), show col + 1 + i = col + (i + 1) by omega]

theorem load_ext {t : TypeId} {wd n row col b o off : Nat} {get : Get AV} {x : AV} (u : Nat → Nat → Value)
    (hc : ∀ i k, i < n → k < wd → w.cell? ⟨b, o + (i * wd + k), none⟩ = some (u i k)) (hv : ∀ i k, i < n → k < wd → VR w A noR (get i k) (u i k))
    (ho : off = o + (row * wd + col)) (hrow : row < n) (h : loadX P t wd get row col = some x) :
    ∃ v, (loadVar t ⟨b, off, none⟩).run P w = .ok v w ∧ VR w A r x v := by
  have lift : ∀ {y : AV} {z : Value}, VR w A noR y z → VR w A r y z := fun h => h.mono (Keeps.refl A w) (fun j b h => by simp [noR] at h)
  unfold loadX at h
  split at h
  · rename_i m hagg hsz
    split at h
    · rename_i hle
      injection h with h; subst h
      have hl := run_loadCells (P := P) w ⟨b, off, none⟩ m (fun j => u row (col + j)) (fun j hj => by
        rw [addr_add, ← hc row (col + j) hrow (by omega)]; congr 2; omega)
      refine ⟨_, by simp only [loadVar, Sem.run_bind, run_isAgg' hagg, Result.andThen_ok, if_true, run_sizeOf' hsz, hl, Sem.run_pure]; rfl, ?_⟩
      refine .agg (by simp [rngGet_length]) (fun i y z hy hz => ?_)
      have hi : i < m := by have := (List.getElem?_eq_some_iff.1 hy).1; rwa [rngGet_length] at this
      rw [rngGet_get get row m col i hi] at hy
      injection hy with hy; subst hy
      simp [hi] at hz; subst hz
      exact lift (hv row (col + i) hrow (by omega))
    · simp at h
  · rename_i m hagg hsz
    split at h
    · rename_i hlt
      injection h with h; subst h
      refine ⟨u row col, ?_, lift (hv row col hrow hlt)⟩
      simp only [loadVar, Sem.run_bind, run_isAgg' hagg, Result.andThen_ok, Bool.false_eq_true, if_false, run_load]
      rw [ho, hc row col hrow hlt]
    · simp at h
  · simp at h

theorem VRs.ovw {cs xs : List AV} {us : Array Value} {vs : List Value} {off : Nat} (h : VRs w A r cs us) (k : VRs w A r xs vs.toArray) (hl : off + xs.length ≤ cs.length) :
    VRs w A r (ovw cs off xs) (us.toList.take off ++ vs ++ us.toList.drop (off + vs.length)).toArray := by
  have e1 := h.1
  have e2 : xs.length = vs.length := by simpa using k.1
  refine ⟨by simp [Ev.ovw]; omega, fun i x u hx hu => ?_⟩
  unfold Ev.ovw at hx
  rw [List.append_assoc] at hx
  rw [List.getElem?_toArray, List.append_assoc] at hu
  rw [List.getElem?_append] at hx hu
  simp only [List.length_take] at hx hu
  have m1 : min off cs.length = off := by omega
  have m2 : min off us.toList.length = off := by simp; omega
  rw [m1] at hx
  rw [m2] at hu
  split at hx
  · rename_i hi
    rw [if_pos hi] at hu
    rw [List.getElem?_take, if_pos hi] at hx hu
    exact h.2 i x u hx (by simpa using hu)
  · rename_i hi
    rw [if_neg hi] at hu
    rw [List.getElem?_append] at hx hu
    split at hx
    · rename_i hj
      rw [if_pos (by omega)] at hu
      exact k.2 _ x u hx (by simpa using hu)
    · rename_i hj
      rw [if_neg (by omega)] at hu
      rw [List.getElem?_drop] at hx hu
      rw [← e2] at hu
      exact h.2 _ x u hx (by simpa using hu)

theorem foldl_ovw (off : Nat) (c : Array Value) (us : Array Value) (hl : off + c.size ≤ us.size) :
    c.zipIdx.foldl (fun cs (x : Value × Nat) => cs.setIfInBounds (off + x.2) x.1) us = (us.toList.take off ++ c.toList ++ us.toList.drop (off + c.toList.length)).toArray := by
  obtain ⟨hs, hg⟩ := Great.foldl_set off c.toList 0 us
  have e : c.zipIdx.foldl (fun cs (x : Value × Nat) => cs.setIfInBounds (off + x.2) x.1) us = (c.toList.zipIdx 0).foldl (fun cs (x : Value × Nat) => cs.setIfInBounds (off + x.2) x.1) us := by
    rw [← Array.foldl_toList]; simp
  rw [e]
  apply Array.ext_getElem?
  intro k
  rw [hg k]
  simp only [List.getElem?_toArray, List.append_assoc, List.getElem?_append, List.length_take, Array.length_toList, Nat.add_zero, List.getElem?_take, List.getElem?_drop, Array.getElem?_toList]
  have m : min off us.size = off := by omega
  rw [m]
  by_cases h1 : k < off
  · simp [h1, show ¬ off ≤ k by omega]
  · by_cases h2 : k - off < c.size
    · simp [h1, h2, show off ≤ k by omega, show k < off + c.size by omega, show k < us.size by omega]
    · simp only [h1, h2, if_false, show ¬ k < off + c.size by omega, false_and, and_false]
      congr 1; omega

theorem fill_rel (place : Nat → Option (Nat × Nat)) : ∀ (ps : List (Nat × AV)) (qs : List (Nat × Value)) (cs out : List AV) (us : Array Value),
    fillAV place cs ps = some out → VRs w A r cs us → ps.length = qs.length → (∀ (i : Nat) a b, ps[i]? = some a → qs[i]? = some b → a.1 = b.1 ∧ VR w A r a.2 b.2) →
    ∃ us', Instr.fill place us qs = some us' ∧ VRs w A r out us'
  | [], [], cs, out, us, h, hc, _, _ => by simp [fillAV] at h; subst h; exact ⟨us, rfl, hc⟩
  | [], _ :: _, _, _, _, _, _, hl, _ => by simp at hl
  | _ :: _, [], _, _, _, _, _, hl, _ => by simp at hl
  | (i, x) :: ps, (i', v) :: qs, cs, out, us, h, hc, hl, hr => by
    obtain ⟨e, hx⟩ := hr 0 (i, x) (i', v) rfl rfl
    simp only at e hx; subst e
    simp only [fillAV] at h
    split at h
    · simp at h
    · rename_i off size hp
      split at h
      · simp at h
      · rename_i xs hcell
        split at h
        · rename_i hle
          have hcr := cells_rel hcell hx
          have e1 := hcr.1
          have e2 := hc.1
          have hnot : ¬ (v.cells.size ≠ size ∨ off + v.cells.size > us.size) := by omega
          simp only [Instr.fill, hp]
          rw [if_neg (by simpa using hnot), foldl_ovw off v.cells us (by omega)]
          refine fill_rel place ps qs _ out _ h ?_ (by simpa using hl) (fun j a b ha hb => hr (j + 1) a b (by simpa using ha) (by simpa using hb))
          exact hc.ovw (xs := xs) (vs := v.cells.toList) (by simpa using hcr) hle.2
        · simp at h

end

end Go.Proofs.Ytkajafmphemedaa.Ev
