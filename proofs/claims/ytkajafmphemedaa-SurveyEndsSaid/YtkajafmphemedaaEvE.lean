/- The operations of the evaluator are right, second part; `opRes_sound`. -/
import Derived.Test.YtkajafmphemedaaEvD
namespace Go.Proofs.Ytkajafmphemedaa.Ev
open Go.RowKit

theorem replC_length (zs : List AV) : ∀ len, (replC zs len).length = len * zs.length
  | 0 => by simp [replC]
  | n + 1 => by simp [replC, replC_length zs n, Nat.succ_mul, Nat.add_comm]

theorem replC_get (zs : List AV) (h0 : 0 < zs.length) : ∀ (len i : Nat), i < len * zs.length → (replC zs len)[i]? = zs[i % zs.length]?
  | 0, i, h => by simp at h
  | n + 1, i, h => by
    simp only [replC, List.getElem?_append]
    split
    · rename_i hi
      rw [Nat.mod_eq_of_lt hi]
    · rename_i hi
      rw [replC_get zs h0 n (i - zs.length) (by rw [Nat.succ_mul] at h; omega), ← Nat.mod_eq_sub_mod (by omega)]

section
variable {P : Program} {w : World} {A : Nat → Prop} {r : Rr} {loc : Nat → Option Blk} {p : Operand → Option AV} {ev : Operand → Value} {nx : Nat} {o : Oper} {res : Res}

theorem xptr_inv {wd n row col : Nat} {get : Get AV} {v : Value} (h : VR w A r (.xptr wd n get row col) v) :
    ∃ (b o : Nat) (u : Nat → Nat → Value), v = .pointer (some ⟨b, o + (row * wd + col), none⟩) ∧ b < w.heap.size ∧ ¬ A b ∧ (∀ i k, i < n → k < wd → w.cell? ⟨b, o + (i * wd + k), none⟩ = some (u i k)) ∧
      (∀ i k, i < n → k < wd → VR w A noR (get i k) (u i k)) ∧ row < n := by
  cases h with
  | xptr u hb hA hc hv ho hrow => subst ho; exact ⟨_, _, u, rfl, hb, hA, hc, hv, hrow⟩

theorem part_rel {t : TypeId} {cs : List AV} {us : Array Value} {off : Nat} {x : AV} (hc : VRs w A r cs us) (h : partAV P t cs off = some x) : ∃ v, (part t us off).run P w = .ok v w ∧ VR w A r x v := by
  unfold partAV at h
  split at h
  · rename_i n hagg hsz
    injection h with h; subst h
    refine ⟨_, by simp only [part, Sem.run_bind, run_isAgg' hagg, Result.andThen_ok, if_true, run_sizeOf' hsz, Sem.run_pure]; rfl, .agg ?_ ?_⟩
    · simp; have := hc.1; omega
    · intro i y u hy hu
      rw [List.getElem?_take] at hy
      split at hy
      · rw [List.getElem?_drop] at hy
        rw [Array.getElem?_extract] at hu
        split at hu
        · exact hc.2 _ y u hy hu
        · simp at hu
      · simp at hy
  · rename_i n hagg hsz
    obtain ⟨u, hu, hr⟩ := hc.get h
    exact ⟨u, by simp only [part, Sem.run_bind, run_isAgg' hagg, Result.andThen_ok, Bool.false_eq_true, if_false, hu, Sem.run_pure], hr⟩
  · simp at h

theorem fieldPlace_run {s : TypeId} {f off b c : Nat} (h : fieldPlaceAV P s f = some off) : (Instr.fieldAt s (.pointer (some ⟨b, c, none⟩)) f).run P w = .ok (.pointer (some ⟨b, c + off, none⟩)) w := by
  unfold fieldPlaceAV at h
  split at h
  · rename_i fields hu
    split at h
    · rename_i fd hf
      split at h
      · simp at h
      · rename_i n hne hsz
        injection h with h; subst h
        have hn : ¬ n = 0 := hne
        simp only [Instr.fieldAt, Sem.run_bind, run_underlying hu, Result.andThen_ok, hf, Instr.sureAddr, Sem.run_pure, fieldPlace, run_sizeOf' hsz, Sem.run_ite, hn, if_false, addr_add]
      · simp at h
    · simp at h
  · simp at h

variable (hcx : Cx w A r loc p ev)
include hcx

theorem s_buildSlice {t : TypeId} {len : Nat} {parts : Array (Nat × Operand)} (hop : o.op = .buildSlice t len parts) (h : native P p loc nx o = some (true, res)) : Does P w A r loc nx (execOp ev o) res := by
  simp only [native, hop] at h
  split at h
  · rename_i e hu
    split at h
    · rename_i n zs ps hn hz hps
      split at h
      · rename_i hcond
        obtain ⟨h1, h2, h3⟩ := hcond
        obtain ⟨v, hzr, hzc⟩ := run_zero' (P := P) (w := w) (A := A) (r := r) hz
        obtain ⟨hl, hr⟩ := mapParts_rel hcx.val _ _ hps
        have eparts : (parts.map fun (i, x) => (i, ev x)).toList = parts.toList.map fun (i, x) => (i, ev x) := by simp
        cases hf : fillAV (fun i => some (i * n, n)) (replC zs len) ps with
        | none => simp [hf] at h
        | some cs =>
          simp [hf] at h; subst h
          have hzsz : v.cells.size = n := by rw [← hzc.1]; exact h1
          have hbase : VRs w A r (replC zs len) ((Array.range (len * n)).map (v.cells[· % v.cells.size]!)) := by
            refine ⟨by rw [replC_length, h1]; simp, fun i x u hx hu => ?_⟩
            have hi : i < len * n := by have := (List.getElem?_eq_some_iff.1 hx).1; rwa [replC_length, h1] at this
            rw [replC_get zs (by omega) len i (by rw [h1]; exact hi), h1] at hx
            have hm : i % n < v.cells.size := by rw [hzsz]; exact Nat.mod_lt _ h2
            simp [hi, hzsz] at hu
            refine hzc.2 (i % n) x u hx ?_
            rw [← hu, Array.getElem?_eq_getElem hm, getElem!_pos v.cells (i % n) hm]
          obtain ⟨us, hfill, hus⟩ := fill_rel _ ps _ _ cs _ hf hbase hl hr
          refine ⟨us, .slice (some ⟨w.heap.size, 0, none⟩) len len, ?_, hus, fun w' A' r' h' => .lsl h' (by simp) ⟨Nat.le_refl _, by have := Nat.le_mul_of_pos_right len h2; unfold maxL; omega⟩ (fun x hx => by injection hx)⟩
          have hsm : ¬ len * n > 2 ^ 24 := by omega
          rcases Nat.eq_zero_or_pos len with rfl | hpos
          · simp only [Nat.zero_mul, Array.range_zero', Array.map_empty] at hfill
            simp only [execOp, hop, Instr.buildSlice, Sem.run_bind, run_underlying hu, Result.andThen_ok, run_sizeOf' hn, Nat.zero_mul, Nat.not_lt_zero, gt_iff_lt, if_true, if_false, Array.range_zero', Array.map_empty, eparts, hfill, newRow, run_newObj, Sem.run_pure, World.alloc_eq]
          · have h0 : ¬ len * n = 0 := Nat.ne_of_gt (Nat.mul_pos hpos h2)
            simp only [execOp, hop, Instr.buildSlice, Sem.run_bind, run_underlying hu, Result.andThen_ok, run_sizeOf' hn, Sem.run_ite, hsm, h0, if_false, hzr, eparts, hfill, newRow, run_newObj, Sem.run_pure, World.alloc_eq]
      · simp at h
    · simp at h
  · simp at h

theorem s_nilCheck {x : Operand} (hop : o.op = .nilCheck x) (h : native P p loc nx o = some (true, res)) : Does P w A r loc nx (execOp ev o) res := by
  simp only [native, hop] at h
  split at h
  · rename_i j wd row col hx
    obtain ⟨b, hb, hv⟩ := lptr_inv (hcx.val _ _ hx)
    simp at h; subst h
    exact does_val (by simp only [execOp, hop, hv, Sem.run_pure]) (.lptr hb rfl)
  · rename_i wd n get row col hx
    have hx' := hcx.val _ _ hx
    obtain ⟨b, oo, u, hv, _⟩ := xptr_inv hx'
    simp at h; subst h
    rw [hv] at hx'
    exact does_val (by simp only [execOp, hop, hv, Sem.run_pure]) hx'
  · simp at h

theorem s_fieldAddr {s : TypeId} {x : Operand} {f : Nat} (hop : o.op = .fieldAddr s x f) (h : native P p loc nx o = some (true, res)) : Does P w A r loc nx (execOp ev o) res := by
  simp only [native, hop] at h
  split at h
  · rename_i j wd row col off hx hf
    obtain ⟨b, hb, hv⟩ := lptr_inv (hcx.val _ _ hx)
    simp at h; subst h
    exact does_val (v := .pointer (some ⟨b, row * wd + col + off, none⟩)) (by simp only [execOp, hop, hv, Sem.run_bind, fieldPlace_run hf, Result.andThen_ok, Sem.run_pure]) (.lptr hb (by omega))
  · rename_i wd n get row col off hx hf
    obtain ⟨b, oo, u, hv, h1, h2, h3, h4, h5⟩ := xptr_inv (hcx.val _ _ hx)
    simp at h; subst h
    exact does_val (v := .pointer (some ⟨b, oo + (row * wd + col) + off, none⟩)) (by simp only [execOp, hop, hv, Sem.run_bind, fieldPlace_run hf, Result.andThen_ok, Sem.run_pure]) (.xptr u h1 h2 h3 h4 (by omega) h5)
  · simp at h

theorem s_field {s : TypeId} {x : Operand} {f : Nat} (hop : o.op = .field s x f) (h : native P p loc nx o = some (true, res)) : Does P w A r loc nx (execOp ev o) res := by
  simp only [native, hop] at h
  split at h
  · rename_i cs fields hx hu
    split at h
    · rename_i fd hf
      have hx' := hcx.val _ _ hx
      generalize hev : ev x = z at hx'
      cases hx' with
      | agg hl h1 =>
        rename_i us
        cases hp : partAV P fd.type cs fd.offset with
        | none => simp [hp] at h
        | some y =>
          simp [hp] at h; subst h
          obtain ⟨v, hr, hvr⟩ := part_rel (P := P) ⟨hl, h1⟩ hp
          exact does_val (by simp only [execOp, hop, hev, Instr.field, Sem.run_bind, run_underlying hu, Result.andThen_ok, hf, asAgg, Sem.run_pure, hr]) hvr
    · simp at h
  · simp at h

theorem s_index {t : TypeId} {x ix : Operand} (hop : o.op = .index t x ix) (h : native P p loc nx o = some (true, res)) : Does P w A r loc nx (execOp ev o) res := by
  simp only [native, hop] at h
  split at h
  · rename_i cs k i len e hx hix hu
    split at h
    · rename_i n hn
      have hx' := hcx.val _ _ hx
      have hi' := hcx.val _ _ hix
      generalize hev : ev x = z at hx'
      generalize hei : ev ix = zi at hi'
      cases hi'
      cases hx' with
      | agg hl h1 =>
        rename_i us
        cases hp : partAV P e cs (i.toNat * n) with
        | none => simp [hp] at h
        | some y =>
          simp [hp] at h
          obtain ⟨hc, h⟩ := h
          subst h
          obtain ⟨v, hr, hvr⟩ := part_rel (P := P) ⟨hl, h1⟩ hp
          exact does_val (by simp only [execOp, hop, hev, hei, Instr.index, asIntOf, Sem.run_bind, Sem.run_pure, run_underlying hu, Result.andThen_ok, Sem.run_ite, hc, and_self, if_true, run_sizeOf' hn, hr]) hvr
    · simp at h
  · simp at h

theorem s_indexAddr {t : TypeId} {x ix : Operand} (hop : o.op = .indexAddr t x ix) (h : native P p loc nx o = some (true, res)) : Does P w A r loc nx (execOp ev o) res := by
  simp only [native, hop] at h
  split at h
  · rename_i j wd row col k i len e hx hix hu
    split at h
    · rename_i n hn
      obtain ⟨b, hb, hv⟩ := lptr_inv (hcx.val _ _ hx)
      have hi' := hcx.val _ _ hix
      generalize hei : ev ix = zi at hi'
      cases hi'
      simp at h
      obtain ⟨hc, h⟩ := h
      subst h
      exact does_val (v := .pointer (some ⟨b, row * wd + col + i.toNat * n, none⟩)) (by simp only [execOp, hop, hv, hei, Instr.indexAt, asIntOf, Sem.run_bind, Sem.run_pure, run_underlying hu, Result.andThen_ok, Instr.sureAddr, Sem.run_ite, hc, and_self, if_true, run_sizeOf' hn, addr_add]) (.lptr hb (by omega))
    · simp at h
  · rename_i wd m get row col k i len e hx hix hu
    split at h
    · rename_i n hn
      obtain ⟨b, oo, u, hv, h1, h2, h3, h4, h5⟩ := xptr_inv (hcx.val _ _ hx)
      have hi' := hcx.val _ _ hix
      generalize hei : ev ix = zi at hi'
      cases hi'
      simp at h
      obtain ⟨hc, h⟩ := h
      subst h
      exact does_val (v := .pointer (some ⟨b, oo + (row * wd + col) + i.toNat * n, none⟩)) (by simp only [execOp, hop, hv, hei, Instr.indexAt, asIntOf, Sem.run_bind, Sem.run_pure, run_underlying hu, Result.andThen_ok, Instr.sureAddr, Sem.run_ite, hc, and_self, if_true, run_sizeOf' hn, addr_add]) (.xptr u h1 h2 h3 h4 (by omega) h5)
    · simp at h
  · rename_i j wd row col len cap k i e hx hix hu
    split at h
    · rename_i n hn
      split at h
      · rename_i hnw
        have hx' := hcx.val _ _ hx
        have hi' := hcx.val _ _ hix
        generalize hev : ev x = z at hx'
        generalize hei : ev ix = zi at hi'
        cases hi'
        cases hx' with
        | lsl hb ho hl hcap =>
          subst ho; subst hnw
          simp at h
          obtain ⟨hc, h⟩ := h
          subst h
          rename_i bb cc
          exact does_val (v := .pointer (some ⟨bb, row * n + col + i.toNat * n, none⟩)) (by simp only [execOp, hop, hev, hei, Instr.indexAt, asIntOf, Sem.run_bind, Sem.run_pure, run_underlying hu, Result.andThen_ok, Sem.run_ite, hc, and_self, if_true, run_sizeOf' hn, addr_add]) (.lptr hb (by rw [Nat.add_mul]; omega))
      · simp at h
    · simp at h
  · rename_i wd m get row len cap k i e hx hix hu
    split at h
    · rename_i n hn
      split at h
      · rename_i hnw
        have hx' := hcx.val _ _ hx
        have hi' := hcx.val _ _ hix
        generalize hev : ev x = z at hx'
        generalize hei : ev ix = zi at hi'
        cases hi'
        cases hx' with
        | xsl b oo u hl hcap hm ha hcc hv =>
          simp at h
          obtain ⟨hc, h⟩ := h
          subst h
          have h0 : 0 < len := by omega
          obtain ⟨ea, hb, hA⟩ := ha h0
          subst ea
          subst hnw
          exact does_val (v := .pointer (some ⟨b, oo + row * n + i.toNat * n, none⟩)) (by simp only [execOp, hop, hev, hei, Instr.indexAt, asIntOf, Sem.run_bind, Sem.run_pure, run_underlying hu, Result.andThen_ok, Sem.run_ite, hc, and_self, if_true, run_sizeOf' hn, addr_add])
            (.xptr u hb hA (hcc h0) (hv h0) (by rw [Nat.add_mul]; omega) (by omega))
      · simp at h
    · simp at h
  · simp at h

theorem s_makeFunc {f : Fn} {xs ys : Array Operand} (hop : o.op = .makeFunc f xs ys) (h : native P p loc nx o = some (true, res)) : Does P w A r loc nx (execOp ev o) res := by
  simp only [native, hop] at h
  split at h
  · rename_i us vs hu hv
    simp at h; subst h
    have h1 := mapEv_rel hcx.val _ _ hu
    have h2 := mapEv_rel hcx.val _ _ hv
    have e1 : (xs.toList.map ev).toArray = xs.map ev := Array.ext' (by simp)
    have e2 : (ys.toList.map ev).toArray = ys.map ev := Array.ext' (by simp)
    rw [e1] at h1
    rw [e2] at h2
    exact does_val (v := .func f (xs.map ev) (ys.map ev)) (by simp only [execOp, hop, Instr.makeFunc, Sem.run_bind, Sem.run_pure, Result.andThen_ok]) (.fn h1.1 h2.1 h1.2 h2.2)
  · simp at h

theorem s_extract {x : Operand} {i : Nat} (hop : o.op = .extract x i) (h : native P p loc nx o = some (true, res)) : Does P w A r loc nx (execOp ev o) res := by
  simp only [native, hop] at h
  split at h
  · rename_i vs hx
    have hx' := hcx.val _ _ hx
    generalize hev : ev x = z at hx'
    cases hx' with
    | tup hl h1 =>
      rename_i us
      cases hv : vs[i]? with
      | none => simp [hv] at h
      | some y =>
        simp [hv] at h; subst h
        obtain ⟨u, hu, hr⟩ := VRs.get (w := w) (A := A) (r := r) (us := us) ⟨hl, h1⟩ hv
        exact does_val (by simp only [execOp, hop, hev, Instr.extract, hu, Sem.run_bind, Sem.run_pure, Result.andThen_ok]) hr
  · simp at h

theorem s_div {b : BinOp} {t t' : TypeId} {x y : Operand} (hop : o.op = .binOp b t x y t') (h : native P p loc nx o = some (true, res)) : Does P w A r loc nx (execOp ev o) res := by
  simp only [native, hop] at h
  split at h
  · rename_i k m k' n hx hy
    split at h
    · rename_i hk
      have hk' : k = k' := by simpa using hk
      subst hk'
      injection h with h; injection h with h1 h2; subst h2
      have hn : ¬ n = 0 := by simpa using h1
      have hx' := hcx.val _ _ hx
      have hy' := hcx.val _ _ hy
      generalize hev : ev x = z at hx'
      generalize hew : ev y = u at hy'
      cases hx'; cases hy'
      refine does_val (v := .int k (k.wrap (m.tdiv n))) ?_ .int
      simp [execOp, hop, hev, hew, eqGuard, binOp, Op.intDiv, hn]
    · simp at h
  · rename_i k m k' n hx hy
    split at h
    · rename_i hk
      have hk' : k = k' := by simpa using hk
      subst hk'
      injection h with h; injection h with h1 h2; subst h2
      have hn : ¬ n = 0 := by simpa using h1
      have hx' := hcx.val _ _ hx
      have hy' := hcx.val _ _ hy
      generalize hev : ev x = z at hx'
      generalize hew : ev y = u at hy'
      cases hx'; cases hy'
      refine does_val (v := .int k (m.tmod n)) ?_ .int
      simp [execOp, hop, hev, hew, eqGuard, binOp, Op.intDiv, hn]
    · simp at h
  · simp at h

theorem s_call {c : Call} (hop : o.op = .call c) (h : native P p loc nx o = some (true, res)) : Does P w A r loc nx (execOp ev o) res := by
  simp only [native, hop] at h
  split at h
  · rename_i hcal
    split at h
    · rename_i x t hargs htys
      split at h
      · rename_i v n hx hs
        cases hl : lenAV v with
        | none => simp [hl] at h
        | some m =>
          simp [hl] at h; subst h
          have e1 : c.args.map ev = #[ev x] := by
            apply Array.ext'; simp [hargs]
          have e2 : c.argTypes = #[t] := by
            apply Array.ext'; simp [htys]
          have hx' := hcx.val _ _ hx
          unfold sliceT at hs
          split at hs
          · rename_i e hu
            have key : ∃ a cc, ev x = .slice a m cc := by
              generalize ev x = z at hx'
              cases hx' with
              | lsl _ _ h3 _ => simp [lenAV, clampL_eq h3.2] at hl; subst hl; exact ⟨_, _, rfl⟩
              | xsl _ _ _ h3 _ _ _ _ _ => simp [lenAV, clampL_eq h3.2] at hl; subst hl; exact ⟨_, _, rfl⟩
              | nilsl => simp [lenAV] at hl; subst hl; exact ⟨_, _, rfl⟩
              | _ => simp [lenAV] at hl
            obtain ⟨a, cc, hev⟩ := key
            refine does_val (v := .int .i64 m) ?_ .int
            simp only [execOp, hop, resolve, hcal, e1, e2, Sem.run_bind, Sem.run_pure, Result.andThen_ok, invoke, builtin, Builtin.len_, List.getElem?_toArray, List.getElem?_cons_zero, hev, run_underlying hu, goInt]
          · simp at hs
      · simp at h
    · simp at h
  · rename_i f hcal
    split at h
    · rename_i g vs hf hvs
      cases hc : callAV P g vs with
      | none => simp [hc] at h
      | some rr =>
        simp [hc] at h; subst h
        unfold callAV at hc
        split at hc
        · rename_i gi xs ys
          split at hc
          · rename_i fn hfn
            split at hc
            · rename_i hok
              injection hc with hc; subst hc
              have hf' := hcx.val _ _ hf
              have h1 := mapEv_rel hcx.val _ _ hvs
              have e1 : (c.args.toList.map ev).toArray = c.args.map ev := Array.ext' (by simp)
              rw [e1] at h1
              generalize hev : ev f = z at hf'
              cases hf' with
              | fn hx hy hr1 hr2 =>
                rename_i us ws
                simp only [nameOk, Bool.and_eq_true, Bool.not_eq_true'] at hok
                obtain ⟨hb, hn⟩ := hok
                have hbn : fn.body.isNone = false := by
                  cases hbb : fn.body with
                  | none => simp [hbb] at hb
                  | some b => rfl
                refine ⟨us ++ c.args.map ev ++ ws, ?_, VRs.append (VRs.append ⟨hx, hr1⟩ h1) ⟨hy, hr2⟩⟩
                simp only [execOp, hop, resolve, hcal, hev, Deferred.ofValue, Sem.run_bind, Sem.run_pure, Result.andThen_ok, invoke, callFunc, run_program, hfn, hn, Bool.false_eq_true, if_false, hbn]
            · simp at hc
          · simp at hc
        · simp at hc
    · simp at h
  · simp at h

theorem bound_run {o : Operand} {dflt n n' l : Nat} {code : BoundsCode} (h : boundAV p (some o) dflt n = some (true, l)) (hn : n ≤ n') : (Instr.sliceBound (ev o) n' code).run P w = .ok l w ∧ l ≤ n := by
  unfold boundAV at h
  simp only at h
  split at h
  · rename_i k i hi
    have hi' := hcx.val _ _ hi
    generalize hei : ev o = z at hi'
    cases hi'
    simp at h
    obtain ⟨hc, h⟩ := h
    subst h
    have hc' : 0 ≤ i ∧ i ≤ n' := by omega
    exact ⟨by simp only [Instr.sliceBound, asIntOf, Sem.run_bind, Sem.run_pure, Result.andThen_ok, Sem.run_ite, hc', and_self, if_true], by omega⟩
  · simp at h

omit hcx in
theorem xsl_cut {wd m row len c k h l n : Nat} {cap cap' : Option Nat} {get : Get AV} {a : Option Addr} (hx : VR w A r (.xsl wd m get row len cap) (.slice a len c)) (h1 : l ≤ h) (h2 : h ≤ len) (h3 : h ≤ k) (h4 : n = wd) (h5 : ∀ x, cap' = some x → k - l = x) :
    VR w A r (.xsl wd m get (row + l) (h - l) cap') (.slice (if k = l then a else a.map (·.add (l * n))) (h - l) (k - l)) := by
  cases hx with
  | xsl b oo u hl hcap hm ha hcc hv =>
    refine .xsl b oo u ⟨by omega, by have := hl.2; omega⟩ h5 (by omega) (fun h0 => ?_) (fun h0 => hcc (by omega)) (fun h0 => hv (by omega))
    obtain ⟨e, hb, hA⟩ := ha (by omega)
    subst e; subst h4
    rw [if_neg (by omega)]
    exact ⟨by simp only [Option.map_some, addr_add]; rw [Nat.add_mul, Nat.add_assoc], hb, hA⟩

omit hcx in
theorem bound_dflt {dflt n l : Nat} {c : Bool} (h : boundAV p none dflt n = some (c, l)) : c = true ∧ l = dflt := by
  simp [boundAV] at h; exact ⟨h.1, h.2.symm⟩

theorem s_slice {t : TypeId} {x : Operand} {lo hi mx : Option Operand} (hop : o.op = .slice t x lo hi mx) (h : native P p loc nx o = some (true, res)) : Does P w A r loc nx (execOp ev o) res := by
  cases mx with
  | none =>
    simp only [native, hop] at h
    split at h
    · rename_i wd m get row len cap n hx hs
      split at h
      · rename_i c1 hh h1
        split at h
        · rename_i c2 l h2
          split at h
          · rename_i hnw
            simp at h
            obtain ⟨⟨hc1, hc2⟩, h⟩ := h
            subst hc1; subst hc2; subst h
            have hx' := hcx.val _ _ hx
            have key : ∃ a c, ev x = .slice a len c ∧ len ≤ c ∧ ∀ y, cap = some y → c = y := by
              generalize ev x = z at hx'
              cases hx' with
              | xsl b oo u hl hcap hm ha hcc hv => exact ⟨_, _, rfl, hl.1, hcap⟩
            obtain ⟨a, c, hev, hcap, hcap2⟩ := key
            rw [hev] at hx'
            unfold sliceT at hs
            split at hs
            · rename_i e hu
              have hH : hh ≤ len ∧ ∀ (code1 : BoundsCode), ((match hi.map ev with | some v => Instr.sliceBound v c code1 | none => pure len) : Sem Nat).run P w = .ok hh w := by
                cases hi with
                | none => obtain ⟨_, e⟩ := bound_dflt h1; subst e; exact ⟨Nat.le_refl _, fun _ => rfl⟩
                | some o => exact ⟨(bound_run (P := P) (code := .index) hcx h1 hcap).2, fun code => (bound_run (P := P) (code := code) hcx h1 hcap).1⟩
              have hL : l ≤ hh ∧ ∀ (code1 : BoundsCode), ((match lo.map ev with | some v => Instr.sliceBound v hh code1 | none => pure 0) : Sem Nat).run P w = .ok l w := by
                cases lo with
                | none => obtain ⟨_, e⟩ := bound_dflt h2; subst e; exact ⟨Nat.zero_le _, fun _ => rfl⟩
                | some o => exact ⟨(bound_run (P := P) (code := .index) hcx h2 (Nat.le_refl _)).2, fun code => (bound_run (P := P) (code := code) hcx h2 (Nat.le_refl _)).1⟩
              refine does_val ?_ (xsl_cut (k := c) hx' hL.1 hH.1 (Nat.le_trans hH.1 hcap) hnw (fun y hy => by cases hcc : cap with | none => simp [hcc] at hy | some z => simp [hcc] at hy; have := hcap2 z hcc; omega))
              have r1 := hH.2 .sliceAcap
              have r2 := hL.2 .sliceB
              cases hi <;> cases lo <;> (try obtain ⟨_, rfl⟩ := bound_dflt h1) <;> (try obtain ⟨_, rfl⟩ := bound_dflt h2) <;> (try simp only [Option.map_some] at r1) <;> (try simp only [Option.map_some] at r2) <;>
                simp only [execOp, hop, hev, Option.map_some, Option.map_none, Instr.sliceAt, Instr.slice, Sem.run_bind, run_underlying hu, Result.andThen_ok, Instr.sliceBounds, Sem.run_pure, if_true, Option.isSome_none, Bool.false_eq_true, if_false, r1, r2, run_sizeOf' hs]
            · simp at hs
          · simp at h
        · simp at h
      · simp at h
    · simp at h
  | some m => 
    cases hi with
    | none => simp [native, hop] at h
    | some hi =>
    simp only [native, hop] at h
    split at h
    · rename_i wd mm get row len cap n hx hs
      split at h
      · rename_i c0 k h0
        split at h
        · rename_i c1 hh h1
          split at h
          · rename_i c2 l h2
            split at h
            · rename_i hnw
              simp at h
              obtain ⟨⟨hc0, hc1, hc2, hle⟩, h⟩ := h
              subst hc0; subst hc1; subst hc2; subst h
              have hx' := hcx.val _ _ hx
              have key : ∃ a, ev x = .slice a len cap := by
                generalize ev x = z at hx'
                cases hx' with
                | xsl b oo u hl hcap hm ha hcc hv => have := hcap cap rfl; subst this; exact ⟨_, rfl⟩
              obtain ⟨a, hev⟩ := key
              rw [hev] at hx'
              unfold sliceT at hs
              split at hs
              · rename_i e hu
                have hK := bound_run (P := P) (code := .slice3Acap) hcx h0 (Nat.le_refl _)
                have hH := bound_run (P := P) (code := .slice3B) hcx h1 (Nat.le_refl _)
                have hL : l ≤ hh ∧ ∀ (code1 : BoundsCode), ((match lo.map ev with | some v => Instr.sliceBound v hh code1 | none => pure 0) : Sem Nat).run P w = .ok l w := by
                  cases lo with
                  | none => obtain ⟨_, e⟩ := bound_dflt h2; subst e; exact ⟨Nat.zero_le _, fun _ => rfl⟩
                  | some o => exact ⟨(bound_run (P := P) (code := .index) hcx h2 (Nat.le_refl _)).2, fun code => (bound_run (P := P) (code := code) hcx h2 (Nat.le_refl _)).1⟩
                refine does_val ?_ (xsl_cut (k := k) hx' hL.1 hle hH.2 hnw (fun y hy => by injection hy))
                have r2 := hL.2 .slice3C
                cases lo <;> (try obtain ⟨_, rfl⟩ := bound_dflt h2) <;> (try simp only [Option.map_some] at r2) <;>
                  simp only [execOp, hop, hev, Option.map_some, Option.map_none, Instr.sliceAt, Instr.slice, Sem.run_bind, run_underlying hu, Result.andThen_ok, Instr.sliceBounds, Sem.run_pure, if_true, Option.isSome_some, hK.1, hH.1, r2, run_sizeOf' hs]
              · simp at hs
            · simp at h
          · simp at h
        · simp at h
      · simp at h
    · simp at h

end

/-- All rules at once. -/
theorem native_sound {P : Program} {w : World} {A : Nat → Prop} {r : Rr} {loc : Nat → Option Blk} {p : Operand → Option AV} {ev : Operand → Value} {nx : Nat} {o : Oper} {res : Res}
    (hcx : Cx w A r loc p ev) (h : native P p loc nx o = some (true, res)) : Does P w A r loc nx (execOp ev o) res := by
  cases hop : o.op with
  | move x => exact s_move hcx (.inl hop) h
  | assign x => exact s_move hcx (.inr hop) h
  | pick c a b => exact s_pick hcx hop h
  | alloc t => exact s_alloc hop h
  | box t x => exact s_box hcx hop h
  | build t ps => exact s_build hcx hop h
  | buildSlice t n ps => exact s_buildSlice hcx hop h
  | load t x => exact s_load hcx hop h
  | store t a x => exact s_store hcx hop h
  | nilCheck x => exact s_nilCheck hcx hop h
  | makeFunc f xs ys => exact s_makeFunc hcx hop h
  | slice t x lo hi mx => exact s_slice hcx hop h
  | fieldAddr s x f => exact s_fieldAddr hcx hop h
  | field s x f => exact s_field hcx hop h
  | indexAddr t x i => exact s_indexAddr hcx hop h
  | index t x i => exact s_index hcx hop h
  | extract x i => exact s_extract hcx hop h
  | binOp b t x y t' => exact s_div hcx hop h
  | call c => exact s_call hcx hop h
  | _ => simp [native, hop] at h

theorem allPlain_mem {p : Operand → Option AV} : ∀ {xs : List Operand}, allPlain p xs = true → ∀ x ∈ xs, ∃ v, plainOf p x = some v
  | [], _, x, hx => by cases hx
  | y :: ys, h, x, hx => by
    simp only [allPlain] at h
    split at h
    · rename_i v hv
      rcases List.mem_cons.1 hx with rfl | hx
      · exact ⟨v, hv⟩
      · exact allPlain_mem h x hx
    · simp at h

theorem byCalm_sound {P : Program} {w : World} {A : Nat → Prop} {r : Rr} {loc : Nat → Option Blk} {p : Operand → Option AV} {ev : Operand → Value} {nx : Nat} {o : Oper} {res : Res}
    (hcx : Cx w A r loc p ev) (h : byCalm P p o = some (true, res)) : Does P w A r loc nx (execOp ev o) res := by
  unfold byCalm at h
  split at h
  · rename_i hc
    simp only [Bool.and_eq_true] at hc
    split at h
    · rename_i v hv
      cases hx : ofV v with
      | none => simp [hx] at h
      | some x =>
        simp [hx] at h; subst h
        have hns : ∀ cs b, o.op ≠ .select cs b := fun cs b e => by simp [e, notSelect] at hc
        have hcong : execOp ev o = execOp (rhoOf p) o := execOp_congr o hns fun x hx => by
          obtain ⟨u, hu⟩ := allPlain_mem hc.2 x (by simpa using hx)
          have hu' := hu
          unfold plainOf at hu'
          split at hu'
          · rename_i z hz
            rw [plainV_eq hu' (hcx.val _ _ hz)]
            simp [rhoOf, hu]
          · simp at hu'
        exact ⟨v, by rw [hcong]; exact calm_run P _ _ hv w, ofV_rel hx⟩
    · simp at h
  · simp at h

theorem opRes_sound {P : Program} {w : World} {A : Nat → Prop} {r : Rr} {loc : Nat → Option Blk} {p : Operand → Option AV} {ev : Operand → Value} {nx : Nat} {o : Oper} {res : Res}
    (hcx : Cx w A r loc p ev) (h : opRes P p loc nx o = some (true, res)) : Does P w A r loc nx (execOp ev o) res := by
  unfold opRes at h
  split at h
  · rename_i rr hr
    injection h with h; subst h
    exact native_sound hcx hr
  · exact byCalm_sound hcx h

end Go.Proofs.Ytkajafmphemedaa.Ev
