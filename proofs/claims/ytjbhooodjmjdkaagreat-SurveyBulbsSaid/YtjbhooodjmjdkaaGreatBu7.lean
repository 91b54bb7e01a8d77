/- Parts of the proof, one behind the other: KSrt, KN, KN2, KN3, KN4, KBl1, KBl2, KBl3, KBl4, EvX, KBl5, KBl6. No conditions. -/
import Derived.Sort.OwnSortedInts
import Derived.Shelf.Slices.In.SortNone
import Derived.Shelf.SlSortCmp.NoneTotal
import Derived.Test.YtjbhooodjmjdkaaGreatBu6
/-! KSrt -/
namespace Go.Proofs.YtjbhooodjmjdkaaGreat
open Ev K
open Go.Sort Go.Proofs Go.Shelf
set_option maxRecDepth 100000
namespace K
def sortL (l : List Int) : List Int := l.mergeSort fun x y => decide (x ≤ y)
theorem sortL_length (l : List Int) : (sortL l).length = l.length := List.length_mergeSort l
theorem rows_int {w : World} {A : Nat → Prop} {g : Get AV} {n : Nat} {rows : List Value} (ht : g.tag = [.int .i64]) (hl : rows.length = n * 1) (h : RowsR w A g n 1 rows) : rows = (decF rInt n g.f).map (Value.int .i64) := by
  apply List.ext_getElem?
  intro i
  by_cases hi : i < n
  · obtain ⟨u, hu, hv⟩ := h i 0 hi (by decide)
    rw [Nat.mul_one, Nat.add_zero] at hu
    have hv : VR w A noR (.int .i64 (numOf (g.f i 0))) u := by
      have : g.cell i 0 = .int .i64 (numOf (g.f i 0)) := by simp only [Get.cell, ht, ckAt, conf]
      rw [← this]; exact hv
    cases hv
    rw [hu]
    simp [decF, hi, rInt]
  · rw [List.getElem?_eq_none (by omega), List.getElem?_eq_none (by simp [decF]; omega)]
theorem mc_sort {P : Program} {ρ : Ren} (L : Lays.n189 P ρ) {n : Nat} {g : Get AV} (ht : g.tag = [.int .i64]) (hn : n < 4611686018427387904) : MC P (ρ.f 189) 1 n g ⟨[.int .i64], encF rInt (sortL (decF rInt n g.f))⟩ [] := by
  intro ro m A w t e c rows us hA hob h0 hnc hwd hown hrows hus
  have hus0 : us = #[] := by have := hus.1; exact Array.eq_empty_of_size_eq_zero this.symm
  subst hus0
  apply callsIn_round
  rw [Array.append_empty]
  have hlen : (decF rInt n g.f).length = n := decF_length ..
  cases e with
  | zero =>
    obtain ⟨rfl, rfl⟩ := h0 rfl
    refine (callsIn_wide.2 (Any.slices_Sort_int_none L none 0 w)).mono ?_
    rintro en w' ⟨rfl, rfl⟩
    exact ⟨rfl, rows, ⟨⟨rfl, rfl, rfl, Nat.le_refl _, fun _ _ _ => rfl⟩, Nat.le_refl _⟩, hown, fun i k hi => absurd hi (Nat.not_lt_zero _)⟩
  | succ b =>
    have hr := rows_int ht hown.1 hrows
    obtain ⟨hl, hown⟩ := hown
    rcases hown with ⟨hv, _⟩ | ⟨g0, cap, cur, hv, hbase, hheap, hle, hmax, hsz, htake⟩
    · cases hv
    · cases hv
      have hH : Holds (Value.int .i64) w b 0 (decF rInt n g.f).toArray := holds_of_blockI hheap (by rw [hlen, ← hr, ← htake, Nat.mul_one])
      have hlt : b < w.heap.size := (Array.getElem?_eq_some_iff.1 hheap).1
      have hc := Any.slices_Sort_int L b 0 c (decF rInt n g.f) w hH hlt (by rw [hlen]; exact hn)
      rw [hlen] at hc
      refine (callsIn_wide.2 hc).mono ?_
      rintro en w' ⟨rfl, n', os, rfl⟩
      have ho := ownsRow_sortedI (w := w) (base := 0) (g := b) (cap := c) (n := n') (e := t) (os := os) (cur := cur) (ss := decF rInt n g.f) (ts := sortL (decF rInt n g.f)) (sortL_length _) (Nat.zero_le _) hheap (by rw [hlen]; exact hle) hmax hsz
      rw [hlen] at ho
      refine ⟨rfl, _, ⟨grownBy_sortedI _, Nat.le_add_right _ _⟩, ho, fun i k hi hk => ?_⟩
      have hk : k = 0 := by omega
      subst hk
      have hi' : i < (sortL (decF rInt n g.f)).length := by rw [sortL_length, hlen]; exact hi
      refine ⟨.int .i64 (sortL (decF rInt n g.f))[i], by simp [hi'], ?_⟩
      have : (⟨[.int .i64], encF rInt (sortL (decF rInt n g.f))⟩ : Get AV).cell i 0 = .int .i64 (sortL (decF rInt n g.f))[i] := by
        simp only [Get.cell, ckAt, conf]
        rw [encF_at (List.getElem?_eq_getElem hi')]; rfl
      rw [this]; exact .int
/-- What the sort of a list of numbers comes to. -/
def sortE : List AV → Option (T AV)
  | .osl _ _ _ :: .xsl wd n g _ _ _ :: [] => match Nat.beq wd 1 && ckLEq g.tag [.int .i64] with
    | true => some (.chk (decide (n < 4611686018427387904)) (.ret (.xsl 1 n ⟨[.int .i64], encF rInt (sortL (decF rInt n g.f))⟩ 0 n none)))
    | false => none
  | _ => none
theorem sortE_cc {P : Program} {f : FuncId} (h : ∀ n (g : Get AV), g.tag = [.int .i64] → n < 4611686018427387904 → MC P f 1 n g ⟨[.int .i64], encF rInt (sortL (decF rInt n g.f))⟩ []) (args : List AV) (t : T AV) (v : AV) (ht : sortE args = some t) (hr : t.run = some v) : CC P f args v := by
  unfold sortE at ht
  split at ht
  · rename_i j0 v0 n0 wd n g a b c
    split at ht
    · rename_i hc
      simp only [Bool.and_eq_true] at hc
      have e1 := Nat.eq_of_beq_eq_true hc.1; have e2 := ckLEq_eq hc.2; subst e1
      injection ht with ht; subst ht
      obtain ⟨g1, e⟩ := chk_ret hr
      subst e
      exact h n g e2 (of_decide_eq_true g1)
    · cases ht
  · cases ht
end K
noncomputable def BKSrt : Tab := BKJ1.addTurn 60 K.sortE
theorem tKSrt : TabOk P BKSrt := TabOk.addTurn tKJ1 (K.sortE_cc fun n g h1 h2 => K.mc_sort Tryz.lays189 h1 h2)
end Go.Proofs.YtjbhooodjmjdkaaGreat
/-! KN -/
namespace Go.Proofs.YtjbhooodjmjdkaaGreat
open Ev K
set_option maxRecDepth 100000
def D_rid := DecL.last (dI .i64) 0
theorem fn_r_id : ∀ a, (callT1 P BKJ1 30 90 D_rid dB) a = T.run (
  .br (decide (a ≥ (1 : Int))) (
    .ret (decide (a ≤ (1099511627776 : Int)))) (
    .ret (false))) := fun a => by kernel_rfl
noncomputable def K.r_id (a : Int) : Bool := (if (decide (a ≥ (1 : Int))) = true then decide (a ≤ (1099511627776 : Int)) else false)
theorem eq_r_id (a : Int) : (callT1 P BKJ1 30 90 D_rid dB) a = some (K.r_id a) := (fn_r_id a).trans (T.br_some rfl rfl)
noncomputable def BKN1 : Tab := BKJ1.addCall 90 (callE D_rid dB (fun a => .ret (K.r_id a)))
theorem tKN1 : TabOk P BKN1 := TabOk.addFn (d := 30) okP tKJ1 (fun a r h => by rw [eq_r_id]; exact congrArg some (ret_some h))
def D_rspan := DecL.cons (dSpan) (.cons (dI .i64) (.last (dI .i64) 0))
theorem fn_r_span : ∀ a, (callT1 P BKN1 30 91 D_rspan dB) a = T.run (
  .br (decide (Span.lo (Prod.fst a) ≥ Prod.fst (Prod.snd a))) (
    .br (decide (Span.lo (Prod.fst a) ≤ Span.hi (Prod.fst a))) (
      .ret (decide (Span.hi (Prod.fst a) ≤ Prod.snd (Prod.snd a)))) (
      .ret (false))) (
    .ret (false))) := fun a => by kernel_rfl
noncomputable def K.r_span (a : Span × Int × Int) : Bool := (if (decide (Span.lo (Prod.fst a) ≥ Prod.fst (Prod.snd a))) = true then (if (decide (Span.lo (Prod.fst a) ≤ Span.hi (Prod.fst a))) = true then decide (Span.hi (Prod.fst a) ≤ Prod.snd (Prod.snd a)) else false) else false)
theorem eq_r_span (a : Span × Int × Int) : (callT1 P BKN1 30 91 D_rspan dB) a = some (K.r_span a) := (fn_r_span a).trans (T.br_some (T.br_some rfl rfl) rfl)
noncomputable def BKN2 : Tab := BKN1.addCall 91 (callE D_rspan dB (fun a => .ret (K.r_span a)))
theorem tKN2 : TabOk P BKN2 := TabOk.addFn (d := 30) okP tKN1 (fun a r h => by rw [eq_r_span]; exact congrArg some (ret_some h))
def D_rnone := DecL.last (dSpan) 0
theorem fn_r_none : ∀ a, (callT1 P BKN2 30 71 D_rnone dB) a = T.run (
  .ret (decide (Span.lo a > Span.hi a))) := fun a => by kernel_rfl
noncomputable def K.r_none (a : Span) : Bool := decide (Span.lo a > Span.hi a)
theorem eq_r_none (a : Span) : (callT1 P BKN2 30 71 D_rnone dB) a = some (K.r_none a) := (fn_r_none a).trans rfl
noncomputable def BKN3 : Tab := BKN2.addCall 71 (callE D_rnone dB (fun a => .ret (K.r_none a)))
theorem tKN3 : TabOk P BKN3 := TabOk.addFn (d := 30) okP tKN2 (fun a r h => by rw [eq_r_none]; exact congrArg some (ret_some h))
def D_rboth := DecL.cons (dSpan) (.last (dSpan) 0)
theorem fn_r_both : ∀ a, (callT1 P BKN3 30 79 D_rboth dSpan) a = T.run (
  .ret (Span.mk (if Span.lo (Prod.snd a) > Span.lo (Prod.fst a) then Span.lo (Prod.snd a) else Span.lo (Prod.fst a)) (if Span.hi (Prod.snd a) < Span.hi (Prod.fst a) then Span.hi (Prod.snd a) else Span.hi (Prod.fst a)))) := fun a => by kernel_rfl
noncomputable def K.r_both (a : Span × Span) : Span := Span.mk (if Span.lo (Prod.snd a) > Span.lo (Prod.fst a) then Span.lo (Prod.snd a) else Span.lo (Prod.fst a)) (if Span.hi (Prod.snd a) < Span.hi (Prod.fst a) then Span.hi (Prod.snd a) else Span.hi (Prod.fst a))
theorem eq_r_both (a : Span × Span) : (callT1 P BKN3 30 79 D_rboth dSpan) a = some (K.r_both a) := (fn_r_both a).trans rfl
noncomputable def BKN4 : Tab := BKN3.addCall 79 (callE D_rboth dSpan (fun a => .ret (K.r_both a)))
theorem tKN4 : TabOk P BKN4 := TabOk.addFn (d := 30) okP tKN3 (fun a r h => by rw [eq_r_both]; exact congrArg some (ret_some h))
def D_rall := DecL.last (dGlass) 0
theorem fn_r_all : ∀ a, (callT1 P BKN4 30 80 D_rall dSpan) a = T.run (
  .ret (Span.mk (IntKind.wrap IntKind.i64 (Span.lo (Glass.shown a) - Glass.dense a)) (IntKind.wrap IntKind.i64 (Span.hi (Glass.shown a) - Glass.dense a)))) := fun a => by kernel_rfl
noncomputable def K.r_all (a : Glass) : Span := Span.mk (IntKind.wrap IntKind.i64 (Span.lo (Glass.shown a) - Glass.dense a)) (IntKind.wrap IntKind.i64 (Span.hi (Glass.shown a) - Glass.dense a))
theorem eq_r_all (a : Glass) : (callT1 P BKN4 30 80 D_rall dSpan) a = some (K.r_all a) := (fn_r_all a).trans rfl
noncomputable def BKN5 : Tab := BKN4.addCall 80 (callE D_rall dSpan (fun a => .ret (K.r_all a)))
theorem tKN5 : TabOk P BKN5 := TabOk.addFn (d := 30) okP tKN4 (fun a r h => by rw [eq_r_all]; exact congrArg some (ret_some h))
def D_rdown := DecL.last (dI .i64) 0
theorem fn_r_down : ∀ a, (callT1 P BKN5 30 230 D_rdown (dI .i64)) a = T.run (
  .ret (IntKind.wrap IntKind.i64 (Int.tdiv (IntKind.wrap IntKind.i64 (a - Int.tmod (IntKind.wrap IntKind.i64 (Int.tmod a (2 : Int) + (2 : Int))) (2 : Int))) (2 : Int)))) := fun a => by kernel_rfl
noncomputable def K.r_down (a : Int) : Int := IntKind.wrap IntKind.i64 (Int.tdiv (IntKind.wrap IntKind.i64 (a - Int.tmod (IntKind.wrap IntKind.i64 (Int.tmod a (2 : Int) + (2 : Int))) (2 : Int))) (2 : Int))
theorem eq_r_down (a : Int) : (callT1 P BKN5 30 230 D_rdown (dI .i64)) a = some (K.r_down a) := (fn_r_down a).trans rfl
noncomputable def BKN6 : Tab := BKN5.addCall 230 (callE D_rdown (dI .i64) (fun a => .ret (K.r_down a)))
theorem tKN6 : TabOk P BKN6 := TabOk.addFn (d := 30) okP tKN5 (fun a r h => by rw [eq_r_down]; exact congrArg some (ret_some h))
theorem K.orr_ite {ε α : Type} (f : ε → α) (z : α) (c : Prop) [Decidable c] (x : ε) (y : Option ε) : some (K.orr f z (if c then some x else y)) = if c then some (f x) else some (K.orr f z y) := by split <;> rfl
theorem K.orr_none {ε α : Type} (f : ε → α) (z : α) : some (K.orr f z none) = some z := rfl
def D_rhydro := DecL.cons (dBulbs) (.last (dI .i64) 0)
def S_rhydro := DecS.mk0 (.skip (.cons (dI .i64) (.unit (dLp 0 0 0 0) (.skips 2 (.last (dI .i64) 16))))) (.flat 31 lBulbs .nil)
def X_rhydro := DecX.or (DecX.one .ret [4] (DecS.mk1 (.skips 4 (.last (dI .i64) 17)))) (DecX.one (.exit 0) [] (DecS.mk1 (.tops 22)))
noncomputable def K.st_rhydro := loopT1 P BKN6 30 69 17 [5, 1, 2] S_rhydro X_rhydro
theorem sl_rhydro : ∀ s, (K.st_rhydro) s = T.run (
  .br (decide (Prod.snd (Prod.fst s) < (↑(len (Bulbs.hydros (Prod.fst (Prod.snd s)))) : Int))) (
    .chk (decide ((0 : Int) ≤ Prod.snd (Prod.fst s) ∧ Prod.snd (Prod.fst s) < (↑(XS.len (Bulbs.hydros (Prod.fst (Prod.snd s)))) : Int))) <|
    .br (XS.g (Bulbs.hydros (Prod.fst (Prod.snd s))) (Int.toNat (Prod.snd (Prod.fst s))) (0 : Nat) == Prod.fst (Prod.fst s)) (
      .ret (Sum.inr (Sum.inl (Prod.snd (Prod.fst s))))) (
      .ret (Sum.inl ((Prod.fst (Prod.fst s), IntKind.wrap IntKind.i64 (Prod.snd (Prod.fst s) + (1 : Int))), Prod.fst (Prod.snd s), PUnit.unit)))) (
    .ret (Sum.inr (Sum.inr PUnit.unit)))) := fun s => by kernel_rfl
noncomputable def K.L_rhydro := lim K.st_rhydro
def K.p_rhydro (b : Bulbs) (n : Int) (i : Nat) : Bool := b.hydros.g i 0 == n
def K.i_rhydro (b : Bulbs) (n : Int) : Int := match first (p_rhydro b n) (len b.hydros) with
  | some i => i
  | none => -1
theorem K.L_rhydro_eq (b : Bulbs) (n : Int) : K.L_rhydro ((n, 0), b, ()) = some (match first (p_rhydro b n) (len b.hydros) with | some i => (Sum.inl (i : Int) : Int ⊕ Unit) | none => .inr ()) := by
  have e1 := K.len_le b.hydros; have e2 := K.len_le' b.hydros
  refine lim_find (fun i => ((n, (i : Int)), b, ())) (K.len b.hydros) (p_rhydro b n) (fun i => (Sum.inl (i : Int) : Int ⊕ Unit)) (Sum.inr ()) (fun i hi hp => ?_) (fun i hi hp => ?_) ?_
  · rw [sl_rhydro]; unfold p_rhydro at hp
    simp only [T.run_br, T.run_chk, T.run_ret, decide_eq_true_eq, Int.toNat_natCast]
    rw [if_pos (by omega), if_pos (by omega)]
    rw [if_pos hp]
  · rw [sl_rhydro]; unfold p_rhydro at hp
    simp only [T.run_br, T.run_chk, T.run_ret, decide_eq_true_eq, Int.toNat_natCast]
    rw [if_pos (by omega), if_pos (by omega)]
    rw [if_neg (by simp [hp])]
    rw [w64_in (by omega) (by omega)]; simp
  · rw [sl_rhydro]
    simp only [T.run_br, T.run_chk, T.run_ret, decide_eq_true_eq]
    rw [if_neg (by omega)]
noncomputable def BKN7 : Tab := BKN6.addNode 69 17 (nodeE [5, 1, 2] S_rhydro X_rhydro (fun s => .obs (K.L_rhydro s) .ret))
theorem tKN7 : TabOk P BKN7 := TabOk.addLoop (d := 30) okP tKN6 (by kernel_rfl) (by kernel_rfl) (fun s r h => obs_ret h)
theorem fn_rhydro : ∀ a, (callT1 P BKN7 30 69 D_rhydro (dI .i64)) a = T.run (
  .obs (L_rhydro ((Prod.snd a, (0 : Int)), Prod.fst a, PUnit.unit)) fun x0 =>
    .sum (x0) (fun x1 =>
      .ret (x1)) (fun x1 =>
      .ret ((-1 : Int)))) := fun a => by kernel_rfl
theorem K.i_rhydro_eq (a : Bulbs × Int) : callT1 P BKN7 30 69 D_rhydro (dI .i64) a = some (i_rhydro a.1 a.2) := by
  rw [fn_rhydro]
  show T.run (.obs (K.L_rhydro ((a.2, 0), a.1, ())) _) = _
  rw [K.L_rhydro_eq]; unfold i_rhydro
  cases first (K.p_rhydro a.1 a.2) (K.len a.1.hydros) <;> rfl
noncomputable def BKN8 : Tab := BKN7.addCall 69 (callE D_rhydro (dI .i64) (fun a => .ret (i_rhydro a.1 a.2)))
theorem tKN8 : TabOk P BKN8 := TabOk.addFn (d := 30) okP tKN7 (fun a r h => by rw [i_rhydro_eq]; exact congrArg some (ret_some h))

def S_rglass := DecS.mk0 (.skip (.cons (dI .i64) (.unit (dLp 0 0 0 0) (.skips 2 (.last (dI .i64) 16))))) (.flat 31 lBulbs .nil)
def X_rglass := DecX.or (DecX.one .ret [4] (DecS.mk1 (.skips 4 (.last (dI .i64) 17)))) (DecX.one (.exit 0) [] (DecS.mk1 (.tops 22)))
noncomputable def K.st_rglass := loopT1 P BKN8 30 81 17 [5, 1, 2] S_rglass X_rglass
theorem sl_rglass : ∀ s, (K.st_rglass) s = T.run (
  .br (decide (Prod.snd (Prod.fst s) < (↑(len (Bulbs.glasses (Prod.fst (Prod.snd s)))) : Int))) (
    .chk (decide ((0 : Int) ≤ Prod.snd (Prod.fst s) ∧ Prod.snd (Prod.fst s) < (↑(XS.len (Bulbs.glasses (Prod.fst (Prod.snd s)))) : Int))) <|
    .br (XS.g (Bulbs.glasses (Prod.fst (Prod.snd s))) (Int.toNat (Prod.snd (Prod.fst s))) (0 : Nat) == Prod.fst (Prod.fst s)) (
      .ret (Sum.inr (Sum.inl (Prod.snd (Prod.fst s))))) (
      .ret (Sum.inl ((Prod.fst (Prod.fst s), IntKind.wrap IntKind.i64 (Prod.snd (Prod.fst s) + (1 : Int))), Prod.fst (Prod.snd s), PUnit.unit)))) (
    .ret (Sum.inr (Sum.inr PUnit.unit)))) := fun s => by kernel_rfl
noncomputable def K.L_rglass := lim K.st_rglass
def K.p_rglass (b : Bulbs) (n : Int) (i : Nat) : Bool := b.glasses.g i 0 == n
def K.i_rglass (b : Bulbs) (n : Int) : Int := match first (p_rglass b n) (len b.glasses) with
  | some i => i
  | none => -1
theorem K.L_rglass_eq (b : Bulbs) (n : Int) : K.L_rglass ((n, 0), b, ()) = some (match first (p_rglass b n) (len b.glasses) with | some i => (Sum.inl (i : Int) : Int ⊕ Unit) | none => .inr ()) := by
  have e1 := K.len_le b.glasses; have e2 := K.len_le' b.glasses
  refine lim_find (fun i => ((n, (i : Int)), b, ())) (K.len b.glasses) (p_rglass b n) (fun i => (Sum.inl (i : Int) : Int ⊕ Unit)) (Sum.inr ()) (fun i hi hp => ?_) (fun i hi hp => ?_) ?_
  · rw [sl_rglass]; unfold p_rglass at hp
    simp only [T.run_br, T.run_chk, T.run_ret, decide_eq_true_eq, Int.toNat_natCast]
    rw [if_pos (by omega), if_pos (by omega)]
    rw [if_pos hp]
  · rw [sl_rglass]; unfold p_rglass at hp
    simp only [T.run_br, T.run_chk, T.run_ret, decide_eq_true_eq, Int.toNat_natCast]
    rw [if_pos (by omega), if_pos (by omega)]
    rw [if_neg (by simp [hp])]
    rw [w64_in (by omega) (by omega)]; simp
  · rw [sl_rglass]
    simp only [T.run_br, T.run_chk, T.run_ret, decide_eq_true_eq]
    rw [if_neg (by omega)]
noncomputable def BKN9 : Tab := BKN8.addNode 81 17 (nodeE [5, 1, 2] S_rglass X_rglass (fun s => .obs (K.L_rglass s) .ret))
theorem tKN9 : TabOk P BKN9 := TabOk.addLoop (d := 30) okP tKN8 (by kernel_rfl) (by kernel_rfl) (fun s r h => obs_ret h)
theorem fn_rglass : ∀ a, (callT1 P BKN9 30 81 D_rhydro (dI .i64)) a = T.run (
  .obs (L_rglass ((Prod.snd a, (0 : Int)), Prod.fst a, PUnit.unit)) fun x0 =>
    .sum (x0) (fun x1 =>
      .ret (x1)) (fun x1 =>
      .ret ((-1 : Int)))) := fun a => by kernel_rfl
theorem K.i_rglass_eq (a : Bulbs × Int) : callT1 P BKN9 30 81 D_rhydro (dI .i64) a = some (i_rglass a.1 a.2) := by
  rw [fn_rglass]
  show T.run (.obs (K.L_rglass ((a.2, 0), a.1, ())) _) = _
  rw [K.L_rglass_eq]; unfold i_rglass
  cases first (K.p_rglass a.1 a.2) (K.len a.1.glasses) <;> rfl
noncomputable def BKN10 : Tab := BKN9.addCall 81 (callE D_rhydro (dI .i64) (fun a => .ret (i_rglass a.1 a.2)))
theorem tKN10 : TabOk P BKN10 := TabOk.addFn (d := 30) okP tKN9 (fun a r h => by rw [i_rglass_eq]; exact congrArg some (ret_some h))

end Go.Proofs.YtjbhooodjmjdkaaGreat
/-! KN2 -/
namespace Go.Proofs.YtjbhooodjmjdkaaGreat
open Ev K
set_option maxRecDepth 100000
def S_roff := DecS.mk0 (.skips 2 (.cons (dI .i64) (.unit (dLp 0 0 0 0) (.unit (dLp 1 0 0 0) (.skip (.unit (dLp 2 0 0 0) (.unit (dLp 3 0 0 0) (.last (dI .i64) 37)))))))) (.flat 31 lBulbs (.flat 127 lHydro (.flat 39 lSpan (.flat 39 lSpan .nil))))
def X_roff := DecX.one (.exit 0) [8, 7, 3, 2, 4, 6] S_roff
noncomputable def K.st_roff := loopT1 P BKN10 30 70 25 [8, 7, 3, 2, 4, 6] S_roff X_roff
theorem sl_roff : ∀ s, (K.st_roff) s = T.run (
  .br (decide (Prod.snd (Prod.fst s) < (↑(len (Bulbs.glasses (Prod.fst (Prod.snd s)))) : Int))) (
    .chk (decide ((0 : Int) ≤ Prod.snd (Prod.fst s) ∧ Prod.snd (Prod.fst s) < (↑(XS.len (Bulbs.glasses (Prod.fst (Prod.snd s)))) : Int))) <|
    .br (XS.g (Bulbs.glasses (Prod.fst (Prod.snd s))) (Int.toNat (Prod.snd (Prod.fst s))) (1 : Nat) == Hydro.id (Prod.fst (Prod.snd (Prod.snd s)))) (
      .chk (decide ((0 : Int) ≤ Prod.snd (Prod.fst s) ∧ Prod.snd (Prod.fst s) < (↑(XS.len (Bulbs.glasses (Prod.fst (Prod.snd s)))) : Int))) <|
      .br (XS.g (Bulbs.glasses (Prod.fst (Prod.snd s))) (Int.toNat (Prod.snd (Prod.fst s))) (0 : Nat) != Prod.fst (Prod.fst s)) (
        .chk (decide ((0 : Int) ≤ Prod.snd (Prod.fst s) ∧ Prod.snd (Prod.fst s) < (↑(XS.len (Bulbs.glasses (Prod.fst (Prod.snd s)))) : Int))) <|
        .ret (Sum.inl ((Prod.fst (Prod.fst s), IntKind.wrap IntKind.i64 (Prod.snd (Prod.fst s) + (1 : Int))), Prod.fst (Prod.snd s), Prod.fst (Prod.snd (Prod.snd s)), Prod.fst (Prod.snd (Prod.snd (Prod.snd s))), r_both (Prod.fst (Prod.snd (Prod.snd (Prod.snd (Prod.snd s)))), r_all (gls (Bulbs.glasses (Prod.fst (Prod.snd s))) (Int.toNat (Prod.snd (Prod.fst s))))), PUnit.unit))) (
        .ret (Sum.inl ((Prod.fst (Prod.fst s), IntKind.wrap IntKind.i64 (Prod.snd (Prod.fst s) + (1 : Int))), Prod.fst (Prod.snd s), Prod.fst (Prod.snd (Prod.snd s)), Prod.fst (Prod.snd (Prod.snd (Prod.snd s))), Prod.fst (Prod.snd (Prod.snd (Prod.snd (Prod.snd s)))), PUnit.unit)))) (
      .ret (Sum.inl ((Prod.fst (Prod.fst s), IntKind.wrap IntKind.i64 (Prod.snd (Prod.fst s) + (1 : Int))), Prod.fst (Prod.snd s), Prod.fst (Prod.snd (Prod.snd s)), Prod.fst (Prod.snd (Prod.snd (Prod.snd s))), Prod.fst (Prod.snd (Prod.snd (Prod.snd (Prod.snd s)))), PUnit.unit)))) (
    .ret (Sum.inr (Prod.fst s, Prod.fst (Prod.snd s), Prod.fst (Prod.snd (Prod.snd s)), Prod.fst (Prod.snd (Prod.snd (Prod.snd s))), Prod.fst (Prod.snd (Prod.snd (Prod.snd (Prod.snd s)))), PUnit.unit)))) := fun s => by kernel_rfl
noncomputable def K.L_roff := lim K.st_roff
noncomputable def K.f_roff (b : Bulbs) (h : Hydro) (but : Int) (s : Span) (i : Nat) : Span := if (gls b.glasses i).hydro == h.id && (gls b.glasses i).id != but then r_both (s, r_all (gls b.glasses i)) else s
theorem K.L_roff_eq (b : Bulbs) (h : Hydro) (but : Int) (r s : Span) : K.L_roff ((but, 0), b, h, r, s, ()) = some ((but, (len b.glasses : Int)), b, h, r, (List.range (len b.glasses)).foldl (f_roff b h but) s, ()) := by
  have e1 := K.len_le b.glasses; have e2 := K.len_le' b.glasses
  refine lim_fold (fun i s => ((but, (i : Int)), b, h, r, s, ())) (len b.glasses) (f_roff b h but) (fun s => ((but, (len b.glasses : Int)), b, h, r, s, ())) (fun i hi a => ?_) (fun a => ?_) s
  · rw [sl_roff]; unfold f_roff
    have c1 : (0 : Int) ≤ i ∧ (i : Int) < b.glasses.len := by omega
    simp only [T.run_br, T.run_chk, T.run_ret, decide_eq_true_eq, Int.toNat_natCast, if_pos c1]
    rw [if_pos (by omega), w64_in (n := (i : Int) + 1) (by omega) (by omega)]
    have q1 : (gls b.glasses i).hydro = b.glasses.g i 1 := rfl
    have q0 : (gls b.glasses i).id = b.glasses.g i 0 := rfl
    rw [q1, q0]
    cases (b.glasses.g i 1 == h.id) <;> cases (b.glasses.g i 0 != but) <;> rfl
  · rw [sl_roff]
    simp only [T.run_br, T.run_chk, T.run_ret, decide_eq_true_eq]
    rw [if_neg (by omega)]
noncomputable def BKN21 : Tab := BKN10.addNode 70 25 (nodeE [8, 7, 3, 2, 4, 6] S_roff X_roff (fun s => .obs (K.L_roff s) .ret))
theorem tKN21 : TabOk P BKN21 := TabOk.addLoop (d := 30) okP tKN10 (by kernel_rfl) (by kernel_rfl) (fun s r h => obs_ret h)
def D_roff := DecL.cons (dBulbs) (.cons (dHydro) (.last (dI .i64) 0))
theorem fn_roff : ∀ a, (callT1 P BKN21 30 70 D_roff dSpan) a = T.run (
  .obs (L_roff ((Prod.snd (Prod.snd a), (0 : Int)), Prod.fst a, Prod.fst (Prod.snd a), Span.mk (0 : Int) (0 : Int), Hydro.off (Prod.fst (Prod.snd a)), PUnit.unit)) fun x0 =>
    .ret (Prod.fst (Prod.snd (Prod.snd (Prod.snd (Prod.snd x0)))))) := fun a => by kernel_rfl
noncomputable def K.r_off (b : Bulbs) (h : Hydro) (but : Int) : Span := (List.range (len b.glasses)).foldl (f_roff b h but) h.off
theorem K.r_off_eq (a : Bulbs × Hydro × Int) : callT1 P BKN21 30 70 D_roff dSpan a = some (r_off a.1 a.2.1 a.2.2) := by
  rw [fn_roff]
  show T.run (.obs (K.L_roff ((a.2.2, 0), a.1, a.2.1, ⟨0, 0⟩, a.2.1.off, ())) _) = _
  rw [K.L_roff_eq]; rfl
noncomputable def BKN22 : Tab := BKN21.addCall 70 (callE D_roff dSpan (fun a => .ret (r_off a.1 a.2.1 a.2.2)))
theorem tKN22 : TabOk P BKN22 := TabOk.addFn (d := 30) okP tKN21 (fun a r h => by rw [r_off_eq]; exact congrArg some (ret_some h))
end Go.Proofs.YtjbhooodjmjdkaaGreat
/-! KN3 -/
namespace Go.Proofs.YtjbhooodjmjdkaaGreat
open Ev K
set_option maxRecDepth 100000
/-! CheckBulbs -/
def S_rc1 := DecS.mk0 (.skip (.unit (dLp 0 0 0 0) (.skip (.last (dI .i64) 84)))) (.flat 31 lBulbs .nil)
def X_rc1 := DecX.or (DecX.one .ret [2] (DecS.mk1 (.skips 2 (.last (dI .i64) 85)))) (DecX.one (.exit 0) [1] (DecS.mk0 (.skip (.unit (dLp 0 0 0 0) (.tops 86))) (.flat 31 lBulbs .nil)))
noncomputable def K.st_rc1 := loopT1 P BKN22 30 32 33 [3, 1] S_rc1 X_rc1
theorem sl_rc1 : ∀ s, (K.st_rc1) s = T.run (
  .br (decide (Prod.fst s < (↑(len (Bulbs.hydros (Prod.fst (Prod.snd s)))) : Int))) (
    .chk (decide ((0 : Int) ≤ Prod.fst s ∧ Prod.fst s < (↑(XS.len (Bulbs.hydros (Prod.fst (Prod.snd s)))) : Int))) <|
    .br (!r_id (XS.g (Bulbs.hydros (Prod.fst (Prod.snd s))) (Int.toNat (Prod.fst s)) (0 : Nat))) (
      .ret (Sum.inr (Sum.inl (1 : Int)))) (
      .br (!r_span (Span.mk (XS.g (Bulbs.hydros (Prod.fst (Prod.snd s))) (Int.toNat (Prod.fst s)) (1 : Nat)) (XS.g (Bulbs.hydros (Prod.fst (Prod.snd s))) (Int.toNat (Prod.fst s)) (2 : Nat)), (-100 : Int), (100 : Int))) (
        .ret (Sum.inr (Sum.inl (1 : Int)))) (
        .br (decide (i_rhydro (Prod.fst (Prod.snd s)) (XS.g (Bulbs.hydros (Prod.fst (Prod.snd s))) (Int.toNat (Prod.fst s)) (0 : Nat)) < Prod.fst s)) (
          .ret (Sum.inr (Sum.inl (6 : Int)))) (
          .ret (Sum.inl (IntKind.wrap IntKind.i64 (Prod.fst s + (1 : Int)), Prod.fst (Prod.snd s), PUnit.unit)))))) (
    .ret (Sum.inr (Sum.inr (PUnit.unit, Prod.fst (Prod.snd s), PUnit.unit))))) := fun s => by kernel_rfl
noncomputable def K.L_rc1 := lim K.st_rc1
noncomputable def K.e_rc1 (b : Bulbs) (i : Nat) : Option Int := if (!r_id (hyd b.hydros i).id) = true then some 1 else if (!r_span ((hyd b.hydros i).off, -100, 100)) = true then some 1 else if i_rhydro b (hyd b.hydros i).id < (i : Int) then some 6 else none
def S_rc2 := DecS.mk0 (.skip (.unit (dLp 0 0 0 0) (.skips 3 (.last (dI .i64) 82)))) (.flat 31 lBulbs .nil)
def X_rc2 := DecX.or (DecX.one .ret [2] (DecS.mk1 (.skips 2 (.last (dI .i64) 85)))) (DecX.one (.exit 2) [] (DecS.mk1 (.tops 88)))
noncomputable def K.e_rc2 (b : Bulbs) (i : Nat) : Option Int := if (!r_id (gls b.glasses i).id) = true then some 1 else if (gls b.glasses i).dense < 900 then some 1 else if (gls b.glasses i).dense > 1100 then some 1 else if (!r_span ((gls b.glasses i).shown, 0, 2000)) = true then some 1 else
  if i_rhydro b (gls b.glasses i).hydro < 0 then some 5 else if i_rglass b (gls b.glasses i).id < (i : Int) then some 6 else none
theorem K.L_rc1_eq (b : Bulbs) : K.L_rc1 (0, b, ()) = some (K.orr Sum.inl (.inr ((), b, ())) ((List.range (len b.hydros)).findSome? (e_rc1 b))) := by
  have e1 := K.len_le b.hydros; have e2 := K.len_le' b.hydros
  refine lim_err (fun i => ((i : Int), b, ())) (len b.hydros) (e_rc1 b) Sum.inl (Sum.inr ((), b, ())) (fun i hi => ?_) ?_
  · rw [sl_rc1]
    have c1 : (0 : Int) ≤ i ∧ (i : Int) < b.hydros.len := by omega
    simp only [T.run_br, T.run_chk, T.run_ret, decide_eq_true_eq, Int.toNat_natCast, if_pos c1]
    rw [if_pos (by omega), w64_in (n := (i : Int) + 1) (by omega) (by omega)]
    unfold e_rc1; simp only [orr_ite, orr_none]
    rfl
  · rw [sl_rc1]
    simp only [T.run_br, T.run_chk, T.run_ret, decide_eq_true_eq]
    rw [if_neg (by omega)]
noncomputable def BKN31 : Tab := BKN22.addNode 32 33 (nodeE [3, 1] S_rc1 X_rc1 (fun s => .obs (K.L_rc1 s) .ret))
theorem tKN31 : TabOk P BKN31 := TabOk.addLoop (d := 30) okP tKN22 (by kernel_rfl) (by kernel_rfl) (fun s r h => obs_ret h)
noncomputable def K.st_rc2 := loopT1 P BKN31 30 32 97 [5, 1] S_rc2 X_rc2
theorem sl_rc2 : ∀ s, (K.st_rc2) s = T.run (
  .br (decide (Prod.fst s < (↑(len (Bulbs.glasses (Prod.fst (Prod.snd s)))) : Int))) (
    .chk (decide ((0 : Int) ≤ Prod.fst s ∧ Prod.fst s < (↑(XS.len (Bulbs.glasses (Prod.fst (Prod.snd s)))) : Int))) <|
    .br (!r_id (XS.g (Bulbs.glasses (Prod.fst (Prod.snd s))) (Int.toNat (Prod.fst s)) (0 : Nat))) (
      .ret (Sum.inr (Sum.inl (1 : Int)))) (
      .br (decide (XS.g (Bulbs.glasses (Prod.fst (Prod.snd s))) (Int.toNat (Prod.fst s)) (2 : Nat) < (900 : Int))) (
        .ret (Sum.inr (Sum.inl (1 : Int)))) (
        .br (decide (XS.g (Bulbs.glasses (Prod.fst (Prod.snd s))) (Int.toNat (Prod.fst s)) (2 : Nat) > (1100 : Int))) (
          .ret (Sum.inr (Sum.inl (1 : Int)))) (
          .br (!r_span (Span.mk (XS.g (Bulbs.glasses (Prod.fst (Prod.snd s))) (Int.toNat (Prod.fst s)) (3 : Nat)) (XS.g (Bulbs.glasses (Prod.fst (Prod.snd s))) (Int.toNat (Prod.fst s)) (4 : Nat)), (0 : Int), (2000 : Int))) (
            .ret (Sum.inr (Sum.inl (1 : Int)))) (
            .br (decide (i_rhydro (Prod.fst (Prod.snd s)) (XS.g (Bulbs.glasses (Prod.fst (Prod.snd s))) (Int.toNat (Prod.fst s)) (1 : Nat)) < (0 : Int))) (
              .ret (Sum.inr (Sum.inl (5 : Int)))) (
              .br (decide (i_rglass (Prod.fst (Prod.snd s)) (XS.g (Bulbs.glasses (Prod.fst (Prod.snd s))) (Int.toNat (Prod.fst s)) (0 : Nat)) < Prod.fst s)) (
                .ret (Sum.inr (Sum.inl (6 : Int)))) (
                .ret (Sum.inl (IntKind.wrap IntKind.i64 (Prod.fst s + (1 : Int)), Prod.fst (Prod.snd s), PUnit.unit))))))))) (
    .ret (Sum.inr (Sum.inr PUnit.unit)))) := fun s => by kernel_rfl
noncomputable def K.L_rc2 := lim K.st_rc2
theorem K.L_rc2_eq (b : Bulbs) : K.L_rc2 (0, b, ()) = some (K.orr Sum.inl (.inr ()) ((List.range (len b.glasses)).findSome? (e_rc2 b))) := by
  have e1 := K.len_le b.glasses; have e2 := K.len_le' b.glasses
  refine lim_err (fun i => ((i : Int), b, ())) (len b.glasses) (e_rc2 b) Sum.inl (Sum.inr ()) (fun i hi => ?_) ?_
  · rw [sl_rc2]
    have c1 : (0 : Int) ≤ i ∧ (i : Int) < b.glasses.len := by omega
    simp only [T.run_br, T.run_chk, T.run_ret, decide_eq_true_eq, Int.toNat_natCast, if_pos c1]
    rw [if_pos (by omega), w64_in (n := (i : Int) + 1) (by omega) (by omega)]
    unfold e_rc2; simp only [orr_ite, orr_none]
    rfl
  · rw [sl_rc2]
    simp only [T.run_br, T.run_chk, T.run_ret, decide_eq_true_eq]
    rw [if_neg (by omega)]
noncomputable def BKN32 : Tab := BKN31.addNode 32 97 (nodeE [5, 1] S_rc2 X_rc2 (fun s => .obs (K.L_rc2 s) .ret))
theorem tKN32 : TabOk P BKN32 := TabOk.addLoop (d := 30) okP tKN31 (by kernel_rfl) (by kernel_rfl) (fun s r h => obs_ret h)
def D_rcb := DecL.last (dBulbs) 0
theorem fn_rcb : ∀ a, (callT1 P BKN32 30 32 D_rcb (dI .i64)) a = T.run (
  .br (decide ((↑(len (Bulbs.hydros a)) : Int) > (8 : Int))) (
    .ret ((2 : Int))) (
    .br (decide ((↑(len (Bulbs.glasses a)) : Int) > (40 : Int))) (
      .ret ((2 : Int))) (
      .obs (L_rc1 ((0 : Int), a, PUnit.unit)) fun x0 =>
        .sum (x0) (fun x1 =>
          .ret (x1)) (fun x1 =>
          .obs (L_rc2 ((0 : Int), Prod.fst (Prod.snd x1), PUnit.unit)) fun x2 =>
            .sum (x2) (fun x3 =>
              .ret (x3)) (fun x3 =>
              .ret ((0 : Int))))))) := fun a => by kernel_rfl
noncomputable def K.r_bulbs (b : Bulbs) : Int := if decide ((len b.hydros : Int) > 8) = true then 2 else if decide ((len b.glasses : Int) > 40) = true then 2 else
  K.orr id (K.orr id 0 ((List.range (len b.glasses)).findSome? (e_rc2 b))) ((List.range (len b.hydros)).findSome? (e_rc1 b))
theorem K.r_bulbs_eq (b : Bulbs) : callT1 P BKN32 30 32 D_rcb (dI .i64) b = some (r_bulbs b) := by
  rw [fn_rcb]; unfold r_bulbs
  refine br_step (fun _ => rfl) (fun _ => ?_)
  refine br_step (fun _ => rfl) (fun _ => ?_)
  show T.run (.obs (K.L_rc1 (0, b, ())) _) = _
  rw [K.L_rc1_eq]
  cases (List.range (len b.hydros)).findSome? (e_rc1 b) with
  | some e => rfl
  | none =>
    show T.run (.obs (K.L_rc2 (0, b, ())) _) = _
    rw [K.L_rc2_eq]
    cases (List.range (len b.glasses)).findSome? (e_rc2 b) <;> rfl
noncomputable def BKN33 : Tab := BKN32.addCall 32 (callE D_rcb (dI .i64) (fun a => .ret (r_bulbs a)))
theorem tKN33 : TabOk P BKN33 := TabOk.addFn (d := 30) okP tKN32 (fun a r h => by rw [r_bulbs_eq]; exact congrArg some (ret_some h))
end Go.Proofs.YtjbhooodjmjdkaaGreat
/-! KN4 -/
namespace Go.Proofs.YtjbhooodjmjdkaaGreat
open Ev K
set_option maxRecDepth 100000
theorem fn_rOff : ∀ a, (callT1 P BKN33 30 26 D_rhydro R_off) a = T.run (
  .br (r_bulbs (Prod.fst a) != (0 : Int)) (
    .ret ((Span.mk (0 : Int) (0 : Int), r_bulbs (Prod.fst a)))) (
    .br (decide (i_rhydro (Prod.fst a) (Prod.snd a) < (0 : Int))) (
      .ret ((Span.mk (0 : Int) (0 : Int), (5 : Int)))) (
      .chk (decide ((0 : Int) ≤ i_rhydro (Prod.fst a) (Prod.snd a) ∧ i_rhydro (Prod.fst a) (Prod.snd a) < (↑(XS.len (Bulbs.hydros (Prod.fst a))) : Int))) <|
      .br (r_none (r_off (Prod.fst a) (hyd (Bulbs.hydros (Prod.fst a)) (Int.toNat (i_rhydro (Prod.fst a) (Prod.snd a)))) (0 : Int))) (
        .ret ((Span.mk (0 : Int) (0 : Int), (9 : Int)))) (
        .ret ((r_off (Prod.fst a) (hyd (Bulbs.hydros (Prod.fst a)) (Int.toNat (i_rhydro (Prod.fst a) (Prod.snd a)))) (0 : Int), (0 : Int))))))) := fun a => by kernel_rfl
theorem K.i_rhydro_lt (b : Bulbs) (n : Int) (h : ¬ i_rhydro b n < 0) : 0 ≤ i_rhydro b n ∧ i_rhydro b n < (b.hydros.len : Int) := by
  have e2 := K.len_le' b.hydros
  unfold i_rhydro at h ⊢
  cases hf : first (p_rhydro b n) (len b.hydros) with
  | none => rw [hf] at h; simp at h
  | some i =>
    have h1 := (first_spec hf).1
    simp only; omega
noncomputable def K.r_Off (a : Bulbs × Int) : Span × Int := if (r_bulbs a.1 != 0) = true then (⟨0, 0⟩, r_bulbs a.1) else if i_rhydro a.1 a.2 < 0 then (⟨0, 0⟩, 5) else
  if r_none (r_off a.1 (hyd a.1.hydros (i_rhydro a.1 a.2).toNat) 0) = true then (⟨0, 0⟩, 9) else (r_off a.1 (hyd a.1.hydros (i_rhydro a.1 a.2).toNat) 0, 0)
theorem K.r_Off_eq (a : Bulbs × Int) : callT1 P BKN33 30 26 D_rhydro R_off a = some (r_Off a) := by
  rw [fn_rOff]; unfold r_Off
  refine br_step (fun _ => rfl) (fun _ => ?_)
  by_cases h : i_rhydro a.1 a.2 < 0
  · rw [if_pos h]; simp only [T.run_br, decide_eq_true_eq]; rw [if_pos h]; rfl
  · rw [if_neg h]; simp only [T.run_br, T.run_chk, decide_eq_true_eq]; rw [if_neg h, if_pos (i_rhydro_lt _ _ h)]
    split <;> rfl
noncomputable def BKN41 : Tab := BKN33.addCall 26 (callE D_rhydro R_off (fun a => .ret (r_Off a)))
theorem tKN41 : TabOk P BKN41 := TabOk.addFn (d := 30) okP tKN33 (fun a r h => by rw [r_Off_eq]; exact congrArg some (ret_some h))
def D_rdens := DecL.cons (dBulbs) (.last (dSurvey) 0)
theorem fn_r_density : ∀ a, (callT1 P BKN41 30 196 D_rdens dSpan) a = T.run (
  .ret (Span.mk (if (900 : Int) > IntKind.wrap IntKind.i64 (Span.lo (Survey.shown (Prod.snd a)) - Span.hi (Prod.fst (r_Off (Prod.fst a, Survey.hydro (Prod.snd a))))) then (900 : Int) else IntKind.wrap IntKind.i64 (Span.lo (Survey.shown (Prod.snd a)) - Span.hi (Prod.fst (r_Off (Prod.fst a, Survey.hydro (Prod.snd a)))))) (if (1100 : Int) < IntKind.wrap IntKind.i64 (Span.hi (Survey.shown (Prod.snd a)) - Span.lo (Prod.fst (r_Off (Prod.fst a, Survey.hydro (Prod.snd a))))) then (1100 : Int) else IntKind.wrap IntKind.i64 (Span.hi (Survey.shown (Prod.snd a)) - Span.lo (Prod.fst (r_Off (Prod.fst a, Survey.hydro (Prod.snd a)))))))) := fun a => by kernel_rfl
noncomputable def K.r_density (a : Bulbs × Survey) : Span := Span.mk (if (900 : Int) > IntKind.wrap IntKind.i64 (Span.lo (Survey.shown (Prod.snd a)) - Span.hi (Prod.fst (r_Off (Prod.fst a, Survey.hydro (Prod.snd a))))) then (900 : Int) else IntKind.wrap IntKind.i64 (Span.lo (Survey.shown (Prod.snd a)) - Span.hi (Prod.fst (r_Off (Prod.fst a, Survey.hydro (Prod.snd a)))))) (if (1100 : Int) < IntKind.wrap IntKind.i64 (Span.hi (Survey.shown (Prod.snd a)) - Span.lo (Prod.fst (r_Off (Prod.fst a, Survey.hydro (Prod.snd a))))) then (1100 : Int) else IntKind.wrap IntKind.i64 (Span.hi (Survey.shown (Prod.snd a)) - Span.lo (Prod.fst (r_Off (Prod.fst a, Survey.hydro (Prod.snd a))))))
theorem eq_r_density (a : Bulbs × Survey) : (callT1 P BKN41 30 196 D_rdens dSpan) a = some (K.r_density a) := (fn_r_density a).trans rfl
noncomputable def BKN42 : Tab := BKN41.addCall 196 (callE D_rdens dSpan (fun a => .ret (K.r_density a)))
theorem tKN42 : TabOk P BKN42 := TabOk.addFn (d := 30) okP tKN41 (fun a r h => by rw [eq_r_density]; exact congrArg some (ret_some h))
def D_rmid := DecL.cons (dSurvey) (.last (dI .i64) 0)
theorem fn_r_middle : ∀ a, (callT1 P BKN42 30 222 D_rmid dSpan) a = T.run (
  .ret (r_both (Span.mk (IntKind.wrap IntKind.i64 (Span.lo (Survey.m2 (Prod.fst a)) + Span.lo (Survey.m3 (Prod.fst a)))) (IntKind.wrap IntKind.i64 (Span.hi (Survey.m2 (Prod.fst a)) + Span.hi (Survey.m3 (Prod.fst a)))), Span.mk (IntKind.wrap IntKind.i64 ((0 : Int) - r_down (IntKind.wrap IntKind.i64 (IntKind.wrap IntKind.i64 ((4 : Int) * Survey.sag (Prod.fst a)) - Prod.snd a)))) (r_down (IntKind.wrap IntKind.i64 (Prod.snd a + IntKind.wrap IntKind.i64 ((4 : Int) * Survey.sag (Prod.fst a)))))))) := fun a => by kernel_rfl
noncomputable def K.r_middle (a : Survey × Int) : Span := r_both (Span.mk (IntKind.wrap IntKind.i64 (Span.lo (Survey.m2 (Prod.fst a)) + Span.lo (Survey.m3 (Prod.fst a)))) (IntKind.wrap IntKind.i64 (Span.hi (Survey.m2 (Prod.fst a)) + Span.hi (Survey.m3 (Prod.fst a)))), Span.mk (IntKind.wrap IntKind.i64 ((0 : Int) - r_down (IntKind.wrap IntKind.i64 (IntKind.wrap IntKind.i64 ((4 : Int) * Survey.sag (Prod.fst a)) - Prod.snd a)))) (r_down (IntKind.wrap IntKind.i64 (Prod.snd a + IntKind.wrap IntKind.i64 ((4 : Int) * Survey.sag (Prod.fst a))))))
theorem eq_r_middle (a : Survey × Int) : (callT1 P BKN42 30 222 D_rmid dSpan) a = some (K.r_middle a) := (fn_r_middle a).trans rfl
noncomputable def BKN43 : Tab := BKN42.addCall 222 (callE D_rmid dSpan (fun a => .ret (K.r_middle a)))
theorem tKN43 : TabOk P BKN43 := TabOk.addFn (d := 30) okP tKN42 (fun a r h => by rw [eq_r_middle]; exact congrArg some (ret_some h))
def D_rsix := DecL.last (dSurvey) 0
end Go.Proofs.YtjbhooodjmjdkaaGreat
/-! KBl1 -/
namespace Go.Proofs.YtjbhooodjmjdkaaGreat
open Ev K
set_option maxRecDepth 100000
noncomputable def BKBl10 : Tab := BKN43.addTurn 60 K.sortE
theorem tKBl10 : TabOk P BKBl10 := TabOk.addTurn tKN43 (K.sortE_cc fun n g h1 h2 => K.mc_sort Tryz.lays189 h1 h2)
def S_blm := DecS.ghostC 9 3 1 [.int .i64] (DecS.mk0 (.skips 2 (.unit (dLp 0 0 0 0) (.skips 4 (.unit (dLp 1 0 0 0) (.skip (.unit (dLp 2 0 0 0) (.skips 21 (.last R_gl 18)))))))) (.flat 31 lBulbs (.flat 127 lHydro (.flat 49 (.last (dO 3) 0) (.rows 3 rInt .nil)))))
noncomputable def K.st_blm := rangeT1 P BKBl10 30 29 89 [31, 9, 7, 2] S_blm DecX.no eTold
theorem rg_blm : ∀ s x, (K.st_blm) s x = T.run (
  .br (!void (errs (Prod.fst (Prod.snd s)) (Prod.fst (Prod.snd (Prod.snd s))) (Glass.id (GlassE.g x)))) (
    .chk (decide ((List.length (Prod.fst (Prod.snd (Prod.snd (Prod.snd (Prod.snd s))))) + (1 : Nat)) * (8 : Nat) ≤ (140737488355328 : Nat) ∧ List.length (Prod.fst (Prod.snd (Prod.snd (Prod.snd (Prod.snd s))))) + (1 : Nat) ≤ nat_lit 9223372036854775807)) <|
    .ret (Sum.inl (Prod.fst s, Prod.fst (Prod.snd s), Prod.fst (Prod.snd (Prod.snd s)), List.length (Prod.fst (Prod.snd (Prod.snd (Prod.snd (Prod.snd s))))) + (1 : Nat), decF rInt (List.length (Prod.fst (Prod.snd (Prod.snd (Prod.snd (Prod.snd s))))) + (1 : Nat)) (appG (List.length (Prod.fst (Prod.snd (Prod.snd (Prod.snd (Prod.snd s)))))) (encF rInt (Prod.fst (Prod.snd (Prod.snd (Prod.snd (Prod.snd s)))))) fun i k => Option.getD [AV.int IntKind.i64 (Glass.id (GlassE.g x))][((0 : Nat) + i) * (1 : Nat) + k]? AV.top), PUnit.unit))) (
    .ret (Sum.inl (Prod.fst s, Prod.fst (Prod.snd s), Prod.fst (Prod.snd (Prod.snd s)), Prod.fst (Prod.snd (Prod.snd (Prod.snd s))), decF rInt (List.length (Prod.fst (Prod.snd (Prod.snd (Prod.snd (Prod.snd s)))))) (encF rInt (Prod.fst (Prod.snd (Prod.snd (Prod.snd (Prod.snd s)))))), PUnit.unit)))) := fun s x => by kernel_rfl
/-- The glass is blamed. -/
noncomputable def K.blm1 (b : Bulbs) (h : Hydro) (x : GlassE) : List Int := if (!void (errs b h x.g.id)) = true then [x.g.id] else []
theorem K.st_blm_eq (a : Bulbs × Int) (b : Bulbs) (h : Hydro) (L : List Int) (x : GlassE) (hl : L.length ≤ 1000000) : st_blm (a, b, h, L.length, L, ()) x = some (.inl (a, b, h, (L ++ blm1 b h x).length, L ++ blm1 b h x, ())) := by
  rw [rg_blm]; unfold blm1
  simp only [T.run_br]
  by_cases hc : (!void (errs b h x.g.id)) = true
  · rw [if_pos hc, if_pos hc]
    refine chk_step (decide_eq_true (by omega)) ?_
    rw [T.run_ret, decF_push]
    simp only [List.length_append]
    rfl
  · rw [if_neg hc, if_neg hc, T.run_ret, decF_encF, List.append_nil]
theorem K.fold_blm (a : Bulbs × Int) (b : Bulbs) (h : Hydro) : ∀ (xs : List GlassE) (L : List Int), L.length + xs.length ≤ 1000000 → foldS st_blm xs (a, b, h, L.length, L, ()) = some (.inl (a, b, h, (L ++ xs.flatMap (blm1 b h)).length, L ++ xs.flatMap (blm1 b h), ()))
  | [], L, _ => by simp [foldS]
  | x :: xs, L, hl => by
    have h1 : (blm1 b h x).length ≤ 1 := by unfold blm1; split <;> simp
    simp only [List.length_cons] at hl
    rw [foldS, st_blm_eq a b h L x (by omega)]
    simp only
    rw [fold_blm a b h xs (L ++ blm1 b h x) (by rw [List.length_append]; omega), List.flatMap_cons, List.append_assoc]
/-- The blamed glasses, behind those of before. -/
noncomputable def K.blmApp (L : List Int) (a : Bulbs × Int) (b : Bulbs) (h : Hydro) : List Int := L ++ (glassesL a.1 a.2).flatMap (blm1 b h)
noncomputable def K.blmOk (n : Nat) (L : List Int) (a : Bulbs × Int) : Bool := decide (n = L.length ∧ L.length + (glassesL a.1 a.2).length ≤ 1000000)
noncomputable def BKBl11 : Tab := BKBl10.addNode 29 89 (rangeE [31, 9, 7, 2] S_blm DecX.no (fun s => .chk (K.blmOk s.2.2.2.1 s.2.2.2.2.1 s.1) (.ret (.inl (s.1, s.2.1, s.2.2.1, (K.blmApp s.2.2.2.2.1 s.1 s.2.1 s.2.2.1).length, K.blmApp s.2.2.2.2.1 s.1 s.2.1 s.2.2.1, ())))))
theorem tKBl11 : TabOk P BKBl11 := TabOk.addRange (d := 30) (enc := eTold) (L := (fun s => glassesL s.1.1 s.1.2)) okP tKBl10 (by kernel_rfl) (by kernel_rfl) (fun s r h => ⟨_, _, _, (by kernel_rfl : _ = some (134, [], V_gls.enc s.1)), icl_gls s.1.2 s.1.1⟩) (fun s r h => by obtain ⟨g, e⟩ := chk_ret h; subst e; obtain ⟨a, b, hh, n, L, _⟩ := s; obtain ⟨e1, e2⟩ := of_decide_eq_true g; simp only at e1 e2; subst e1; exact K.fold_blm a b hh _ L e2)
def R_ints := dTup (.cons (dRows rInt) (.last (dI .i64) 0))
theorem fn_blm : ∀ a, (callT1 P BKBl11 30 29 D_off R_ints) a = T.run (
  .br (CheckBulbs (Prod.fst a) != (0 : Int)) (
    .ret (([], CheckBulbs (Prod.fst a)))) (
    .br (!Prod.snd (hydro a)) (
      .ret (([], (5 : Int)))) (
      .br (!void (errs (Prod.fst a) (Prod.fst (hydro a)) (0 : Int))) (
        .ret (([], (0 : Int)))) (
        .chk (blmOk (0 : Nat) (decF rInt (0 : Nat) fun x x_1 => AV.top) a) <|
        .chk (decide (List.length (blmApp (decF rInt (0 : Nat) fun x x_1 => AV.top) a (Prod.fst a) (Prod.fst (hydro a))) < (4611686018427387904 : Nat))) <|
        .ret ((decF rInt (List.length (blmApp (decF rInt (0 : Nat) fun x x_1 => AV.top) a (Prod.fst a) (Prod.fst (hydro a)))) fun i => encF rInt (sortL (decF rInt (List.length (blmApp (decF rInt (0 : Nat) fun x x_1 => AV.top) a (Prod.fst a) (Prod.fst (hydro a)))) (encF rInt (blmApp (decF rInt (0 : Nat) fun x x_1 => AV.top) a (Prod.fst a) (Prod.fst (hydro a)))))) ((0 : Nat) + i), (0 : Int))))))) := fun a => by kernel_rfl
namespace K
theorem glassesL_length (b : Bulbs) (n : Int) : (glassesL b n).length ≤ len b.glasses := by
  unfold glassesL
  rw [List.length_map]
  exact Nat.le_trans (List.length_filter_le ..) (by simp)
theorem flatMap_le {α β : Type} {f : α → List β} (h : ∀ x, (f x).length ≤ 1) : ∀ (L : List α), (L.flatMap f).length ≤ L.length
  | [] => by simp
  | x :: L => by rw [List.flatMap_cons, List.length_append, List.length_cons]; have := h x; have := flatMap_le h L; omega
theorem bulbs_few {b : Bulbs} (h : CheckBulbs b = 0) : len b.hydros ≤ 8 ∧ len b.glasses ≤ 40 := by
  unfold CheckBulbs at h
  split at h
  · cases h
  split at h
  · cases h
  omega
noncomputable def blmL (a : Bulbs × Int) : List Int := (glassesL a.1 a.2).flatMap (blm1 a.1 (hydro a).1)
theorem blmL_length (a : Bulbs × Int) : (blmL a).length ≤ (glassesL a.1 a.2).length := flatMap_le (fun x => by unfold blm1; split <;> simp) _
noncomputable def blm (a : Bulbs × Int) : List Int × Int := if (CheckBulbs a.1 != 0) = true then ([], CheckBulbs a.1) else if (!(hydro a).2) = true then ([], 5) else if (!void (errs a.1 (hydro a).1 0)) = true then ([], 0) else (sortL (blmL a), 0)
theorem blm_eq (a : Bulbs × Int) : callT1 P BKBl11 30 29 D_off R_ints a = some (blm a) := by
  rw [fn_blm]; unfold blm
  refine br_step (fun _ => rfl) (fun h => br_step (fun _ => rfl) (fun _ => br_step (fun _ => rfl) (fun _ => ?_)))
  have hf := (bulbs_few (b := a.1) (by simpa using h)).2
  have h1 := glassesL_length a.1 a.2
  have h2 := blmL_length a
  have e0 : decF rInt 0 (fun _ _ => AV.top) = ([] : List Int) := rfl
  have e : blmApp (decF rInt 0 fun _ _ => AV.top) a a.1 (hydro a).1 = blmL a := by rw [e0]; exact List.nil_append _
  rw [e0] at e ⊢
  rw [e]
  refine chk_step (decide_eq_true ⟨rfl, by simp only [List.length_nil]; omega⟩) (chk_step (decide_eq_true (by omega)) ?_)
  rw [T.run_ret, decF_encF]
  have := decF_enc0 rInt (sortL (blmL a))
  rw [sortL_length] at this
  rw [this]
end K
noncomputable def BKBl12 : Tab := BKBl11.addCall 29 (callE D_off R_ints (fun a => .ret (K.blm a)))
theorem tKBl12 : TabOk P BKBl12 := TabOk.addPC tKBl11 (fun a r h => by rw [← ret_some h]; exact call_of okP tKBl11 (K.blm_eq a))
end Go.Proofs.YtjbhooodjmjdkaaGreat
/-! KBl2 -/
namespace Go.Proofs.YtjbhooodjmjdkaaGreat
open Ev K
set_option maxRecDepth 100000
/-- A number of a list. -/
def K.atI (l : List Int) (i : Nat) : Int := numOf (encF rInt l i 0)
theorem K.atI_get {l : List Int} {i : Nat} (h : i < l.length) : atI l i = l[i] := by unfold atI; rw [encF_at (List.getElem?_eq_getElem h)]; rfl
def S_rsgi := DecS.mk0 (.cons (dRows rInt) (.skips 2 (.cons (dO 0) (.cons (dI .i64) (.last (dI .i64) 43))))) (.rows 3 rInt .nil)
def X_rsgi := DecX.one (.exit 2) [0, 3, 4, 5] S_rsgi
noncomputable def K.st_rsgi := loopT1 P BKBl12 30 122 49 [5, 0, 4, 3] S_rsgi X_rsgi
theorem sl_rsgi : ∀ s, (K.st_rsgi) s = T.run (
  .br (decide (Prod.snd (Prod.snd (Prod.snd (Prod.fst s))) > (0 : Int))) (
    .chk (decide ((0 : Int) ≤ IntKind.wrap IntKind.i64 (Prod.snd (Prod.snd (Prod.snd (Prod.fst s))) - (1 : Int)) ∧ IntKind.wrap IntKind.i64 (Prod.snd (Prod.snd (Prod.snd (Prod.fst s))) - (1 : Int)) < (↑(Prod.fst (Prod.snd (Prod.fst s))) : Int))) <|
    .chk (decide ((0 : Int) ≤ Prod.fst (Prod.snd (Prod.snd (Prod.fst s))) ∧ Prod.fst (Prod.snd (Prod.snd (Prod.fst s))) < (↑(List.length (Prod.fst (Prod.fst s))) : Int))) <|
    .br (decide (numOf (encF rInt (Prod.fst (Prod.snd s)) (Int.toNat (IntKind.wrap IntKind.i64 (Prod.snd (Prod.snd (Prod.snd (Prod.fst s))) - (1 : Int)))) (0 : Nat)) > numOf (encF rInt (Prod.fst (Prod.fst s)) ((0 : Nat) + Int.toNat (Prod.fst (Prod.snd (Prod.snd (Prod.fst s))))) (0 : Nat)))) (
      .ret (Sum.inl ((decF rInt (List.length (Prod.fst (Prod.fst s))) fun i => encF rInt (Prod.fst (Prod.fst s)) ((0 : Nat) + i), Prod.fst (Prod.snd (Prod.fst s)), Prod.fst (Prod.snd (Prod.snd (Prod.fst s))), IntKind.wrap IntKind.i64 (Prod.snd (Prod.snd (Prod.snd (Prod.fst s))) - (1 : Int))), decF rInt (List.length (Prod.fst (Prod.snd s))) (encF rInt (Prod.fst (Prod.snd s))), PUnit.unit))) (
      .ret (Sum.inr ((decF rInt (List.length (Prod.fst (Prod.fst s))) fun i => encF rInt (Prod.fst (Prod.fst s)) ((0 : Nat) + i), Prod.snd (Prod.fst s)), decF rInt (List.length (Prod.fst (Prod.snd s))) (encF rInt (Prod.fst (Prod.snd s))), PUnit.unit)))) (
    .ret (Sum.inr ((decF rInt (List.length (Prod.fst (Prod.fst s))) fun i => encF rInt (Prod.fst (Prod.fst s)) ((0 : Nat) + i), Prod.snd (Prod.fst s)), decF rInt (List.length (Prod.fst (Prod.snd s))) (encF rInt (Prod.fst (Prod.snd s))), PUnit.unit)))) := fun s => by kernel_rfl
noncomputable def K.L_rsgi := lim K.st_rsgi
/-- Where a number goes in: behind the last one that is not greater. -/
def K.insP (L : List Int) (x : Int) (n : Nat) : Nat := match first (fun j => !decide (atI L (n - j - 1) > x)) n with
  | some j => n - j
  | none => 0
theorem K.L_rsgi_eq (l L : List Int) (i : Nat) (hi : i < l.length) (h : L.length ≤ 1000000) : L_rsgi ((l, L.length, (i : Int), (L.length : Int)), L, ()) = some ((l, L.length, (i : Int), (insP L (atI l i) L.length : Int)), L, ()) := by
  have := lim_find (step := st_rsgi) (fun j : Nat => ((l, L.length, (i : Int), ((L.length - j : Nat) : Int)), L, ())) L.length (fun j => !decide (atI L (L.length - j - 1) > atI l i)) (fun j => ((l, L.length, (i : Int), ((L.length - j : Nat) : Int)), L, ())) ((l, L.length, (i : Int), 0), L, ()) (fun j hj hp => ?_) (fun j hj hp => ?_) ?_
  · show L_rsgi ((l, L.length, (i : Int), ((L.length - 0 : Nat) : Int)), L, ()) = _
    rw [show L_rsgi = lim st_rsgi from rfl, this]
    unfold insP
    cases first (fun j => !decide (atI L (L.length - j - 1) > atI l i)) L.length <;> rfl
  · rw [sl_rsgi]
    have hp : ¬ atI L (L.length - j - 1) > atI l i := by simpa using hp
    simp only [T.run_br, T.run_chk, T.run_ret, decide_eq_true_eq, decF_encF, decF_enc0, Nat.zero_add]
    rw [if_pos (by omega), w64_in (n := ((L.length - j : Nat) : Int) - 1) (by omega) (by omega), if_pos (by omega), if_pos (by omega), show (((L.length - j : Nat) : Int) - 1).toNat = L.length - j - 1 by omega, Int.toNat_natCast]
    exact (if_neg hp).trans rfl
  · rw [sl_rsgi]
    have hp : atI L (L.length - j - 1) > atI l i := by simpa using hp
    simp only [T.run_br, T.run_chk, T.run_ret, decide_eq_true_eq, decF_encF, decF_enc0, Nat.zero_add]
    rw [if_pos (by omega), w64_in (n := ((L.length - j : Nat) : Int) - 1) (by omega) (by omega), if_pos (by omega), if_pos (by omega), show (((L.length - j : Nat) : Int) - 1).toNat = L.length - j - 1 by omega, Int.toNat_natCast]
    rw [show ((L.length - j : Nat) : Int) - 1 = ((L.length - (j + 1) : Nat) : Int) by omega]
    exact (if_pos hp).trans rfl
  · rw [sl_rsgi]
    simp only [T.run_br, T.run_ret, decide_eq_true_eq, decF_encF, decF_enc0]
    rw [if_neg (by omega), Nat.sub_self]; rfl
noncomputable def BKBl21 : Tab := BKBl12.addNode 122 49 (nodeE [5, 0, 4, 3] S_rsgi X_rsgi (fun s => .obs (K.L_rsgi s) .ret))
theorem tKBl21 : TabOk P BKBl21 := TabOk.addLoop (d := 30) okP tKBl12 (by kernel_rfl) (by kernel_rfl) (fun s r h => obs_ret h)
def S_rsg := DecS.ghost 3 3 1 [.int .i64] (DecS.mk0 (.cons (dRows rInt) (.skips 2 (.cons (dO 0) (.last (dI .i64) 44)))) (.rows 3 rInt .nil))
def X_rsg := DecX.one (.exit 0) [3] (DecS.mk0 (.skips 3 (.last (dO 0) 45)) (.rows 3 rInt .nil))
noncomputable def K.st_rsg := loopT1 P BKBl21 30 122 25 [4, 3, 0] S_rsg X_rsg
theorem sl_rsg : ∀ s, (K.st_rsg) s = T.run (
  .br (decide (Prod.snd (Prod.snd (Prod.fst s)) < (↑(clampL (List.length (Prod.fst (Prod.fst s)))) : Int))) (
    .obs (L_rsgi ((decF rInt (List.length (Prod.fst (Prod.fst s))) fun i => encF rInt (Prod.fst (Prod.fst s)) ((0 : Nat) + i), Prod.fst (Prod.snd (Prod.fst s)), Prod.snd (Prod.snd (Prod.fst s)), (↑(Prod.fst (Prod.snd (Prod.fst s))) : Int)), decF rInt (List.length (Prod.fst (Prod.snd s))) (encF rInt (Prod.fst (Prod.snd s))), PUnit.unit)) fun x0 =>
      .chk (decide ((0 : Int) ≤ Prod.snd (Prod.snd (Prod.snd (Prod.fst x0))) ∧ Prod.snd (Prod.snd (Prod.snd (Prod.fst x0))) ≤ (↑(Prod.fst (Prod.snd (Prod.fst x0))) : Int)) && true) <|
      .chk (decide (((0 : Nat) + (Int.toNat (Prod.snd (Prod.snd (Prod.snd (Prod.fst x0)))) - (0 : Nat))) * (8 : Nat) ≤ (140737488355328 : Nat) ∧ (0 : Nat) + (Int.toNat (Prod.snd (Prod.snd (Prod.snd (Prod.fst x0)))) - (0 : Nat)) ≤ nat_lit 9223372036854775807)) <|
      .chk (decide ((0 : Int) ≤ Prod.fst (Prod.snd (Prod.snd (Prod.fst x0))) ∧ Prod.fst (Prod.snd (Prod.snd (Prod.fst x0))) < (↑(List.length (Prod.fst (Prod.fst x0))) : Int))) <|
      .chk (decide (((0 : Nat) + (Int.toNat (Prod.snd (Prod.snd (Prod.snd (Prod.fst x0)))) - (0 : Nat)) + (1 : Nat)) * (8 : Nat) ≤ (140737488355328 : Nat) ∧ (0 : Nat) + (Int.toNat (Prod.snd (Prod.snd (Prod.snd (Prod.fst x0)))) - (0 : Nat)) + (1 : Nat) ≤ nat_lit 9223372036854775807)) <|
      .chk (true && decide ((0 : Int) ≤ Prod.snd (Prod.snd (Prod.snd (Prod.fst x0))) ∧ Prod.snd (Prod.snd (Prod.snd (Prod.fst x0))) ≤ (↑(Prod.fst (Prod.snd (Prod.fst x0))) : Int))) <|
      .chk (decide (((0 : Nat) + (Int.toNat (Prod.snd (Prod.snd (Prod.snd (Prod.fst x0)))) - (0 : Nat)) + (1 : Nat) + (Prod.fst (Prod.snd (Prod.fst x0)) - Int.toNat (Prod.snd (Prod.snd (Prod.snd (Prod.fst x0)))))) * (8 : Nat) ≤ (140737488355328 : Nat) ∧ (0 : Nat) + (Int.toNat (Prod.snd (Prod.snd (Prod.snd (Prod.fst x0)))) - (0 : Nat)) + (1 : Nat) + (Prod.fst (Prod.snd (Prod.fst x0)) - Int.toNat (Prod.snd (Prod.snd (Prod.snd (Prod.fst x0))))) ≤ nat_lit 9223372036854775807)) <|
      .ret (Sum.inl ((decF rInt (List.length (Prod.fst (Prod.fst x0))) fun i => encF rInt (Prod.fst (Prod.fst x0)) ((0 : Nat) + i), (0 : Nat) + (Int.toNat (Prod.snd (Prod.snd (Prod.snd (Prod.fst x0)))) - (0 : Nat)) + (1 : Nat) + (Prod.fst (Prod.snd (Prod.fst x0)) - Int.toNat (Prod.snd (Prod.snd (Prod.snd (Prod.fst x0))))), IntKind.wrap IntKind.i64 (Prod.fst (Prod.snd (Prod.snd (Prod.fst x0))) + (1 : Int))), decF rInt ((0 : Nat) + (Int.toNat (Prod.snd (Prod.snd (Prod.snd (Prod.fst x0)))) - (0 : Nat)) + (1 : Nat) + (Prod.fst (Prod.snd (Prod.fst x0)) - Int.toNat (Prod.snd (Prod.snd (Prod.snd (Prod.fst x0)))))) (appG ((0 : Nat) + (Int.toNat (Prod.snd (Prod.snd (Prod.snd (Prod.fst x0)))) - (0 : Nat)) + (1 : Nat)) (appG ((0 : Nat) + (Int.toNat (Prod.snd (Prod.snd (Prod.snd (Prod.fst x0)))) - (0 : Nat))) (appG (0 : Nat) (fun x x_1 => AV.top) fun i k => encF rInt (Prod.fst (Prod.snd x0)) ((0 : Nat) + i) k) fun i k => Option.getD [AV.int IntKind.i64 (numOf (encF rInt (Prod.fst (Prod.fst x0)) ((0 : Nat) + Int.toNat (Prod.fst (Prod.snd (Prod.snd (Prod.fst x0))))) (0 : Nat)))][((0 : Nat) + i) * (1 : Nat) + k]? AV.top) fun i k => encF rInt (Prod.fst (Prod.snd x0)) (Int.toNat (Prod.snd (Prod.snd (Prod.snd (Prod.fst x0)))) + i) k), PUnit.unit))) (
    .ret (Sum.inr (Prod.fst (Prod.snd (Prod.fst s)), decF rInt (List.length (Prod.fst (Prod.snd s))) (encF rInt (Prod.fst (Prod.snd s))), PUnit.unit)))) := fun s => by kernel_rfl
theorem Ev.decF_cat {ρ : Type} (R : RowD ρ) (n m : Nat) (f g : Nat → Nat → AV) : decF R (n + m) (appG n f g) = decF R n f ++ decF R m g := by
  unfold decF
  rw [List.range_add, List.map_append, List.map_map]
  congr 1
  · refine List.map_congr_left (fun i hi => ?_)
    have hi := List.mem_range.1 hi
    congr 1; funext k
    unfold appG
    have : Nat.ble n i = false := by rw [← Bool.not_eq_true, Nat.ble_eq]; omega
    rw [this]
  · refine List.map_congr_left (fun i _ => ?_)
    simp only [Function.comp]
    congr 1; funext k
    unfold appG
    have : Nat.ble n (n + i) = true := by rw [Nat.ble_eq]; omega
    rw [this, Nat.add_sub_cancel_left]
namespace K
theorem insP_le (L : List Int) (x : Int) (n : Nat) : insP L x n ≤ n := by
  unfold insP
  cases first (fun j => !decide (atI L (n - j - 1) > x)) n <;> simp
/-- A number goes in. -/
def insS (L : List Int) (x : Int) : List Int := L.take (insP L x L.length) ++ [x] ++ L.drop (insP L x L.length)
theorem insS_length (L : List Int) (x : Int) : (insS L x).length = L.length + 1 := by
  have := insP_le L x L.length
  unfold insS
  simp only [List.length_append, List.length_take, List.length_drop, List.length_cons, List.length_nil]; omega
theorem insS_dec (L : List Int) (x : Int) (k : Nat) (hk : k ≤ L.length) (lit : Nat → Nat → AV) (hl : rInt.rd (lit 0) = x) :
    decF rInt (0 + (k - 0) + 1 + (L.length - k)) (appG (0 + (k - 0) + 1) (appG (0 + (k - 0)) (appG 0 (fun _ _ => .top) fun i k => encF rInt L (0 + i) k) lit) fun i c => encF rInt L (k + i) c) = L.take k ++ [x] ++ L.drop k := by
  rw [decF_cat, decF_cat, decF_cat, decF_drop rInt L 0 (k - 0) (by omega), decF_drop rInt L k (L.length - k) (by omega)]
  rw [decF_one, hl]
  have e0 : decF rInt 0 (fun _ _ => AV.top) = ([] : List Int) := rfl
  rw [e0, List.nil_append, List.drop_zero, Nat.sub_zero, show (L.drop k).take (L.length - k) = L.drop k from List.take_of_length_le (by simp)]
def risR (l : List Int) (i : Nat) : List Int := (List.range i).foldl (fun L j => insS L (atI l j)) []
theorem risR_succ (l : List Int) (i : Nat) : risR l (i + 1) = insS (risR l i) (atI l i) := by unfold risR; rw [List.range_succ, List.foldl_append]; rfl
theorem risR_length (l : List Int) : ∀ i, (risR l i).length = i
  | 0 => rfl
  | i + 1 => by rw [risR_succ, insS_length, risR_length l i]
def risL (l : List Int) : List Int := risR l l.length
noncomputable def L_rsg := lim st_rsg
theorem L_rsg_eq (l : List Int) (h : l.length ≤ 1000000) : L_rsg ((l, 0, 0), [], ()) = some (l.length, risL l, ()) := by
  have hc : clampL l.length = l.length := clampL_eq (by unfold maxL; omega)
  refine lim_all (fun i => ((l, i, (i : Int)), risR l i, ())) l.length (fun i hi => ?_) ?_
  · rw [sl_rsg]
    have hR := risR_length l i
    have hk := insP_le (risR l i) (atI l i) (risR l i).length
    have hli := L_rsgi_eq l (risR l i) i hi (by omega)
    simp only [T.run_br, decide_eq_true_eq, hc]
    rw [if_pos (by omega), decF_enc0, decF_encF]
    rw [hR] at hli
    rw [hli, T.run_some]
    rw [hR] at hk
    generalize hkk : insP (risR l i) (atI l i) i = k at *
    simp only [Int.toNat_natCast]
    refine chk_step (by simp; omega) (chk_step (decide_eq_true (by omega)) (chk_step (by simp; omega) (chk_step (decide_eq_true (by omega)) (chk_step (by simp; omega) (chk_step (decide_eq_true (by omega)) ?_)))))
    rw [T.run_ret, decF_enc0, w64_in (n := (i : Int) + 1) (by omega) (by omega)]
    have hd := insS_dec (risR l i) (atI l i) k (by omega) (fun i_1 c => Option.getD [AV.int IntKind.i64 (numOf (encF rInt l (0 + i) 0))][(0 + i_1) * 1 + c]? AV.top) (by show numOf (encF rInt l (0 + i) 0) = atI l i; rw [Nat.zero_add]; rfl)
    rw [hR] at hd
    rw [hd, risR_succ]
    have : insS (risR l i) (atI l i) = (risR l i).take k ++ [atI l i] ++ (risR l i).drop k := by unfold insS; rw [hR, hkk]
    rw [this, show 0 + (k - 0) + 1 + (i - k) = i + 1 by omega]
    rfl
  · rw [sl_rsg]
    simp only [T.run_br, T.run_ret, decide_eq_true_eq, hc]
    rw [if_neg (by omega), decF_encF]; rfl
end K
noncomputable def BKBl22 : Tab := BKBl21.addNode 122 25 (nodeE [4, 3, 0] S_rsg X_rsg (fun s => .obs (K.L_rsg s) .ret))
theorem tKBl22 : TabOk P BKBl22 := TabOk.addLoop (d := 30) okP tKBl21 (by kernel_rfl) (by kernel_rfl) (fun s r h => obs_ret h)
def D_rsg := DecL.last (dRows rInt) 0
theorem fn_rsg : ∀ a, (freshT1 P BKBl22 30 122 3 D_rsg rInt) a = T.run (
  .obs (L_rsg ((decF rInt (List.length a) fun i => encF rInt a ((0 : Nat) + i), (0 : Nat), (0 : Int)), decF rInt (0 : Nat) fun x x_1 => AV.top, PUnit.unit)) fun x0 =>
    .ret (decF rInt (List.length (Prod.fst (Prod.snd x0))) fun i => encF rInt (Prod.fst (Prod.snd x0)) ((0 : Nat) + i))) := fun a => by kernel_rfl
theorem K.rsg_eq (l : List Int) (h : l.length ≤ 1000000) : freshT1 P BKBl22 30 122 3 D_rsg rInt l = some (risL l) := by
  rw [fn_rsg]
  simp only [decF_enc0]
  show T.run (.obs (L_rsg ((l, 0, 0), [], ())) _) = _
  rw [L_rsg_eq l h, T.run_some, T.run_ret]
noncomputable def BKBl23 : Tab := BKBl22.addTurn 122 (freshE 3 D_rsg rInt (fun l => .chk (decide (l.length ≤ 1000000)) (.ret (K.risL l))))
theorem tKBl23 : TabOk P BKBl23 := TabOk.addFresh (d := 30) okP tKBl22 (fun a r h => by obtain ⟨g, e⟩ := chk_ret h; subst e; exact K.rsg_eq a (by simpa using g))
end Go.Proofs.YtjbhooodjmjdkaaGreat
/-! KBl3 -/
namespace Go.Proofs.YtjbhooodjmjdkaaGreat
open Ev K
set_option maxRecDepth 100000
def S_min := DecS.ghost 5 3 1 [.int .i64] (DecS.mk0 (.skip (.cons (dI .i64) (.unit (dLp 0 0 0 0) (.skips 2 (.cons (dO 1) (.last (dI .i64) 26)))))) (.flat 31 lBulbs (.rows 3 rInt .nil)))
def X_min := DecX.one (.exit 0) [5] (DecS.mk0 (.skips 5 (.last (dO 0) 27)) (.rows 3 rInt .nil))
noncomputable def K.st_min := loopT1 P BKBl23 30 78 25 [6, 2, 5, 1] S_min X_min
theorem sl_min : ∀ s, (K.st_min) s = T.run (
  .br (decide (Prod.snd (Prod.snd (Prod.fst s)) < (↑(len (Bulbs.glasses (Prod.fst (Prod.snd s)))) : Int))) (
    .chk (decide ((0 : Int) ≤ Prod.snd (Prod.snd (Prod.fst s)) ∧ Prod.snd (Prod.snd (Prod.fst s)) < (↑(XS.len (Bulbs.glasses (Prod.fst (Prod.snd s)))) : Int))) <|
    .br (XS.g (Bulbs.glasses (Prod.fst (Prod.snd s))) (Int.toNat (Prod.snd (Prod.snd (Prod.fst s)))) (1 : Nat) == Prod.fst (Prod.fst s)) (
      .chk (decide ((0 : Int) ≤ Prod.snd (Prod.snd (Prod.fst s)) ∧ Prod.snd (Prod.snd (Prod.fst s)) < (↑(XS.len (Bulbs.glasses (Prod.fst (Prod.snd s)))) : Int))) <|
      .chk (decide ((List.length (Prod.fst (Prod.snd (Prod.snd s))) + (1 : Nat)) * (8 : Nat) ≤ (140737488355328 : Nat) ∧ List.length (Prod.fst (Prod.snd (Prod.snd s))) + (1 : Nat) ≤ nat_lit 9223372036854775807)) <|
      .ret (Sum.inl ((Prod.fst (Prod.fst s), List.length (Prod.fst (Prod.snd (Prod.snd s))) + (1 : Nat), IntKind.wrap IntKind.i64 (Prod.snd (Prod.snd (Prod.fst s)) + (1 : Int))), Prod.fst (Prod.snd s), decF rInt (List.length (Prod.fst (Prod.snd (Prod.snd s))) + (1 : Nat)) (appG (List.length (Prod.fst (Prod.snd (Prod.snd s)))) (encF rInt (Prod.fst (Prod.snd (Prod.snd s)))) fun i k => Option.getD [AV.int IntKind.i64 (XS.g (Bulbs.glasses (Prod.fst (Prod.snd s))) (Int.toNat (Prod.snd (Prod.snd (Prod.fst s)))) (0 : Nat))][((0 : Nat) + i) * (1 : Nat) + k]? AV.top), PUnit.unit))) (
      .ret (Sum.inl ((Prod.fst (Prod.fst s), Prod.fst (Prod.snd (Prod.fst s)), IntKind.wrap IntKind.i64 (Prod.snd (Prod.snd (Prod.fst s)) + (1 : Int))), Prod.fst (Prod.snd s), decF rInt (List.length (Prod.fst (Prod.snd (Prod.snd s)))) (encF rInt (Prod.fst (Prod.snd (Prod.snd s)))), PUnit.unit)))) (
    .ret (Sum.inr (Prod.fst (Prod.snd (Prod.fst s)), decF rInt (List.length (Prod.fst (Prod.snd (Prod.snd s)))) (encF rInt (Prod.fst (Prod.snd (Prod.snd s)))), PUnit.unit)))) := fun s => by kernel_rfl
namespace K
/-- The IDs of the first glasses that are of a hydrometer. -/
def mineR (b : Bulbs) (n : Int) (i : Nat) : List Int := ((List.range i).filter fun k => (gls b.glasses k).hydro == n).map fun k => (gls b.glasses k).id
theorem mineR_succ (b : Bulbs) (n : Int) (i : Nat) : mineR b n (i + 1) = if ((gls b.glasses i).hydro == n) = true then mineR b n i ++ [(gls b.glasses i).id] else mineR b n i := by
  unfold mineR
  rw [List.range_succ, List.filter_append, List.map_append]
  by_cases h : ((gls b.glasses i).hydro == n) = true
  · rw [if_pos h]; simp [h]
  · rw [if_neg h]; simp [h]
theorem mineR_le (b : Bulbs) (n : Int) (i : Nat) : (mineR b n i).length ≤ i := by
  unfold mineR; rw [List.length_map]; exact Nat.le_trans (List.length_filter_le ..) (by simp)
def mineU (b : Bulbs) (n : Int) : List Int := mineR b n (len b.glasses)
noncomputable def L_min := lim st_min
theorem L_min_eq (b : Bulbs) (n : Int) (h : len b.glasses ≤ 1000000) : L_min ((n, 0, 0), b, [], ()) = some ((mineU b n).length, mineU b n, ()) := by
  have e1 := K.len_le b.glasses; have e2 := K.len_le' b.glasses
  refine lim_all (fun i => ((n, (mineR b n i).length, (i : Int)), b, mineR b n i, ())) (len b.glasses) (fun i hi => ?_) ?_
  · rw [sl_min]
    have hl := mineR_le b n i
    simp only [T.run_br, T.run_chk, T.run_ret, decide_eq_true_eq, Int.toNat_natCast]
    rw [if_pos (by omega), if_pos (by omega)]
    have hg : (b.glasses.g i 1 == n) = ((gls b.glasses i).hydro == n) := rfl
    rw [hg, w64_in (n := (i : Int) + 1) (by omega) (by omega)]
    have hs := mineR_succ b n i
    by_cases hc : ((gls b.glasses i).hydro == n) = true
    · rw [if_pos hc] at hs ⊢
      rw [if_pos (by omega), if_pos (by omega), decF_push, hs]
      simp only [List.length_append]; rfl
    · rw [if_neg hc] at hs ⊢
      rw [decF_encF, hs]; rfl
  · rw [sl_min]
    simp only [T.run_br, T.run_ret, decide_eq_true_eq]
    rw [if_neg (by omega), decF_encF]; rfl
end K
noncomputable def BKBl31 : Tab := BKBl23.addNode 78 25 (nodeE [6, 2, 5, 1] S_min X_min (fun s => .obs (K.L_min s) .ret))
theorem tKBl31 : TabOk P BKBl31 := TabOk.addLoop (d := 30) okP tKBl23 (by kernel_rfl) (by kernel_rfl) (fun s r h => obs_ret h)
theorem fn_min : ∀ a, (callT1 P BKBl31 30 78 D_off (dRows rInt)) a = T.run (
  .obs (L_min ((Prod.snd a, (0 : Nat), (0 : Int)), Prod.fst a, decF rInt (0 : Nat) fun x x_1 => AV.top, PUnit.unit)) fun x0 =>
    .chk (decide (List.length (decF rInt (List.length (Prod.fst (Prod.snd x0))) fun i => encF rInt (Prod.fst (Prod.snd x0)) ((0 : Nat) + i)) ≤ (1000000 : Nat))) <|
    .ret (decF rInt (List.length (risL (decF rInt (List.length (Prod.fst (Prod.snd x0))) fun i => encF rInt (Prod.fst (Prod.snd x0)) ((0 : Nat) + i)))) fun i => encF rInt (risL (decF rInt (List.length (Prod.fst (Prod.snd x0))) fun i => encF rInt (Prod.fst (Prod.snd x0)) ((0 : Nat) + i))) ((0 : Nat) + i))) := fun a => by kernel_rfl
def K.r_mine (a : Bulbs × Int) : List Int := risL (mineU a.1 a.2)
theorem K.r_mine_eq (a : Bulbs × Int) (h : len a.1.glasses ≤ 1000000) : callT1 P BKBl31 30 78 D_off (dRows rInt) a = some (r_mine a) := by
  rw [fn_min]
  simp only [decF_enc0]
  show T.run (.obs (L_min ((a.2, 0, 0), a.1, [], ())) _) = _
  rw [L_min_eq a.1 a.2 h, T.run_some]
  have := mineR_le a.1 a.2 (len a.1.glasses)
  have e : (mineU a.1 a.2).length ≤ len a.1.glasses := this
  exact chk_step (decide_eq_true (by simp only; omega)) rfl
noncomputable def BKBl32 : Tab := BKBl31.addCall 78 (callE D_off (dRows rInt) (fun a => .chk (decide (len a.1.glasses ≤ 1000000)) (.ret (K.r_mine a))))
theorem tKBl32 : TabOk P BKBl32 := TabOk.addFn (d := 30) okP tKBl31 (fun a r h => by obtain ⟨g, e⟩ := chk_ret h; subst e; exact K.r_mine_eq a (by simpa using g))
end Go.Proofs.YtjbhooodjmjdkaaGreat
/-! KBl4 -/
namespace Go.Proofs.YtjbhooodjmjdkaaGreat
open Ev K
set_option maxRecDepth 100000
def S_rbl := DecS.ghost 8 3 1 [.int .i64] (DecS.mk0 (.skips 2 (.unit (dLp 0 0 0 0) (.skip (.unit (dLp 1 0 0 0) (.skip (.cons (dI .i64) (.cons (dRows rInt) (.cons (dO 2) (.last (dI .i64) 53))))))))) (.flat 31 lBulbs (.flat 53 (.tops 2) (.rows 3 rInt .nil))))
def X_rbl := DecX.one (.exit 0) [4, 8] (DecS.mk0 (.skips 4 (.unit (dLp 0 0 0 0) (.skips 3 (.last (dO 1) 54)))) (.flat 53 (.tops 2) (.rows 3 rInt .nil)))
noncomputable def K.st_rbl := loopT1 P BKBl32 30 30 97 [9, 7, 8, 6, 2, 4] S_rbl X_rbl
theorem sl_rbl : ∀ s, (K.st_rbl) s = T.run (
  .br (decide (Prod.snd (Prod.snd (Prod.snd (Prod.fst s))) < (↑(clampL (List.length (Prod.fst (Prod.snd (Prod.fst s))))) : Int))) (
    .chk (decide ((0 : Int) ≤ Prod.fst (Prod.fst s) ∧ Prod.fst (Prod.fst s) < (↑(XS.len (Bulbs.hydros (Prod.fst (Prod.snd s)))) : Int))) <|
    .chk (decide ((0 : Int) ≤ Prod.snd (Prod.snd (Prod.snd (Prod.fst s))) ∧ Prod.snd (Prod.snd (Prod.snd (Prod.fst s))) < (↑(List.length (Prod.fst (Prod.snd (Prod.fst s)))) : Int))) <|
    .br (!r_none (r_off (Prod.fst (Prod.snd s)) (hyd (Bulbs.hydros (Prod.fst (Prod.snd s))) (Int.toNat (Prod.fst (Prod.fst s)))) (numOf (encF rInt (Prod.fst (Prod.snd (Prod.fst s))) ((0 : Nat) + Int.toNat (Prod.snd (Prod.snd (Prod.snd (Prod.fst s))))) (0 : Nat))))) (
      .chk (decide ((0 : Int) ≤ Prod.snd (Prod.snd (Prod.snd (Prod.fst s))) ∧ Prod.snd (Prod.snd (Prod.snd (Prod.fst s))) < (↑(List.length (Prod.fst (Prod.snd (Prod.fst s)))) : Int))) <|
      .chk (decide ((List.length (Prod.fst (Prod.snd (Prod.snd (Prod.snd s)))) + (1 : Nat)) * (8 : Nat) ≤ (140737488355328 : Nat) ∧ List.length (Prod.fst (Prod.snd (Prod.snd (Prod.snd s)))) + (1 : Nat) ≤ nat_lit 9223372036854775807)) <|
      .ret (Sum.inl ((Prod.fst (Prod.fst s), decF rInt (List.length (Prod.fst (Prod.snd (Prod.fst s)))) fun i => encF rInt (Prod.fst (Prod.snd (Prod.fst s))) ((0 : Nat) + i), List.length (Prod.fst (Prod.snd (Prod.snd (Prod.snd s)))) + (1 : Nat), IntKind.wrap IntKind.i64 (Prod.snd (Prod.snd (Prod.snd (Prod.fst s))) + (1 : Int))), Prod.fst (Prod.snd s), PUnit.unit, decF rInt (List.length (Prod.fst (Prod.snd (Prod.snd (Prod.snd s)))) + (1 : Nat)) (appG (List.length (Prod.fst (Prod.snd (Prod.snd (Prod.snd s))))) (encF rInt (Prod.fst (Prod.snd (Prod.snd (Prod.snd s))))) fun i k => Option.getD [AV.int IntKind.i64 (numOf (encF rInt (Prod.fst (Prod.snd (Prod.fst s))) ((0 : Nat) + Int.toNat (Prod.snd (Prod.snd (Prod.snd (Prod.fst s))))) (0 : Nat)))][((0 : Nat) + i) * (1 : Nat) + k]? AV.top), PUnit.unit))) (
      .ret (Sum.inl ((Prod.fst (Prod.fst s), decF rInt (List.length (Prod.fst (Prod.snd (Prod.fst s)))) fun i => encF rInt (Prod.fst (Prod.snd (Prod.fst s))) ((0 : Nat) + i), Prod.fst (Prod.snd (Prod.snd (Prod.fst s))), IntKind.wrap IntKind.i64 (Prod.snd (Prod.snd (Prod.snd (Prod.fst s))) + (1 : Int))), Prod.fst (Prod.snd s), PUnit.unit, decF rInt (List.length (Prod.fst (Prod.snd (Prod.snd (Prod.snd s))))) (encF rInt (Prod.fst (Prod.snd (Prod.snd (Prod.snd s))))), PUnit.unit)))) (
    .ret (Sum.inr (Prod.fst (Prod.snd (Prod.snd (Prod.fst s))), PUnit.unit, decF rInt (List.length (Prod.fst (Prod.snd (Prod.snd (Prod.snd s))))) (encF rInt (Prod.fst (Prod.snd (Prod.snd (Prod.snd s))))), PUnit.unit)))) := fun s => by kernel_rfl
namespace K
/-- A glass without which a hydrometer could have an error. -/
noncomputable def rblP (b : Bulbs) (h : Nat) (x : Int) : Bool := !r_none (r_off b (hyd b.hydros h) x)
theorem take_filter_succ {l : List Int} {p : Int → Bool} {i : Nat} (h : i < l.length) : (l.take (i + 1)).filter p = if p (atI l i) = true then (l.take i).filter p ++ [atI l i] else (l.take i).filter p := by
  rw [List.take_add_one, List.getElem?_eq_getElem h, List.filter_append, atI_get h]
  by_cases hp : p l[i] = true
  · rw [if_pos hp]; simp [hp]
  · rw [if_neg hp]; simp [hp]
noncomputable def L_rbl := lim st_rbl
theorem L_rbl_eq (b : Bulbs) (h : Nat) (l : List Int) (hh : h < len b.hydros) (hl : l.length ≤ 1000000) : L_rbl (((h : Int), l, 0, 0), b, (), [], ()) = some ((l.filter (rblP b h)).length, (), l.filter (rblP b h), ()) := by
  have hc : clampL l.length = l.length := clampL_eq (by unfold maxL; omega)
  have e1 := K.len_le b.hydros; have e2 := K.len_le' b.hydros
  have := lim_all (step := st_rbl) (fun i => (((h : Int), l, ((l.take i).filter (rblP b h)).length, (i : Int)), b, (), (l.take i).filter (rblP b h), ())) l.length (r := ((l.filter (rblP b h)).length, (), l.filter (rblP b h), ())) (fun i hi => ?_) ?_
  · unfold L_rbl; simpa using this
  · rw [sl_rbl]
    have hlen : ((l.take i).filter (rblP b h)).length ≤ i := Nat.le_trans (List.length_filter_le ..) (by simp; omega)
    simp only [T.run_br, T.run_chk, T.run_ret, decide_eq_true_eq, Int.toNat_natCast, hc, Nat.zero_add]
    rw [if_pos (by omega), if_pos (by omega), if_pos (by omega), w64_in (n := (i : Int) + 1) (by omega) (by omega)]
    have hs := take_filter_succ (p := rblP b h) hi
    have hg : (!r_none (r_off b (hyd b.hydros h) (numOf (encF rInt l i 0)))) = rblP b h (atI l i) := rfl
    rw [hg]
    have e0 : (decF rInt l.length fun i => encF rInt l i) = l := decF_encF rInt l
    by_cases hp : rblP b h (atI l i) = true
    · rw [if_pos hp] at hs ⊢
      rw [if_pos (by omega), if_pos (by omega), decF_push, e0, hs]
      simp only [List.length_append]; rfl
    · rw [if_neg hp] at hs ⊢
      rw [e0, hs, decF_encF]; rfl
  · rw [sl_rbl]
    simp only [T.run_br, T.run_ret, decide_eq_true_eq, hc]
    rw [if_neg (by omega), decF_encF, List.take_of_length_le (Nat.le_refl _)]
end K
noncomputable def BKBl41 : Tab := BKBl32.addNode 30 97 (nodeE [9, 7, 8, 6, 2, 4] S_rbl X_rbl (fun s => .obs (K.L_rbl s) .ret))
theorem tKBl41 : TabOk P BKBl41 := TabOk.addLoop (d := 30) okP tKBl32 (by kernel_rfl) (by kernel_rfl) (fun s r h => obs_ret h)
def R_Ints := dAgg (.cons (dRows rInt) (.last (dI .i64) 0))
theorem fn_rbl : ∀ a, (callT1 P BKBl41 30 30 D_off R_Ints) a = T.run (
  .br (r_bulbs (Prod.fst a) != (0 : Int)) (
    .ret (([], r_bulbs (Prod.fst a)))) (
    .br (decide (i_rhydro (Prod.fst a) (Prod.snd a) < (0 : Int))) (
      .ret (([], (5 : Int)))) (
      .chk (decide ((0 : Int) ≤ i_rhydro (Prod.fst a) (Prod.snd a) ∧ i_rhydro (Prod.fst a) (Prod.snd a) < (↑(XS.len (Bulbs.hydros (Prod.fst a))) : Int))) <|
      .br (!r_none (r_off (Prod.fst a) (hyd (Bulbs.hydros (Prod.fst a)) (Int.toNat (i_rhydro (Prod.fst a) (Prod.snd a)))) (0 : Int))) (
        .ret (([], (0 : Int)))) (
        .chk (decide (len (Bulbs.glasses (Prod.fst a)) ≤ (1000000 : Nat))) <|
        .obs (L_rbl ((i_rhydro (Prod.fst a) (Prod.snd a), decF rInt (List.length (r_mine a)) fun i => encF rInt (r_mine a) ((0 : Nat) + i), (0 : Nat), (0 : Int)), Prod.fst a, PUnit.unit, decF rInt (0 : Nat) fun x x_1 => AV.top, PUnit.unit)) fun x0 =>
          .ret ((decF rInt (List.length (Prod.fst (Prod.snd (Prod.snd x0)))) fun i => encF rInt (Prod.fst (Prod.snd (Prod.snd x0))) ((0 : Nat) + i), (0 : Int))))))) := fun a => by kernel_rfl
noncomputable def K.r_blm (a : Bulbs × Int) : List Int × Int := if (r_bulbs a.1 != 0) = true then ([], r_bulbs a.1) else match first (p_rhydro a.1 a.2) (len a.1.hydros) with
  | none => ([], 5)
  | some i => if (!r_none (r_off a.1 (hyd a.1.hydros i) 0)) = true then ([], 0) else ((r_mine a).filter (rblP a.1 i), 0)
theorem K.risR_le (l : List Int) : (risL l).length = l.length := risR_length l _
theorem K.r_blm_eq (a : Bulbs × Int) (h : len a.1.glasses ≤ 1000000) : callT1 P BKBl41 30 30 D_off R_Ints a = some (r_blm a) := by
  rw [fn_rbl]; unfold r_blm
  refine br_step (fun _ => rfl) (fun _ => ?_)
  have e1 := K.len_le a.1.hydros; have e2 := K.len_le' a.1.hydros
  have hi : i_rhydro a.1 a.2 = idx (p_rhydro a.1 a.2) (len a.1.hydros) := rfl
  have e0 : (decF rInt (r_mine a).length fun i => encF rInt (r_mine a) (0 + i)) = r_mine a := decF_enc0 _ _
  have ez : (decF rInt 0 fun x x_1 => AV.top) = ([] : List Int) := rfl
  rw [e0, ez]
  have hm : (r_mine a).length ≤ 1000000 := by
    unfold r_mine; rw [risR_le]
    exact Nat.le_trans (mineR_le _ _ _) h
  cases hf : first (p_rhydro a.1 a.2) (len a.1.hydros) with
  | none =>
    rw [hi]; unfold idx; rw [hf]; rfl
  | some i =>
    have hlt := (first_spec hf).1
    rw [hi]; unfold idx; rw [hf]
    simp only [Int.toNat_natCast]
    rw [T.run_br, if_neg (by simp)]
    refine chk_step (by simp; omega) (br_step (fun _ => rfl) (fun _ => chk_step (decide_eq_true h) ?_))
    show T.run (.obs (L_rbl (((i : Int), r_mine a, 0, 0), a.1, (), [], ())) _) = _
    rw [L_rbl_eq a.1 i (r_mine a) hlt hm, T.run_some, T.run_ret, decF_enc0]
noncomputable def BKBl42 : Tab := BKBl41.addCall 30 (callE D_off R_Ints (fun a => .chk (decide (len a.1.glasses ≤ 1000000)) (.ret (K.r_blm a))))
theorem tKBl42 : TabOk P BKBl42 := TabOk.addFn (d := 30) okP tKBl41 (fun a r h => by obtain ⟨g, e⟩ := chk_ret h; subst e; exact K.r_blm_eq a (by simpa using g))
end Go.Proofs.YtjbhooodjmjdkaaGreat
/-! EvX -/
namespace Go.Proofs.YtjbhooodjmjdkaaGreat.Ev
open Go.RowKit Go.Sort Go.Proofs Go.Shelf

/-- A row's cells, as values of the evaluator. -/
def rowV {τ : Type} (R : RowD τ) (a : τ) : List AV := (List.range R.wd).map fun k => conf (ckAt R.tags k) (R.wr a k)
theorem bangA {α : Type} [Inhabited α] (F : Array α) (i : Nat) (h : i < F.size) : F[i]! = F[i] := getElem!_pos F i h
theorem bangL {α : Type} [Inhabited α] (F : List α) (i : Nat) (h : i < F.length) : F[i]! = F[i] := getElem!_pos F i h
def scalD (x : AV) : Value := match scal x with
  | some v => v
  | none => .nilFunc
/-- A row's cells. -/
def rowVal {τ : Type} (R : RowD τ) (a : τ) : List Value := (rowV R a).map scalD

theorem fullCK_sc {l : List CK} : ∀ {n k : Nat}, fullCK l n = true → k < n → ∀ x, scal (conf (ckAt l k) x) = some (scalD (conf (ckAt l k) x)) ∧ (scalD (conf (ckAt l k) x)).oneCell' = true
  | 0, k, _, h => absurd h (Nat.not_lt_zero _)
  | n + 1, k, h, hk => by
    simp only [fullCK, Bool.and_eq_true] at h
    by_cases e : k = n
    · subst e
      intro x
      cases hc : ckAt l k <;> rw [hc] at h <;> first | (exact absurd h.1 (by decide)) | exact ⟨rfl, rfl⟩
    · exact fullCK_sc h.2 (by omega)

section
variable {P : Program} {τ : Type} {R : RowD τ}

theorem rowV_length (R : RowD τ) (a : τ) : (rowV R a).length = R.wd := by simp [rowV]
theorem rowVal_length (R : RowD τ) (a : τ) : (rowVal R a).length = R.wd := by simp [rowVal, rowV]
theorem rowVal_get (R : RowD τ) (a : τ) {k : Nat} (hk : k < R.wd) : (rowVal R a)[k]? = some (scalD (conf (ckAt R.tags k) (R.wr a k))) := by simp [rowVal, rowV, hk]
theorem rowVal_one (hf : fullCK R.tags R.wd = true) (a : τ) : ∀ v ∈ rowVal R a, v.oneCell' = true := by
  intro v hv
  obtain ⟨k, hk⟩ := List.getElem?_of_mem hv
  have hlt : k < R.wd := by rw [← rowVal_length R a]; exact (List.getElem?_eq_some_iff.1 hk).1
  rw [rowVal_get R a hlt] at hk
  injection hk with hk; subst hk
  exact (fullCK_sc hf hlt _).2

theorem scalD_vr {w : World} {A : Nat → Prop} {r : Rr} {x : AV} {v : Value} (hs : scal x = some (scalD x)) (h : VR w A r x v) : v = scalD x := scal_eq hs h
theorem vr_scalD {w : World} {A : Nat → Prop} {r : Rr} {x : AV} (hs : scal x = some (scalD x)) : VR w A r x (scalD x) := by
  cases x <;> simp [scal] at hs <;> simp only [scalD, scal]
  all_goals constructor

theorem vrs_row {w : World} {A : Nat → Prop} {r : Rr} (hf : fullCK R.tags R.wd = true) (a : τ) : VR w A r (.agg (rowV R a)) (.agg (rowVal R a).toArray) := by
  refine .agg (by simp [rowVal]) (fun i x u hx hu => ?_)
  have hlt : i < R.wd := by rw [← rowV_length R a]; exact (List.getElem?_eq_some_iff.1 hx).1
  rw [List.getElem?_toArray, rowVal_get R a hlt] at hu
  injection hu with hu; subst hu
  have : (rowV R a)[i]? = some (conf (ckAt R.tags i) (R.wr a i)) := by simp [rowV, hlt]
  rw [this] at hx; injection hx with hx; subst hx
  exact vr_scalD (fullCK_sc hf hlt _).1

/-- What a function that compares two rows does, as the library's sort asks it. -/
theorem cmp_lays [Inhabited τ] (hf : fullCK R.tags R.wd = true) {g : FuncId} {cf : τ → τ → Int} (hc : ∀ x y, PC P g [.agg (rowV R x), .agg (rowV R y)] (.int .i64 (cf x y))) (blk off size : Nat) (w : World) : CmpLays P g #[] (rowVal R) R.wd cf blk off size w := by
  intro m os dk hs x y
  generalize sortWorldK (rowVal R) R.wd w blk off m dk os = W
  rw [Array.append_empty]
  have h := hc x y none 0 (fun _ => False) W #[.agg (rowVal R x).toArray, .agg (rowVal R y).toArray] (fun b hb => hb.elim)
    ⟨rfl, fun i x' u hx hu => by
      match i with
      | 0 => simp at hx hu; subst hx; subst hu; exact vrs_row hf x
      | 1 => simp at hx hu; subst hx; subst hu; exact vrs_row hf y
      | i + 2 => simp at hx⟩
  refine (callsIn_wide.1 h).mono ?_
  rintro en w' ⟨v, rfl, hv, hB⟩
  cases hv
  refine ⟨rfl, w'.drawn - W.drawn, w'.heap.extract W.heap.size, ?_⟩
  have e : w'.heap = W.heap ++ w'.heap.extract W.heap.size := by
    apply Array.ext_getElem?
    intro i
    by_cases hi : i < W.heap.size
    · rw [Array.getElem?_append_left hi]; exact hB.block i hi
    · rw [Array.getElem?_append_right (by omega)]
      by_cases hj : i < w'.heap.size
      · rw [Array.getElem?_eq_getElem hj, Array.getElem?_eq_getElem (by simp; omega)]
        simp [Array.getElem_extract, show W.heap.size + (i - W.heap.size) = i by omega]
      · rw [Array.getElem?_eq_none (by omega), Array.getElem?_eq_none (by simp; omega)]
  have h1 := hB.os; have h2 := hB.tape; have h3 := hB.output; have h4 := hB.drawn
  cases w' with
  | mk heap tape drawn os' output =>
    simp only at e h1 h2 h3 h4
    subst h1; subst h2; subst h3
    unfold grow World.drewN
    simp only
    congr 1
    omega

/-- The list, sorted. -/
def sortF [Inhabited τ] (cf : τ → τ → Int) (l : List τ) : List τ := (pdq (ltOf cf) l.toArray 0 l.length (Lib.bitLen l.length) true true).toList

theorem sortF_spec [Inhabited τ] {cf : τ → τ → Int} (hO : SWO (ltOf cf)) (l : List τ) : (sortF cf l).Perm l ∧ (sortF cf l).Pairwise fun x y => ltOf cf y x = false := by
  have h := pdq_sorts (ltOf cf) hO l.toArray 0 l.length (Lib.bitLen l.length) true true (Nat.zero_le _) (Nat.le_of_eq (by simp)) (Or.inl rfl)
  obtain ⟨⟨hs, _, hp⟩, ho⟩ := h
  unfold sortF
  generalize pdq (ltOf cf) l.toArray 0 l.length (Lib.bitLen l.length) true true = d at hs hp ho
  have hs : d.size = l.length := by simpa using hs
  have e1 : d.extract 0 l.length = d := by rw [← hs]; simp
  have e2 : l.toArray.extract 0 l.length = l.toArray := by simp
  rw [e1, e2] at hp
  refine ⟨by simpa using hp, ?_⟩
  rw [List.pairwise_iff_getElem]
  intro i j hi hj hij
  have := ho i j (Nat.zero_le _) hij (by simpa [← hs] using hj)
  rw [bangA d i (by simpa using hi), bangA d j (by simpa using hj)] at this
  simpa using this

theorem sortF_length [Inhabited τ] {cf : τ → τ → Int} (hO : SWO (ltOf cf)) (l : List τ) : (sortF cf l).length = l.length := (sortF_spec hO l).1.length_eq

/-- Where no two that are not one tie, there is one sorted list. -/
theorem sortF_unique [Inhabited τ] {cf : τ → τ → Int} (hO : SWO (ltOf cf)) {l l' : List τ} (hp : l'.Perm l) (hs : l'.Pairwise fun x y => ltOf cf y x = false) (ht : ∀ x ∈ l, ∀ y ∈ l, ltOf cf x y = false → ltOf cf y x = false → x = y) : sortF cf l = l' := by
  obtain ⟨h1, h2⟩ := sortF_spec hO l
  refine List.Perm.eq_of_pairwise (le := fun x y => ltOf cf y x = false) (fun a b ha hb h3 h4 => ?_) h2 hs (h1.trans hp.symm)
  exact ht a (h1.mem_iff.1 ha) b (hp.mem_iff.1 hb) h4 h3

theorem rows_flat [Inhabited τ] (hf : fullCK R.tags R.wd = true) (h0 : 0 < R.wd) {w : World} {A : Nat → Prop} {g : Get AV} {n : Nat} {rows : List Value} (ht : g.tag = R.tags) (hl : rows.length = n * R.wd) (h : RowsR w A g n R.wd rows) : rows = (Go.Sort.flatK (rowVal R) R.wd (decF R n g.f).toArray).toList := by
  apply List.ext_getElem?
  intro i
  have hdl : (decF R n g.f).length = n := decF_length ..
  by_cases hi : i < n * R.wd
  · have hr : i / R.wd < n := Nat.div_lt_of_lt_mul (by rw [Nat.mul_comm]; exact hi)
    have hm : i % R.wd < R.wd := Nat.mod_lt _ h0
    obtain ⟨u, hu, hv⟩ := h (i / R.wd) (i % R.wd) hr hm
    rw [Nat.div_add_mod'] at hu
    have hk := fullCK_sc hf hm (g.f (i / R.wd) (i % R.wd))
    have hu' := scalD_vr (x := g.cell (i / R.wd) (i % R.wd)) (by rw [Get.cell, ht]; exact hk.1) hv
    have hF : i < (Go.Sort.flatK (rowVal R) R.wd (decF R n g.f).toArray).size := by rw [Go.Sort.size_flatK]; simpa [hdl] using hi
    have hG := get_flatK (rowVal R) R.wd (decF R n g.f).toArray i (by simpa [hdl] using hi)
    rw [bangA _ i hF] at hG
    rw [hu, hu', Array.getElem?_toList, Array.getElem?_eq_getElem hF, hG]
    have e : (decF R n g.f).toArray[i / R.wd]! = R.rd (g.f (i / R.wd)) := by
      rw [bangA _ _ (by simpa [hdl] using hr)]; simp [decF]
    rw [e]
    have e2 := rowVal_get R (R.rd (g.f (i / R.wd))) hm
    have hlt : i % R.wd < (rowVal R (R.rd (g.f (i / R.wd)))).length := by rw [rowVal_length]; exact hm
    rw [bangL _ _ hlt]
    rw [List.getElem?_eq_getElem hlt] at e2
    injection e2 with e2
    rw [e2, R.ok _ _ hm, Get.cell, ht]
  · rw [List.getElem?_eq_none (by omega), List.getElem?_eq_none (by simp [hdl]; omega)]

theorem rowsR_flat [Inhabited τ] (hf : fullCK R.tags R.wd = true) (h0 : 0 < R.wd) {w : World} {A : Nat → Prop} (l : List τ) : RowsR w A ⟨R.tags, encF R l⟩ l.length R.wd (Go.Sort.flatK (rowVal R) R.wd l.toArray).toList := by
  intro i k hi hk
  have hlt : i * R.wd + k < l.length * R.wd := by
    have : (i + 1) * R.wd ≤ l.length * R.wd := Nat.mul_le_mul_right _ hi
    rw [Nat.add_mul, Nat.one_mul] at this; omega
  have hF : i * R.wd + k < (Go.Sort.flatK (rowVal R) R.wd l.toArray).size := by rw [Go.Sort.size_flatK]; simpa using hlt
  have hG := get_flatK (rowVal R) R.wd l.toArray (i * R.wd + k) (by simpa using hlt)
  rw [bangA _ _ hF] at hG
  have ed : (i * R.wd + k) / R.wd = i := by rw [Nat.mul_comm, Nat.mul_add_div h0, Nat.div_eq_of_lt hk, Nat.add_zero]
  have em : (i * R.wd + k) % R.wd = k := by rw [Nat.mul_comm, Nat.mul_add_mod, Nat.mod_eq_of_lt hk]
  rw [ed, em] at hG
  have e : l.toArray[i]! = l[i] := by rw [bangA _ _ (by simpa using hi)]; simp
  rw [e] at hG
  have hlt2 : k < (rowVal R l[i]).length := by rw [rowVal_length]; exact hk
  have e2 := rowVal_get R l[i] hk
  rw [List.getElem?_eq_getElem hlt2] at e2
  injection e2 with e2
  rw [bangL _ _ hlt2, e2] at hG
  refine ⟨_, by rw [Array.getElem?_toList, Array.getElem?_eq_getElem hF, hG], ?_⟩
  simp only [Get.cell, encF_at (List.getElem?_eq_getElem hi)]
  exact vr_scalD (fullCK_sc hf hk _).1

theorem holds_flat {w : World} {b : Nat} {cur : Array Value} {e : TypeId} {F : Array Value} (hb : w.heap[b]? = some (.cells cur e (0, 0))) (ht : cur.toList.take F.size = F.toList) : Holds id w b 0 F := by
  intro j hj
  refine ⟨?_, by simp [World.frozen?, hb]⟩
  have h1 : (cur.toList.take F.size)[j]? = F.toList[j]? := by rw [ht]
  rw [List.getElem?_take_of_lt hj] at h1
  simp only [World.cell?, hb, Nat.zero_add]
  simp only [Option.isSome_none, Bool.false_eq_true, if_false]
  rw [← Array.getElem?_toList, h1, Array.getElem?_toList, bangA _ _ hj, Array.getElem?_eq_getElem hj]; rfl

theorem heap_flat {w : World} {b n : Nat} {os : Array Obj} {cur : Array Value} {e : TypeId} {fr : Nat × Nat} (F : Array Value) (hb : w.heap[b]? = some (.cells cur e fr)) :
    (grow (putRow id (Sort.ahead w n) b 0 F) os).heap[b]? = some (.cells (putCells id 0 F cur) e fr) := by
  have hg : b < w.heap.size := (Array.getElem?_eq_some_iff.1 hb).1
  rw [heap_grow_old _ _ (by simpa using hg)]
  simp [putRow, mapBlock, Sort.ahead, Array.getElem?_modify, hb, onCells]

theorem grownBy_flat {w : World} {b n : Nat} {os : Array Obj} (F : Array Value) : w.grownBy (grow (putRow id (Sort.ahead w n) b 0 F) os) (some b) := by
  refine ⟨rfl, rfl, rfl, by simp, fun k hk hne => ?_⟩
  rw [heap_grow_old _ _ (by simpa using hk)]
  have : b ≠ k := fun e => hne (by rw [e])
  simp [putRow, mapBlock, Sort.ahead, Array.getElem?_modify, this]

theorem take_putFlat (cur F : Array Value) (h : F.size ≤ cur.size) : (putCells id 0 F cur).toList.take F.size = F.toList := by
  apply List.ext_getElem?
  intro j
  by_cases hj : j < F.size
  · rw [List.getElem?_take_of_lt hj, Array.getElem?_toList]
    simp [putCells, hj, show j < cur.size by omega]
  · rw [List.getElem?_take_eq_none (by omega), List.getElem?_eq_none (by simp; omega)]

/-- slices.SortFunc at rows that are structs or arrays. -/
theorem mc_sortF [Inhabited τ] {ρ : Ren} (L : SlLaysF0.n6 P ρ) (hf : fullCK R.tags R.wd = true) (h0 : 0 < R.wd) (aE : ∀ w, (isAgg (ρ.t 24)).run P w = .ok true w) (zE : ∀ w, (Go.sizeOf (ρ.t 24)).run P w = .ok R.wd w) {g : FuncId} {cf : τ → τ → Int} (hO : SWO (ltOf cf))
    (eg : ∀ args w, (callFunc g args).run P w = .ok (.enter g args) w) (hc : ∀ x y, PC P g [.agg (rowV R x), .agg (rowV R y)] (.int .i64 (cf x y))) {n : Nat} {G : Get AV} (ht : G.tag = R.tags) (hn : n < 4611686018427387904) :
    MC P (ρ.f 6) R.wd n G ⟨R.tags, encF R (sortF cf (decF R n G.f))⟩ [.fn (.func g) [] []] := by
  intro ro m A w t e c rows us hA hob hz hnc hwd hown hrows hus
  obtain ⟨hsz, hval⟩ := hus
  have hfn : us = #[.func (.func g) #[] #[]] := by
    have h1 : us.size = 1 := hsz.symm
    obtain ⟨u, hu⟩ : ∃ u, us = #[u] := Array.size_eq_one_iff.1 h1
    subst hu
    have := hval 0 _ u rfl rfl
    cases this with
    | fn hx hy h3 h4 =>
      rename_i us0 vs0
      have e1 : us0 = #[] := Array.eq_empty_of_size_eq_zero (by simpa using hx.symm)
      have e2 : vs0 = #[] := Array.eq_empty_of_size_eq_zero (by simpa using hy.symm)
      subst e1; subst e2; rfl
  subst hfn
  apply callsIn_round
  have hdl : (decF R n G.f).length = n := decF_length ..
  have hsl := sortF_length hO (decF R n G.f)
  cases e with
  | zero =>
    obtain ⟨rfl, rfl⟩ := hz rfl
    refine (callsIn_wide.2 (AnyF.slices_SortFunc_none L none 0 _ w)).mono ?_
    rintro en w' ⟨rfl, rfl⟩
    exact ⟨rfl, rows, ⟨⟨rfl, rfl, rfl, Nat.le_refl _, fun _ _ _ => rfl⟩, Nat.le_refl _⟩, hown, fun i k hi => absurd hi (Nat.not_lt_zero _)⟩
  | succ b =>
    have hr := rows_flat hf h0 ht hown.1 hrows
    obtain ⟨hl, hown⟩ := hown
    rcases hown with ⟨hv, _⟩ | ⟨g0, cap, cur, hv, hbase, hheap, hle, hmax, hsz, htake⟩
    · cases hv
    · cases hv
      generalize hd : decF R n G.f = d at *
      have hFs : (Go.Sort.flatK (rowVal R) R.wd d.toArray).size = n * R.wd := by rw [Go.Sort.size_flatK]; simp [hdl]
      have hH : HoldsK (rowVal R) R.wd w b 0 d.toArray := holds_flat hheap (by rw [hFs, ← hr, htake])
      have hlt : b < w.heap.size := (Array.getElem?_eq_some_iff.1 hheap).1
      have hcon := AnyQ.slices_SortFunc_eq L R.wd aE zE (rowVal R) (rowVal_length R) (rowVal_one hf) cf hO g #[] b 0 c d.toArray w eg (cmp_lays hf hc b 0 d.toArray.size w) hH hlt (by simpa [hdl] using hn)
      have es : d.toArray.size = n := by simpa using hdl
      rw [es] at hcon
      refine (callsIn_wide.2 hcon).mono ?_
      rintro en w' ⟨rfl, n', os, rfl⟩
      have hsd : (pdq (ltOf cf) d.toArray 0 n (Lib.bitLen n) true true).toList = sortF cf d := by unfold sortF; rw [hdl]
      generalize hp : pdq (ltOf cf) d.toArray 0 n (Lib.bitLen n) true true = q at *
      have hq : q = (sortF cf d).toArray := by rw [← hsd]
      subst hq
      have hqs : (Go.Sort.flatK (rowVal R) R.wd (sortF cf d).toArray).size = n * R.wd := by rw [Go.Sort.size_flatK]; simp [hsl, hdl]
      have hle2 : n * R.wd ≤ cur.size := by rw [hsz]; exact Nat.mul_le_mul_right _ hle
      refine ⟨rfl, (Go.Sort.flatK (rowVal R) R.wd (sortF cf d).toArray).toList, ⟨grownBy_flat _, Nat.le_add_right _ _⟩, ⟨by simpa using hqs, .inr ⟨b, c, _, rfl, hbase, heap_flat _ hheap, hle, hmax, by simp [putCells, hsz], ?_⟩⟩, ?_⟩
      · rw [← hqs]; exact take_putFlat _ _ (by rw [hqs]; exact hle2)
      · have := rowsR_flat (R := R) hf h0 (w := grow (putRow id (Sort.ahead w n') b 0 (Go.Sort.flatK (rowVal R) R.wd (sortF cf d).toArray)) os) (A := A) (sortF cf d)
        rw [hsl, hdl] at this
        exact this

/-- What the sort of a list of rows comes to. -/
def sortFE (R : RowD τ) (g : FuncId) (srt : List τ → List τ) : List AV → Option (T AV)
  | .osl _ _ _ :: .xsl wd n G _ _ _ :: .fn (.func f) [] [] :: [] => match Nat.beq f g && (Nat.beq wd R.wd && ckLEq G.tag R.tags) with
    | true => some (.chk (decide (n < 4611686018427387904)) (.ret (.xsl wd n ⟨R.tags, encF R (srt (decF R n G.f))⟩ 0 n none)))
    | false => none
  | _ => none

theorem sortFE_cc {f g : FuncId} {srt : List τ → List τ} (h : ∀ n (G : Get AV), G.tag = R.tags → n < 4611686018427387904 → MC P f R.wd n G ⟨R.tags, encF R (srt (decF R n G.f))⟩ [.fn (.func g) [] []]) (args : List AV) (t : T AV) (v : AV) (ht : sortFE R g srt args = some t) (hr : t.run = some v) : CC P f args v := by
  unfold sortFE at ht
  split at ht
  · rename_i j0 v0 n0 wd n G a b c f
    split at ht
    · rename_i hc
      simp only [Bool.and_eq_true] at hc
      have e1 := Nat.eq_of_beq_eq_true hc.1; have e2 := Nat.eq_of_beq_eq_true hc.2.1; have e3 := ckLEq_eq hc.2.2; subst e1; subst e2
      injection ht with ht; subst ht
      simp only [T.run] at hr
      split at hr
      · rename_i g1
        injection hr with hr; subst hr
        exact h n G e3 (of_decide_eq_true g1)
      · cases hr
    · cases ht
  · cases ht
end
end Go.Proofs.YtjbhooodjmjdkaaGreat.Ev
/-! KBl5 -/
namespace Go.Proofs.YtjbhooodjmjdkaaGreat
open Ev K
set_option maxRecDepth 100000
def V_co := DecL.skips 2 (.unit (dLp 0 0 0 0) (.unit (dLp 1 0 0 0) (.skips 3 (.unit (dLp 2 0 0 0) (.skip (.unit (dLp 3 0 0 0) (.skips 17 (.last R_gl 46))))))))
def S_ci := DecS.rnd (.skips 2 (.unit (dLp 0 0 0 0) (.unit (dLp 1 0 0 0) (.skips 3 (.unit (dLp 2 0 0 0) (.skip (.unit (dLp 3 0 0 0) (.unit (dLp 5 0 0 0) (.skips 16 (.cons R_gl (.skips 16 (.last R_gl 29)))))))))))) (.flat 31 lBulbs (.flat 3 (.last (dI .i64) 0) (.flat 127 lHydro (.flat 69 (.last (dO 4) 0) (.rows 75 rPair (.flat 134 lTold .nil)))))) V_co
noncomputable def K.st_ci := rangeT1 P BKBl42 30 27 105 [44, 9, 10, 2, 3, 7, 27] S_ci DecX.no eTold
theorem rg_ci : ∀ s x, (K.st_ci) s x = T.run (
  .br (decide (Glass.id (GlassE.g (Prod.fst (Prod.snd (Prod.snd (Prod.snd (Prod.snd (Prod.snd (Prod.fst (Prod.snd s))))))))) < Glass.id (GlassE.g x))) (
    .br (void (meet (GlassE.errors (Prod.fst (Prod.snd (Prod.snd (Prod.snd (Prod.snd (Prod.snd (Prod.fst (Prod.snd s))))))))) (GlassE.errors x))) (
      .chk (decide ((List.length (Prod.fst (Prod.snd (Prod.snd (Prod.snd (Prod.snd (Prod.fst (Prod.snd s))))))) + (1 : Nat)) * (16 : Nat) ≤ (140737488355328 : Nat) ∧ List.length (Prod.fst (Prod.snd (Prod.snd (Prod.snd (Prod.snd (Prod.fst (Prod.snd s))))))) + (1 : Nat) ≤ nat_lit 9223372036854775807)) <|
      .ret (Sum.inl (Prod.fst s, (Prod.fst (Prod.fst (Prod.snd s)), Prod.fst (Prod.snd (Prod.fst (Prod.snd s))), Prod.fst (Prod.snd (Prod.snd (Prod.fst (Prod.snd s)))), List.length (Prod.fst (Prod.snd (Prod.snd (Prod.snd (Prod.snd (Prod.fst (Prod.snd s))))))) + (1 : Nat), decF rPair (List.length (Prod.fst (Prod.snd (Prod.snd (Prod.snd (Prod.snd (Prod.fst (Prod.snd s))))))) + (1 : Nat)) (appG (List.length (Prod.fst (Prod.snd (Prod.snd (Prod.snd (Prod.snd (Prod.fst (Prod.snd s)))))))) (encF rPair (Prod.fst (Prod.snd (Prod.snd (Prod.snd (Prod.snd (Prod.fst (Prod.snd s)))))))) fun i k => Option.getD [AV.int IntKind.i64 (Glass.id (GlassE.g (Prod.fst (Prod.snd (Prod.snd (Prod.snd (Prod.snd (Prod.snd (Prod.fst (Prod.snd s)))))))))), AV.int IntKind.i64 (Glass.id (GlassE.g x))][((0 : Nat) + i) * (2 : Nat) + k]? AV.top), Prod.fst (Prod.snd (Prod.snd (Prod.snd (Prod.snd (Prod.snd (Prod.fst (Prod.snd s))))))), PUnit.unit), Prod.snd (Prod.snd s)))) (
      .ret (Sum.inl (Prod.fst s, (Prod.fst (Prod.fst (Prod.snd s)), Prod.fst (Prod.snd (Prod.fst (Prod.snd s))), Prod.fst (Prod.snd (Prod.snd (Prod.fst (Prod.snd s)))), Prod.fst (Prod.snd (Prod.snd (Prod.snd (Prod.fst (Prod.snd s))))), decF rPair (List.length (Prod.fst (Prod.snd (Prod.snd (Prod.snd (Prod.snd (Prod.fst (Prod.snd s)))))))) (encF rPair (Prod.fst (Prod.snd (Prod.snd (Prod.snd (Prod.snd (Prod.fst (Prod.snd s)))))))), Prod.fst (Prod.snd (Prod.snd (Prod.snd (Prod.snd (Prod.snd (Prod.fst (Prod.snd s))))))), PUnit.unit), Prod.snd (Prod.snd s))))) (
    .ret (Sum.inl (Prod.fst s, (Prod.fst (Prod.fst (Prod.snd s)), Prod.fst (Prod.snd (Prod.fst (Prod.snd s))), Prod.fst (Prod.snd (Prod.snd (Prod.fst (Prod.snd s)))), Prod.fst (Prod.snd (Prod.snd (Prod.snd (Prod.fst (Prod.snd s))))), decF rPair (List.length (Prod.fst (Prod.snd (Prod.snd (Prod.snd (Prod.snd (Prod.fst (Prod.snd s)))))))) (encF rPair (Prod.fst (Prod.snd (Prod.snd (Prod.snd (Prod.snd (Prod.fst (Prod.snd s)))))))), Prod.fst (Prod.snd (Prod.snd (Prod.snd (Prod.snd (Prod.snd (Prod.fst (Prod.snd s))))))), PUnit.unit), Prod.snd (Prod.snd s))))) := fun s x => by kernel_rfl
/-- A glass that contradicts another one. -/
def K.ciP (g x : GlassE) : Bool := decide (g.g.id < x.g.id) && void (meet g.errors x.errors)
def K.ci1 (g x : GlassE) : List (Int × Int) := if ciP g x = true then [(g.g.id, x.g.id)] else []
namespace K
theorem ci1_le (g x : GlassE) : (ci1 g x).length ≤ 1 := by unfold ci1; split <;> simp
theorem st_ci_eq (z a z' : Bulbs × Int) (b : Bulbs) (n : Int) (h : Hydro) (L : List (Int × Int)) (g x : GlassE) (hl : L.length ≤ 1000000) : st_ci ((z, a), (b, n, h, L.length, L, g, ()), z') x = some (.inl ((z, a), (b, n, h, (L ++ ci1 g x).length, L ++ ci1 g x, g, ()), z')) := by
  rw [rg_ci]; unfold ci1 ciP
  simp only [T.run_br]
  by_cases h1 : g.g.id < x.g.id
  · rw [decide_eq_true h1, if_pos rfl, Bool.true_and]
    by_cases h2 : void (meet g.errors x.errors) = true
    · rw [if_pos h2, if_pos h2]
      refine chk_step (decide_eq_true (by omega)) ?_
      rw [T.run_ret, decF_push]
      simp only [List.length_append]; rfl
    · rw [if_neg h2, if_neg h2, T.run_ret, decF_encF, List.append_nil]
  · rw [decide_eq_false h1, if_neg (by decide), Bool.false_and, if_neg (by decide), T.run_ret, decF_encF, List.append_nil]
theorem fold_ci (z a z' : Bulbs × Int) (b : Bulbs) (n : Int) (h : Hydro) (g : GlassE) : ∀ (xs : List GlassE) (L : List (Int × Int)), L.length + xs.length ≤ 1000000 → foldS st_ci xs ((z, a), (b, n, h, L.length, L, g, ()), z') = some (.inl ((z, a), (b, n, h, (L ++ xs.flatMap (ci1 g)).length, L ++ xs.flatMap (ci1 g), g, ()), z'))
  | [], L, _ => by simp [foldS]
  | x :: xs, L, hl => by
    have h1 := ci1_le g x
    simp only [List.length_cons] at hl
    rw [foldS, st_ci_eq z a z' b n h L g x (by omega)]
    simp only
    rw [fold_ci z a z' b n h g xs (L ++ ci1 g x) (by rw [List.length_append]; omega), List.flatMap_cons, List.append_assoc]
/-- What one glass contradicts, behind what was there. -/
def ciApp (L : List (Int × Int)) (a : Bulbs × Int) (g : GlassE) : List (Int × Int) := L ++ (glassesL a.1 a.2).flatMap (ci1 g)
def ciOk (n : Nat) (L : List (Int × Int)) (a : Bulbs × Int) : Bool := decide (n = L.length ∧ L.length + (glassesL a.1 a.2).length ≤ 1000000)
end K
noncomputable def BKBl51 : Tab := BKBl42.addNode 27 105 (rangeE [44, 9, 10, 2, 3, 7, 27] S_ci DecX.no (fun s => .chk (K.ciOk s.2.1.2.2.2.1 s.2.1.2.2.2.2.1 s.1.2) (.ret (.inl (s.1, (s.2.1.1, s.2.1.2.1, s.2.1.2.2.1, (K.ciApp s.2.1.2.2.2.2.1 s.1.2 s.2.1.2.2.2.2.2.1).length, K.ciApp s.2.1.2.2.2.2.1 s.1.2 s.2.1.2.2.2.2.2.1, s.2.1.2.2.2.2.2.1, ()), s.2.2)))))
theorem tKBl51 : TabOk P BKBl51 := TabOk.addRange (d := 30) (enc := eTold) (L := (fun s => glassesL s.1.2.1 s.1.2.2)) okP tKBl42 (by kernel_rfl) (by kernel_rfl) (fun s r h => ⟨_, _, _, (by kernel_rfl : _ = some (134, [], V_gls.enc s.1.2)), icl_gls s.1.2.2 s.1.2.1⟩) (fun s r h => by obtain ⟨gg, e⟩ := chk_ret h; subst e; obtain ⟨⟨z, a⟩, ⟨b, n, hh, c, L, g, _⟩, z'⟩ := s; obtain ⟨e1, e2⟩ := of_decide_eq_true gg; simp only at e1 e2; subst e1; exact K.fold_ci z a z' b n hh g _ L e2)
def S_co := DecS.ghostC 9 75 2 [.int .i64, .int .i64] (DecS.mk0 V_co (.flat 31 lBulbs (.flat 3 (.last (dI .i64) 0) (.flat 127 lHydro (.flat 69 (.last (dO 4) 0) (.rows 75 rPair .nil))))))
noncomputable def K.st_co := rangeT1 P BKBl51 30 27 73 [27, 9, 3, 2, 7] S_co DecX.no eTold
theorem rg_co : ∀ s x, (K.st_co) s x = T.run (
  .br (void (meet (GlassE.errors x) (Hydro.off (Prod.fst (Prod.snd (Prod.snd (Prod.snd s))))))) (
    .chk (decide ((List.length (Prod.fst (Prod.snd (Prod.snd (Prod.snd (Prod.snd (Prod.snd s)))))) + (1 : Nat)) * (16 : Nat) ≤ (140737488355328 : Nat) ∧ List.length (Prod.fst (Prod.snd (Prod.snd (Prod.snd (Prod.snd (Prod.snd s)))))) + (1 : Nat) ≤ nat_lit 9223372036854775807)) <|
    .chk (ciOk (List.length (Prod.fst (Prod.snd (Prod.snd (Prod.snd (Prod.snd (Prod.snd s)))))) + (1 : Nat)) (decF rPair (List.length (Prod.fst (Prod.snd (Prod.snd (Prod.snd (Prod.snd (Prod.snd s)))))) + (1 : Nat)) (appG (List.length (Prod.fst (Prod.snd (Prod.snd (Prod.snd (Prod.snd (Prod.snd s))))))) (encF rPair (Prod.fst (Prod.snd (Prod.snd (Prod.snd (Prod.snd (Prod.snd s))))))) fun i k => Option.getD [AV.int IntKind.i64 (0 : Int), AV.int IntKind.i64 (Glass.id (GlassE.g x))][((0 : Nat) + i) * (2 : Nat) + k]? AV.top)) (Prod.fst (Prod.snd s), Prod.fst (Prod.snd (Prod.snd s)))) <|
    .ret (Sum.inl (Prod.fst s, Prod.fst (Prod.snd s), Prod.fst (Prod.snd (Prod.snd s)), Prod.fst (Prod.snd (Prod.snd (Prod.snd s))), List.length (ciApp (decF rPair (List.length (Prod.fst (Prod.snd (Prod.snd (Prod.snd (Prod.snd (Prod.snd s)))))) + (1 : Nat)) (appG (List.length (Prod.fst (Prod.snd (Prod.snd (Prod.snd (Prod.snd (Prod.snd s))))))) (encF rPair (Prod.fst (Prod.snd (Prod.snd (Prod.snd (Prod.snd (Prod.snd s))))))) fun i k => Option.getD [AV.int IntKind.i64 (0 : Int), AV.int IntKind.i64 (Glass.id (GlassE.g x))][((0 : Nat) + i) * (2 : Nat) + k]? AV.top)) (Prod.fst (Prod.snd s), Prod.fst (Prod.snd (Prod.snd s))) x), decF rPair (List.length (ciApp (decF rPair (List.length (Prod.fst (Prod.snd (Prod.snd (Prod.snd (Prod.snd (Prod.snd s)))))) + (1 : Nat)) (appG (List.length (Prod.fst (Prod.snd (Prod.snd (Prod.snd (Prod.snd (Prod.snd s))))))) (encF rPair (Prod.fst (Prod.snd (Prod.snd (Prod.snd (Prod.snd (Prod.snd s))))))) fun i k => Option.getD [AV.int IntKind.i64 (0 : Int), AV.int IntKind.i64 (Glass.id (GlassE.g x))][((0 : Nat) + i) * (2 : Nat) + k]? AV.top)) (Prod.fst (Prod.snd s), Prod.fst (Prod.snd (Prod.snd s))) x)) (encF rPair (ciApp (decF rPair (List.length (Prod.fst (Prod.snd (Prod.snd (Prod.snd (Prod.snd (Prod.snd s)))))) + (1 : Nat)) (appG (List.length (Prod.fst (Prod.snd (Prod.snd (Prod.snd (Prod.snd (Prod.snd s))))))) (encF rPair (Prod.fst (Prod.snd (Prod.snd (Prod.snd (Prod.snd (Prod.snd s))))))) fun i k => Option.getD [AV.int IntKind.i64 (0 : Int), AV.int IntKind.i64 (Glass.id (GlassE.g x))][((0 : Nat) + i) * (2 : Nat) + k]? AV.top)) (Prod.fst (Prod.snd s), Prod.fst (Prod.snd (Prod.snd s))) x)), PUnit.unit))) (
    .chk (ciOk (Prod.fst (Prod.snd (Prod.snd (Prod.snd (Prod.snd s))))) (decF rPair (List.length (Prod.fst (Prod.snd (Prod.snd (Prod.snd (Prod.snd (Prod.snd s))))))) (encF rPair (Prod.fst (Prod.snd (Prod.snd (Prod.snd (Prod.snd (Prod.snd s)))))))) (Prod.fst (Prod.snd s), Prod.fst (Prod.snd (Prod.snd s)))) <|
    .ret (Sum.inl (Prod.fst s, Prod.fst (Prod.snd s), Prod.fst (Prod.snd (Prod.snd s)), Prod.fst (Prod.snd (Prod.snd (Prod.snd s))), List.length (ciApp (decF rPair (List.length (Prod.fst (Prod.snd (Prod.snd (Prod.snd (Prod.snd (Prod.snd s))))))) (encF rPair (Prod.fst (Prod.snd (Prod.snd (Prod.snd (Prod.snd (Prod.snd s)))))))) (Prod.fst (Prod.snd s), Prod.fst (Prod.snd (Prod.snd s))) x), decF rPair (List.length (ciApp (decF rPair (List.length (Prod.fst (Prod.snd (Prod.snd (Prod.snd (Prod.snd (Prod.snd s))))))) (encF rPair (Prod.fst (Prod.snd (Prod.snd (Prod.snd (Prod.snd (Prod.snd s)))))))) (Prod.fst (Prod.snd s), Prod.fst (Prod.snd (Prod.snd s))) x)) (encF rPair (ciApp (decF rPair (List.length (Prod.fst (Prod.snd (Prod.snd (Prod.snd (Prod.snd (Prod.snd s))))))) (encF rPair (Prod.fst (Prod.snd (Prod.snd (Prod.snd (Prod.snd (Prod.snd s)))))))) (Prod.fst (Prod.snd s), Prod.fst (Prod.snd (Prod.snd s))) x)), PUnit.unit)))) := fun s x => by kernel_rfl
namespace K
def co1 (b : Bulbs) (n : Int) (h : Hydro) (g : GlassE) : List (Int × Int) := (if void (meet g.errors h.off) = true then [(0, g.g.id)] else []) ++ (glassesL b n).flatMap (ci1 g)
theorem ciFlat_le (g : GlassE) (l : List GlassE) : (l.flatMap (ci1 g)).length ≤ l.length := flatMap_le (fun x => ci1_le g x) l
theorem co1_le (b : Bulbs) (n : Int) (h : Hydro) (g : GlassE) : (co1 b n h g).length ≤ 1 + (glassesL b n).length := by
  have := ciFlat_le g (glassesL b n)
  unfold co1
  rw [List.length_append]
  generalize (List.flatMap (ci1 g) (glassesL b n)).length = z at *
  split <;> simp only [List.length_cons, List.length_nil] <;> omega
theorem st_co_eq (a : Bulbs × Int) (b : Bulbs) (n : Int) (h : Hydro) (L : List (Int × Int)) (x : GlassE) (hl : L.length + 1 + (glassesL b n).length ≤ 1000000) : st_co (a, b, n, h, L.length, L, ()) x = some (.inl (a, b, n, h, (L ++ co1 b n h x).length, L ++ co1 b n h x, ())) := by
  rw [rg_co]; unfold co1
  simp only [T.run_br]
  by_cases h1 : void (meet x.errors h.off) = true
  · rw [if_pos h1, if_pos h1]
    have e : ∀ g : Nat → Nat → AV, rPair.rd (g 0) = (0, x.g.id) → decF rPair (L.length + 1) (appG L.length (encF rPair L) g) = L ++ [(0, x.g.id)] := fun g hg => by rw [decF_push, hg]
    refine chk_step (decide_eq_true (by omega)) (chk_step ?_ ?_)
    · unfold ciOk
      rw [e _ rfl]
      exact decide_eq_true ⟨by simp, by simp; omega⟩
    · rw [T.run_ret]
      rw [e _ rfl, decF_encF]
      unfold ciApp
      rw [List.append_assoc]
  · rw [if_neg h1, if_neg h1]
    refine chk_step ?_ ?_
    · unfold ciOk
      rw [decF_encF]
      exact decide_eq_true ⟨rfl, by simp; omega⟩
    · rw [T.run_ret, decF_encF, decF_encF]
      unfold ciApp
      rw [List.nil_append]
theorem fold_co (a : Bulbs × Int) (b : Bulbs) (n : Int) (h : Hydro) : ∀ (xs : List GlassE) (L : List (Int × Int)), L.length + xs.length * (1 + (glassesL b n).length) ≤ 1000000 → foldS st_co xs (a, b, n, h, L.length, L, ()) = some (.inl (a, b, n, h, (L ++ xs.flatMap (co1 b n h)).length, L ++ xs.flatMap (co1 b n h), ()))
  | [], L, _ => by simp [foldS]
  | x :: xs, L, hl => by
    have h1 := co1_le b n h x
    rw [List.length_cons, Nat.add_mul, Nat.one_mul] at hl
    rw [foldS, st_co_eq a b n h L x (by omega)]
    simp only
    rw [fold_co a b n h xs (L ++ co1 b n h x) (by rw [List.length_append]; omega), List.flatMap_cons, List.append_assoc]
/-- All that contradicts, behind what was there. -/
def coApp (L : List (Int × Int)) (a : Bulbs × Int) (b : Bulbs) (n : Int) (h : Hydro) : List (Int × Int) := L ++ (glassesL a.1 a.2).flatMap (co1 b n h)
def coOk (k : Nat) (L : List (Int × Int)) (a : Bulbs × Int) (b : Bulbs) (n : Int) : Bool := decide (k = L.length ∧ L.length + (glassesL a.1 a.2).length * (1 + (glassesL b n).length) ≤ 1000000)
end K
noncomputable def BKBl52 : Tab := BKBl51.addNode 27 73 (rangeE [27, 9, 3, 2, 7] S_co DecX.no (fun s => .chk (K.coOk s.2.2.2.2.1 s.2.2.2.2.2.1 s.1 s.2.1 s.2.2.1) (.ret (.inl (s.1, s.2.1, s.2.2.1, s.2.2.2.1, (K.coApp s.2.2.2.2.2.1 s.1 s.2.1 s.2.2.1 s.2.2.2.1).length, K.coApp s.2.2.2.2.2.1 s.1 s.2.1 s.2.2.1 s.2.2.2.1, ())))))
theorem tKBl52 : TabOk P BKBl52 := TabOk.addRange (d := 30) (enc := eTold) (L := (fun s => glassesL s.1.1 s.1.2)) okP tKBl51 (by kernel_rfl) (by kernel_rfl) (fun s r h => ⟨_, _, _, (by kernel_rfl : _ = some (134, [], V_gls.enc s.1)), icl_gls s.1.2 s.1.1⟩) (fun s r h => by obtain ⟨gg, e⟩ := chk_ret h; subst e; obtain ⟨a, b, n, hh, c, L, _⟩ := s; obtain ⟨e1, e2⟩ := of_decide_eq_true gg; simp only at e1 e2; subst e1; exact K.fold_co a b n hh _ L e2)
def D_cmpP := DecL.cons (dAgg (.cons (dI .i64) (.last (dI .i64) 0))) (.last (dAgg (.cons (dI .i64) (.last (dI .i64) 0))) 0)
def K.cmpP (x y : Int × Int) : Int := if x.1 < y.1 then -1 else if x.1 > y.1 then 1 else if x.2 < y.2 then -1 else if x.2 > y.2 then 1 else 0
theorem fn_cmpP : ∀ a, (callT1 P BKBl52 30 76 D_cmpP (dI .i64)) a = T.run (
  .br (Prod.fst (Prod.fst a) != Prod.fst (Prod.fst a)) (
    .br (Prod.fst (Prod.snd a) != Prod.fst (Prod.snd a)) (
      .br (Prod.snd (Prod.fst a) != Prod.snd (Prod.fst a)) (
        .br (Prod.snd (Prod.snd a) != Prod.snd (Prod.snd a)) (
          .ret ((0 : Int))) (
          .ret ((-1 : Int)))) (
        .br (Prod.snd (Prod.snd a) != Prod.snd (Prod.snd a)) (
          .ret ((1 : Int))) (
          .br (decide (Prod.snd (Prod.fst a) < Prod.snd (Prod.snd a))) (
            .ret ((-1 : Int))) (
            .br (decide (Prod.snd (Prod.fst a) > Prod.snd (Prod.snd a))) (
              .ret ((1 : Int))) (
              .ret ((0 : Int))))))) (
      .ret ((-1 : Int)))) (
    .br (Prod.fst (Prod.snd a) != Prod.fst (Prod.snd a)) (
      .ret ((1 : Int))) (
      .br (decide (Prod.fst (Prod.fst a) < Prod.fst (Prod.snd a))) (
        .ret ((-1 : Int))) (
        .br (decide (Prod.fst (Prod.fst a) > Prod.fst (Prod.snd a))) (
          .ret ((1 : Int))) (
          .br (Prod.snd (Prod.fst a) != Prod.snd (Prod.fst a)) (
            .br (Prod.snd (Prod.snd a) != Prod.snd (Prod.snd a)) (
              .ret ((0 : Int))) (
              .ret ((-1 : Int)))) (
            .br (Prod.snd (Prod.snd a) != Prod.snd (Prod.snd a)) (
              .ret ((1 : Int))) (
              .br (decide (Prod.snd (Prod.fst a) < Prod.snd (Prod.snd a))) (
                .ret ((-1 : Int))) (
                .br (decide (Prod.snd (Prod.fst a) > Prod.snd (Prod.snd a))) (
                  .ret ((1 : Int))) (
                  .ret ((0 : Int))))))))))) := fun a => by kernel_rfl
namespace K
theorem cmpP_eq (x y : Int × Int) : callT1 P BKBl52 30 76 D_cmpP (dI .i64) (x, y) = some (cmpP x y) := by
  have hn : ∀ n : Int, (n != n) = false := fun n => by simp
  rw [fn_cmpP]
  unfold cmpP
  simp only [T.run_br, T.run_ret, hn, Bool.false_eq_true, if_false, decide_eq_true_eq]
  split
  · rfl
  split
  · rfl
  split
  · rfl
  split <;> rfl
theorem cmpP_pc (x y : Int × Int) : PC P 76 [.agg (rowV rPair x), .agg (rowV rPair y)] (.int .i64 (cmpP x y)) := call_of okP tKBl52 (cmpP_eq x y)
theorem ltP (x y : Int × Int) : Go.Proofs.ltOf cmpP x y = decide (x.1 < y.1 ∨ x.1 = y.1 ∧ x.2 < y.2) := by
  unfold Go.Proofs.ltOf cmpP
  apply Bool.eq_iff_iff.2
  rw [decide_eq_true_eq, decide_eq_true_eq]
  split
  · omega
  split
  · omega
  split
  · omega
  split <;> omega
theorem swoP : Go.Sort.SWO (Go.Proofs.ltOf cmpP) where
  irrefl x := by rw [ltP]; simp
  trans x y z h1 h2 := by rw [ltP] at *; simp only [decide_eq_true_eq] at *; omega
  ntrans x y z h1 h2 := by rw [ltP] at *; simp only [decide_eq_false_iff_not] at *; omega
def sortP (l : List (Int × Int)) : List (Int × Int) := sortF cmpP l
theorem sortP_cc : ∀ (args : List AV) (t : T AV) (v : AV), sortFE rPair 76 sortP args = some t → t.run = some v → CC P 75 args v :=
  sortFE_cc fun n G h1 h2 => mc_sortF (R := rPair) Tryz.sortF75 (by kernel_rfl) (by decide) Tryz.isAgg75 Tryz.sizeOf75 swoP (enters_of Tryz.func76 (by kernel_rfl) rfl) cmpP_pc h1 h2
end K
noncomputable def BKBl5s : Tab := BKBl52.addTurn 75 (sortFE rPair 76 K.sortP)
theorem tKBl5s : TabOk P BKBl5s := TabOk.addTurn tKBl52 K.sortP_cc
def R_pairs := dTup (.cons (dRows rPair) (.last (dI .i64) 0))
theorem fn_cla : ∀ a, (callT1 P BKBl5s 30 27 D_off R_pairs) a = T.run (
  .br (CheckBulbs (Prod.fst a) != (0 : Int)) (
    .ret (([], CheckBulbs (Prod.fst a)))) (
    .br (!Prod.snd (hydro a)) (
      .ret (([], (5 : Int)))) (
      .chk (coOk (0 : Nat) (decF rPair (0 : Nat) fun x x_1 => AV.top) a (Prod.fst a) (Prod.snd a)) <|
      .chk (decide (List.length (coApp (decF rPair (0 : Nat) fun x x_1 => AV.top) a (Prod.fst a) (Prod.snd a) (Prod.fst (hydro a))) < (4611686018427387904 : Nat))) <|
      .ret ((decF rPair (List.length (coApp (decF rPair (0 : Nat) fun x x_1 => AV.top) a (Prod.fst a) (Prod.snd a) (Prod.fst (hydro a)))) fun i => encF rPair (sortP (decF rPair (List.length (coApp (decF rPair (0 : Nat) fun x x_1 => AV.top) a (Prod.fst a) (Prod.snd a) (Prod.fst (hydro a)))) (encF rPair (coApp (decF rPair (0 : Nat) fun x x_1 => AV.top) a (Prod.fst a) (Prod.snd a) (Prod.fst (hydro a)))))) ((0 : Nat) + i), (0 : Int)))))) := fun a => by kernel_rfl
end Go.Proofs.YtjbhooodjmjdkaaGreat
/-! KBl6 -/
namespace Go.Proofs.YtjbhooodjmjdkaaGreat
open Ev K
set_option maxRecDepth 100000
namespace K
noncomputable def claL (a : Bulbs × Int) : List (Int × Int) := (glassesL a.1 a.2).flatMap (co1 a.1 a.2 (hydro a).1)
noncomputable def cla (a : Bulbs × Int) : List (Int × Int) × Int := if (CheckBulbs a.1 != 0) = true then ([], CheckBulbs a.1) else if (!(hydro a).2) = true then ([], 5) else (sortP (claL a), 0)
theorem claL_le (a : Bulbs × Int) : ∀ (l : List GlassE), (l.flatMap (co1 a.1 a.2 (hydro a).1)).length ≤ l.length * (1 + (glassesL a.1 a.2).length)
  | [] => by simp
  | x :: l => by
    have := claL_le a l
    have h1 := co1_le a.1 a.2 (hydro a).1 x
    rw [List.flatMap_cons, List.length_append, List.length_cons, Nat.add_mul, Nat.one_mul]; omega
theorem cla_eq (a : Bulbs × Int) : callT1 P BKBl5s 30 27 D_off R_pairs a = some (cla a) := by
  rw [fn_cla]; unfold cla
  refine br_step (fun _ => rfl) (fun h => br_step (fun _ => rfl) (fun _ => ?_))
  have hf := (bulbs_few (b := a.1) (by simpa using h)).2
  have h1 := glassesL_length a.1 a.2
  have h2 : (claL a).length ≤ _ := claL_le a (glassesL a.1 a.2)
  have h3 : (glassesL a.1 a.2).length * (1 + (glassesL a.1 a.2).length) ≤ 40 * 41 := Nat.mul_le_mul (by omega) (by omega)
  have e0 : decF rPair 0 (fun _ _ => AV.top) = ([] : List (Int × Int)) := rfl
  have e : coApp (decF rPair 0 fun _ _ => AV.top) a a.1 a.2 (hydro a).1 = claL a := by rw [e0]; exact List.nil_append _
  rw [e]
  refine chk_step ?_ (chk_step (decide_eq_true (by omega)) ?_)
  · unfold coOk
    rw [e0]
    exact decide_eq_true ⟨rfl, by simp only [List.length_nil]; omega⟩
  · rw [T.run_ret, decF_encF]
    have := decF_enc0 rPair (sortP (claL a))
    rw [show (sortP (claL a)).length = (claL a).length from sortF_length swoP _] at this
    rw [this]
end K
noncomputable def BKBl61 : Tab := BKBl5s.addCall 27 (callE D_off R_pairs (fun a => .ret (K.cla a)))
theorem tKBl61 : TabOk P BKBl61 := TabOk.addPC tKBl5s (fun a r h => by rw [← ret_some h]; exact call_of okP tKBl5s (K.cla_eq a))
def S_cr1 := DecS.ghost 9 75 2 [.int .i64, .int .i64] (DecS.mk0 (.skips 2 (.unit (dLp 0 0 0 0) (.skips 4 (.cons (dI .i64) (.cons (dRows rInt) (.cons (dO 1) (.last (dI .i64) 99))))))) (.flat 31 lBulbs (.rows 75 rPair .nil)))
def X_cr1 := DecX.one (.exit 0) [2, 8, 9] (DecS.mk0 (.skips 2 (.unit (dLp 0 0 0 0) (.skips 5 (.cons (dRows rInt) (.last (dO 1) 100))))) (.flat 31 lBulbs (.rows 75 rPair .nil)))
noncomputable def K.st_cr1 := loopT1 P BKBl61 30 28 81 [10, 8, 9, 2, 7] S_cr1 X_cr1
theorem sl_cr1 : ∀ s, (K.st_cr1) s = T.run (
  .br (decide (Prod.snd (Prod.snd (Prod.snd (Prod.fst s))) < (↑(clampL (List.length (Prod.fst (Prod.snd (Prod.fst s))))) : Int))) (
    .chk (decide ((0 : Int) ≤ Prod.fst (Prod.fst s) ∧ Prod.fst (Prod.fst s) < (↑(XS.len (Bulbs.hydros (Prod.fst (Prod.snd s)))) : Int))) <|
    .chk (decide ((0 : Int) ≤ Prod.snd (Prod.snd (Prod.snd (Prod.fst s))) ∧ Prod.snd (Prod.snd (Prod.snd (Prod.fst s))) < (↑(List.length (Prod.fst (Prod.snd (Prod.fst s)))) : Int))) <|
    .chk (decide ((0 : Int) ≤ i_rglass (Prod.fst (Prod.snd s)) (numOf (encF rInt (Prod.fst (Prod.snd (Prod.fst s))) ((0 : Nat) + Int.toNat (Prod.snd (Prod.snd (Prod.snd (Prod.fst s))))) (0 : Nat))) ∧ i_rglass (Prod.fst (Prod.snd s)) (numOf (encF rInt (Prod.fst (Prod.snd (Prod.fst s))) ((0 : Nat) + Int.toNat (Prod.snd (Prod.snd (Prod.snd (Prod.fst s))))) (0 : Nat))) < (↑(XS.len (Bulbs.glasses (Prod.fst (Prod.snd s)))) : Int))) <|
    .br (r_none (r_both (Span.mk (XS.g (Bulbs.hydros (Prod.fst (Prod.snd s))) (Int.toNat (Prod.fst (Prod.fst s))) (1 : Nat)) (XS.g (Bulbs.hydros (Prod.fst (Prod.snd s))) (Int.toNat (Prod.fst (Prod.fst s))) (2 : Nat)), r_all (gls (Bulbs.glasses (Prod.fst (Prod.snd s))) (Int.toNat (i_rglass (Prod.fst (Prod.snd s)) (numOf (encF rInt (Prod.fst (Prod.snd (Prod.fst s))) ((0 : Nat) + Int.toNat (Prod.snd (Prod.snd (Prod.snd (Prod.fst s))))) (0 : Nat))))))))) (
      .chk (decide ((0 : Int) ≤ Prod.snd (Prod.snd (Prod.snd (Prod.fst s))) ∧ Prod.snd (Prod.snd (Prod.snd (Prod.fst s))) < (↑(List.length (Prod.fst (Prod.snd (Prod.fst s)))) : Int))) <|
      .chk (decide ((List.length (Prod.fst (Prod.snd (Prod.snd s))) + (1 : Nat)) * (16 : Nat) ≤ (140737488355328 : Nat) ∧ List.length (Prod.fst (Prod.snd (Prod.snd s))) + (1 : Nat) ≤ nat_lit 9223372036854775807)) <|
      .ret (Sum.inl ((Prod.fst (Prod.fst s), decF rInt (List.length (Prod.fst (Prod.snd (Prod.fst s)))) fun i => encF rInt (Prod.fst (Prod.snd (Prod.fst s))) ((0 : Nat) + i), List.length (Prod.fst (Prod.snd (Prod.snd s))) + (1 : Nat), IntKind.wrap IntKind.i64 (Prod.snd (Prod.snd (Prod.snd (Prod.fst s))) + (1 : Int))), Prod.fst (Prod.snd s), decF rPair (List.length (Prod.fst (Prod.snd (Prod.snd s))) + (1 : Nat)) (appG (List.length (Prod.fst (Prod.snd (Prod.snd s)))) (encF rPair (Prod.fst (Prod.snd (Prod.snd s)))) fun i k => Option.getD [AV.int IntKind.i64 (0 : Int), AV.int IntKind.i64 (numOf (encF rInt (Prod.fst (Prod.snd (Prod.fst s))) ((0 : Nat) + Int.toNat (Prod.snd (Prod.snd (Prod.snd (Prod.fst s))))) (0 : Nat)))][((0 : Nat) + i) * (2 : Nat) + k]? AV.top), PUnit.unit))) (
      .ret (Sum.inl ((Prod.fst (Prod.fst s), decF rInt (List.length (Prod.fst (Prod.snd (Prod.fst s)))) fun i => encF rInt (Prod.fst (Prod.snd (Prod.fst s))) ((0 : Nat) + i), Prod.fst (Prod.snd (Prod.snd (Prod.fst s))), IntKind.wrap IntKind.i64 (Prod.snd (Prod.snd (Prod.snd (Prod.fst s))) + (1 : Int))), Prod.fst (Prod.snd s), decF rPair (List.length (Prod.fst (Prod.snd (Prod.snd s)))) (encF rPair (Prod.fst (Prod.snd (Prod.snd s)))), PUnit.unit)))) (
    .ret (Sum.inr ((decF rInt (List.length (Prod.fst (Prod.snd (Prod.fst s)))) fun i => encF rInt (Prod.fst (Prod.snd (Prod.fst s))) ((0 : Nat) + i), Prod.fst (Prod.snd (Prod.snd (Prod.fst s)))), Prod.fst (Prod.snd s), decF rPair (List.length (Prod.fst (Prod.snd (Prod.snd s)))) (encF rPair (Prod.fst (Prod.snd (Prod.snd s)))), PUnit.unit)))) := fun s => by kernel_rfl
namespace K
/-- What a glass of the list allows. -/
noncomputable def al (b : Bulbs) (x : Int) : Span := r_all (gls b.glasses (i_rglass b x).toNat)
noncomputable def r1 (b : Bulbs) (h : Nat) (x : Int) : List (Int × Int) := if r_none (r_both ((hyd b.hydros h).off, al b x)) = true then [(0, x)] else []
noncomputable def r3 (b : Bulbs) (x y : Int) : List (Int × Int) := if r_none (r_both (al b x, al b y)) = true then [(x, y)] else []
/-- All numbers of a list name glasses. -/
def gOk (b : Bulbs) (l : List Int) : Prop := ∀ i, i < l.length → 0 ≤ i_rglass b (atI l i) ∧ i_rglass b (atI l i) < (b.glasses.len : Int)
theorem take_flat_succ {β : Type} {l : List Int} {f : Int → List β} {i : Nat} (h : i < l.length) : (l.take (i + 1)).flatMap f = (l.take i).flatMap f ++ f (atI l i) := by
  rw [List.take_add_one, List.getElem?_eq_getElem h, List.flatMap_append, atI_get h]
  simp
theorem r1_le (b : Bulbs) (h : Nat) (x : Int) : (r1 b h x).length ≤ 1 := by unfold r1; split <;> simp
theorem r3_le (b : Bulbs) (x y : Int) : (r3 b x y).length ≤ 1 := by unfold r3; split <;> simp
theorem pushP (L : List (Int × Int)) (x : Int × Int) (g : Nat → Nat → AV) (hg : rPair.rd (g 0) = x) : decF rPair (L.length + 1) (appG L.length (encF rPair L) g) = L ++ [x] := by rw [decF_push, hg]
theorem st_cr1_eq (b : Bulbs) (h : Nat) (l : List Int) (L : List (Int × Int)) (i : Nat) (hh : h < len b.hydros) (hi : i < l.length) (hl : l.length ≤ 1000000) (hL : L.length ≤ 2000000) (hg : gOk b l) :
    st_cr1 (((h : Int), l, L.length, (i : Int)), b, L, ()) = some (.inl (((h : Int), l, (L ++ r1 b h (atI l i)).length, ((i + 1 : Nat) : Int)), b, L ++ r1 b h (atI l i), ())) := by
  have hc : clampL l.length = l.length := clampL_eq (by unfold maxL; omega)
  have e1 := K.len_le b.hydros; have e2 := K.len_le' b.hydros
  obtain ⟨g1, g2⟩ := hg i hi
  rw [sl_cr1]
  have ha : numOf (encF rInt l i 0) = atI l i := rfl
  have e0 : (decF rInt l.length fun i => encF rInt l i) = l := decF_encF rInt l
  simp only [T.run_br, T.run_chk, T.run_ret, decide_eq_true_eq, Int.toNat_natCast, hc, Nat.zero_add, ha, e0]
  rw [if_pos (by omega), if_pos (by omega), if_pos (by omega), if_pos ⟨g1, g2⟩, w64_in (n := (i : Int) + 1) (by omega) (by omega)]
  have hq : r_none (r_both (⟨b.hydros.g h 1, b.hydros.g h 2⟩, r_all (gls b.glasses (i_rglass b (atI l i)).toNat))) = r_none (r_both ((hyd b.hydros h).off, al b (atI l i))) := rfl
  rw [hq]
  unfold r1
  by_cases hp : r_none (r_both ((hyd b.hydros h).off, al b (atI l i))) = true
  · rw [if_pos hp, if_pos hp, if_pos (by omega), if_pos (by omega), pushP L (0, atI l i) _ rfl]
    simp only [List.length_append]; rfl
  · rw [if_neg hp, if_neg hp, decF_encF, List.append_nil]; rfl
noncomputable def L_cr1 := lim st_cr1
theorem L_cr1_eq (b : Bulbs) (h : Nat) (l : List Int) (hh : h < len b.hydros) (hl : l.length ≤ 1000000) (hg : gOk b l) : L_cr1 (((h : Int), l, 0, 0), b, [], ()) = some ((l, (l.flatMap (r1 b h)).length), b, l.flatMap (r1 b h), ()) := by
  have hc : clampL l.length = l.length := clampL_eq (by unfold maxL; omega)
  have hle : ∀ i, ((l.take i).flatMap (r1 b h)).length ≤ i := fun i => Nat.le_trans (flatMap_le (r1_le b h) _) (by simp; omega)
  have := lim_all (step := st_cr1) (fun i => (((h : Int), l, ((l.take i).flatMap (r1 b h)).length, (i : Int)), b, (l.take i).flatMap (r1 b h), ())) l.length (r := ((l, (l.flatMap (r1 b h)).length), b, l.flatMap (r1 b h), ())) (fun i hi => ?_) ?_
  · unfold L_cr1; simpa using this
  · rw [st_cr1_eq b h l _ i hh hi hl (by have := hle i; omega) hg, take_flat_succ hi]
  · rw [sl_cr1]
    have e0 : (decF rInt l.length fun i => encF rInt l i) = l := decF_encF rInt l
    simp only [T.run_br, T.run_ret, decide_eq_true_eq, hc, Nat.zero_add, e0]
    rw [if_neg (by omega), decF_encF, List.take_of_length_le (Nat.le_refl _)]
end K
noncomputable def BKBl62 : Tab := BKBl61.addNode 28 81 (nodeE [10, 8, 9, 2, 7] S_cr1 X_cr1 (fun s => .obs (K.L_cr1 s) .ret))
theorem tKBl62 : TabOk P BKBl62 := TabOk.addLoop (d := 30) okP tKBl61 (by kernel_rfl) (by kernel_rfl) (fun s r h => obs_ret h)
def S_cr3 := DecS.mk0 (.skips 2 (.unit (dLp 0 0 0 0) (.skips 5 (.cons (dRows rInt) (.cons (dO 1) (.skip (.cons (dI .i64) (.last (dI .i64) 97)))))))) (.flat 31 lBulbs (.rows 75 rPair .nil))
def X_cr3 := DecX.one (.exit 4) [2, 8, 9, 11] (DecS.mk0 (.skips 2 (.unit (dLp 0 0 0 0) (.skips 5 (.cons (dRows rInt) (.cons (dO 1) (.skip (.last (dI .i64) 98))))))) (.flat 31 lBulbs (.rows 75 rPair .nil)))
noncomputable def K.st_cr3 := loopT1 P BKBl62 30 28 145 [12, 8, 11, 9, 2] S_cr3 X_cr3
theorem sl_cr3 : ∀ s, (K.st_cr3) s = T.run (
  .br (decide (Prod.snd (Prod.snd (Prod.snd (Prod.fst s))) < (↑(clampL (List.length (Prod.fst (Prod.fst s)))) : Int))) (
    .chk (decide ((0 : Int) ≤ Prod.fst (Prod.snd (Prod.snd (Prod.fst s))) ∧ Prod.fst (Prod.snd (Prod.snd (Prod.fst s))) < (↑(List.length (Prod.fst (Prod.fst s))) : Int))) <|
    .chk (decide ((0 : Int) ≤ i_rglass (Prod.fst (Prod.snd s)) (numOf (encF rInt (Prod.fst (Prod.fst s)) ((0 : Nat) + Int.toNat (Prod.fst (Prod.snd (Prod.snd (Prod.fst s))))) (0 : Nat))) ∧ i_rglass (Prod.fst (Prod.snd s)) (numOf (encF rInt (Prod.fst (Prod.fst s)) ((0 : Nat) + Int.toNat (Prod.fst (Prod.snd (Prod.snd (Prod.fst s))))) (0 : Nat))) < (↑(XS.len (Bulbs.glasses (Prod.fst (Prod.snd s)))) : Int))) <|
    .chk (decide ((0 : Int) ≤ Prod.snd (Prod.snd (Prod.snd (Prod.fst s))) ∧ Prod.snd (Prod.snd (Prod.snd (Prod.fst s))) < (↑(List.length (Prod.fst (Prod.fst s))) : Int))) <|
    .chk (decide ((0 : Int) ≤ i_rglass (Prod.fst (Prod.snd s)) (numOf (encF rInt (Prod.fst (Prod.fst s)) ((0 : Nat) + Int.toNat (Prod.snd (Prod.snd (Prod.snd (Prod.fst s))))) (0 : Nat))) ∧ i_rglass (Prod.fst (Prod.snd s)) (numOf (encF rInt (Prod.fst (Prod.fst s)) ((0 : Nat) + Int.toNat (Prod.snd (Prod.snd (Prod.snd (Prod.fst s))))) (0 : Nat))) < (↑(XS.len (Bulbs.glasses (Prod.fst (Prod.snd s)))) : Int))) <|
    .br (r_none (r_both (r_all (gls (Bulbs.glasses (Prod.fst (Prod.snd s))) (Int.toNat (i_rglass (Prod.fst (Prod.snd s)) (numOf (encF rInt (Prod.fst (Prod.fst s)) ((0 : Nat) + Int.toNat (Prod.fst (Prod.snd (Prod.snd (Prod.fst s))))) (0 : Nat)))))), r_all (gls (Bulbs.glasses (Prod.fst (Prod.snd s))) (Int.toNat (i_rglass (Prod.fst (Prod.snd s)) (numOf (encF rInt (Prod.fst (Prod.fst s)) ((0 : Nat) + Int.toNat (Prod.snd (Prod.snd (Prod.snd (Prod.fst s))))) (0 : Nat))))))))) (
      .chk (decide ((0 : Int) ≤ Prod.fst (Prod.snd (Prod.snd (Prod.fst s))) ∧ Prod.fst (Prod.snd (Prod.snd (Prod.fst s))) < (↑(List.length (Prod.fst (Prod.fst s))) : Int))) <|
      .chk (decide ((0 : Int) ≤ Prod.snd (Prod.snd (Prod.snd (Prod.fst s))) ∧ Prod.snd (Prod.snd (Prod.snd (Prod.fst s))) < (↑(List.length (Prod.fst (Prod.fst s))) : Int))) <|
      .chk (decide ((List.length (Prod.fst (Prod.snd (Prod.snd s))) + (1 : Nat)) * (16 : Nat) ≤ (140737488355328 : Nat) ∧ List.length (Prod.fst (Prod.snd (Prod.snd s))) + (1 : Nat) ≤ nat_lit 9223372036854775807)) <|
      .ret (Sum.inl ((decF rInt (List.length (Prod.fst (Prod.fst s))) fun i => encF rInt (Prod.fst (Prod.fst s)) ((0 : Nat) + i), List.length (Prod.fst (Prod.snd (Prod.snd s))) + (1 : Nat), Prod.fst (Prod.snd (Prod.snd (Prod.fst s))), IntKind.wrap IntKind.i64 (Prod.snd (Prod.snd (Prod.snd (Prod.fst s))) + (1 : Int))), Prod.fst (Prod.snd s), decF rPair (List.length (Prod.fst (Prod.snd (Prod.snd s))) + (1 : Nat)) (appG (List.length (Prod.fst (Prod.snd (Prod.snd s)))) (encF rPair (Prod.fst (Prod.snd (Prod.snd s)))) fun i k => Option.getD [AV.int IntKind.i64 (numOf (encF rInt (Prod.fst (Prod.fst s)) ((0 : Nat) + Int.toNat (Prod.fst (Prod.snd (Prod.snd (Prod.fst s))))) (0 : Nat))), AV.int IntKind.i64 (numOf (encF rInt (Prod.fst (Prod.fst s)) ((0 : Nat) + Int.toNat (Prod.snd (Prod.snd (Prod.snd (Prod.fst s))))) (0 : Nat)))][((0 : Nat) + i) * (2 : Nat) + k]? AV.top), PUnit.unit))) (
      .ret (Sum.inl ((decF rInt (List.length (Prod.fst (Prod.fst s))) fun i => encF rInt (Prod.fst (Prod.fst s)) ((0 : Nat) + i), Prod.fst (Prod.snd (Prod.fst s)), Prod.fst (Prod.snd (Prod.snd (Prod.fst s))), IntKind.wrap IntKind.i64 (Prod.snd (Prod.snd (Prod.snd (Prod.fst s))) + (1 : Int))), Prod.fst (Prod.snd s), decF rPair (List.length (Prod.fst (Prod.snd (Prod.snd s)))) (encF rPair (Prod.fst (Prod.snd (Prod.snd s)))), PUnit.unit)))) (
    .ret (Sum.inr ((decF rInt (List.length (Prod.fst (Prod.fst s))) fun i => encF rInt (Prod.fst (Prod.fst s)) ((0 : Nat) + i), Prod.fst (Prod.snd (Prod.fst s)), Prod.fst (Prod.snd (Prod.snd (Prod.fst s)))), Prod.fst (Prod.snd s), decF rPair (List.length (Prod.fst (Prod.snd (Prod.snd s)))) (encF rPair (Prod.fst (Prod.snd (Prod.snd s)))), PUnit.unit)))) := fun s => by kernel_rfl
namespace K
theorem st_cr3_eq (b : Bulbs) (l : List Int) (L : List (Int × Int)) (i k : Nat) (hi : i < l.length) (hk : k < l.length) (hl : l.length ≤ 1000000) (hL : L.length ≤ 2000000000) (hg : gOk b l) :
    st_cr3 ((l, L.length, (i : Int), (k : Int)), b, L, ()) = some (.inl ((l, (L ++ r3 b (atI l i) (atI l k)).length, (i : Int), ((k + 1 : Nat) : Int)), b, L ++ r3 b (atI l i) (atI l k), ())) := by
  have hc : clampL l.length = l.length := clampL_eq (by unfold maxL; omega)
  obtain ⟨g1, g2⟩ := hg i hi
  obtain ⟨g3, g4⟩ := hg k hk
  rw [sl_cr3]
  have ha : ∀ i, numOf (encF rInt l i 0) = atI l i := fun _ => rfl
  have e0 : (decF rInt l.length fun i => encF rInt l i) = l := decF_encF rInt l
  simp only [T.run_br, T.run_chk, T.run_ret, decide_eq_true_eq, Int.toNat_natCast, hc, Nat.zero_add, ha, e0]
  rw [if_pos (by omega), if_pos (by omega), if_pos ⟨g1, g2⟩, if_pos (by omega), if_pos ⟨g3, g4⟩, w64_in (n := (k : Int) + 1) (by omega) (by omega)]
  have hq : r_none (r_both (r_all (gls b.glasses (i_rglass b (atI l i)).toNat), r_all (gls b.glasses (i_rglass b (atI l k)).toNat))) = r_none (r_both (al b (atI l i), al b (atI l k))) := rfl
  rw [hq]
  unfold r3
  by_cases hp : r_none (r_both (al b (atI l i), al b (atI l k))) = true
  · rw [if_pos hp, if_pos hp, if_pos (by omega), if_pos (by omega), if_pos (by omega), pushP L (atI l i, atI l k) _ rfl]
    simp only [List.length_append]; rfl
  · rw [if_neg hp, if_neg hp, decF_encF, List.append_nil]; rfl
noncomputable def L_cr3 := lim st_cr3
/-- What a glass contradicts of those behind it. -/
noncomputable def r2 (b : Bulbs) (l : List Int) (i : Nat) : List (Int × Int) := (l.drop (i + 1)).flatMap (r3 b (atI l i))
theorem r2_le (b : Bulbs) (l : List Int) (i : Nat) : (r2 b l i).length ≤ l.length := Nat.le_trans (flatMap_le (r3_le b _) _) (by simp)
theorem atI_drop (l : List Int) (m j : Nat) (h : m + j < l.length) : atI (l.drop m) j = atI l (m + j) := by
  rw [atI_get h, atI_get (by simp; omega)]; simp
theorem L_cr3_eq (b : Bulbs) (l : List Int) (L : List (Int × Int)) (i : Nat) (hi : i < l.length) (hl : l.length ≤ 1000000) (hL : L.length ≤ 1000000000) (hg : gOk b l) :
    L_cr3 ((l, L.length, (i : Int), ((i + 1 : Nat) : Int)), b, L, ()) = some ((l, (L ++ r2 b l i).length, (i : Int)), b, L ++ r2 b l i, ()) := by
  have hc : clampL l.length = l.length := clampL_eq (by unfold maxL; omega)
  have hle : ∀ j, (((l.drop (i + 1)).take j).flatMap (r3 b (atI l i))).length ≤ j := fun j => Nat.le_trans (flatMap_le (r3_le b _) _) (by simp; omega)
  have := lim_all (step := st_cr3) (fun j => ((l, (L ++ ((l.drop (i + 1)).take j).flatMap (r3 b (atI l i))).length, (i : Int), ((i + 1 + j : Nat) : Int)), b, L ++ ((l.drop (i + 1)).take j).flatMap (r3 b (atI l i)), ())) (l.length - (i + 1)) (r := ((l, (L ++ r2 b l i).length, (i : Int)), b, L ++ r2 b l i, ())) (fun j hj => ?_) ?_
  · unfold L_cr3; simpa using this
  · have hj2 := hle j
    rw [st_cr3_eq b l _ i (i + 1 + j) hi (by omega) hl (by rw [List.length_append]; omega) hg, take_flat_succ (by simp; omega), atI_drop l (i + 1) j (by omega), List.append_assoc]; rfl
  · rw [sl_cr3]
    have e0 : (decF rInt l.length fun i => encF rInt l i) = l := decF_encF rInt l
    simp only [T.run_br, T.run_ret, decide_eq_true_eq, hc, Nat.zero_add, e0]
    rw [if_neg (by omega), decF_encF, List.take_of_length_le (by simp)]; rfl
end K
noncomputable def BKBl63 : Tab := BKBl62.addNode 28 145 (nodeE [12, 8, 11, 9, 2] S_cr3 X_cr3 (fun s => .obs (K.L_cr3 s) .ret))
theorem tKBl63 : TabOk P BKBl63 := TabOk.addLoop (d := 30) okP tKBl62 (by kernel_rfl) (by kernel_rfl) (fun s r h => obs_ret h)
def S_cr2 := DecS.mk0 (.skips 2 (.unit (dLp 0 0 0 0) (.skips 5 (.cons (dRows rInt) (.cons (dO 1) (.skip (.last (dI .i64) 98))))))) (.flat 31 lBulbs (.rows 75 rPair .nil))
def X_cr2 := DecX.one (.exit 2) [9] (DecS.mk0 (.skips 9 (.last (dO 0) 100)) (.rows 75 rPair .nil))
noncomputable def K.st_cr2 := loopT1 P BKBl63 30 28 121 [8, 11, 9, 2] S_cr2 X_cr2
theorem sl_cr2 : ∀ s, (K.st_cr2) s = T.run (
  .br (decide (Prod.snd (Prod.snd (Prod.fst s)) < (↑(clampL (List.length (Prod.fst (Prod.fst s)))) : Int))) (
    .obs (L_cr3 ((decF rInt (List.length (Prod.fst (Prod.fst s))) fun i => encF rInt (Prod.fst (Prod.fst s)) ((0 : Nat) + i), Prod.fst (Prod.snd (Prod.fst s)), Prod.snd (Prod.snd (Prod.fst s)), IntKind.wrap IntKind.i64 (Prod.snd (Prod.snd (Prod.fst s)) + (1 : Int))), Prod.fst (Prod.snd s), decF rPair (List.length (Prod.fst (Prod.snd (Prod.snd s)))) (encF rPair (Prod.fst (Prod.snd (Prod.snd s)))), PUnit.unit)) fun x0 =>
      .ret (Sum.inl ((decF rInt (List.length (Prod.fst (Prod.fst x0))) fun i => encF rInt (Prod.fst (Prod.fst x0)) ((0 : Nat) + i), Prod.fst (Prod.snd (Prod.fst x0)), IntKind.wrap IntKind.i64 (Prod.snd (Prod.snd (Prod.fst x0)) + (1 : Int))), Prod.fst (Prod.snd x0), decF rPair (List.length (Prod.fst (Prod.snd (Prod.snd x0)))) (encF rPair (Prod.fst (Prod.snd (Prod.snd x0)))), PUnit.unit))) (
    .ret (Sum.inr (Prod.fst (Prod.snd (Prod.fst s)), decF rPair (List.length (Prod.fst (Prod.snd (Prod.snd s)))) (encF rPair (Prod.fst (Prod.snd (Prod.snd s)))), PUnit.unit)))) := fun s => by kernel_rfl
namespace K
noncomputable def L_cr2 := lim st_cr2
theorem r2_sum (b : Bulbs) (l : List Int) : ∀ i, ((List.range i).flatMap (r2 b l)).length ≤ i * l.length
  | 0 => by simp
  | i + 1 => by
    have := r2_sum b l i; have h := r2_le b l i
    rw [List.range_succ, List.flatMap_append, List.length_append, Nat.add_mul, Nat.one_mul]
    simp only [List.flatMap_cons, List.flatMap_nil, List.append_nil]; omega
theorem L_cr2_eq (b : Bulbs) (l : List Int) (L : List (Int × Int)) (hl : l.length ≤ 10000) (hL : L.length ≤ 10000) (hg : gOk b l) :
    L_cr2 ((l, L.length, 0), b, L, ()) = some ((L ++ (List.range l.length).flatMap (r2 b l)).length, L ++ (List.range l.length).flatMap (r2 b l), ()) := by
  have hc : clampL l.length = l.length := clampL_eq (by unfold maxL; omega)
  have := lim_all (step := st_cr2) (fun i => ((l, (L ++ (List.range i).flatMap (r2 b l)).length, (i : Int)), b, L ++ (List.range i).flatMap (r2 b l), ())) l.length (r := ((L ++ (List.range l.length).flatMap (r2 b l)).length, L ++ (List.range l.length).flatMap (r2 b l), ())) (fun i hi => ?_) ?_
  · unfold L_cr2; simpa using this
  · have h1 := r2_sum b l i
    have h2 : i * l.length ≤ 10000 * 10000 := Nat.mul_le_mul (by omega) hl
    rw [sl_cr2]
    have e0 : (decF rInt l.length fun i => encF rInt l i) = l := decF_encF rInt l
    simp only [T.run_br, decide_eq_true_eq, hc, Nat.zero_add, e0, decF_encF]
    rw [if_pos (by omega), w64_in (n := (i : Int) + 1) (by omega) (by omega), show (i : Int) + 1 = ((i + 1 : Nat) : Int) from rfl, L_cr3_eq b l _ i hi (by omega) (by rw [List.length_append]; omega) hg, T.run_some, T.run_ret]
    simp only [e0, decF_encF]
    rw [w64_in (n := (i : Int) + 1) (by omega) (by omega), List.range_succ, List.flatMap_append, List.append_assoc]
    simp only [List.flatMap_cons, List.flatMap_nil, List.append_nil]; rfl
  · rw [sl_cr2]
    simp only [T.run_br, T.run_ret, decide_eq_true_eq, hc, decF_encF]
    rw [if_neg (by omega)]
end K
noncomputable def BKBl64 : Tab := BKBl63.addNode 28 121 (nodeE [8, 11, 9, 2] S_cr2 X_cr2 (fun s => .obs (K.L_cr2 s) .ret))
theorem tKBl64 : TabOk P BKBl64 := TabOk.addLoop (d := 30) okP tKBl63 (by kernel_rfl) (by kernel_rfl) (fun s r h => obs_ret h)
theorem fn_rcl : ∀ a, (callT1 P BKBl64 30 28 D_off R_pairs) a = T.run (
  .br (r_bulbs (Prod.fst a) != (0 : Int)) (
    .ret (([], r_bulbs (Prod.fst a)))) (
    .br (decide (i_rhydro (Prod.fst a) (Prod.snd a) < (0 : Int))) (
      .ret (([], (5 : Int)))) (
      .chk (decide (len (Bulbs.glasses (Prod.fst a)) ≤ (1000000 : Nat))) <|
      .obs (L_cr1 ((i_rhydro (Prod.fst a) (Prod.snd a), decF rInt (List.length (r_mine a)) fun i => encF rInt (r_mine a) ((0 : Nat) + i), (0 : Nat), (0 : Int)), Prod.fst a, decF rPair (0 : Nat) fun x x_1 => AV.top, PUnit.unit)) fun x0 =>
        .obs (L_cr2 ((decF rInt (List.length (Prod.fst (Prod.fst x0))) fun i => encF rInt (Prod.fst (Prod.fst x0)) ((0 : Nat) + i), Prod.snd (Prod.fst x0), (0 : Int)), Prod.fst (Prod.snd x0), decF rPair (List.length (Prod.fst (Prod.snd (Prod.snd x0)))) (encF rPair (Prod.fst (Prod.snd (Prod.snd x0)))), PUnit.unit)) fun x1 =>
          .ret ((decF rPair (List.length (Prod.fst (Prod.snd x1))) fun i => encF rPair (Prod.fst (Prod.snd x1)) ((0 : Nat) + i), (0 : Int)))))) := fun a => by kernel_rfl
end Go.Proofs.YtjbhooodjmjdkaaGreat
