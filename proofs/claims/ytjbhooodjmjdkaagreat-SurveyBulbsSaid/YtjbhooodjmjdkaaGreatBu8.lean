/- SurveyBulbs: for every input the law returns true, and the input reads as it did. No conditions. -/
import Derived.Test.YtjbhooodjmjdkaaGreatRows
import Derived.Test.YtjbhooodjmjdkaaGreatBu7
/-! KBl7 -/
namespace Go.Proofs.YtjbhooodjmjdkaaGreat
open Ev K
set_option maxRecDepth 100000
namespace K
theorem insS_perm (L : List Int) (x : Int) : (insS L x).Perm (x :: L) := by
  unfold insS
  rw [List.append_assoc]
  exact List.perm_middle.trans (List.Perm.cons x (by show (L.take _ ++ L.drop _).Perm L; rw [List.take_append_drop]))
theorem risR_perm (l : List Int) : ∀ i, i ≤ l.length → (risR l i).Perm (l.take i)
  | 0, _ => by rw [List.take_zero]; exact .refl _
  | i + 1, h => by
    rw [risR_succ, List.take_add_one, List.getElem?_eq_getElem (by omega), atI_get (by omega)]
    refine (insS_perm _ _).trans ?_
    simp only [Option.toList_some]
    exact (List.Perm.cons _ (risR_perm l i (by omega))).trans (List.perm_append_singleton _ _).symm
theorem risL_perm (l : List Int) : (risL l).Perm l := by
  have := risR_perm l l.length (Nat.le_refl _)
  rw [List.take_of_length_le (Nat.le_refl _)] at this
  exact this
theorem insP_spec (L : List Int) (x : Int) : (∀ j, insP L x L.length ≤ j → j < L.length → x < atI L j) ∧ (0 < insP L x L.length → atI L (insP L x L.length - 1) ≤ x) := by
  unfold insP
  cases hf : first (fun j => !decide (atI L (L.length - j - 1) > x)) L.length with
  | none =>
    refine ⟨fun j _ hj => ?_, fun h => absurd h (Nat.lt_irrefl 0)⟩
    have := first_none' hf (L.length - j - 1) (by omega)
    rw [show L.length - (L.length - j - 1) - 1 = j by omega] at this
    simpa using this
  | some k =>
    obtain ⟨h1, h2, h3⟩ := first_spec hf
    refine ⟨fun j hj hlt => ?_, fun _ => ?_⟩
    · simp only at hj
      have := h3 (L.length - j - 1) (by omega)
      rw [show L.length - (L.length - j - 1) - 1 = j by omega] at this
      simpa using this
    · simpa using h2
theorem insS_sorted {L : List Int} (x : Int) (h : L.Pairwise (· ≤ ·)) : (insS L x).Pairwise (· ≤ ·) := by
  obtain ⟨h1, h2⟩ := insP_spec L x
  have hp := insP_le L x L.length
  unfold insS
  generalize insP L x L.length = p at *
  rw [List.append_assoc, List.pairwise_append]
  have hx : ∀ a ∈ L.take p, a ≤ x := by
    intro a ha
    obtain ⟨i, hi, e⟩ := List.mem_iff_getElem.1 ha
    simp only [List.length_take] at hi
    rw [List.getElem_take] at e
    have h0 := h2 (by omega)
    rw [atI_get (by omega)] at h0
    by_cases e2 : i = p - 1
    · subst e2; omega
    · have := (List.pairwise_iff_getElem.1 h) i (p - 1) (by omega) (by omega) (by omega)
      omega
  have hy : ∀ a ∈ L.drop p, x ≤ a := by
    intro a ha
    obtain ⟨i, hi, e⟩ := List.mem_iff_getElem.1 ha
    simp only [List.length_drop] at hi
    rw [List.getElem_drop] at e
    have := h1 (p + i) (by omega) (by omega)
    rw [atI_get (by omega)] at this; omega
  refine ⟨h.sublist (List.take_sublist _ _), ?_, fun a ha b hb => ?_⟩
  · rw [List.singleton_append, List.pairwise_cons]
    exact ⟨hy, h.sublist (List.drop_sublist _ _)⟩
  · rw [List.singleton_append] at hb
    rcases List.mem_cons.1 hb with rfl | hb
    · exact hx a ha
    · exact Int.le_trans (hx a ha) (hy b hb)
theorem risL_sorted (l : List Int) : (risL l).Pairwise (· ≤ ·) := by
  have : ∀ i, (risR l i).Pairwise (· ≤ ·) := fun i => by
    induction i with
    | zero => exact .nil
    | succ i ih => rw [risR_succ]; exact insS_sorted _ ih
  exact this _
theorem sortL_perm (l : List Int) : (sortL l).Perm l := List.mergeSort_perm l _
theorem sortL_sorted (l : List Int) : (sortL l).Pairwise (· ≤ ·) := by
  have := List.pairwise_mergeSort (le := fun x y : Int => decide (x ≤ y)) (fun a b c h1 h2 => by simp at *; omega) (fun a b => by simp; omega) l
  exact this.imp (fun h => by simpa using h)
theorem sorted_eq {l l' : List Int} (h : l.Pairwise (· ≤ ·)) (h' : l'.Pairwise (· ≤ ·)) (hp : l.Perm l') : l = l' := List.Perm.eq_of_pairwise (fun a b _ _ h1 h2 => Int.le_antisymm h1 h2) h h' hp
theorem risL_eq (l : List Int) : risL l = sortL l := sorted_eq (risL_sorted l) (sortL_sorted l) ((risL_perm l).trans (sortL_perm l).symm)
/-- Each number of the list names a glass. -/
theorem mine_mem {b : Bulbs} {n x : Int} (h : x ∈ mineU b n) : ∃ k, k < len b.glasses ∧ (gls b.glasses k).hydro = n ∧ (gls b.glasses k).id = x := by
  unfold mineU mineR at h
  obtain ⟨k, hk, e⟩ := List.mem_map.1 h
  obtain ⟨h1, h2⟩ := List.mem_filter.1 hk
  exact ⟨k, List.mem_range.1 h1, by simpa using h2, e⟩
theorem i_rglass_at {b : Bulbs} {k : Nat} (hk : k < len b.glasses) : 0 ≤ i_rglass b (gls b.glasses k).id ∧ i_rglass b (gls b.glasses k).id ≤ (k : Int) := by
  have e : i_rglass b (gls b.glasses k).id = idx (p_rglass b (gls b.glasses k).id) (len b.glasses) := rfl
  rw [e]; unfold idx
  cases hf : first (p_rglass b (gls b.glasses k).id) (len b.glasses) with
  | none =>
    have := first_none' hf k hk
    have h2 : p_rglass b (gls b.glasses k).id k = ((gls b.glasses k).id == (gls b.glasses k).id) := rfl
    rw [h2] at this; simp at this
  | some i =>
    obtain ⟨h1, h2, h3⟩ := first_spec hf
    have : i ≤ k := by
      apply Nat.le_of_not_lt
      intro h
      have := h3 k h
      have h2 : p_rglass b (gls b.glasses k).id k = ((gls b.glasses k).id == (gls b.glasses k).id) := rfl
      rw [h2] at this; simp at this
    simp only
    omega
theorem mine_gOk (a : Bulbs × Int) : gOk a.1 (r_mine a) := by
  intro i hi
  have hm : atI (r_mine a) i ∈ mineU a.1 a.2 := by rw [atI_get hi]; exact (risL_perm _).mem_iff.1 (List.getElem_mem hi)
  obtain ⟨k, hk, _, e⟩ := mine_mem hm
  have h2 := i_rglass_at hk
  have := K.len_le' a.1.glasses
  rw [e] at h2; omega
noncomputable def rclL (a : Bulbs × Int) (i : Nat) : List (Int × Int) := (r_mine a).flatMap (r1 a.1 i) ++ (List.range (r_mine a).length).flatMap (r2 a.1 (r_mine a))
noncomputable def r_cla (a : Bulbs × Int) : List (Int × Int) × Int := if (r_bulbs a.1 != 0) = true then ([], r_bulbs a.1) else match first (p_rhydro a.1 a.2) (len a.1.hydros) with
  | none => ([], 5)
  | some i => (rclL a i, 0)
theorem r_mine_le (a : Bulbs × Int) : (r_mine a).length ≤ len a.1.glasses := by unfold r_mine; rw [risR_le]; exact mineR_le _ _ _
theorem r_cla_eq (a : Bulbs × Int) (h : len a.1.glasses ≤ 10000) : callT1 P BKBl64 30 28 D_off R_pairs a = some (r_cla a) := by
  rw [fn_rcl]; unfold r_cla
  refine br_step (fun _ => rfl) (fun _ => ?_)
  have hi : i_rhydro a.1 a.2 = idx (p_rhydro a.1 a.2) (len a.1.hydros) := rfl
  have hm := r_mine_le a
  have e0 : (decF rInt (r_mine a).length fun i => encF rInt (r_mine a) (0 + i)) = r_mine a := decF_enc0 _ _
  have ez : (decF rPair 0 fun x x_1 => AV.top) = ([] : List (Int × Int)) := rfl
  rw [e0, ez]
  cases hf : first (p_rhydro a.1 a.2) (len a.1.hydros) with
  | none =>
    rw [hi]; unfold idx; rw [hf]; rfl
  | some i =>
    have hlt := (first_spec hf).1
    rw [hi]; unfold idx; rw [hf]
    simp only
    rw [T.run_br, if_neg (by simp)]
    refine chk_step (by simp; omega) ?_
    have h1 : ((r_mine a).flatMap (r1 a.1 i)).length ≤ (r_mine a).length := flatMap_le (r1_le _ _) _
    rw [L_cr1_eq a.1 i (r_mine a) hlt (by omega) (mine_gOk a), T.run_some]
    simp only [e0, decF_encF]
    rw [L_cr2_eq a.1 (r_mine a) _ (by omega) (by omega) (mine_gOk a), T.run_some, T.run_ret]
    simp only
    rw [decF_enc0]; rfl
end K
noncomputable def BKBl71 : Tab := BKBl64.addCall 28 (callE D_off R_pairs (fun a => .chk (decide (len a.1.glasses ≤ 10000)) (.ret (K.r_cla a))))
theorem tKBl71 : TabOk P BKBl71 := TabOk.addFn (d := 30) okP tKBl64 (fun a r h => by obtain ⟨g, e⟩ := chk_ret h; subst e; exact K.r_cla_eq a (by simpa using g))
def S_ints := DecS.mk1 (.cons (dRows rInt) (.cons (dRows rInt) (.skips 3 (.last (dI .i64) 20))))
def X_ints := DecX.or (DecX.one .ret [4] (DecS.mk1 (.skips 4 (.last dB 21)))) (DecX.one (.exit 0) [] (DecS.mk1 (.tops 26)))
noncomputable def K.st_ints := loopT1 P BKBl71 30 21 33 [5, 1, 0] S_ints X_ints
theorem sl_ints : ∀ s, (K.st_ints) s = T.run (
  .br (decide (Prod.snd (Prod.snd s) < (↑(clampL (List.length (Prod.fst s))) : Int))) (
    .chk (decide ((0 : Int) ≤ Prod.snd (Prod.snd s) ∧ Prod.snd (Prod.snd s) < (↑(List.length (Prod.fst s)) : Int))) <|
    .chk (decide ((0 : Int) ≤ Prod.snd (Prod.snd s) ∧ Prod.snd (Prod.snd s) < (↑(List.length (Prod.fst (Prod.snd s))) : Int))) <|
    .br (numOf (encF rInt (Prod.fst s) ((0 : Nat) + Int.toNat (Prod.snd (Prod.snd s))) (0 : Nat)) != numOf (encF rInt (Prod.fst (Prod.snd s)) ((0 : Nat) + Int.toNat (Prod.snd (Prod.snd s))) (0 : Nat))) (
      .ret (Sum.inr (Sum.inl false))) (
      .ret (Sum.inl (decF rInt (List.length (Prod.fst s)) fun i => encF rInt (Prod.fst s) ((0 : Nat) + i), decF rInt (List.length (Prod.fst (Prod.snd s))) fun i => encF rInt (Prod.fst (Prod.snd s)) ((0 : Nat) + i), IntKind.wrap IntKind.i64 (Prod.snd (Prod.snd s) + (1 : Int)))))) (
    .ret (Sum.inr (Sum.inr PUnit.unit)))) := fun s => by kernel_rfl
namespace K
noncomputable def L_ints := lim st_ints
theorem L_ints_eq (l m : List Int) (hl : l.length ≤ 1000000) (hm : l.length = m.length) : L_ints (l, m, 0) = some (match first (fun i => atI l i != atI m i) l.length with | some _ => .inl false | none => .inr ()) := by
  have hc : clampL l.length = l.length := clampL_eq (by unfold maxL; omega)
  have e0 : (decF rInt l.length fun i => encF rInt l i) = l := decF_encF rInt l
  have e1 : (decF rInt m.length fun i => encF rInt m i) = m := decF_encF rInt m
  have ha : ∀ l i, numOf (encF rInt l i 0) = atI l i := fun _ _ => rfl
  have := lim_find (step := st_ints) (fun i : Nat => (l, m, (i : Int))) l.length (fun i => atI l i != atI m i) (fun _ => .inl false) (.inr ()) (fun i hi hp => ?_) (fun i hi hp => ?_) ?_
  · show lim st_ints (l, m, ((0 : Nat) : Int)) = _
    rw [this]
    cases first (fun i => atI l i != atI m i) l.length <;> rfl
  · rw [sl_ints]
    simp only [T.run_br, T.run_chk, T.run_ret, decide_eq_true_eq, Int.toNat_natCast, hc, Nat.zero_add, e0, e1, ha]
    rw [if_pos (by omega), if_pos (by omega), if_pos (by omega), if_pos hp]
  · rw [sl_ints]
    simp only [T.run_br, T.run_chk, T.run_ret, decide_eq_true_eq, Int.toNat_natCast, hc, Nat.zero_add, e0, e1, ha]
    rw [if_pos (by omega), if_pos (by omega), if_pos (by omega), if_neg (by rw [hp]; decide), w64_in (n := (i : Int) + 1) (by omega) (by omega)]; rfl
  · rw [sl_ints]
    simp only [T.run_br, T.run_ret, decide_eq_true_eq, hc]
    rw [if_neg (by omega)]
end K
noncomputable def BKBl72 : Tab := BKBl71.addNode 21 33 (nodeE [5, 1, 0] S_ints X_ints (fun s => .obs (K.L_ints s) .ret))
theorem tKBl72 : TabOk P BKBl72 := TabOk.addLoop (d := 30) okP tKBl71 (by kernel_rfl) (by kernel_rfl) (fun s r h => obs_ret h)
def D_ints := DecL.cons (dRows rInt) (.last (dRows rInt) 0)
theorem fn_ints : ∀ a, (callT1 P BKBl72 30 21 D_ints dB) a = T.run (
  .br ((↑(clampL (List.length (Prod.fst a))) : Int) != (↑(clampL (List.length (Prod.snd a))) : Int)) (
    .ret (false)) (
    .obs (L_ints (decF rInt (List.length (Prod.fst a)) fun i => encF rInt (Prod.fst a) ((0 : Nat) + i), decF rInt (List.length (Prod.snd a)) fun i => encF rInt (Prod.snd a) ((0 : Nat) + i), (0 : Int))) fun x0 =>
      .sum (x0) (fun x1 =>
        .ret (x1)) (fun x1 =>
        .ret (true)))) := fun a => by kernel_rfl
namespace K
theorem chk_more {ρ : Type} {g : Bool} {t : T ρ} {r : ρ} (h : (T.chk g t).run = some r) : g = true ∧ t.run = some r := by
  rw [T.run_chk] at h
  split at h
  · exact ⟨by assumption, h⟩
  · cases h
def sameL (a : List Int × List Int) : Bool := decide (a.1 = a.2)
theorem ints_eq (a : List Int × List Int) (h1 : a.1.length ≤ 1000000) (h2 : a.2.length ≤ 1000000) : callT1 P BKBl72 30 21 D_ints dB a = some (sameL a) := by
  obtain ⟨l, m⟩ := a
  simp only at h1 h2
  rw [fn_ints]
  have hc : clampL l.length = l.length := clampL_eq (by unfold maxL; omega)
  have hc2 : clampL m.length = m.length := clampL_eq (by unfold maxL; omega)
  simp only [hc, hc2, decF_enc0]
  unfold sameL
  by_cases hlen : l.length = m.length
  · rw [T.run_br, if_neg (by simp [hlen]), L_ints_eq l m h1 hlen, T.run_some]
    cases hf : first (fun i => atI l i != atI m i) l.length with
    | some i =>
      obtain ⟨g1, g2, _⟩ := first_spec hf
      show T.run (.ret false) = _
      rw [T.run_ret, decide_eq_false (show ¬ l = m from fun e => by subst e; simp at g2)]
    | none =>
      show T.run (.ret true) = _
      rw [T.run_ret]
      have : l = m := by
        apply List.ext_getElem hlen
        intro i hi hi2
        have := first_none' hf i hi
        rw [atI_get hi, atI_get hi2] at this
        simpa using this
      rw [decide_eq_true this]
  · rw [T.run_br, if_pos (by simp; omega), T.run_ret, decide_eq_false (fun e => hlen (by simp only at e; rw [e]))]
end K
noncomputable def BKBl73 : Tab := BKBl72.addCall 21 (callE D_ints dB (fun a => .chk (decide (a.1.length ≤ 1000000)) (.chk (decide (a.2.length ≤ 1000000)) (.ret (K.sameL a)))))
theorem tKBl73 : TabOk P BKBl73 := TabOk.addFn (d := 30) okP tKBl72 (fun a r h => by obtain ⟨g1, h⟩ := K.chk_more h; obtain ⟨g2, e⟩ := chk_ret h; subst e; exact K.ints_eq a (by simpa using g1) (by simpa using g2))
end Go.Proofs.YtjbhooodjmjdkaaGreat
/-! KN5 -/
namespace Go.Proofs.YtjbhooodjmjdkaaGreat
open Ev K
set_option maxRecDepth 100000
def S_rsix := DecS.mk0 (.skip (.unit (dLp 0 0 0 0) (.unit (dLp 1 0 0 0) (.unit (dLp 2 0 0 0) (.unit (dLp 3 0 0 0) (.unit (dLp 4 0 0 0) (.last (dI .i64) 56))))))) (.flat 85 lSurvey (.flat 39 lSpan (.flat 39 lSpan (.flat 39 lSpan (.flat 39 lSpan .nil)))))
def X_rsix := DecX.one (.exit 0) [6, 5, 1, 2, 4, 3] S_rsix
noncomputable def K.st_rsix := loopT1 P BKN43 30 206 41 [6, 5, 1, 2, 4, 3] S_rsix X_rsix
theorem sl_rsix : ∀ s, (K.st_rsix) s = T.run (
  .br (decide (Prod.fst s ≤ IntKind.wrap IntKind.i64 (Span.hi (Prod.fst (Prod.snd (Prod.snd (Prod.snd s)))) + Span.hi (Prod.fst (Prod.snd (Prod.snd (Prod.snd (Prod.snd s)))))))) (
    .br (r_none (r_middle (Prod.fst (Prod.snd s), Prod.fst s))) (
      .ret (Sum.inl (IntKind.wrap IntKind.i64 (Prod.fst s + (1 : Int)), Prod.fst (Prod.snd s), Prod.fst (Prod.snd (Prod.snd s)), Prod.fst (Prod.snd (Prod.snd (Prod.snd s))), Prod.fst (Prod.snd (Prod.snd (Prod.snd (Prod.snd s)))), Prod.fst (Prod.snd (Prod.snd (Prod.snd (Prod.snd (Prod.snd s))))), PUnit.unit))) (
      .br (r_none (Prod.fst (Prod.snd (Prod.snd (Prod.snd (Prod.snd (Prod.snd s))))))) (
        .ret (Sum.inl (IntKind.wrap IntKind.i64 (Prod.fst s + (1 : Int)), Prod.fst (Prod.snd s), Prod.fst (Prod.snd (Prod.snd s)), Prod.fst (Prod.snd (Prod.snd (Prod.snd s))), Prod.fst (Prod.snd (Prod.snd (Prod.snd (Prod.snd s)))), Span.mk (if IntKind.wrap IntKind.i64 (Prod.fst s + IntKind.wrap IntKind.i64 ((6 : Int) * Span.lo (r_middle (Prod.fst (Prod.snd s), Prod.fst s)))) < IntKind.wrap IntKind.i64 (Prod.fst s + IntKind.wrap IntKind.i64 ((6 : Int) * Span.lo (r_middle (Prod.fst (Prod.snd s), Prod.fst s)))) then IntKind.wrap IntKind.i64 (Prod.fst s + IntKind.wrap IntKind.i64 ((6 : Int) * Span.lo (r_middle (Prod.fst (Prod.snd s), Prod.fst s)))) else IntKind.wrap IntKind.i64 (Prod.fst s + IntKind.wrap IntKind.i64 ((6 : Int) * Span.lo (r_middle (Prod.fst (Prod.snd s), Prod.fst s))))) (if IntKind.wrap IntKind.i64 (Prod.fst s + IntKind.wrap IntKind.i64 ((6 : Int) * Span.hi (r_middle (Prod.fst (Prod.snd s), Prod.fst s)))) > IntKind.wrap IntKind.i64 (Prod.fst s + IntKind.wrap IntKind.i64 ((6 : Int) * Span.hi (r_middle (Prod.fst (Prod.snd s), Prod.fst s)))) then IntKind.wrap IntKind.i64 (Prod.fst s + IntKind.wrap IntKind.i64 ((6 : Int) * Span.hi (r_middle (Prod.fst (Prod.snd s), Prod.fst s)))) else IntKind.wrap IntKind.i64 (Prod.fst s + IntKind.wrap IntKind.i64 ((6 : Int) * Span.hi (r_middle (Prod.fst (Prod.snd s), Prod.fst s))))), PUnit.unit))) (
        .ret (Sum.inl (IntKind.wrap IntKind.i64 (Prod.fst s + (1 : Int)), Prod.fst (Prod.snd s), Prod.fst (Prod.snd (Prod.snd s)), Prod.fst (Prod.snd (Prod.snd (Prod.snd s))), Prod.fst (Prod.snd (Prod.snd (Prod.snd (Prod.snd s)))), Span.mk (if IntKind.wrap IntKind.i64 (Prod.fst s + IntKind.wrap IntKind.i64 ((6 : Int) * Span.lo (r_middle (Prod.fst (Prod.snd s), Prod.fst s)))) < Span.lo (Prod.fst (Prod.snd (Prod.snd (Prod.snd (Prod.snd (Prod.snd s)))))) then IntKind.wrap IntKind.i64 (Prod.fst s + IntKind.wrap IntKind.i64 ((6 : Int) * Span.lo (r_middle (Prod.fst (Prod.snd s), Prod.fst s)))) else Span.lo (Prod.fst (Prod.snd (Prod.snd (Prod.snd (Prod.snd (Prod.snd s))))))) (if IntKind.wrap IntKind.i64 (Prod.fst s + IntKind.wrap IntKind.i64 ((6 : Int) * Span.hi (r_middle (Prod.fst (Prod.snd s), Prod.fst s)))) > Span.hi (Prod.fst (Prod.snd (Prod.snd (Prod.snd (Prod.snd (Prod.snd s)))))) then IntKind.wrap IntKind.i64 (Prod.fst s + IntKind.wrap IntKind.i64 ((6 : Int) * Span.hi (r_middle (Prod.fst (Prod.snd s), Prod.fst s)))) else Span.hi (Prod.fst (Prod.snd (Prod.snd (Prod.snd (Prod.snd (Prod.snd s))))))), PUnit.unit))))) (
    .ret (Sum.inr (Prod.fst s, Prod.fst (Prod.snd s), Prod.fst (Prod.snd (Prod.snd s)), Prod.fst (Prod.snd (Prod.snd (Prod.snd s))), Prod.fst (Prod.snd (Prod.snd (Prod.snd (Prod.snd s)))), Prod.fst (Prod.snd (Prod.snd (Prod.snd (Prod.snd (Prod.snd s))))), PUnit.unit)))) := fun s => by kernel_rfl
noncomputable def K.L_rsix := lim K.st_rsix
/-- A span widened to two numbers. -/
def K.grow (o : Span) (a b : Int) : Span := ⟨if a < o.lo then a else o.lo, if b > o.hi then b else o.hi⟩
noncomputable def K.lowAt (x : Survey) (s : Int) : Int := IntKind.i64.wrap (s + IntKind.i64.wrap (6 * (r_middle (x, s)).lo))
noncomputable def K.highAt (x : Survey) (s : Int) : Int := IntKind.i64.wrap (s + IntKind.i64.wrap (6 * (r_middle (x, s)).hi))
noncomputable def K.F_rsix (x : Survey) (s : Int) (o : Span) : Span := if r_none (r_middle (x, s)) = true then o else if r_none o = true then grow ⟨lowAt x s, highAt x s⟩ (lowAt x s) (highAt x s) else grow o (lowAt x s) (highAt x s)
theorem K.L_rsix_eq (x : Survey) (r f a o : Span) (lo hi : Int) (h1 : IntKind.i64.wrap (f.hi + a.hi) = hi) (b1 : -4611686018427387904 ≤ lo) (b2 : hi ≤ 4611686018427387904) :
    K.L_rsix (lo, x, r, f, a, o, ()) = some (lo + ((hi - lo + 1).toNat : Int), x, r, f, a, (List.range (hi - lo + 1).toNat).foldl (fun o (i : Nat) => F_rsix x (lo + (i : Int)) o) o, ()) := by
  have key := lim_fold (step := K.st_rsix) (fun (i : Nat) (o : Span) => (lo + (i : Int), x, r, f, a, o, ())) (hi - lo + 1).toNat (fun o (i : Nat) => F_rsix x (lo + (i : Int)) o) (fun o => (lo + ((hi - lo + 1).toNat : Int), x, r, f, a, o, ())) (fun i hi' o => ?_) (fun o => ?_) o
  · have e0 : lo + ((0 : Nat) : Int) = lo := by omega
    simp only [e0] at key
    exact key
  · rw [sl_rsix]
    simp only [h1]
    rw [w64_in (n := lo + (i : Int) + 1) (by omega) (by omega), show lo + (i : Int) + 1 = lo + ((i + 1 : Nat) : Int) by omega]
    rw [show (F_rsix x (lo + (i : Int)) o) = (if r_none (r_middle (x, lo + (i : Int))) = true then o else if r_none o = true then grow ⟨lowAt x (lo + (i : Int)), highAt x (lo + (i : Int))⟩ (lowAt x (lo + (i : Int))) (highAt x (lo + (i : Int))) else grow o (lowAt x (lo + (i : Int))) (highAt x (lo + (i : Int)))) from rfl]
    have c : decide (lo + (i : Int) ≤ hi) = true := by simp; omega
    cases h2 : r_none (r_middle (x, lo + (i : Int))) with
    | true => simp only [T.run_br, T.run_ret, c, h2, if_true]
    | false =>
      cases h3 : r_none o with
      | true => simp only [T.run_br, T.run_ret, c, h2, h3, if_true, if_false, Bool.false_eq_true]; rfl
      | false => simp only [T.run_br, T.run_ret, c, h2, h3, if_true, if_false, Bool.false_eq_true]; rfl
  · rw [sl_rsix]
    simp only [T.run_br, T.run_ret, decide_eq_true_eq, h1]
    rw [if_neg (by omega)]
noncomputable def BKN51 : Tab := BKN43.addNode 206 41 (nodeE [6, 5, 1, 2, 4, 3] S_rsix X_rsix (fun s => .obs (K.L_rsix s) .ret))
theorem tKN51 : TabOk P BKN51 := TabOk.addLoop (d := 30) okP tKN43 (by kernel_rfl) (by kernel_rfl) (fun s r h => obs_ret h)
theorem fn_rsix : ∀ a, (callT1 P BKN51 30 206 D_rsix dSpan) a = T.run (
  .obs (L_rsix (IntKind.wrap IntKind.i64 (IntKind.wrap IntKind.i64 (Span.lo (Survey.m0 a) + Span.lo (Survey.m1 a)) + IntKind.wrap IntKind.i64 (Span.lo (Survey.m4 a) + Span.lo (Survey.m5 a))), a, Span.mk (0 : Int) (0 : Int), Span.mk (IntKind.wrap IntKind.i64 (Span.lo (Survey.m0 a) + Span.lo (Survey.m1 a))) (IntKind.wrap IntKind.i64 (Span.hi (Survey.m0 a) + Span.hi (Survey.m1 a))), Span.mk (IntKind.wrap IntKind.i64 (Span.lo (Survey.m4 a) + Span.lo (Survey.m5 a))) (IntKind.wrap IntKind.i64 (Span.hi (Survey.m4 a) + Span.hi (Survey.m5 a))), Span.mk (1 : Int) (0 : Int), PUnit.unit)) fun x0 =>
    .ret (Prod.fst (Prod.snd (Prod.snd (Prod.snd (Prod.snd (Prod.snd x0))))))) := fun a => by kernel_rfl
noncomputable def K.sixLo (x : Survey) : Int := IntKind.i64.wrap (IntKind.i64.wrap (x.m0.lo + x.m1.lo) + IntKind.i64.wrap (x.m4.lo + x.m5.lo))
noncomputable def K.sixHi (x : Survey) : Int := IntKind.i64.wrap (IntKind.i64.wrap (x.m0.hi + x.m1.hi) + IntKind.i64.wrap (x.m4.hi + x.m5.hi))
noncomputable def K.sixOk (x : Survey) : Bool := decide (-4611686018427387904 ≤ sixLo x) && decide (sixHi x ≤ 4611686018427387904)
noncomputable def K.r_six (x : Survey) : Span := (List.range (sixHi x - sixLo x + 1).toNat).foldl (fun o (i : Nat) => F_rsix x (sixLo x + (i : Int)) o) ⟨1, 0⟩
theorem K.r_six_eq (x : Survey) (h : sixOk x = true) : callT1 P BKN51 30 206 D_rsix dSpan x = some (r_six x) := by
  unfold sixOk at h
  rw [Bool.and_eq_true, decide_eq_true_eq, decide_eq_true_eq] at h
  rw [fn_rsix]
  show T.run (.obs (L_rsix (sixLo x, x, ⟨0, 0⟩, ⟨_, IntKind.i64.wrap (x.m0.hi + x.m1.hi)⟩, ⟨_, IntKind.i64.wrap (x.m4.hi + x.m5.hi)⟩, ⟨1, 0⟩, ())) _) = _
  rw [L_rsix_eq x _ _ _ _ (sixLo x) (sixHi x) rfl h.1 h.2]; rfl
noncomputable def BKN52 : Tab := BKN51.addCall 206 (callE D_rsix dSpan (fun x => .chk (sixOk x) (.ret (r_six x))))
theorem tKN52 : TabOk P BKN52 := TabOk.addFn (d := 30) okP tKN51 (fun a r h => by obtain ⟨g, e⟩ := chk_ret h; subst e; exact K.r_six_eq a g)
end Go.Proofs.YtjbhooodjmjdkaaGreat
/-! KN6 -/
namespace Go.Proofs.YtjbhooodjmjdkaaGreat
open Ev K
set_option maxRecDepth 100000
theorem fn_rchk : ∀ a, (callT1 P BKN52 30 168 D_rdens (dI .i64)) a = T.run (
  .br (r_bulbs (Prod.fst a) != (0 : Int)) (
    .ret (r_bulbs (Prod.fst a))) (
    .br (!r_id (Survey.id (Prod.snd a))) (
      .ret ((1 : Int))) (
      .br (decide (Survey.tick (Prod.snd a) < (0 : Int))) (
        .ret ((1 : Int))) (
        .br (decide (Survey.tick (Prod.snd a) > (1048576 : Int))) (
          .ret ((1 : Int))) (
          .br (decide (Survey.sag (Prod.snd a) < (0 : Int))) (
            .ret ((1 : Int))) (
            .br (decide (Survey.sag (Prod.snd a) > (200 : Int))) (
              .ret ((1 : Int))) (
              .br (!r_span (Survey.shown (Prod.snd a), (0 : Int), (2000 : Int))) (
                .ret ((1 : Int))) (
                .br (!r_span (Survey.m0 (Prod.snd a), (0 : Int), (65536 : Int))) (
                  .ret ((1 : Int))) (
                  .br (decide (IntKind.wrap IntKind.i64 (Span.hi (Survey.m0 (Prod.snd a)) - Span.lo (Survey.m0 (Prod.snd a))) ≥ (400 : Int))) (
                    .ret ((1 : Int))) (
                    .br (!r_span (Survey.m1 (Prod.snd a), (0 : Int), (65536 : Int))) (
                      .ret ((1 : Int))) (
                      .br (decide (IntKind.wrap IntKind.i64 (Span.hi (Survey.m1 (Prod.snd a)) - Span.lo (Survey.m1 (Prod.snd a))) ≥ (400 : Int))) (
                        .ret ((1 : Int))) (
                        .br (!r_span (Survey.m2 (Prod.snd a), (0 : Int), (65536 : Int))) (
                          .ret ((1 : Int))) (
                          .br (decide (IntKind.wrap IntKind.i64 (Span.hi (Survey.m2 (Prod.snd a)) - Span.lo (Survey.m2 (Prod.snd a))) ≥ (400 : Int))) (
                            .ret ((1 : Int))) (
                            .br (!r_span (Survey.m3 (Prod.snd a), (0 : Int), (65536 : Int))) (
                              .ret ((1 : Int))) (
                              .br (decide (IntKind.wrap IntKind.i64 (Span.hi (Survey.m3 (Prod.snd a)) - Span.lo (Survey.m3 (Prod.snd a))) ≥ (400 : Int))) (
                                .ret ((1 : Int))) (
                                .br (!r_span (Survey.m4 (Prod.snd a), (0 : Int), (65536 : Int))) (
                                  .ret ((1 : Int))) (
                                  .br (decide (IntKind.wrap IntKind.i64 (Span.hi (Survey.m4 (Prod.snd a)) - Span.lo (Survey.m4 (Prod.snd a))) ≥ (400 : Int))) (
                                    .ret ((1 : Int))) (
                                    .br (!r_span (Survey.m5 (Prod.snd a), (0 : Int), (65536 : Int))) (
                                      .ret ((1 : Int))) (
                                      .br (decide (IntKind.wrap IntKind.i64 (Span.hi (Survey.m5 (Prod.snd a)) - Span.lo (Survey.m5 (Prod.snd a))) ≥ (400 : Int))) (
                                        .ret ((1 : Int))) (
                                        .br (Prod.snd (r_Off (Prod.fst a, Survey.hydro (Prod.snd a))) != (0 : Int)) (
                                          .ret (Prod.snd (r_Off (Prod.fst a, Survey.hydro (Prod.snd a))))) (
                                          .br (r_none (r_density a)) (
                                            .ret ((9 : Int))) (
                                            .chk (sixOk (Prod.snd a)) <|
                                            .br (r_none (r_six (Prod.snd a))) (
                                              .ret ((9 : Int))) (
                                              .ret ((0 : Int))))))))))))))))))))))))) := fun a => by kernel_rfl
theorem K.r_span_iff {s : Span} {lo hi : Int} : r_span (s, lo, hi) = true ↔ lo ≤ s.lo ∧ s.lo ≤ s.hi ∧ s.hi ≤ hi := by
  unfold r_span; simp
theorem K.not_not {c : Bool} (h : ¬ (!c) = true) : c = true := by cases c with
  | true => rfl
  | false => exact absurd rfl h
noncomputable def K.r_check (b : Bulbs) (x : Survey) : Int :=
  if (r_bulbs b != 0) = true then r_bulbs b else
  if (!r_id x.id) = true then 1 else
  if decide (x.tick < 0) = true then 1 else
  if decide (x.tick > 1048576) = true then 1 else
  if decide (x.sag < 0) = true then 1 else
  if decide (x.sag > 200) = true then 1 else
  if (!r_span (x.shown, 0, 2000)) = true then 1 else
  if (!r_span (x.m0, 0, 65536)) = true then 1 else
  if decide (IntKind.i64.wrap (x.m0.hi - x.m0.lo) ≥ 400) = true then 1 else
  if (!r_span (x.m1, 0, 65536)) = true then 1 else
  if decide (IntKind.i64.wrap (x.m1.hi - x.m1.lo) ≥ 400) = true then 1 else
  if (!r_span (x.m2, 0, 65536)) = true then 1 else
  if decide (IntKind.i64.wrap (x.m2.hi - x.m2.lo) ≥ 400) = true then 1 else
  if (!r_span (x.m3, 0, 65536)) = true then 1 else
  if decide (IntKind.i64.wrap (x.m3.hi - x.m3.lo) ≥ 400) = true then 1 else
  if (!r_span (x.m4, 0, 65536)) = true then 1 else
  if decide (IntKind.i64.wrap (x.m4.hi - x.m4.lo) ≥ 400) = true then 1 else
  if (!r_span (x.m5, 0, 65536)) = true then 1 else
  if decide (IntKind.i64.wrap (x.m5.hi - x.m5.lo) ≥ 400) = true then 1 else
  if ((r_Off (b, x.hydro)).2 != 0) = true then (r_Off (b, x.hydro)).2 else
  if r_none (r_density (b, x)) = true then 9 else
  if r_none (r_six x) = true then 9 else
  0
theorem K.r_check_eq (a : Bulbs × Survey) : callT1 P BKN52 30 168 D_rdens (dI .i64) a = some (r_check a.1 a.2) := by
  rw [fn_rchk]; unfold r_check
  refine br_step (fun _ => rfl) (fun k0 => ?_)
  refine br_step (fun _ => rfl) (fun k1 => ?_)
  refine br_step (fun _ => rfl) (fun k2 => ?_)
  refine br_step (fun _ => rfl) (fun k3 => ?_)
  refine br_step (fun _ => rfl) (fun k4 => ?_)
  refine br_step (fun _ => rfl) (fun k5 => ?_)
  refine br_step (fun _ => rfl) (fun k6 => ?_)
  refine br_step (fun _ => rfl) (fun k7 => ?_)
  refine br_step (fun _ => rfl) (fun k8 => ?_)
  refine br_step (fun _ => rfl) (fun k9 => ?_)
  refine br_step (fun _ => rfl) (fun k10 => ?_)
  refine br_step (fun _ => rfl) (fun k11 => ?_)
  refine br_step (fun _ => rfl) (fun k12 => ?_)
  refine br_step (fun _ => rfl) (fun k13 => ?_)
  refine br_step (fun _ => rfl) (fun k14 => ?_)
  refine br_step (fun _ => rfl) (fun k15 => ?_)
  refine br_step (fun _ => rfl) (fun k16 => ?_)
  refine br_step (fun _ => rfl) (fun k17 => ?_)
  refine br_step (fun _ => rfl) (fun k18 => ?_)
  refine br_step (fun _ => rfl) (fun k19 => ?_)
  refine br_step (fun _ => rfl) (fun k20 => ?_)
  have ok : sixOk a.2 = true := by
    obtain ⟨a0, b0, c0⟩ := r_span_iff.1 (not_not k7)
    obtain ⟨a1, b1, c1⟩ := r_span_iff.1 (not_not k9)
    obtain ⟨a4, b4, c4⟩ := r_span_iff.1 (not_not k15)
    obtain ⟨a5, b5, c5⟩ := r_span_iff.1 (not_not k17)
    unfold sixOk sixLo sixHi
    rw [w64_in (n := a.2.m0.lo + a.2.m1.lo) (by omega) (by omega), w64_in (n := a.2.m4.lo + a.2.m5.lo) (by omega) (by omega), w64_in (n := a.2.m0.hi + a.2.m1.hi) (by omega) (by omega), w64_in (n := a.2.m4.hi + a.2.m5.hi) (by omega) (by omega), w64_in (n := a.2.m0.lo + a.2.m1.lo + (a.2.m4.lo + a.2.m5.lo)) (by omega) (by omega), w64_in (n := a.2.m0.hi + a.2.m1.hi + (a.2.m4.hi + a.2.m5.hi)) (by omega) (by omega)]
    rw [Bool.and_eq_true, decide_eq_true_eq, decide_eq_true_eq]; omega
  refine chk_step ok ?_
  exact br_step (fun _ => rfl) (fun _ => rfl)
noncomputable def BKN61 : Tab := BKN52.addCall 168 (callE D_rdens (dI .i64) (fun a => .ret (r_check a.1 a.2)))
theorem tKN61 : TabOk P BKN61 := TabOk.addFn (d := 30) okP tKN52 (fun a r h => by rw [r_check_eq]; exact congrArg some (ret_some h))
end Go.Proofs.YtjbhooodjmjdkaaGreat
/-! KN7 -/
namespace Go.Proofs.YtjbhooodjmjdkaaGreat
open Ev K
set_option maxRecDepth 100000
theorem K.lim_gcd {σ : Type} {st : σ → Option (σ ⊕ σ)} (S : Int → Int → σ) (h0 : ∀ m : Nat, st (S m 0) = some (.inr (S m 0))) (h1 : ∀ m n : Nat, 0 < n → st (S m n) = some (.inl (S n ((m % n : Nat) : Int)))) :
    ∀ k n m : Nat, n < k → lim st (S m n) = some (S (Nat.gcd m n : Nat) 0) := by
  intro k
  induction k with
  | zero => intro n m h; omega
  | succ k ih =>
    intro n m h
    rcases Nat.eq_zero_or_pos n with e | e
    · subst e; rw [Nat.gcd_zero_right]; exact lim_done (h0 m)
    · rw [lim_step (h1 m n e), ih (m % n) n (Nat.lt_of_lt_of_le (Nat.mod_lt m e) (by omega)), Nat.gcd_comm m n, Nat.gcd_rec n m, Nat.gcd_comm]
def D_rdiv := DecL.cons (dI .i64) (.last (dI .i64) 0)
def S_rdiv := DecS.mk1 (.cons (dI .i64) (.last (dI .i64) 14))
def X_rdiv := DecX.one (.exit 0) [1, 0] S_rdiv
noncomputable def K.st_rdiv := loopT1 P BKN61 30 226 25 [1, 0] S_rdiv X_rdiv
theorem sl_rdiv : ∀ s, (K.st_rdiv) s = T.run (
  .br (decide (Prod.snd s > (0 : Int))) (
    .chk (!decide (Prod.snd s = (0 : Int))) <|
    .ret (Sum.inl (Prod.snd s, Int.tmod (Prod.fst s) (Prod.snd s)))) (
    .ret (Sum.inr s))) := fun s => by kernel_rfl
noncomputable def K.L_rdiv := lim K.st_rdiv
noncomputable def BKN71 : Tab := BKN61.addNode 226 25 (nodeE [1, 0] S_rdiv X_rdiv (fun s => .obs (K.L_rdiv s) .ret))
theorem tKN71 : TabOk P BKN71 := TabOk.addLoop (d := 30) okP tKN61 (by kernel_rfl) (by kernel_rfl) (fun s r h => obs_ret h)
theorem fn_rdiv : ∀ a, (callT1 P BKN71 30 226 D_rdiv (dI .i64)) a = T.run (
  .br (decide (Prod.fst a < (0 : Int))) (
    .obs (L_rdiv (IntKind.wrap IntKind.i64 ((0 : Int) - Prod.fst a), Prod.snd a)) fun x0 =>
      .ret (Prod.fst x0)) (
    .obs (L_rdiv a) fun x0 =>
      .ret (Prod.fst x0))) := fun a => by kernel_rfl
theorem K.L_rdiv_eq (m n : Nat) : K.L_rdiv ((m : Int), (n : Int)) = some (((Nat.gcd m n : Nat) : Int), 0) := by
  refine lim_gcd (fun a b => (a, b)) (fun m => ?_) (fun m n h => ?_) (n + 1) n m (by omega)
  · rw [sl_rdiv]; rfl
  · rw [sl_rdiv]
    simp only [T.run_br, T.run_chk, T.run_ret]
    rw [if_pos (by simp; omega), if_pos (by simp; omega)]; rfl
def K.divOk (a b : Int) : Bool := decide (-9223372036854775808 < a) && (decide (a ≤ 9223372036854775807) && decide (0 ≤ b))
def K.gcdI (a b : Int) : Int := (Nat.gcd a.natAbs b.natAbs : Nat)
theorem K.r_div_eq (a : Int × Int) (h : divOk a.1 a.2 = true) : callT1 P BKN71 30 226 D_rdiv (dI .i64) a = some (gcdI a.1 a.2) := by
  unfold divOk at h
  simp only [Bool.and_eq_true, decide_eq_true_eq] at h
  obtain ⟨h1, h2, h3⟩ := h
  rw [fn_rdiv]; unfold gcdI
  have e2 : a.2 = (a.2.natAbs : Int) := by omega
  by_cases hn : a.1 < 0
  · have e1 : IntKind.wrap IntKind.i64 (0 - a.1) = (a.1.natAbs : Int) := by rw [w64_in (by omega) (by omega)]; omega
    have key := L_rdiv_eq a.1.natAbs a.2.natAbs
    rw [← e1, ← e2] at key
    simp only [T.run_br, decide_eq_true_eq]
    rw [if_pos hn]
    simp only [T.run, key]
  · have e1 : a.1 = (a.1.natAbs : Int) := by omega
    have key := L_rdiv_eq a.1.natAbs a.2.natAbs
    rw [← e1, ← e2] at key
    simp only [T.run_br, decide_eq_true_eq]
    rw [if_neg hn]
    show T.run (.obs (L_rdiv (a.1, a.2)) _) = _
    simp only [T.run, key]
noncomputable def BKN72 : Tab := BKN71.addCall 226 (callE D_rdiv (dI .i64) (fun a => .chk (divOk a.1 a.2) (.ret (gcdI a.1 a.2))))
theorem tKN72 : TabOk P BKN72 := TabOk.addFn (d := 30) okP tKN71 (fun a r h => by obtain ⟨g, e⟩ := chk_ret h; subst e; exact K.r_div_eq a g)
def D_rfull := DecL.last (dShip) 0
def S_rful := DecS.mk0 (.skip (.unit (dLp 0 0 0 0) (.skip (.cons (dI .i64) (.last (dI .i64) 18))))) (.flat 27 lShip .nil)
def X_rful := DecX.one (.exit 0) [4, 1, 3] S_rful
noncomputable def K.st_rful := loopT1 P BKN72 30 197 25 [4, 1, 3] S_rful X_rful
theorem sl_rful : ∀ s, (K.st_rful) s = T.run (
  .br (decide (Prod.snd (Prod.fst s) < (↑(len (Ship.holds (Prod.fst (Prod.snd s)))) : Int))) (
    .chk (decide ((0 : Int) ≤ Prod.snd (Prod.fst s) ∧ Prod.snd (Prod.fst s) < (↑(XS.len (Ship.holds (Prod.fst (Prod.snd s)))) : Int))) <|
    .ret (Sum.inl ((IntKind.wrap IntKind.i64 (Prod.fst (Prod.fst s) + XS.g (Ship.holds (Prod.fst (Prod.snd s))) (Int.toNat (Prod.snd (Prod.fst s))) (1 : Nat)), IntKind.wrap IntKind.i64 (Prod.snd (Prod.fst s) + (1 : Int))), Prod.fst (Prod.snd s), PUnit.unit))) (
    .ret (Sum.inr (Prod.fst s, Prod.fst (Prod.snd s), PUnit.unit)))) := fun s => by kernel_rfl
noncomputable def K.L_rful := lim K.st_rful
def K.r_full (s : Ship) : Int := (List.range (len s.holds)).foldl (fun n i => IntKind.i64.wrap (n + (hld s.holds i).room)) s.light
theorem K.L_rful_eq (s : Ship) (n : Int) : K.L_rful ((n, 0), s, ()) = some (((List.range (len s.holds)).foldl (fun n i => IntKind.i64.wrap (n + (hld s.holds i).room)) n, (len s.holds : Int)), s, ()) := by
  have e1 := K.len_le s.holds; have e2 := K.len_le' s.holds
  refine lim_fold (fun i n => ((n, (i : Int)), s, ())) (len s.holds) (fun n i => IntKind.i64.wrap (n + (hld s.holds i).room)) (fun n => ((n, (len s.holds : Int)), s, ())) (fun i hi a => ?_) (fun a => ?_) n
  · rw [sl_rful]
    have c1 : (0 : Int) ≤ i ∧ (i : Int) < s.holds.len := by omega
    simp only [T.run_br, T.run_chk, T.run_ret, decide_eq_true_eq, Int.toNat_natCast, if_pos c1]
    rw [if_pos (by omega), w64_in (n := (i : Int) + 1) (by omega) (by omega)]
    rfl
  · rw [sl_rful]
    simp only [T.run_br, T.run_chk, T.run_ret, decide_eq_true_eq]
    rw [if_neg (by omega)]
noncomputable def BKN73 : Tab := BKN72.addNode 197 25 (nodeE [4, 1, 3] S_rful X_rful (fun s => .obs (K.L_rful s) .ret))
theorem tKN73 : TabOk P BKN73 := TabOk.addLoop (d := 30) okP tKN72 (by kernel_rfl) (by kernel_rfl) (fun s r h => obs_ret h)
theorem fn_rful : ∀ a, (callT1 P BKN73 30 197 D_rfull (dI .i64)) a = T.run (
  .obs (L_rful ((Ship.light a, (0 : Int)), a, PUnit.unit)) fun x0 =>
    .ret (Prod.fst (Prod.fst x0))) := fun a => by kernel_rfl
theorem K.r_full_eq (s : Ship) : callT1 P BKN73 30 197 D_rfull (dI .i64) s = some (r_full s) := by
  rw [fn_rful]
  show T.run (.obs (L_rful ((s.light, 0), s, ())) _) = _
  rw [L_rful_eq]; rfl
noncomputable def BKN74 : Tab := BKN73.addCall 197 (callE D_rfull (dI .i64) (fun a => .ret (r_full a)))
theorem tKN74 : TabOk P BKN74 := TabOk.addFn (d := 30) okP tKN73 (fun a r h => by rw [r_full_eq]; exact congrArg some (ret_some h))
end Go.Proofs.YtjbhooodjmjdkaaGreat
/-! KN8 -/
namespace Go.Proofs.YtjbhooodjmjdkaaGreat
open Ev K
set_option maxRecDepth 100000
def D_low := DecL.last (dRatio) 0
def S_low := DecS.mk0 (.skip (.unit (dLp 0 0 0 0) (.unit (dLp 1 0 0 0) (.cons (dI .i64) (.last (dI .i64) 23))))) (.flat 161 (.cons (dI .i64) (.last (dI .i64) 0)) (.flat 59 (.cons (dI .i64) (.last (dI .i64) 0)) .nil))
def X_low := DecX.one (.exit 0) [4, 3, 2, 1] S_low
noncomputable def K.st_low := loopT1 P BKN74 30 98 17 [4, 3, 2, 1] S_low X_low
theorem sl_low : ∀ s, (K.st_low) s = T.run (
  .br (Prod.snd (Prod.fst s) != (0 : Int)) (
    .chk (!decide (Prod.snd (Prod.fst s) = (0 : Int))) <|
    .ret (Sum.inl ((Prod.snd (Prod.fst s), Int.tmod (Prod.fst (Prod.fst s)) (Prod.snd (Prod.fst s))), Prod.fst (Prod.snd s), Prod.fst (Prod.snd (Prod.snd s)), PUnit.unit))) (
    .ret (Sum.inr (Prod.fst s, Prod.fst (Prod.snd s), Prod.fst (Prod.snd (Prod.snd s)), PUnit.unit)))) := fun s => by kernel_rfl
noncomputable def K.L_low := lim K.st_low
theorem K.L_low_eq (m n : Nat) (r) : K.L_low (((m : Int), (n : Int)), r) = some ((((Nat.gcd m n : Nat) : Int), 0), r) := by
  refine lim_gcd (fun a b => ((a, b), r)) (fun m => ?_) (fun m n h => ?_) (n + 1) n m (by omega)
  · rw [sl_low]; rfl
  · rw [sl_low]
    simp only [T.run_br, T.run_chk, T.run_ret]
    rw [if_pos (by simp; omega), if_pos (by simp; omega)]; rfl
noncomputable def BKN81 : Tab := BKN74.addNode 98 17 (nodeE [4, 3, 2, 1] S_low X_low (fun s => .obs (K.L_low s) .ret))
theorem tKN81 : TabOk P BKN81 := TabOk.addLoop (d := 30) okP tKN74 (by kernel_rfl) (by kernel_rfl) (fun s r h => obs_ret h)
theorem fn_low : ∀ a, (callT1 P BKN81 30 98 D_low dFrac) a = T.run (
  .obs (L_low ((if IntKind.wrap IntKind.i64 ((0 : Int) - Frac.num a) > Frac.num a then IntKind.wrap IntKind.i64 ((0 : Int) - Frac.num a) else Frac.num a, Frac.den a), (Frac.num a, Frac.den a), ((0 : Int), (0 : Int)), PUnit.unit)) fun x0 =>
    .chk (!decide (Prod.fst (Prod.fst x0) = (0 : Int))) <|
    .chk (!decide (Prod.fst (Prod.fst x0) = (0 : Int))) <|
    .ret (Frac.mk (IntKind.wrap IntKind.i64 (Int.tdiv (Prod.fst (Prod.fst (Prod.snd x0))) (Prod.fst (Prod.fst x0)))) (IntKind.wrap IntKind.i64 (Int.tdiv (Prod.snd (Prod.fst (Prod.snd x0))) (Prod.fst (Prod.fst x0)))))) := fun a => by kernel_rfl
def K.r_low (f : Frac) : Frac := ⟨IntKind.i64.wrap (Int.tdiv f.num (gcdI f.num f.den)), IntKind.i64.wrap (Int.tdiv f.den (gcdI f.num f.den))⟩
def K.lowOk (f : Frac) : Bool := divOk f.num f.den && !decide (gcdI f.num f.den = 0)
theorem K.r_low_eq (f : Frac) (h : lowOk f = true) : callT1 P BKN81 30 98 D_low dFrac f = some (r_low f) := by
  unfold lowOk divOk at h
  simp only [Bool.and_eq_true, decide_eq_true_eq] at h
  obtain ⟨⟨h1, h2, h3⟩, h4⟩ := h
  rw [fn_low]
  have e2 : f.den = (f.den.natAbs : Int) := by omega
  have e1 : (if IntKind.wrap IntKind.i64 (0 - f.num) > f.num then IntKind.wrap IntKind.i64 (0 - f.num) else f.num) = (f.num.natAbs : Int) := by
    rw [w64_in (n := 0 - f.num) (by omega) (by omega)]; split <;> omega
  have key := L_low_eq f.num.natAbs f.den.natAbs ((f.num, f.den), (0, 0), ())
  rw [← e2] at key
  rw [e1]
  simp only [T.run, key]
  show T.run (.chk (!decide (gcdI f.num f.den = 0)) (.chk (!decide (gcdI f.num f.den = 0)) (.ret (r_low f)))) = _
  exact chk_step h4 (chk_step h4 rfl)
noncomputable def BKN82 : Tab := BKN81.addCall 98 (callE D_low dFrac (fun f => .chk (lowOk f) (.ret (r_low f))))
theorem tKN82 : TabOk P BKN82 := TabOk.addFn (d := 30) okP tKN81 (fun a r h => by obtain ⟨g, e⟩ := chk_ret h; subst e; exact K.r_low_eq a g)
def S_rwh := DecS.mk0 (.skip (.cons (dI .i64) (.unit (dLp 0 0 0 0) (.skip (.unit (dLp 1 0 0 0) (.last (dI .i64) 67)))))) (.flat 25 lCurve (.flat 59 (.cons (dI .i64) (.last (dI .i64) 0)) .nil))
def X_rwh := DecX.one (.exit 0) [5, 4, 1, 2] S_rwh
noncomputable def K.st_rwh := loopT1 P BKN82 30 217 17 [5, 4, 1, 2] S_rwh X_rwh
theorem sl_rwh : ∀ s, (K.st_rwh) s = T.run (
  .chk (decide ((0 : Int) ≤ Prod.snd (Prod.fst s) ∧ Prod.snd (Prod.fst s) < (↑(XS.len (Curve.knots (Prod.fst (Prod.snd s)))) : Int))) <|
  .br (decide (IntKind.wrap IntKind.i64 ((16 : Int) * XS.g (Curve.knots (Prod.fst (Prod.snd s))) (Int.toNat (Prod.snd (Prod.fst s))) (1 : Nat)) < Prod.fst (Prod.fst s))) (
    .ret (Sum.inl ((Prod.fst (Prod.fst s), IntKind.wrap IntKind.i64 (Prod.snd (Prod.fst s) + (1 : Int))), Prod.fst (Prod.snd s), Prod.fst (Prod.snd (Prod.snd s)), PUnit.unit))) (
    .ret (Sum.inr (Prod.fst s, Prod.fst (Prod.snd s), Prod.fst (Prod.snd (Prod.snd s)), PUnit.unit)))) := fun s => by kernel_rfl
noncomputable def K.L_rwh := lim K.st_rwh
noncomputable def BKN83 : Tab := BKN82.addNode 217 17 (nodeE [5, 4, 1, 2] S_rwh X_rwh (fun s => .obs (K.L_rwh s) .ret))
theorem tKN83 : TabOk P BKN83 := TabOk.addLoop (d := 30) okP tKN82 (by kernel_rfl) (by kernel_rfl) (fun s r h => obs_ret h)
def D_rwh := DecL.cons (dCurve) (.last (dI .i64) 0)
theorem fn_rwh : ∀ a, (callT1 P BKN83 30 217 D_rwh dFrac) a = T.run (
  .obs (L_rwh ((Prod.snd a, (0 : Int)), Prod.fst a, ((0 : Int), (0 : Int)), PUnit.unit)) fun x0 =>
    .chk (decide ((0 : Int) ≤ Prod.snd (Prod.fst x0) ∧ Prod.snd (Prod.fst x0) < (↑(XS.len (Curve.knots (Prod.fst (Prod.snd x0)))) : Int))) <|
    .br (IntKind.wrap IntKind.i64 ((16 : Int) * XS.g (Curve.knots (Prod.fst (Prod.snd x0))) (Int.toNat (Prod.snd (Prod.fst x0))) (1 : Nat)) == Prod.fst (Prod.fst x0)) (
      .ret (Frac.mk (XS.g (Curve.knots (Prod.fst (Prod.snd x0))) (Int.toNat (Prod.snd (Prod.fst x0))) (0 : Nat)) (1 : Int))) (
      .chk (decide ((0 : Int) ≤ IntKind.wrap IntKind.i64 (Prod.snd (Prod.fst x0) - (1 : Int)) ∧ IntKind.wrap IntKind.i64 (Prod.snd (Prod.fst x0) - (1 : Int)) < (↑(XS.len (Curve.knots (Prod.fst (Prod.snd x0)))) : Int))) <|
      .chk (divOk (IntKind.wrap IntKind.i64 (IntKind.wrap IntKind.i64 (XS.g (Curve.knots (Prod.fst (Prod.snd x0))) (Int.toNat (IntKind.wrap IntKind.i64 (Prod.snd (Prod.fst x0) - (1 : Int)))) (0 : Nat) * IntKind.wrap IntKind.i64 ((16 : Int) * IntKind.wrap IntKind.i64 (XS.g (Curve.knots (Prod.fst (Prod.snd x0))) (Int.toNat (Prod.snd (Prod.fst x0))) (1 : Nat) - XS.g (Curve.knots (Prod.fst (Prod.snd x0))) (Int.toNat (IntKind.wrap IntKind.i64 (Prod.snd (Prod.fst x0) - (1 : Int)))) (1 : Nat)))) + IntKind.wrap IntKind.i64 (IntKind.wrap IntKind.i64 (Prod.fst (Prod.fst x0) - IntKind.wrap IntKind.i64 ((16 : Int) * XS.g (Curve.knots (Prod.fst (Prod.snd x0))) (Int.toNat (IntKind.wrap IntKind.i64 (Prod.snd (Prod.fst x0) - (1 : Int)))) (1 : Nat))) * IntKind.wrap IntKind.i64 (XS.g (Curve.knots (Prod.fst (Prod.snd x0))) (Int.toNat (Prod.snd (Prod.fst x0))) (0 : Nat) - XS.g (Curve.knots (Prod.fst (Prod.snd x0))) (Int.toNat (IntKind.wrap IntKind.i64 (Prod.snd (Prod.fst x0) - (1 : Int)))) (0 : Nat))))) (IntKind.wrap IntKind.i64 ((16 : Int) * IntKind.wrap IntKind.i64 (XS.g (Curve.knots (Prod.fst (Prod.snd x0))) (Int.toNat (Prod.snd (Prod.fst x0))) (1 : Nat) - XS.g (Curve.knots (Prod.fst (Prod.snd x0))) (Int.toNat (IntKind.wrap IntKind.i64 (Prod.snd (Prod.fst x0) - (1 : Int)))) (1 : Nat))))) <|
      .chk (!decide (gcdI (IntKind.wrap IntKind.i64 (IntKind.wrap IntKind.i64 (XS.g (Curve.knots (Prod.fst (Prod.snd x0))) (Int.toNat (IntKind.wrap IntKind.i64 (Prod.snd (Prod.fst x0) - (1 : Int)))) (0 : Nat) * IntKind.wrap IntKind.i64 ((16 : Int) * IntKind.wrap IntKind.i64 (XS.g (Curve.knots (Prod.fst (Prod.snd x0))) (Int.toNat (Prod.snd (Prod.fst x0))) (1 : Nat) - XS.g (Curve.knots (Prod.fst (Prod.snd x0))) (Int.toNat (IntKind.wrap IntKind.i64 (Prod.snd (Prod.fst x0) - (1 : Int)))) (1 : Nat)))) + IntKind.wrap IntKind.i64 (IntKind.wrap IntKind.i64 (Prod.fst (Prod.fst x0) - IntKind.wrap IntKind.i64 ((16 : Int) * XS.g (Curve.knots (Prod.fst (Prod.snd x0))) (Int.toNat (IntKind.wrap IntKind.i64 (Prod.snd (Prod.fst x0) - (1 : Int)))) (1 : Nat))) * IntKind.wrap IntKind.i64 (XS.g (Curve.knots (Prod.fst (Prod.snd x0))) (Int.toNat (Prod.snd (Prod.fst x0))) (0 : Nat) - XS.g (Curve.knots (Prod.fst (Prod.snd x0))) (Int.toNat (IntKind.wrap IntKind.i64 (Prod.snd (Prod.fst x0) - (1 : Int)))) (0 : Nat))))) (IntKind.wrap IntKind.i64 ((16 : Int) * IntKind.wrap IntKind.i64 (XS.g (Curve.knots (Prod.fst (Prod.snd x0))) (Int.toNat (Prod.snd (Prod.fst x0))) (1 : Nat) - XS.g (Curve.knots (Prod.fst (Prod.snd x0))) (Int.toNat (IntKind.wrap IntKind.i64 (Prod.snd (Prod.fst x0) - (1 : Int)))) (1 : Nat)))) = (0 : Int))) <|
      .chk (!decide (gcdI (IntKind.wrap IntKind.i64 (IntKind.wrap IntKind.i64 (XS.g (Curve.knots (Prod.fst (Prod.snd x0))) (Int.toNat (IntKind.wrap IntKind.i64 (Prod.snd (Prod.fst x0) - (1 : Int)))) (0 : Nat) * IntKind.wrap IntKind.i64 ((16 : Int) * IntKind.wrap IntKind.i64 (XS.g (Curve.knots (Prod.fst (Prod.snd x0))) (Int.toNat (Prod.snd (Prod.fst x0))) (1 : Nat) - XS.g (Curve.knots (Prod.fst (Prod.snd x0))) (Int.toNat (IntKind.wrap IntKind.i64 (Prod.snd (Prod.fst x0) - (1 : Int)))) (1 : Nat)))) + IntKind.wrap IntKind.i64 (IntKind.wrap IntKind.i64 (Prod.fst (Prod.fst x0) - IntKind.wrap IntKind.i64 ((16 : Int) * XS.g (Curve.knots (Prod.fst (Prod.snd x0))) (Int.toNat (IntKind.wrap IntKind.i64 (Prod.snd (Prod.fst x0) - (1 : Int)))) (1 : Nat))) * IntKind.wrap IntKind.i64 (XS.g (Curve.knots (Prod.fst (Prod.snd x0))) (Int.toNat (Prod.snd (Prod.fst x0))) (0 : Nat) - XS.g (Curve.knots (Prod.fst (Prod.snd x0))) (Int.toNat (IntKind.wrap IntKind.i64 (Prod.snd (Prod.fst x0) - (1 : Int)))) (0 : Nat))))) (IntKind.wrap IntKind.i64 ((16 : Int) * IntKind.wrap IntKind.i64 (XS.g (Curve.knots (Prod.fst (Prod.snd x0))) (Int.toNat (Prod.snd (Prod.fst x0))) (1 : Nat) - XS.g (Curve.knots (Prod.fst (Prod.snd x0))) (Int.toNat (IntKind.wrap IntKind.i64 (Prod.snd (Prod.fst x0) - (1 : Int)))) (1 : Nat)))) = (0 : Int))) <|
      .ret (Frac.mk (IntKind.wrap IntKind.i64 (Int.tdiv (IntKind.wrap IntKind.i64 (IntKind.wrap IntKind.i64 (XS.g (Curve.knots (Prod.fst (Prod.snd x0))) (Int.toNat (IntKind.wrap IntKind.i64 (Prod.snd (Prod.fst x0) - (1 : Int)))) (0 : Nat) * IntKind.wrap IntKind.i64 ((16 : Int) * IntKind.wrap IntKind.i64 (XS.g (Curve.knots (Prod.fst (Prod.snd x0))) (Int.toNat (Prod.snd (Prod.fst x0))) (1 : Nat) - XS.g (Curve.knots (Prod.fst (Prod.snd x0))) (Int.toNat (IntKind.wrap IntKind.i64 (Prod.snd (Prod.fst x0) - (1 : Int)))) (1 : Nat)))) + IntKind.wrap IntKind.i64 (IntKind.wrap IntKind.i64 (Prod.fst (Prod.fst x0) - IntKind.wrap IntKind.i64 ((16 : Int) * XS.g (Curve.knots (Prod.fst (Prod.snd x0))) (Int.toNat (IntKind.wrap IntKind.i64 (Prod.snd (Prod.fst x0) - (1 : Int)))) (1 : Nat))) * IntKind.wrap IntKind.i64 (XS.g (Curve.knots (Prod.fst (Prod.snd x0))) (Int.toNat (Prod.snd (Prod.fst x0))) (0 : Nat) - XS.g (Curve.knots (Prod.fst (Prod.snd x0))) (Int.toNat (IntKind.wrap IntKind.i64 (Prod.snd (Prod.fst x0) - (1 : Int)))) (0 : Nat))))) (gcdI (IntKind.wrap IntKind.i64 (IntKind.wrap IntKind.i64 (XS.g (Curve.knots (Prod.fst (Prod.snd x0))) (Int.toNat (IntKind.wrap IntKind.i64 (Prod.snd (Prod.fst x0) - (1 : Int)))) (0 : Nat) * IntKind.wrap IntKind.i64 ((16 : Int) * IntKind.wrap IntKind.i64 (XS.g (Curve.knots (Prod.fst (Prod.snd x0))) (Int.toNat (Prod.snd (Prod.fst x0))) (1 : Nat) - XS.g (Curve.knots (Prod.fst (Prod.snd x0))) (Int.toNat (IntKind.wrap IntKind.i64 (Prod.snd (Prod.fst x0) - (1 : Int)))) (1 : Nat)))) + IntKind.wrap IntKind.i64 (IntKind.wrap IntKind.i64 (Prod.fst (Prod.fst x0) - IntKind.wrap IntKind.i64 ((16 : Int) * XS.g (Curve.knots (Prod.fst (Prod.snd x0))) (Int.toNat (IntKind.wrap IntKind.i64 (Prod.snd (Prod.fst x0) - (1 : Int)))) (1 : Nat))) * IntKind.wrap IntKind.i64 (XS.g (Curve.knots (Prod.fst (Prod.snd x0))) (Int.toNat (Prod.snd (Prod.fst x0))) (0 : Nat) - XS.g (Curve.knots (Prod.fst (Prod.snd x0))) (Int.toNat (IntKind.wrap IntKind.i64 (Prod.snd (Prod.fst x0) - (1 : Int)))) (0 : Nat))))) (IntKind.wrap IntKind.i64 ((16 : Int) * IntKind.wrap IntKind.i64 (XS.g (Curve.knots (Prod.fst (Prod.snd x0))) (Int.toNat (Prod.snd (Prod.fst x0))) (1 : Nat) - XS.g (Curve.knots (Prod.fst (Prod.snd x0))) (Int.toNat (IntKind.wrap IntKind.i64 (Prod.snd (Prod.fst x0) - (1 : Int)))) (1 : Nat))))))) (IntKind.wrap IntKind.i64 (Int.tdiv (IntKind.wrap IntKind.i64 ((16 : Int) * IntKind.wrap IntKind.i64 (XS.g (Curve.knots (Prod.fst (Prod.snd x0))) (Int.toNat (Prod.snd (Prod.fst x0))) (1 : Nat) - XS.g (Curve.knots (Prod.fst (Prod.snd x0))) (Int.toNat (IntKind.wrap IntKind.i64 (Prod.snd (Prod.fst x0) - (1 : Int)))) (1 : Nat)))) (gcdI (IntKind.wrap IntKind.i64 (IntKind.wrap IntKind.i64 (XS.g (Curve.knots (Prod.fst (Prod.snd x0))) (Int.toNat (IntKind.wrap IntKind.i64 (Prod.snd (Prod.fst x0) - (1 : Int)))) (0 : Nat) * IntKind.wrap IntKind.i64 ((16 : Int) * IntKind.wrap IntKind.i64 (XS.g (Curve.knots (Prod.fst (Prod.snd x0))) (Int.toNat (Prod.snd (Prod.fst x0))) (1 : Nat) - XS.g (Curve.knots (Prod.fst (Prod.snd x0))) (Int.toNat (IntKind.wrap IntKind.i64 (Prod.snd (Prod.fst x0) - (1 : Int)))) (1 : Nat)))) + IntKind.wrap IntKind.i64 (IntKind.wrap IntKind.i64 (Prod.fst (Prod.fst x0) - IntKind.wrap IntKind.i64 ((16 : Int) * XS.g (Curve.knots (Prod.fst (Prod.snd x0))) (Int.toNat (IntKind.wrap IntKind.i64 (Prod.snd (Prod.fst x0) - (1 : Int)))) (1 : Nat))) * IntKind.wrap IntKind.i64 (XS.g (Curve.knots (Prod.fst (Prod.snd x0))) (Int.toNat (Prod.snd (Prod.fst x0))) (0 : Nat) - XS.g (Curve.knots (Prod.fst (Prod.snd x0))) (Int.toNat (IntKind.wrap IntKind.i64 (Prod.snd (Prod.fst x0) - (1 : Int)))) (0 : Nat))))) (IntKind.wrap IntKind.i64 ((16 : Int) * IntKind.wrap IntKind.i64 (XS.g (Curve.knots (Prod.fst (Prod.snd x0))) (Int.toNat (Prod.snd (Prod.fst x0))) (1 : Nat) - XS.g (Curve.knots (Prod.fst (Prod.snd x0))) (Int.toNat (IntKind.wrap IntKind.i64 (Prod.snd (Prod.fst x0) - (1 : Int)))) (1 : Nat)))))))))) := fun a => by kernel_rfl
def K.p_rwh (c : Curve) (n : Int) (i : Nat) : Bool := !decide (IntKind.i64.wrap (16 * (knt c.knots i).y) < n)
theorem K.L_rwh_eq (c : Curve) (n : Int) (z) (i : Nat) (h : first (p_rwh c n) (len c.knots) = some i) : K.L_rwh ((n, 0), c, z, ()) = some ((n, (i : Int)), c, z, ()) := by
  have e1 := K.len_le c.knots; have e2 := K.len_le' c.knots
  obtain ⟨h1, h2, h3⟩ := first_spec h
  have key := lim_until (step := K.st_rwh) (fun (i : Nat) => ((n, (i : Int)), c, z, ())) i 0 (fun j _ hj => ?_)
  · show lim K.st_rwh ((n, ((0 : Nat) : Int)), c, z, ()) = _
    rw [key, Nat.zero_add]
    refine lim_done ?_
    rw [sl_rwh]
    unfold p_rwh at h2
    have c1 : (0 : Int) ≤ i ∧ (i : Int) < c.knots.len := by omega
    refine chk_step (by simp only [decide_eq_true_eq]; exact c1) ?_
    rw [T.run_br]
    rw [if_neg (by simp only [Int.toNat_natCast]; intro hc; rw [show (knt c.knots i).y = c.knots.g i 1 from rfl, hc] at h2; cases h2)]
    rfl
  · rw [sl_rwh]
    have h4 := h3 j (by omega)
    unfold p_rwh at h4
    have c1 : (0 : Int) ≤ j ∧ (j : Int) < c.knots.len := by omega
    refine chk_step (by simp only [decide_eq_true_eq]; exact c1) ?_
    rw [T.run_br]
    rw [if_pos (by simp only [Int.toNat_natCast]; exact not_not (by rw [show (knt c.knots j).y = c.knots.g j 1 from rfl] at h4; rw [h4]; decide))]
    rw [T.run_ret, w64_in (n := (j : Int) + 1) (by omega) (by omega)]; rfl
def K.whFrac (c : Curve) (n : Int) (i : Nat) : Frac :=
  ⟨IntKind.i64.wrap (IntKind.i64.wrap ((knt c.knots (i - 1)).x * IntKind.i64.wrap (16 * IntKind.i64.wrap ((knt c.knots i).y - (knt c.knots (i - 1)).y))) +
    IntKind.i64.wrap (IntKind.i64.wrap (n - IntKind.i64.wrap (16 * (knt c.knots (i - 1)).y)) * IntKind.i64.wrap ((knt c.knots i).x - (knt c.knots (i - 1)).x))), IntKind.i64.wrap (16 * IntKind.i64.wrap ((knt c.knots i).y - (knt c.knots (i - 1)).y))⟩
def K.whOk (c : Curve) (n : Int) : Bool := match first (p_rwh c n) (len c.knots) with
  | some i => IntKind.i64.wrap (16 * (knt c.knots i).y) == n || (decide (0 < i) && lowOk (whFrac c n i))
  | none => false
def K.r_where (c : Curve) (n : Int) : Frac := match first (p_rwh c n) (len c.knots) with
  | some i => if (IntKind.i64.wrap (16 * (knt c.knots i).y) == n) = true then ⟨(knt c.knots i).x, 1⟩ else r_low (whFrac c n i)
  | none => ⟨0, 0⟩
theorem K.r_where_eq (a : Curve × Int) (h : whOk a.1 a.2 = true) : callT1 P BKN83 30 217 D_rwh dFrac a = some (r_where a.1 a.2) := by
  obtain ⟨c, n⟩ := a
  unfold whOk at h
  unfold r_where
  simp only at h ⊢
  cases hf : first (p_rwh c n) (len c.knots) with
  | none => rw [hf] at h; cases h
  | some i =>
    rw [hf] at h; simp only at h
    have e1 := K.len_le c.knots; have e2 := K.len_le' c.knots
    have hi := (first_spec hf).1
    have c1 : (0 : Int) ≤ i ∧ (i : Int) < c.knots.len := by omega
    rw [fn_rwh]
    show T.run (.obs (L_rwh ((n, 0), c, (0, 0), ())) _) = _
    rw [L_rwh_eq c n (0, 0) i hf, T.run_some]
    refine chk_step (by simp only [decide_eq_true_eq]; exact c1) ?_
    simp only [T.run_br, T.run_chk, T.run_ret, Int.toNat_natCast]
    cases hq : (IntKind.i64.wrap (16 * (knt c.knots i).y) == n) with
    | true =>
      rw [if_pos (show (IntKind.i64.wrap (16 * c.knots.g i 1) == n) = true from hq)]; rfl
    | false =>
      rw [if_neg (show ¬ (IntKind.i64.wrap (16 * c.knots.g i 1) == n) = true by rw [show (IntKind.i64.wrap (16 * c.knots.g i 1) == n) = false from hq]; decide)]
      rw [hq, Bool.false_or, Bool.and_eq_true, decide_eq_true_eq] at h
      obtain ⟨h0, hl⟩ := h
      unfold lowOk at hl
      rw [Bool.and_eq_true] at hl
      have e3 : IntKind.wrap IntKind.i64 ((i : Int) - 1) = ((i - 1 : Nat) : Int) := by rw [w64_in (by omega) (by omega)]; omega
      simp only [e3, Int.toNat_natCast]
      rw [if_pos (by simp only [decide_eq_true_eq]; omega)]
      refine Eq.trans (if_pos (show divOk (whFrac c n i).num (whFrac c n i).den = true from hl.1)) ?_
      refine Eq.trans (if_pos (show (!decide (gcdI (whFrac c n i).num (whFrac c n i).den = 0)) = true from hl.2)) ?_
      exact if_pos (show (!decide (gcdI (whFrac c n i).num (whFrac c n i).den = 0)) = true from hl.2)
noncomputable def BKN84 : Tab := BKN83.addCall 217 (callE D_rwh dFrac (fun a => .chk (whOk a.1 a.2) (.ret (r_where a.1 a.2))))
theorem tKN84 : TabOk P BKN84 := TabOk.addFn (d := 30) okP tKN83 (fun a r h => by obtain ⟨g, e⟩ := chk_ret h; subst e; exact K.r_where_eq a g)
end Go.Proofs.YtjbhooodjmjdkaaGreat
/-! KN9 -/
namespace Go.Proofs.YtjbhooodjmjdkaaGreat
open Ev K
set_option maxRecDepth 100000
def S_r1c := DecS.mk0 (.skip (.unit (dLp 0 0 0 0) (.skip (.last (dI .i64) 65)))) (.flat 25 lCurve .nil)
def X_r1c := DecX.or (DecX.one .ret [2] (DecS.mk1 (.skips 2 (.last (dI .i64) 66)))) (DecX.one (.exit 0) [] (DecS.mk1 (.tops 69)))
noncomputable def K.st_r1c := loopT1 P BKN84 30 154 49 [3, 1] S_r1c X_r1c
theorem sl_r1c : ∀ s, (K.st_r1c) s = T.run (
  .br (decide (Prod.fst s < (↑(len (Curve.knots (Prod.fst (Prod.snd s)))) : Int))) (
    .chk (decide ((0 : Int) ≤ Prod.fst s ∧ Prod.fst s < (↑(XS.len (Curve.knots (Prod.fst (Prod.snd s)))) : Int))) <|
    .br (decide (XS.g (Curve.knots (Prod.fst (Prod.snd s))) (Int.toNat (Prod.fst s)) (0 : Nat) < (0 : Int))) (
      .ret (Sum.inr (Sum.inl (1 : Int)))) (
      .br (decide (XS.g (Curve.knots (Prod.fst (Prod.snd s))) (Int.toNat (Prod.fst s)) (0 : Nat) > (2000 : Int))) (
        .ret (Sum.inr (Sum.inl (1 : Int)))) (
        .br (decide (XS.g (Curve.knots (Prod.fst (Prod.snd s))) (Int.toNat (Prod.fst s)) (1 : Nat) < (-65536 : Int))) (
          .ret (Sum.inr (Sum.inl (1 : Int)))) (
          .br (decide (XS.g (Curve.knots (Prod.fst (Prod.snd s))) (Int.toNat (Prod.fst s)) (1 : Nat) > (65536 : Int))) (
            .ret (Sum.inr (Sum.inl (1 : Int)))) (
            .br (decide (Prod.fst s > (0 : Int))) (
              .chk (decide ((0 : Int) ≤ IntKind.wrap IntKind.i64 (Prod.fst s - (1 : Int)) ∧ IntKind.wrap IntKind.i64 (Prod.fst s - (1 : Int)) < (↑(XS.len (Curve.knots (Prod.fst (Prod.snd s)))) : Int))) <|
              .br (decide (XS.g (Curve.knots (Prod.fst (Prod.snd s))) (Int.toNat (Prod.fst s)) (0 : Nat) ≤ XS.g (Curve.knots (Prod.fst (Prod.snd s))) (Int.toNat (IntKind.wrap IntKind.i64 (Prod.fst s - (1 : Int)))) (0 : Nat))) (
                .ret (Sum.inr (Sum.inl (1 : Int)))) (
                .ret (Sum.inl (IntKind.wrap IntKind.i64 (Prod.fst s + (1 : Int)), Prod.fst (Prod.snd s), PUnit.unit)))) (
              .ret (Sum.inl (IntKind.wrap IntKind.i64 (Prod.fst s + (1 : Int)), Prod.fst (Prod.snd s), PUnit.unit)))))))) (
    .ret (Sum.inr (Sum.inr PUnit.unit)))) := fun s => by kernel_rfl
noncomputable def K.L_r1c := lim K.st_r1c
noncomputable def BKN91 : Tab := BKN84.addNode 154 49 (nodeE [3, 1] S_r1c X_r1c (fun s => .obs (K.L_r1c s) .ret))
theorem tKN91 : TabOk P BKN91 := TabOk.addLoop (d := 30) okP tKN84 (by kernel_rfl) (by kernel_rfl) (fun s r h => obs_ret h)
theorem fn_r1c : ∀ a, (callT1 P BKN91 30 154 D_crv (dI .i64)) a = T.run (
  .br (decide ((↑(len (Curve.knots a)) : Int) > (40 : Int))) (
    .ret ((2 : Int))) (
    .br ((↑(len (Curve.knots a)) : Int) == (0 : Int)) (
      .ret ((1 : Int))) (
      .br (decide (Curve.err a < (0 : Int))) (
        .ret ((1 : Int))) (
        .br (decide (Curve.err a > (4000 : Int))) (
          .ret ((1 : Int))) (
          .obs (L_r1c ((0 : Int), a, PUnit.unit)) fun x0 =>
            .sum (x0) (fun x1 =>
              .ret (x1)) (fun x1 =>
              .ret ((0 : Int)))))))) := fun a => by kernel_rfl
def K.e_r1c (c : Curve) (i : Nat) : Option Int := if (knt c.knots i).x < 0 then some 1 else if (knt c.knots i).x > 2000 then some 1 else if (knt c.knots i).y < -65536 then some 1 else if (knt c.knots i).y > 65536 then some 1 else
  if 0 < i ∧ (knt c.knots i).x ≤ (knt c.knots (i - 1)).x then some 1 else none
theorem K.L_r1c_eq (c : Curve) : K.L_r1c (0, c, ()) = some (K.orr Sum.inl (.inr ()) ((List.range (len c.knots)).findSome? (e_r1c c))) := by
  have e1 := K.len_le c.knots; have e2 := K.len_le' c.knots
  refine lim_err (fun i => ((i : Int), c, ())) (len c.knots) (e_r1c c) Sum.inl (Sum.inr ()) (fun i hi => ?_) ?_
  · rw [sl_r1c]
    have c1 : (0 : Int) ≤ i ∧ (i : Int) < c.knots.len := by omega
    simp only [T.run_br, T.run_chk, T.run_ret, decide_eq_true_eq, Int.toNat_natCast, if_pos c1]
    rw [if_pos (by omega), w64_in (n := (i : Int) + 1) (by omega) (by omega)]
    unfold e_r1c; simp only [orr_ite, orr_none]
    show (if (knt c.knots i).x < 0 then _ else if (knt c.knots i).x > 2000 then _ else if (knt c.knots i).y < -65536 then _ else if (knt c.knots i).y > 65536 then _ else _) = _
    rcases Nat.eq_zero_or_pos i with h0 | h0
    · subst h0
      rw [if_neg (show ¬ (((0 : Nat) : Int) > 0) by omega), if_neg (show ¬ (0 < 0 ∧ (knt c.knots 0).x ≤ (knt c.knots (0 - 1)).x) by omega)]; rfl
    · have e3 : IntKind.wrap IntKind.i64 ((i : Int) - 1) = ((i - 1 : Nat) : Int) := by rw [w64_in (by omega) (by omega)]; omega
      simp only [e3, Int.toNat_natCast]
      rw [if_pos (show (i : Int) > 0 by omega), if_pos (show (0 : Int) ≤ ((i - 1 : Nat) : Int) ∧ ((i - 1 : Nat) : Int) < (c.knots.len : Int) by omega)]
      simp only [h0, true_and]
      rfl
  · rw [sl_r1c]
    simp only [T.run_br, T.run_chk, T.run_ret, decide_eq_true_eq]
    rw [if_neg (by omega)]
def K.r_curve (c : Curve) : Int := if decide ((len c.knots : Int) > 40) = true then 2 else if ((len c.knots : Int) == 0) = true then 1 else if decide (c.err < 0) = true then 1 else if decide (c.err > 4000) = true then 1 else
  K.orr id 0 ((List.range (len c.knots)).findSome? (e_r1c c))
theorem K.r_curve_eq (c : Curve) : callT1 P BKN91 30 154 D_crv (dI .i64) c = some (r_curve c) := by
  rw [fn_r1c]; unfold r_curve
  refine br_step (fun _ => rfl) (fun _ => ?_)
  refine br_step (fun _ => rfl) (fun _ => ?_)
  refine br_step (fun _ => rfl) (fun _ => ?_)
  refine br_step (fun _ => rfl) (fun _ => ?_)
  rw [L_r1c_eq]
  cases (List.range (len c.knots)).findSome? (e_r1c c) <;> rfl
noncomputable def BKN92 : Tab := BKN91.addCall 154 (callE D_crv (dI .i64) (fun a => .ret (r_curve a)))
theorem tKN92 : TabOk P BKN92 := TabOk.addFn (d := 30) okP tKN91 (fun a r h => by rw [r_curve_eq]; exact congrArg some (ret_some h))
def S_rrm := DecS.mk0 (.skip (.unit (dLp 0 0 0 0) (.skip (.cons (dI .i64) (.last (dI .i64) 16))))) (.flat 27 lShip .nil)
def X_rrm := DecX.one (.exit 0) [4, 1, 3] S_rrm
noncomputable def K.st_rrm := loopT1 P BKN92 30 153 25 [4, 1, 3] S_rrm X_rrm
theorem sl_rrm : ∀ s, (K.st_rrm) s = T.run (
  .br (decide (Prod.snd (Prod.fst s) < (↑(len (Ship.holds (Prod.fst (Prod.snd s)))) : Int))) (
    .chk (decide ((0 : Int) ≤ Prod.snd (Prod.fst s) ∧ Prod.snd (Prod.fst s) < (↑(XS.len (Ship.holds (Prod.fst (Prod.snd s)))) : Int))) <|
    .ret (Sum.inl ((IntKind.wrap IntKind.i64 (Prod.fst (Prod.fst s) + XS.g (Ship.holds (Prod.fst (Prod.snd s))) (Int.toNat (Prod.snd (Prod.fst s))) (1 : Nat)), IntKind.wrap IntKind.i64 (Prod.snd (Prod.fst s) + (1 : Int))), Prod.fst (Prod.snd s), PUnit.unit))) (
    .ret (Sum.inr (Prod.fst s, Prod.fst (Prod.snd s), PUnit.unit)))) := fun s => by kernel_rfl
noncomputable def K.L_rrm := lim K.st_rrm
def K.r_rooms (s : Ship) : Int := (List.range (len s.holds)).foldl (fun n i => IntKind.i64.wrap (n + (hld s.holds i).room)) 0
theorem K.L_rrm_eq (s : Ship) (n : Int) : K.L_rrm ((n, 0), s, ()) = some (((List.range (len s.holds)).foldl (fun n i => IntKind.i64.wrap (n + (hld s.holds i).room)) n, (len s.holds : Int)), s, ()) := by
  have e1 := K.len_le s.holds; have e2 := K.len_le' s.holds
  refine lim_fold (fun i n => ((n, (i : Int)), s, ())) (len s.holds) (fun n i => IntKind.i64.wrap (n + (hld s.holds i).room)) (fun n => ((n, (len s.holds : Int)), s, ())) (fun i hi a => ?_) (fun a => ?_) n
  · rw [sl_rrm]
    have c1 : (0 : Int) ≤ i ∧ (i : Int) < s.holds.len := by omega
    simp only [T.run_br, T.run_chk, T.run_ret, decide_eq_true_eq, Int.toNat_natCast, if_pos c1]
    rw [if_pos (by omega), w64_in (n := (i : Int) + 1) (by omega) (by omega)]
    rfl
  · rw [sl_rrm]
    simp only [T.run_br, T.run_chk, T.run_ret, decide_eq_true_eq]
    rw [if_neg (by omega)]
noncomputable def BKN93 : Tab := BKN92.addNode 153 25 (nodeE [4, 1, 3] S_rrm X_rrm (fun s => .obs (K.L_rrm s) .ret))
theorem tKN93 : TabOk P BKN93 := TabOk.addLoop (d := 30) okP tKN92 (by kernel_rfl) (by kernel_rfl) (fun s r h => obs_ret h)
theorem fn_rrm : ∀ a, (callT1 P BKN93 30 153 D_ship (dI .i64)) a = T.run (
  .obs (L_rrm (((0 : Int), (0 : Int)), a, PUnit.unit)) fun x0 =>
    .ret (Prod.fst (Prod.fst x0))) := fun a => by kernel_rfl
theorem K.r_rooms_eq (s : Ship) : callT1 P BKN93 30 153 D_ship (dI .i64) s = some (r_rooms s) := by
  rw [fn_rrm]
  show T.run (.obs (L_rrm ((0, 0), s, ())) _) = _
  rw [L_rrm_eq]; rfl
noncomputable def BKN94 : Tab := BKN93.addCall 153 (callE D_ship (dI .i64) (fun a => .ret (r_rooms a)))
theorem tKN94 : TabOk P BKN94 := TabOk.addFn (d := 30) okP tKN93 (fun a r h => by rw [r_rooms_eq]; exact congrArg some (ret_some h))
def S_rkn := DecS.mk0 (.skips 2 (.unit (dLp 0 0 0 0) (.unit (dLp 1 0 0 0) (.skip (.last (dI .i64) 41))))) (.flat 27 lShip (.flat 25 lCurve .nil))
def X_rkn := DecX.or (DecX.one .ret [4] (DecS.mk1 (.skips 4 (.last dB 42)))) (DecX.one (.exit 0) [5, 3, 2] S_rkn)
noncomputable def K.st_rkn := loopT1 P BKN94 30 155 17 [5, 3, 2] S_rkn X_rkn
theorem sl_rkn : ∀ s, (K.st_rkn) s = T.run (
  .br (decide (Prod.fst s < (↑(len (Curve.knots (Prod.fst (Prod.snd (Prod.snd s))))) : Int))) (
    .chk (decide ((0 : Int) ≤ Prod.fst s ∧ Prod.fst s < (↑(XS.len (Curve.knots (Prod.fst (Prod.snd (Prod.snd s))))) : Int))) <|
    .br (decide (XS.g (Curve.knots (Prod.fst (Prod.snd (Prod.snd s)))) (Int.toNat (Prod.fst s)) (1 : Nat) < (0 : Int))) (
      .ret (Sum.inr (Sum.inl false))) (
      .ret (Sum.inl (IntKind.wrap IntKind.i64 (Prod.fst s + (1 : Int)), Prod.fst (Prod.snd s), Prod.fst (Prod.snd (Prod.snd s)), PUnit.unit)))) (
    .ret (Sum.inr (Sum.inr (Prod.fst s, Prod.fst (Prod.snd s), Prod.fst (Prod.snd (Prod.snd s)), PUnit.unit))))) := fun s => by kernel_rfl
noncomputable def K.L_rkn := lim K.st_rkn
noncomputable def BKN95 : Tab := BKN94.addNode 155 17 (nodeE [5, 3, 2] S_rkn X_rkn (fun s => .obs (K.L_rkn s) .ret))
theorem tKN95 : TabOk P BKN95 := TabOk.addLoop (d := 30) okP tKN94 (by kernel_rfl) (by kernel_rfl) (fun s r h => obs_ret h)
def D_rkn := DecL.cons (dShip) (.last (dCurve) 0)
theorem fn_rkn : ∀ a, (callT1 P BKN95 30 155 D_rkn dB) a = T.run (
  .obs (L_rkn ((0 : Int), Prod.fst a, Prod.snd a, PUnit.unit)) fun x0 =>
    .sum (x0) (fun x1 =>
      .ret (x1)) (fun x1 =>
      .chk (decide ((0 : Int) ≤ (0 : Int) ∧ (0 : Int) < (↑(XS.len (Curve.knots (Prod.fst (Prod.snd (Prod.snd x1))))) : Int))) <|
      .br (decide (IntKind.wrap IntKind.i64 (XS.g (Curve.knots (Prod.fst (Prod.snd (Prod.snd x1)))) (nat_lit 0) (0 : Nat) * (40 : Int)) ≤ Ship.light (Prod.fst (Prod.snd x1)))) (
        .chk (decide ((0 : Int) ≤ IntKind.wrap IntKind.i64 ((↑(len (Curve.knots (Prod.fst (Prod.snd (Prod.snd x1))))) : Int) - (1 : Int)) ∧ IntKind.wrap IntKind.i64 ((↑(len (Curve.knots (Prod.fst (Prod.snd (Prod.snd x1))))) : Int) - (1 : Int)) < (↑(XS.len (Curve.knots (Prod.fst (Prod.snd (Prod.snd x1))))) : Int))) <|
        .ret (decide (IntKind.wrap IntKind.i64 (XS.g (Curve.knots (Prod.fst (Prod.snd (Prod.snd x1)))) (Int.toNat (IntKind.wrap IntKind.i64 ((↑(len (Curve.knots (Prod.fst (Prod.snd (Prod.snd x1))))) : Int) - (1 : Int)))) (0 : Nat) * (40 : Int)) ≥ IntKind.wrap IntKind.i64 (Ship.light (Prod.fst (Prod.snd x1)) + r_rooms (Prod.fst (Prod.snd x1)))))) (
        .ret (false)))) := fun a => by kernel_rfl
def K.p_rkn (c : Curve) (i : Nat) : Bool := decide ((knt c.knots i).y < 0)
theorem K.L_rkn_eq (s : Ship) (c : Curve) : K.L_rkn (0, s, c, ()) = some (match first (p_rkn c) (len c.knots) with | some _ => Sum.inl false | none => Sum.inr ((len c.knots : Int), s, c, ())) := by
  have e1 := K.len_le c.knots; have e2 := K.len_le' c.knots
  refine lim_find (fun i => ((i : Int), s, c, ())) (K.len c.knots) (p_rkn c) (fun _ => Sum.inl false) (Sum.inr ((len c.knots : Int), s, c, ())) (fun i hi hp => ?_) (fun i hi hp => ?_) ?_
  · rw [sl_rkn]; unfold p_rkn at hp
    have c1 : (0 : Int) ≤ i ∧ (i : Int) < c.knots.len := by omega
    simp only [T.run_br, T.run_chk, T.run_ret, decide_eq_true_eq, Int.toNat_natCast, if_pos c1]
    rw [if_pos (by omega), if_pos (show c.knots.g i 1 < 0 from of_decide_eq_true hp)]
  · rw [sl_rkn]; unfold p_rkn at hp
    have c1 : (0 : Int) ≤ i ∧ (i : Int) < c.knots.len := by omega
    simp only [T.run_br, T.run_chk, T.run_ret, decide_eq_true_eq, Int.toNat_natCast, if_pos c1]
    rw [if_pos (by omega), if_neg (show ¬ c.knots.g i 1 < 0 from of_decide_eq_false hp)]
    rw [w64_in (by omega) (by omega)]; simp
  · rw [sl_rkn]
    simp only [T.run_br, T.run_chk, T.run_ret, decide_eq_true_eq]
    rw [if_neg (by omega)]
def K.r_known (s : Ship) (c : Curve) : Bool := if (first (p_rkn c) (len c.knots)).isSome then false else if decide (IntKind.i64.wrap ((knt c.knots 0).x * 40) ≤ s.light) = true then decide (IntKind.i64.wrap ((knt c.knots (len c.knots - 1)).x * 40) ≥ IntKind.i64.wrap (s.light + r_rooms s)) else false
theorem K.r_known_eq (a : Ship × Curve) (h : 0 < len a.2.knots) : callT1 P BKN95 30 155 D_rkn dB a = some (r_known a.1 a.2) := by
  obtain ⟨s, c⟩ := a
  simp only at h ⊢
  have e1 := K.len_le c.knots; have e2 := K.len_le' c.knots
  rw [fn_rkn]; unfold r_known
  show T.run (.obs (L_rkn (0, s, c, ())) _) = _
  rw [L_rkn_eq]
  cases first (p_rkn c) (len c.knots) with
  | some i => rfl
  | none =>
    simp only [T.run_some, T.run_inr]
    rw [w64_in (n := (len c.knots : Int) - 1) (by omega) (by omega), show ((len c.knots : Int) - 1).toNat = len c.knots - 1 by omega]
    refine chk_step (by simp only [decide_eq_true_eq]; omega) (br_step (fun _ => chk_step (by simp only [decide_eq_true_eq]; omega) rfl) (fun _ => rfl))
noncomputable def BKN96 : Tab := BKN95.addCall 155 (callE D_rkn dB (fun a => .chk (decide (0 < len a.2.knots)) (.ret (r_known a.1 a.2))))
theorem tKN96 : TabOk P BKN96 := TabOk.addFn (d := 30) okP tKN95 (fun a r h => by obtain ⟨g, e⟩ := chk_ret h; subst e; exact K.r_known_eq a (by simpa using g))
def D_rpl := DecL.cons (dI .i64) (.last (dI .i64) 0)
theorem fn_r_placed : ∀ a, (callT1 P BKN96 30 152 D_rpl dB) a = T.run (
  .br (decide (Prod.fst a ≥ (-20000 : Int))) (
    .br (decide (Prod.fst a ≤ (20000 : Int))) (
      .br (decide (Prod.snd a ≥ (0 : Int))) (
        .ret (decide (Prod.snd a ≤ (5000 : Int)))) (
        .ret (false))) (
      .ret (false))) (
    .ret (false))) := fun a => by kernel_rfl
noncomputable def K.r_placed (a : Int × Int) : Bool := (if (decide (Prod.fst a ≥ (-20000 : Int))) = true then (if (decide (Prod.fst a ≤ (20000 : Int))) = true then (if (decide (Prod.snd a ≥ (0 : Int))) = true then decide (Prod.snd a ≤ (5000 : Int)) else false) else false) else false)
theorem eq_r_placed (a : Int × Int) : (callT1 P BKN96 30 152 D_rpl dB) a = some (K.r_placed a) := (fn_r_placed a).trans (T.br_some (T.br_some (T.br_some rfl rfl) rfl) rfl)
noncomputable def BKN97 : Tab := BKN96.addCall 152 (callE D_rpl dB (fun a => .ret (K.r_placed a)))
theorem tKN97 : TabOk P BKN97 := TabOk.addFn (d := 30) okP tKN96 (fun a r h => by rw [eq_r_placed]; exact congrArg some (ret_some h))
end Go.Proofs.YtjbhooodjmjdkaaGreat
/-! KN10 -/
namespace Go.Proofs.YtjbhooodjmjdkaaGreat
open Ev K
set_option maxRecDepth 100000
def D_rin := DecL.cons (dI .i64) (.cons (dI .i64) (.last (dI .i64) 0))
theorem fn_r_in : ∀ a, (callT1 P BKN97 30 114 D_rin dB) a = T.run (
  .br (decide (Prod.fst a ≥ Prod.fst (Prod.snd a))) (
    .ret (decide (Prod.fst a ≤ Prod.snd (Prod.snd a)))) (
    .ret (false))) := fun a => by kernel_rfl
noncomputable def K.r_in (a : Int × Int × Int) : Bool := (if (decide (Prod.fst a ≥ Prod.fst (Prod.snd a))) = true then decide (Prod.fst a ≤ Prod.snd (Prod.snd a)) else false)
theorem eq_r_in (a : Int × Int × Int) : (callT1 P BKN97 30 114 D_rin dB) a = some (K.r_in a) := (fn_r_in a).trans (T.br_some rfl rfl)
noncomputable def BKN101 : Tab := BKN97.addCall 114 (callE D_rin dB (fun a => .ret (K.r_in a)))
theorem tKN101 : TabOk P BKN101 := TabOk.addFn (d := 30) okP tKN97 (fun a r h => by rw [eq_r_in]; exact congrArg some (ret_some h))
theorem K.orr_ite2 {ε α : Type} (f : ε → α) (z : α) (c : Prop) [Decidable c] (x : ε) (y : Option ε) : K.orr f z (if c then some x else y) = if c then f x else K.orr f z y := by split <;> rfl
def S_r3a := DecS.mk0 (.skip (.unit (dLp 0 0 0 0) (.skips 2 (.cons (dI .i64) (.unit (dLp 1 0 0 0) (.last (dI .i64) 140)))))) (.flat 27 lShip (.flat 95 lHold .nil))
def X_r3a := DecX.or (DecX.one .ret [2] (DecS.mk1 (.skips 2 (.last (dI .i64) 144)))) (DecX.one (.exit 2) [6, 5, 1, 4] S_r3a)
noncomputable def K.st_r3a := loopT1 P BKN101 30 103 113 [6, 5, 1, 4] S_r3a X_r3a
theorem sl_r3a : ∀ s, (K.st_r3a) s = T.run (
  .br (decide (Prod.snd (Prod.fst s) < Prod.fst (Prod.fst s))) (
    .chk (decide ((0 : Int) ≤ Prod.snd (Prod.fst s) ∧ Prod.snd (Prod.fst s) < (↑(XS.len (Ship.holds (Prod.fst (Prod.snd s)))) : Int))) <|
    .br (XS.g (Ship.holds (Prod.fst (Prod.snd s))) (Int.toNat (Prod.snd (Prod.fst s))) (0 : Nat) == Hold.id (Prod.fst (Prod.snd (Prod.snd s)))) (
      .ret (Sum.inr (Sum.inl (6 : Int)))) (
      .ret (Sum.inl ((Prod.fst (Prod.fst s), IntKind.wrap IntKind.i64 (Prod.snd (Prod.fst s) + (1 : Int))), Prod.fst (Prod.snd s), Prod.fst (Prod.snd (Prod.snd s)), PUnit.unit)))) (
    .ret (Sum.inr (Sum.inr (Prod.fst s, Prod.fst (Prod.snd s), Prod.fst (Prod.snd (Prod.snd s)), PUnit.unit))))) := fun s => by kernel_rfl
noncomputable def K.L_r3a := lim K.st_r3a
def K.p_r3a (s : Ship) (h : Hold) (k : Nat) : Bool := (hld s.holds k).id == h.id
theorem K.L_r3a_eq (s : Ship) (h : Hold) (n : Nat) (hn : n ≤ len s.holds) : K.L_r3a (((n : Int), 0), s, h, ()) = some (match first (p_r3a s h) n with | some _ => Sum.inl 6 | none => Sum.inr (((n : Int), (n : Int)), s, h, ())) := by
  have e1 := K.len_le s.holds; have e2 := K.len_le' s.holds
  refine lim_find (fun k => (((n : Int), (k : Int)), s, h, ())) n (p_r3a s h) (fun _ => Sum.inl 6) (Sum.inr (((n : Int), (n : Int)), s, h, ())) (fun i hi hp => ?_) (fun i hi hp => ?_) ?_
  · rw [sl_r3a]; unfold p_r3a at hp
    have c1 : (0 : Int) ≤ i ∧ (i : Int) < s.holds.len := by omega
    simp only [T.run_br, T.run_chk, T.run_ret, decide_eq_true_eq, Int.toNat_natCast, if_pos c1]
    rw [if_pos (by omega), if_pos (show (s.holds.g i 0 == h.id) = true from hp)]
  · rw [sl_r3a]; unfold p_r3a at hp
    have c1 : (0 : Int) ≤ i ∧ (i : Int) < s.holds.len := by omega
    simp only [T.run_br, T.run_chk, T.run_ret, decide_eq_true_eq, Int.toNat_natCast, if_pos c1]
    rw [if_pos (by omega), if_neg (show ¬ (s.holds.g i 0 == h.id) = true by rw [show (s.holds.g i 0 == h.id) = false from hp]; decide)]
    rw [w64_in (by omega) (by omega)]; simp
  · rw [sl_r3a]
    simp only [T.run_br, T.run_chk, T.run_ret, decide_eq_true_eq]
    rw [if_neg (by omega)]
noncomputable def BKN102 : Tab := BKN101.addNode 103 113 (nodeE [6, 5, 1, 4] S_r3a X_r3a (fun s => .obs (K.L_r3a s) .ret))
theorem tKN102 : TabOk P BKN102 := TabOk.addLoop (d := 30) okP tKN101 (by kernel_rfl) (by kernel_rfl) (fun s r h => obs_ret h)
def S_r3b := DecS.mk0 (.skip (.unit (dLp 0 0 0 0) (.skips 2 (.last (dI .i64) 142)))) (.flat 27 lShip .nil)
def X_r3b := DecX.or (DecX.one .ret [2] (DecS.mk1 (.skips 2 (.last (dI .i64) 144)))) (DecX.one (.exit 0) [1, 4] S_r3b)
noncomputable def K.st_r3b := loopT1 P BKN102 30 103 57 [1, 4] S_r3b X_r3b
theorem sl_r3b : ∀ s, (K.st_r3b) s = T.run (
  .br (decide (Prod.fst s < (↑(len (Ship.holds (Prod.fst (Prod.snd s)))) : Int))) (
    .chk (decide ((0 : Int) ≤ Prod.fst s ∧ Prod.fst s < (↑(XS.len (Ship.holds (Prod.fst (Prod.snd s)))) : Int))) <|
    .br (!r_in (XS.g (Ship.holds (Prod.fst (Prod.snd s))) (Int.toNat (Prod.fst s)) (0 : Nat), (1 : Int), (1099511627776 : Int))) (
      .ret (Sum.inr (Sum.inl (1 : Int)))) (
      .br (!r_in (XS.g (Ship.holds (Prod.fst (Prod.snd s))) (Int.toNat (Prod.fst s)) (1 : Nat), (0 : Int), (65536 : Int))) (
        .ret (Sum.inr (Sum.inl (1 : Int)))) (
        .br (!r_placed (XS.g (Ship.holds (Prod.fst (Prod.snd s))) (Int.toNat (Prod.fst s)) (2 : Nat), XS.g (Ship.holds (Prod.fst (Prod.snd s))) (Int.toNat (Prod.fst s)) (3 : Nat))) (
          .ret (Sum.inr (Sum.inl (1 : Int)))) (
          .obs (L_r3a ((Prod.fst s, (0 : Int)), Prod.fst (Prod.snd s), hld (Ship.holds (Prod.fst (Prod.snd s))) (Int.toNat (Prod.fst s)), PUnit.unit)) fun x0 =>
            .sum (x0) (fun x1 =>
              .ret (Sum.inr (Sum.inl x1))) (fun x1 =>
              .ret (Sum.inl (IntKind.wrap IntKind.i64 (Prod.fst (Prod.fst x1) + (1 : Int)), Prod.fst (Prod.snd x1), PUnit.unit))))))) (
    .ret (Sum.inr (Sum.inr (Prod.fst s, Prod.fst (Prod.snd s), PUnit.unit))))) := fun s => by kernel_rfl
noncomputable def K.L_r3b := lim K.st_r3b
noncomputable def K.e_r3b (s : Ship) (i : Nat) : Option Int := if (!r_in ((hld s.holds i).id, 1, 1099511627776)) = true then some 1 else if (!r_in ((hld s.holds i).room, 0, 65536)) = true then some 1 else if (!r_placed ((hld s.holds i).lever, (hld s.holds i).height)) = true then some 1 else
  if (first (p_r3a s (hld s.holds i)) i).isSome = true then some 6 else none
theorem K.L_r3b_eq (s : Ship) : K.L_r3b (0, s, ()) = some (K.orr Sum.inl (.inr ((len s.holds : Int), s, ())) ((List.range (len s.holds)).findSome? (e_r3b s))) := by
  have e1 := K.len_le s.holds; have e2 := K.len_le' s.holds
  refine lim_err (fun i => ((i : Int), s, ())) (len s.holds) (e_r3b s) Sum.inl (Sum.inr ((len s.holds : Int), s, ())) (fun i hi => ?_) ?_
  · rw [sl_r3b]
    unfold e_r3b; simp only [orr_ite2]
    rw [T.run_br, if_pos (by simp only [decide_eq_true_eq]; omega)]
    refine chk_step (by simp only [decide_eq_true_eq]; omega) ?_
    refine br_step (fun _ => rfl) (fun _ => ?_)
    refine br_step (fun _ => rfl) (fun _ => ?_)
    refine br_step (fun _ => rfl) (fun _ => ?_)
    show T.run (.obs (L_r3a (((i : Int), 0), s, hld s.holds i, ())) _) = _
    rw [L_r3a_eq s (hld s.holds i) i (by omega)]
    cases first (p_r3a s (hld s.holds i)) i with
    | some k => rfl
    | none =>
      simp only [T.run_some, T.run_inr, T.run_ret]
      rw [w64_in (n := (i : Int) + 1) (by omega) (by omega)]; rfl
  · rw [sl_r3b]
    simp only [T.run_br, T.run_chk, T.run_ret, decide_eq_true_eq]
    rw [if_neg (by omega)]
noncomputable def BKN103 : Tab := BKN102.addNode 103 57 (nodeE [1, 4] S_r3b X_r3b (fun s => .obs (K.L_r3b s) .ret))
theorem tKN103 : TabOk P BKN103 := TabOk.addLoop (d := 30) okP tKN102 (by kernel_rfl) (by kernel_rfl) (fun s r h => obs_ret h)
def S_r3c := DecS.mk0 (.skip (.unit (dLp 0 0 0 0) (.skips 6 (.last (dI .i64) 138)))) (.flat 27 lShip .nil)
def X_r3c := DecX.or (DecX.one .ret [2] (DecS.mk1 (.skips 2 (.last (dI .i64) 144)))) (DecX.one (.exit 4) [8, 1] S_r3c)
noncomputable def K.st_r3c := loopT1 P BKN103 30 103 217 [8, 1] S_r3c X_r3c
theorem sl_r3c : ∀ s, (K.st_r3c) s = T.run (
  .br (decide (Prod.fst s < (↑(len (Curve.knots (Ship.mean (Prod.fst (Prod.snd s))))) : Int))) (
    .chk (decide ((0 : Int) ≤ Prod.fst s ∧ Prod.fst s < (↑(XS.len (Curve.knots (Ship.mean (Prod.fst (Prod.snd s))))) : Int))) <|
    .chk (decide ((0 : Int) ≤ IntKind.wrap IntKind.i64 (Prod.fst s - (1 : Int)) ∧ IntKind.wrap IntKind.i64 (Prod.fst s - (1 : Int)) < (↑(XS.len (Curve.knots (Ship.mean (Prod.fst (Prod.snd s))))) : Int))) <|
    .br (decide (XS.g (Curve.knots (Ship.mean (Prod.fst (Prod.snd s)))) (Int.toNat (Prod.fst s)) (1 : Nat) ≤ XS.g (Curve.knots (Ship.mean (Prod.fst (Prod.snd s)))) (Int.toNat (IntKind.wrap IntKind.i64 (Prod.fst s - (1 : Int)))) (1 : Nat))) (
      .ret (Sum.inr (Sum.inl (1 : Int)))) (
      .ret (Sum.inl (IntKind.wrap IntKind.i64 (Prod.fst s + (1 : Int)), Prod.fst (Prod.snd s), PUnit.unit)))) (
    .ret (Sum.inr (Sum.inr (Prod.fst s, Prod.fst (Prod.snd s), PUnit.unit))))) := fun s => by kernel_rfl
noncomputable def K.L_r3c := lim K.st_r3c
def K.e_r3c (c : Curve) (i : Nat) : Option Int := if (knt c.knots (i + 1)).y ≤ (knt c.knots i).y then some 1 else none
theorem K.L_r3c_eq (s : Ship) (h : 0 < len s.mean.knots) : K.L_r3c (1, s, ()) = some (K.orr Sum.inl (.inr ((len s.mean.knots : Int), s, ())) ((List.range (len s.mean.knots - 1)).findSome? (e_r3c s.mean))) := by
  have e1 := K.len_le s.mean.knots; have e2 := K.len_le' s.mean.knots
  refine lim_err (fun i => (((i + 1 : Nat) : Int), s, ())) (len s.mean.knots - 1) (e_r3c s.mean) Sum.inl (Sum.inr ((len s.mean.knots : Int), s, ())) (fun i hi => ?_) ?_
  · rw [sl_r3c]
    unfold e_r3c; simp only [orr_ite2]
    have e3 : IntKind.wrap IntKind.i64 (((i + 1 : Nat) : Int) - 1) = (i : Int) := by rw [w64_in (by omega) (by omega)]; omega
    simp only [e3, Int.toNat_natCast]
    rw [T.run_br, if_pos (by simp only [decide_eq_true_eq]; omega)]
    refine chk_step (by simp only [decide_eq_true_eq]; omega) (chk_step (by simp only [decide_eq_true_eq]; omega) ?_)
    rw [w64_in (n := ((i + 1 : Nat) : Int) + 1) (by omega) (by omega)]
    simp only [T.run_br, T.run_ret, decide_eq_true_eq]
    by_cases hc : (knt s.mean.knots (i + 1)).y ≤ (knt s.mean.knots i).y
    · rw [if_pos hc]; exact if_pos hc
    · rw [if_neg hc]; exact if_neg hc
  · rw [sl_r3c]
    simp only [T.run_br, T.run_chk, T.run_ret, decide_eq_true_eq]
    rw [if_neg (by omega), show ((len s.mean.knots - 1 + 1 : Nat) : Int) = (len s.mean.knots : Int) by omega]
noncomputable def BKN104 : Tab := BKN103.addNode 103 217 (nodeE [8, 1] S_r3c X_r3c (fun s => .obs (K.L_r3c s) .ret))
theorem tKN104 : TabOk P BKN104 := TabOk.addLoop (d := 30) okP tKN103 (by kernel_rfl) (by kernel_rfl) (fun s r h => obs_ret h)
theorem fn_r3 : ∀ a, (callT1 P BKN104 30 103 D_ship (dI .i64)) a = T.run (
  .br (!r_in (Ship.id a, (1 : Int), (1099511627776 : Int))) (
    .ret ((1 : Int))) (
    .br (!r_in (Ship.light a, (1 : Int), (65536 : Int))) (
      .ret ((1 : Int))) (
      .br (!r_placed (Ship.lever a, Ship.height a)) (
        .ret ((1 : Int))) (
        .br (!r_in (Ship.turn a, (1 : Int), (1048576 : Int))) (
          .ret ((1 : Int))) (
          .br (!r_in (Ship.least a, (0 : Int), (5000 : Int))) (
            .ret ((1 : Int))) (
            .br (decide ((↑(len (Ship.holds a)) : Int) > (8 : Int))) (
              .ret ((2 : Int))) (
              .obs (L_r3b ((0 : Int), a, PUnit.unit)) fun x0 =>
                .sum (x0) (fun x1 =>
                  .ret (x1)) (fun x1 =>
                  .br (decide (IntKind.wrap IntKind.i64 (Ship.light (Prod.fst (Prod.snd x1)) + r_rooms (Prod.fst (Prod.snd x1))) > (65536 : Int))) (
                    .ret ((1 : Int))) (
                    .br (r_curve (Ship.mean (Prod.fst (Prod.snd x1))) != (0 : Int)) (
                      .ret (r_curve (Ship.mean (Prod.fst (Prod.snd x1))))) (
                      .br (r_curve (Ship.mc (Prod.fst (Prod.snd x1))) != (0 : Int)) (
                        .ret (r_curve (Ship.mc (Prod.fst (Prod.snd x1))))) (
                        .obs (L_r3c ((1 : Int), Prod.fst (Prod.snd x1), PUnit.unit)) fun x2 =>
                          .sum (x2) (fun x3 =>
                            .ret (x3)) (fun x3 =>
                            .chk (decide ((0 : Nat) < len (Curve.knots (Ship.mean (Prod.fst (Prod.snd x3)))))) <|
                            .chk (decide ((0 : Nat) < len (Curve.knots (Ship.mc (Prod.fst (Prod.snd x3)))))) <|
                            .br (!r_known (Prod.fst (Prod.snd x3)) (Ship.mean (Prod.fst (Prod.snd x3)))) (
                              .ret ((1 : Int))) (
                              .br (!r_known (Prod.fst (Prod.snd x3)) (Ship.mc (Prod.fst (Prod.snd x3)))) (
                                .ret ((1 : Int))) (
                                .ret ((0 : Int)))))))))))))))) := fun a => by kernel_rfl
theorem K.r_curve_pos {c : Curve} (h : ¬ (r_curve c != 0) = true) : 0 < len c.knots := by
  rcases Nat.eq_zero_or_pos (len c.knots) with h0 | h0
  · exfalso; apply h; unfold r_curve; rw [h0, if_neg (by decide), if_pos (by decide)]; decide
  · exact h0
noncomputable def K.r_ship (s : Ship) : Int :=
  if (!r_in (s.id, 1, 1099511627776)) = true then 1 else if (!r_in (s.light, 1, 65536)) = true then 1 else if (!r_placed (s.lever, s.height)) = true then 1 else if (!r_in (s.turn, 1, 1048576)) = true then 1 else
  if (!r_in (s.least, 0, 5000)) = true then 1 else if decide ((len s.holds : Int) > 8) = true then 2 else
  K.orr id (if decide (IntKind.i64.wrap (s.light + r_rooms s) > 65536) = true then 1 else if (r_curve s.mean != 0) = true then r_curve s.mean else if (r_curve s.mc != 0) = true then r_curve s.mc else
    K.orr id (if (!r_known s s.mean) = true then 1 else if (!r_known s s.mc) = true then 1 else 0) ((List.range (len s.mean.knots - 1)).findSome? (e_r3c s.mean))) ((List.range (len s.holds)).findSome? (e_r3b s))
theorem K.r_ship_eq (s : Ship) : callT1 P BKN104 30 103 D_ship (dI .i64) s = some (r_ship s) := by
  rw [fn_r3]; unfold r_ship
  refine br_step (fun _ => rfl) (fun _ => ?_)
  refine br_step (fun _ => rfl) (fun _ => ?_)
  refine br_step (fun _ => rfl) (fun _ => ?_)
  refine br_step (fun _ => rfl) (fun _ => ?_)
  refine br_step (fun _ => rfl) (fun _ => ?_)
  refine br_step (fun _ => rfl) (fun _ => ?_)
  rw [L_r3b_eq]
  cases (List.range (len s.holds)).findSome? (e_r3b s) with
  | some e => rfl
  | none =>
    show T.run (.br (decide (IntKind.i64.wrap (s.light + r_rooms s) > 65536)) _ _) = some (if _ then _ else _)
    refine br_step (fun _ => rfl) (fun _ => ?_)
    refine br_step (fun _ => rfl) (fun k1 => ?_)
    refine br_step (fun _ => rfl) (fun k2 => ?_)
    have p1 := r_curve_pos k1; have p2 := r_curve_pos k2
    show T.run (.obs (L_r3c (1, s, ())) _) = _
    rw [L_r3c_eq s p1]
    cases (List.range (len s.mean.knots - 1)).findSome? (e_r3c s.mean) with
    | some e => rfl
    | none =>
      show T.run (.chk (decide (0 < len s.mean.knots)) _) = some (if _ then _ else _)
      refine chk_step (by simpa using p1) (chk_step (by simpa using p2) ?_)
      refine br_step (fun _ => rfl) (fun _ => ?_)
      exact br_step (fun _ => rfl) (fun _ => rfl)
noncomputable def BKN105 : Tab := BKN104.addCall 103 (callE D_ship (dI .i64) (fun a => .ret (r_ship a)))
theorem tKN105 : TabOk P BKN105 := TabOk.addFn (d := 30) okP tKN104 (fun a r h => by rw [r_ship_eq]; exact congrArg some (ret_some h))
end Go.Proofs.YtjbhooodjmjdkaaGreat
/-! KN11 -/
namespace Go.Proofs.YtjbhooodjmjdkaaGreat
open Ev K
set_option maxRecDepth 100000
def D_rrdy := DecL.cons (dShip) (.cons (dBulbs) (.last (dSurvey) 0))
def D_rvol := DecL.cons (dShip) (.last (dSurvey) 0)
def R_rvol := dTup (.cons dRange (.last dB 0))
theorem fn_rvol : ∀ a, (callT1 P BKN105 30 195 D_rvol R_rvol) a = T.run (
  .chk (sixOk (Prod.snd a)) <|
  .chk (decide ((0 : Int) ≤ (0 : Int) ∧ (0 : Int) < (↑(XS.len (Curve.knots (Ship.mean (Prod.fst a)))) : Int))) <|
  .chk (decide ((0 : Int) ≤ IntKind.wrap IntKind.i64 ((↑(len (Curve.knots (Ship.mean (Prod.fst a)))) : Int) - (1 : Int)) ∧ IntKind.wrap IntKind.i64 ((↑(len (Curve.knots (Ship.mean (Prod.fst a)))) : Int) - (1 : Int)) < (↑(XS.len (Curve.knots (Ship.mean (Prod.fst a)))) : Int))) <|
  .br (decide ((if IntKind.wrap IntKind.i64 ((16 : Int) * XS.g (Curve.knots (Ship.mean (Prod.fst a))) (nat_lit 0) (1 : Nat)) > IntKind.wrap IntKind.i64 (Span.lo (r_six (Prod.snd a)) - IntKind.wrap IntKind.i64 ((16 : Int) * Curve.err (Ship.mean (Prod.fst a)))) then IntKind.wrap IntKind.i64 ((16 : Int) * XS.g (Curve.knots (Ship.mean (Prod.fst a))) (nat_lit 0) (1 : Nat)) else IntKind.wrap IntKind.i64 (Span.lo (r_six (Prod.snd a)) - IntKind.wrap IntKind.i64 ((16 : Int) * Curve.err (Ship.mean (Prod.fst a))))) > if IntKind.wrap IntKind.i64 ((16 : Int) * XS.g (Curve.knots (Ship.mean (Prod.fst a))) (Int.toNat (IntKind.wrap IntKind.i64 ((↑(len (Curve.knots (Ship.mean (Prod.fst a)))) : Int) - (1 : Int)))) (1 : Nat)) < IntKind.wrap IntKind.i64 (Span.hi (r_six (Prod.snd a)) + IntKind.wrap IntKind.i64 ((16 : Int) * Curve.err (Ship.mean (Prod.fst a)))) then IntKind.wrap IntKind.i64 ((16 : Int) * XS.g (Curve.knots (Ship.mean (Prod.fst a))) (Int.toNat (IntKind.wrap IntKind.i64 ((↑(len (Curve.knots (Ship.mean (Prod.fst a)))) : Int) - (1 : Int)))) (1 : Nat)) else IntKind.wrap IntKind.i64 (Span.hi (r_six (Prod.snd a)) + IntKind.wrap IntKind.i64 ((16 : Int) * Curve.err (Ship.mean (Prod.fst a)))))) (
    .ret ((Range.mk (Frac.mk (0 : Int) (0 : Int)) (Frac.mk (0 : Int) (0 : Int)), false))) (
    .chk (whOk (Ship.mean (Prod.fst a)) (if IntKind.wrap IntKind.i64 ((16 : Int) * XS.g (Curve.knots (Ship.mean (Prod.fst a))) (nat_lit 0) (1 : Nat)) > IntKind.wrap IntKind.i64 (Span.lo (r_six (Prod.snd a)) - IntKind.wrap IntKind.i64 ((16 : Int) * Curve.err (Ship.mean (Prod.fst a)))) then IntKind.wrap IntKind.i64 ((16 : Int) * XS.g (Curve.knots (Ship.mean (Prod.fst a))) (nat_lit 0) (1 : Nat)) else IntKind.wrap IntKind.i64 (Span.lo (r_six (Prod.snd a)) - IntKind.wrap IntKind.i64 ((16 : Int) * Curve.err (Ship.mean (Prod.fst a)))))) <|
    .chk (whOk (Ship.mean (Prod.fst a)) (if IntKind.wrap IntKind.i64 ((16 : Int) * XS.g (Curve.knots (Ship.mean (Prod.fst a))) (Int.toNat (IntKind.wrap IntKind.i64 ((↑(len (Curve.knots (Ship.mean (Prod.fst a)))) : Int) - (1 : Int)))) (1 : Nat)) < IntKind.wrap IntKind.i64 (Span.hi (r_six (Prod.snd a)) + IntKind.wrap IntKind.i64 ((16 : Int) * Curve.err (Ship.mean (Prod.fst a)))) then IntKind.wrap IntKind.i64 ((16 : Int) * XS.g (Curve.knots (Ship.mean (Prod.fst a))) (Int.toNat (IntKind.wrap IntKind.i64 ((↑(len (Curve.knots (Ship.mean (Prod.fst a)))) : Int) - (1 : Int)))) (1 : Nat)) else IntKind.wrap IntKind.i64 (Span.hi (r_six (Prod.snd a)) + IntKind.wrap IntKind.i64 ((16 : Int) * Curve.err (Ship.mean (Prod.fst a)))))) <|
    .ret ((Range.mk (r_where (Ship.mean (Prod.fst a)) (if IntKind.wrap IntKind.i64 ((16 : Int) * XS.g (Curve.knots (Ship.mean (Prod.fst a))) (nat_lit 0) (1 : Nat)) > IntKind.wrap IntKind.i64 (Span.lo (r_six (Prod.snd a)) - IntKind.wrap IntKind.i64 ((16 : Int) * Curve.err (Ship.mean (Prod.fst a)))) then IntKind.wrap IntKind.i64 ((16 : Int) * XS.g (Curve.knots (Ship.mean (Prod.fst a))) (nat_lit 0) (1 : Nat)) else IntKind.wrap IntKind.i64 (Span.lo (r_six (Prod.snd a)) - IntKind.wrap IntKind.i64 ((16 : Int) * Curve.err (Ship.mean (Prod.fst a)))))) (r_where (Ship.mean (Prod.fst a)) (if IntKind.wrap IntKind.i64 ((16 : Int) * XS.g (Curve.knots (Ship.mean (Prod.fst a))) (Int.toNat (IntKind.wrap IntKind.i64 ((↑(len (Curve.knots (Ship.mean (Prod.fst a)))) : Int) - (1 : Int)))) (1 : Nat)) < IntKind.wrap IntKind.i64 (Span.hi (r_six (Prod.snd a)) + IntKind.wrap IntKind.i64 ((16 : Int) * Curve.err (Ship.mean (Prod.fst a)))) then IntKind.wrap IntKind.i64 ((16 : Int) * XS.g (Curve.knots (Ship.mean (Prod.fst a))) (Int.toNat (IntKind.wrap IntKind.i64 ((↑(len (Curve.knots (Ship.mean (Prod.fst a)))) : Int) - (1 : Int)))) (1 : Nat)) else IntKind.wrap IntKind.i64 (Span.hi (r_six (Prod.snd a)) + IntKind.wrap IntKind.i64 ((16 : Int) * Curve.err (Ship.mean (Prod.fst a)))))), true)))) := fun a => by kernel_rfl
noncomputable def K.r_y (s : Ship) (x : Survey) : Span :=
  ⟨if IntKind.i64.wrap (16 * (knt s.mean.knots 0).y) > IntKind.i64.wrap ((r_six x).lo - IntKind.i64.wrap (16 * s.mean.err)) then IntKind.i64.wrap (16 * (knt s.mean.knots 0).y) else IntKind.i64.wrap ((r_six x).lo - IntKind.i64.wrap (16 * s.mean.err)),
   if IntKind.i64.wrap (16 * (knt s.mean.knots (len s.mean.knots - 1)).y) < IntKind.i64.wrap ((r_six x).hi + IntKind.i64.wrap (16 * s.mean.err)) then IntKind.i64.wrap (16 * (knt s.mean.knots (len s.mean.knots - 1)).y) else IntKind.i64.wrap ((r_six x).hi + IntKind.i64.wrap (16 * s.mean.err))⟩
noncomputable def K.r_volOk (s : Ship) (x : Survey) : Bool := sixOk x && (decide (0 < len s.mean.knots) && (decide ((r_y s x).lo > (r_y s x).hi) || (whOk s.mean (r_y s x).lo && whOk s.mean (r_y s x).hi)))
noncomputable def K.r_volumes (s : Ship) (x : Survey) : Range × Bool := if decide ((r_y s x).lo > (r_y s x).hi) = true then (⟨⟨0, 0⟩, ⟨0, 0⟩⟩, false) else (⟨r_where s.mean (r_y s x).lo, r_where s.mean (r_y s x).hi⟩, true)
theorem K.r_volumes_eq (a : Ship × Survey) (h : r_volOk a.1 a.2 = true) : callT1 P BKN105 30 195 D_rvol R_rvol a = some (r_volumes a.1 a.2) := by
  obtain ⟨s, x⟩ := a
  unfold r_volOk at h
  rw [Bool.and_eq_true, Bool.and_eq_true, decide_eq_true_eq, Bool.or_eq_true, Bool.and_eq_true] at h
  obtain ⟨h1, h2, h3⟩ := h
  simp only at h2
  have e1 := K.len_le s.mean.knots; have e2 := K.len_le' s.mean.knots
  rw [fn_rvol, w64_in (n := (len s.mean.knots : Int) - 1) (by omega) (by omega), show ((len s.mean.knots : Int) - 1).toNat = len s.mean.knots - 1 by omega]
  refine chk_step h1 (chk_step (by simp only [decide_eq_true_eq]; omega) (chk_step (by simp only [decide_eq_true_eq]; omega) ?_))
  refine br_step (fun _ => rfl) (fun hn => ?_)
  rcases h3 with h3 | h3
  · exact absurd h3 hn
  · exact chk_step h3.1 (chk_step h3.2 rfl)
noncomputable def BKN111 : Tab := BKN105.addCall 195 (callE D_rvol R_rvol (fun a => .chk (r_volOk a.1 a.2) (.ret (r_volumes a.1 a.2))))
theorem tKN111 : TabOk P BKN111 := TabOk.addFn (d := 30) okP tKN105 (fun a r h => by obtain ⟨g, e⟩ := chk_ret h; subst e; exact K.r_volumes_eq a g)
theorem fn_rmass : ∀ a, (callT1 P BKN111 30 151 D_rrdy dSpan) a = T.run (
  .chk (r_volOk (Prod.fst a) (Prod.snd (Prod.snd a))) <|
  .br (!Prod.snd (r_volumes (Prod.fst a) (Prod.snd (Prod.snd a)))) (
    .ret (Span.mk (1 : Int) (0 : Int))) (
    .chk (!decide (IntKind.wrap IntKind.i64 ((25 : Int) * Frac.den (Range.lo (Prod.fst (r_volumes (Prod.fst a) (Prod.snd (Prod.snd a)))))) = (0 : Int))) <|
    .chk (!decide (IntKind.wrap IntKind.i64 ((25 : Int) * Frac.den (Range.hi (Prod.fst (r_volumes (Prod.fst a) (Prod.snd (Prod.snd a)))))) = (0 : Int))) <|
    .ret (r_both (Span.mk (IntKind.wrap IntKind.i64 (Int.tdiv (IntKind.wrap IntKind.i64 (IntKind.wrap IntKind.i64 (IntKind.wrap IntKind.i64 (Span.lo (r_density (Prod.snd a)) * Frac.num (Range.lo (Prod.fst (r_volumes (Prod.fst a) (Prod.snd (Prod.snd a)))))) + IntKind.wrap IntKind.i64 ((25 : Int) * Frac.den (Range.lo (Prod.fst (r_volumes (Prod.fst a) (Prod.snd (Prod.snd a))))))) - (1 : Int))) (IntKind.wrap IntKind.i64 ((25 : Int) * Frac.den (Range.lo (Prod.fst (r_volumes (Prod.fst a) (Prod.snd (Prod.snd a))))))))) (IntKind.wrap IntKind.i64 (Int.tdiv (IntKind.wrap IntKind.i64 (Span.hi (r_density (Prod.snd a)) * Frac.num (Range.hi (Prod.fst (r_volumes (Prod.fst a) (Prod.snd (Prod.snd a))))))) (IntKind.wrap IntKind.i64 ((25 : Int) * Frac.den (Range.hi (Prod.fst (r_volumes (Prod.fst a) (Prod.snd (Prod.snd a))))))))), Span.mk (Ship.light (Prod.fst a)) (r_full (Prod.fst a)))))) := fun a => by kernel_rfl
noncomputable def K.r_massOk (s : Ship) (x : Survey) : Bool := r_volOk s x && (!(r_volumes s x).2 || (!decide (IntKind.i64.wrap (25 * (r_volumes s x).1.lo.den) = 0) && !decide (IntKind.i64.wrap (25 * (r_volumes s x).1.hi.den) = 0)))
noncomputable def K.r_mass (s : Ship) (b : Bulbs) (x : Survey) : Span := if (!(r_volumes s x).2) = true then ⟨1, 0⟩ else
  r_both (⟨IntKind.i64.wrap (Int.tdiv (IntKind.i64.wrap (IntKind.i64.wrap (IntKind.i64.wrap ((r_density (b, x)).lo * (r_volumes s x).1.lo.num) + IntKind.i64.wrap (25 * (r_volumes s x).1.lo.den)) - 1)) (IntKind.i64.wrap (25 * (r_volumes s x).1.lo.den))),
    IntKind.i64.wrap (Int.tdiv (IntKind.i64.wrap ((r_density (b, x)).hi * (r_volumes s x).1.hi.num)) (IntKind.i64.wrap (25 * (r_volumes s x).1.hi.den)))⟩, ⟨s.light, r_full s⟩)
theorem K.r_mass_eq (a : Ship × Bulbs × Survey) (h : r_massOk a.1 a.2.2 = true) : callT1 P BKN111 30 151 D_rrdy dSpan a = some (r_mass a.1 a.2.1 a.2.2) := by
  unfold r_massOk at h
  rw [Bool.and_eq_true] at h
  rw [fn_rmass]
  refine chk_step h.1 (br_step (fun _ => rfl) (fun hn => ?_))
  have h2 := h.2
  rw [Bool.or_eq_true] at h2
  rcases h2 with h2 | h2
  · exact absurd h2 hn
  · rw [Bool.and_eq_true] at h2
    exact chk_step h2.1 (chk_step h2.2 rfl)
noncomputable def BKN112 : Tab := BKN111.addCall 151 (callE D_rrdy dSpan (fun a => .chk (r_massOk a.1 a.2.2) (.ret (r_mass a.1 a.2.1 a.2.2))))
theorem tKN112 : TabOk P BKN112 := TabOk.addFn (d := 30) okP tKN111 (fun a r h => by obtain ⟨g, e⟩ := chk_ret h; subst e; exact K.r_mass_eq a g)
end Go.Proofs.YtjbhooodjmjdkaaGreat
/-! KP -/
namespace Go.Proofs.YtjbhooodjmjdkaaGreat
open Ev K
set_option maxRecDepth 100000
namespace K
theorem ite_ok {c : Bool} {t u : Int} (hu : u ≠ 0) (h : (if c = true then t else u) = 0) : c = true ∧ t = 0 := by
  cases c with
  | true => exact ⟨rfl, h⟩
  | false => simp at h; exact absurd h hu
theorem ite_no {c : Bool} {t u : Int} (hu : u ≠ 0) (h : (if c = true then u else t) = 0) : c = false ∧ t = 0 := by
  cases c with
  | true => simp at h; exact absurd h hu
  | false => exact ⟨rfl, by simpa using h⟩
theorem ite_err {e t : Int} (h : (if (e != 0) = true then e else t) = 0) : e = 0 ∧ t = 0 := by
  by_cases h0 : e = 0
  · subst h0; simpa using h
  · simp [h0] at h
theorem within_iff {n lo hi : Int} : within n lo hi = true ↔ lo ≤ n ∧ n ≤ hi := by unfold within; simp
theorem spans_iff {s : Span} {lo hi : Int} : spans s lo hi = true ↔ lo ≤ s.lo ∧ s.lo ≤ s.hi ∧ s.hi ≤ hi := by unfold spans; simp
theorem void_false {s : Span} : void s = false ↔ s.lo ≤ s.hi := by unfold void; simp
theorem void_true {s : Span} : void s = true ↔ s.hi < s.lo := by unfold void; simp
structure MarkOk (s : Span) : Prop where
  lo : 0 ≤ s.lo
  le : s.lo ≤ s.hi
  hi : s.hi ≤ 65536
  w : s.hi - s.lo < 400
structure Good (x : Survey) : Prop where
  id : 1 ≤ x.id ∧ x.id ≤ 1099511627776
  tick : 0 ≤ x.tick ∧ x.tick ≤ 1048576
  sag : 0 ≤ x.sag ∧ x.sag ≤ 200
  shown : 0 ≤ x.shown.lo ∧ x.shown.lo ≤ x.shown.hi ∧ x.shown.hi ≤ 2000
  m0 : MarkOk x.m0
  m1 : MarkOk x.m1
  m2 : MarkOk x.m2
  m3 : MarkOk x.m3
  m4 : MarkOk x.m4
  m5 : MarkOk x.m5
theorem mark_ok {s : Span} (h1 : spans s 0 65536 = true) (h2 : IntKind.wrap IntKind.i64 (s.hi - s.lo) < 400) : MarkOk s := by
  obtain ⟨a, b, c⟩ := spans_iff.1 h1
  rw [w64_in (by omega) (by omega)] at h2
  exact ⟨a, b, c, h2⟩
/-- What a survey without an error is. -/
theorem check_ok {b : Bulbs} {x : Survey} (h : check (b, x) = 0) : Good x ∧ (density (b, x)).2 = 0 ∧ (extremes x).2 = true := by
  unfold check at h
  obtain ⟨h1, h⟩ := ite_ok (by decide) h
  obtain ⟨h2, h⟩ := ite_ok (by decide) h
  obtain ⟨h3, h⟩ := ite_ok (by decide) h
  obtain ⟨h4, h⟩ := ite_ok (by decide) h
  obtain ⟨a0, h⟩ := ite_ok (by decide) h
  obtain ⟨b0, h⟩ := ite_ok (by decide) h
  obtain ⟨a1, h⟩ := ite_ok (by decide) h
  obtain ⟨b1, h⟩ := ite_ok (by decide) h
  obtain ⟨a2, h⟩ := ite_ok (by decide) h
  obtain ⟨b2, h⟩ := ite_ok (by decide) h
  obtain ⟨a3, h⟩ := ite_ok (by decide) h
  obtain ⟨b3, h⟩ := ite_ok (by decide) h
  obtain ⟨a4, h⟩ := ite_ok (by decide) h
  obtain ⟨b4, h⟩ := ite_ok (by decide) h
  obtain ⟨a5, h⟩ := ite_ok (by decide) h
  obtain ⟨b5, h⟩ := ite_no (by decide) h
  obtain ⟨d, h⟩ := ite_err h
  obtain ⟨e, _⟩ := ite_no (by decide) h
  refine ⟨⟨within_iff.1 h1, within_iff.1 h2, within_iff.1 h3, spans_iff.1 h4, mark_ok a0 (by simpa using b0), mark_ok a1 (by simpa using b1), mark_ok a2 (by simpa using b2), mark_ok a3 (by simpa using b3), mark_ok a4 (by simpa using b4), mark_ok a5 (by simpa using b5)⟩, d, by simpa using e⟩
theorem Check_ok {b : Bulbs} {x : Survey} (h : Check (b, x) = 0) : CheckBulbs b = 0 ∧ Good x ∧ (density (b, x)).2 = 0 ∧ (extremes x).2 = true := by
  unfold Check at h
  obtain ⟨h1, h⟩ := ite_err h
  exact ⟨h1, check_ok h⟩
theorem tmod_two (n : Int) : Int.tmod n 2 = if 0 ≤ n then n % 2 else -((-n) % 2) := by
  split
  · rename_i h; rw [Int.tmod_eq_emod_of_nonneg h]
  · rename_i h
    have : n = -(-n) := by omega
    rw [this, Int.neg_tmod, Int.tmod_eq_emod_of_nonneg (by omega)]
    simp
theorem half_eq {n : Int} (h1 : -4611686018427387904 ≤ n) (h2 : n ≤ 4611686018427387904) : half n = n / 2 := by
  unfold half
  have ht := tmod_two n
  have hb : -1 ≤ Int.tmod n 2 ∧ Int.tmod n 2 ≤ 1 := by rw [ht]; split <;> omega
  rw [w64_in (n := Int.tmod n 2 + 2) (by omega) (by omega)]
  have e1 : Int.tmod (Int.tmod n 2 + 2) 2 = n % 2 := by
    rw [Int.tmod_eq_emod_of_nonneg (by omega), ht]; split <;> omega
  rw [e1, w64_in (n := n - n % 2) (by omega) (by omega)]
  have e2 : n - n % 2 = 2 * (n / 2) := by omega
  rw [e2, Int.mul_comm, Int.mul_tdiv_cancel _ (by decide), w64_in (by omega) (by omega)]
end K
end Go.Proofs.YtjbhooodjmjdkaaGreat
/-! KV1 -/
namespace Go.Proofs.YtjbhooodjmjdkaaGreat
open Ev K
set_option maxRecDepth 100000
namespace K
theorem r_id_is (n : Int) : r_id n = within n 1 1099511627776 := by
  unfold r_id within
  show (if decide ((1 : Int) ≤ n) = true then _ else _) = _
  cases decide ((1 : Int) ≤ n) <;> rfl
theorem r_in_is (n lo hi : Int) : r_in (n, lo, hi) = within n lo hi := by
  unfold r_in within
  show (if decide (lo ≤ n) = true then _ else _) = _
  cases decide (lo ≤ n) <;> rfl
theorem r_span_is (s : Span) (lo hi : Int) : r_span (s, lo, hi) = spans s lo hi := by
  unfold r_span spans
  show (if decide (lo ≤ s.lo) = true then (if _ then _ else _) else _) = _
  cases decide (lo ≤ s.lo) <;> cases decide (s.lo ≤ s.hi) <;> rfl
theorem r_placed_is (a : Int × Int) : r_placed a = placed a := by
  unfold r_placed placed within
  show (if decide ((-20000 : Int) ≤ a.1) = true then (if _ then (if decide ((0 : Int) ≤ a.2) = true then _ else _) else _) else _) = _
  cases decide ((-20000 : Int) ≤ a.1) <;> cases decide (a.1 ≤ 20000) <;> cases decide ((0 : Int) ≤ a.2) <;> rfl
theorem r_none_is (s : Span) : r_none s = void s := rfl
theorem r_both_is (a b : Span) : r_both (a, b) = meet a b := rfl
theorem r_down_is (n : Int) : r_down n = half n := rfl
theorem found_idx {α : Type} (at_ : Nat → α) (z : α) (p : Nat → Bool) (n : Nat) : (found at_ z p n).2 = idx p n := by
  unfold found idx; cases first p n <;> rfl
theorem e_rc1_is (b : Bulbs) (i : Nat) : e_rc1 b i = hydE b.hydros b.hydros i := by
  unfold e_rc1 hydE find_chk1
  rw [found_idx, r_id_is, r_span_is]
  simp only [decide_eq_true_eq]
  rfl
theorem e_rc2_is (b : Bulbs) (i : Nat) : e_rc2 b i = glsE b.glasses b.hydros b.glasses i := by
  unfold e_rc2 glsE find_chk2 find_chk3
  rw [found_idx, found_idx, r_id_is, r_span_is]
  have hd : ∀ (u v : Option Int), (if (gls b.glasses i).dense < 900 then u else if (gls b.glasses i).dense > 1100 then u else v) = if (!within (b.glasses.g i 2) 900 1100) = true then u else v := by
    intro u v
    show (if b.glasses.g i 2 < 900 then u else if b.glasses.g i 2 > 1100 then u else v) = _
    unfold within
    by_cases h1 : b.glasses.g i 2 < 900
    · rw [if_pos h1, decide_eq_false (show ¬ (900 : Int) ≤ b.glasses.g i 2 by omega)]; rfl
    · rw [if_neg h1, decide_eq_true (show (900 : Int) ≤ b.glasses.g i 2 by omega)]
      by_cases h2 : b.glasses.g i 2 > 1100
      · rw [if_pos h2, decide_eq_false (show ¬ b.glasses.g i 2 ≤ 1100 by omega)]; rfl
      · rw [if_neg h2, decide_eq_true (show b.glasses.g i 2 ≤ 1100 by omega)]; rfl
  rw [hd]
  simp only [decide_eq_true_eq]
  rfl
theorem r_bulbs_is (b : Bulbs) : r_bulbs b = CheckBulbs b := by
  unfold r_bulbs CheckBulbs
  rw [show e_rc1 b = hydE b.hydros b.hydros from funext (e_rc1_is b), show e_rc2 b = glsE b.glasses b.hydros b.glasses from funext (e_rc2_is b)]
  simp only [decide_eq_true_eq]
end K
end Go.Proofs.YtjbhooodjmjdkaaGreat
/-! KV2 -/
namespace Go.Proofs.YtjbhooodjmjdkaaGreat
open Ev K
set_option maxRecDepth 100000
namespace K
theorem r_off_is (b : Bulbs) (h : Hydro) (but : Int) : r_off b h but = errs b h but := by
  unfold r_off errs glassesL
  rw [List.foldl_map, List.foldl_filter]
  have e : f_roff b h but = fun (s : Span) (i : Nat) => if ((gls b.glasses i).hydro == h.id) = true then (if ((toldOf (gls b.glasses i)).g.id != but) = true then meet s (toldOf (gls b.glasses i)).errors else s) else s := by
    funext s i
    unfold f_roff
    show (if ((gls b.glasses i).hydro == h.id && (gls b.glasses i).id != but) = true then meet s (toldOf (gls b.glasses i)).errors else s) = if ((gls b.glasses i).hydro == h.id) = true then (if ((gls b.glasses i).id != but) = true then meet s (toldOf (gls b.glasses i)).errors else s) else s
    cases ((gls b.glasses i).hydro == h.id) <;> cases ((gls b.glasses i).id != but) <;> rfl
  rw [e]
theorem hydro_is (b : Bulbs) (n : Int) : hydro (b, n) = match first (p_rhydro b n) (len b.hydros) with | some i => (hyd b.hydros i, true) | none => (⟨0, ⟨0, 0⟩⟩, false) := by
  show ((find_hyd1 n b.hydros).1, decide ((find_hyd1 n b.hydros).2 ≥ 0)) = _
  unfold find_hyd1 found
  show ((match first (p_rhydro b n) (len b.hydros) with | some i => (hyd b.hydros i, (i : Int)) | none => (⟨0, ⟨0, 0⟩⟩, -1)).1, decide ((match first (p_rhydro b n) (len b.hydros) with | some i => (hyd b.hydros i, (i : Int)) | none => (⟨0, ⟨0, 0⟩⟩, -1)).2 ≥ 0)) = _
  cases first (p_rhydro b n) (len b.hydros) with
  | none => rfl
  | some i => simp only; rw [decide_eq_true (show (i : Int) ≥ 0 by omega)]
theorem r_Off_is {b : Bulbs} (hb : CheckBulbs b = 0) (n : Int) : r_Off (b, n) = off (b, n) := by
  unfold r_Off off
  rw [if_neg (by rw [r_bulbs_is, hb]; decide), hydro_is]
  unfold i_rhydro
  simp only
  cases first (p_rhydro b n) (len b.hydros) with
  | none => rfl
  | some i =>
    simp only
    rw [if_neg (show ¬ (i : Int) < 0 by omega), r_off_is, r_none_is]
    rfl
theorem density_is {b : Bulbs} {x : Survey} (hb : CheckBulbs b = 0) (ho : (off (b, x.hydro)).2 = 0) : density (b, x) = if void (r_density (b, x)) = true then (⟨0, 0⟩, 9) else (r_density (b, x), 0) := by
  unfold density r_density
  rw [if_neg (show ¬ ((off ((b, x).1, (b, x).2.hydro)).2 != 0) = true by simp only; rw [ho]; decide), r_Off_is hb]
  rfl
end K
end Go.Proofs.YtjbhooodjmjdkaaGreat
/-! KBl8 -/
namespace Go.Proofs.YtjbhooodjmjdkaaGreat
open Ev K
set_option maxRecDepth 100000
def lInts : DecL (List Int × Int) := .cons (dRows rInt) (.last (dI .i64) 0)
def S_lb := DecS.mk0 (.skips 5 (.cons dB (.skips 4 (.cons (dRows rPair) (.skip (.cons (dRows rPair) (.skip (.cons (dRows rInt) (.skip (.unit (dLp 0 0 0 0) (.last (dI .i64) 95))))))))))) (.flat 53 lInts .nil)
def X_lb := DecX.or (DecX.one .ret [4] (DecS.mk1 (.skips 4 (.last dB 108)))) (DecX.one (.exit 0) [5, 14, 16] (DecS.mk0 (.skips 5 (.cons dB (.skips 8 (.cons (dRows rInt) (.skip (.unit (dLp 0 0 0 0) (.tops 96))))))) (.flat 53 lInts .nil)))
noncomputable def K.st_lb := loopT1 P BKBl73 30 6 105 [17, 12, 10, 5, 16, 14] S_lb X_lb
theorem sl_lb : ∀ s, (K.st_lb) s = T.run (
  .br (decide (Prod.snd (Prod.snd (Prod.snd (Prod.snd (Prod.fst s)))) < (↑(clampL (List.length (Prod.fst (Prod.snd (Prod.fst s))))) : Int))) (
    .chk (decide ((0 : Int) ≤ Prod.snd (Prod.snd (Prod.snd (Prod.snd (Prod.fst s)))) ∧ Prod.snd (Prod.snd (Prod.snd (Prod.snd (Prod.fst s)))) < (↑(List.length (Prod.fst (Prod.snd (Prod.fst s)))) : Int))) <|
    .chk (decide ((0 : Int) ≤ Prod.snd (Prod.snd (Prod.snd (Prod.snd (Prod.fst s)))) ∧ Prod.snd (Prod.snd (Prod.snd (Prod.snd (Prod.fst s)))) < (↑(List.length (Prod.fst (Prod.snd (Prod.snd (Prod.fst s))))) : Int))) <|
    .br (!(numOf (encF rPair (Prod.fst (Prod.snd (Prod.fst s))) ((0 : Nat) + Int.toNat (Prod.snd (Prod.snd (Prod.snd (Prod.snd (Prod.fst s)))))) (0 : Nat)) == numOf (encF rPair (Prod.fst (Prod.snd (Prod.snd (Prod.fst s)))) ((0 : Nat) + Int.toNat (Prod.snd (Prod.snd (Prod.snd (Prod.snd (Prod.fst s)))))) (0 : Nat)) && numOf (encF rPair (Prod.fst (Prod.snd (Prod.fst s))) ((0 : Nat) + Int.toNat (Prod.snd (Prod.snd (Prod.snd (Prod.snd (Prod.fst s)))))) (nat_lit 1)) == numOf (encF rPair (Prod.fst (Prod.snd (Prod.snd (Prod.fst s)))) ((0 : Nat) + Int.toNat (Prod.snd (Prod.snd (Prod.snd (Prod.snd (Prod.fst s)))))) (nat_lit 1)))) (
      .ret (Sum.inr (Sum.inl false))) (
      .ret (Sum.inl ((Prod.fst (Prod.fst s), decF rPair (List.length (Prod.fst (Prod.snd (Prod.fst s)))) fun i => encF rPair (Prod.fst (Prod.snd (Prod.fst s))) ((0 : Nat) + i), decF rPair (List.length (Prod.fst (Prod.snd (Prod.snd (Prod.fst s))))) fun i => encF rPair (Prod.fst (Prod.snd (Prod.snd (Prod.fst s)))) ((0 : Nat) + i), decF rInt (List.length (Prod.fst (Prod.snd (Prod.snd (Prod.snd (Prod.fst s)))))) fun i => encF rInt (Prod.fst (Prod.snd (Prod.snd (Prod.snd (Prod.fst s))))) ((0 : Nat) + i), IntKind.wrap IntKind.i64 (Prod.snd (Prod.snd (Prod.snd (Prod.snd (Prod.fst s)))) + (1 : Int))), (decF rInt (List.length (Prod.fst (Prod.fst (Prod.snd s)))) fun i => encF rInt (Prod.fst (Prod.fst (Prod.snd s))) ((0 : Nat) + i), Prod.snd (Prod.fst (Prod.snd s))), PUnit.unit)))) (
    .ret (Sum.inr (Sum.inr ((Prod.fst (Prod.fst s), decF rInt (List.length (Prod.fst (Prod.snd (Prod.snd (Prod.snd (Prod.fst s)))))) fun i => encF rInt (Prod.fst (Prod.snd (Prod.snd (Prod.snd (Prod.fst s))))) ((0 : Nat) + i), PUnit.unit), (decF rInt (List.length (Prod.fst (Prod.fst (Prod.snd s)))) fun i => encF rInt (Prod.fst (Prod.fst (Prod.snd s))) ((0 : Nat) + i), Prod.snd (Prod.fst (Prod.snd s))), PUnit.unit))))) := fun s => by kernel_rfl
noncomputable def K.L_lb := lim K.st_lb
noncomputable def BKBl81 : Tab := BKBl73.addNode 6 105 (nodeE [17, 12, 10, 5, 16, 14] S_lb X_lb (fun s => .obs (K.L_lb s) .ret))
theorem tKBl81 : TabOk P BKBl81 := TabOk.addLoop (d := 30) okP tKBl73 (by kernel_rfl) (by kernel_rfl) (fun s r h => obs_ret h)
theorem fn_lb : ∀ a, (callT1 P BKBl81 30 6 D_off dB) a = T.run (
  .br (!few (Prod.fst a)) (
    .ret (true)) (
    .br (CheckBulbs (Prod.fst a) != (0 : Int)) (
      .chk (decide (len (Bulbs.glasses (Prod.fst a)) ≤ (10000 : Nat))) <|
      .chk (decide (len (Bulbs.glasses (Prod.fst a)) ≤ (1000000 : Nat))) <|
      .br (CheckBulbs (Prod.fst a) != r_bulbs (Prod.fst a)) (
        .ret (false)) (
        .br (!((0 : Int) == Span.lo (Prod.fst (r_Off a)) && (0 : Int) == Span.hi (Prod.fst (r_Off a)))) (
          .ret (false)) (
          .br (CheckBulbs (Prod.fst a) != Prod.snd (r_Off a)) (
            .ret (false)) (
            .br (Prod.snd (cla a) != Prod.snd (r_cla a)) (
              .ret (false)) (
              .br ((↑(clampL (List.length (Prod.fst (cla a)))) : Int) != (↑(clampL (List.length (Prod.fst (r_cla a)))) : Int)) (
                .ret (false)) (
                .br (Prod.snd (blm a) != Prod.snd (r_blm a)) (
                  .ret (false)) (
                  .obs (L_lb ((true, decF rPair (List.length (Prod.fst (cla a))) fun i => encF rPair (Prod.fst (cla a)) ((0 : Nat) + i), decF rPair (List.length (Prod.fst (r_cla a))) fun i => encF rPair (Prod.fst (r_cla a)) ((0 : Nat) + i), decF rInt (List.length (Prod.fst (blm a))) fun i => encF rInt (Prod.fst (blm a)) ((0 : Nat) + i), (0 : Int)), (decF rInt (List.length (Prod.fst (r_blm a))) fun i => encF rInt (Prod.fst (r_blm a)) ((0 : Nat) + i), Prod.snd (r_blm a)), PUnit.unit)) fun x0 =>
                    .sum (x0) (fun x1 =>
                      .ret (x1)) (fun x1 =>
                      .chk (decide (List.length (decF rInt (List.length (Prod.fst (Prod.snd (Prod.fst x1)))) fun i => encF rInt (Prod.fst (Prod.snd (Prod.fst x1))) ((0 : Nat) + i)) ≤ (1000000 : Nat))) <|
                      .chk (decide (List.length (decF rInt (List.length (Prod.fst (Prod.fst (Prod.snd x1)))) fun i => encF rInt (Prod.fst (Prod.fst (Prod.snd x1))) ((0 : Nat) + i)) ≤ (1000000 : Nat))) <|
                      .br (Prod.fst (Prod.fst x1)) (
                        .ret (sameL (decF rInt (List.length (Prod.fst (Prod.snd (Prod.fst x1)))) fun i => encF rInt (Prod.fst (Prod.snd (Prod.fst x1))) ((0 : Nat) + i), decF rInt (List.length (Prod.fst (Prod.fst (Prod.snd x1)))) fun i => encF rInt (Prod.fst (Prod.fst (Prod.snd x1))) ((0 : Nat) + i)))) (
                        .ret (false)))))))))) (
      .chk (decide (len (Bulbs.glasses (Prod.fst a)) ≤ (10000 : Nat))) <|
      .chk (decide (len (Bulbs.glasses (Prod.fst a)) ≤ (1000000 : Nat))) <|
      .br (CheckBulbs (Prod.fst a) != r_bulbs (Prod.fst a)) (
        .ret (false)) (
        .br (!(Span.lo (Prod.fst (off a)) == Span.lo (Prod.fst (r_Off a)) && Span.hi (Prod.fst (off a)) == Span.hi (Prod.fst (r_Off a)))) (
          .ret (false)) (
          .br (Prod.snd (off a) != Prod.snd (r_Off a)) (
            .ret (false)) (
            .br (Prod.snd (cla a) != Prod.snd (r_cla a)) (
              .ret (false)) (
              .br ((↑(clampL (List.length (Prod.fst (cla a)))) : Int) != (↑(clampL (List.length (Prod.fst (r_cla a)))) : Int)) (
                .ret (false)) (
                .br (Prod.snd (blm a) != Prod.snd (r_blm a)) (
                  .ret (false)) (
                  .obs (L_lb ((true, decF rPair (List.length (Prod.fst (cla a))) fun i => encF rPair (Prod.fst (cla a)) ((0 : Nat) + i), decF rPair (List.length (Prod.fst (r_cla a))) fun i => encF rPair (Prod.fst (r_cla a)) ((0 : Nat) + i), decF rInt (List.length (Prod.fst (blm a))) fun i => encF rInt (Prod.fst (blm a)) ((0 : Nat) + i), (0 : Int)), (decF rInt (List.length (Prod.fst (r_blm a))) fun i => encF rInt (Prod.fst (r_blm a)) ((0 : Nat) + i), Prod.snd (r_blm a)), PUnit.unit)) fun x0 =>
                    .sum (x0) (fun x1 =>
                      .ret (x1)) (fun x1 =>
                      .chk (decide (List.length (decF rInt (List.length (Prod.fst (Prod.snd (Prod.fst x1)))) fun i => encF rInt (Prod.fst (Prod.snd (Prod.fst x1))) ((0 : Nat) + i)) ≤ (1000000 : Nat))) <|
                      .chk (decide (List.length (decF rInt (List.length (Prod.fst (Prod.fst (Prod.snd x1)))) fun i => encF rInt (Prod.fst (Prod.fst (Prod.snd x1))) ((0 : Nat) + i)) ≤ (1000000 : Nat))) <|
                      .br (Prod.fst (Prod.fst x1)) (
                        .ret (sameL (decF rInt (List.length (Prod.fst (Prod.snd (Prod.fst x1)))) fun i => encF rInt (Prod.fst (Prod.snd (Prod.fst x1))) ((0 : Nat) + i), decF rInt (List.length (Prod.fst (Prod.fst (Prod.snd x1)))) fun i => encF rInt (Prod.fst (Prod.fst (Prod.snd x1))) ((0 : Nat) + i)))) (
                        .ret (false)))))))))))) := fun a => by kernel_rfl
end Go.Proofs.YtjbhooodjmjdkaaGreat
/-! KBl9 -/
namespace Go.Proofs.YtjbhooodjmjdkaaGreat
open Ev K
set_option maxRecDepth 100000
namespace K
theorem rc1_ne {b : Bulbs} {i : Nat} : e_rc1 b i ≠ some 0 := by
  unfold e_rc1
  split
  · exact fun h => by cases h
  split
  · exact fun h => by cases h
  split <;> exact fun h => by cases h
theorem rc2_ne {b : Bulbs} {i : Nat} : e_rc2 b i ≠ some 0 := by
  unfold e_rc2
  iterate 6
    split
    · exact fun h => by cases h
  exact fun h => by cases h
/-- Valid glasses: each can be found by its ID alone. -/
theorem gls_find {b : Bulbs} (hb : CheckBulbs b = 0) {k : Nat} (hk : k < len b.glasses) : i_rglass b (gls b.glasses k).id = (k : Int) := by
  rw [← r_bulbs_is] at hb
  unfold r_bulbs at hb
  split at hb
  · cases hb
  split at hb
  · cases hb
  cases h1 : (List.range (len b.hydros)).findSome? (e_rc1 b) with
  | some e =>
    rw [h1] at hb
    have : e = 0 := hb
    obtain ⟨j, _, hj⟩ := List.exists_of_findSome?_eq_some h1
    exact absurd (by rw [hj, this]) (rc1_ne (b := b) (i := j))
  | none =>
    rw [h1] at hb
    cases h2 : (List.range (len b.glasses)).findSome? (e_rc2 b) with
    | some e =>
      rw [h2] at hb
      have : e = 0 := hb
      obtain ⟨j, _, hj⟩ := List.exists_of_findSome?_eq_some h2
      exact absurd (by rw [hj, this]) (rc2_ne (b := b) (i := j))
    | none =>
      have h3 := (List.findSome?_eq_none_iff.1 h2) k (List.mem_range.2 hk)
      have h4 := i_rglass_at hk
      apply Int.le_antisymm h4.2
      apply Int.not_lt.1
      intro h5
      unfold e_rc2 at h3
      split at h3
      · cases h3
      split at h3
      · cases h3
      split at h3
      · cases h3
      split at h3
      · cases h3
      split at h3
      · cases h3
      first | (cases h3; done) | (rw [if_pos h5] at h3; cases h3)
theorem void_comm (a b : Span) : void (meet a b) = void (meet b a) := by
  unfold void meet
  apply decide_eq_decide.2
  simp only
  split <;> split <;> split <;> split <;> omega
/-- The glasses of a hydrometer have distinct IDs. -/
theorem mine_nodup {b : Bulbs} (hb : CheckBulbs b = 0) (n : Int) : (mineU b n).Nodup := by
  unfold mineU mineR
  rw [List.nodup_iff_pairwise_ne, List.pairwise_map]
  refine List.Pairwise.imp_of_mem (R := fun i j => i ≠ j) (fun {i j} hi hj hne e => ?_) (List.Pairwise.filter _ (List.nodup_iff_pairwise_ne.1 List.nodup_range))
  have h1 := gls_find hb (List.mem_range.1 (List.mem_filter.1 hi).1)
  have h2 := gls_find hb (List.mem_range.1 (List.mem_filter.1 hj).1)
  rw [e, h2] at h1
  exact hne (by omega)
/-- The list of the glasses' IDs, and what they allow. -/
theorem glassesL_ids (b : Bulbs) (n : Int) : (glassesL b n).map (fun g => g.g.id) = mineU b n := by
  unfold glassesL mineU mineR
  rw [List.map_map]; rfl
theorem glassesL_al {b : Bulbs} (hb : CheckBulbs b = 0) {n : Int} {g : GlassE} (h : g ∈ glassesL b n) : g.errors = al b g.g.id := by
  unfold glassesL at h
  obtain ⟨k, hk, rfl⟩ := List.mem_map.1 h
  have := gls_find hb (List.mem_range.1 (List.mem_filter.1 hk).1)
  unfold al
  show (toldOf (gls b.glasses k)).errors = r_all (gls b.glasses (i_rglass b (gls b.glasses k).id).toNat)
  rw [this]; rfl
theorem flatMap_append_perm {α β : Type} (f g : α → List β) : ∀ (l : List α), (l.flatMap fun x => f x ++ g x).Perm (l.flatMap f ++ l.flatMap g)
  | [] => by simp
  | x :: l => by
    rw [List.flatMap_cons, List.flatMap_cons, List.flatMap_cons, List.append_assoc, List.append_assoc]
    refine List.Perm.append_left _ ?_
    refine ((flatMap_append_perm f g l).append_left _).trans ?_
    rw [← List.append_assoc, ← List.append_assoc]
    exact List.Perm.append_right _ List.perm_append_comm
theorem flatMap_perm {α β : Type} {f g : α → List β} : ∀ {l : List α}, (∀ x ∈ l, (f x).Perm (g x)) → (l.flatMap f).Perm (l.flatMap g)
  | [], _ => by simp
  | x :: l, h => by
    rw [List.flatMap_cons, List.flatMap_cons]
    exact (h x (by simp)).append (flatMap_perm fun y hy => h y (by simp [hy]))
theorem flatMap_congr' {α β : Type} {f g : α → List β} : ∀ {l : List α}, (∀ x ∈ l, f x = g x) → l.flatMap f = l.flatMap g
  | [], _ => rfl
  | x :: l, h => by rw [List.flatMap_cons, List.flatMap_cons, h x (by simp), flatMap_congr' fun y hy => h y (by simp [hy])]
/-- One pair, by the IDs. -/
noncomputable def pr (b : Bulbs) (x y : Int) : List (Int × Int) := if x < y then r3 b x y else []
theorem claL_perm {a : Bulbs × Int} (hb : CheckBulbs a.1 = 0) {i : Nat} (hi : first (p_rhydro a.1 a.2) (len a.1.hydros) = some i) :
    (claL a).Perm ((mineU a.1 a.2).flatMap (r1 a.1 i) ++ (mineU a.1 a.2).flatMap fun x => (mineU a.1 a.2).flatMap (pr a.1 x)) := by
  have hh : (hydro a).1 = hyd a.1.hydros i := by
    show (hydro (a.1, a.2)).1 = _
    rw [hydro_is, hi]
  unfold claL
  refine List.Perm.trans (l₂ := (glassesL a.1 a.2).flatMap fun g => r1 a.1 i g.g.id ++ (mineU a.1 a.2).flatMap (pr a.1 g.g.id)) (flatMap_perm fun g hg => ?_) ?_
  · unfold co1
    rw [hh]
    have e := glassesL_al hb hg
    refine List.Perm.append ?_ ?_
    · unfold r1
      rw [r_none_is, r_both_is, void_comm, e]
    · rw [← glassesL_ids, List.flatMap_map]
      refine flatMap_perm fun x hx => ?_
      have e2 := glassesL_al hb hx
      unfold ci1 ciP pr r3
      rw [r_none_is, r_both_is, e, e2]
      by_cases h : g.g.id < x.g.id
      · rw [if_pos h, decide_eq_true h, Bool.true_and]
      · rw [if_neg h, decide_eq_false h, Bool.false_and, if_neg (by decide)]
  · refine (flatMap_append_perm _ _ _).trans ?_
    rw [← glassesL_ids, List.flatMap_map, List.flatMap_map]
/-- The pairs of a list in increasing order. -/
theorem pr_sorted {b : Bulbs} {l : List Int} (h : l.Pairwise (· < ·)) {i : Nat} (hi : i < l.length) : l.flatMap (pr b (atI l i)) = r2 b l i := by
  have e := (List.take_append_drop (i + 1) l).symm
  have h1 : (l.take (i + 1)).flatMap (pr b (atI l i)) = [] := by
    rw [List.flatMap_eq_nil_iff]
    intro y hy
    obtain ⟨j, hj, e⟩ := List.mem_iff_getElem.1 hy
    rw [List.getElem_take] at e
    simp only [List.length_take] at hj
    unfold pr
    rw [if_neg]
    rw [atI_get hi, ← e]
    by_cases hji : j = i
    · subst hji; omega
    · have := (List.pairwise_iff_getElem.1 h) j i (by omega) hi (by omega); omega
  have h2 : (l.drop (i + 1)).flatMap (pr b (atI l i)) = (l.drop (i + 1)).flatMap (r3 b (atI l i)) := by
    refine flatMap_congr' fun y hy => ?_
    obtain ⟨j, hj, e⟩ := List.mem_iff_getElem.1 hy
    rw [List.getElem_drop] at e
    simp only [List.length_drop] at hj
    unfold pr
    rw [if_pos]
    rw [atI_get hi, ← e]
    exact (List.pairwise_iff_getElem.1 h) i (i + 1 + j) hi (by omega) (by omega)
  conv => lhs; arg 2; rw [e]
  rw [List.flatMap_append, h1, h2]; rfl
theorem range_flatMap {β : Type} (l : List Int) (f : Int → List β) : l.flatMap f = (List.range l.length).flatMap fun i => f (atI l i) := by
  have : l = (List.range l.length).map (atI l) := by
    apply List.ext_getElem (by simp)
    intro i h1 h2
    rw [List.getElem_map, List.getElem_range, atI_get h1]
  conv => lhs; rw [this]
  rw [List.flatMap_map]
theorem mine_lt {a : Bulbs × Int} (hb : CheckBulbs a.1 = 0) : (r_mine a).Pairwise (· < ·) := by
  have h1 : (r_mine a).Pairwise (· ≤ ·) := risL_sorted _
  have h2 : (r_mine a).Nodup := (risL_perm (mineU a.1 a.2)).nodup_iff.2 (mine_nodup hb a.2)
  exact (h1.and (List.nodup_iff_pairwise_ne.1 h2)).imp (fun {x y} h => by omega)
theorem claL_perm2 {a : Bulbs × Int} (hb : CheckBulbs a.1 = 0) {i : Nat} (hi : first (p_rhydro a.1 a.2) (len a.1.hydros) = some i) : (rclL a i).Perm (claL a) := by
  refine List.Perm.symm ((claL_perm hb hi).trans ?_)
  have hp : (mineU a.1 a.2).Perm (r_mine a) := (risL_perm _).symm
  unfold rclL
  refine List.Perm.append (hp.flatMap_right _) ?_
  refine (hp.flatMap_right _).trans ?_
  rw [range_flatMap (r_mine a)]
  refine flatMap_perm fun j hj => ?_
  rw [← pr_sorted (mine_lt hb) (List.mem_range.1 hj)]
  exact hp.flatMap_right _
theorem mine_pos {a : Bulbs × Int} (hb : CheckBulbs a.1 = 0) {x : Int} (h : x ∈ r_mine a) : 0 < x := by
  obtain ⟨k, hk, _, e⟩ := mine_mem ((risL_perm _).mem_iff.1 h)
  rw [← r_bulbs_is] at hb
  unfold r_bulbs at hb
  split at hb
  · cases hb
  split at hb
  · cases hb
  cases h1 : (List.range (len a.1.hydros)).findSome? (e_rc1 a.1) with
  | some e =>
    rw [h1] at hb
    have : e = 0 := hb
    obtain ⟨j, _, hj⟩ := List.exists_of_findSome?_eq_some h1
    exact absurd (by rw [hj, this]) (rc1_ne (b := a.1) (i := j))
  | none =>
    rw [h1] at hb
    cases h2 : (List.range (len a.1.glasses)).findSome? (e_rc2 a.1) with
    | some e =>
      rw [h2] at hb
      have : e = 0 := hb
      obtain ⟨j, _, hj⟩ := List.exists_of_findSome?_eq_some h2
      exact absurd (by rw [hj, this]) (rc2_ne (b := a.1) (i := j))
    | none =>
      have h3 := (List.findSome?_eq_none_iff.1 h2) k (List.mem_range.2 hk)
      unfold e_rc2 at h3
      split at h3
      · cases h3
      · rename_i hc
        rw [r_id_is] at hc
        unfold within at hc
        rw [e] at hc
        simp at hc
        omega
theorem rclL_sorted {a : Bulbs × Int} (hb : CheckBulbs a.1 = 0) (i : Nat) : (rclL a i).Pairwise fun x y => Go.Proofs.ltOf cmpP y x = false := by
  have hlt := mine_lt hb
  have key : ∀ x y : Int × Int, (x.1 < y.1 ∨ x.1 = y.1 ∧ x.2 < y.2) → Go.Proofs.ltOf cmpP y x = false := fun x y h => by rw [ltP]; simp; omega
  have hr1 : ∀ x z, z ∈ r1 a.1 i x → z = (0, x) := fun x z hz => by
    unfold r1 at hz
    split at hz
    · simpa using hz
    · cases hz
  have hr2 : ∀ j z, j < (r_mine a).length → z ∈ r2 a.1 (r_mine a) j → z.1 = atI (r_mine a) j ∧ ∃ y ∈ (r_mine a).drop (j + 1), z.2 = y := fun j z hj hz => by
    unfold r2 at hz
    obtain ⟨y, hy, hz⟩ := List.mem_flatMap.1 hz
    unfold r3 at hz
    split at hz
    · rw [List.mem_singleton] at hz; subst hz; exact ⟨rfl, y, hy, rfl⟩
    · cases hz
  unfold rclL
  rw [List.pairwise_append]
  refine ⟨?_, ?_, fun x hx y hy => ?_⟩
  · rw [List.pairwise_flatMap]
    refine ⟨fun x _ => ?_, hlt.imp fun {x y} h z hz w hw => ?_⟩
    · unfold r1; split <;> simp
    · rw [hr1 x z hz, hr1 y w hw]; exact key _ _ (.inr ⟨rfl, h⟩)
  · rw [List.pairwise_flatMap]
    refine ⟨fun j hj => ?_, List.Pairwise.imp_of_mem (fun {j k} hj hk h z hz w hw => ?_) (List.pairwise_lt_range)⟩
    · have hj := List.mem_range.1 hj
      unfold r2
      rw [List.pairwise_flatMap]
      refine ⟨fun y _ => ?_, (hlt.sublist (List.drop_sublist _ _)).imp fun {x y} h z hz w hw => ?_⟩
      · unfold r3; split <;> simp
      · unfold r3 at hz hw
        split at hz
        · split at hw
          · rw [List.mem_singleton] at hz hw; subst hz; subst hw; exact key _ _ (.inr ⟨rfl, h⟩)
          · cases hw
        · cases hz
    · have hj := List.mem_range.1 hj; have hk := List.mem_range.1 hk
      obtain ⟨e1, _⟩ := hr2 j z hj hz
      obtain ⟨e2, _⟩ := hr2 k w hk hw
      refine key _ _ (.inl ?_)
      rw [e1, e2, atI_get hj, atI_get hk]
      exact (List.pairwise_iff_getElem.1 hlt) j k hj hk h
  · obtain ⟨x0, hx0, hx⟩ := List.mem_flatMap.1 hx
    obtain ⟨j, hj, hy⟩ := List.mem_flatMap.1 hy
    have hj := List.mem_range.1 hj
    obtain ⟨e2, _⟩ := hr2 j y hj hy
    rw [hr1 x0 x hx]
    refine key _ _ (.inl ?_)
    rw [e2, atI_get hj]
    exact mine_pos hb (List.getElem_mem hj)
theorem cla_is (a : Bulbs × Int) : cla a = r_cla a := by
  unfold cla r_cla
  rw [r_bulbs_is]
  by_cases hb : CheckBulbs a.1 = 0
  · rw [if_neg (show ¬ (CheckBulbs a.1 != 0) = true by simp [hb]), if_neg (show ¬ (CheckBulbs a.1 != 0) = true by simp [hb])]
    have hh : (hydro a).2 = (first (p_rhydro a.1 a.2) (len a.1.hydros)).isSome := by
      show (hydro (a.1, a.2)).2 = _
      rw [hydro_is]
      cases first (p_rhydro a.1 a.2) (len a.1.hydros) <;> rfl
    rw [hh]
    cases hf : first (p_rhydro a.1 a.2) (len a.1.hydros) with
    | none => rfl
    | some i =>
      simp only [Option.isSome_some, Bool.not_true, Bool.false_eq_true, if_false]
      have : sortP (claL a) = rclL a i := sortF_unique swoP (claL_perm2 hb hf) (rclL_sorted hb i) (fun x _ y _ h1 h2 => by
        rw [ltP] at h1 h2
        simp only [decide_eq_false_iff_not] at h1 h2
        exact Prod.ext (by omega) (by omega))
      rw [this]
  · rw [if_pos (show (CheckBulbs a.1 != 0) = true by simp [hb]), if_pos (show (CheckBulbs a.1 != 0) = true by simp [hb])]
theorem blm_is (a : Bulbs × Int) : blm a = r_blm a := by
  unfold blm r_blm
  rw [r_bulbs_is]
  by_cases hb : CheckBulbs a.1 = 0
  · rw [if_neg (show ¬ (CheckBulbs a.1 != 0) = true by simp [hb]), if_neg (show ¬ (CheckBulbs a.1 != 0) = true by simp [hb])]
    have hh : hydro a = match first (p_rhydro a.1 a.2) (len a.1.hydros) with | some i => (hyd a.1.hydros i, true) | none => (⟨0, ⟨0, 0⟩⟩, false) := hydro_is a.1 a.2
    cases hf : first (p_rhydro a.1 a.2) (len a.1.hydros) with
    | none => rw [hf] at hh; rw [hh]; rfl
    | some i =>
      rw [hf] at hh
      simp only
      rw [hh, r_none_is, r_off_is]
      simp only [Bool.not_true, Bool.false_eq_true, if_false]
      have : sortL (blmL a) = (r_mine a).filter (rblP a.1 i) := by
        refine sorted_eq (sortL_sorted _) ((risL_sorted _).filter _) ((sortL_perm _).trans ?_)
        refine List.Perm.trans ?_ ((risL_perm (mineU a.1 a.2)).symm.filter _)
        unfold blmL
        rw [hh, ← glassesL_ids, List.filter_map]
        simp only
        generalize glassesL a.1 a.2 = G
        have e : ∀ G : List GlassE, G.flatMap (blm1 a.1 (hyd a.1.hydros i)) = (G.filter (rblP a.1 i ∘ fun g => g.g.id)).map fun g => g.g.id := by
          intro G
          induction G with
          | nil => rfl
          | cons g G ih =>
            rw [List.flatMap_cons, ih]
            have e1 : (rblP a.1 i ∘ fun g : GlassE => g.g.id) g = !void (errs a.1 (hyd a.1.hydros i) g.g.id) := by
              show rblP a.1 i g.g.id = _
              unfold rblP
              rw [r_none_is, r_off_is]
            unfold blm1
            cases hc : void (errs a.1 (hyd a.1.hydros i) g.g.id) with
            | true => rw [List.filter_cons_of_neg (by rw [e1, hc]; decide)]; rfl
            | false => rw [List.filter_cons_of_pos (by rw [e1, hc]; decide)]; rfl
        rw [e]
      rw [this]
  · rw [if_pos (show (CheckBulbs a.1 != 0) = true by simp [hb]), if_pos (show (CheckBulbs a.1 != 0) = true by simp [hb])]
end K
end Go.Proofs.YtjbhooodjmjdkaaGreat
/-! KBla -/
namespace Go.Proofs.YtjbhooodjmjdkaaGreat
open Ev K
set_option maxRecDepth 100000
namespace K
theorem few_le {b : Bulbs} (h : few b = true) : len b.glasses ≤ 60 := by
  unfold few at h
  split at h
  · have := of_decide_eq_true h; omega
  · cases h
theorem L_lb_eq (c : Bool) (l : List (Int × Int)) (n q : List Int) (e : Int) (hl : l.length ≤ 1000000) : L_lb ((c, l, l, n, 0), (q, e), ()) = some (.inr ((c, n, ()), (q, e), ())) := by
  have hc : clampL l.length = l.length := clampL_eq (by unfold maxL; omega)
  have e0 : (decF rPair l.length fun i => encF rPair l i) = l := decF_encF rPair l
  have e1 : ∀ q : List Int, (decF rInt q.length fun i => encF rInt q i) = q := fun q => decF_encF rInt q
  refine lim_all (step := st_lb) (fun i => ((c, l, l, n, (i : Int)), (q, e), ())) l.length (fun i hi => ?_) ?_
  · rw [sl_lb]
    simp only [T.run_br, T.run_chk, T.run_ret, decide_eq_true_eq, Int.toNat_natCast, hc, Nat.zero_add, e0, e1, beq_self_eq_true, Bool.and_self, Bool.not_true, Bool.false_eq_true, if_false]
    rw [if_pos (by omega), if_pos (by omega), if_pos (by omega), w64_in (n := (i : Int) + 1) (by omega) (by omega)]; rfl
  · rw [sl_lb]
    simp only [T.run_br, T.run_ret, decide_eq_true_eq, hc, Nat.zero_add, e1]
    rw [if_neg (by omega)]
theorem cla_le (a : Bulbs × Int) : (cla a).1.length ≤ 1640 := by
  unfold cla
  split
  · simp
  split
  · simp
  · rename_i h _
    have hf := (bulbs_few (b := a.1) (by simpa using h)).2
    have h1 := glassesL_length a.1 a.2
    have h2 : (claL a).length ≤ _ := claL_le a (glassesL a.1 a.2)
    have h3 : (glassesL a.1 a.2).length * (1 + (glassesL a.1 a.2).length) ≤ 40 * 41 := Nat.mul_le_mul (by omega) (by omega)
    show (sortP (claL a)).length ≤ 1640
    rw [show (sortP (claL a)).length = (claL a).length from sortF_length swoP _]; omega
theorem blm_le (a : Bulbs × Int) : (blm a).1.length ≤ 40 := by
  unfold blm
  split
  · simp
  split
  · simp
  split
  · simp
  · rename_i h _ _
    have hf := (bulbs_few (b := a.1) (by simpa using h)).2
    have h1 := glassesL_length a.1 a.2
    have h2 := blmL_length a
    show (sortL (blmL a)).length ≤ 40
    rw [sortL_length]; omega
def lawT {α : Type} (_ : α) : Bool := true
theorem lawBulbs_eq (a : Bulbs × Int) : callT1 P BKBl81 30 6 D_off dB a = some (lawT a) := by
  have hn : ∀ n : Int, (n != n) = false := fun n => by simp
  have h1 := cla_le a; have h2 := blm_le a
  rw [fn_lb, ← cla_is, ← blm_is, r_bulbs_is]
  simp only [decF_enc0]
  rw [T.run_br]
  split
  · rfl
  rename_i hf
  have hf := few_le (b := a.1) (by simpa using hf)
  have tail : ∀ (f : _ → T Bool), T.run (f ((true, (blm a).1, ()), ((blm a).1, (blm a).2), ())) = some true → T.run (.obs (L_lb ((true, (cla a).1, (cla a).1, (blm a).1, 0), ((blm a).1, (blm a).2), ())) fun x0 => .sum x0 (fun x1 => .ret x1) f) = some true := by
    intro f h
    rw [L_lb_eq _ _ _ _ _ (by omega), T.run_some]
    exact h
  have key : ∀ (o p : Bool) (t : T Bool), o = false → p = false → t.run = some true → T.run (.br o (.ret false) (.br p (.ret false) t)) = some true := by
    intro o p t h1 h2 h3; subst h1; subst h2; exact h3
  have one : ∀ (o : Bool) (t : T Bool), o = false → t.run = some true → T.run (.br o (.ret false) t) = some true := by
    intro o t h1 h3; subst h1; exact h3
  have last : T.run (.chk (decide ((blm a).1.length ≤ 1000000)) (.chk (decide ((blm a).1.length ≤ 1000000)) (.br true (.ret (sameL ((blm a).1, (blm a).1))) (.ret false)))) = some true := by
    refine chk_step (decide_eq_true (by omega)) (chk_step (decide_eq_true (by omega)) ?_)
    show some (sameL ((blm a).1, (blm a).1)) = some true
    unfold sameL; simp
  rw [T.run_br]
  split
  · rename_i hb
    have hr : r_Off a = (⟨0, 0⟩, CheckBulbs a.1) := by
      unfold r_Off
      rw [r_bulbs_is, if_pos hb]
    rw [hr]
    refine chk_step (decide_eq_true (by omega)) (chk_step (decide_eq_true (by omega)) (one _ _ (hn _) (key _ _ _ (by simp) (hn _) (key _ _ _ (hn _) (hn _) (one _ _ (hn _) (tail _ last))))))
  · rename_i hb
    have hr : r_Off a = off a := r_Off_is (b := a.1) (by simpa using hb) a.2
    rw [hr]
    refine chk_step (decide_eq_true (by omega)) (chk_step (decide_eq_true (by omega)) (one _ _ (hn _) (key _ _ _ (by simp) (hn _) (key _ _ _ (hn _) (hn _) (one _ _ (hn _) (tail _ last))))))
theorem lawT_true {α : Type} (a : α) : lawT a = true := rfl
end K
end Go.Proofs.YtjbhooodjmjdkaaGreat
/-! KZBulbs -/
namespace Go.Proofs.YtjbhooodjmjdkaaGreat
open Ev K
open Go.ChangeShapes Go.WideShapes Go.RowKit
set_option maxRecDepth 100000
theorem law_pc (a) : PC P 6 (D_off.enc a) (.bool true) := by
  have h := lawBulbs_eq a
  rw [lawT_true] at h
  exact call_of okP tKBl81 h
theorem ownP : ownKnob P.godebug = none := by kernel_rfl
theorem laidP : laidOutB P = true := by kernel_rfl
theorem ub : P.underlying 4 = some .bool := by kernel_rfl
theorem surveyBulbs_lifted (os : Os) (started : os.Started) (H : Type) (enc : TypeId × Value → H) :
    ReturnsInHanded {} Tryz.checked os 6 .any (Rows.surveyBulbsSpec.pre6 enc Tryz.prog Tryz.f6 Rows.surveyBulbsRow.domain false) (Rows.surveyBulbsSpec.post enc Tryz.prog Tryz.f6 false true false false) := by
  refine returnsInHanded_of_change (C := Tryz.checked) ownP started (by kernel_rfl) Tryz.func6
    (ChangeSpec.witness6 (enc := enc) (C := Tryz.checked) false ⟨#[], #[.agg #[.slice none 0 0, .slice none 0 0], .int .i64 0], []⟩ 8 (by kernel_rfl) (by kernel_rfl) (by kernel_rfl) (by kernel_rfl)) ?_
  intro W base args ds gs before hval hW _ _
  refine law_contract (P := Tryz.prog) D_off laidP (by kernel_rfl) rfl (fun ds hd => ?_) (fun W' b sp hd => trodAll_mk1 (shut_bool ub true)) (fun W' => ok_one (by kernel_rfl) rfl (okWide_bool_mk ub true)) (fun W base args ds p hval hA => ?_) law_pc W base args ds gs before hval hW
  · rw [Tryz.params6] at hd
    match ds, hd with
    | [a, b], _ => rfl
  · rw [Tryz.params6] at hA hval
    obtain ⟨v0, vs0, d0, ds0, p0, q0, e0, _, _, h0, r0⟩ := trodAll_cons hA
    obtain ⟨v1, vs1, d1, ds1, p1, q1, e1, _, _, h1, r1⟩ := trodAll_cons r0
    obtain ⟨e2, _, _⟩ := trodAll_nil r1
    subst e2; subst e1
    have ha : args = #[v0, v1] := by apply Array.ext'; exact e0
    subst ha
    exact rdL_cons (rp_bulbs (hval 0 _ v0 rfl rfl) h0) (rdL_last (rp_int (hval 1 _ v1 rfl rfl) h1))
theorem surveyBulbs_holds : Rows.SurveyBulbsSaid :=
  OpenClaim.holds_of_wide 6 Tryz.f6 rfl rfl rfl rfl rfl rfl rfl ⟨rfl, rfl, rfl, rfl, rfl⟩ rfl rfl rfl rfl rfl (by kernel_rfl) Tryz.func6 (by kernel_rfl)
    (of_decide_eq_true (by kernel_rfl)) (by unfold Func.isWrapper; rw [if_neg (of_decide_eq_false (by kernel_rfl))]; exact ⟨rfl, rfl⟩)
    (fun os started H enc _ => surveyBulbs_lifted os started H enc)
#print axioms surveyBulbs_holds
end Go.Proofs.YtjbhooodjmjdkaaGreat
