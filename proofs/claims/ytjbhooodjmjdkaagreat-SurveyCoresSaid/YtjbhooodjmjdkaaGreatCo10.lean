/- SurveyCores: for every input the law returns true, and the input reads as it did. No conditions. -/
import Derived.Test.YtjbhooodjmjdkaaGreatRows
import Derived.Test.YtjbhooodjmjdkaaGreatCo9
/-! KBl6 -/
namespace Go.Proofs.YtjbhooodjmjdkaaGreat
open Ev K
set_option maxRecDepth 100000
namespace K
noncomputable def claL (a : Bulbs × Int) : List (Int × Int) := (glassesL a.1 a.2).flatMap (co1 a.1 a.2 (hydro a).1)
noncomputable def cla (a : Bulbs × Int) : List (Int × Int) × Int := if (CheckBulbs a.1 != 0) = true then ([], CheckBulbs a.1) else if (!(hydro a).2) = true then ([], 5) else (sortP (claL a), 0)
theorem claL_le (a : Bulbs × Int) : ∀ (l : List GlassE), (l.flatMap (co1 a.1 a.2 (hydro a).1)).length ≤ l.length * (1 + (glassesL a.1 a.2).length)
  | [] => by simp
  | x :: l => by
    have := claL_le a l
    have h1 := co1_le a.1 a.2 (hydro a).1 x
    rw [List.flatMap_cons, List.length_append, List.length_cons, Nat.add_mul, Nat.one_mul]; omega
theorem cla_eq (a : Bulbs × Int) : callT1 P BKBl5s 30 27 D_off R_pairs a = some (cla a) := by
  rw [fn_cla]; unfold cla
  refine br_step (fun _ => rfl) (fun h => br_step (fun _ => rfl) (fun _ => ?_))
  have hf := (bulbs_few (b := a.1) (by simpa using h)).2
  have h1 := glassesL_length a.1 a.2
  have h2 : (claL a).length ≤ _ := claL_le a (glassesL a.1 a.2)
  have h3 : (glassesL a.1 a.2).length * (1 + (glassesL a.1 a.2).length) ≤ 40 * 41 := Nat.mul_le_mul (by omega) (by omega)
  have e0 : decF rPair 0 (fun _ _ => AV.top) = ([] : List (Int × Int)) := rfl
  have e : coApp (decF rPair 0 fun _ _ => AV.top) a a.1 a.2 (hydro a).1 = claL a := by rw [e0]; exact List.nil_append _
  rw [e]
  refine chk_step ?_ (chk_step (decide_eq_true (by omega)) ?_)
  · unfold coOk
    rw [e0]
    exact decide_eq_true ⟨rfl, by simp only [List.length_nil]; omega⟩
  · rw [T.run_ret, decF_encF]
    have := decF_enc0 rPair (sortP (claL a))
    rw [show (sortP (claL a)).length = (claL a).length from sortF_length swoP _] at this
    rw [this]
end K
noncomputable def BKBl61 : Tab := BKBl5s.addCall 27 (callE D_off R_pairs (fun a => .ret (K.cla a)))
theorem tKBl61 : TabOk P BKBl61 := TabOk.addPC tKBl5s (fun a r h => by rw [← ret_some h]; exact call_of okP tKBl5s (K.cla_eq a))
def S_cr1 := DecS.ghost 9 75 2 [.int .i64, .int .i64] (DecS.mk0 (.skips 2 (.unit (dLp 0 0 0 0) (.skips 4 (.cons (dI .i64) (.cons (dRows rInt) (.cons (dO 1) (.last (dI .i64) 99))))))) (.flat 31 lBulbs (.rows 75 rPair .nil)))
def X_cr1 := DecX.one (.exit 0) [2, 8, 9] (DecS.mk0 (.skips 2 (.unit (dLp 0 0 0 0) (.skips 5 (.cons (dRows rInt) (.last (dO 1) 100))))) (.flat 31 lBulbs (.rows 75 rPair .nil)))
noncomputable def K.st_cr1 := loopT1 P BKBl61 30 28 81 [10, 8, 9, 2, 7] S_cr1 X_cr1
theorem sl_cr1 : ∀ s, (K.st_cr1) s = T.run (
  .br (decide (Prod.snd (Prod.snd (Prod.snd (Prod.fst s))) < (↑(clampL (List.length (Prod.fst (Prod.snd (Prod.fst s))))) : Int))) (
    .chk (decide ((0 : Int) ≤ Prod.fst (Prod.fst s) ∧ Prod.fst (Prod.fst s) < (↑(XS.len (Bulbs.hydros (Prod.fst (Prod.snd s)))) : Int))) <|
    .chk (decide ((0 : Int) ≤ Prod.snd (Prod.snd (Prod.snd (Prod.fst s))) ∧ Prod.snd (Prod.snd (Prod.snd (Prod.fst s))) < (↑(List.length (Prod.fst (Prod.snd (Prod.fst s)))) : Int))) <|
    .chk (decide ((0 : Int) ≤ i_rglass (Prod.fst (Prod.snd s)) (numOf (encF rInt (Prod.fst (Prod.snd (Prod.fst s))) ((0 : Nat) + Int.toNat (Prod.snd (Prod.snd (Prod.snd (Prod.fst s))))) (0 : Nat))) ∧ i_rglass (Prod.fst (Prod.snd s)) (numOf (encF rInt (Prod.fst (Prod.snd (Prod.fst s))) ((0 : Nat) + Int.toNat (Prod.snd (Prod.snd (Prod.snd (Prod.fst s))))) (0 : Nat))) < (↑(XS.len (Bulbs.glasses (Prod.fst (Prod.snd s)))) : Int))) <|
    .br (r_none (r_both (Span.mk (XS.g (Bulbs.hydros (Prod.fst (Prod.snd s))) (Int.toNat (Prod.fst (Prod.fst s))) (1 : Nat)) (XS.g (Bulbs.hydros (Prod.fst (Prod.snd s))) (Int.toNat (Prod.fst (Prod.fst s))) (2 : Nat)), r_all (gls (Bulbs.glasses (Prod.fst (Prod.snd s))) (Int.toNat (i_rglass (Prod.fst (Prod.snd s)) (numOf (encF rInt (Prod.fst (Prod.snd (Prod.fst s))) ((0 : Nat) + Int.toNat (Prod.snd (Prod.snd (Prod.snd (Prod.fst s))))) (0 : Nat))))))))) (
      .chk (decide ((0 : Int) ≤ Prod.snd (Prod.snd (Prod.snd (Prod.fst s))) ∧ Prod.snd (Prod.snd (Prod.snd (Prod.fst s))) < (↑(List.length (Prod.fst (Prod.snd (Prod.fst s)))) : Int))) <|
      .chk (decide ((List.length (Prod.fst (Prod.snd (Prod.snd s))) + (1 : Nat)) * (16 : Nat) ≤ (140737488355328 : Nat) ∧ List.length (Prod.fst (Prod.snd (Prod.snd s))) + (1 : Nat) ≤ nat_lit 9223372036854775807)) <|
      .ret (Sum.inl ((Prod.fst (Prod.fst s), decF rInt (List.length (Prod.fst (Prod.snd (Prod.fst s)))) fun i => encF rInt (Prod.fst (Prod.snd (Prod.fst s))) ((0 : Nat) + i), List.length (Prod.fst (Prod.snd (Prod.snd s))) + (1 : Nat), IntKind.wrap IntKind.i64 (Prod.snd (Prod.snd (Prod.snd (Prod.fst s))) + (1 : Int))), Prod.fst (Prod.snd s), decF rPair (List.length (Prod.fst (Prod.snd (Prod.snd s))) + (1 : Nat)) (appG (List.length (Prod.fst (Prod.snd (Prod.snd s)))) (encF rPair (Prod.fst (Prod.snd (Prod.snd s)))) fun i k => Option.getD [AV.int IntKind.i64 (0 : Int), AV.int IntKind.i64 (numOf (encF rInt (Prod.fst (Prod.snd (Prod.fst s))) ((0 : Nat) + Int.toNat (Prod.snd (Prod.snd (Prod.snd (Prod.fst s))))) (0 : Nat)))][((0 : Nat) + i) * (2 : Nat) + k]? AV.top), PUnit.unit))) (
      .ret (Sum.inl ((Prod.fst (Prod.fst s), decF rInt (List.length (Prod.fst (Prod.snd (Prod.fst s)))) fun i => encF rInt (Prod.fst (Prod.snd (Prod.fst s))) ((0 : Nat) + i), Prod.fst (Prod.snd (Prod.snd (Prod.fst s))), IntKind.wrap IntKind.i64 (Prod.snd (Prod.snd (Prod.snd (Prod.fst s))) + (1 : Int))), Prod.fst (Prod.snd s), decF rPair (List.length (Prod.fst (Prod.snd (Prod.snd s)))) (encF rPair (Prod.fst (Prod.snd (Prod.snd s)))), PUnit.unit)))) (
    .ret (Sum.inr ((decF rInt (List.length (Prod.fst (Prod.snd (Prod.fst s)))) fun i => encF rInt (Prod.fst (Prod.snd (Prod.fst s))) ((0 : Nat) + i), Prod.fst (Prod.snd (Prod.snd (Prod.fst s)))), Prod.fst (Prod.snd s), decF rPair (List.length (Prod.fst (Prod.snd (Prod.snd s)))) (encF rPair (Prod.fst (Prod.snd (Prod.snd s)))), PUnit.unit)))) := fun s => by kernel_rfl
namespace K
/-- What a glass of the list allows. -/
noncomputable def al (b : Bulbs) (x : Int) : Span := r_all (gls b.glasses (i_rglass b x).toNat)
noncomputable def r1 (b : Bulbs) (h : Nat) (x : Int) : List (Int × Int) := if r_none (r_both ((hyd b.hydros h).off, al b x)) = true then [(0, x)] else []
noncomputable def r3 (b : Bulbs) (x y : Int) : List (Int × Int) := if r_none (r_both (al b x, al b y)) = true then [(x, y)] else []
/-- All numbers of a list name glasses. -/
def gOk (b : Bulbs) (l : List Int) : Prop := ∀ i, i < l.length → 0 ≤ i_rglass b (atI l i) ∧ i_rglass b (atI l i) < (b.glasses.len : Int)
theorem take_flat_succ {β : Type} {l : List Int} {f : Int → List β} {i : Nat} (h : i < l.length) : (l.take (i + 1)).flatMap f = (l.take i).flatMap f ++ f (atI l i) := by
  rw [List.take_add_one, List.getElem?_eq_getElem h, List.flatMap_append, atI_get h]
  simp
theorem r1_le (b : Bulbs) (h : Nat) (x : Int) : (r1 b h x).length ≤ 1 := by unfold r1; split <;> simp
theorem r3_le (b : Bulbs) (x y : Int) : (r3 b x y).length ≤ 1 := by unfold r3; split <;> simp
theorem pushP (L : List (Int × Int)) (x : Int × Int) (g : Nat → Nat → AV) (hg : rPair.rd (g 0) = x) : decF rPair (L.length + 1) (appG L.length (encF rPair L) g) = L ++ [x] := by rw [decF_push, hg]
theorem st_cr1_eq (b : Bulbs) (h : Nat) (l : List Int) (L : List (Int × Int)) (i : Nat) (hh : h < len b.hydros) (hi : i < l.length) (hl : l.length ≤ 1000000) (hL : L.length ≤ 2000000) (hg : gOk b l) :
    st_cr1 (((h : Int), l, L.length, (i : Int)), b, L, ()) = some (.inl (((h : Int), l, (L ++ r1 b h (atI l i)).length, ((i + 1 : Nat) : Int)), b, L ++ r1 b h (atI l i), ())) := by
  have hc : clampL l.length = l.length := clampL_eq (by unfold maxL; omega)
  have e1 := K.len_le b.hydros; have e2 := K.len_le' b.hydros
  obtain ⟨g1, g2⟩ := hg i hi
  rw [sl_cr1]
  have ha : numOf (encF rInt l i 0) = atI l i := rfl
  have e0 : (decF rInt l.length fun i => encF rInt l i) = l := decF_encF rInt l
  simp only [T.run_br, T.run_chk, T.run_ret, decide_eq_true_eq, Int.toNat_natCast, hc, Nat.zero_add, ha, e0]
  rw [if_pos (by omega), if_pos (by omega), if_pos (by omega), if_pos ⟨g1, g2⟩, w64_in (n := (i : Int) + 1) (by omega) (by omega)]
  have hq : r_none (r_both (⟨b.hydros.g h 1, b.hydros.g h 2⟩, r_all (gls b.glasses (i_rglass b (atI l i)).toNat))) = r_none (r_both ((hyd b.hydros h).off, al b (atI l i))) := rfl
  rw [hq]
  unfold r1
  by_cases hp : r_none (r_both ((hyd b.hydros h).off, al b (atI l i))) = true
  · rw [if_pos hp, if_pos hp, if_pos (by omega), if_pos (by omega), pushP L (0, atI l i) _ rfl]
    simp only [List.length_append]; rfl
  · rw [if_neg hp, if_neg hp, decF_encF, List.append_nil]; rfl
noncomputable def L_cr1 := lim st_cr1
theorem L_cr1_eq (b : Bulbs) (h : Nat) (l : List Int) (hh : h < len b.hydros) (hl : l.length ≤ 1000000) (hg : gOk b l) : L_cr1 (((h : Int), l, 0, 0), b, [], ()) = some ((l, (l.flatMap (r1 b h)).length), b, l.flatMap (r1 b h), ()) := by
  have hc : clampL l.length = l.length := clampL_eq (by unfold maxL; omega)
  have hle : ∀ i, ((l.take i).flatMap (r1 b h)).length ≤ i := fun i => Nat.le_trans (flatMap_le (r1_le b h) _) (by simp; omega)
  have := lim_all (step := st_cr1) (fun i => (((h : Int), l, ((l.take i).flatMap (r1 b h)).length, (i : Int)), b, (l.take i).flatMap (r1 b h), ())) l.length (r := ((l, (l.flatMap (r1 b h)).length), b, l.flatMap (r1 b h), ())) (fun i hi => ?_) ?_
  · unfold L_cr1; simpa using this
  · rw [st_cr1_eq b h l _ i hh hi hl (by have := hle i; omega) hg, take_flat_succ hi]
  · rw [sl_cr1]
    have e0 : (decF rInt l.length fun i => encF rInt l i) = l := decF_encF rInt l
    simp only [T.run_br, T.run_ret, decide_eq_true_eq, hc, Nat.zero_add, e0]
    rw [if_neg (by omega), decF_encF, List.take_of_length_le (Nat.le_refl _)]
end K
noncomputable def BKBl62 : Tab := BKBl61.addNode 28 81 (nodeE [10, 8, 9, 2, 7] S_cr1 X_cr1 (fun s => .obs (K.L_cr1 s) .ret))
theorem tKBl62 : TabOk P BKBl62 := TabOk.addLoop (d := 30) okP tKBl61 (by kernel_rfl) (by kernel_rfl) (fun s r h => obs_ret h)
def S_cr3 := DecS.mk0 (.skips 2 (.unit (dLp 0 0 0 0) (.skips 5 (.cons (dRows rInt) (.cons (dO 1) (.skip (.cons (dI .i64) (.last (dI .i64) 97)))))))) (.flat 31 lBulbs (.rows 75 rPair .nil))
def X_cr3 := DecX.one (.exit 4) [2, 8, 9, 11] (DecS.mk0 (.skips 2 (.unit (dLp 0 0 0 0) (.skips 5 (.cons (dRows rInt) (.cons (dO 1) (.skip (.last (dI .i64) 98))))))) (.flat 31 lBulbs (.rows 75 rPair .nil)))
noncomputable def K.st_cr3 := loopT1 P BKBl62 30 28 145 [12, 8, 11, 9, 2] S_cr3 X_cr3
theorem sl_cr3 : ∀ s, (K.st_cr3) s = T.run (
  .br (decide (Prod.snd (Prod.snd (Prod.snd (Prod.fst s))) < (↑(clampL (List.length (Prod.fst (Prod.fst s)))) : Int))) (
    .chk (decide ((0 : Int) ≤ Prod.fst (Prod.snd (Prod.snd (Prod.fst s))) ∧ Prod.fst (Prod.snd (Prod.snd (Prod.fst s))) < (↑(List.length (Prod.fst (Prod.fst s))) : Int))) <|
    .chk (decide ((0 : Int) ≤ i_rglass (Prod.fst (Prod.snd s)) (numOf (encF rInt (Prod.fst (Prod.fst s)) ((0 : Nat) + Int.toNat (Prod.fst (Prod.snd (Prod.snd (Prod.fst s))))) (0 : Nat))) ∧ i_rglass (Prod.fst (Prod.snd s)) (numOf (encF rInt (Prod.fst (Prod.fst s)) ((0 : Nat) + Int.toNat (Prod.fst (Prod.snd (Prod.snd (Prod.fst s))))) (0 : Nat))) < (↑(XS.len (Bulbs.glasses (Prod.fst (Prod.snd s)))) : Int))) <|
    .chk (decide ((0 : Int) ≤ Prod.snd (Prod.snd (Prod.snd (Prod.fst s))) ∧ Prod.snd (Prod.snd (Prod.snd (Prod.fst s))) < (↑(List.length (Prod.fst (Prod.fst s))) : Int))) <|
    .chk (decide ((0 : Int) ≤ i_rglass (Prod.fst (Prod.snd s)) (numOf (encF rInt (Prod.fst (Prod.fst s)) ((0 : Nat) + Int.toNat (Prod.snd (Prod.snd (Prod.snd (Prod.fst s))))) (0 : Nat))) ∧ i_rglass (Prod.fst (Prod.snd s)) (numOf (encF rInt (Prod.fst (Prod.fst s)) ((0 : Nat) + Int.toNat (Prod.snd (Prod.snd (Prod.snd (Prod.fst s))))) (0 : Nat))) < (↑(XS.len (Bulbs.glasses (Prod.fst (Prod.snd s)))) : Int))) <|
    .br (r_none (r_both (r_all (gls (Bulbs.glasses (Prod.fst (Prod.snd s))) (Int.toNat (i_rglass (Prod.fst (Prod.snd s)) (numOf (encF rInt (Prod.fst (Prod.fst s)) ((0 : Nat) + Int.toNat (Prod.fst (Prod.snd (Prod.snd (Prod.fst s))))) (0 : Nat)))))), r_all (gls (Bulbs.glasses (Prod.fst (Prod.snd s))) (Int.toNat (i_rglass (Prod.fst (Prod.snd s)) (numOf (encF rInt (Prod.fst (Prod.fst s)) ((0 : Nat) + Int.toNat (Prod.snd (Prod.snd (Prod.snd (Prod.fst s))))) (0 : Nat))))))))) (
      .chk (decide ((0 : Int) ≤ Prod.fst (Prod.snd (Prod.snd (Prod.fst s))) ∧ Prod.fst (Prod.snd (Prod.snd (Prod.fst s))) < (↑(List.length (Prod.fst (Prod.fst s))) : Int))) <|
      .chk (decide ((0 : Int) ≤ Prod.snd (Prod.snd (Prod.snd (Prod.fst s))) ∧ Prod.snd (Prod.snd (Prod.snd (Prod.fst s))) < (↑(List.length (Prod.fst (Prod.fst s))) : Int))) <|
      .chk (decide ((List.length (Prod.fst (Prod.snd (Prod.snd s))) + (1 : Nat)) * (16 : Nat) ≤ (140737488355328 : Nat) ∧ List.length (Prod.fst (Prod.snd (Prod.snd s))) + (1 : Nat) ≤ nat_lit 9223372036854775807)) <|
      .ret (Sum.inl ((decF rInt (List.length (Prod.fst (Prod.fst s))) fun i => encF rInt (Prod.fst (Prod.fst s)) ((0 : Nat) + i), List.length (Prod.fst (Prod.snd (Prod.snd s))) + (1 : Nat), Prod.fst (Prod.snd (Prod.snd (Prod.fst s))), IntKind.wrap IntKind.i64 (Prod.snd (Prod.snd (Prod.snd (Prod.fst s))) + (1 : Int))), Prod.fst (Prod.snd s), decF rPair (List.length (Prod.fst (Prod.snd (Prod.snd s))) + (1 : Nat)) (appG (List.length (Prod.fst (Prod.snd (Prod.snd s)))) (encF rPair (Prod.fst (Prod.snd (Prod.snd s)))) fun i k => Option.getD [AV.int IntKind.i64 (numOf (encF rInt (Prod.fst (Prod.fst s)) ((0 : Nat) + Int.toNat (Prod.fst (Prod.snd (Prod.snd (Prod.fst s))))) (0 : Nat))), AV.int IntKind.i64 (numOf (encF rInt (Prod.fst (Prod.fst s)) ((0 : Nat) + Int.toNat (Prod.snd (Prod.snd (Prod.snd (Prod.fst s))))) (0 : Nat)))][((0 : Nat) + i) * (2 : Nat) + k]? AV.top), PUnit.unit))) (
      .ret (Sum.inl ((decF rInt (List.length (Prod.fst (Prod.fst s))) fun i => encF rInt (Prod.fst (Prod.fst s)) ((0 : Nat) + i), Prod.fst (Prod.snd (Prod.fst s)), Prod.fst (Prod.snd (Prod.snd (Prod.fst s))), IntKind.wrap IntKind.i64 (Prod.snd (Prod.snd (Prod.snd (Prod.fst s))) + (1 : Int))), Prod.fst (Prod.snd s), decF rPair (List.length (Prod.fst (Prod.snd (Prod.snd s)))) (encF rPair (Prod.fst (Prod.snd (Prod.snd s)))), PUnit.unit)))) (
    .ret (Sum.inr ((decF rInt (List.length (Prod.fst (Prod.fst s))) fun i => encF rInt (Prod.fst (Prod.fst s)) ((0 : Nat) + i), Prod.fst (Prod.snd (Prod.fst s)), Prod.fst (Prod.snd (Prod.snd (Prod.fst s)))), Prod.fst (Prod.snd s), decF rPair (List.length (Prod.fst (Prod.snd (Prod.snd s)))) (encF rPair (Prod.fst (Prod.snd (Prod.snd s)))), PUnit.unit)))) := fun s => by kernel_rfl
namespace K
theorem st_cr3_eq (b : Bulbs) (l : List Int) (L : List (Int × Int)) (i k : Nat) (hi : i < l.length) (hk : k < l.length) (hl : l.length ≤ 1000000) (hL : L.length ≤ 2000000000) (hg : gOk b l) :
    st_cr3 ((l, L.length, (i : Int), (k : Int)), b, L, ()) = some (.inl ((l, (L ++ r3 b (atI l i) (atI l k)).length, (i : Int), ((k + 1 : Nat) : Int)), b, L ++ r3 b (atI l i) (atI l k), ())) := by
  have hc : clampL l.length = l.length := clampL_eq (by unfold maxL; omega)
  obtain ⟨g1, g2⟩ := hg i hi
  obtain ⟨g3, g4⟩ := hg k hk
  rw [sl_cr3]
  have ha : ∀ i, numOf (encF rInt l i 0) = atI l i := fun _ => rfl
  have e0 : (decF rInt l.length fun i => encF rInt l i) = l := decF_encF rInt l
  simp only [T.run_br, T.run_chk, T.run_ret, decide_eq_true_eq, Int.toNat_natCast, hc, Nat.zero_add, ha, e0]
  rw [if_pos (by omega), if_pos (by omega), if_pos ⟨g1, g2⟩, if_pos (by omega), if_pos ⟨g3, g4⟩, w64_in (n := (k : Int) + 1) (by omega) (by omega)]
  have hq : r_none (r_both (r_all (gls b.glasses (i_rglass b (atI l i)).toNat), r_all (gls b.glasses (i_rglass b (atI l k)).toNat))) = r_none (r_both (al b (atI l i), al b (atI l k))) := rfl
  rw [hq]
  unfold r3
  by_cases hp : r_none (r_both (al b (atI l i), al b (atI l k))) = true
  · rw [if_pos hp, if_pos hp, if_pos (by omega), if_pos (by omega), if_pos (by omega), pushP L (atI l i, atI l k) _ rfl]
    simp only [List.length_append]; rfl
  · rw [if_neg hp, if_neg hp, decF_encF, List.append_nil]; rfl
noncomputable def L_cr3 := lim st_cr3
/-- What a glass contradicts of those behind it. -/
noncomputable def r2 (b : Bulbs) (l : List Int) (i : Nat) : List (Int × Int) := (l.drop (i + 1)).flatMap (r3 b (atI l i))
theorem r2_le (b : Bulbs) (l : List Int) (i : Nat) : (r2 b l i).length ≤ l.length := Nat.le_trans (flatMap_le (r3_le b _) _) (by simp)
theorem atI_drop (l : List Int) (m j : Nat) (h : m + j < l.length) : atI (l.drop m) j = atI l (m + j) := by
  rw [atI_get h, atI_get (by simp; omega)]; simp
theorem L_cr3_eq (b : Bulbs) (l : List Int) (L : List (Int × Int)) (i : Nat) (hi : i < l.length) (hl : l.length ≤ 1000000) (hL : L.length ≤ 1000000000) (hg : gOk b l) :
    L_cr3 ((l, L.length, (i : Int), ((i + 1 : Nat) : Int)), b, L, ()) = some ((l, (L ++ r2 b l i).length, (i : Int)), b, L ++ r2 b l i, ()) := by
  have hc : clampL l.length = l.length := clampL_eq (by unfold maxL; omega)
  have hle : ∀ j, (((l.drop (i + 1)).take j).flatMap (r3 b (atI l i))).length ≤ j := fun j => Nat.le_trans (flatMap_le (r3_le b _) _) (by simp; omega)
  have := lim_all (step := st_cr3) (fun j => ((l, (L ++ ((l.drop (i + 1)).take j).flatMap (r3 b (atI l i))).length, (i : Int), ((i + 1 + j : Nat) : Int)), b, L ++ ((l.drop (i + 1)).take j).flatMap (r3 b (atI l i)), ())) (l.length - (i + 1)) (r := ((l, (L ++ r2 b l i).length, (i : Int)), b, L ++ r2 b l i, ())) (fun j hj => ?_) ?_
  · unfold L_cr3; simpa using this
  · have hj2 := hle j
    rw [st_cr3_eq b l _ i (i + 1 + j) hi (by omega) hl (by rw [List.length_append]; omega) hg, take_flat_succ (by simp; omega), atI_drop l (i + 1) j (by omega), List.append_assoc]; rfl
  · rw [sl_cr3]
    have e0 : (decF rInt l.length fun i => encF rInt l i) = l := decF_encF rInt l
    simp only [T.run_br, T.run_ret, decide_eq_true_eq, hc, Nat.zero_add, e0]
    rw [if_neg (by omega), decF_encF, List.take_of_length_le (by simp)]; rfl
end K
noncomputable def BKBl63 : Tab := BKBl62.addNode 28 145 (nodeE [12, 8, 11, 9, 2] S_cr3 X_cr3 (fun s => .obs (K.L_cr3 s) .ret))
theorem tKBl63 : TabOk P BKBl63 := TabOk.addLoop (d := 30) okP tKBl62 (by kernel_rfl) (by kernel_rfl) (fun s r h => obs_ret h)
def S_cr2 := DecS.mk0 (.skips 2 (.unit (dLp 0 0 0 0) (.skips 5 (.cons (dRows rInt) (.cons (dO 1) (.skip (.last (dI .i64) 98))))))) (.flat 31 lBulbs (.rows 75 rPair .nil))
def X_cr2 := DecX.one (.exit 2) [9] (DecS.mk0 (.skips 9 (.last (dO 0) 100)) (.rows 75 rPair .nil))
noncomputable def K.st_cr2 := loopT1 P BKBl63 30 28 121 [8, 11, 9, 2] S_cr2 X_cr2
theorem sl_cr2 : ∀ s, (K.st_cr2) s = T.run (
  .br (decide (Prod.snd (Prod.snd (Prod.fst s)) < (↑(clampL (List.length (Prod.fst (Prod.fst s)))) : Int))) (
    .obs (L_cr3 ((decF rInt (List.length (Prod.fst (Prod.fst s))) fun i => encF rInt (Prod.fst (Prod.fst s)) ((0 : Nat) + i), Prod.fst (Prod.snd (Prod.fst s)), Prod.snd (Prod.snd (Prod.fst s)), IntKind.wrap IntKind.i64 (Prod.snd (Prod.snd (Prod.fst s)) + (1 : Int))), Prod.fst (Prod.snd s), decF rPair (List.length (Prod.fst (Prod.snd (Prod.snd s)))) (encF rPair (Prod.fst (Prod.snd (Prod.snd s)))), PUnit.unit)) fun x0 =>
      .ret (Sum.inl ((decF rInt (List.length (Prod.fst (Prod.fst x0))) fun i => encF rInt (Prod.fst (Prod.fst x0)) ((0 : Nat) + i), Prod.fst (Prod.snd (Prod.fst x0)), IntKind.wrap IntKind.i64 (Prod.snd (Prod.snd (Prod.fst x0)) + (1 : Int))), Prod.fst (Prod.snd x0), decF rPair (List.length (Prod.fst (Prod.snd (Prod.snd x0)))) (encF rPair (Prod.fst (Prod.snd (Prod.snd x0)))), PUnit.unit))) (
    .ret (Sum.inr (Prod.fst (Prod.snd (Prod.fst s)), decF rPair (List.length (Prod.fst (Prod.snd (Prod.snd s)))) (encF rPair (Prod.fst (Prod.snd (Prod.snd s)))), PUnit.unit)))) := fun s => by kernel_rfl
namespace K
noncomputable def L_cr2 := lim st_cr2
theorem r2_sum (b : Bulbs) (l : List Int) : ∀ i, ((List.range i).flatMap (r2 b l)).length ≤ i * l.length
  | 0 => by simp
  | i + 1 => by
    have := r2_sum b l i; have h := r2_le b l i
    rw [List.range_succ, List.flatMap_append, List.length_append, Nat.add_mul, Nat.one_mul]
    simp only [List.flatMap_cons, List.flatMap_nil, List.append_nil]; omega
theorem L_cr2_eq (b : Bulbs) (l : List Int) (L : List (Int × Int)) (hl : l.length ≤ 10000) (hL : L.length ≤ 10000) (hg : gOk b l) :
    L_cr2 ((l, L.length, 0), b, L, ()) = some ((L ++ (List.range l.length).flatMap (r2 b l)).length, L ++ (List.range l.length).flatMap (r2 b l), ()) := by
  have hc : clampL l.length = l.length := clampL_eq (by unfold maxL; omega)
  have := lim_all (step := st_cr2) (fun i => ((l, (L ++ (List.range i).flatMap (r2 b l)).length, (i : Int)), b, L ++ (List.range i).flatMap (r2 b l), ())) l.length (r := ((L ++ (List.range l.length).flatMap (r2 b l)).length, L ++ (List.range l.length).flatMap (r2 b l), ())) (fun i hi => ?_) ?_
  · unfold L_cr2; simpa using this
  · have h1 := r2_sum b l i
    have h2 : i * l.length ≤ 10000 * 10000 := Nat.mul_le_mul (by omega) hl
    rw [sl_cr2]
    have e0 : (decF rInt l.length fun i => encF rInt l i) = l := decF_encF rInt l
    simp only [T.run_br, decide_eq_true_eq, hc, Nat.zero_add, e0, decF_encF]
    rw [if_pos (by omega), w64_in (n := (i : Int) + 1) (by omega) (by omega), show (i : Int) + 1 = ((i + 1 : Nat) : Int) from rfl, L_cr3_eq b l _ i hi (by omega) (by rw [List.length_append]; omega) hg, T.run_some, T.run_ret]
    simp only [e0, decF_encF]
    rw [w64_in (n := (i : Int) + 1) (by omega) (by omega), List.range_succ, List.flatMap_append, List.append_assoc]
    simp only [List.flatMap_cons, List.flatMap_nil, List.append_nil]; rfl
  · rw [sl_cr2]
    simp only [T.run_br, T.run_ret, decide_eq_true_eq, hc, decF_encF]
    rw [if_neg (by omega)]
end K
noncomputable def BKBl64 : Tab := BKBl63.addNode 28 121 (nodeE [8, 11, 9, 2] S_cr2 X_cr2 (fun s => .obs (K.L_cr2 s) .ret))
theorem tKBl64 : TabOk P BKBl64 := TabOk.addLoop (d := 30) okP tKBl63 (by kernel_rfl) (by kernel_rfl) (fun s r h => obs_ret h)
theorem fn_rcl : ∀ a, (callT1 P BKBl64 30 28 D_off R_pairs) a = T.run (
  .br (r_bulbs (Prod.fst a) != (0 : Int)) (
    .ret (([], r_bulbs (Prod.fst a)))) (
    .br (decide (i_rhydro (Prod.fst a) (Prod.snd a) < (0 : Int))) (
      .ret (([], (5 : Int)))) (
      .chk (decide (len (Bulbs.glasses (Prod.fst a)) ≤ (1000000 : Nat))) <|
      .obs (L_cr1 ((i_rhydro (Prod.fst a) (Prod.snd a), decF rInt (List.length (r_mine a)) fun i => encF rInt (r_mine a) ((0 : Nat) + i), (0 : Nat), (0 : Int)), Prod.fst a, decF rPair (0 : Nat) fun x x_1 => AV.top, PUnit.unit)) fun x0 =>
        .obs (L_cr2 ((decF rInt (List.length (Prod.fst (Prod.fst x0))) fun i => encF rInt (Prod.fst (Prod.fst x0)) ((0 : Nat) + i), Prod.snd (Prod.fst x0), (0 : Int)), Prod.fst (Prod.snd x0), decF rPair (List.length (Prod.fst (Prod.snd (Prod.snd x0)))) (encF rPair (Prod.fst (Prod.snd (Prod.snd x0)))), PUnit.unit)) fun x1 =>
          .ret ((decF rPair (List.length (Prod.fst (Prod.snd x1))) fun i => encF rPair (Prod.fst (Prod.snd x1)) ((0 : Nat) + i), (0 : Int)))))) := fun a => by kernel_rfl
end Go.Proofs.YtjbhooodjmjdkaaGreat
/-! KBl7 -/
namespace Go.Proofs.YtjbhooodjmjdkaaGreat
open Ev K
set_option maxRecDepth 100000
namespace K
theorem insS_perm (L : List Int) (x : Int) : (insS L x).Perm (x :: L) := by
  unfold insS
  rw [List.append_assoc]
  exact List.perm_middle.trans (List.Perm.cons x (by show (L.take _ ++ L.drop _).Perm L; rw [List.take_append_drop]))
theorem risR_perm (l : List Int) : ∀ i, i ≤ l.length → (risR l i).Perm (l.take i)
  | 0, _ => by rw [List.take_zero]; exact .refl _
  | i + 1, h => by
    rw [risR_succ, List.take_add_one, List.getElem?_eq_getElem (by omega), atI_get (by omega)]
    refine (insS_perm _ _).trans ?_
    simp only [Option.toList_some]
    exact (List.Perm.cons _ (risR_perm l i (by omega))).trans (List.perm_append_singleton _ _).symm
theorem risL_perm (l : List Int) : (risL l).Perm l := by
  have := risR_perm l l.length (Nat.le_refl _)
  rw [List.take_of_length_le (Nat.le_refl _)] at this
  exact this
theorem insP_spec (L : List Int) (x : Int) : (∀ j, insP L x L.length ≤ j → j < L.length → x < atI L j) ∧ (0 < insP L x L.length → atI L (insP L x L.length - 1) ≤ x) := by
  unfold insP
  cases hf : first (fun j => !decide (atI L (L.length - j - 1) > x)) L.length with
  | none =>
    refine ⟨fun j _ hj => ?_, fun h => absurd h (Nat.lt_irrefl 0)⟩
    have := first_none' hf (L.length - j - 1) (by omega)
    rw [show L.length - (L.length - j - 1) - 1 = j by omega] at this
    simpa using this
  | some k =>
    obtain ⟨h1, h2, h3⟩ := first_spec hf
    refine ⟨fun j hj hlt => ?_, fun _ => ?_⟩
    · simp only at hj
      have := h3 (L.length - j - 1) (by omega)
      rw [show L.length - (L.length - j - 1) - 1 = j by omega] at this
      simpa using this
    · simpa using h2
theorem insS_sorted {L : List Int} (x : Int) (h : L.Pairwise (· ≤ ·)) : (insS L x).Pairwise (· ≤ ·) := by
  obtain ⟨h1, h2⟩ := insP_spec L x
  have hp := insP_le L x L.length
  unfold insS
  generalize insP L x L.length = p at *
  rw [List.append_assoc, List.pairwise_append]
  have hx : ∀ a ∈ L.take p, a ≤ x := by
    intro a ha
    obtain ⟨i, hi, e⟩ := List.mem_iff_getElem.1 ha
    simp only [List.length_take] at hi
    rw [List.getElem_take] at e
    have h0 := h2 (by omega)
    rw [atI_get (by omega)] at h0
    by_cases e2 : i = p - 1
    · subst e2; omega
    · have := (List.pairwise_iff_getElem.1 h) i (p - 1) (by omega) (by omega) (by omega)
      omega
  have hy : ∀ a ∈ L.drop p, x ≤ a := by
    intro a ha
    obtain ⟨i, hi, e⟩ := List.mem_iff_getElem.1 ha
    simp only [List.length_drop] at hi
    rw [List.getElem_drop] at e
    have := h1 (p + i) (by omega) (by omega)
    rw [atI_get (by omega)] at this; omega
  refine ⟨h.sublist (List.take_sublist _ _), ?_, fun a ha b hb => ?_⟩
  · rw [List.singleton_append, List.pairwise_cons]
    exact ⟨hy, h.sublist (List.drop_sublist _ _)⟩
  · rw [List.singleton_append] at hb
    rcases List.mem_cons.1 hb with rfl | hb
    · exact hx a ha
    · exact Int.le_trans (hx a ha) (hy b hb)
theorem risL_sorted (l : List Int) : (risL l).Pairwise (· ≤ ·) := by
  have : ∀ i, (risR l i).Pairwise (· ≤ ·) := fun i => by
    induction i with
    | zero => exact .nil
    | succ i ih => rw [risR_succ]; exact insS_sorted _ ih
  exact this _
theorem sortL_perm (l : List Int) : (sortL l).Perm l := List.mergeSort_perm l _
theorem sortL_sorted (l : List Int) : (sortL l).Pairwise (· ≤ ·) := by
  have := List.pairwise_mergeSort (le := fun x y : Int => decide (x ≤ y)) (fun a b c h1 h2 => by simp at *; omega) (fun a b => by simp; omega) l
  exact this.imp (fun h => by simpa using h)
theorem sorted_eq {l l' : List Int} (h : l.Pairwise (· ≤ ·)) (h' : l'.Pairwise (· ≤ ·)) (hp : l.Perm l') : l = l' := List.Perm.eq_of_pairwise (fun a b _ _ h1 h2 => Int.le_antisymm h1 h2) h h' hp
theorem risL_eq (l : List Int) : risL l = sortL l := sorted_eq (risL_sorted l) (sortL_sorted l) ((risL_perm l).trans (sortL_perm l).symm)
/-- Each number of the list names a glass. -/
theorem mine_mem {b : Bulbs} {n x : Int} (h : x ∈ mineU b n) : ∃ k, k < len b.glasses ∧ (gls b.glasses k).hydro = n ∧ (gls b.glasses k).id = x := by
  unfold mineU mineR at h
  obtain ⟨k, hk, e⟩ := List.mem_map.1 h
  obtain ⟨h1, h2⟩ := List.mem_filter.1 hk
  exact ⟨k, List.mem_range.1 h1, by simpa using h2, e⟩
theorem i_rglass_at {b : Bulbs} {k : Nat} (hk : k < len b.glasses) : 0 ≤ i_rglass b (gls b.glasses k).id ∧ i_rglass b (gls b.glasses k).id ≤ (k : Int) := by
  have e : i_rglass b (gls b.glasses k).id = idx (p_rglass b (gls b.glasses k).id) (len b.glasses) := rfl
  rw [e]; unfold idx
  cases hf : first (p_rglass b (gls b.glasses k).id) (len b.glasses) with
  | none =>
    have := first_none' hf k hk
    have h2 : p_rglass b (gls b.glasses k).id k = ((gls b.glasses k).id == (gls b.glasses k).id) := rfl
    rw [h2] at this; simp at this
  | some i =>
    obtain ⟨h1, h2, h3⟩ := first_spec hf
    have : i ≤ k := by
      apply Nat.le_of_not_lt
      intro h
      have := h3 k h
      have h2 : p_rglass b (gls b.glasses k).id k = ((gls b.glasses k).id == (gls b.glasses k).id) := rfl
      rw [h2] at this; simp at this
    simp only
    omega
theorem mine_gOk (a : Bulbs × Int) : gOk a.1 (r_mine a) := by
  intro i hi
  have hm : atI (r_mine a) i ∈ mineU a.1 a.2 := by rw [atI_get hi]; exact (risL_perm _).mem_iff.1 (List.getElem_mem hi)
  obtain ⟨k, hk, _, e⟩ := mine_mem hm
  have h2 := i_rglass_at hk
  have := K.len_le' a.1.glasses
  rw [e] at h2; omega
noncomputable def rclL (a : Bulbs × Int) (i : Nat) : List (Int × Int) := (r_mine a).flatMap (r1 a.1 i) ++ (List.range (r_mine a).length).flatMap (r2 a.1 (r_mine a))
noncomputable def r_cla (a : Bulbs × Int) : List (Int × Int) × Int := if (r_bulbs a.1 != 0) = true then ([], r_bulbs a.1) else match first (p_rhydro a.1 a.2) (len a.1.hydros) with
  | none => ([], 5)
  | some i => (rclL a i, 0)
theorem r_mine_le (a : Bulbs × Int) : (r_mine a).length ≤ len a.1.glasses := by unfold r_mine; rw [risR_le]; exact mineR_le _ _ _
theorem r_cla_eq (a : Bulbs × Int) (h : len a.1.glasses ≤ 10000) : callT1 P BKBl64 30 28 D_off R_pairs a = some (r_cla a) := by
  rw [fn_rcl]; unfold r_cla
  refine br_step (fun _ => rfl) (fun _ => ?_)
  have hi : i_rhydro a.1 a.2 = idx (p_rhydro a.1 a.2) (len a.1.hydros) := rfl
  have hm := r_mine_le a
  have e0 : (decF rInt (r_mine a).length fun i => encF rInt (r_mine a) (0 + i)) = r_mine a := decF_enc0 _ _
  have ez : (decF rPair 0 fun x x_1 => AV.top) = ([] : List (Int × Int)) := rfl
  rw [e0, ez]
  cases hf : first (p_rhydro a.1 a.2) (len a.1.hydros) with
  | none =>
    rw [hi]; unfold idx; rw [hf]; rfl
  | some i =>
    have hlt := (first_spec hf).1
    rw [hi]; unfold idx; rw [hf]
    simp only
    rw [T.run_br, if_neg (by simp)]
    refine chk_step (by simp; omega) ?_
    have h1 : ((r_mine a).flatMap (r1 a.1 i)).length ≤ (r_mine a).length := flatMap_le (r1_le _ _) _
    rw [L_cr1_eq a.1 i (r_mine a) hlt (by omega) (mine_gOk a), T.run_some]
    simp only [e0, decF_encF]
    rw [L_cr2_eq a.1 (r_mine a) _ (by omega) (by omega) (mine_gOk a), T.run_some, T.run_ret]
    simp only
    rw [decF_enc0]; rfl
end K
noncomputable def BKBl71 : Tab := BKBl64.addCall 28 (callE D_off R_pairs (fun a => .chk (decide (len a.1.glasses ≤ 10000)) (.ret (K.r_cla a))))
theorem tKBl71 : TabOk P BKBl71 := TabOk.addFn (d := 30) okP tKBl64 (fun a r h => by obtain ⟨g, e⟩ := chk_ret h; subst e; exact K.r_cla_eq a (by simpa using g))
def S_ints := DecS.mk1 (.cons (dRows rInt) (.cons (dRows rInt) (.skips 3 (.last (dI .i64) 20))))
def X_ints := DecX.or (DecX.one .ret [4] (DecS.mk1 (.skips 4 (.last dB 21)))) (DecX.one (.exit 0) [] (DecS.mk1 (.tops 26)))
noncomputable def K.st_ints := loopT1 P BKBl71 30 21 33 [5, 1, 0] S_ints X_ints
theorem sl_ints : ∀ s, (K.st_ints) s = T.run (
  .br (decide (Prod.snd (Prod.snd s) < (↑(clampL (List.length (Prod.fst s))) : Int))) (
    .chk (decide ((0 : Int) ≤ Prod.snd (Prod.snd s) ∧ Prod.snd (Prod.snd s) < (↑(List.length (Prod.fst s)) : Int))) <|
    .chk (decide ((0 : Int) ≤ Prod.snd (Prod.snd s) ∧ Prod.snd (Prod.snd s) < (↑(List.length (Prod.fst (Prod.snd s))) : Int))) <|
    .br (numOf (encF rInt (Prod.fst s) ((0 : Nat) + Int.toNat (Prod.snd (Prod.snd s))) (0 : Nat)) != numOf (encF rInt (Prod.fst (Prod.snd s)) ((0 : Nat) + Int.toNat (Prod.snd (Prod.snd s))) (0 : Nat))) (
      .ret (Sum.inr (Sum.inl false))) (
      .ret (Sum.inl (decF rInt (List.length (Prod.fst s)) fun i => encF rInt (Prod.fst s) ((0 : Nat) + i), decF rInt (List.length (Prod.fst (Prod.snd s))) fun i => encF rInt (Prod.fst (Prod.snd s)) ((0 : Nat) + i), IntKind.wrap IntKind.i64 (Prod.snd (Prod.snd s) + (1 : Int)))))) (
    .ret (Sum.inr (Sum.inr PUnit.unit)))) := fun s => by kernel_rfl
namespace K
noncomputable def L_ints := lim st_ints
theorem L_ints_eq (l m : List Int) (hl : l.length ≤ 1000000) (hm : l.length = m.length) : L_ints (l, m, 0) = some (match first (fun i => atI l i != atI m i) l.length with | some _ => .inl false | none => .inr ()) := by
  have hc : clampL l.length = l.length := clampL_eq (by unfold maxL; omega)
  have e0 : (decF rInt l.length fun i => encF rInt l i) = l := decF_encF rInt l
  have e1 : (decF rInt m.length fun i => encF rInt m i) = m := decF_encF rInt m
  have ha : ∀ l i, numOf (encF rInt l i 0) = atI l i := fun _ _ => rfl
  have := lim_find (step := st_ints) (fun i : Nat => (l, m, (i : Int))) l.length (fun i => atI l i != atI m i) (fun _ => .inl false) (.inr ()) (fun i hi hp => ?_) (fun i hi hp => ?_) ?_
  · show lim st_ints (l, m, ((0 : Nat) : Int)) = _
    rw [this]
    cases first (fun i => atI l i != atI m i) l.length <;> rfl
  · rw [sl_ints]
    simp only [T.run_br, T.run_chk, T.run_ret, decide_eq_true_eq, Int.toNat_natCast, hc, Nat.zero_add, e0, e1, ha]
    rw [if_pos (by omega), if_pos (by omega), if_pos (by omega), if_pos hp]
  · rw [sl_ints]
    simp only [T.run_br, T.run_chk, T.run_ret, decide_eq_true_eq, Int.toNat_natCast, hc, Nat.zero_add, e0, e1, ha]
    rw [if_pos (by omega), if_pos (by omega), if_pos (by omega), if_neg (by rw [hp]; decide), w64_in (n := (i : Int) + 1) (by omega) (by omega)]; rfl
  · rw [sl_ints]
    simp only [T.run_br, T.run_ret, decide_eq_true_eq, hc]
    rw [if_neg (by omega)]
end K
noncomputable def BKBl72 : Tab := BKBl71.addNode 21 33 (nodeE [5, 1, 0] S_ints X_ints (fun s => .obs (K.L_ints s) .ret))
theorem tKBl72 : TabOk P BKBl72 := TabOk.addLoop (d := 30) okP tKBl71 (by kernel_rfl) (by kernel_rfl) (fun s r h => obs_ret h)
def D_ints := DecL.cons (dRows rInt) (.last (dRows rInt) 0)
theorem fn_ints : ∀ a, (callT1 P BKBl72 30 21 D_ints dB) a = T.run (
  .br ((↑(clampL (List.length (Prod.fst a))) : Int) != (↑(clampL (List.length (Prod.snd a))) : Int)) (
    .ret (false)) (
    .obs (L_ints (decF rInt (List.length (Prod.fst a)) fun i => encF rInt (Prod.fst a) ((0 : Nat) + i), decF rInt (List.length (Prod.snd a)) fun i => encF rInt (Prod.snd a) ((0 : Nat) + i), (0 : Int))) fun x0 =>
      .sum (x0) (fun x1 =>
        .ret (x1)) (fun x1 =>
        .ret (true)))) := fun a => by kernel_rfl
namespace K
theorem chk_more {ρ : Type} {g : Bool} {t : T ρ} {r : ρ} (h : (T.chk g t).run = some r) : g = true ∧ t.run = some r := by
  rw [T.run_chk] at h
  split at h
  · exact ⟨by assumption, h⟩
  · cases h
def sameL (a : List Int × List Int) : Bool := decide (a.1 = a.2)
theorem ints_eq (a : List Int × List Int) (h1 : a.1.length ≤ 1000000) (h2 : a.2.length ≤ 1000000) : callT1 P BKBl72 30 21 D_ints dB a = some (sameL a) := by
  obtain ⟨l, m⟩ := a
  simp only at h1 h2
  rw [fn_ints]
  have hc : clampL l.length = l.length := clampL_eq (by unfold maxL; omega)
  have hc2 : clampL m.length = m.length := clampL_eq (by unfold maxL; omega)
  simp only [hc, hc2, decF_enc0]
  unfold sameL
  by_cases hlen : l.length = m.length
  · rw [T.run_br, if_neg (by simp [hlen]), L_ints_eq l m h1 hlen, T.run_some]
    cases hf : first (fun i => atI l i != atI m i) l.length with
    | some i =>
      obtain ⟨g1, g2, _⟩ := first_spec hf
      show T.run (.ret false) = _
      rw [T.run_ret, decide_eq_false (show ¬ l = m from fun e => by subst e; simp at g2)]
    | none =>
      show T.run (.ret true) = _
      rw [T.run_ret]
      have : l = m := by
        apply List.ext_getElem hlen
        intro i hi hi2
        have := first_none' hf i hi
        rw [atI_get hi, atI_get hi2] at this
        simpa using this
      rw [decide_eq_true this]
  · rw [T.run_br, if_pos (by simp; omega), T.run_ret, decide_eq_false (fun e => hlen (by simp only at e; rw [e]))]
end K
noncomputable def BKBl73 : Tab := BKBl72.addCall 21 (callE D_ints dB (fun a => .chk (decide (a.1.length ≤ 1000000)) (.chk (decide (a.2.length ≤ 1000000)) (.ret (K.sameL a)))))
theorem tKBl73 : TabOk P BKBl73 := TabOk.addFn (d := 30) okP tKBl72 (fun a r h => by obtain ⟨g1, h⟩ := K.chk_more h; obtain ⟨g2, e⟩ := chk_ret h; subst e; exact K.ints_eq a (by simpa using g1) (by simpa using g2))
end Go.Proofs.YtjbhooodjmjdkaaGreat
/-! KCo0 -/
namespace Go.Proofs.YtjbhooodjmjdkaaGreat
open Ev K
set_option maxRecDepth 100000
noncomputable def BKCo01 : Tab := BKB21.addInl 51
theorem tKCo01 : TabOk P BKCo01 := TabOk.addInl tKB21
noncomputable def BKCo02 : Tab := BKCo01.addInl 120
theorem tKCo02 : TabOk P BKCo02 := TabOk.addInl tKCo01
def D_but := DecL.cons xSurveys (.last (dI .i64) 0)
theorem fn_but : ∀ a, (callT1 P BKCo02 30 55 D_but xSurveys) a = T.run (
  .chk (Nat.blt (0 : Nat) (XS.len (Prod.fst a))) <|
  .chk (decide (((0 : Nat) + XS.len (Prod.fst a)) * (144 : Nat) ≤ (140737488355328 : Nat) ∧ (0 : Nat) + XS.len (Prod.fst a) ≤ nat_lit 9223372036854775807)) <|
  .chk (decide ((0 : Int) ≤ (↑((0 : Nat) + XS.len (Prod.fst a)) : Int) ∧ (↑((0 : Nat) + XS.len (Prod.fst a)) : Int) ≤ (↑((0 : Nat) + XS.len (Prod.fst a)) : Int)) && (decide ((0 : Int) ≤ IntKind.wrap IntKind.i64 (Prod.snd a + (1 : Int)) ∧ IntKind.wrap IntKind.i64 (Prod.snd a + (1 : Int)) ≤ (↑(Int.toNat (↑((0 : Nat) + XS.len (Prod.fst a)) : Int)) : Int)) && decide ((0 : Int) ≤ Prod.snd a ∧ Prod.snd a ≤ (↑(Int.toNat (IntKind.wrap IntKind.i64 (Prod.snd a + (1 : Int)))) : Int)))) <|
  .br (Prod.snd a == IntKind.wrap IntKind.i64 (Prod.snd a + (1 : Int))) (
    .ret (XS.mk ((0 : Nat) + XS.len (Prod.fst a)) (0 : Nat) ((0 : Nat) + XS.len (Prod.fst a)) none fun i k => XS.f (Prod.fst a) (XS.row (Prod.fst a) + (i - (0 : Nat))) k)) (
    .chk (decide ((0 : Int) ≤ Prod.snd a ∧ Prod.snd a ≤ (↑((0 : Nat) + XS.len (Prod.fst a)) : Int)) && true) <|
    .chk (true && decide ((0 : Int) ≤ IntKind.wrap IntKind.i64 (Prod.snd a + (1 : Int)) ∧ IntKind.wrap IntKind.i64 (Prod.snd a + (1 : Int)) ≤ (↑((0 : Nat) + XS.len (Prod.fst a)) : Int))) <|
    .chk (decide ((0 : Nat) + (Int.toNat (Prod.snd a) - (0 : Nat)) + ((0 : Nat) + XS.len (Prod.fst a) - Int.toNat (IntKind.wrap IntKind.i64 (Prod.snd a + (1 : Int)))) ≤ (0 : Nat) + XS.len (Prod.fst a) ∧ (0 : Nat) < (0 : Nat) + XS.len (Prod.fst a))) <|
    .chk (decide ((0 : Int) ≤ (↑((0 : Nat) + XS.len (Prod.fst a)) : Int) ∧ (↑((0 : Nat) + XS.len (Prod.fst a)) : Int) ≤ (↑((0 : Nat) + XS.len (Prod.fst a) - (0 : Nat)) : Int)) && decide ((0 : Int) ≤ (↑(Int.toNat (Prod.snd a) - (0 : Nat) + ((0 : Nat) + XS.len (Prod.fst a) - Int.toNat (IntKind.wrap IntKind.i64 (Prod.snd a + (1 : Int))))) : Int) ∧ (↑(Int.toNat (Prod.snd a) - (0 : Nat) + ((0 : Nat) + XS.len (Prod.fst a) - Int.toNat (IntKind.wrap IntKind.i64 (Prod.snd a + (1 : Int))))) : Int) ≤ (↑(Int.toNat (↑((0 : Nat) + XS.len (Prod.fst a)) : Int)) : Int))) <|
    .chk (decide ((0 : Nat) + Int.toNat (↑(Int.toNat (Prod.snd a) - (0 : Nat) + ((0 : Nat) + XS.len (Prod.fst a) - Int.toNat (IntKind.wrap IntKind.i64 (Prod.snd a + (1 : Int))))) : Int) < (0 : Nat) + XS.len (Prod.fst a))) <|
    .ret (XS.mk ((0 : Nat) + XS.len (Prod.fst a)) (0 : Nat) (Int.toNat (Prod.snd a) - (0 : Nat) + ((0 : Nat) + XS.len (Prod.fst a) - Int.toNat (IntKind.wrap IntKind.i64 (Prod.snd a + (1 : Int))))) none (putR ((0 : Nat) + Int.toNat (↑(Int.toNat (Prod.snd a) - (0 : Nat) + ((0 : Nat) + XS.len (Prod.fst a) - Int.toNat (IntKind.wrap IntKind.i64 (Prod.snd a + (1 : Int))))) : Int)) (Int.toNat (↑((0 : Nat) + XS.len (Prod.fst a)) : Int) - Int.toNat (↑(Int.toNat (Prod.snd a) - (0 : Nat) + ((0 : Nat) + XS.len (Prod.fst a) - Int.toNat (IntKind.wrap IntKind.i64 (Prod.snd a + (1 : Int))))) : Int)) (putR ((0 : Nat) + (Int.toNat (Prod.snd a) - (0 : Nat))) ((0 : Nat) + XS.len (Prod.fst a) - Int.toNat (IntKind.wrap IntKind.i64 (Prod.snd a + (1 : Int)))) (appG (0 : Nat) (fun x x_1 => AV.top) fun i k => XS.f (Prod.fst a) (XS.row (Prod.fst a) + i) k) fun i k => appG (0 : Nat) (fun x x_1 => AV.top) (fun i k => XS.f (Prod.fst a) (XS.row (Prod.fst a) + i) k) (Int.toNat (IntKind.wrap IntKind.i64 (Prod.snd a + (1 : Int))) + i) k) fun x k => Option.getD [AV.int IntKind.i64 (0 : Int), AV.int IntKind.i64 (0 : Int), AV.int IntKind.i64 (0 : Int), AV.int IntKind.i64 (0 : Int), AV.int IntKind.i64 (0 : Int), AV.int IntKind.i64 (0 : Int), AV.int IntKind.i64 (0 : Int), AV.int IntKind.i64 (0 : Int), AV.int IntKind.i64 (0 : Int), AV.int IntKind.i64 (0 : Int), AV.int IntKind.i64 (0 : Int), AV.int IntKind.i64 (0 : Int), AV.int IntKind.i64 (0 : Int), AV.int IntKind.i64 (0 : Int), AV.int IntKind.i64 (0 : Int), AV.int IntKind.i64 (0 : Int), AV.int IntKind.i64 (0 : Int), AV.int IntKind.i64 (0 : Int)][k]? AV.top)))) := fun a => by kernel_rfl
namespace K
theorem putR_in {row m : Nat} {a b : Nat → Nat → AV} {i k : Nat} (h : row ≤ i ∧ i < row + m) : putR row m a b i k = b (i - row) k := by
  unfold putR
  rw [show (Nat.ble row i && Nat.blt i (row + m)) = true from by rw [Bool.and_eq_true, Nat.ble_eq, Nat.blt_eq]; exact h]
theorem putR_out {row m : Nat} {a b : Nat → Nat → AV} {i k : Nat} (h : ¬ (row ≤ i ∧ i < row + m)) : putR row m a b i k = a i k := by
  unfold putR
  rw [show (Nat.ble row i && Nat.blt i (row + m)) = false from by rw [← Bool.not_eq_true, Bool.and_eq_true, Nat.ble_eq, Nat.blt_eq]; exact h]
theorem appG_zero (f g : Nat → Nat → AV) (i k : Nat) : appG 0 f g i k = g i k := rfl
/-- A list of surveys without the j-th one. -/
def butF (x : XS) (j : Nat) : Nat → Nat → AV := putR (x.len - 1) (x.len - (x.len - 1)) (putR j (x.len - (j + 1)) (appG 0 (fun _ _ => .top) fun i k => x.f (x.row + i) k) fun i k => appG 0 (fun _ _ => .top) (fun i k => x.f (x.row + i) k) (j + 1 + i) k) fun _ k => ((List.replicate 18 (.int .i64 0 : AV))[k]?).getD .top
def butX (x : XS) (j : Nat) : XS := ⟨x.len, 0, x.len - 1, none, butF x j⟩
theorem butX_at (x : XS) {j : Nat} (hj : j < x.len) {i : Nat} (k : Nat) (hi : i < x.len - 1) : (butX x j).g i k = x.g (if i < j then i else i + 1) k := by
  show numOf (butF x j (0 + i) k) = numOf (x.f (x.row + _) k)
  rw [Nat.zero_add]; unfold butF
  rw [putR_out (by omega)]
  by_cases h : i < j
  · rw [putR_out (by omega), appG_zero, if_pos h]
  · rw [putR_in (by omega), appG_zero, if_neg h, show j + 1 + (i - j) = i + 1 by omega]
theorem but_eq (x : XS) (j : Nat) (hj : j < x.len) (hl : x.len ≤ 1000000) : callT1 P BKCo02 30 55 D_but xSurveys (x, (j : Int)) = some (butX x j) := by
  have hw : IntKind.i64.wrap ((j : Int) + 1) = ((j + 1 : Nat) : Int) := by rw [w64_in (by omega) (by omega)]; rfl
  rw [fn_but]
  simp only [hw, Nat.zero_add, Int.toNat_natCast, Nat.sub_zero, Bool.and_true, Bool.true_and, show j + (x.len - (j + 1)) = x.len - 1 from by omega]
  refine chk_step (by rw [Nat.blt_eq]; omega) (chk_step (decide_eq_true (by omega)) (chk_step ?_ ?_))
  · simp only [Bool.and_eq_true, decide_eq_true_eq]; omega
  refine (T.run_br _ _ _).trans ?_
  rw [if_neg (by simp only [beq_iff_eq]; omega)]
  refine chk_step (decide_eq_true (by omega)) (chk_step (decide_eq_true (by omega)) (chk_step (decide_eq_true (by omega)) (chk_step ?_ (chk_step (decide_eq_true (by omega)) rfl))))
  simp only [Bool.and_eq_true, decide_eq_true_eq]; omega
theorem but_pc (a : XS × Int) (r : XS) (h : (T.chk (decide (0 ≤ a.2 ∧ a.2 < a.1.len ∧ a.1.len ≤ 1000000)) (.ret (butX a.1 a.2.toNat))).run = some r) : PC P 55 (D_but.enc a) (xSurveys.enc r) := by
  obtain ⟨x, j⟩ := a
  obtain ⟨g, e⟩ := chk_ret h
  subst e
  have g := of_decide_eq_true g
  simp only at g
  have := but_eq x j.toNat (by omega) (by omega)
  rw [show ((j.toNat : Nat) : Int) = j by omega] at this
  exact call_of okP tKCo02 this
end K
end Go.Proofs.YtjbhooodjmjdkaaGreat
/-! KCo1 -/
namespace Go.Proofs.YtjbhooodjmjdkaaGreat
open Ev K
set_option maxRecDepth 100000
theorem Ev.turn_call {B : Tab} {f : FuncId} {g : List AV → Option (T AV)} {args : List AV} {t : T AV} (h : g args = some t) : (B.addTurn f g).call f args = some t := by
  have hb : Nat.beq f f = true := by rw [Nat.beq_eq]
  show (match Nat.beq f f with | true => (match g args with | some t => some t | none => B.call f args) | false => B.call f args) = _
  rw [hb]; simp only [h]
noncomputable def BKCo1s : Tab := BKY51.addTurn 60 K.sortE
theorem tKCo1s : TabOk P BKCo1s := TabOk.addTurn tKY51 (K.sortE_cc fun n g h1 h2 => K.mc_sort Tryz.lays189 h1 h2)
noncomputable def BKCo1r : Tab := BKCo1s.addTurn 122 (freshE 3 D_rsg rInt (fun l => .chk (decide (l.length ≤ 1000000)) (.ret (K.risL l))))
theorem tKCo1r : TabOk P BKCo1r := TabOk.addTurn tKCo1s (fun args t v ht hr => tKBl23.call _ args t v (Ev.turn_call ht) hr)
noncomputable def BKCo11 : Tab := BKCo1r.addCall 55 (callE D_but xSurveys (fun a => .chk (decide (0 ≤ a.2 ∧ a.2 < a.1.len ∧ a.1.len ≤ 1000000)) (.ret (butX a.1 a.2.toNat))))
theorem tKCo11 : TabOk P BKCo11 := TabOk.addPC tKCo1r (fun a r h => K.but_pc a r h)
theorem fn_cln : ∀ a, (callT1 P BKCo11 30 51 (DecL.last xSurveys 0) xSurveys) a = T.run (
  .chk (Nat.blt (0 : Nat) (XS.len a)) <|
  .chk (decide (((0 : Nat) + XS.len a) * (144 : Nat) ≤ (140737488355328 : Nat) ∧ (0 : Nat) + XS.len a ≤ nat_lit 9223372036854775807)) <|
  .ret (XS.mk ((0 : Nat) + XS.len a) (0 : Nat) ((0 : Nat) + XS.len a) none fun i k => XS.f a (XS.row a + (i - (0 : Nat))) k)) := fun a => by kernel_rfl
def S_ids := DecS.ghost 3 3 1 [.int .i64] (DecS.mk0 (.skips 3 (.cons (dO 0) (.skips 2 (.cons xSurveys (.cons (dI .i64) (.last (dI .i64) 12)))))) (.rows 3 rInt .nil))
def X_ids := DecX.one (.exit 0) [3] (DecS.mk0 (.skips 3 (.last (dO 0) 17)) (.rows 3 rInt .nil))
noncomputable def K.st_ids := loopT1 P BKCo11 30 52 25 [8, 3, 6, 7] S_ids X_ids
theorem sl_ids : ∀ s, (K.st_ids) s = T.run (
  .br (decide (Prod.snd (Prod.snd (Prod.snd (Prod.fst s))) < Prod.fst (Prod.snd (Prod.snd (Prod.fst s))))) (
    .chk (decide ((0 : Int) ≤ Prod.snd (Prod.snd (Prod.snd (Prod.fst s))) ∧ Prod.snd (Prod.snd (Prod.snd (Prod.fst s))) < (↑(XS.len (Prod.fst (Prod.snd (Prod.fst s)))) : Int))) <|
    .chk (decide ((List.length (Prod.fst (Prod.snd s)) + (1 : Nat)) * (8 : Nat) ≤ (140737488355328 : Nat) ∧ List.length (Prod.fst (Prod.snd s)) + (1 : Nat) ≤ nat_lit 9223372036854775807)) <|
    .ret (Sum.inl ((List.length (Prod.fst (Prod.snd s)) + (1 : Nat), Prod.fst (Prod.snd (Prod.fst s)), Prod.fst (Prod.snd (Prod.snd (Prod.fst s))), IntKind.wrap IntKind.i64 (Prod.snd (Prod.snd (Prod.snd (Prod.fst s))) + (1 : Int))), decF rInt (List.length (Prod.fst (Prod.snd s)) + (1 : Nat)) (appG (List.length (Prod.fst (Prod.snd s))) (encF rInt (Prod.fst (Prod.snd s))) fun i k => Option.getD [AV.int IntKind.i64 (XS.g (Prod.fst (Prod.snd (Prod.fst s))) (Int.toNat (Prod.snd (Prod.snd (Prod.snd (Prod.fst s))))) (0 : Nat))][((0 : Nat) + i) * (1 : Nat) + k]? AV.top), PUnit.unit))) (
    .ret (Sum.inr (Prod.fst (Prod.fst s), decF rInt (List.length (Prod.fst (Prod.snd s))) (encF rInt (Prod.fst (Prod.snd s))), PUnit.unit)))) := fun s => by kernel_rfl
noncomputable def K.L_ids := lim K.st_ids
noncomputable def BKCo12 : Tab := BKCo11.addNode 52 25 (nodeE [8, 3, 6, 7] S_ids X_ids (fun s => .obs (K.L_ids s) .ret))
theorem tKCo12 : TabOk P BKCo12 := TabOk.addLoop (d := 30) okP tKCo11 (by kernel_rfl) (by kernel_rfl) (fun s r h => obs_ret h)
theorem fn_ids : ∀ a, (callT1 P BKCo12 30 52 (DecL.last xSurveys 0) (dRows rInt)) a = T.run (
  .obs (L_ids (((0 : Nat), a, (↑(len a) : Int), (0 : Int)), decF rInt (0 : Nat) fun x x_1 => AV.top, PUnit.unit)) fun x0 =>
    .chk (decide (List.length (Prod.fst (Prod.snd x0)) < (4611686018427387904 : Nat))) <|
    .ret (decF rInt (List.length (Prod.fst (Prod.snd x0))) fun i => encF rInt (sortL (decF rInt (List.length (Prod.fst (Prod.snd x0))) (encF rInt (Prod.fst (Prod.snd x0))))) ((0 : Nat) + i))) := fun a => by kernel_rfl
namespace K
/-- The IDs of the first n surveys of a list. -/
def idsU (x : XS) (n : Nat) : List Int := (List.range n).map fun i => x.g i 0
theorem idsU_length (x : XS) (n : Nat) : (idsU x n).length = n := by simp [idsU]
theorem idsU_succ (x : XS) (n : Nat) : idsU x (n + 1) = idsU x n ++ [x.g n 0] := by unfold idsU; rw [List.range_succ, List.map_append]; rfl
theorem L_ids_eq (x : XS) (h : len x ≤ 1000000) : L_ids ((0, x, (len x : Int), 0), [], ()) = some (len x, idsU x (len x), ()) := by
  have e1 := K.len_le x; have e2 := K.len_le' x
  refine lim_all (fun i => ((i, x, (len x : Int), (i : Int)), idsU x i, ())) (len x) (fun i hi => ?_) ?_
  · rw [sl_ids]
    simp only [T.run_br, T.run_chk, T.run_ret, decide_eq_true_eq, Int.toNat_natCast, idsU_length]
    rw [if_pos (by omega), if_pos (by omega), if_pos (by omega), w64_in (n := (i : Int) + 1) (by omega) (by omega)]
    have := decF_push rInt (idsU x i) (fun i_1 k => Option.getD [AV.int IntKind.i64 (XS.g x i 0)][((0 : Nat) + i_1) * (1 : Nat) + k]? AV.top)
    rw [idsU_length] at this
    rw [this, idsU_succ]; rfl
  · rw [sl_ids]
    simp only [T.run_br, T.run_ret, decide_eq_true_eq, idsU_length]
    rw [if_neg (by omega)]
    have := decF_encF rInt (idsU x (len x))
    rw [idsU_length] at this
    rw [this]
/-- The IDs of surveys, in increasing order. -/
noncomputable def idsL (x : XS) : List Int := sortL (idsU x (len x))
theorem idsL_length (x : XS) : (idsL x).length = len x := by unfold idsL; rw [sortL_length, idsU_length]
theorem ids_eq (x : XS) (h : len x ≤ 1000000) : callT1 P BKCo12 30 52 (DecL.last xSurveys 0) (dRows rInt) x = some (idsL x) := by
  rw [fn_ids]
  show T.run (.obs (L_ids ((0, x, (len x : Int), 0), [], ())) _) = _
  rw [L_ids_eq x h, T.run_some]
  have hd := decF_encF rInt (idsU x (len x))
  simp only [hd]
  refine chk_step (decide_eq_true (by simp only [idsU_length]; omega)) ?_
  rw [T.run_ret]
  have := decF_enc0 rInt (idsL x)
  rw [idsL_length] at this
  simp only [idsU_length]
  exact congrArg some this
/-- A copy of a list of surveys. -/
def cloneX (x : XS) : XS := ⟨x.len, 0, x.len, none, fun i k => x.f (x.row + i) k⟩
theorem cloneX_g (x : XS) (i k : Nat) : (cloneX x).g i k = x.g i k := by show numOf (x.f (x.row + (0 + i)) k) = numOf (x.f (x.row + i) k); rw [Nat.zero_add]
theorem clone_eq (x : XS) (h0 : 0 < x.len) (h : x.len ≤ 1000000) : callT1 P BKCo11 30 51 (DecL.last xSurveys 0) xSurveys x = some (cloneX x) := by
  rw [fn_cln]
  refine chk_step (by rw [Nat.blt_eq]; omega) (chk_step (decide_eq_true ⟨by omega, Nat.le_trans (show 0 + x.len ≤ 1000000 by omega) (by decide)⟩) ?_)
  rw [T.run_ret, Nat.zero_add]; rfl
end K
noncomputable def BKCo13 : Tab := BKCo12.addCall 52 (callE (DecL.last xSurveys 0) (dRows rInt) (fun x => .chk (decide (len x ≤ 1000000)) (.ret (idsL x))))
theorem tKCo13 : TabOk P BKCo13 := TabOk.addFn (d := 30) okP tKCo12 (fun a r h => by obtain ⟨g, e⟩ := chk_ret h; subst e; exact K.ids_eq a (by simpa using g))
noncomputable def BKCo14 : Tab := BKCo13.addCall 51 (callE (DecL.last xSurveys 0) xSurveys (fun x => .chk (decide (0 < x.len ∧ x.len ≤ 1000000)) (.ret (cloneX x))))
theorem tKCo14 : TabOk P BKCo14 := TabOk.addPC tKCo13 (fun a r h => by obtain ⟨g, e⟩ := chk_ret h; subst e; have g := of_decide_eq_true g; exact call_of okP tKCo11 (K.clone_eq a g.1 g.2))
def S_cor1 := DecS.mk1 (.cons xSurveys (.cons (cNum 54) (.skips 5 (.cons (dI .i64) (.last (dI .i64) 10)))))
def X_cor1 := DecX.or (DecX.one .ret [4] (DecS.mk1 (.skips 4 (.last (dI .i64) 14)))) (DecX.one (.exit 0) [] (DecS.mk1 (.tops 19)))
def K.p_cor1 (c : Int) (x : XS) (i : Nat) : Bool := x.g i 0 == c
theorem sl_cor1 : ∀ s, (loopT1 P BKCo14 30 119 17 [8, 0, 1, 7] S_cor1 X_cor1) s = T.run (
  .br (decide (Prod.snd (Prod.snd (Prod.snd s)) < Prod.fst (Prod.snd (Prod.snd s)))) (
    .chk (decide ((0 : Int) ≤ Prod.snd (Prod.snd (Prod.snd s)) ∧ Prod.snd (Prod.snd (Prod.snd s)) < (↑(XS.len (Prod.fst s)) : Int))) <|
    .br (XS.g (Prod.fst s) (Int.toNat (Prod.snd (Prod.snd (Prod.snd s)))) (0 : Nat) == Prod.fst (Prod.snd s)) (
      .ret (Sum.inr (Sum.inl (Prod.snd (Prod.snd (Prod.snd s)))))) (
      .ret (Sum.inl (Prod.fst s, Prod.fst (Prod.snd s), Prod.fst (Prod.snd (Prod.snd s)), IntKind.wrap IntKind.i64 (Prod.snd (Prod.snd (Prod.snd s)) + (1 : Int)))))) (
    .ret (Sum.inr (Sum.inr PUnit.unit)))) := fun s => by kernel_rfl
noncomputable def K.L_cor1 := lim (loopT1 P BKCo14 30 119 17 [8, 0, 1, 7] S_cor1 X_cor1)
theorem K.L_cor1_eq (x : XS) (c : Int) : K.L_cor1 (x, c, (K.len x : Int), 0) = some (match first (K.p_cor1 c x) (K.len x) with | some i => (Sum.inl (i : Int) : Int ⊕ Unit) | none => .inr ()) := by
  have e1 := K.len_le x; have e2 := K.len_le' x
  refine lim_find (fun i => (x, c, (K.len x : Int), (i : Int))) (K.len x) (K.p_cor1 c x) (fun i => (Sum.inl (i : Int) : Int ⊕ Unit)) (Sum.inr ()) (fun i hi hp => ?_) (fun i hi hp => ?_) ?_
  · rw [sl_cor1]; unfold K.p_cor1 at hp
    simp only [T.run_br, T.run_chk, T.run_ret, decide_eq_true_eq, Int.toNat_natCast]
    rw [if_pos (by omega), if_pos (by omega)]
    rw [if_pos hp]
  · rw [sl_cor1]; unfold K.p_cor1 at hp
    simp only [T.run_br, T.run_chk, T.run_ret, decide_eq_true_eq, Int.toNat_natCast]
    rw [if_pos (by omega), if_pos (by omega)]
    rw [if_neg (by simp [hp])]
    rw [w64_in (by omega) (by omega)]; simp
  · rw [sl_cor1]
    simp only [T.run_br, T.run_chk, T.run_ret, decide_eq_true_eq]
    rw [if_neg (by omega)]
noncomputable def BKCo15 : Tab := BKCo14.addNode 119 17 (nodeE [8, 0, 1, 7] S_cor1 X_cor1 (fun s => .obs (K.L_cor1 s) .ret))
theorem tKCo15 : TabOk P BKCo15 := TabOk.addLoop (d := 30) okP tKCo14 (by kernel_rfl) (by kernel_rfl) (fun s r h => obs_ret h)
def D_cor1 := DecL.cons xSurveys (.last (cNum 54) 0)
theorem fn_cor1 : ∀ a, (callT1 P BKCo15 30 119 D_cor1 (dI .i64)) a = T.run (
  .obs (L_cor1 (Prod.fst a, Prod.snd a, (↑(len (Prod.fst a)) : Int), (0 : Int))) fun x0 =>
    .sum (x0) (fun x1 =>
      .ret (x1)) (fun x1 =>
      .ret ((-1 : Int)))) := fun a => by kernel_rfl
theorem ix_cor1 (a : XS × Int) : callT1 P BKCo15 30 119 D_cor1 (dI .i64) a = some (idx (K.p_cor1 a.2 a.1) (K.len a.1)) := by
  rw [fn_cor1]
  show T.run (.obs (K.L_cor1 (a.1, a.2, (K.len a.1 : Int), 0)) _) = _
  rw [K.L_cor1_eq]; unfold idx
  cases first (K.p_cor1 a.2 a.1) (K.len a.1) <;> rfl
noncomputable def BKCo16 : Tab := BKCo15.addCall 119 (callE D_cor1 (dI .i64) (fun a => .ret (idx (K.p_cor1 a.2 a.1) (K.len a.1))))
theorem tKCo16 : TabOk P BKCo16 := TabOk.addFn (d := 30) okP tKCo15 (fun a r h => by rw [ix_cor1]; exact congrArg some (ret_some h))

def R_find_cor1 := dTup (.cons dSurvey (.last (dI .i64) 0))
theorem fd_cor1 : ∀ a, (callT1 P BKCo16 30 53 D_cor1 R_find_cor1) a = T.run (
  .br (decide (idx (p_cor1 (Prod.snd a) (Prod.fst a)) (len (Prod.fst a)) < (0 : Int))) (
    .ret ((Survey.mk (0 : Int) (0 : Int) (Span.mk (0 : Int) (0 : Int)) (Span.mk (0 : Int) (0 : Int)) (Span.mk (0 : Int) (0 : Int)) (Span.mk (0 : Int) (0 : Int)) (Span.mk (0 : Int) (0 : Int)) (Span.mk (0 : Int) (0 : Int)) (0 : Int) (0 : Int) (Span.mk (0 : Int) (0 : Int)), (-1 : Int)))) (
    .chk (decide ((0 : Int) ≤ idx (p_cor1 (Prod.snd a) (Prod.fst a)) (len (Prod.fst a)) ∧ idx (p_cor1 (Prod.snd a) (Prod.fst a)) (len (Prod.fst a)) < (↑(XS.len (Prod.fst a)) : Int))) <|
    .ret ((svy (Prod.fst a) (Int.toNat (idx (p_cor1 (Prod.snd a) (Prod.fst a)) (len (Prod.fst a)))), idx (p_cor1 (Prod.snd a) (Prod.fst a)) (len (Prod.fst a)))))) := fun a => by kernel_rfl
def K.find_cor1 (c : Int) (x : XS) : Survey × Int := found (svy x) ⟨0, 0, ⟨0, 0⟩, ⟨0, 0⟩, ⟨0, 0⟩, ⟨0, 0⟩, ⟨0, 0⟩, ⟨0, 0⟩, 0, 0, ⟨0, 0⟩⟩ (K.p_cor1 c x) (K.len x)
theorem K.find_cor1_eq (a : XS × Int) : callT1 P BKCo16 30 53 D_cor1 R_find_cor1 a = some (K.find_cor1 a.2 a.1) := by
  rw [fd_cor1]; unfold K.find_cor1 found idx
  cases h : first (K.p_cor1 a.2 a.1) (K.len a.1) with
  | none => rfl
  | some i =>
    have h1 := (first_spec h).1; have h2 := K.len_le' a.1
    simp only [T.run_br, T.run_chk, T.run_ret, decide_eq_true_eq]
    rw [if_neg (by omega), if_pos (by omega)]; rfl
noncomputable def BKCo17 : Tab := BKCo16.addCall 53 (callE D_cor1 R_find_cor1 (fun a => .ret (K.find_cor1 a.2 a.1)))
theorem tKCo17 : TabOk P BKCo17 := TabOk.addFn (d := 30) okP tKCo16 (fun a r h => by rw [K.find_cor1_eq]; exact congrArg some (ret_some h))

end Go.Proofs.YtjbhooodjmjdkaaGreat
/-! KCo2 -/
namespace Go.Proofs.YtjbhooodjmjdkaaGreat
open Ev K
set_option maxRecDepth 100000
def S_core := DecS.mk0 (.skips 3 (.unit (dLp 0 0 0 0) (.unit (dLp 1 0 0 0) (.skips 4 (.cons xSurveys (.skips 22 (.cons (dRows rInt) (.cons (dI .i64) (.last (dI .i64) 22))))))))) (.flat 27 lShip (.flat 31 lBulbs .nil))
def X_core := DecX.one (.exit 0) [9] (DecS.mk1 (.skips 9 (.last xSurveys 47)))
noncomputable def K.st_core := loopT1 P BKCo17 30 17 65 [34, 4, 3, 9, 32, 33] S_core X_core
theorem sl_core : ∀ s, (K.st_core) s = T.run (
  .br (decide (Prod.snd (Prod.snd (Prod.snd (Prod.fst s))) < Prod.fst (Prod.snd (Prod.snd (Prod.fst s))))) (
    .chk (decide ((0 : Int) ≤ Prod.snd (Prod.snd (Prod.snd (Prod.fst s))) ∧ Prod.snd (Prod.snd (Prod.snd (Prod.fst s))) < (↑(List.length (Prod.fst (Prod.snd (Prod.fst s)))) : Int))) <|
    .chk (decide ((0 : Int) ≤ Prod.snd (find_cor1 (numOf (encF rInt (Prod.fst (Prod.snd (Prod.fst s))) ((0 : Nat) + Int.toNat (Prod.snd (Prod.snd (Prod.snd (Prod.fst s))))) (0 : Nat))) (Prod.fst (Prod.fst s))) ∧ Prod.snd (find_cor1 (numOf (encF rInt (Prod.fst (Prod.snd (Prod.fst s))) ((0 : Nat) + Int.toNat (Prod.snd (Prod.snd (Prod.snd (Prod.fst s))))) (0 : Nat))) (Prod.fst (Prod.fst s))) < (↑(XS.len (Prod.fst (Prod.fst s))) : Int) ∧ XS.len (Prod.fst (Prod.fst s)) ≤ (1000000 : Nat))) <|
    .chk (massesOk (Prod.fst (Prod.snd s)) (butX (Prod.fst (Prod.fst s)) (Int.toNat (Prod.snd (find_cor1 (numOf (encF rInt (Prod.fst (Prod.snd (Prod.fst s))) ((0 : Nat) + Int.toNat (Prod.snd (Prod.snd (Prod.snd (Prod.fst s))))) (0 : Nat))) (Prod.fst (Prod.fst s))))))) <|
    .br (!void (togetherOf (Prod.fst (Prod.snd s)) (Prod.fst (Prod.snd (Prod.snd s))) (butX (Prod.fst (Prod.fst s)) (Int.toNat (Prod.snd (find_cor1 (numOf (encF rInt (Prod.fst (Prod.snd (Prod.fst s))) ((0 : Nat) + Int.toNat (Prod.snd (Prod.snd (Prod.snd (Prod.fst s))))) (0 : Nat))) (Prod.fst (Prod.fst s)))))))) (
      .ret (Sum.inl ((Prod.fst (Prod.fst s), decF rInt (List.length (Prod.fst (Prod.snd (Prod.fst s)))) fun i => encF rInt (Prod.fst (Prod.snd (Prod.fst s))) ((0 : Nat) + i), Prod.fst (Prod.snd (Prod.snd (Prod.fst s))), IntKind.wrap IntKind.i64 (Prod.snd (Prod.snd (Prod.snd (Prod.fst s))) + (1 : Int))), Prod.fst (Prod.snd s), Prod.fst (Prod.snd (Prod.snd s)), PUnit.unit))) (
      .ret (Sum.inl ((butX (Prod.fst (Prod.fst s)) (Int.toNat (Prod.snd (find_cor1 (numOf (encF rInt (Prod.fst (Prod.snd (Prod.fst s))) ((0 : Nat) + Int.toNat (Prod.snd (Prod.snd (Prod.snd (Prod.fst s))))) (0 : Nat))) (Prod.fst (Prod.fst s))))), decF rInt (List.length (Prod.fst (Prod.snd (Prod.fst s)))) fun i => encF rInt (Prod.fst (Prod.snd (Prod.fst s))) ((0 : Nat) + i), Prod.fst (Prod.snd (Prod.snd (Prod.fst s))), IntKind.wrap IntKind.i64 (Prod.snd (Prod.snd (Prod.snd (Prod.fst s))) + (1 : Int))), Prod.fst (Prod.snd s), Prod.fst (Prod.snd (Prod.snd s)), PUnit.unit)))) (
    .ret (Sum.inr (Prod.fst (Prod.fst s))))) := fun s => by kernel_rfl
noncomputable def K.L_core := lim K.st_core
noncomputable def BKCo21 : Tab := BKCo17.addNode 17 65 (nodeE [34, 4, 3, 9, 32, 33] S_core X_core (fun s => .obs (K.L_core s) .ret))
theorem tKCo21 : TabOk P BKCo21 := TabOk.addLoop (d := 30) okP tKCo17 (by kernel_rfl) (by kernel_rfl) (fun s r h => obs_ret h)
def R_core := dTup (.cons (dRows rInt) (.last (dI .i64) 0))
theorem fn_core : ∀ a, (callT1 P BKCo21 30 17 D_tog R_core) a = T.run (
  .br (listed1 a != (0 : Int)) (
    .ret (([], listed1 a))) (
    .chk (massesOk (Prod.fst a) (Prod.snd (Prod.snd a))) <|
    .br (!void (togetherOf (Prod.fst a) (Prod.fst (Prod.snd a)) (Prod.snd (Prod.snd a)))) (
      .ret (([], (5 : Int)))) (
      .chk (decide ((0 : Nat) < XS.len (Prod.snd (Prod.snd a)) ∧ XS.len (Prod.snd (Prod.snd a)) ≤ (1000000 : Nat))) <|
      .chk (decide (len (Prod.snd (Prod.snd a)) ≤ (1000000 : Nat))) <|
      .obs (L_core ((cloneX (Prod.snd (Prod.snd a)), decF rInt (List.length (K.idsL (Prod.snd (Prod.snd a)))) fun i => encF rInt (K.idsL (Prod.snd (Prod.snd a))) ((0 : Nat) + i), (↑(clampL (List.length (K.idsL (Prod.snd (Prod.snd a))))) : Int), (0 : Int)), Prod.fst a, Prod.fst (Prod.snd a), PUnit.unit)) fun x0 =>
        .chk (decide (len x0 ≤ (1000000 : Nat))) <|
        .ret ((decF rInt (List.length (K.idsL x0)) fun i => encF rInt (K.idsL x0) ((0 : Nat) + i), (0 : Int)))))) := fun a => by kernel_rfl
def S_sus := DecS.ghost 9 3 1 [.int .i64] (DecS.mk0 (.skips 2 (.cons xSurveys (.unit (dLp 0 0 0 0) (.unit (dLp 1 0 0 0) (.skips 4 (.cons (dO 2) (.skips 21 (.cons xSurveys (.cons (dI .i64) (.last (dI .i64) 21))))))))) ) (.flat 27 lShip (.flat 31 lBulbs (.rows 3 rInt .nil))))
def X_sus := DecX.one (.exit 0) [9] (DecS.mk0 (.skips 9 (.last (dO 0) 45)) (.rows 3 rInt .nil))
noncomputable def K.st_sus := loopT1 P BKCo21 30 19 65 [33, 9, 2, 4, 3, 31, 32] S_sus X_sus
theorem sl_sus : ∀ s, (K.st_sus) s = T.run (
  .br (decide (Prod.snd (Prod.snd (Prod.snd (Prod.snd (Prod.fst s)))) < Prod.fst (Prod.snd (Prod.snd (Prod.snd (Prod.fst s)))))) (
    .chk (decide ((0 : Int) ≤ Prod.snd (Prod.snd (Prod.snd (Prod.snd (Prod.fst s)))) ∧ Prod.snd (Prod.snd (Prod.snd (Prod.snd (Prod.fst s)))) < (↑(XS.len (Prod.fst (Prod.snd (Prod.snd (Prod.fst s))))) : Int))) <|
    .chk (decide ((0 : Int) ≤ Prod.snd (Prod.snd (Prod.snd (Prod.snd (Prod.fst s)))) ∧ Prod.snd (Prod.snd (Prod.snd (Prod.snd (Prod.fst s)))) < (↑(XS.len (Prod.fst (Prod.fst s))) : Int) ∧ XS.len (Prod.fst (Prod.fst s)) ≤ (1000000 : Nat))) <|
    .chk (massesOk (Prod.fst (Prod.snd s)) (butX (Prod.fst (Prod.fst s)) (Int.toNat (Prod.snd (Prod.snd (Prod.snd (Prod.snd (Prod.fst s)))))))) <|
    .br (!void (togetherOf (Prod.fst (Prod.snd s)) (Prod.fst (Prod.snd (Prod.snd s))) (butX (Prod.fst (Prod.fst s)) (Int.toNat (Prod.snd (Prod.snd (Prod.snd (Prod.snd (Prod.fst s))))))))) (
      .chk (decide ((List.length (Prod.fst (Prod.snd (Prod.snd (Prod.snd s)))) + (1 : Nat)) * (8 : Nat) ≤ (140737488355328 : Nat) ∧ List.length (Prod.fst (Prod.snd (Prod.snd (Prod.snd s)))) + (1 : Nat) ≤ nat_lit 9223372036854775807)) <|
      .ret (Sum.inl ((Prod.fst (Prod.fst s), List.length (Prod.fst (Prod.snd (Prod.snd (Prod.snd s)))) + (1 : Nat), Prod.fst (Prod.snd (Prod.snd (Prod.fst s))), Prod.fst (Prod.snd (Prod.snd (Prod.snd (Prod.fst s)))), IntKind.wrap IntKind.i64 (Prod.snd (Prod.snd (Prod.snd (Prod.snd (Prod.fst s)))) + (1 : Int))), Prod.fst (Prod.snd s), Prod.fst (Prod.snd (Prod.snd s)), decF rInt (List.length (Prod.fst (Prod.snd (Prod.snd (Prod.snd s)))) + (1 : Nat)) (appG (List.length (Prod.fst (Prod.snd (Prod.snd (Prod.snd s))))) (encF rInt (Prod.fst (Prod.snd (Prod.snd (Prod.snd s))))) fun i k => Option.getD [AV.int IntKind.i64 (XS.g (Prod.fst (Prod.snd (Prod.snd (Prod.fst s)))) (Int.toNat (Prod.snd (Prod.snd (Prod.snd (Prod.snd (Prod.fst s)))))) (0 : Nat))][((0 : Nat) + i) * (1 : Nat) + k]? AV.top), PUnit.unit))) (
      .ret (Sum.inl ((Prod.fst (Prod.fst s), Prod.fst (Prod.snd (Prod.fst s)), Prod.fst (Prod.snd (Prod.snd (Prod.fst s))), Prod.fst (Prod.snd (Prod.snd (Prod.snd (Prod.fst s)))), IntKind.wrap IntKind.i64 (Prod.snd (Prod.snd (Prod.snd (Prod.snd (Prod.fst s)))) + (1 : Int))), Prod.fst (Prod.snd s), Prod.fst (Prod.snd (Prod.snd s)), decF rInt (List.length (Prod.fst (Prod.snd (Prod.snd (Prod.snd s))))) (encF rInt (Prod.fst (Prod.snd (Prod.snd (Prod.snd s))))), PUnit.unit)))) (
    .ret (Sum.inr (Prod.fst (Prod.snd (Prod.fst s)), decF rInt (List.length (Prod.fst (Prod.snd (Prod.snd (Prod.snd s))))) (encF rInt (Prod.fst (Prod.snd (Prod.snd (Prod.snd s))))), PUnit.unit)))) := fun s => by kernel_rfl
noncomputable def K.L_sus := lim K.st_sus
noncomputable def BKCo22 : Tab := BKCo21.addNode 19 65 (nodeE [33, 9, 2, 4, 3, 31, 32] S_sus X_sus (fun s => .obs (K.L_sus s) .ret))
theorem tKCo22 : TabOk P BKCo22 := TabOk.addLoop (d := 30) okP tKCo21 (by kernel_rfl) (by kernel_rfl) (fun s r h => obs_ret h)
theorem fn_sus : ∀ a, (callT1 P BKCo22 30 19 D_tog R_core) a = T.run (
  .br (listed1 a != (0 : Int)) (
    .ret (([], listed1 a))) (
    .br ((↑(len (Prod.snd (Prod.snd a))) : Int) == (1 : Int)) (
      .ret (([], (0 : Int)))) (
      .chk (massesOk (Prod.fst a) (Prod.snd (Prod.snd a))) <|
      .br (!void (togetherOf (Prod.fst a) (Prod.fst (Prod.snd a)) (Prod.snd (Prod.snd a)))) (
        .ret (([], (0 : Int)))) (
        .obs (L_sus ((Prod.snd (Prod.snd a), (0 : Nat), Prod.snd (Prod.snd a), (↑(len (Prod.snd (Prod.snd a))) : Int), (0 : Int)), Prod.fst a, Prod.fst (Prod.snd a), decF rInt (0 : Nat) fun x x_1 => AV.top, PUnit.unit)) fun x0 =>
          .chk (decide (List.length (Prod.fst (Prod.snd x0)) < (4611686018427387904 : Nat))) <|
          .ret ((decF rInt (List.length (Prod.fst (Prod.snd x0))) fun i => encF rInt (sortL (decF rInt (List.length (Prod.fst (Prod.snd x0))) (encF rInt (Prod.fst (Prod.snd x0))))) ((0 : Nat) + i), (0 : Int))))))) := fun a => by kernel_rfl
end Go.Proofs.YtjbhooodjmjdkaaGreat
/-! KCo3 -/
namespace Go.Proofs.YtjbhooodjmjdkaaGreat
open Ev K
set_option maxRecDepth 100000
def S_rids := DecS.ghost 3 3 1 [.int .i64] (DecS.mk0 (.cons xSurveys (.skips 2 (.cons (dO 0) (.last (dI .i64) 16)))) (.rows 3 rInt .nil))
def X_rids := DecX.one (.exit 0) [3] (DecS.mk0 (.skips 3 (.last (dO 0) 17)) (.rows 3 rInt .nil))
noncomputable def K.st_rids := loopT1 P BKCo17 30 58 25 [4, 0, 3] S_rids X_rids
theorem sl_rids : ∀ s, (K.st_rids) s = T.run (
  .br (decide (Prod.snd (Prod.snd (Prod.fst s)) < (↑(len (Prod.fst (Prod.fst s))) : Int))) (
    .chk (decide ((0 : Int) ≤ Prod.snd (Prod.snd (Prod.fst s)) ∧ Prod.snd (Prod.snd (Prod.fst s)) < (↑(XS.len (Prod.fst (Prod.fst s))) : Int))) <|
    .chk (decide ((List.length (Prod.fst (Prod.snd s)) + (1 : Nat)) * (8 : Nat) ≤ (140737488355328 : Nat) ∧ List.length (Prod.fst (Prod.snd s)) + (1 : Nat) ≤ nat_lit 9223372036854775807)) <|
    .ret (Sum.inl ((Prod.fst (Prod.fst s), List.length (Prod.fst (Prod.snd s)) + (1 : Nat), IntKind.wrap IntKind.i64 (Prod.snd (Prod.snd (Prod.fst s)) + (1 : Int))), decF rInt (List.length (Prod.fst (Prod.snd s)) + (1 : Nat)) (appG (List.length (Prod.fst (Prod.snd s))) (encF rInt (Prod.fst (Prod.snd s))) fun i k => Option.getD [AV.int IntKind.i64 (XS.g (Prod.fst (Prod.fst s)) (Int.toNat (Prod.snd (Prod.snd (Prod.fst s)))) (0 : Nat))][((0 : Nat) + i) * (1 : Nat) + k]? AV.top), PUnit.unit))) (
    .ret (Sum.inr (Prod.fst (Prod.snd (Prod.fst s)), decF rInt (List.length (Prod.fst (Prod.snd s))) (encF rInt (Prod.fst (Prod.snd s))), PUnit.unit)))) := fun s => by kernel_rfl
noncomputable def K.L_rids := lim K.st_rids
noncomputable def BKCo31 : Tab := BKCo17.addNode 58 25 (nodeE [4, 0, 3] S_rids X_rids (fun s => .obs (K.L_rids s) .ret))
theorem tKCo31 : TabOk P BKCo31 := TabOk.addLoop (d := 30) okP tKCo17 (by kernel_rfl) (by kernel_rfl) (fun s r h => obs_ret h)
theorem fn_rids : ∀ a, (callT1 P BKCo31 30 58 (DecL.last xSurveys 0) (dRows rInt)) a = T.run (
  .obs (L_rids ((a, (0 : Nat), (0 : Int)), decF rInt (0 : Nat) fun x x_1 => AV.top, PUnit.unit)) fun x0 =>
    .chk (decide (List.length (decF rInt (List.length (Prod.fst (Prod.snd x0))) fun i => encF rInt (Prod.fst (Prod.snd x0)) ((0 : Nat) + i)) ≤ (1000000 : Nat))) <|
    .ret (decF rInt (List.length (risL (decF rInt (List.length (Prod.fst (Prod.snd x0))) fun i => encF rInt (Prod.fst (Prod.snd x0)) ((0 : Nat) + i)))) fun i => encF rInt (risL (decF rInt (List.length (Prod.fst (Prod.snd x0))) fun i => encF rInt (Prod.fst (Prod.snd x0)) ((0 : Nat) + i))) ((0 : Nat) + i))) := fun a => by kernel_rfl
def S_wo := DecS.ghost 5 85 18 [.int .i64, .int .i64, .int .i64, .int .i64, .int .i64, .int .i64, .int .i64, .int .i64, .int .i64, .int .i64, .int .i64, .int .i64, .int .i64, .int .i64, .int .i64, .int .i64, .int .i64, .int .i64] (DecS.mk0 (.cons xSurveys (.cons (dI .i64) (.skips 3 (.cons (dO 0) (.last (dI .i64) 21))))) (.rows 85 rSurvey .nil))
def X_wo := DecX.one (.exit 0) [5] (DecS.mk0 (.skips 5 (.last (dO 0) 22)) (.rows 85 rSurvey .nil))
noncomputable def K.st_wo := loopT1 P BKCo31 30 59 25 [6, 0, 5, 1] S_wo X_wo
theorem sl_wo : ∀ s, (K.st_wo) s = T.run (
  .br (decide (Prod.snd (Prod.snd (Prod.snd (Prod.fst s))) < (↑(len (Prod.fst (Prod.fst s))) : Int))) (
    .chk (decide ((0 : Int) ≤ Prod.snd (Prod.snd (Prod.snd (Prod.fst s))) ∧ Prod.snd (Prod.snd (Prod.snd (Prod.fst s))) < (↑(XS.len (Prod.fst (Prod.fst s))) : Int))) <|
    .br (XS.g (Prod.fst (Prod.fst s)) (Int.toNat (Prod.snd (Prod.snd (Prod.snd (Prod.fst s))))) (0 : Nat) != Prod.fst (Prod.snd (Prod.fst s))) (
      .chk (decide ((0 : Int) ≤ Prod.snd (Prod.snd (Prod.snd (Prod.fst s))) ∧ Prod.snd (Prod.snd (Prod.snd (Prod.fst s))) < (↑(XS.len (Prod.fst (Prod.fst s))) : Int))) <|
      .chk (decide ((List.length (Prod.fst (Prod.snd s)) + (1 : Nat)) * (144 : Nat) ≤ (140737488355328 : Nat) ∧ List.length (Prod.fst (Prod.snd s)) + (1 : Nat) ≤ nat_lit 9223372036854775807)) <|
      .ret (Sum.inl ((Prod.fst (Prod.fst s), Prod.fst (Prod.snd (Prod.fst s)), List.length (Prod.fst (Prod.snd s)) + (1 : Nat), IntKind.wrap IntKind.i64 (Prod.snd (Prod.snd (Prod.snd (Prod.fst s))) + (1 : Int))), decF rSurvey (List.length (Prod.fst (Prod.snd s)) + (1 : Nat)) (appG (List.length (Prod.fst (Prod.snd s))) (encF rSurvey (Prod.fst (Prod.snd s))) fun i k => Option.getD [AV.int IntKind.i64 (XS.g (Prod.fst (Prod.fst s)) (Int.toNat (Prod.snd (Prod.snd (Prod.snd (Prod.fst s))))) (0 : Nat)), AV.int IntKind.i64 (XS.g (Prod.fst (Prod.fst s)) (Int.toNat (Prod.snd (Prod.snd (Prod.snd (Prod.fst s))))) (1 : Nat)), AV.int IntKind.i64 (XS.g (Prod.fst (Prod.fst s)) (Int.toNat (Prod.snd (Prod.snd (Prod.snd (Prod.fst s))))) (2 : Nat)), AV.int IntKind.i64 (XS.g (Prod.fst (Prod.fst s)) (Int.toNat (Prod.snd (Prod.snd (Prod.snd (Prod.fst s))))) (3 : Nat)), AV.int IntKind.i64 (XS.g (Prod.fst (Prod.fst s)) (Int.toNat (Prod.snd (Prod.snd (Prod.snd (Prod.fst s))))) (4 : Nat)), AV.int IntKind.i64 (XS.g (Prod.fst (Prod.fst s)) (Int.toNat (Prod.snd (Prod.snd (Prod.snd (Prod.fst s))))) (5 : Nat)), AV.int IntKind.i64 (XS.g (Prod.fst (Prod.fst s)) (Int.toNat (Prod.snd (Prod.snd (Prod.snd (Prod.fst s))))) (6 : Nat)), AV.int IntKind.i64 (XS.g (Prod.fst (Prod.fst s)) (Int.toNat (Prod.snd (Prod.snd (Prod.snd (Prod.fst s))))) (7 : Nat)), AV.int IntKind.i64 (XS.g (Prod.fst (Prod.fst s)) (Int.toNat (Prod.snd (Prod.snd (Prod.snd (Prod.fst s))))) (8 : Nat)), AV.int IntKind.i64 (XS.g (Prod.fst (Prod.fst s)) (Int.toNat (Prod.snd (Prod.snd (Prod.snd (Prod.fst s))))) (9 : Nat)), AV.int IntKind.i64 (XS.g (Prod.fst (Prod.fst s)) (Int.toNat (Prod.snd (Prod.snd (Prod.snd (Prod.fst s))))) (10 : Nat)), AV.int IntKind.i64 (XS.g (Prod.fst (Prod.fst s)) (Int.toNat (Prod.snd (Prod.snd (Prod.snd (Prod.fst s))))) (11 : Nat)), AV.int IntKind.i64 (XS.g (Prod.fst (Prod.fst s)) (Int.toNat (Prod.snd (Prod.snd (Prod.snd (Prod.fst s))))) (12 : Nat)), AV.int IntKind.i64 (XS.g (Prod.fst (Prod.fst s)) (Int.toNat (Prod.snd (Prod.snd (Prod.snd (Prod.fst s))))) (13 : Nat)), AV.int IntKind.i64 (XS.g (Prod.fst (Prod.fst s)) (Int.toNat (Prod.snd (Prod.snd (Prod.snd (Prod.fst s))))) (14 : Nat)), AV.int IntKind.i64 (XS.g (Prod.fst (Prod.fst s)) (Int.toNat (Prod.snd (Prod.snd (Prod.snd (Prod.fst s))))) (15 : Nat)), AV.int IntKind.i64 (XS.g (Prod.fst (Prod.fst s)) (Int.toNat (Prod.snd (Prod.snd (Prod.snd (Prod.fst s))))) (16 : Nat)), AV.int IntKind.i64 (XS.g (Prod.fst (Prod.fst s)) (Int.toNat (Prod.snd (Prod.snd (Prod.snd (Prod.fst s))))) (17 : Nat))][((0 : Nat) + i) * (18 : Nat) + k]? AV.top), PUnit.unit))) (
      .ret (Sum.inl ((Prod.fst (Prod.fst s), Prod.fst (Prod.snd (Prod.fst s)), Prod.fst (Prod.snd (Prod.snd (Prod.fst s))), IntKind.wrap IntKind.i64 (Prod.snd (Prod.snd (Prod.snd (Prod.fst s))) + (1 : Int))), decF rSurvey (List.length (Prod.fst (Prod.snd s))) (encF rSurvey (Prod.fst (Prod.snd s))), PUnit.unit)))) (
    .ret (Sum.inr (Prod.fst (Prod.snd (Prod.snd (Prod.fst s))), decF rSurvey (List.length (Prod.fst (Prod.snd s))) (encF rSurvey (Prod.fst (Prod.snd s))), PUnit.unit)))) := fun s => by kernel_rfl
noncomputable def K.L_wo := lim K.st_wo
noncomputable def BKCo32 : Tab := BKCo31.addNode 59 25 (nodeE [6, 0, 5, 1] S_wo X_wo (fun s => .obs (K.L_wo s) .ret))
theorem tKCo32 : TabOk P BKCo32 := TabOk.addLoop (d := 30) okP tKCo31 (by kernel_rfl) (by kernel_rfl) (fun s r h => obs_ret h)
theorem fn_wo : ∀ a, (callT1 P BKCo32 30 59 D_but xSurveys) a = T.run (
  .obs (L_wo ((Prod.fst a, Prod.snd a, (0 : Nat), (0 : Int)), decF rSurvey (0 : Nat) fun x x_1 => AV.top, PUnit.unit)) fun x0 =>
    .ret (XS.mk (List.length (Prod.fst (Prod.snd x0))) (0 : Nat) (List.length (Prod.fst (Prod.snd x0))) none (encF rSurvey (Prod.fst (Prod.snd x0))))) := fun a => by kernel_rfl
theorem fn_agr : ∀ a, (callT1 P BKCo32 30 57 D_mss dB) a = T.run (
  .br ((↑(len (Prod.snd (Prod.snd a))) : Int) == (0 : Int)) (
    .ret (true)) (
    .chk (r_massesOk (Prod.fst a) (Prod.snd (Prod.snd a))) <|
    .ret (!r_none (r_tog (Prod.fst a) (Prod.fst (Prod.snd a)) (Prod.snd (Prod.snd a)))))) := fun a => by kernel_rfl
namespace K
/-- The surveys among the first n whose ID is not c. -/
def woU (x : XS) (c : Int) (n : Nat) : List Survey := ((List.range n).filter fun i => x.g i 0 != c).map (svy x)
theorem woU_succ (x : XS) (c : Int) (n : Nat) : woU x c (n + 1) = if (x.g n 0 != c) = true then woU x c n ++ [svy x n] else woU x c n := by
  unfold woU
  rw [List.range_succ, List.filter_append, List.map_append]
  by_cases h : (x.g n 0 != c) = true
  · rw [if_pos h, List.filter_cons_of_pos (by simpa using h)]; rfl
  · rw [if_neg h, List.filter_cons_of_neg (by simpa using h)]; simp
theorem woU_le (x : XS) (c : Int) (n : Nat) : (woU x c n).length ≤ n := by
  unfold woU; rw [List.length_map]; exact Nat.le_trans (List.length_filter_le _ _) (by simp)
theorem L_wo_eq (x : XS) (c : Int) (h : len x ≤ 1000000) : L_wo ((x, c, 0, 0), [], ()) = some ((woU x c (len x)).length, woU x c (len x), ()) := by
  have e1 := K.len_le x; have e2 := K.len_le' x
  refine lim_all (fun i => ((x, c, (woU x c i).length, (i : Int)), woU x c i, ())) (len x) (fun i hi => ?_) ?_
  · have hle := woU_le x c i
    rw [sl_wo]
    simp only [T.run_br, T.run_chk, T.run_ret, decide_eq_true_eq, Int.toNat_natCast]
    rw [if_pos (by omega), if_pos (by omega), w64_in (n := (i : Int) + 1) (by omega) (by omega), woU_succ]
    by_cases hp : (x.g i 0 != c) = true
    · rw [if_pos hp, if_pos hp, if_pos (by omega), if_pos (by omega), decF_push, List.length_append]; rfl
    · rw [if_neg hp, if_neg hp, decF_encF]; rfl
  · rw [sl_wo]
    simp only [T.run_br, T.run_ret, decide_eq_true_eq]
    rw [if_neg (by omega), decF_encF]
/-- The surveys whose ID is not c. -/
def woX (x : XS) (c : Int) : XS := ⟨(woU x c (len x)).length, 0, (woU x c (len x)).length, none, encF rSurvey (woU x c (len x))⟩
theorem wo_eq (a : XS × Int) (h : len a.1 ≤ 1000000) : callT1 P BKCo32 30 59 D_but xSurveys a = some (woX a.1 a.2) := by
  rw [fn_wo]
  show T.run (.obs (L_wo ((a.1, a.2, 0, 0), [], ())) _) = _
  rw [L_wo_eq a.1 a.2 h, T.run_some, T.run_ret]; rfl
theorem L_rids_eq (x : XS) (h : len x ≤ 1000000) : L_rids ((x, 0, 0), [], ()) = some (len x, idsU x (len x), ()) := by
  have e1 := K.len_le x; have e2 := K.len_le' x
  refine lim_all (fun i => ((x, i, (i : Int)), idsU x i, ())) (len x) (fun i hi => ?_) ?_
  · rw [sl_rids]
    simp only [T.run_br, T.run_chk, T.run_ret, decide_eq_true_eq, Int.toNat_natCast, idsU_length]
    rw [if_pos (by omega), if_pos (by omega), if_pos (by omega), w64_in (n := (i : Int) + 1) (by omega) (by omega)]
    have := decF_push rInt (idsU x i) (fun i_1 k => Option.getD [AV.int IntKind.i64 (XS.g x i 0)][((0 : Nat) + i_1) * (1 : Nat) + k]? AV.top)
    rw [idsU_length] at this
    rw [this, idsU_succ]; rfl
  · rw [sl_rids]
    simp only [T.run_br, T.run_ret, decide_eq_true_eq, idsU_length]
    rw [if_neg (by omega)]
    have := decF_encF rInt (idsU x (len x))
    rw [idsU_length] at this
    rw [this]
theorem rids_eq (x : XS) (h : len x ≤ 1000000) : callT1 P BKCo31 30 58 (DecL.last xSurveys 0) (dRows rInt) x = some (idsL x) := by
  rw [fn_rids]
  show T.run (.obs (L_rids ((x, 0, 0), [], ())) _) = _
  rw [L_rids_eq x h, T.run_some]
  have hd := decF_enc0 rInt (idsU x (len x))
  simp only [hd, risL_eq]
  refine chk_step (decide_eq_true (by rw [idsU_length]; exact h)) ?_
  rw [T.run_ret]
  exact congrArg some (decF_enc0 rInt (idsL x))
/-- Whether surveys agree. -/
noncomputable def agr (a : Ship × Bulbs × XS) : Bool := ((len a.2.2 : Int) == 0) || !r_none (r_tog a.1 a.2.1 a.2.2)
theorem agr_eq (a : Ship × Bulbs × XS) (h : len a.2.2 = 0 ∨ r_massesOk a.1 a.2.2 = true) : callT1 P BKCo32 30 57 D_mss dB a = some (agr a) := by
  rw [fn_agr]; unfold agr
  by_cases h0 : ((len a.2.2 : Int) == 0) = true
  · rw [T.run_br, if_pos h0, h0]; rfl
  · rw [T.run_br, if_neg h0]
    have hne : ¬ len a.2.2 = 0 := fun e => h0 (by rw [e]; rfl)
    refine chk_step (h.resolve_left hne) ?_
    rw [Bool.not_eq_true] at h0
    rw [h0]; rfl
end K
noncomputable def BKCo33 : Tab := BKCo32.addCall 58 (callE (DecL.last xSurveys 0) (dRows rInt) (fun x => .chk (decide (len x ≤ 1000000)) (.ret (idsL x))))
theorem tKCo33 : TabOk P BKCo33 := TabOk.addPC tKCo32 (fun a r h => by obtain ⟨g, e⟩ := chk_ret h; subst e; exact call_of okP tKCo31 (K.rids_eq a (by simpa using g)))
noncomputable def BKCo34 : Tab := BKCo33.addCall 59 (callE D_but xSurveys (fun a => .chk (decide (len a.1 ≤ 1000000)) (.ret (woX a.1 a.2))))
theorem tKCo34 : TabOk P BKCo34 := TabOk.addPC tKCo33 (fun a r h => by obtain ⟨g, e⟩ := chk_ret h; subst e; exact call_of okP tKCo32 (K.wo_eq a (by simpa using g)))
noncomputable def BKCo35 : Tab := BKCo34.addCall 57 (callE D_mss dB (fun a => .chk (decide (len a.2.2 = 0) || r_massesOk a.1 a.2.2) (.ret (agr a))))
theorem tKCo35 : TabOk P BKCo35 := TabOk.addPC tKCo34 (fun a r h => by obtain ⟨g, e⟩ := chk_ret h; subst e; exact call_of okP tKCo32 (K.agr_eq a (by simpa using g)))
end Go.Proofs.YtjbhooodjmjdkaaGreat
/-! KCo4 -/
namespace Go.Proofs.YtjbhooodjmjdkaaGreat
open Ev K
set_option maxRecDepth 100000
def S_rcore := DecS.mk0 (.skips 3 (.unit (dLp 0 0 0 0) (.unit (dLp 1 0 0 0) (.skip (.unit (dLp 2 0 0 0) (.skip (.cons (dRows rInt) (.cons xSurveys (.last (dI .i64) 38))))))))) (.flat 27 lShip (.flat 31 lBulbs (.flat 53 (.tops 2) .nil)))
def X_rcore := DecX.one (.exit 0) [6, 9] (DecS.mk0 (.skips 6 (.unit (dLp 0 0 0 0) (.skips 2 (.last xSurveys 39)))) (.flat 53 (.tops 2) .nil))
noncomputable def K.st_rcore := loopT1 P BKCo35 30 18 73 [10, 4, 3, 8, 9, 6] S_rcore X_rcore
theorem sl_rcore : ∀ s, (K.st_rcore) s = T.run (
  .br (decide (Prod.snd (Prod.snd (Prod.fst s)) < (↑(clampL (List.length (Prod.fst (Prod.fst s)))) : Int))) (
    .chk (decide ((0 : Int) ≤ Prod.snd (Prod.snd (Prod.fst s)) ∧ Prod.snd (Prod.snd (Prod.fst s)) < (↑(List.length (Prod.fst (Prod.fst s))) : Int))) <|
    .chk (decide (len (Prod.fst (Prod.snd (Prod.fst s))) ≤ (1000000 : Nat))) <|
    .chk (decide (len (woX (Prod.fst (Prod.snd (Prod.fst s))) (numOf (encF rInt (Prod.fst (Prod.fst s)) ((0 : Nat) + Int.toNat (Prod.snd (Prod.snd (Prod.fst s)))) (0 : Nat)))) = (0 : Nat)) || r_massesOk (Prod.fst (Prod.snd s)) (woX (Prod.fst (Prod.snd (Prod.fst s))) (numOf (encF rInt (Prod.fst (Prod.fst s)) ((0 : Nat) + Int.toNat (Prod.snd (Prod.snd (Prod.fst s)))) (0 : Nat))))) <|
    .br (!agr (Prod.fst (Prod.snd s), Prod.fst (Prod.snd (Prod.snd s)), woX (Prod.fst (Prod.snd (Prod.fst s))) (numOf (encF rInt (Prod.fst (Prod.fst s)) ((0 : Nat) + Int.toNat (Prod.snd (Prod.snd (Prod.fst s)))) (0 : Nat))))) (
      .ret (Sum.inl ((decF rInt (List.length (Prod.fst (Prod.fst s))) fun i => encF rInt (Prod.fst (Prod.fst s)) ((0 : Nat) + i), woX (Prod.fst (Prod.snd (Prod.fst s))) (numOf (encF rInt (Prod.fst (Prod.fst s)) ((0 : Nat) + Int.toNat (Prod.snd (Prod.snd (Prod.fst s)))) (0 : Nat))), IntKind.wrap IntKind.i64 (Prod.snd (Prod.snd (Prod.fst s)) + (1 : Int))), Prod.fst (Prod.snd s), Prod.fst (Prod.snd (Prod.snd s)), PUnit.unit, PUnit.unit))) (
      .ret (Sum.inl ((decF rInt (List.length (Prod.fst (Prod.fst s))) fun i => encF rInt (Prod.fst (Prod.fst s)) ((0 : Nat) + i), Prod.fst (Prod.snd (Prod.fst s)), IntKind.wrap IntKind.i64 (Prod.snd (Prod.snd (Prod.fst s)) + (1 : Int))), Prod.fst (Prod.snd s), Prod.fst (Prod.snd (Prod.snd s)), PUnit.unit, PUnit.unit)))) (
    .ret (Sum.inr (Prod.fst (Prod.snd (Prod.fst s)), PUnit.unit, PUnit.unit)))) := fun s => by kernel_rfl
noncomputable def K.L_rcore := lim K.st_rcore
noncomputable def BKCo41 : Tab := BKCo35.addNode 18 73 (nodeE [10, 4, 3, 8, 9, 6] S_rcore X_rcore (fun s => .obs (K.L_rcore s) .ret))
theorem tKCo41 : TabOk P BKCo41 := TabOk.addLoop (d := 30) okP tKCo35 (by kernel_rfl) (by kernel_rfl) (fun s r h => obs_ret h)
def R_rcore := dAgg (.cons (dRows rInt) (.last (dI .i64) 0))
theorem fn_rcore : ∀ a, (callT1 P BKCo41 30 18 D_mss R_rcore) a = T.run (
  .br (r_asked a != (0 : Int)) (
    .ret (([], r_asked a))) (
    .chk (decide (len (Prod.snd (Prod.snd a)) = (0 : Nat)) || r_massesOk (Prod.fst a) (Prod.snd (Prod.snd a))) <|
    .br (agr a) (
      .ret (([], (5 : Int)))) (
      .chk (decide (len (Prod.snd (Prod.snd a)) ≤ (1000000 : Nat))) <|
      .obs (L_rcore ((decF rInt (List.length (K.idsL (Prod.snd (Prod.snd a)))) fun i => encF rInt (K.idsL (Prod.snd (Prod.snd a))) ((0 : Nat) + i), Prod.snd (Prod.snd a), (0 : Int)), Prod.fst a, Prod.fst (Prod.snd a), PUnit.unit, PUnit.unit)) fun x0 =>
        .chk (decide (len (Prod.fst x0) ≤ (1000000 : Nat))) <|
        .ret ((decF rInt (List.length (K.idsL (Prod.fst x0))) fun i => encF rInt (K.idsL (Prod.fst x0)) ((0 : Nat) + i), (0 : Int)))))) := fun a => by kernel_rfl
def S_rsus := DecS.ghost 9 3 1 [.int .i64] (DecS.mk0 (.skips 2 (.cons xSurveys (.unit (dLp 0 0 0 0) (.unit (dLp 1 0 0 0) (.skip (.unit (dLp 2 0 0 0) (.skip (.cons (dRows rInt) (.cons (dO 3) (.last (dI .i64) 46)))))))))) (.flat 27 lShip (.flat 31 lBulbs (.flat 53 (.tops 2) (.rows 3 rInt .nil)))))
def X_rsus := DecX.one (.exit 0) [6, 9] (DecS.mk0 (.skips 6 (.unit (dLp 0 0 0 0) (.skips 2 (.last (dO 1) 47)))) (.flat 53 (.tops 2) (.rows 3 rInt .nil)))
noncomputable def K.st_rsus := loopT1 P BKCo41 30 20 73 [10, 8, 9, 4, 3, 2, 6] S_rsus X_rsus
theorem sl_rsus : ∀ s, (K.st_rsus) s = T.run (
  .br (decide (Prod.snd (Prod.snd (Prod.snd (Prod.fst s))) < (↑(clampL (List.length (Prod.fst (Prod.snd (Prod.fst s))))) : Int))) (
    .chk (decide ((0 : Int) ≤ Prod.snd (Prod.snd (Prod.snd (Prod.fst s))) ∧ Prod.snd (Prod.snd (Prod.snd (Prod.fst s))) < (↑(List.length (Prod.fst (Prod.snd (Prod.fst s)))) : Int))) <|
    .chk (decide (len (Prod.fst (Prod.fst s)) ≤ (1000000 : Nat))) <|
    .br (decide ((↑(len (woX (Prod.fst (Prod.fst s)) (numOf (encF rInt (Prod.fst (Prod.snd (Prod.fst s))) ((0 : Nat) + Int.toNat (Prod.snd (Prod.snd (Prod.snd (Prod.fst s))))) (0 : Nat))))) : Int) > (0 : Int))) (
      .chk (decide (len (woX (Prod.fst (Prod.fst s)) (numOf (encF rInt (Prod.fst (Prod.snd (Prod.fst s))) ((0 : Nat) + Int.toNat (Prod.snd (Prod.snd (Prod.snd (Prod.fst s))))) (0 : Nat)))) = (0 : Nat)) || r_massesOk (Prod.fst (Prod.snd s)) (woX (Prod.fst (Prod.fst s)) (numOf (encF rInt (Prod.fst (Prod.snd (Prod.fst s))) ((0 : Nat) + Int.toNat (Prod.snd (Prod.snd (Prod.snd (Prod.fst s))))) (0 : Nat))))) <|
      .br (agr (Prod.fst (Prod.snd s), Prod.fst (Prod.snd (Prod.snd s)), woX (Prod.fst (Prod.fst s)) (numOf (encF rInt (Prod.fst (Prod.snd (Prod.fst s))) ((0 : Nat) + Int.toNat (Prod.snd (Prod.snd (Prod.snd (Prod.fst s))))) (0 : Nat))))) (
        .chk (decide ((0 : Int) ≤ Prod.snd (Prod.snd (Prod.snd (Prod.fst s))) ∧ Prod.snd (Prod.snd (Prod.snd (Prod.fst s))) < (↑(List.length (Prod.fst (Prod.snd (Prod.fst s)))) : Int))) <|
        .chk (decide ((List.length (Prod.fst (Prod.snd (Prod.snd (Prod.snd (Prod.snd s))))) + (1 : Nat)) * (8 : Nat) ≤ (140737488355328 : Nat) ∧ List.length (Prod.fst (Prod.snd (Prod.snd (Prod.snd (Prod.snd s))))) + (1 : Nat) ≤ nat_lit 9223372036854775807)) <|
        .ret (Sum.inl ((Prod.fst (Prod.fst s), decF rInt (List.length (Prod.fst (Prod.snd (Prod.fst s)))) fun i => encF rInt (Prod.fst (Prod.snd (Prod.fst s))) ((0 : Nat) + i), List.length (Prod.fst (Prod.snd (Prod.snd (Prod.snd (Prod.snd s))))) + (1 : Nat), IntKind.wrap IntKind.i64 (Prod.snd (Prod.snd (Prod.snd (Prod.fst s))) + (1 : Int))), Prod.fst (Prod.snd s), Prod.fst (Prod.snd (Prod.snd s)), PUnit.unit, decF rInt (List.length (Prod.fst (Prod.snd (Prod.snd (Prod.snd (Prod.snd s))))) + (1 : Nat)) (appG (List.length (Prod.fst (Prod.snd (Prod.snd (Prod.snd (Prod.snd s)))))) (encF rInt (Prod.fst (Prod.snd (Prod.snd (Prod.snd (Prod.snd s)))))) fun i k => Option.getD [AV.int IntKind.i64 (numOf (encF rInt (Prod.fst (Prod.snd (Prod.fst s))) ((0 : Nat) + Int.toNat (Prod.snd (Prod.snd (Prod.snd (Prod.fst s))))) (0 : Nat)))][((0 : Nat) + i) * (1 : Nat) + k]? AV.top), PUnit.unit))) (
        .ret (Sum.inl ((Prod.fst (Prod.fst s), decF rInt (List.length (Prod.fst (Prod.snd (Prod.fst s)))) fun i => encF rInt (Prod.fst (Prod.snd (Prod.fst s))) ((0 : Nat) + i), Prod.fst (Prod.snd (Prod.snd (Prod.fst s))), IntKind.wrap IntKind.i64 (Prod.snd (Prod.snd (Prod.snd (Prod.fst s))) + (1 : Int))), Prod.fst (Prod.snd s), Prod.fst (Prod.snd (Prod.snd s)), PUnit.unit, decF rInt (List.length (Prod.fst (Prod.snd (Prod.snd (Prod.snd (Prod.snd s)))))) (encF rInt (Prod.fst (Prod.snd (Prod.snd (Prod.snd (Prod.snd s)))))), PUnit.unit)))) (
      .ret (Sum.inl ((Prod.fst (Prod.fst s), decF rInt (List.length (Prod.fst (Prod.snd (Prod.fst s)))) fun i => encF rInt (Prod.fst (Prod.snd (Prod.fst s))) ((0 : Nat) + i), Prod.fst (Prod.snd (Prod.snd (Prod.fst s))), IntKind.wrap IntKind.i64 (Prod.snd (Prod.snd (Prod.snd (Prod.fst s))) + (1 : Int))), Prod.fst (Prod.snd s), Prod.fst (Prod.snd (Prod.snd s)), PUnit.unit, decF rInt (List.length (Prod.fst (Prod.snd (Prod.snd (Prod.snd (Prod.snd s)))))) (encF rInt (Prod.fst (Prod.snd (Prod.snd (Prod.snd (Prod.snd s)))))), PUnit.unit)))) (
    .ret (Sum.inr (Prod.fst (Prod.snd (Prod.snd (Prod.fst s))), PUnit.unit, decF rInt (List.length (Prod.fst (Prod.snd (Prod.snd (Prod.snd (Prod.snd s)))))) (encF rInt (Prod.fst (Prod.snd (Prod.snd (Prod.snd (Prod.snd s)))))), PUnit.unit)))) := fun s => by kernel_rfl
noncomputable def K.L_rsus := lim K.st_rsus
noncomputable def BKCo42 : Tab := BKCo41.addNode 20 73 (nodeE [10, 8, 9, 4, 3, 2, 6] S_rsus X_rsus (fun s => .obs (K.L_rsus s) .ret))
theorem tKCo42 : TabOk P BKCo42 := TabOk.addLoop (d := 30) okP tKCo41 (by kernel_rfl) (by kernel_rfl) (fun s r h => obs_ret h)
theorem fn_rsus : ∀ a, (callT1 P BKCo42 30 20 D_mss R_rcore) a = T.run (
  .br (r_asked a != (0 : Int)) (
    .ret (([], r_asked a))) (
    .chk (decide (len (Prod.snd (Prod.snd a)) = (0 : Nat)) || r_massesOk (Prod.fst a) (Prod.snd (Prod.snd a))) <|
    .br (agr a) (
      .ret (([], (0 : Int)))) (
      .chk (decide (len (Prod.snd (Prod.snd a)) ≤ (1000000 : Nat))) <|
      .obs (L_rsus ((Prod.snd (Prod.snd a), decF rInt (List.length (K.idsL (Prod.snd (Prod.snd a)))) fun i => encF rInt (K.idsL (Prod.snd (Prod.snd a))) ((0 : Nat) + i), (0 : Nat), (0 : Int)), Prod.fst a, Prod.fst (Prod.snd a), PUnit.unit, decF rInt (0 : Nat) fun x x_1 => AV.top, PUnit.unit)) fun x0 =>
        .ret ((decF rInt (List.length (Prod.fst (Prod.snd (Prod.snd x0)))) fun i => encF rInt (Prod.fst (Prod.snd (Prod.snd x0))) ((0 : Nat) + i), (0 : Int)))))) := fun a => by kernel_rfl
end Go.Proofs.YtjbhooodjmjdkaaGreat
/-! KCo5 -/
namespace Go.Proofs.YtjbhooodjmjdkaaGreat
open Ev K
set_option maxRecDepth 100000
namespace K
theorem len_small {x : XS} (h : len x ≤ 1000000) : x.len = len x := by
  by_cases hm : x.len ≤ maxL
  · exact (clampL_eq hm).symm
  · exfalso
    have : len x = maxL := if_neg hm
    unfold maxL at this; omega
/-- The surveys of a list. -/
def svys (x : XS) : List Survey := (List.range (len x)).map (svy x)
theorem svys_length (x : XS) : (svys x).length = len x := by simp [svys]
theorem svys_at {x : XS} {i : Nat} (hi : i < len x) : (svys x)[i]? = some (svy x i) := by simp [svys, hi]
theorem svys_mem {x : XS} {v : Survey} (h : v ∈ svys x) : ∃ i, i < len x ∧ svy x i = v := by
  obtain ⟨i, hi, e⟩ := List.mem_map.1 h
  exact ⟨i, List.mem_range.1 hi, e⟩
/-- What is possible by all surveys of a list. -/
noncomputable def togL (s : Ship) (b : Bulbs) (l : List Survey) : Span := (l.map (massOf s b)).foldl meet ⟨s.light, rooms s⟩
theorem tog_svys (s : Ship) (b : Bulbs) (x : XS) : togetherOf s b x = togL s b (svys x) := by
  unfold togetherOf massesL togL svys
  rw [List.foldl_map, List.map_map, List.foldl_map]; rfl
structure LOk (b : Bulbs) (l : List Survey) : Prop where
  le : l.length ≤ 12
  each : ∀ v ∈ l, check (b, v) = 0
  apart : l.Pairwise fun u v => u.id ≠ v.id
theorem LOk.filter {b : Bulbs} {l : List Survey} (h : LOk b l) (p : Survey → Bool) : LOk b (l.filter p) :=
  ⟨Nat.le_trans (List.length_filter_le _ _) h.le, fun v hv => h.each v (List.mem_filter.1 hv).1, h.apart.filter p⟩
theorem lok_of {b : Bulbs} {x : XS} (l : ListOk b x) : LOk b (svys x) := by
  refine ⟨by rw [svys_length]; exact l.le, fun v hv => ?_, ?_⟩
  · obtain ⟨i, hi, rfl⟩ := svys_mem hv
    exact l.each i hi
  · rw [List.pairwise_iff_getElem]
    intro i j hi hj hij
    have hi' : i < len x := by rw [svys_length] at hi; exact hi
    have hj' : j < len x := by rw [svys_length] at hj; exact hj
    have e1 := svys_at hi'; have e2 := svys_at hj'
    rw [List.getElem?_eq_getElem hi] at e1; rw [List.getElem?_eq_getElem hj] at e2
    injection e1 with e1; injection e2 with e2
    rw [e1, e2]
    exact l.apart j i hj' hij
theorem listOk_of {b : Bulbs} {x : XS} (h : LOk b (svys x)) (hp : 0 < len x) : ListOk b x := by
  have hl := h.le; rw [svys_length] at hl
  refine ⟨hp, hl, fun i hi => h.each _ (List.mem_of_getElem? (svys_at hi)), fun i j hi hj => ?_⟩
  have hj' : j < len x := by omega
  have := List.pairwise_iff_getElem.1 h.apart j i (by rw [svys_length]; exact hj') (by rw [svys_length]; exact hi) hj
  have e1 := svys_at hi; have e2 := svys_at hj'
  rw [List.getElem?_eq_getElem (by rw [svys_length]; exact hi)] at e1; rw [List.getElem?_eq_getElem (by rw [svys_length]; exact hj')] at e2
  injection e1 with e1; injection e2 with e2
  rw [e1, e2] at this
  exact this
theorem massesOk_L {s : Ship} {b : Bulbs} {x : XS} (hs : ShipOk s) (h : LOk b (svys x)) : massesOk s x = true := by
  by_cases hp : 0 < len x
  · exact massesOk_is hs (listOk_of h hp)
  · unfold massesOk; rw [show len x = 0 by omega]; rfl
theorem svys_but {x : XS} {j : Nat} (hj : j < len x) (hx : len x ≤ 1000000) : svys (butX x j) = (svys x).eraseIdx j := by
  have hl := len_small hx
  have hb : len (butX x j) = len x - 1 := by
    show clampL (x.len - 1) = _
    rw [clampL_eq (by unfold maxL; omega), hl]
  apply List.ext_getElem?
  intro i
  rw [List.getElem?_eraseIdx]
  by_cases hi : i < len x - 1
  · rw [svys_at (by rw [hb]; exact hi)]
    have e : svy (butX x j) i = svy x (if i < j then i else i + 1) := by
      unfold svy
      simp only [fun k => butX_at x (j := j) (by omega) (i := i) k (by omega)]
    rw [e]
    by_cases h : i < j
    · rw [if_pos h, if_pos h, svys_at (by omega)]
    · rw [if_neg h, if_neg h, svys_at (by omega)]
  · rw [List.getElem?_eq_none (by rw [svys_length, hb]; omega)]
    by_cases h : i < j
    · omega
    · rw [if_neg h, List.getElem?_eq_none (by rw [svys_length]; omega)]
theorem woU_svys (x : XS) (c : Int) : woU x c (len x) = (svys x).filter fun v => v.id != c := by
  unfold woU svys; rw [List.filter_map]; rfl
theorem svy_wr {l : List Survey} {n : Nat} {i : Nat} {v : Survey} (h : l[i]? = some v) : svy ⟨n, 0, n, none, encF rSurvey l⟩ i = v := by
  have e : ∀ k, (⟨n, 0, n, none, encF rSurvey l⟩ : XS).g i k = numOf (rSurvey.wr v k) := fun k => by
    show numOf (encF rSurvey l (0 + i) k) = _
    rw [Nat.zero_add, encF_at h]
  unfold svy
  simp only [e]
  rfl
theorem svys_wo {x : XS} (hx : len x ≤ 1000000) (c : Int) : svys (woX x c) = (svys x).filter fun v => v.id != c := by
  rw [← woU_svys]
  have hle := woU_le x c (len x)
  have hb : len (woX x c) = (woU x c (len x)).length := by
    show clampL (woU x c (len x)).length = _
    exact clampL_eq (by unfold maxL; omega)
  apply List.ext_getElem?
  intro i
  by_cases hi : i < (woU x c (len x)).length
  · rw [svys_at (by rw [hb]; exact hi), List.getElem?_eq_getElem hi]
    exact congrArg some (svy_wr (List.getElem?_eq_getElem hi))
  · rw [List.getElem?_eq_none (by rw [svys_length, hb]; omega), List.getElem?_eq_none (by omega)]
theorem erase_filter : ∀ {l : List Survey} {j : Nat} {v : Survey}, (l.Pairwise fun u v => u.id ≠ v.id) → l[j]? = some v → l.eraseIdx j = l.filter fun u => u.id != v.id
  | [], j, v, _, h => by simp at h
  | u :: t, 0, v, hp, h => by
    simp at h; subst h
    rw [List.pairwise_cons] at hp
    rw [List.filter_cons_of_neg (by simp)]
    show t = _
    rw [List.filter_eq_self.2]
    intro w hw
    have := hp.1 w hw
    simpa using fun e => this e.symm
  | u :: t, j + 1, v, hp, h => by
    rw [List.pairwise_cons] at hp
    have h : t[j]? = some v := by simpa using h
    have hv := hp.1 v (List.mem_of_getElem? h)
    rw [List.filter_cons_of_pos (by simpa using hv)]
    show u :: t.eraseIdx j = _
    rw [erase_filter hp.2 h]
end K
end Go.Proofs.YtjbhooodjmjdkaaGreat
/-! KCo6 -/
namespace Go.Proofs.YtjbhooodjmjdkaaGreat
open Ev K
set_option maxRecDepth 100000
namespace K
/-- A survey left out, where the others do not agree. -/
noncomputable def stepC (s : Ship) (b : Bulbs) (l : List Survey) (c : Int) : List Survey := if void (togL s b (l.filter fun v => v.id != c)) = true then l.filter (fun v => v.id != c) else l
noncomputable def foldC (s : Ship) (b : Bulbs) (x : XS) (i : Nat) : List Survey := ((idsL x).take i).foldl (stepC s b) (svys x)
theorem foldC_succ {s : Ship} {b : Bulbs} {x : XS} {i : Nat} (hi : i < len x) : foldC s b x (i + 1) = stepC s b (foldC s b x i) (atI (idsL x) i) := by
  have hi' : i < (idsL x).length := by rw [idsL_length]; exact hi
  unfold foldC
  rw [List.take_add_one, List.getElem?_eq_getElem hi', List.foldl_append, atI_get hi']; rfl
theorem stepC_ok {s : Ship} {b : Bulbs} {l : List Survey} (h : LOk b l) (c : Int) : LOk b (stepC s b l c) := by
  unfold stepC; split
  · exact h.filter _
  · exact h
theorem fold_ok {s : Ship} {b : Bulbs} : ∀ (cs : List Int) {l : List Survey}, LOk b l → LOk b (cs.foldl (stepC s b) l)
  | [], l, h => h
  | c :: cs, l, h => fold_ok cs (stepC_ok h c)
theorem foldC_ok {s : Ship} {b : Bulbs} {x : XS} (l : ListOk b x) (i : Nat) : LOk b (foldC s b x i) := fold_ok _ (lok_of l)
theorem fold_mem {s : Ship} {b : Bulbs} : ∀ (cs : List Int) {l : List Survey} {u : Survey}, u ∈ l → u.id ∉ cs → u ∈ cs.foldl (stepC s b) l
  | [], l, u, h, _ => h
  | c :: cs, l, u, h, hn => by
    rw [List.mem_cons, not_or] at hn
    refine fold_mem cs ?_ hn.2
    unfold stepC; split
    · exact List.mem_filter.2 ⟨h, by simpa using hn.1⟩
    · exact h
theorem idsU_svys (x : XS) : idsU x (len x) = (svys x).map (·.id) := by unfold idsU svys; rw [List.map_map]; rfl
theorem idsL_perm (x : XS) : (idsL x).Perm ((svys x).map (·.id)) := by rw [← idsU_svys]; exact sortL_perm _
theorem ids_nodup {b : Bulbs} {x : XS} (l : ListOk b x) : (idsL x).Pairwise (fun a c => a ≠ c) := by
  have h : ((svys x).map (·.id)).Nodup := by
    unfold List.Nodup; rw [List.pairwise_map]; exact (lok_of l).apart
  exact (idsL_perm x).nodup_iff.2 h
theorem foldC_has {s : Ship} {b : Bulbs} {x : XS} (l : ListOk b x) {i : Nat} (hi : i < len x) : ∃ u ∈ foldC s b x i, u.id = atI (idsL x) i := by
  have hi' : i < (idsL x).length := by rw [idsL_length]; exact hi
  have hm : (idsL x)[i] ∈ (svys x).map (·.id) := (idsL_perm x).mem_iff.1 (List.getElem_mem hi')
  obtain ⟨u, hu, e⟩ := List.mem_map.1 hm
  refine ⟨u, fold_mem _ hu (fun hin => ?_), by rw [atI_get hi']; exact e⟩
  obtain ⟨k, hk, e2⟩ := List.getElem_of_mem hin
  rw [List.length_take] at hk
  rw [List.getElem_take] at e2
  exact List.pairwise_iff_getElem.1 (ids_nodup l) k i (by omega) hi' (by omega) (by rw [e2]; exact e)
theorem find_at {x : XS} {c : Int} (h : ∃ u ∈ svys x, u.id = c) : ∃ j : Nat, j < len x ∧ (find_cor1 c x).2 = (j : Int) ∧ x.g j 0 = c := by
  obtain ⟨u, hu, e⟩ := h
  obtain ⟨i, hi, rfl⟩ := svys_mem hu
  have hf : (find_cor1 c x).2 = idx (p_cor1 c x) (len x) := by unfold find_cor1; rw [found_idx]
  rw [hf]; unfold idx
  cases hq : first (p_cor1 c x) (len x) with
  | none =>
    have := first_none' hq i hi
    have e : x.g i 0 = c := e
    unfold p_cor1 at this
    rw [e] at this; simp at this
  | some j =>
    obtain ⟨h1, h2, _⟩ := first_spec hq
    exact ⟨j, h1, rfl, by unfold p_cor1 at h2; simpa using h2⟩
/-- The program's step. -/
noncomputable def cS (s : Ship) (b : Bulbs) (y : XS) (c : Int) : XS := if (!void (togetherOf s b (butX y (find_cor1 c y).2.toNat))) = true then y else butX y (find_cor1 c y).2.toNat
noncomputable def cX (s : Ship) (b : Bulbs) (ids : List Int) (y : XS) : Nat → XS
  | 0 => y
  | i + 1 => cS s b (cX s b ids y i) (atI ids i)
theorem but_filter {b : Bulbs} {y : XS} {c : Int} (h : LOk b (svys y)) (hc : ∃ u ∈ svys y, u.id = c) : svys (butX y (find_cor1 c y).2.toNat) = (svys y).filter fun v => v.id != c := by
  obtain ⟨j, hj, e, e2⟩ := find_at hc
  have hl := h.le; rw [svys_length] at hl
  rw [e, Int.toNat_natCast, svys_but hj (by omega), erase_filter h.apart (svys_at hj)]
  show ((svys y).filter fun u => u.id != y.g j 0) = _
  rw [e2]
theorem cS_svys {s : Ship} {b : Bulbs} {y : XS} {c : Int} (h : LOk b (svys y)) (hc : ∃ u ∈ svys y, u.id = c) : svys (cS s b y c) = stepC s b (svys y) c := by
  unfold cS stepC
  rw [tog_svys, but_filter h hc]
  cases hv : void (togL s b ((svys y).filter fun v => v.id != c)) with
  | true => rw [if_neg (by simp), if_pos rfl, but_filter h hc]
  | false => rw [if_pos (by simp), if_neg (by simp)]
theorem svys_clone (x : XS) : svys (cloneX x) = svys x := by
  unfold svys
  show (List.range (len x)).map _ = _
  apply List.map_congr_left
  intro i _
  unfold svy; simp only [cloneX_g]
theorem cX_inv {s : Ship} {b : Bulbs} {x : XS} (l : ListOk b x) : ∀ i, i ≤ len x → svys (cX s b (idsL x) (cloneX x) i) = foldC s b x i
  | 0, _ => svys_clone x
  | i + 1, hi => by
    have ih := cX_inv (s := s) l i (by omega)
    rw [foldC_succ (by omega), ← ih]
    exact cS_svys (by rw [ih]; exact foldC_ok l i) (by rw [ih]; exact foldC_has l (by omega))
theorem L_core_eq {s : Ship} {b : Bulbs} {x : XS} (hs : ShipOk s) (l : ListOk b x) : L_core ((cloneX x, idsL x, (len x : Int), 0), s, b, ()) = some (cX s b (idsL x) (cloneX x) (len x)) := by
  have h12 := l.le
  refine lim_all (fun i => ((cX s b (idsL x) (cloneX x) i, idsL x, (len x : Int), (i : Int)), s, b, ())) (len x) (fun i hi => ?_) ?_
  · have ih := cX_inv (s := s) l i (by omega)
    have hok : LOk b (svys (cX s b (idsL x) (cloneX x) i)) := by rw [ih]; exact foldC_ok l i
    have hhas : ∃ u ∈ svys (cX s b (idsL x) (cloneX x) i), u.id = atI (idsL x) i := by rw [ih]; exact foldC_has l hi
    show st_core _ = some (.inl ((cS s b (cX s b (idsL x) (cloneX x) i) (atI (idsL x) i), idsL x, (len x : Int), ((i + 1 : Nat) : Int)), s, b, ()))
    generalize cX s b (idsL x) (cloneX x) i = y at hok hhas
    have hl := hok.le; rw [svys_length] at hl
    have hlen := len_small (x := y) (by omega)
    obtain ⟨j, hj, e, e2⟩ := find_at hhas
    rw [sl_core]
    simp only [Nat.zero_add, Int.toNat_natCast]
    rw [show (numOf (encF rInt (idsL x) i 0)) = atI (idsL x) i from rfl]
    refine (T.run_br _ _ _).trans ?_
    rw [if_pos (decide_eq_true (by omega))]
    refine chk_step (decide_eq_true (by rw [idsL_length]; omega)) (chk_step (decide_eq_true (by rw [e]; omega)) (chk_step ?_ ?_))
    · exact massesOk_L hs (by rw [but_filter hok hhas]; exact hok.filter _)
    · have hd := decF_enc0 rInt (idsL x)
      simp only [Nat.zero_add] at hd
      rw [hd, w64_in (n := (i : Int) + 1) (by omega) (by omega)]
      unfold cS
      rw [T.run_br]
      split <;> rfl
  · rw [sl_core]
    refine (T.run_br _ _ _).trans ?_
    rw [if_neg (by simp)]; rfl
end K
end Go.Proofs.YtjbhooodjmjdkaaGreat
/-! KCo7 -/
namespace Go.Proofs.YtjbhooodjmjdkaaGreat
open Ev K
set_option maxRecDepth 100000
namespace K
theorem idsL_svys (x : XS) : idsL x = sortL ((svys x).map (·.id)) := by unfold idsL; rw [idsU_svys]
noncomputable def core (a : Ship × Bulbs × XS) : List Int × Int := if (listed1 a != 0) = true then ([], listed1 a) else if (!void (togetherOf a.1 a.2.1 a.2.2)) = true then ([], 5) else (sortL ((foldC a.1 a.2.1 a.2.2 (len a.2.2)).map (·.id)), 0)
theorem core_eq (a : Ship × Bulbs × XS) : callT1 P BKCo21 30 17 D_tog R_core a = some (core a) := by
  obtain ⟨s, b, x⟩ := a
  rw [fn_core]; unfold core
  refine br_step (fun _ => rfl) (fun h => ?_)
  obtain ⟨hs, hb, l⟩ := list_ok (bne_zero h)
  have h12 := l.le; have hpos := l.pos
  have hl := len_small (x := x) (by omega)
  refine chk_step (massesOk_is hs l) (br_step (fun _ => rfl) (fun _ => chk_step (decide_eq_true (by show 0 < x.len ∧ x.len ≤ 1000000; omega)) (chk_step (decide_eq_true (by show len x ≤ 1000000; omega)) ?_)))
  have hd := decF_enc0 rInt (idsL x)
  simp only [hd]
  rw [show (clampL (idsL x).length) = len x from by rw [idsL_length]; exact clampL_eq (by unfold maxL; omega)]
  show T.run (.obs (L_core ((cloneX x, idsL x, (len x : Int), 0), s, b, ())) _) = _
  rw [L_core_eq hs l, T.run_some]
  have hi := cX_inv (s := s) l (len x) (Nat.le_refl _)
  have hok := foldC_ok (s := s) l (len x)
  generalize cX s b (idsL x) (cloneX x) (len x) = y at hi
  have hy := hok.le; rw [← hi, svys_length] at hy
  refine chk_step (decide_eq_true (by omega)) ?_
  rw [T.run_ret, decF_enc0, idsL_svys, hi]
theorem agr_is {s : Ship} {b : Bulbs} {m : XS} (hs : ShipOk s) (hb : CheckBulbs b = 0) (h : LOk b (svys m)) : agr (s, b, m) = !void (togetherOf s b m) := by
  unfold agr
  by_cases h0 : len m = 0
  · have e : svys m = [] := by unfold svys; rw [h0]; rfl
    have h1 := hs.room; have h2 := hs.room0
    have hv : void (togetherOf s b m) = false := by
      rw [← Bool.not_eq_true, tog_svys, e, void_true]
      show ¬ rooms s < s.light
      omega
    simp only [h0, hv]; rfl
  · have l := listOk_of h (by omega)
    have hn : ((len m : Int) == 0) = false := by rw [← Bool.not_eq_true, beq_iff_eq]; omega
    simp only [hn, Bool.false_or]
    show (!void (r_tog s b m)) = _
    rcases tog_is hs hb l with e | ⟨e1, e2⟩
    · rw [e]; rfl
    · rw [e1, show void (r_tog s b m) = true from e2]
theorem r_mOk {s : Ship} {b : Bulbs} {m : XS} (hs : ShipOk s) (h : LOk b (svys m)) : (decide (len m = 0) || r_massesOk s m) = true := by
  by_cases h0 : len m = 0
  · rw [decide_eq_true h0]; rfl
  · have l := listOk_of h (by omega)
    have : r_massesOk s m = true := by unfold r_massesOk; rw [r_massesAll hs l, decide_eq_true l.pos]; rfl
    rw [this, Bool.or_true]
/-- The reference's step. -/
noncomputable def rS (s : Ship) (b : Bulbs) (y : XS) (c : Int) : XS := if (!agr (s, b, woX y c)) = true then woX y c else y
noncomputable def rX (s : Ship) (b : Bulbs) (ids : List Int) (y : XS) : Nat → XS
  | 0 => y
  | i + 1 => rS s b (rX s b ids y i) (atI ids i)
theorem wo_ok {b : Bulbs} {y : XS} (h : LOk b (svys y)) (c : Int) : svys (woX y c) = ((svys y).filter fun v => v.id != c) ∧ LOk b (svys (woX y c)) := by
  have hl := h.le; rw [svys_length] at hl
  have e := svys_wo (x := y) (by omega) c
  exact ⟨e, by rw [e]; exact h.filter _⟩
theorem rS_svys {s : Ship} {b : Bulbs} {y : XS} (hs : ShipOk s) (hb : CheckBulbs b = 0) (h : LOk b (svys y)) (c : Int) : svys (rS s b y c) = stepC s b (svys y) c := by
  obtain ⟨e, hok⟩ := wo_ok h c
  unfold rS stepC
  rw [agr_is hs hb hok, tog_svys, e]
  cases hv : void (togL s b ((svys y).filter fun v => v.id != c)) with
  | true => rw [if_pos (by simp), if_pos rfl, e]
  | false => rw [if_neg (by simp), if_neg (by simp)]
theorem rX_inv {s : Ship} {b : Bulbs} {x : XS} (hs : ShipOk s) (hb : CheckBulbs b = 0) (l : ListOk b x) : ∀ i, i ≤ len x → svys (rX s b (idsL x) x i) = foldC s b x i
  | 0, _ => rfl
  | i + 1, hi => by
    have ih := rX_inv hs hb l i (by omega)
    rw [foldC_succ (by omega), ← ih]
    exact rS_svys hs hb (by rw [ih]; exact foldC_ok l i) _
theorem L_rcore_eq {s : Ship} {b : Bulbs} {x : XS} (hs : ShipOk s) (hb : CheckBulbs b = 0) (l : ListOk b x) : L_rcore ((idsL x, x, 0), s, b, (), ()) = some (rX s b (idsL x) x (len x), (), ()) := by
  have h12 := l.le
  refine lim_all (fun i => ((idsL x, rX s b (idsL x) x i, (i : Int)), s, b, (), ())) (len x) (fun i hi => ?_) ?_
  · have ih := rX_inv hs hb l i (by omega)
    have hok : LOk b (svys (rX s b (idsL x) x i)) := by rw [ih]; exact foldC_ok l i
    show st_rcore _ = some (.inl ((idsL x, rS s b (rX s b (idsL x) x i) (atI (idsL x) i), ((i + 1 : Nat) : Int)), s, b, (), ()))
    generalize rX s b (idsL x) x i = y at hok
    have hl := hok.le; rw [svys_length] at hl
    rw [sl_rcore]
    simp only [Nat.zero_add, Int.toNat_natCast]
    rw [show (numOf (encF rInt (idsL x) i 0)) = atI (idsL x) i from rfl]
    refine (T.run_br _ _ _).trans ?_
    rw [if_pos (decide_eq_true (by rw [idsL_length, clampL_eq (by unfold maxL; omega)]; omega))]
    refine chk_step (decide_eq_true (by rw [idsL_length]; omega)) (chk_step (decide_eq_true (by omega)) (chk_step (r_mOk hs (wo_ok hok _).2) ?_))
    have hd := decF_enc0 rInt (idsL x)
    simp only [Nat.zero_add] at hd
    rw [hd, w64_in (n := (i : Int) + 1) (by omega) (by omega)]
    unfold rS
    rw [T.run_br]
    split <;> rfl
  · rw [sl_rcore]
    refine (T.run_br _ _ _).trans ?_
    rw [if_neg (by rw [idsL_length, clampL_eq (by unfold maxL; omega)]; simp)]; rfl
theorem rcore_eq (a : Ship × Bulbs × XS) : callT1 P BKCo41 30 18 D_mss R_rcore a = some (core a) := by
  obtain ⟨s, b, x⟩ := a
  rw [fn_rcore]; unfold core
  rw [r_asked_is]
  refine br_step (fun _ => rfl) (fun h => ?_)
  obtain ⟨hs, hb, l⟩ := list_ok (bne_zero h)
  have h12 := l.le; have hpos := l.pos
  rw [agr_is hs hb (lok_of l)]
  refine chk_step (r_mOk hs (lok_of l)) (br_step (fun _ => rfl) (fun _ => chk_step (decide_eq_true (by show len x ≤ 1000000; omega)) ?_))
  have hd := decF_enc0 rInt (idsL x)
  simp only [hd]
  show T.run (.obs (L_rcore ((idsL x, x, 0), s, b, (), ())) _) = _
  rw [L_rcore_eq hs hb l, T.run_some]
  have hi := rX_inv hs hb l (len x) (Nat.le_refl _)
  have hok := foldC_ok (s := s) l (len x)
  generalize rX s b (idsL x) x (len x) = y at hi
  have hy := hok.le; rw [← hi, svys_length] at hy
  refine chk_step (decide_eq_true (by show len y ≤ 1000000; omega)) ?_
  rw [T.run_ret, decF_enc0, idsL_svys]
  show some (sortL ((svys y).map (·.id)), (0 : Int)) = _
  rw [hi]
end K
end Go.Proofs.YtjbhooodjmjdkaaGreat
/-! KCo8 -/
namespace Go.Proofs.YtjbhooodjmjdkaaGreat
open Ev K
set_option maxRecDepth 100000
namespace K
/-- Whether the others agree without the survey of an ID. -/
noncomputable def susP (s : Ship) (b : Bulbs) (x : XS) (c : Int) : Bool := !void (togL s b ((svys x).filter fun v => v.id != c))
noncomputable def susU (s : Ship) (b : Bulbs) (x : XS) (n : Nat) : List Int := (idsU x n).filter (susP s b x)
theorem susU_succ (s : Ship) (b : Bulbs) (x : XS) (n : Nat) : susU s b x (n + 1) = if susP s b x (x.g n 0) = true then susU s b x n ++ [x.g n 0] else susU s b x n := by
  unfold susU
  rw [idsU_succ, List.filter_append]
  by_cases h : susP s b x (x.g n 0) = true
  · rw [if_pos h, List.filter_cons_of_pos h]; rfl
  · rw [if_neg h, List.filter_cons_of_neg h]; simp
theorem susU_le (s : Ship) (b : Bulbs) (x : XS) (n : Nat) : (susU s b x n).length ≤ n := by
  unfold susU; exact Nat.le_trans (List.length_filter_le _ _) (by rw [idsU_length]; exact Nat.le_refl _)
theorem but_i {b : Bulbs} {x : XS} (l : ListOk b x) {i : Nat} (hi : i < len x) : svys (butX x i) = (svys x).filter fun v => v.id != x.g i 0 := by
  have h12 := l.le
  rw [svys_but hi (by omega), erase_filter (lok_of l).apart (svys_at hi)]; rfl
theorem L_sus_eq {s : Ship} {b : Bulbs} {x : XS} (hs : ShipOk s) (l : ListOk b x) : L_sus ((x, 0, x, (len x : Int), 0), s, b, [], ()) = some ((susU s b x (len x)).length, susU s b x (len x), ()) := by
  have h12 := l.le
  have hl := len_small (x := x) (by omega)
  refine lim_all (fun i => ((x, (susU s b x i).length, x, (len x : Int), (i : Int)), s, b, susU s b x i, ())) (len x) (fun i hi => ?_) ?_
  · have hle := susU_le s b x i
    rw [sl_sus]
    simp only [Int.toNat_natCast]
    refine (T.run_br _ _ _).trans ?_
    rw [if_pos (decide_eq_true (by omega))]
    refine chk_step (decide_eq_true (by omega)) (chk_step (decide_eq_true (by omega)) (chk_step ?_ ?_))
    · exact massesOk_L hs (by rw [but_i l hi]; exact (lok_of l).filter _)
    · rw [tog_svys, but_i l hi, susU_succ, w64_in (n := (i : Int) + 1) (by omega) (by omega), show (!void (togL s b ((svys x).filter fun v => v.id != x.g i 0))) = susP s b x (x.g i 0) from rfl]
      by_cases hp : susP s b x (x.g i 0) = true
      · rw [if_pos hp, T.run_br, if_pos hp]
        refine chk_step (decide_eq_true ⟨by omega, Nat.le_trans (show (susU s b x i).length + 1 ≤ 1000000 by omega) (by decide)⟩) ?_
        rw [T.run_ret, decF_push, List.length_append]; rfl
      · rw [if_neg hp, T.run_br, if_neg hp, T.run_ret, decF_encF]; rfl
  · rw [sl_sus]
    refine (T.run_br _ _ _).trans ?_
    rw [if_neg (by simp), T.run_ret, decF_encF]
noncomputable def sus (a : Ship × Bulbs × XS) : List Int × Int := if (listed1 a != 0) = true then ([], listed1 a) else if ((len a.2.2 : Int) == 1) = true then ([], 0) else if (!void (togetherOf a.1 a.2.1 a.2.2)) = true then ([], 0) else (sortL (susU a.1 a.2.1 a.2.2 (len a.2.2)), 0)
theorem sus_eq (a : Ship × Bulbs × XS) : callT1 P BKCo22 30 19 D_tog R_core a = some (sus a) := by
  obtain ⟨s, b, x⟩ := a
  rw [fn_sus]; unfold sus
  refine br_step (fun _ => rfl) (fun h => ?_)
  obtain ⟨hs, hb, l⟩ := list_ok (bne_zero h)
  have h12 := l.le
  refine br_step (fun _ => rfl) (fun _ => chk_step (massesOk_is hs l) (br_step (fun _ => rfl) (fun _ => ?_)))
  show T.run (.obs (L_sus ((x, 0, x, (len x : Int), 0), s, b, [], ())) _) = _
  have hle := susU_le s b x (len x)
  rw [L_sus_eq hs l, T.run_some]
  have hd := decF_encF rInt (susU s b x (len x))
  simp only [hd]
  refine chk_step (decide_eq_true (by omega)) ?_
  rw [T.run_ret]
  have := decF_enc0 rInt (sortL (susU s b x (len x)))
  rw [sortL_length] at this
  rw [this]
/-- The reference's list. -/
noncomputable def rsP (s : Ship) (b : Bulbs) (x : XS) (c : Int) : Bool := decide ((len (woX x c) : Int) > 0) && agr (s, b, woX x c)
noncomputable def rsU (s : Ship) (b : Bulbs) (x : XS) (n : Nat) : List Int := ((idsL x).take n).filter (rsP s b x)
theorem rsU_succ (s : Ship) (b : Bulbs) (x : XS) {n : Nat} (hn : n < len x) : rsU s b x (n + 1) = if rsP s b x (atI (idsL x) n) = true then rsU s b x n ++ [atI (idsL x) n] else rsU s b x n := by
  have hn' : n < (idsL x).length := by rw [idsL_length]; exact hn
  unfold rsU
  rw [List.take_add_one, List.getElem?_eq_getElem hn', atI_get hn', List.filter_append]
  show _ ++ List.filter _ [(idsL x)[n]] = _
  by_cases h : rsP s b x (idsL x)[n] = true
  · rw [if_pos h, List.filter_cons_of_pos h]; rfl
  · rw [if_neg h, List.filter_cons_of_neg h]; simp
theorem rsU_le (s : Ship) (b : Bulbs) (x : XS) (n : Nat) : (rsU s b x n).length ≤ n := by
  unfold rsU; exact Nat.le_trans (List.length_filter_le _ _) (List.length_take_le _ _)
theorem rsP_is {s : Ship} {b : Bulbs} {x : XS} (hs : ShipOk s) (hb : CheckBulbs b = 0) (l : ListOk b x) (h1 : 1 < len x) {c : Int} (hc : c ∈ idsL x) : rsP s b x c = susP s b x c := by
  obtain ⟨e, hok⟩ := wo_ok (lok_of l) c
  unfold rsP susP
  rw [agr_is hs hb hok, tog_svys, e]
  have hpos : 0 < len (woX x c) := by
    have he : len (woX x c) = ((svys x).filter fun v => v.id != c).length := by rw [← e, svys_length]
    obtain ⟨u, hu, hu2⟩ := List.mem_map.1 ((idsL_perm x).mem_iff.1 hc)
    obtain ⟨j, hj, rfl⟩ := svys_mem hu
    have hf : (svys x).eraseIdx j = (svys x).filter fun v => v.id != c := by rw [erase_filter (lok_of l).apart (svys_at hj), hu2]
    rw [he, ← hf, List.length_eraseIdx_of_lt (by rw [svys_length]; exact hj), svys_length]; omega
  rw [decide_eq_true (by omega), Bool.true_and]
theorem filter_sort (p : Int → Bool) (l : List Int) : (sortL l).filter p = sortL (l.filter p) :=
  sorted_eq ((sortL_sorted l).filter p) (sortL_sorted _) (((sortL_perm l).filter p).trans (sortL_perm _).symm)
theorem rsU_all {s : Ship} {b : Bulbs} {x : XS} (hs : ShipOk s) (hb : CheckBulbs b = 0) (l : ListOk b x) (h1 : 1 < len x) : rsU s b x (len x) = sortL (susU s b x (len x)) := by
  unfold rsU susU
  rw [List.take_of_length_le (by rw [idsL_length]; exact Nat.le_refl _), ← filter_sort]
  exact List.filter_congr fun c hc => rsP_is hs hb l h1 hc
theorem rsU_one {s : Ship} {b : Bulbs} {x : XS} (l : ListOk b x) (h1 : len x = 1) : rsU s b x (len x) = [] := by
  unfold rsU
  rw [List.filter_eq_nil_iff]
  intro c hc
  have hc := List.mem_of_mem_take hc
  obtain ⟨e, hok⟩ := wo_ok (lok_of l) c
  obtain ⟨u, hu, hu2⟩ := List.mem_map.1 ((idsL_perm x).mem_iff.1 hc)
  obtain ⟨j, hj, rfl⟩ := svys_mem hu
  have hf : (svys x).eraseIdx j = (svys x).filter fun v => v.id != c := by rw [erase_filter (lok_of l).apart (svys_at hj), hu2]
  have he : len (woX x c) = 0 := by rw [← svys_length, e, ← hf, List.length_eraseIdx_of_lt (by rw [svys_length]; exact hj), svys_length]; omega
  unfold rsP; rw [he]; simp
theorem L_rsus_eq {s : Ship} {b : Bulbs} {x : XS} (hs : ShipOk s) (hb : CheckBulbs b = 0) (l : ListOk b x) : L_rsus ((x, idsL x, 0, 0), s, b, (), [], ()) = some ((rsU s b x (len x)).length, (), rsU s b x (len x), ()) := by
  have h12 := l.le
  have hcl : clampL (idsL x).length = len x := by rw [idsL_length]; exact clampL_eq (by unfold maxL; omega)
  refine lim_all (fun i => ((x, idsL x, (rsU s b x i).length, (i : Int)), s, b, (), rsU s b x i, ())) (len x) (fun i hi => ?_) ?_
  · have hle := rsU_le s b x i
    have hd := decF_enc0 rInt (idsL x)
    rw [sl_rsus]
    have ha : numOf (encF rInt (idsL x) (0 + i) 0) = atI (idsL x) i := by rw [Nat.zero_add]; rfl
    simp only [Int.toNat_natCast, hd, hcl, ha]
    refine (T.run_br _ _ _).trans ?_
    rw [if_pos (decide_eq_true (by omega))]
    refine chk_step (decide_eq_true (by rw [idsL_length]; omega)) (chk_step (decide_eq_true (by omega)) ?_)
    rw [rsU_succ s b x hi, w64_in (n := (i : Int) + 1) (by omega) (by omega)]
    by_cases hq : (len (woX x (atI (idsL x) i)) : Int) > 0
    · rw [T.run_br, if_pos (decide_eq_true hq)]
      refine chk_step (r_mOk hs (wo_ok (lok_of l) _).2) ?_
      have he : rsP s b x (atI (idsL x) i) = agr (s, b, woX x (atI (idsL x) i)) := by unfold rsP; rw [decide_eq_true hq, Bool.true_and]
      rw [← he]
      by_cases hp : rsP s b x (atI (idsL x) i) = true
      · rw [if_pos hp, T.run_br, if_pos hp]
        refine chk_step (decide_eq_true (by rw [idsL_length]; omega)) (chk_step (decide_eq_true ⟨by omega, Nat.le_trans (show (rsU s b x i).length + 1 ≤ 1000000 by omega) (by decide)⟩) ?_)
        rw [T.run_ret, decF_push, List.length_append]; rfl
      · rw [if_neg hp, T.run_br, if_neg hp, T.run_ret, decF_encF]; rfl
    · have he : ¬ rsP s b x (atI (idsL x) i) = true := by unfold rsP; rw [decide_eq_false hq]; simp
      rw [T.run_br, if_neg (by simpa using hq), if_neg he, T.run_ret, decF_encF]; rfl
  · rw [sl_rsus]
    simp only [hcl]
    refine (T.run_br _ _ _).trans ?_
    rw [if_neg (by simp), T.run_ret, decF_encF]
theorem rsus_eq (a : Ship × Bulbs × XS) : callT1 P BKCo42 30 20 D_mss R_rcore a = some (sus a) := by
  obtain ⟨s, b, x⟩ := a
  rw [fn_rsus]; unfold sus
  rw [r_asked_is]
  refine br_step (fun _ => rfl) (fun h => ?_)
  obtain ⟨hs, hb, l⟩ := list_ok (bne_zero h)
  have h12 := l.le; have hpos := l.pos
  rw [agr_is hs hb (lok_of l)]
  refine chk_step (r_mOk hs (lok_of l)) ?_
  rw [T.run_br]
  by_cases hv : (!void (togetherOf s b x)) = true
  · simp only [hv, if_true, ite_self]; rfl
  rw [if_neg hv]
  refine chk_step (decide_eq_true (by show len x ≤ 1000000; omega)) ?_
  have hd := decF_enc0 rInt (idsL x)
  simp only [hd]
  show T.run (.obs (L_rsus ((x, idsL x, 0, 0), s, b, (), [], ())) _) = _
  rw [L_rsus_eq hs hb l, T.run_some, T.run_ret, decF_enc0]
  by_cases h1 : len x = 1
  · rw [rsU_one l h1, if_pos (by rw [h1]; rfl)]
  · rw [rsU_all hs hb l (by omega), if_neg (by rw [beq_iff_eq]; omega), if_neg hv]
end K
end Go.Proofs.YtjbhooodjmjdkaaGreat
/-! KCo9 -/
namespace Go.Proofs.YtjbhooodjmjdkaaGreat
open Ev K
set_option maxRecDepth 100000
noncomputable def BKCo91 : Tab := BKCo17.addCall 21 (callE D_ints dB (fun a => .chk (decide (a.1.length ≤ 1000000)) (.chk (decide (a.2.length ≤ 1000000)) (.ret (K.sameL a)))))
theorem tKCo91 : TabOk P BKCo91 := TabOk.addPC tKCo17 (fun a r h => by obtain ⟨g1, h⟩ := K.chk_more h; obtain ⟨g2, e⟩ := chk_ret h; subst e; exact call_of okP tKBl72 (K.ints_eq a (by simpa using g1) (by simpa using g2)))
noncomputable def BKCo92 : Tab := BKCo91.addCall 17 (callE D_tog R_core (fun a => .ret (core a)))
theorem tKCo92 : TabOk P BKCo92 := TabOk.addPC tKCo91 (fun a r h => by rw [← ret_some h]; exact call_of okP tKCo21 (core_eq a))
noncomputable def BKCo93 : Tab := BKCo92.addCall 19 (callE D_tog R_core (fun a => .ret (sus a)))
theorem tKCo93 : TabOk P BKCo93 := TabOk.addPC tKCo92 (fun a r h => by rw [← ret_some h]; exact call_of okP tKCo22 (sus_eq a))
noncomputable def BKCo94 : Tab := BKCo93.addCall 18 (callE D_mss R_rcore (fun a => .ret (core a)))
theorem tKCo94 : TabOk P BKCo94 := TabOk.addPC tKCo93 (fun a r h => by rw [← ret_some h]; exact call_of okP tKCo41 (rcore_eq a))
noncomputable def BKCo95 : Tab := BKCo94.addCall 20 (callE D_mss R_rcore (fun a => .ret (sus a)))
theorem tKCo95 : TabOk P BKCo95 := TabOk.addPC tKCo94 (fun a r h => by rw [← ret_some h]; exact call_of okP tKCo42 (rsus_eq a))
theorem fn_lc : ∀ a, (callT1 P BKCo95 30 4 D_mss dB) a = T.run (
  .br (!ship (Prod.fst a)) (
    .ret (true)) (
    .br (!few (Prod.fst (Prod.snd a))) (
      .ret (true)) (
      .br (!list (Prod.snd (Prod.snd a))) (
        .ret (true)) (
        .chk (decide (List.length (decF rInt (List.length (Prod.fst (core a))) fun i => encF rInt (Prod.fst (core a)) ((0 : Nat) + i)) ≤ (1000000 : Nat))) <|
        .chk (decide (List.length (decF rInt (List.length (Prod.fst (core a))) fun i => encF rInt (Prod.fst (core a)) ((0 : Nat) + i)) ≤ (1000000 : Nat))) <|
        .chk (decide (List.length (decF rInt (List.length (Prod.fst (sus a))) fun i => encF rInt (Prod.fst (sus a)) ((0 : Nat) + i)) ≤ (1000000 : Nat))) <|
        .chk (decide (List.length (decF rInt (List.length (Prod.fst (sus a))) fun i => encF rInt (Prod.fst (sus a)) ((0 : Nat) + i)) ≤ (1000000 : Nat))) <|
        .br (sameL (decF rInt (List.length (Prod.fst (core a))) fun i => encF rInt (Prod.fst (core a)) ((0 : Nat) + i), decF rInt (List.length (Prod.fst (core a))) fun i => encF rInt (Prod.fst (core a)) ((0 : Nat) + i))) (
          .br (Prod.snd (core a) == Prod.snd (core a)) (
            .br (sameL (decF rInt (List.length (Prod.fst (sus a))) fun i => encF rInt (Prod.fst (sus a)) ((0 : Nat) + i), decF rInt (List.length (Prod.fst (sus a))) fun i => encF rInt (Prod.fst (sus a)) ((0 : Nat) + i))) (
              .ret (Prod.snd (sus a) == Prod.snd (sus a))) (
              .ret (false))) (
            .ret (false))) (
          .ret (false)))))) := fun a => by kernel_rfl
namespace K
theorem core_le (a : Ship × Bulbs × XS) : (core a).1.length ≤ 12 := by
  obtain ⟨s, b, x⟩ := a
  unfold core
  split
  · simp
  rename_i h
  split
  · simp
  obtain ⟨hs, hb, l⟩ := list_ok (bne_zero h)
  show (sortL _).length ≤ 12
  rw [sortL_length, List.length_map]
  exact (foldC_ok l _).le
theorem sus_le (a : Ship × Bulbs × XS) : (sus a).1.length ≤ 12 := by
  obtain ⟨s, b, x⟩ := a
  unfold sus
  split
  · simp
  rename_i h
  split
  · simp
  split
  · simp
  obtain ⟨hs, hb, l⟩ := list_ok (bne_zero h)
  show (sortL _).length ≤ 12
  rw [sortL_length]
  exact Nat.le_trans (susU_le _ _ _ _) l.le
def lawCo (_ : Ship × Bulbs × XS) : Bool := true
theorem lawCo_true (a : Ship × Bulbs × XS) : lawCo a = true := rfl
theorem lawCo_eq (a : Ship × Bulbs × XS) : callT1 P BKCo95 30 4 D_mss dB a = some (lawCo a) := by
  have h1 := core_le a; have h2 := sus_le a
  have s1 : sameL ((core a).1, (core a).1) = true := decide_eq_true rfl
  have s2 : sameL ((sus a).1, (sus a).1) = true := decide_eq_true rfl
  rw [fn_lc]
  simp only [decF_enc0, s1, s2, beq_self_eq_true]
  rw [T.run_br]; split
  · rfl
  rw [T.run_br]; split
  · rfl
  rw [T.run_br]; split
  · rfl
  have g1 : decide ((core a).1.length ≤ 1000000) = true := decide_eq_true (by omega)
  have g2 : decide ((sus a).1.length ≤ 1000000) = true := decide_eq_true (by omega)
  refine chk_step g1 (chk_step g1 (chk_step g2 (chk_step g2 ?_)))
  simp only [T.run_br, if_true, T.run_ret]; rfl
end K
end Go.Proofs.YtjbhooodjmjdkaaGreat
/-! KZCores -/
namespace Go.Proofs.YtjbhooodjmjdkaaGreat
open Ev K
open Go.ChangeShapes Go.WideShapes Go.RowKit
set_option maxRecDepth 100000
theorem law_pc (a) : PC P 4 (D_mss.enc a) (.bool true) := by
  have h := lawCo_eq a
  rw [lawCo_true] at h
  exact call_of okP tKCo95 h
theorem ownP : ownKnob P.godebug = none := by kernel_rfl
theorem laidP : laidOutB P = true := by kernel_rfl
theorem ub : P.underlying 4 = some .bool := by kernel_rfl
theorem surveyCores_lifted (os : Os) (started : os.Started) (H : Type) (enc : TypeId × Value → H) :
    ReturnsInHanded {} Tryz.checked os 4 .any (Rows.surveyCoresSpec.pre6 enc Tryz.prog Tryz.f4 Rows.surveyCoresRow.domain false) (Rows.surveyCoresSpec.post enc Tryz.prog Tryz.f4 false true false false) := by
  refine returnsInHanded_of_change (C := Tryz.checked) ownP started (by kernel_rfl) Tryz.func4
    (ChangeSpec.witness6 (enc := enc) (C := Tryz.checked) false ⟨#[], #[.agg #[.int .i64 0, .int .i64 0, .int .i64 0, .int .i64 0, .slice none 0 0, .slice none 0 0, .int .i64 0, .slice none 0 0, .int .i64 0, .int .i64 0, .int .i64 0], .agg #[.slice none 0 0, .slice none 0 0], .slice none 0 0], []⟩ 8 (by kernel_rfl) (by kernel_rfl) (by kernel_rfl) (by kernel_rfl)) ?_
  intro W base args ds gs before hval hW _ _
  refine law_contract (P := Tryz.prog) D_mss laidP (by kernel_rfl) rfl (fun ds hd => ?_) (fun W' b sp hd => trodAll_mk1 (shut_bool ub true)) (fun W' => ok_one (by kernel_rfl) rfl (okWide_bool_mk ub true)) (fun W base args ds p hval hA => ?_) law_pc W base args ds gs before hval hW
  · rw [Tryz.params4] at hd
    match ds, hd with
    | [a, b, c], _ => rfl
  · rw [Tryz.params4] at hA hval
    obtain ⟨v0, vs0, d0, ds0, p0, q0, e0, _, _, h0, r0⟩ := trodAll_cons hA
    obtain ⟨v1, vs1, d1, ds1, p1, q1, e1, _, _, h1, r1⟩ := trodAll_cons r0
    obtain ⟨v2, vs2, d2, ds2, p2, q2, e2, _, _, h2, r2⟩ := trodAll_cons r1
    obtain ⟨e3, _, _⟩ := trodAll_nil r2
    subst e3; subst e2; subst e1
    have ha : args = #[v0, v1, v2] := by apply Array.ext'; exact e0
    subst ha
    exact rdL_cons (rp_ship (hval 0 _ v0 rfl rfl) h0) (rdL_cons (rp_bulbs (hval 1 _ v1 rfl rfl) h1) (rdL_last (rp_surveys (hval 2 _ v2 rfl rfl) h2)))
theorem surveyCores_holds : Rows.SurveyCoresSaid :=
  OpenClaim.holds_of_wide 4 Tryz.f4 rfl rfl rfl rfl rfl rfl rfl ⟨rfl, rfl, rfl, rfl, rfl⟩ rfl rfl rfl rfl rfl (by kernel_rfl) Tryz.func4 (by kernel_rfl)
    (of_decide_eq_true (by kernel_rfl)) (by unfold Func.isWrapper; rw [if_neg (of_decide_eq_false (by kernel_rfl))]; exact ⟨rfl, rfl⟩)
    (fun os started H enc _ => surveyCores_lifted os started H enc)
#print axioms surveyCores_holds
end Go.Proofs.YtjbhooodjmjdkaaGreat
