/- Parts of the proof, one behind the other: KBl3, KBl4, EvX, KBl5, KBl6, KBl7, KN5, KN6, KN7, KN8. No conditions. -/
import Derived.Shelf.SlSortCmp.NoneTotal
import Derived.Sort.OwnSortedInts
import Derived.Test.YtjbhooodjmjdkaaGreatHy7
/-! KBl3 -/
namespace Go.Proofs.YtjbhooodjmjdkaaGreat
open Ev K
set_option maxRecDepth 100000
def S_min := DecS.ghost 5 3 1 [.int .i64] (DecS.mk0 (.skip (.cons (dI .i64) (.unit (dLp 0 0 0 0) (.skips 2 (.cons (dO 1) (.last (dI .i64) 26)))))) (.flat 31 lBulbs (.rows 3 rInt .nil)))
def X_min := DecX.one (.exit 0) [5] (DecS.mk0 (.skips 5 (.last (dO 0) 27)) (.rows 3 rInt .nil))
noncomputable def K.st_min := loopT1 P BKBl23 30 78 25 [6, 2, 5, 1] S_min X_min
theorem sl_min : ∀ s, (K.st_min) s = T.run (
  .br (decide (Prod.snd (Prod.snd (Prod.fst s)) < (↑(len (Bulbs.glasses (Prod.fst (Prod.snd s)))) : Int))) (
    .chk (decide ((0 : Int) ≤ Prod.snd (Prod.snd (Prod.fst s)) ∧ Prod.snd (Prod.snd (Prod.fst s)) < (↑(XS.len (Bulbs.glasses (Prod.fst (Prod.snd s)))) : Int))) <|
    .br (XS.g (Bulbs.glasses (Prod.fst (Prod.snd s))) (Int.toNat (Prod.snd (Prod.snd (Prod.fst s)))) (1 : Nat) == Prod.fst (Prod.fst s)) (
      .chk (decide ((0 : Int) ≤ Prod.snd (Prod.snd (Prod.fst s)) ∧ Prod.snd (Prod.snd (Prod.fst s)) < (↑(XS.len (Bulbs.glasses (Prod.fst (Prod.snd s)))) : Int))) <|
      .chk (decide ((List.length (Prod.fst (Prod.snd (Prod.snd s))) + (1 : Nat)) * (8 : Nat) ≤ (140737488355328 : Nat) ∧ List.length (Prod.fst (Prod.snd (Prod.snd s))) + (1 : Nat) ≤ nat_lit 9223372036854775807)) <|
      .ret (Sum.inl ((Prod.fst (Prod.fst s), List.length (Prod.fst (Prod.snd (Prod.snd s))) + (1 : Nat), IntKind.wrap IntKind.i64 (Prod.snd (Prod.snd (Prod.fst s)) + (1 : Int))), Prod.fst (Prod.snd s), decF rInt (List.length (Prod.fst (Prod.snd (Prod.snd s))) + (1 : Nat)) (appG (List.length (Prod.fst (Prod.snd (Prod.snd s)))) (encF rInt (Prod.fst (Prod.snd (Prod.snd s)))) fun i k => Option.getD [AV.int IntKind.i64 (XS.g (Bulbs.glasses (Prod.fst (Prod.snd s))) (Int.toNat (Prod.snd (Prod.snd (Prod.fst s)))) (0 : Nat))][((0 : Nat) + i) * (1 : Nat) + k]? AV.top), PUnit.unit))) (
      .ret (Sum.inl ((Prod.fst (Prod.fst s), Prod.fst (Prod.snd (Prod.fst s)), IntKind.wrap IntKind.i64 (Prod.snd (Prod.snd (Prod.fst s)) + (1 : Int))), Prod.fst (Prod.snd s), decF rInt (List.length (Prod.fst (Prod.snd (Prod.snd s)))) (encF rInt (Prod.fst (Prod.snd (Prod.snd s)))), PUnit.unit)))) (
    .ret (Sum.inr (Prod.fst (Prod.snd (Prod.fst s)), decF rInt (List.length (Prod.fst (Prod.snd (Prod.snd s)))) (encF rInt (Prod.fst (Prod.snd (Prod.snd s)))), PUnit.unit)))) := fun s => by kernel_rfl
namespace K
/-- The IDs of the first glasses that are of a hydrometer. -/
def mineR (b : Bulbs) (n : Int) (i : Nat) : List Int := ((List.range i).filter fun k => (gls b.glasses k).hydro == n).map fun k => (gls b.glasses k).id
theorem mineR_succ (b : Bulbs) (n : Int) (i : Nat) : mineR b n (i + 1) = if ((gls b.glasses i).hydro == n) = true then mineR b n i ++ [(gls b.glasses i).id] else mineR b n i := by
  unfold mineR
  rw [List.range_succ, List.filter_append, List.map_append]
  by_cases h : ((gls b.glasses i).hydro == n) = true
  · rw [if_pos h]; simp [h]
  · rw [if_neg h]; simp [h]
theorem mineR_le (b : Bulbs) (n : Int) (i : Nat) : (mineR b n i).length ≤ i := by
  unfold mineR; rw [List.length_map]; exact Nat.le_trans (List.length_filter_le ..) (by simp)
def mineU (b : Bulbs) (n : Int) : List Int := mineR b n (len b.glasses)
noncomputable def L_min := lim st_min
theorem L_min_eq (b : Bulbs) (n : Int) (h : len b.glasses ≤ 1000000) : L_min ((n, 0, 0), b, [], ()) = some ((mineU b n).length, mineU b n, ()) := by
  have e1 := K.len_le b.glasses; have e2 := K.len_le' b.glasses
  refine lim_all (fun i => ((n, (mineR b n i).length, (i : Int)), b, mineR b n i, ())) (len b.glasses) (fun i hi => ?_) ?_
  · rw [sl_min]
    have hl := mineR_le b n i
    simp only [T.run_br, T.run_chk, T.run_ret, decide_eq_true_eq, Int.toNat_natCast]
    rw [if_pos (by omega), if_pos (by omega)]
    have hg : (b.glasses.g i 1 == n) = ((gls b.glasses i).hydro == n) := rfl
    rw [hg, w64_in (n := (i : Int) + 1) (by omega) (by omega)]
    have hs := mineR_succ b n i
    by_cases hc : ((gls b.glasses i).hydro == n) = true
    · rw [if_pos hc] at hs ⊢
      rw [if_pos (by omega), if_pos (by omega), decF_push, hs]
      simp only [List.length_append]; rfl
    · rw [if_neg hc] at hs ⊢
      rw [decF_encF, hs]; rfl
  · rw [sl_min]
    simp only [T.run_br, T.run_ret, decide_eq_true_eq]
    rw [if_neg (by omega), decF_encF]; rfl
end K
noncomputable def BKBl31 : Tab := BKBl23.addNode 78 25 (nodeE [6, 2, 5, 1] S_min X_min (fun s => .obs (K.L_min s) .ret))
theorem tKBl31 : TabOk P BKBl31 := TabOk.addLoop (d := 30) okP tKBl23 (by kernel_rfl) (by kernel_rfl) (fun s r h => obs_ret h)
theorem fn_min : ∀ a, (callT1 P BKBl31 30 78 D_off (dRows rInt)) a = T.run (
  .obs (L_min ((Prod.snd a, (0 : Nat), (0 : Int)), Prod.fst a, decF rInt (0 : Nat) fun x x_1 => AV.top, PUnit.unit)) fun x0 =>
    .chk (decide (List.length (decF rInt (List.length (Prod.fst (Prod.snd x0))) fun i => encF rInt (Prod.fst (Prod.snd x0)) ((0 : Nat) + i)) ≤ (1000000 : Nat))) <|
    .ret (decF rInt (List.length (risL (decF rInt (List.length (Prod.fst (Prod.snd x0))) fun i => encF rInt (Prod.fst (Prod.snd x0)) ((0 : Nat) + i)))) fun i => encF rInt (risL (decF rInt (List.length (Prod.fst (Prod.snd x0))) fun i => encF rInt (Prod.fst (Prod.snd x0)) ((0 : Nat) + i))) ((0 : Nat) + i))) := fun a => by kernel_rfl
def K.r_mine (a : Bulbs × Int) : List Int := risL (mineU a.1 a.2)
theorem K.r_mine_eq (a : Bulbs × Int) (h : len a.1.glasses ≤ 1000000) : callT1 P BKBl31 30 78 D_off (dRows rInt) a = some (r_mine a) := by
  rw [fn_min]
  simp only [decF_enc0]
  show T.run (.obs (L_min ((a.2, 0, 0), a.1, [], ())) _) = _
  rw [L_min_eq a.1 a.2 h, T.run_some]
  have := mineR_le a.1 a.2 (len a.1.glasses)
  have e : (mineU a.1 a.2).length ≤ len a.1.glasses := this
  exact chk_step (decide_eq_true (by simp only; omega)) rfl
noncomputable def BKBl32 : Tab := BKBl31.addCall 78 (callE D_off (dRows rInt) (fun a => .chk (decide (len a.1.glasses ≤ 1000000)) (.ret (K.r_mine a))))
theorem tKBl32 : TabOk P BKBl32 := TabOk.addFn (d := 30) okP tKBl31 (fun a r h => by obtain ⟨g, e⟩ := chk_ret h; subst e; exact K.r_mine_eq a (by simpa using g))
end Go.Proofs.YtjbhooodjmjdkaaGreat
/-! KBl4 -/
namespace Go.Proofs.YtjbhooodjmjdkaaGreat
open Ev K
set_option maxRecDepth 100000
def S_rbl := DecS.ghost 8 3 1 [.int .i64] (DecS.mk0 (.skips 2 (.unit (dLp 0 0 0 0) (.skip (.unit (dLp 1 0 0 0) (.skip (.cons (dI .i64) (.cons (dRows rInt) (.cons (dO 2) (.last (dI .i64) 53))))))))) (.flat 31 lBulbs (.flat 53 (.tops 2) (.rows 3 rInt .nil))))
def X_rbl := DecX.one (.exit 0) [4, 8] (DecS.mk0 (.skips 4 (.unit (dLp 0 0 0 0) (.skips 3 (.last (dO 1) 54)))) (.flat 53 (.tops 2) (.rows 3 rInt .nil)))
noncomputable def K.st_rbl := loopT1 P BKBl32 30 30 97 [9, 7, 8, 6, 2, 4] S_rbl X_rbl
theorem sl_rbl : ∀ s, (K.st_rbl) s = T.run (
  .br (decide (Prod.snd (Prod.snd (Prod.snd (Prod.fst s))) < (↑(clampL (List.length (Prod.fst (Prod.snd (Prod.fst s))))) : Int))) (
    .chk (decide ((0 : Int) ≤ Prod.fst (Prod.fst s) ∧ Prod.fst (Prod.fst s) < (↑(XS.len (Bulbs.hydros (Prod.fst (Prod.snd s)))) : Int))) <|
    .chk (decide ((0 : Int) ≤ Prod.snd (Prod.snd (Prod.snd (Prod.fst s))) ∧ Prod.snd (Prod.snd (Prod.snd (Prod.fst s))) < (↑(List.length (Prod.fst (Prod.snd (Prod.fst s)))) : Int))) <|
    .br (!r_none (r_off (Prod.fst (Prod.snd s)) (hyd (Bulbs.hydros (Prod.fst (Prod.snd s))) (Int.toNat (Prod.fst (Prod.fst s)))) (numOf (encF rInt (Prod.fst (Prod.snd (Prod.fst s))) ((0 : Nat) + Int.toNat (Prod.snd (Prod.snd (Prod.snd (Prod.fst s))))) (0 : Nat))))) (
      .chk (decide ((0 : Int) ≤ Prod.snd (Prod.snd (Prod.snd (Prod.fst s))) ∧ Prod.snd (Prod.snd (Prod.snd (Prod.fst s))) < (↑(List.length (Prod.fst (Prod.snd (Prod.fst s)))) : Int))) <|
      .chk (decide ((List.length (Prod.fst (Prod.snd (Prod.snd (Prod.snd s)))) + (1 : Nat)) * (8 : Nat) ≤ (140737488355328 : Nat) ∧ List.length (Prod.fst (Prod.snd (Prod.snd (Prod.snd s)))) + (1 : Nat) ≤ nat_lit 9223372036854775807)) <|
      .ret (Sum.inl ((Prod.fst (Prod.fst s), decF rInt (List.length (Prod.fst (Prod.snd (Prod.fst s)))) fun i => encF rInt (Prod.fst (Prod.snd (Prod.fst s))) ((0 : Nat) + i), List.length (Prod.fst (Prod.snd (Prod.snd (Prod.snd s)))) + (1 : Nat), IntKind.wrap IntKind.i64 (Prod.snd (Prod.snd (Prod.snd (Prod.fst s))) + (1 : Int))), Prod.fst (Prod.snd s), PUnit.unit, decF rInt (List.length (Prod.fst (Prod.snd (Prod.snd (Prod.snd s)))) + (1 : Nat)) (appG (List.length (Prod.fst (Prod.snd (Prod.snd (Prod.snd s))))) (encF rInt (Prod.fst (Prod.snd (Prod.snd (Prod.snd s))))) fun i k => Option.getD [AV.int IntKind.i64 (numOf (encF rInt (Prod.fst (Prod.snd (Prod.fst s))) ((0 : Nat) + Int.toNat (Prod.snd (Prod.snd (Prod.snd (Prod.fst s))))) (0 : Nat)))][((0 : Nat) + i) * (1 : Nat) + k]? AV.top), PUnit.unit))) (
      .ret (Sum.inl ((Prod.fst (Prod.fst s), decF rInt (List.length (Prod.fst (Prod.snd (Prod.fst s)))) fun i => encF rInt (Prod.fst (Prod.snd (Prod.fst s))) ((0 : Nat) + i), Prod.fst (Prod.snd (Prod.snd (Prod.fst s))), IntKind.wrap IntKind.i64 (Prod.snd (Prod.snd (Prod.snd (Prod.fst s))) + (1 : Int))), Prod.fst (Prod.snd s), PUnit.unit, decF rInt (List.length (Prod.fst (Prod.snd (Prod.snd (Prod.snd s))))) (encF rInt (Prod.fst (Prod.snd (Prod.snd (Prod.snd s))))), PUnit.unit)))) (
    .ret (Sum.inr (Prod.fst (Prod.snd (Prod.snd (Prod.fst s))), PUnit.unit, decF rInt (List.length (Prod.fst (Prod.snd (Prod.snd (Prod.snd s))))) (encF rInt (Prod.fst (Prod.snd (Prod.snd (Prod.snd s))))), PUnit.unit)))) := fun s => by kernel_rfl
namespace K
/-- A glass without which a hydrometer could have an error. -/
noncomputable def rblP (b : Bulbs) (h : Nat) (x : Int) : Bool := !r_none (r_off b (hyd b.hydros h) x)
theorem take_filter_succ {l : List Int} {p : Int → Bool} {i : Nat} (h : i < l.length) : (l.take (i + 1)).filter p = if p (atI l i) = true then (l.take i).filter p ++ [atI l i] else (l.take i).filter p := by
  rw [List.take_add_one, List.getElem?_eq_getElem h, List.filter_append, atI_get h]
  by_cases hp : p l[i] = true
  · rw [if_pos hp]; simp [hp]
  · rw [if_neg hp]; simp [hp]
noncomputable def L_rbl := lim st_rbl
theorem L_rbl_eq (b : Bulbs) (h : Nat) (l : List Int) (hh : h < len b.hydros) (hl : l.length ≤ 1000000) : L_rbl (((h : Int), l, 0, 0), b, (), [], ()) = some ((l.filter (rblP b h)).length, (), l.filter (rblP b h), ()) := by
  have hc : clampL l.length = l.length := clampL_eq (by unfold maxL; omega)
  have e1 := K.len_le b.hydros; have e2 := K.len_le' b.hydros
  have := lim_all (step := st_rbl) (fun i => (((h : Int), l, ((l.take i).filter (rblP b h)).length, (i : Int)), b, (), (l.take i).filter (rblP b h), ())) l.length (r := ((l.filter (rblP b h)).length, (), l.filter (rblP b h), ())) (fun i hi => ?_) ?_
  · unfold L_rbl; simpa using this
  · rw [sl_rbl]
    have hlen : ((l.take i).filter (rblP b h)).length ≤ i := Nat.le_trans (List.length_filter_le ..) (by simp; omega)
    simp only [T.run_br, T.run_chk, T.run_ret, decide_eq_true_eq, Int.toNat_natCast, hc, Nat.zero_add]
    rw [if_pos (by omega), if_pos (by omega), if_pos (by omega), w64_in (n := (i : Int) + 1) (by omega) (by omega)]
    have hs := take_filter_succ (p := rblP b h) hi
    have hg : (!r_none (r_off b (hyd b.hydros h) (numOf (encF rInt l i 0)))) = rblP b h (atI l i) := rfl
    rw [hg]
    have e0 : (decF rInt l.length fun i => encF rInt l i) = l := decF_encF rInt l
    by_cases hp : rblP b h (atI l i) = true
    · rw [if_pos hp] at hs ⊢
      rw [if_pos (by omega), if_pos (by omega), decF_push, e0, hs]
      simp only [List.length_append]; rfl
    · rw [if_neg hp] at hs ⊢
      rw [e0, hs, decF_encF]; rfl
  · rw [sl_rbl]
    simp only [T.run_br, T.run_ret, decide_eq_true_eq, hc]
    rw [if_neg (by omega), decF_encF, List.take_of_length_le (Nat.le_refl _)]
end K
noncomputable def BKBl41 : Tab := BKBl32.addNode 30 97 (nodeE [9, 7, 8, 6, 2, 4] S_rbl X_rbl (fun s => .obs (K.L_rbl s) .ret))
theorem tKBl41 : TabOk P BKBl41 := TabOk.addLoop (d := 30) okP tKBl32 (by kernel_rfl) (by kernel_rfl) (fun s r h => obs_ret h)
def R_Ints := dAgg (.cons (dRows rInt) (.last (dI .i64) 0))
theorem fn_rbl : ∀ a, (callT1 P BKBl41 30 30 D_off R_Ints) a = T.run (
  .br (r_bulbs (Prod.fst a) != (0 : Int)) (
    .ret (([], r_bulbs (Prod.fst a)))) (
    .br (decide (i_rhydro (Prod.fst a) (Prod.snd a) < (0 : Int))) (
      .ret (([], (5 : Int)))) (
      .chk (decide ((0 : Int) ≤ i_rhydro (Prod.fst a) (Prod.snd a) ∧ i_rhydro (Prod.fst a) (Prod.snd a) < (↑(XS.len (Bulbs.hydros (Prod.fst a))) : Int))) <|
      .br (!r_none (r_off (Prod.fst a) (hyd (Bulbs.hydros (Prod.fst a)) (Int.toNat (i_rhydro (Prod.fst a) (Prod.snd a)))) (0 : Int))) (
        .ret (([], (0 : Int)))) (
        .chk (decide (len (Bulbs.glasses (Prod.fst a)) ≤ (1000000 : Nat))) <|
        .obs (L_rbl ((i_rhydro (Prod.fst a) (Prod.snd a), decF rInt (List.length (r_mine a)) fun i => encF rInt (r_mine a) ((0 : Nat) + i), (0 : Nat), (0 : Int)), Prod.fst a, PUnit.unit, decF rInt (0 : Nat) fun x x_1 => AV.top, PUnit.unit)) fun x0 =>
          .ret ((decF rInt (List.length (Prod.fst (Prod.snd (Prod.snd x0)))) fun i => encF rInt (Prod.fst (Prod.snd (Prod.snd x0))) ((0 : Nat) + i), (0 : Int))))))) := fun a => by kernel_rfl
noncomputable def K.r_blm (a : Bulbs × Int) : List Int × Int := if (r_bulbs a.1 != 0) = true then ([], r_bulbs a.1) else match first (p_rhydro a.1 a.2) (len a.1.hydros) with
  | none => ([], 5)
  | some i => if (!r_none (r_off a.1 (hyd a.1.hydros i) 0)) = true then ([], 0) else ((r_mine a).filter (rblP a.1 i), 0)
theorem K.risR_le (l : List Int) : (risL l).length = l.length := risR_length l _
theorem K.r_blm_eq (a : Bulbs × Int) (h : len a.1.glasses ≤ 1000000) : callT1 P BKBl41 30 30 D_off R_Ints a = some (r_blm a) := by
  rw [fn_rbl]; unfold r_blm
  refine br_step (fun _ => rfl) (fun _ => ?_)
  have e1 := K.len_le a.1.hydros; have e2 := K.len_le' a.1.hydros
  have hi : i_rhydro a.1 a.2 = idx (p_rhydro a.1 a.2) (len a.1.hydros) := rfl
  have e0 : (decF rInt (r_mine a).length fun i => encF rInt (r_mine a) (0 + i)) = r_mine a := decF_enc0 _ _
  have ez : (decF rInt 0 fun x x_1 => AV.top) = ([] : List Int) := rfl
  rw [e0, ez]
  have hm : (r_mine a).length ≤ 1000000 := by
    unfold r_mine; rw [risR_le]
    exact Nat.le_trans (mineR_le _ _ _) h
  cases hf : first (p_rhydro a.1 a.2) (len a.1.hydros) with
  | none =>
    rw [hi]; unfold idx; rw [hf]; rfl
  | some i =>
    have hlt := (first_spec hf).1
    rw [hi]; unfold idx; rw [hf]
    simp only [Int.toNat_natCast]
    rw [T.run_br, if_neg (by simp)]
    refine chk_step (by simp; omega) (br_step (fun _ => rfl) (fun _ => chk_step (decide_eq_true h) ?_))
    show T.run (.obs (L_rbl (((i : Int), r_mine a, 0, 0), a.1, (), [], ())) _) = _
    rw [L_rbl_eq a.1 i (r_mine a) hlt hm, T.run_some, T.run_ret, decF_enc0]
noncomputable def BKBl42 : Tab := BKBl41.addCall 30 (callE D_off R_Ints (fun a => .chk (decide (len a.1.glasses ≤ 1000000)) (.ret (K.r_blm a))))
theorem tKBl42 : TabOk P BKBl42 := TabOk.addFn (d := 30) okP tKBl41 (fun a r h => by obtain ⟨g, e⟩ := chk_ret h; subst e; exact K.r_blm_eq a (by simpa using g))
end Go.Proofs.YtjbhooodjmjdkaaGreat
/-! EvX -/
namespace Go.Proofs.YtjbhooodjmjdkaaGreat.Ev
open Go.RowKit Go.Sort Go.Proofs Go.Shelf

/-- A row's cells, as values of the evaluator. -/
def rowV {τ : Type} (R : RowD τ) (a : τ) : List AV := (List.range R.wd).map fun k => conf (ckAt R.tags k) (R.wr a k)
theorem bangA {α : Type} [Inhabited α] (F : Array α) (i : Nat) (h : i < F.size) : F[i]! = F[i] := getElem!_pos F i h
theorem bangL {α : Type} [Inhabited α] (F : List α) (i : Nat) (h : i < F.length) : F[i]! = F[i] := getElem!_pos F i h
def scalD (x : AV) : Value := match scal x with
  | some v => v
  | none => .nilFunc
/-- A row's cells. -/
def rowVal {τ : Type} (R : RowD τ) (a : τ) : List Value := (rowV R a).map scalD

theorem fullCK_sc {l : List CK} : ∀ {n k : Nat}, fullCK l n = true → k < n → ∀ x, scal (conf (ckAt l k) x) = some (scalD (conf (ckAt l k) x)) ∧ (scalD (conf (ckAt l k) x)).oneCell' = true
  | 0, k, _, h => absurd h (Nat.not_lt_zero _)
  | n + 1, k, h, hk => by
    simp only [fullCK, Bool.and_eq_true] at h
    by_cases e : k = n
    · subst e
      intro x
      cases hc : ckAt l k <;> rw [hc] at h <;> first | (exact absurd h.1 (by decide)) | exact ⟨rfl, rfl⟩
    · exact fullCK_sc h.2 (by omega)

section
variable {P : Program} {τ : Type} {R : RowD τ}

theorem rowV_length (R : RowD τ) (a : τ) : (rowV R a).length = R.wd := by simp [rowV]
theorem rowVal_length (R : RowD τ) (a : τ) : (rowVal R a).length = R.wd := by simp [rowVal, rowV]
theorem rowVal_get (R : RowD τ) (a : τ) {k : Nat} (hk : k < R.wd) : (rowVal R a)[k]? = some (scalD (conf (ckAt R.tags k) (R.wr a k))) := by simp [rowVal, rowV, hk]
theorem rowVal_one (hf : fullCK R.tags R.wd = true) (a : τ) : ∀ v ∈ rowVal R a, v.oneCell' = true := by
  intro v hv
  obtain ⟨k, hk⟩ := List.getElem?_of_mem hv
  have hlt : k < R.wd := by rw [← rowVal_length R a]; exact (List.getElem?_eq_some_iff.1 hk).1
  rw [rowVal_get R a hlt] at hk
  injection hk with hk; subst hk
  exact (fullCK_sc hf hlt _).2

theorem scalD_vr {w : World} {A : Nat → Prop} {r : Rr} {x : AV} {v : Value} (hs : scal x = some (scalD x)) (h : VR w A r x v) : v = scalD x := scal_eq hs h
theorem vr_scalD {w : World} {A : Nat → Prop} {r : Rr} {x : AV} (hs : scal x = some (scalD x)) : VR w A r x (scalD x) := by
  cases x <;> simp [scal] at hs <;> simp only [scalD, scal]
  all_goals constructor

theorem vrs_row {w : World} {A : Nat → Prop} {r : Rr} (hf : fullCK R.tags R.wd = true) (a : τ) : VR w A r (.agg (rowV R a)) (.agg (rowVal R a).toArray) := by
  refine .agg (by simp [rowVal]) (fun i x u hx hu => ?_)
  have hlt : i < R.wd := by rw [← rowV_length R a]; exact (List.getElem?_eq_some_iff.1 hx).1
  rw [List.getElem?_toArray, rowVal_get R a hlt] at hu
  injection hu with hu; subst hu
  have : (rowV R a)[i]? = some (conf (ckAt R.tags i) (R.wr a i)) := by simp [rowV, hlt]
  rw [this] at hx; injection hx with hx; subst hx
  exact vr_scalD (fullCK_sc hf hlt _).1

/-- What a function that compares two rows does, as the library's sort asks it. -/
theorem cmp_lays [Inhabited τ] (hf : fullCK R.tags R.wd = true) {g : FuncId} {cf : τ → τ → Int} (hc : ∀ x y, PC P g [.agg (rowV R x), .agg (rowV R y)] (.int .i64 (cf x y))) (blk off size : Nat) (w : World) : CmpLays P g #[] (rowVal R) R.wd cf blk off size w := by
  intro m os dk hs x y
  generalize sortWorldK (rowVal R) R.wd w blk off m dk os = W
  rw [Array.append_empty]
  have h := hc x y none 0 (fun _ => False) W #[.agg (rowVal R x).toArray, .agg (rowVal R y).toArray] (fun b hb => hb.elim)
    ⟨rfl, fun i x' u hx hu => by
      match i with
      | 0 => simp at hx hu; subst hx; subst hu; exact vrs_row hf x
      | 1 => simp at hx hu; subst hx; subst hu; exact vrs_row hf y
      | i + 2 => simp at hx⟩
  refine (callsIn_wide.1 h).mono ?_
  rintro en w' ⟨v, rfl, hv, hB⟩
  cases hv
  refine ⟨rfl, w'.drawn - W.drawn, w'.heap.extract W.heap.size, ?_⟩
  have e : w'.heap = W.heap ++ w'.heap.extract W.heap.size := by
    apply Array.ext_getElem?
    intro i
    by_cases hi : i < W.heap.size
    · rw [Array.getElem?_append_left hi]; exact hB.block i hi
    · rw [Array.getElem?_append_right (by omega)]
      by_cases hj : i < w'.heap.size
      · rw [Array.getElem?_eq_getElem hj, Array.getElem?_eq_getElem (by simp; omega)]
        simp [Array.getElem_extract, show W.heap.size + (i - W.heap.size) = i by omega]
      · rw [Array.getElem?_eq_none (by omega), Array.getElem?_eq_none (by simp; omega)]
  have h1 := hB.os; have h2 := hB.tape; have h3 := hB.output; have h4 := hB.drawn
  cases w' with
  | mk heap tape drawn os' output =>
    simp only at e h1 h2 h3 h4
    subst h1; subst h2; subst h3
    unfold grow World.drewN
    simp only
    congr 1
    omega

/-- The list, sorted. -/
def sortF [Inhabited τ] (cf : τ → τ → Int) (l : List τ) : List τ := (pdq (ltOf cf) l.toArray 0 l.length (Lib.bitLen l.length) true true).toList

theorem sortF_spec [Inhabited τ] {cf : τ → τ → Int} (hO : SWO (ltOf cf)) (l : List τ) : (sortF cf l).Perm l ∧ (sortF cf l).Pairwise fun x y => ltOf cf y x = false := by
  have h := pdq_sorts (ltOf cf) hO l.toArray 0 l.length (Lib.bitLen l.length) true true (Nat.zero_le _) (Nat.le_of_eq (by simp)) (Or.inl rfl)
  obtain ⟨⟨hs, _, hp⟩, ho⟩ := h
  unfold sortF
  generalize pdq (ltOf cf) l.toArray 0 l.length (Lib.bitLen l.length) true true = d at hs hp ho
  have hs : d.size = l.length := by simpa using hs
  have e1 : d.extract 0 l.length = d := by rw [← hs]; simp
  have e2 : l.toArray.extract 0 l.length = l.toArray := by simp
  rw [e1, e2] at hp
  refine ⟨by simpa using hp, ?_⟩
  rw [List.pairwise_iff_getElem]
  intro i j hi hj hij
  have := ho i j (Nat.zero_le _) hij (by simpa [← hs] using hj)
  rw [bangA d i (by simpa using hi), bangA d j (by simpa using hj)] at this
  simpa using this

theorem sortF_length [Inhabited τ] {cf : τ → τ → Int} (hO : SWO (ltOf cf)) (l : List τ) : (sortF cf l).length = l.length := (sortF_spec hO l).1.length_eq

/-- Where no two that are not one tie, there is one sorted list. -/
theorem sortF_unique [Inhabited τ] {cf : τ → τ → Int} (hO : SWO (ltOf cf)) {l l' : List τ} (hp : l'.Perm l) (hs : l'.Pairwise fun x y => ltOf cf y x = false) (ht : ∀ x ∈ l, ∀ y ∈ l, ltOf cf x y = false → ltOf cf y x = false → x = y) : sortF cf l = l' := by
  obtain ⟨h1, h2⟩ := sortF_spec hO l
  refine List.Perm.eq_of_pairwise (le := fun x y => ltOf cf y x = false) (fun a b ha hb h3 h4 => ?_) h2 hs (h1.trans hp.symm)
  exact ht a (h1.mem_iff.1 ha) b (hp.mem_iff.1 hb) h4 h3

theorem rows_flat [Inhabited τ] (hf : fullCK R.tags R.wd = true) (h0 : 0 < R.wd) {w : World} {A : Nat → Prop} {g : Get AV} {n : Nat} {rows : List Value} (ht : g.tag = R.tags) (hl : rows.length = n * R.wd) (h : RowsR w A g n R.wd rows) : rows = (Go.Sort.flatK (rowVal R) R.wd (decF R n g.f).toArray).toList := by
  apply List.ext_getElem?
  intro i
  have hdl : (decF R n g.f).length = n := decF_length ..
  by_cases hi : i < n * R.wd
  · have hr : i / R.wd < n := Nat.div_lt_of_lt_mul (by rw [Nat.mul_comm]; exact hi)
    have hm : i % R.wd < R.wd := Nat.mod_lt _ h0
    obtain ⟨u, hu, hv⟩ := h (i / R.wd) (i % R.wd) hr hm
    rw [Nat.div_add_mod'] at hu
    have hk := fullCK_sc hf hm (g.f (i / R.wd) (i % R.wd))
    have hu' := scalD_vr (x := g.cell (i / R.wd) (i % R.wd)) (by rw [Get.cell, ht]; exact hk.1) hv
    have hF : i < (Go.Sort.flatK (rowVal R) R.wd (decF R n g.f).toArray).size := by rw [Go.Sort.size_flatK]; simpa [hdl] using hi
    have hG := get_flatK (rowVal R) R.wd (decF R n g.f).toArray i (by simpa [hdl] using hi)
    rw [bangA _ i hF] at hG
    rw [hu, hu', Array.getElem?_toList, Array.getElem?_eq_getElem hF, hG]
    have e : (decF R n g.f).toArray[i / R.wd]! = R.rd (g.f (i / R.wd)) := by
      rw [bangA _ _ (by simpa [hdl] using hr)]; simp [decF]
    rw [e]
    have e2 := rowVal_get R (R.rd (g.f (i / R.wd))) hm
    have hlt : i % R.wd < (rowVal R (R.rd (g.f (i / R.wd)))).length := by rw [rowVal_length]; exact hm
    rw [bangL _ _ hlt]
    rw [List.getElem?_eq_getElem hlt] at e2
    injection e2 with e2
    rw [e2, R.ok _ _ hm, Get.cell, ht]
  · rw [List.getElem?_eq_none (by omega), List.getElem?_eq_none (by simp [hdl]; omega)]

theorem rowsR_flat [Inhabited τ] (hf : fullCK R.tags R.wd = true) (h0 : 0 < R.wd) {w : World} {A : Nat → Prop} (l : List τ) : RowsR w A ⟨R.tags, encF R l⟩ l.length R.wd (Go.Sort.flatK (rowVal R) R.wd l.toArray).toList := by
  intro i k hi hk
  have hlt : i * R.wd + k < l.length * R.wd := by
    have : (i + 1) * R.wd ≤ l.length * R.wd := Nat.mul_le_mul_right _ hi
    rw [Nat.add_mul, Nat.one_mul] at this; omega
  have hF : i * R.wd + k < (Go.Sort.flatK (rowVal R) R.wd l.toArray).size := by rw [Go.Sort.size_flatK]; simpa using hlt
  have hG := get_flatK (rowVal R) R.wd l.toArray (i * R.wd + k) (by simpa using hlt)
  rw [bangA _ _ hF] at hG
  have ed : (i * R.wd + k) / R.wd = i := by rw [Nat.mul_comm, Nat.mul_add_div h0, Nat.div_eq_of_lt hk, Nat.add_zero]
  have em : (i * R.wd + k) % R.wd = k := by rw [Nat.mul_comm, Nat.mul_add_mod, Nat.mod_eq_of_lt hk]
  rw [ed, em] at hG
  have e : l.toArray[i]! = l[i] := by rw [bangA _ _ (by simpa using hi)]; simp
  rw [e] at hG
  have hlt2 : k < (rowVal R l[i]).length := by rw [rowVal_length]; exact hk
  have e2 := rowVal_get R l[i] hk
  rw [List.getElem?_eq_getElem hlt2] at e2
  injection e2 with e2
  rw [bangL _ _ hlt2, e2] at hG
  refine ⟨_, by rw [Array.getElem?_toList, Array.getElem?_eq_getElem hF, hG], ?_⟩
  simp only [Get.cell, encF_at (List.getElem?_eq_getElem hi)]
  exact vr_scalD (fullCK_sc hf hk _).1

theorem holds_flat {w : World} {b : Nat} {cur : Array Value} {e : TypeId} {F : Array Value} (hb : w.heap[b]? = some (.cells cur e (0, 0))) (ht : cur.toList.take F.size = F.toList) : Holds id w b 0 F := by
  intro j hj
  refine ⟨?_, by simp [World.frozen?, hb]⟩
  have h1 : (cur.toList.take F.size)[j]? = F.toList[j]? := by rw [ht]
  rw [List.getElem?_take_of_lt hj] at h1
  simp only [World.cell?, hb, Nat.zero_add]
  simp only [Option.isSome_none, Bool.false_eq_true, if_false]
  rw [← Array.getElem?_toList, h1, Array.getElem?_toList, bangA _ _ hj, Array.getElem?_eq_getElem hj]; rfl

theorem heap_flat {w : World} {b n : Nat} {os : Array Obj} {cur : Array Value} {e : TypeId} {fr : Nat × Nat} (F : Array Value) (hb : w.heap[b]? = some (.cells cur e fr)) :
    (grow (putRow id (Sort.ahead w n) b 0 F) os).heap[b]? = some (.cells (putCells id 0 F cur) e fr) := by
  have hg : b < w.heap.size := (Array.getElem?_eq_some_iff.1 hb).1
  rw [heap_grow_old _ _ (by simpa using hg)]
  simp [putRow, mapBlock, Sort.ahead, Array.getElem?_modify, hb, onCells]

theorem grownBy_flat {w : World} {b n : Nat} {os : Array Obj} (F : Array Value) : w.grownBy (grow (putRow id (Sort.ahead w n) b 0 F) os) (some b) := by
  refine ⟨rfl, rfl, rfl, by simp, fun k hk hne => ?_⟩
  rw [heap_grow_old _ _ (by simpa using hk)]
  have : b ≠ k := fun e => hne (by rw [e])
  simp [putRow, mapBlock, Sort.ahead, Array.getElem?_modify, this]

theorem take_putFlat (cur F : Array Value) (h : F.size ≤ cur.size) : (putCells id 0 F cur).toList.take F.size = F.toList := by
  apply List.ext_getElem?
  intro j
  by_cases hj : j < F.size
  · rw [List.getElem?_take_of_lt hj, Array.getElem?_toList]
    simp [putCells, hj, show j < cur.size by omega]
  · rw [List.getElem?_take_eq_none (by omega), List.getElem?_eq_none (by simp; omega)]

/-- slices.SortFunc at rows that are structs or arrays. -/
theorem mc_sortF [Inhabited τ] {ρ : Ren} (L : SlLaysF0.n6 P ρ) (hf : fullCK R.tags R.wd = true) (h0 : 0 < R.wd) (aE : ∀ w, (isAgg (ρ.t 24)).run P w = .ok true w) (zE : ∀ w, (Go.sizeOf (ρ.t 24)).run P w = .ok R.wd w) {g : FuncId} {cf : τ → τ → Int} (hO : SWO (ltOf cf))
    (eg : ∀ args w, (callFunc g args).run P w = .ok (.enter g args) w) (hc : ∀ x y, PC P g [.agg (rowV R x), .agg (rowV R y)] (.int .i64 (cf x y))) {n : Nat} {G : Get AV} (ht : G.tag = R.tags) (hn : n < 4611686018427387904) :
    MC P (ρ.f 6) R.wd n G ⟨R.tags, encF R (sortF cf (decF R n G.f))⟩ [.fn (.func g) [] []] := by
  intro ro m A w t e c rows us hA hob hz hnc hwd hown hrows hus
  obtain ⟨hsz, hval⟩ := hus
  have hfn : us = #[.func (.func g) #[] #[]] := by
    have h1 : us.size = 1 := hsz.symm
    obtain ⟨u, hu⟩ : ∃ u, us = #[u] := Array.size_eq_one_iff.1 h1
    subst hu
    have := hval 0 _ u rfl rfl
    cases this with
    | fn hx hy h3 h4 =>
      rename_i us0 vs0
      have e1 : us0 = #[] := Array.eq_empty_of_size_eq_zero (by simpa using hx.symm)
      have e2 : vs0 = #[] := Array.eq_empty_of_size_eq_zero (by simpa using hy.symm)
      subst e1; subst e2; rfl
  subst hfn
  apply callsIn_round
  have hdl : (decF R n G.f).length = n := decF_length ..
  have hsl := sortF_length hO (decF R n G.f)
  cases e with
  | zero =>
    obtain ⟨rfl, rfl⟩ := hz rfl
    refine (callsIn_wide.2 (AnyF.slices_SortFunc_none L none 0 _ w)).mono ?_
    rintro en w' ⟨rfl, rfl⟩
    exact ⟨rfl, rows, ⟨⟨rfl, rfl, rfl, Nat.le_refl _, fun _ _ _ => rfl⟩, Nat.le_refl _⟩, hown, fun i k hi => absurd hi (Nat.not_lt_zero _)⟩
  | succ b =>
    have hr := rows_flat hf h0 ht hown.1 hrows
    obtain ⟨hl, hown⟩ := hown
    rcases hown with ⟨hv, _⟩ | ⟨g0, cap, cur, hv, hbase, hheap, hle, hmax, hsz, htake⟩
    · cases hv
    · cases hv
      generalize hd : decF R n G.f = d at *
      have hFs : (Go.Sort.flatK (rowVal R) R.wd d.toArray).size = n * R.wd := by rw [Go.Sort.size_flatK]; simp [hdl]
      have hH : HoldsK (rowVal R) R.wd w b 0 d.toArray := holds_flat hheap (by rw [hFs, ← hr, htake])
      have hlt : b < w.heap.size := (Array.getElem?_eq_some_iff.1 hheap).1
      have hcon := AnyQ.slices_SortFunc_eq L R.wd aE zE (rowVal R) (rowVal_length R) (rowVal_one hf) cf hO g #[] b 0 c d.toArray w eg (cmp_lays hf hc b 0 d.toArray.size w) hH hlt (by simpa [hdl] using hn)
      have es : d.toArray.size = n := by simpa using hdl
      rw [es] at hcon
      refine (callsIn_wide.2 hcon).mono ?_
      rintro en w' ⟨rfl, n', os, rfl⟩
      have hsd : (pdq (ltOf cf) d.toArray 0 n (Lib.bitLen n) true true).toList = sortF cf d := by unfold sortF; rw [hdl]
      generalize hp : pdq (ltOf cf) d.toArray 0 n (Lib.bitLen n) true true = q at *
      have hq : q = (sortF cf d).toArray := by rw [← hsd]
      subst hq
      have hqs : (Go.Sort.flatK (rowVal R) R.wd (sortF cf d).toArray).size = n * R.wd := by rw [Go.Sort.size_flatK]; simp [hsl, hdl]
      have hle2 : n * R.wd ≤ cur.size := by rw [hsz]; exact Nat.mul_le_mul_right _ hle
      refine ⟨rfl, (Go.Sort.flatK (rowVal R) R.wd (sortF cf d).toArray).toList, ⟨grownBy_flat _, Nat.le_add_right _ _⟩, ⟨by simpa using hqs, .inr ⟨b, c, _, rfl, hbase, heap_flat _ hheap, hle, hmax, by simp [putCells, hsz], ?_⟩⟩, ?_⟩
      · rw [← hqs]; exact take_putFlat _ _ (by rw [hqs]; exact hle2)
      · have := rowsR_flat (R := R) hf h0 (w := grow (putRow id (Sort.ahead w n') b 0 (Go.Sort.flatK (rowVal R) R.wd (sortF cf d).toArray)) os) (A := A) (sortF cf d)
        rw [hsl, hdl] at this
        exact this

/-- What the sort of a list of rows comes to. -/
def sortFE (R : RowD τ) (g : FuncId) (srt : List τ → List τ) : List AV → Option (T AV)
  | .osl _ _ _ :: .xsl wd n G _ _ _ :: .fn (.func f) [] [] :: [] => match Nat.beq f g && (Nat.beq wd R.wd && ckLEq G.tag R.tags) with
    | true => some (.chk (decide (n < 4611686018427387904)) (.ret (.xsl wd n ⟨R.tags, encF R (srt (decF R n G.f))⟩ 0 n none)))
    | false => none
  | _ => none

theorem sortFE_cc {f g : FuncId} {srt : List τ → List τ} (h : ∀ n (G : Get AV), G.tag = R.tags → n < 4611686018427387904 → MC P f R.wd n G ⟨R.tags, encF R (srt (decF R n G.f))⟩ [.fn (.func g) [] []]) (args : List AV) (t : T AV) (v : AV) (ht : sortFE R g srt args = some t) (hr : t.run = some v) : CC P f args v := by
  unfold sortFE at ht
  split at ht
  · rename_i j0 v0 n0 wd n G a b c f
    split at ht
    · rename_i hc
      simp only [Bool.and_eq_true] at hc
      have e1 := Nat.eq_of_beq_eq_true hc.1; have e2 := Nat.eq_of_beq_eq_true hc.2.1; have e3 := ckLEq_eq hc.2.2; subst e1; subst e2
      injection ht with ht; subst ht
      simp only [T.run] at hr
      split at hr
      · rename_i g1
        injection hr with hr; subst hr
        exact h n G e3 (of_decide_eq_true g1)
      · cases hr
    · cases ht
  · cases ht
end
end Go.Proofs.YtjbhooodjmjdkaaGreat.Ev
/-! KBl5 -/
namespace Go.Proofs.YtjbhooodjmjdkaaGreat
open Ev K
set_option maxRecDepth 100000
def V_co := DecL.skips 2 (.unit (dLp 0 0 0 0) (.unit (dLp 1 0 0 0) (.skips 3 (.unit (dLp 2 0 0 0) (.skip (.unit (dLp 3 0 0 0) (.skips 17 (.last R_gl 46))))))))
def S_ci := DecS.rnd (.skips 2 (.unit (dLp 0 0 0 0) (.unit (dLp 1 0 0 0) (.skips 3 (.unit (dLp 2 0 0 0) (.skip (.unit (dLp 3 0 0 0) (.unit (dLp 5 0 0 0) (.skips 16 (.cons R_gl (.skips 16 (.last R_gl 29)))))))))))) (.flat 31 lBulbs (.flat 3 (.last (dI .i64) 0) (.flat 127 lHydro (.flat 69 (.last (dO 4) 0) (.rows 75 rPair (.flat 134 lTold .nil)))))) V_co
noncomputable def K.st_ci := rangeT1 P BKBl42 30 27 105 [44, 9, 10, 2, 3, 7, 27] S_ci DecX.no eTold
theorem rg_ci : ∀ s x, (K.st_ci) s x = T.run (
  .br (decide (Glass.id (GlassE.g (Prod.fst (Prod.snd (Prod.snd (Prod.snd (Prod.snd (Prod.snd (Prod.fst (Prod.snd s))))))))) < Glass.id (GlassE.g x))) (
    .br (void (meet (GlassE.errors (Prod.fst (Prod.snd (Prod.snd (Prod.snd (Prod.snd (Prod.snd (Prod.fst (Prod.snd s))))))))) (GlassE.errors x))) (
      .chk (decide ((List.length (Prod.fst (Prod.snd (Prod.snd (Prod.snd (Prod.snd (Prod.fst (Prod.snd s))))))) + (1 : Nat)) * (16 : Nat) ≤ (140737488355328 : Nat) ∧ List.length (Prod.fst (Prod.snd (Prod.snd (Prod.snd (Prod.snd (Prod.fst (Prod.snd s))))))) + (1 : Nat) ≤ nat_lit 9223372036854775807)) <|
      .ret (Sum.inl (Prod.fst s, (Prod.fst (Prod.fst (Prod.snd s)), Prod.fst (Prod.snd (Prod.fst (Prod.snd s))), Prod.fst (Prod.snd (Prod.snd (Prod.fst (Prod.snd s)))), List.length (Prod.fst (Prod.snd (Prod.snd (Prod.snd (Prod.snd (Prod.fst (Prod.snd s))))))) + (1 : Nat), decF rPair (List.length (Prod.fst (Prod.snd (Prod.snd (Prod.snd (Prod.snd (Prod.fst (Prod.snd s))))))) + (1 : Nat)) (appG (List.length (Prod.fst (Prod.snd (Prod.snd (Prod.snd (Prod.snd (Prod.fst (Prod.snd s)))))))) (encF rPair (Prod.fst (Prod.snd (Prod.snd (Prod.snd (Prod.snd (Prod.fst (Prod.snd s)))))))) fun i k => Option.getD [AV.int IntKind.i64 (Glass.id (GlassE.g (Prod.fst (Prod.snd (Prod.snd (Prod.snd (Prod.snd (Prod.snd (Prod.fst (Prod.snd s)))))))))), AV.int IntKind.i64 (Glass.id (GlassE.g x))][((0 : Nat) + i) * (2 : Nat) + k]? AV.top), Prod.fst (Prod.snd (Prod.snd (Prod.snd (Prod.snd (Prod.snd (Prod.fst (Prod.snd s))))))), PUnit.unit), Prod.snd (Prod.snd s)))) (
      .ret (Sum.inl (Prod.fst s, (Prod.fst (Prod.fst (Prod.snd s)), Prod.fst (Prod.snd (Prod.fst (Prod.snd s))), Prod.fst (Prod.snd (Prod.snd (Prod.fst (Prod.snd s)))), Prod.fst (Prod.snd (Prod.snd (Prod.snd (Prod.fst (Prod.snd s))))), decF rPair (List.length (Prod.fst (Prod.snd (Prod.snd (Prod.snd (Prod.snd (Prod.fst (Prod.snd s)))))))) (encF rPair (Prod.fst (Prod.snd (Prod.snd (Prod.snd (Prod.snd (Prod.fst (Prod.snd s)))))))), Prod.fst (Prod.snd (Prod.snd (Prod.snd (Prod.snd (Prod.snd (Prod.fst (Prod.snd s))))))), PUnit.unit), Prod.snd (Prod.snd s))))) (
    .ret (Sum.inl (Prod.fst s, (Prod.fst (Prod.fst (Prod.snd s)), Prod.fst (Prod.snd (Prod.fst (Prod.snd s))), Prod.fst (Prod.snd (Prod.snd (Prod.fst (Prod.snd s)))), Prod.fst (Prod.snd (Prod.snd (Prod.snd (Prod.fst (Prod.snd s))))), decF rPair (List.length (Prod.fst (Prod.snd (Prod.snd (Prod.snd (Prod.snd (Prod.fst (Prod.snd s)))))))) (encF rPair (Prod.fst (Prod.snd (Prod.snd (Prod.snd (Prod.snd (Prod.fst (Prod.snd s)))))))), Prod.fst (Prod.snd (Prod.snd (Prod.snd (Prod.snd (Prod.snd (Prod.fst (Prod.snd s))))))), PUnit.unit), Prod.snd (Prod.snd s))))) := fun s x => by kernel_rfl
/-- A glass that contradicts another one. -/
def K.ciP (g x : GlassE) : Bool := decide (g.g.id < x.g.id) && void (meet g.errors x.errors)
def K.ci1 (g x : GlassE) : List (Int × Int) := if ciP g x = true then [(g.g.id, x.g.id)] else []
namespace K
theorem ci1_le (g x : GlassE) : (ci1 g x).length ≤ 1 := by unfold ci1; split <;> simp
theorem st_ci_eq (z a z' : Bulbs × Int) (b : Bulbs) (n : Int) (h : Hydro) (L : List (Int × Int)) (g x : GlassE) (hl : L.length ≤ 1000000) : st_ci ((z, a), (b, n, h, L.length, L, g, ()), z') x = some (.inl ((z, a), (b, n, h, (L ++ ci1 g x).length, L ++ ci1 g x, g, ()), z')) := by
  rw [rg_ci]; unfold ci1 ciP
  simp only [T.run_br]
  by_cases h1 : g.g.id < x.g.id
  · rw [decide_eq_true h1, if_pos rfl, Bool.true_and]
    by_cases h2 : void (meet g.errors x.errors) = true
    · rw [if_pos h2, if_pos h2]
      refine chk_step (decide_eq_true (by omega)) ?_
      rw [T.run_ret, decF_push]
      simp only [List.length_append]; rfl
    · rw [if_neg h2, if_neg h2, T.run_ret, decF_encF, List.append_nil]
  · rw [decide_eq_false h1, if_neg (by decide), Bool.false_and, if_neg (by decide), T.run_ret, decF_encF, List.append_nil]
theorem fold_ci (z a z' : Bulbs × Int) (b : Bulbs) (n : Int) (h : Hydro) (g : GlassE) : ∀ (xs : List GlassE) (L : List (Int × Int)), L.length + xs.length ≤ 1000000 → foldS st_ci xs ((z, a), (b, n, h, L.length, L, g, ()), z') = some (.inl ((z, a), (b, n, h, (L ++ xs.flatMap (ci1 g)).length, L ++ xs.flatMap (ci1 g), g, ()), z'))
  | [], L, _ => by simp [foldS]
  | x :: xs, L, hl => by
    have h1 := ci1_le g x
    simp only [List.length_cons] at hl
    rw [foldS, st_ci_eq z a z' b n h L g x (by omega)]
    simp only
    rw [fold_ci z a z' b n h g xs (L ++ ci1 g x) (by rw [List.length_append]; omega), List.flatMap_cons, List.append_assoc]
/-- What one glass contradicts, behind what was there. -/
def ciApp (L : List (Int × Int)) (a : Bulbs × Int) (g : GlassE) : List (Int × Int) := L ++ (glassesL a.1 a.2).flatMap (ci1 g)
def ciOk (n : Nat) (L : List (Int × Int)) (a : Bulbs × Int) : Bool := decide (n = L.length ∧ L.length + (glassesL a.1 a.2).length ≤ 1000000)
end K
noncomputable def BKBl51 : Tab := BKBl42.addNode 27 105 (rangeE [44, 9, 10, 2, 3, 7, 27] S_ci DecX.no (fun s => .chk (K.ciOk s.2.1.2.2.2.1 s.2.1.2.2.2.2.1 s.1.2) (.ret (.inl (s.1, (s.2.1.1, s.2.1.2.1, s.2.1.2.2.1, (K.ciApp s.2.1.2.2.2.2.1 s.1.2 s.2.1.2.2.2.2.2.1).length, K.ciApp s.2.1.2.2.2.2.1 s.1.2 s.2.1.2.2.2.2.2.1, s.2.1.2.2.2.2.2.1, ()), s.2.2)))))
theorem tKBl51 : TabOk P BKBl51 := TabOk.addRange (d := 30) (enc := eTold) (L := (fun s => glassesL s.1.2.1 s.1.2.2)) okP tKBl42 (by kernel_rfl) (by kernel_rfl) (fun s r h => ⟨_, _, _, (by kernel_rfl : _ = some (134, [], V_gls.enc s.1.2)), icl_gls s.1.2.2 s.1.2.1⟩) (fun s r h => by obtain ⟨gg, e⟩ := chk_ret h; subst e; obtain ⟨⟨z, a⟩, ⟨b, n, hh, c, L, g, _⟩, z'⟩ := s; obtain ⟨e1, e2⟩ := of_decide_eq_true gg; simp only at e1 e2; subst e1; exact K.fold_ci z a z' b n hh g _ L e2)
def S_co := DecS.ghostC 9 75 2 [.int .i64, .int .i64] (DecS.mk0 V_co (.flat 31 lBulbs (.flat 3 (.last (dI .i64) 0) (.flat 127 lHydro (.flat 69 (.last (dO 4) 0) (.rows 75 rPair .nil))))))
noncomputable def K.st_co := rangeT1 P BKBl51 30 27 73 [27, 9, 3, 2, 7] S_co DecX.no eTold
theorem rg_co : ∀ s x, (K.st_co) s x = T.run (
  .br (void (meet (GlassE.errors x) (Hydro.off (Prod.fst (Prod.snd (Prod.snd (Prod.snd s))))))) (
    .chk (decide ((List.length (Prod.fst (Prod.snd (Prod.snd (Prod.snd (Prod.snd (Prod.snd s)))))) + (1 : Nat)) * (16 : Nat) ≤ (140737488355328 : Nat) ∧ List.length (Prod.fst (Prod.snd (Prod.snd (Prod.snd (Prod.snd (Prod.snd s)))))) + (1 : Nat) ≤ nat_lit 9223372036854775807)) <|
    .chk (ciOk (List.length (Prod.fst (Prod.snd (Prod.snd (Prod.snd (Prod.snd (Prod.snd s)))))) + (1 : Nat)) (decF rPair (List.length (Prod.fst (Prod.snd (Prod.snd (Prod.snd (Prod.snd (Prod.snd s)))))) + (1 : Nat)) (appG (List.length (Prod.fst (Prod.snd (Prod.snd (Prod.snd (Prod.snd (Prod.snd s))))))) (encF rPair (Prod.fst (Prod.snd (Prod.snd (Prod.snd (Prod.snd (Prod.snd s))))))) fun i k => Option.getD [AV.int IntKind.i64 (0 : Int), AV.int IntKind.i64 (Glass.id (GlassE.g x))][((0 : Nat) + i) * (2 : Nat) + k]? AV.top)) (Prod.fst (Prod.snd s), Prod.fst (Prod.snd (Prod.snd s)))) <|
    .ret (Sum.inl (Prod.fst s, Prod.fst (Prod.snd s), Prod.fst (Prod.snd (Prod.snd s)), Prod.fst (Prod.snd (Prod.snd (Prod.snd s))), List.length (ciApp (decF rPair (List.length (Prod.fst (Prod.snd (Prod.snd (Prod.snd (Prod.snd (Prod.snd s)))))) + (1 : Nat)) (appG (List.length (Prod.fst (Prod.snd (Prod.snd (Prod.snd (Prod.snd (Prod.snd s))))))) (encF rPair (Prod.fst (Prod.snd (Prod.snd (Prod.snd (Prod.snd (Prod.snd s))))))) fun i k => Option.getD [AV.int IntKind.i64 (0 : Int), AV.int IntKind.i64 (Glass.id (GlassE.g x))][((0 : Nat) + i) * (2 : Nat) + k]? AV.top)) (Prod.fst (Prod.snd s), Prod.fst (Prod.snd (Prod.snd s))) x), decF rPair (List.length (ciApp (decF rPair (List.length (Prod.fst (Prod.snd (Prod.snd (Prod.snd (Prod.snd (Prod.snd s)))))) + (1 : Nat)) (appG (List.length (Prod.fst (Prod.snd (Prod.snd (Prod.snd (Prod.snd (Prod.snd s))))))) (encF rPair (Prod.fst (Prod.snd (Prod.snd (Prod.snd (Prod.snd (Prod.snd s))))))) fun i k => Option.getD [AV.int IntKind.i64 (0 : Int), AV.int IntKind.i64 (Glass.id (GlassE.g x))][((0 : Nat) + i) * (2 : Nat) + k]? AV.top)) (Prod.fst (Prod.snd s), Prod.fst (Prod.snd (Prod.snd s))) x)) (encF rPair (ciApp (decF rPair (List.length (Prod.fst (Prod.snd (Prod.snd (Prod.snd (Prod.snd (Prod.snd s)))))) + (1 : Nat)) (appG (List.length (Prod.fst (Prod.snd (Prod.snd (Prod.snd (Prod.snd (Prod.snd s))))))) (encF rPair (Prod.fst (Prod.snd (Prod.snd (Prod.snd (Prod.snd (Prod.snd s))))))) fun i k => Option.getD [AV.int IntKind.i64 (0 : Int), AV.int IntKind.i64 (Glass.id (GlassE.g x))][((0 : Nat) + i) * (2 : Nat) + k]? AV.top)) (Prod.fst (Prod.snd s), Prod.fst (Prod.snd (Prod.snd s))) x)), PUnit.unit))) (
    .chk (ciOk (Prod.fst (Prod.snd (Prod.snd (Prod.snd (Prod.snd s))))) (decF rPair (List.length (Prod.fst (Prod.snd (Prod.snd (Prod.snd (Prod.snd (Prod.snd s))))))) (encF rPair (Prod.fst (Prod.snd (Prod.snd (Prod.snd (Prod.snd (Prod.snd s)))))))) (Prod.fst (Prod.snd s), Prod.fst (Prod.snd (Prod.snd s)))) <|
    .ret (Sum.inl (Prod.fst s, Prod.fst (Prod.snd s), Prod.fst (Prod.snd (Prod.snd s)), Prod.fst (Prod.snd (Prod.snd (Prod.snd s))), List.length (ciApp (decF rPair (List.length (Prod.fst (Prod.snd (Prod.snd (Prod.snd (Prod.snd (Prod.snd s))))))) (encF rPair (Prod.fst (Prod.snd (Prod.snd (Prod.snd (Prod.snd (Prod.snd s)))))))) (Prod.fst (Prod.snd s), Prod.fst (Prod.snd (Prod.snd s))) x), decF rPair (List.length (ciApp (decF rPair (List.length (Prod.fst (Prod.snd (Prod.snd (Prod.snd (Prod.snd (Prod.snd s))))))) (encF rPair (Prod.fst (Prod.snd (Prod.snd (Prod.snd (Prod.snd (Prod.snd s)))))))) (Prod.fst (Prod.snd s), Prod.fst (Prod.snd (Prod.snd s))) x)) (encF rPair (ciApp (decF rPair (List.length (Prod.fst (Prod.snd (Prod.snd (Prod.snd (Prod.snd (Prod.snd s))))))) (encF rPair (Prod.fst (Prod.snd (Prod.snd (Prod.snd (Prod.snd (Prod.snd s)))))))) (Prod.fst (Prod.snd s), Prod.fst (Prod.snd (Prod.snd s))) x)), PUnit.unit)))) := fun s x => by kernel_rfl
namespace K
def co1 (b : Bulbs) (n : Int) (h : Hydro) (g : GlassE) : List (Int × Int) := (if void (meet g.errors h.off) = true then [(0, g.g.id)] else []) ++ (glassesL b n).flatMap (ci1 g)
theorem ciFlat_le (g : GlassE) (l : List GlassE) : (l.flatMap (ci1 g)).length ≤ l.length := flatMap_le (fun x => ci1_le g x) l
theorem co1_le (b : Bulbs) (n : Int) (h : Hydro) (g : GlassE) : (co1 b n h g).length ≤ 1 + (glassesL b n).length := by
  have := ciFlat_le g (glassesL b n)
  unfold co1
  rw [List.length_append]
  generalize (List.flatMap (ci1 g) (glassesL b n)).length = z at *
  split <;> simp only [List.length_cons, List.length_nil] <;> omega
theorem st_co_eq (a : Bulbs × Int) (b : Bulbs) (n : Int) (h : Hydro) (L : List (Int × Int)) (x : GlassE) (hl : L.length + 1 + (glassesL b n).length ≤ 1000000) : st_co (a, b, n, h, L.length, L, ()) x = some (.inl (a, b, n, h, (L ++ co1 b n h x).length, L ++ co1 b n h x, ())) := by
  rw [rg_co]; unfold co1
  simp only [T.run_br]
  by_cases h1 : void (meet x.errors h.off) = true
  · rw [if_pos h1, if_pos h1]
    have e : ∀ g : Nat → Nat → AV, rPair.rd (g 0) = (0, x.g.id) → decF rPair (L.length + 1) (appG L.length (encF rPair L) g) = L ++ [(0, x.g.id)] := fun g hg => by rw [decF_push, hg]
    refine chk_step (decide_eq_true (by omega)) (chk_step ?_ ?_)
    · unfold ciOk
      rw [e _ rfl]
      exact decide_eq_true ⟨by simp, by simp; omega⟩
    · rw [T.run_ret]
      rw [e _ rfl, decF_encF]
      unfold ciApp
      rw [List.append_assoc]
  · rw [if_neg h1, if_neg h1]
    refine chk_step ?_ ?_
    · unfold ciOk
      rw [decF_encF]
      exact decide_eq_true ⟨rfl, by simp; omega⟩
    · rw [T.run_ret, decF_encF, decF_encF]
      unfold ciApp
      rw [List.nil_append]
theorem fold_co (a : Bulbs × Int) (b : Bulbs) (n : Int) (h : Hydro) : ∀ (xs : List GlassE) (L : List (Int × Int)), L.length + xs.length * (1 + (glassesL b n).length) ≤ 1000000 → foldS st_co xs (a, b, n, h, L.length, L, ()) = some (.inl (a, b, n, h, (L ++ xs.flatMap (co1 b n h)).length, L ++ xs.flatMap (co1 b n h), ()))
  | [], L, _ => by simp [foldS]
  | x :: xs, L, hl => by
    have h1 := co1_le b n h x
    rw [List.length_cons, Nat.add_mul, Nat.one_mul] at hl
    rw [foldS, st_co_eq a b n h L x (by omega)]
    simp only
    rw [fold_co a b n h xs (L ++ co1 b n h x) (by rw [List.length_append]; omega), List.flatMap_cons, List.append_assoc]
/-- All that contradicts, behind what was there. -/
def coApp (L : List (Int × Int)) (a : Bulbs × Int) (b : Bulbs) (n : Int) (h : Hydro) : List (Int × Int) := L ++ (glassesL a.1 a.2).flatMap (co1 b n h)
def coOk (k : Nat) (L : List (Int × Int)) (a : Bulbs × Int) (b : Bulbs) (n : Int) : Bool := decide (k = L.length ∧ L.length + (glassesL a.1 a.2).length * (1 + (glassesL b n).length) ≤ 1000000)
end K
noncomputable def BKBl52 : Tab := BKBl51.addNode 27 73 (rangeE [27, 9, 3, 2, 7] S_co DecX.no (fun s => .chk (K.coOk s.2.2.2.2.1 s.2.2.2.2.2.1 s.1 s.2.1 s.2.2.1) (.ret (.inl (s.1, s.2.1, s.2.2.1, s.2.2.2.1, (K.coApp s.2.2.2.2.2.1 s.1 s.2.1 s.2.2.1 s.2.2.2.1).length, K.coApp s.2.2.2.2.2.1 s.1 s.2.1 s.2.2.1 s.2.2.2.1, ())))))
theorem tKBl52 : TabOk P BKBl52 := TabOk.addRange (d := 30) (enc := eTold) (L := (fun s => glassesL s.1.1 s.1.2)) okP tKBl51 (by kernel_rfl) (by kernel_rfl) (fun s r h => ⟨_, _, _, (by kernel_rfl : _ = some (134, [], V_gls.enc s.1)), icl_gls s.1.2 s.1.1⟩) (fun s r h => by obtain ⟨gg, e⟩ := chk_ret h; subst e; obtain ⟨a, b, n, hh, c, L, _⟩ := s; obtain ⟨e1, e2⟩ := of_decide_eq_true gg; simp only at e1 e2; subst e1; exact K.fold_co a b n hh _ L e2)
def D_cmpP := DecL.cons (dAgg (.cons (dI .i64) (.last (dI .i64) 0))) (.last (dAgg (.cons (dI .i64) (.last (dI .i64) 0))) 0)
def K.cmpP (x y : Int × Int) : Int := if x.1 < y.1 then -1 else if x.1 > y.1 then 1 else if x.2 < y.2 then -1 else if x.2 > y.2 then 1 else 0
theorem fn_cmpP : ∀ a, (callT1 P BKBl52 30 76 D_cmpP (dI .i64)) a = T.run (
  .br (Prod.fst (Prod.fst a) != Prod.fst (Prod.fst a)) (
    .br (Prod.fst (Prod.snd a) != Prod.fst (Prod.snd a)) (
      .br (Prod.snd (Prod.fst a) != Prod.snd (Prod.fst a)) (
        .br (Prod.snd (Prod.snd a) != Prod.snd (Prod.snd a)) (
          .ret ((0 : Int))) (
          .ret ((-1 : Int)))) (
        .br (Prod.snd (Prod.snd a) != Prod.snd (Prod.snd a)) (
          .ret ((1 : Int))) (
          .br (decide (Prod.snd (Prod.fst a) < Prod.snd (Prod.snd a))) (
            .ret ((-1 : Int))) (
            .br (decide (Prod.snd (Prod.fst a) > Prod.snd (Prod.snd a))) (
              .ret ((1 : Int))) (
              .ret ((0 : Int))))))) (
      .ret ((-1 : Int)))) (
    .br (Prod.fst (Prod.snd a) != Prod.fst (Prod.snd a)) (
      .ret ((1 : Int))) (
      .br (decide (Prod.fst (Prod.fst a) < Prod.fst (Prod.snd a))) (
        .ret ((-1 : Int))) (
        .br (decide (Prod.fst (Prod.fst a) > Prod.fst (Prod.snd a))) (
          .ret ((1 : Int))) (
          .br (Prod.snd (Prod.fst a) != Prod.snd (Prod.fst a)) (
            .br (Prod.snd (Prod.snd a) != Prod.snd (Prod.snd a)) (
              .ret ((0 : Int))) (
              .ret ((-1 : Int)))) (
            .br (Prod.snd (Prod.snd a) != Prod.snd (Prod.snd a)) (
              .ret ((1 : Int))) (
              .br (decide (Prod.snd (Prod.fst a) < Prod.snd (Prod.snd a))) (
                .ret ((-1 : Int))) (
                .br (decide (Prod.snd (Prod.fst a) > Prod.snd (Prod.snd a))) (
                  .ret ((1 : Int))) (
                  .ret ((0 : Int))))))))))) := fun a => by kernel_rfl
namespace K
theorem cmpP_eq (x y : Int × Int) : callT1 P BKBl52 30 76 D_cmpP (dI .i64) (x, y) = some (cmpP x y) := by
  have hn : ∀ n : Int, (n != n) = false := fun n => by simp
  rw [fn_cmpP]
  unfold cmpP
  simp only [T.run_br, T.run_ret, hn, Bool.false_eq_true, if_false, decide_eq_true_eq]
  split
  · rfl
  split
  · rfl
  split
  · rfl
  split <;> rfl
theorem cmpP_pc (x y : Int × Int) : PC P 76 [.agg (rowV rPair x), .agg (rowV rPair y)] (.int .i64 (cmpP x y)) := call_of okP tKBl52 (cmpP_eq x y)
theorem ltP (x y : Int × Int) : Go.Proofs.ltOf cmpP x y = decide (x.1 < y.1 ∨ x.1 = y.1 ∧ x.2 < y.2) := by
  unfold Go.Proofs.ltOf cmpP
  apply Bool.eq_iff_iff.2
  rw [decide_eq_true_eq, decide_eq_true_eq]
  split
  · omega
  split
  · omega
  split
  · omega
  split <;> omega
theorem swoP : Go.Sort.SWO (Go.Proofs.ltOf cmpP) where
  irrefl x := by rw [ltP]; simp
  trans x y z h1 h2 := by rw [ltP] at *; simp only [decide_eq_true_eq] at *; omega
  ntrans x y z h1 h2 := by rw [ltP] at *; simp only [decide_eq_false_iff_not] at *; omega
def sortP (l : List (Int × Int)) : List (Int × Int) := sortF cmpP l
theorem sortP_cc : ∀ (args : List AV) (t : T AV) (v : AV), sortFE rPair 76 sortP args = some t → t.run = some v → CC P 75 args v :=
  sortFE_cc fun n G h1 h2 => mc_sortF (R := rPair) Tryz.sortF75 (by kernel_rfl) (by decide) Tryz.isAgg75 Tryz.sizeOf75 swoP (enters_of Tryz.func76 (by kernel_rfl) rfl) cmpP_pc h1 h2
end K
noncomputable def BKBl5s : Tab := BKBl52.addTurn 75 (sortFE rPair 76 K.sortP)
theorem tKBl5s : TabOk P BKBl5s := TabOk.addTurn tKBl52 K.sortP_cc
def R_pairs := dTup (.cons (dRows rPair) (.last (dI .i64) 0))
theorem fn_cla : ∀ a, (callT1 P BKBl5s 30 27 D_off R_pairs) a = T.run (
  .br (CheckBulbs (Prod.fst a) != (0 : Int)) (
    .ret (([], CheckBulbs (Prod.fst a)))) (
    .br (!Prod.snd (hydro a)) (
      .ret (([], (5 : Int)))) (
      .chk (coOk (0 : Nat) (decF rPair (0 : Nat) fun x x_1 => AV.top) a (Prod.fst a) (Prod.snd a)) <|
      .chk (decide (List.length (coApp (decF rPair (0 : Nat) fun x x_1 => AV.top) a (Prod.fst a) (Prod.snd a) (Prod.fst (hydro a))) < (4611686018427387904 : Nat))) <|
      .ret ((decF rPair (List.length (coApp (decF rPair (0 : Nat) fun x x_1 => AV.top) a (Prod.fst a) (Prod.snd a) (Prod.fst (hydro a)))) fun i => encF rPair (sortP (decF rPair (List.length (coApp (decF rPair (0 : Nat) fun x x_1 => AV.top) a (Prod.fst a) (Prod.snd a) (Prod.fst (hydro a)))) (encF rPair (coApp (decF rPair (0 : Nat) fun x x_1 => AV.top) a (Prod.fst a) (Prod.snd a) (Prod.fst (hydro a)))))) ((0 : Nat) + i), (0 : Int)))))) := fun a => by kernel_rfl
end Go.Proofs.YtjbhooodjmjdkaaGreat
/-! KBl6 -/
namespace Go.Proofs.YtjbhooodjmjdkaaGreat
open Ev K
set_option maxRecDepth 100000
namespace K
noncomputable def claL (a : Bulbs × Int) : List (Int × Int) := (glassesL a.1 a.2).flatMap (co1 a.1 a.2 (hydro a).1)
noncomputable def cla (a : Bulbs × Int) : List (Int × Int) × Int := if (CheckBulbs a.1 != 0) = true then ([], CheckBulbs a.1) else if (!(hydro a).2) = true then ([], 5) else (sortP (claL a), 0)
theorem claL_le (a : Bulbs × Int) : ∀ (l : List GlassE), (l.flatMap (co1 a.1 a.2 (hydro a).1)).length ≤ l.length * (1 + (glassesL a.1 a.2).length)
  | [] => by simp
  | x :: l => by
    have := claL_le a l
    have h1 := co1_le a.1 a.2 (hydro a).1 x
    rw [List.flatMap_cons, List.length_append, List.length_cons, Nat.add_mul, Nat.one_mul]; omega
theorem cla_eq (a : Bulbs × Int) : callT1 P BKBl5s 30 27 D_off R_pairs a = some (cla a) := by
  rw [fn_cla]; unfold cla
  refine br_step (fun _ => rfl) (fun h => br_step (fun _ => rfl) (fun _ => ?_))
  have hf := (bulbs_few (b := a.1) (by simpa using h)).2
  have h1 := glassesL_length a.1 a.2
  have h2 : (claL a).length ≤ _ := claL_le a (glassesL a.1 a.2)
  have h3 : (glassesL a.1 a.2).length * (1 + (glassesL a.1 a.2).length) ≤ 40 * 41 := Nat.mul_le_mul (by omega) (by omega)
  have e0 : decF rPair 0 (fun _ _ => AV.top) = ([] : List (Int × Int)) := rfl
  have e : coApp (decF rPair 0 fun _ _ => AV.top) a a.1 a.2 (hydro a).1 = claL a := by rw [e0]; exact List.nil_append _
  rw [e]
  refine chk_step ?_ (chk_step (decide_eq_true (by omega)) ?_)
  · unfold coOk
    rw [e0]
    exact decide_eq_true ⟨rfl, by simp only [List.length_nil]; omega⟩
  · rw [T.run_ret, decF_encF]
    have := decF_enc0 rPair (sortP (claL a))
    rw [show (sortP (claL a)).length = (claL a).length from sortF_length swoP _] at this
    rw [this]
end K
noncomputable def BKBl61 : Tab := BKBl5s.addCall 27 (callE D_off R_pairs (fun a => .ret (K.cla a)))
theorem tKBl61 : TabOk P BKBl61 := TabOk.addPC tKBl5s (fun a r h => by rw [← ret_some h]; exact call_of okP tKBl5s (K.cla_eq a))
def S_cr1 := DecS.ghost 9 75 2 [.int .i64, .int .i64] (DecS.mk0 (.skips 2 (.unit (dLp 0 0 0 0) (.skips 4 (.cons (dI .i64) (.cons (dRows rInt) (.cons (dO 1) (.last (dI .i64) 99))))))) (.flat 31 lBulbs (.rows 75 rPair .nil)))
def X_cr1 := DecX.one (.exit 0) [2, 8, 9] (DecS.mk0 (.skips 2 (.unit (dLp 0 0 0 0) (.skips 5 (.cons (dRows rInt) (.last (dO 1) 100))))) (.flat 31 lBulbs (.rows 75 rPair .nil)))
noncomputable def K.st_cr1 := loopT1 P BKBl61 30 28 81 [10, 8, 9, 2, 7] S_cr1 X_cr1
theorem sl_cr1 : ∀ s, (K.st_cr1) s = T.run (
  .br (decide (Prod.snd (Prod.snd (Prod.snd (Prod.fst s))) < (↑(clampL (List.length (Prod.fst (Prod.snd (Prod.fst s))))) : Int))) (
    .chk (decide ((0 : Int) ≤ Prod.fst (Prod.fst s) ∧ Prod.fst (Prod.fst s) < (↑(XS.len (Bulbs.hydros (Prod.fst (Prod.snd s)))) : Int))) <|
    .chk (decide ((0 : Int) ≤ Prod.snd (Prod.snd (Prod.snd (Prod.fst s))) ∧ Prod.snd (Prod.snd (Prod.snd (Prod.fst s))) < (↑(List.length (Prod.fst (Prod.snd (Prod.fst s)))) : Int))) <|
    .chk (decide ((0 : Int) ≤ i_rglass (Prod.fst (Prod.snd s)) (numOf (encF rInt (Prod.fst (Prod.snd (Prod.fst s))) ((0 : Nat) + Int.toNat (Prod.snd (Prod.snd (Prod.snd (Prod.fst s))))) (0 : Nat))) ∧ i_rglass (Prod.fst (Prod.snd s)) (numOf (encF rInt (Prod.fst (Prod.snd (Prod.fst s))) ((0 : Nat) + Int.toNat (Prod.snd (Prod.snd (Prod.snd (Prod.fst s))))) (0 : Nat))) < (↑(XS.len (Bulbs.glasses (Prod.fst (Prod.snd s)))) : Int))) <|
    .br (r_none (r_both (Span.mk (XS.g (Bulbs.hydros (Prod.fst (Prod.snd s))) (Int.toNat (Prod.fst (Prod.fst s))) (1 : Nat)) (XS.g (Bulbs.hydros (Prod.fst (Prod.snd s))) (Int.toNat (Prod.fst (Prod.fst s))) (2 : Nat)), r_all (gls (Bulbs.glasses (Prod.fst (Prod.snd s))) (Int.toNat (i_rglass (Prod.fst (Prod.snd s)) (numOf (encF rInt (Prod.fst (Prod.snd (Prod.fst s))) ((0 : Nat) + Int.toNat (Prod.snd (Prod.snd (Prod.snd (Prod.fst s))))) (0 : Nat))))))))) (
      .chk (decide ((0 : Int) ≤ Prod.snd (Prod.snd (Prod.snd (Prod.fst s))) ∧ Prod.snd (Prod.snd (Prod.snd (Prod.fst s))) < (↑(List.length (Prod.fst (Prod.snd (Prod.fst s)))) : Int))) <|
      .chk (decide ((List.length (Prod.fst (Prod.snd (Prod.snd s))) + (1 : Nat)) * (16 : Nat) ≤ (140737488355328 : Nat) ∧ List.length (Prod.fst (Prod.snd (Prod.snd s))) + (1 : Nat) ≤ nat_lit 9223372036854775807)) <|
      .ret (Sum.inl ((Prod.fst (Prod.fst s), decF rInt (List.length (Prod.fst (Prod.snd (Prod.fst s)))) fun i => encF rInt (Prod.fst (Prod.snd (Prod.fst s))) ((0 : Nat) + i), List.length (Prod.fst (Prod.snd (Prod.snd s))) + (1 : Nat), IntKind.wrap IntKind.i64 (Prod.snd (Prod.snd (Prod.snd (Prod.fst s))) + (1 : Int))), Prod.fst (Prod.snd s), decF rPair (List.length (Prod.fst (Prod.snd (Prod.snd s))) + (1 : Nat)) (appG (List.length (Prod.fst (Prod.snd (Prod.snd s)))) (encF rPair (Prod.fst (Prod.snd (Prod.snd s)))) fun i k => Option.getD [AV.int IntKind.i64 (0 : Int), AV.int IntKind.i64 (numOf (encF rInt (Prod.fst (Prod.snd (Prod.fst s))) ((0 : Nat) + Int.toNat (Prod.snd (Prod.snd (Prod.snd (Prod.fst s))))) (0 : Nat)))][((0 : Nat) + i) * (2 : Nat) + k]? AV.top), PUnit.unit))) (
      .ret (Sum.inl ((Prod.fst (Prod.fst s), decF rInt (List.length (Prod.fst (Prod.snd (Prod.fst s)))) fun i => encF rInt (Prod.fst (Prod.snd (Prod.fst s))) ((0 : Nat) + i), Prod.fst (Prod.snd (Prod.snd (Prod.fst s))), IntKind.wrap IntKind.i64 (Prod.snd (Prod.snd (Prod.snd (Prod.fst s))) + (1 : Int))), Prod.fst (Prod.snd s), decF rPair (List.length (Prod.fst (Prod.snd (Prod.snd s)))) (encF rPair (Prod.fst (Prod.snd (Prod.snd s)))), PUnit.unit)))) (
    .ret (Sum.inr ((decF rInt (List.length (Prod.fst (Prod.snd (Prod.fst s)))) fun i => encF rInt (Prod.fst (Prod.snd (Prod.fst s))) ((0 : Nat) + i), Prod.fst (Prod.snd (Prod.snd (Prod.fst s)))), Prod.fst (Prod.snd s), decF rPair (List.length (Prod.fst (Prod.snd (Prod.snd s)))) (encF rPair (Prod.fst (Prod.snd (Prod.snd s)))), PUnit.unit)))) := fun s => by kernel_rfl
namespace K
/-- What a glass of the list allows. -/
noncomputable def al (b : Bulbs) (x : Int) : Span := r_all (gls b.glasses (i_rglass b x).toNat)
noncomputable def r1 (b : Bulbs) (h : Nat) (x : Int) : List (Int × Int) := if r_none (r_both ((hyd b.hydros h).off, al b x)) = true then [(0, x)] else []
noncomputable def r3 (b : Bulbs) (x y : Int) : List (Int × Int) := if r_none (r_both (al b x, al b y)) = true then [(x, y)] else []
/-- All numbers of a list name glasses. -/
def gOk (b : Bulbs) (l : List Int) : Prop := ∀ i, i < l.length → 0 ≤ i_rglass b (atI l i) ∧ i_rglass b (atI l i) < (b.glasses.len : Int)
theorem take_flat_succ {β : Type} {l : List Int} {f : Int → List β} {i : Nat} (h : i < l.length) : (l.take (i + 1)).flatMap f = (l.take i).flatMap f ++ f (atI l i) := by
  rw [List.take_add_one, List.getElem?_eq_getElem h, List.flatMap_append, atI_get h]
  simp
theorem r1_le (b : Bulbs) (h : Nat) (x : Int) : (r1 b h x).length ≤ 1 := by unfold r1; split <;> simp
theorem r3_le (b : Bulbs) (x y : Int) : (r3 b x y).length ≤ 1 := by unfold r3; split <;> simp
theorem pushP (L : List (Int × Int)) (x : Int × Int) (g : Nat → Nat → AV) (hg : rPair.rd (g 0) = x) : decF rPair (L.length + 1) (appG L.length (encF rPair L) g) = L ++ [x] := by rw [decF_push, hg]
theorem st_cr1_eq (b : Bulbs) (h : Nat) (l : List Int) (L : List (Int × Int)) (i : Nat) (hh : h < len b.hydros) (hi : i < l.length) (hl : l.length ≤ 1000000) (hL : L.length ≤ 2000000) (hg : gOk b l) :
    st_cr1 (((h : Int), l, L.length, (i : Int)), b, L, ()) = some (.inl (((h : Int), l, (L ++ r1 b h (atI l i)).length, ((i + 1 : Nat) : Int)), b, L ++ r1 b h (atI l i), ())) := by
  have hc : clampL l.length = l.length := clampL_eq (by unfold maxL; omega)
  have e1 := K.len_le b.hydros; have e2 := K.len_le' b.hydros
  obtain ⟨g1, g2⟩ := hg i hi
  rw [sl_cr1]
  have ha : numOf (encF rInt l i 0) = atI l i := rfl
  have e0 : (decF rInt l.length fun i => encF rInt l i) = l := decF_encF rInt l
  simp only [T.run_br, T.run_chk, T.run_ret, decide_eq_true_eq, Int.toNat_natCast, hc, Nat.zero_add, ha, e0]
  rw [if_pos (by omega), if_pos (by omega), if_pos (by omega), if_pos ⟨g1, g2⟩, w64_in (n := (i : Int) + 1) (by omega) (by omega)]
  have hq : r_none (r_both (⟨b.hydros.g h 1, b.hydros.g h 2⟩, r_all (gls b.glasses (i_rglass b (atI l i)).toNat))) = r_none (r_both ((hyd b.hydros h).off, al b (atI l i))) := rfl
  rw [hq]
  unfold r1
  by_cases hp : r_none (r_both ((hyd b.hydros h).off, al b (atI l i))) = true
  · rw [if_pos hp, if_pos hp, if_pos (by omega), if_pos (by omega), pushP L (0, atI l i) _ rfl]
    simp only [List.length_append]; rfl
  · rw [if_neg hp, if_neg hp, decF_encF, List.append_nil]; rfl
noncomputable def L_cr1 := lim st_cr1
theorem L_cr1_eq (b : Bulbs) (h : Nat) (l : List Int) (hh : h < len b.hydros) (hl : l.length ≤ 1000000) (hg : gOk b l) : L_cr1 (((h : Int), l, 0, 0), b, [], ()) = some ((l, (l.flatMap (r1 b h)).length), b, l.flatMap (r1 b h), ()) := by
  have hc : clampL l.length = l.length := clampL_eq (by unfold maxL; omega)
  have hle : ∀ i, ((l.take i).flatMap (r1 b h)).length ≤ i := fun i => Nat.le_trans (flatMap_le (r1_le b h) _) (by simp; omega)
  have := lim_all (step := st_cr1) (fun i => (((h : Int), l, ((l.take i).flatMap (r1 b h)).length, (i : Int)), b, (l.take i).flatMap (r1 b h), ())) l.length (r := ((l, (l.flatMap (r1 b h)).length), b, l.flatMap (r1 b h), ())) (fun i hi => ?_) ?_
  · unfold L_cr1; simpa using this
  · rw [st_cr1_eq b h l _ i hh hi hl (by have := hle i; omega) hg, take_flat_succ hi]
  · rw [sl_cr1]
    have e0 : (decF rInt l.length fun i => encF rInt l i) = l := decF_encF rInt l
    simp only [T.run_br, T.run_ret, decide_eq_true_eq, hc, Nat.zero_add, e0]
    rw [if_neg (by omega), decF_encF, List.take_of_length_le (Nat.le_refl _)]
end K
noncomputable def BKBl62 : Tab := BKBl61.addNode 28 81 (nodeE [10, 8, 9, 2, 7] S_cr1 X_cr1 (fun s => .obs (K.L_cr1 s) .ret))
theorem tKBl62 : TabOk P BKBl62 := TabOk.addLoop (d := 30) okP tKBl61 (by kernel_rfl) (by kernel_rfl) (fun s r h => obs_ret h)
def S_cr3 := DecS.mk0 (.skips 2 (.unit (dLp 0 0 0 0) (.skips 5 (.cons (dRows rInt) (.cons (dO 1) (.skip (.cons (dI .i64) (.last (dI .i64) 97)))))))) (.flat 31 lBulbs (.rows 75 rPair .nil))
def X_cr3 := DecX.one (.exit 4) [2, 8, 9, 11] (DecS.mk0 (.skips 2 (.unit (dLp 0 0 0 0) (.skips 5 (.cons (dRows rInt) (.cons (dO 1) (.skip (.last (dI .i64) 98))))))) (.flat 31 lBulbs (.rows 75 rPair .nil)))
noncomputable def K.st_cr3 := loopT1 P BKBl62 30 28 145 [12, 8, 11, 9, 2] S_cr3 X_cr3
theorem sl_cr3 : ∀ s, (K.st_cr3) s = T.run (
  .br (decide (Prod.snd (Prod.snd (Prod.snd (Prod.fst s))) < (↑(clampL (List.length (Prod.fst (Prod.fst s)))) : Int))) (
    .chk (decide ((0 : Int) ≤ Prod.fst (Prod.snd (Prod.snd (Prod.fst s))) ∧ Prod.fst (Prod.snd (Prod.snd (Prod.fst s))) < (↑(List.length (Prod.fst (Prod.fst s))) : Int))) <|
    .chk (decide ((0 : Int) ≤ i_rglass (Prod.fst (Prod.snd s)) (numOf (encF rInt (Prod.fst (Prod.fst s)) ((0 : Nat) + Int.toNat (Prod.fst (Prod.snd (Prod.snd (Prod.fst s))))) (0 : Nat))) ∧ i_rglass (Prod.fst (Prod.snd s)) (numOf (encF rInt (Prod.fst (Prod.fst s)) ((0 : Nat) + Int.toNat (Prod.fst (Prod.snd (Prod.snd (Prod.fst s))))) (0 : Nat))) < (↑(XS.len (Bulbs.glasses (Prod.fst (Prod.snd s)))) : Int))) <|
    .chk (decide ((0 : Int) ≤ Prod.snd (Prod.snd (Prod.snd (Prod.fst s))) ∧ Prod.snd (Prod.snd (Prod.snd (Prod.fst s))) < (↑(List.length (Prod.fst (Prod.fst s))) : Int))) <|
    .chk (decide ((0 : Int) ≤ i_rglass (Prod.fst (Prod.snd s)) (numOf (encF rInt (Prod.fst (Prod.fst s)) ((0 : Nat) + Int.toNat (Prod.snd (Prod.snd (Prod.snd (Prod.fst s))))) (0 : Nat))) ∧ i_rglass (Prod.fst (Prod.snd s)) (numOf (encF rInt (Prod.fst (Prod.fst s)) ((0 : Nat) + Int.toNat (Prod.snd (Prod.snd (Prod.snd (Prod.fst s))))) (0 : Nat))) < (↑(XS.len (Bulbs.glasses (Prod.fst (Prod.snd s)))) : Int))) <|
    .br (r_none (r_both (r_all (gls (Bulbs.glasses (Prod.fst (Prod.snd s))) (Int.toNat (i_rglass (Prod.fst (Prod.snd s)) (numOf (encF rInt (Prod.fst (Prod.fst s)) ((0 : Nat) + Int.toNat (Prod.fst (Prod.snd (Prod.snd (Prod.fst s))))) (0 : Nat)))))), r_all (gls (Bulbs.glasses (Prod.fst (Prod.snd s))) (Int.toNat (i_rglass (Prod.fst (Prod.snd s)) (numOf (encF rInt (Prod.fst (Prod.fst s)) ((0 : Nat) + Int.toNat (Prod.snd (Prod.snd (Prod.snd (Prod.fst s))))) (0 : Nat))))))))) (
      .chk (decide ((0 : Int) ≤ Prod.fst (Prod.snd (Prod.snd (Prod.fst s))) ∧ Prod.fst (Prod.snd (Prod.snd (Prod.fst s))) < (↑(List.length (Prod.fst (Prod.fst s))) : Int))) <|
      .chk (decide ((0 : Int) ≤ Prod.snd (Prod.snd (Prod.snd (Prod.fst s))) ∧ Prod.snd (Prod.snd (Prod.snd (Prod.fst s))) < (↑(List.length (Prod.fst (Prod.fst s))) : Int))) <|
      .chk (decide ((List.length (Prod.fst (Prod.snd (Prod.snd s))) + (1 : Nat)) * (16 : Nat) ≤ (140737488355328 : Nat) ∧ List.length (Prod.fst (Prod.snd (Prod.snd s))) + (1 : Nat) ≤ nat_lit 9223372036854775807)) <|
      .ret (Sum.inl ((decF rInt (List.length (Prod.fst (Prod.fst s))) fun i => encF rInt (Prod.fst (Prod.fst s)) ((0 : Nat) + i), List.length (Prod.fst (Prod.snd (Prod.snd s))) + (1 : Nat), Prod.fst (Prod.snd (Prod.snd (Prod.fst s))), IntKind.wrap IntKind.i64 (Prod.snd (Prod.snd (Prod.snd (Prod.fst s))) + (1 : Int))), Prod.fst (Prod.snd s), decF rPair (List.length (Prod.fst (Prod.snd (Prod.snd s))) + (1 : Nat)) (appG (List.length (Prod.fst (Prod.snd (Prod.snd s)))) (encF rPair (Prod.fst (Prod.snd (Prod.snd s)))) fun i k => Option.getD [AV.int IntKind.i64 (numOf (encF rInt (Prod.fst (Prod.fst s)) ((0 : Nat) + Int.toNat (Prod.fst (Prod.snd (Prod.snd (Prod.fst s))))) (0 : Nat))), AV.int IntKind.i64 (numOf (encF rInt (Prod.fst (Prod.fst s)) ((0 : Nat) + Int.toNat (Prod.snd (Prod.snd (Prod.snd (Prod.fst s))))) (0 : Nat)))][((0 : Nat) + i) * (2 : Nat) + k]? AV.top), PUnit.unit))) (
      .ret (Sum.inl ((decF rInt (List.length (Prod.fst (Prod.fst s))) fun i => encF rInt (Prod.fst (Prod.fst s)) ((0 : Nat) + i), Prod.fst (Prod.snd (Prod.fst s)), Prod.fst (Prod.snd (Prod.snd (Prod.fst s))), IntKind.wrap IntKind.i64 (Prod.snd (Prod.snd (Prod.snd (Prod.fst s))) + (1 : Int))), Prod.fst (Prod.snd s), decF rPair (List.length (Prod.fst (Prod.snd (Prod.snd s)))) (encF rPair (Prod.fst (Prod.snd (Prod.snd s)))), PUnit.unit)))) (
    .ret (Sum.inr ((decF rInt (List.length (Prod.fst (Prod.fst s))) fun i => encF rInt (Prod.fst (Prod.fst s)) ((0 : Nat) + i), Prod.fst (Prod.snd (Prod.fst s)), Prod.fst (Prod.snd (Prod.snd (Prod.fst s)))), Prod.fst (Prod.snd s), decF rPair (List.length (Prod.fst (Prod.snd (Prod.snd s)))) (encF rPair (Prod.fst (Prod.snd (Prod.snd s)))), PUnit.unit)))) := fun s => by kernel_rfl
namespace K
theorem st_cr3_eq (b : Bulbs) (l : List Int) (L : List (Int × Int)) (i k : Nat) (hi : i < l.length) (hk : k < l.length) (hl : l.length ≤ 1000000) (hL : L.length ≤ 2000000000) (hg : gOk b l) :
    st_cr3 ((l, L.length, (i : Int), (k : Int)), b, L, ()) = some (.inl ((l, (L ++ r3 b (atI l i) (atI l k)).length, (i : Int), ((k + 1 : Nat) : Int)), b, L ++ r3 b (atI l i) (atI l k), ())) := by
  have hc : clampL l.length = l.length := clampL_eq (by unfold maxL; omega)
  obtain ⟨g1, g2⟩ := hg i hi
  obtain ⟨g3, g4⟩ := hg k hk
  rw [sl_cr3]
  have ha : ∀ i, numOf (encF rInt l i 0) = atI l i := fun _ => rfl
  have e0 : (decF rInt l.length fun i => encF rInt l i) = l := decF_encF rInt l
  simp only [T.run_br, T.run_chk, T.run_ret, decide_eq_true_eq, Int.toNat_natCast, hc, Nat.zero_add, ha, e0]
  rw [if_pos (by omega), if_pos (by omega), if_pos ⟨g1, g2⟩, if_pos (by omega), if_pos ⟨g3, g4⟩, w64_in (n := (k : Int) + 1) (by omega) (by omega)]
  have hq : r_none (r_both (r_all (gls b.glasses (i_rglass b (atI l i)).toNat), r_all (gls b.glasses (i_rglass b (atI l k)).toNat))) = r_none (r_both (al b (atI l i), al b (atI l k))) := rfl
  rw [hq]
  unfold r3
  by_cases hp : r_none (r_both (al b (atI l i), al b (atI l k))) = true
  · rw [if_pos hp, if_pos hp, if_pos (by omega), if_pos (by omega), if_pos (by omega), pushP L (atI l i, atI l k) _ rfl]
    simp only [List.length_append]; rfl
  · rw [if_neg hp, if_neg hp, decF_encF, List.append_nil]; rfl
noncomputable def L_cr3 := lim st_cr3
/-- What a glass contradicts of those behind it. -/
noncomputable def r2 (b : Bulbs) (l : List Int) (i : Nat) : List (Int × Int) := (l.drop (i + 1)).flatMap (r3 b (atI l i))
theorem r2_le (b : Bulbs) (l : List Int) (i : Nat) : (r2 b l i).length ≤ l.length := Nat.le_trans (flatMap_le (r3_le b _) _) (by simp)
theorem atI_drop (l : List Int) (m j : Nat) (h : m + j < l.length) : atI (l.drop m) j = atI l (m + j) := by
  rw [atI_get h, atI_get (by simp; omega)]; simp
theorem L_cr3_eq (b : Bulbs) (l : List Int) (L : List (Int × Int)) (i : Nat) (hi : i < l.length) (hl : l.length ≤ 1000000) (hL : L.length ≤ 1000000000) (hg : gOk b l) :
    L_cr3 ((l, L.length, (i : Int), ((i + 1 : Nat) : Int)), b, L, ()) = some ((l, (L ++ r2 b l i).length, (i : Int)), b, L ++ r2 b l i, ()) := by
  have hc : clampL l.length = l.length := clampL_eq (by unfold maxL; omega)
  have hle : ∀ j, (((l.drop (i + 1)).take j).flatMap (r3 b (atI l i))).length ≤ j := fun j => Nat.le_trans (flatMap_le (r3_le b _) _) (by simp; omega)
  have := lim_all (step := st_cr3) (fun j => ((l, (L ++ ((l.drop (i + 1)).take j).flatMap (r3 b (atI l i))).length, (i : Int), ((i + 1 + j : Nat) : Int)), b, L ++ ((l.drop (i + 1)).take j).flatMap (r3 b (atI l i)), ())) (l.length - (i + 1)) (r := ((l, (L ++ r2 b l i).length, (i : Int)), b, L ++ r2 b l i, ())) (fun j hj => ?_) ?_
  · unfold L_cr3; simpa using this
  · have hj2 := hle j
    rw [st_cr3_eq b l _ i (i + 1 + j) hi (by omega) hl (by rw [List.length_append]; omega) hg, take_flat_succ (by simp; omega), atI_drop l (i + 1) j (by omega), List.append_assoc]; rfl
  · rw [sl_cr3]
    have e0 : (decF rInt l.length fun i => encF rInt l i) = l := decF_encF rInt l
    simp only [T.run_br, T.run_ret, decide_eq_true_eq, hc, Nat.zero_add, e0]
    rw [if_neg (by omega), decF_encF, List.take_of_length_le (by simp)]; rfl
end K
noncomputable def BKBl63 : Tab := BKBl62.addNode 28 145 (nodeE [12, 8, 11, 9, 2] S_cr3 X_cr3 (fun s => .obs (K.L_cr3 s) .ret))
theorem tKBl63 : TabOk P BKBl63 := TabOk.addLoop (d := 30) okP tKBl62 (by kernel_rfl) (by kernel_rfl) (fun s r h => obs_ret h)
def S_cr2 := DecS.mk0 (.skips 2 (.unit (dLp 0 0 0 0) (.skips 5 (.cons (dRows rInt) (.cons (dO 1) (.skip (.last (dI .i64) 98))))))) (.flat 31 lBulbs (.rows 75 rPair .nil))
def X_cr2 := DecX.one (.exit 2) [9] (DecS.mk0 (.skips 9 (.last (dO 0) 100)) (.rows 75 rPair .nil))
noncomputable def K.st_cr2 := loopT1 P BKBl63 30 28 121 [8, 11, 9, 2] S_cr2 X_cr2
theorem sl_cr2 : ∀ s, (K.st_cr2) s = T.run (
  .br (decide (Prod.snd (Prod.snd (Prod.fst s)) < (↑(clampL (List.length (Prod.fst (Prod.fst s)))) : Int))) (
    .obs (L_cr3 ((decF rInt (List.length (Prod.fst (Prod.fst s))) fun i => encF rInt (Prod.fst (Prod.fst s)) ((0 : Nat) + i), Prod.fst (Prod.snd (Prod.fst s)), Prod.snd (Prod.snd (Prod.fst s)), IntKind.wrap IntKind.i64 (Prod.snd (Prod.snd (Prod.fst s)) + (1 : Int))), Prod.fst (Prod.snd s), decF rPair (List.length (Prod.fst (Prod.snd (Prod.snd s)))) (encF rPair (Prod.fst (Prod.snd (Prod.snd s)))), PUnit.unit)) fun x0 =>
      .ret (Sum.inl ((decF rInt (List.length (Prod.fst (Prod.fst x0))) fun i => encF rInt (Prod.fst (Prod.fst x0)) ((0 : Nat) + i), Prod.fst (Prod.snd (Prod.fst x0)), IntKind.wrap IntKind.i64 (Prod.snd (Prod.snd (Prod.fst x0)) + (1 : Int))), Prod.fst (Prod.snd x0), decF rPair (List.length (Prod.fst (Prod.snd (Prod.snd x0)))) (encF rPair (Prod.fst (Prod.snd (Prod.snd x0)))), PUnit.unit))) (
    .ret (Sum.inr (Prod.fst (Prod.snd (Prod.fst s)), decF rPair (List.length (Prod.fst (Prod.snd (Prod.snd s)))) (encF rPair (Prod.fst (Prod.snd (Prod.snd s)))), PUnit.unit)))) := fun s => by kernel_rfl
namespace K
noncomputable def L_cr2 := lim st_cr2
theorem r2_sum (b : Bulbs) (l : List Int) : ∀ i, ((List.range i).flatMap (r2 b l)).length ≤ i * l.length
  | 0 => by simp
  | i + 1 => by
    have := r2_sum b l i; have h := r2_le b l i
    rw [List.range_succ, List.flatMap_append, List.length_append, Nat.add_mul, Nat.one_mul]
    simp only [List.flatMap_cons, List.flatMap_nil, List.append_nil]; omega
theorem L_cr2_eq (b : Bulbs) (l : List Int) (L : List (Int × Int)) (hl : l.length ≤ 10000) (hL : L.length ≤ 10000) (hg : gOk b l) :
    L_cr2 ((l, L.length, 0), b, L, ()) = some ((L ++ (List.range l.length).flatMap (r2 b l)).length, L ++ (List.range l.length).flatMap (r2 b l), ()) := by
  have hc : clampL l.length = l.length := clampL_eq (by unfold maxL; omega)
  have := lim_all (step := st_cr2) (fun i => ((l, (L ++ (List.range i).flatMap (r2 b l)).length, (i : Int)), b, L ++ (List.range i).flatMap (r2 b l), ())) l.length (r := ((L ++ (List.range l.length).flatMap (r2 b l)).length, L ++ (List.range l.length).flatMap (r2 b l), ())) (fun i hi => ?_) ?_
  · unfold L_cr2; simpa using this
  · have h1 := r2_sum b l i
    have h2 : i * l.length ≤ 10000 * 10000 := Nat.mul_le_mul (by omega) hl
    rw [sl_cr2]
    have e0 : (decF rInt l.length fun i => encF rInt l i) = l := decF_encF rInt l
    simp only [T.run_br, decide_eq_true_eq, hc, Nat.zero_add, e0, decF_encF]
    rw [if_pos (by omega), w64_in (n := (i : Int) + 1) (by omega) (by omega), show (i : Int) + 1 = ((i + 1 : Nat) : Int) from rfl, L_cr3_eq b l _ i hi (by omega) (by rw [List.length_append]; omega) hg, T.run_some, T.run_ret]
    simp only [e0, decF_encF]
    rw [w64_in (n := (i : Int) + 1) (by omega) (by omega), List.range_succ, List.flatMap_append, List.append_assoc]
    simp only [List.flatMap_cons, List.flatMap_nil, List.append_nil]; rfl
  · rw [sl_cr2]
    simp only [T.run_br, T.run_ret, decide_eq_true_eq, hc, decF_encF]
    rw [if_neg (by omega)]
end K
noncomputable def BKBl64 : Tab := BKBl63.addNode 28 121 (nodeE [8, 11, 9, 2] S_cr2 X_cr2 (fun s => .obs (K.L_cr2 s) .ret))
theorem tKBl64 : TabOk P BKBl64 := TabOk.addLoop (d := 30) okP tKBl63 (by kernel_rfl) (by kernel_rfl) (fun s r h => obs_ret h)
theorem fn_rcl : ∀ a, (callT1 P BKBl64 30 28 D_off R_pairs) a = T.run (
  .br (r_bulbs (Prod.fst a) != (0 : Int)) (
    .ret (([], r_bulbs (Prod.fst a)))) (
    .br (decide (i_rhydro (Prod.fst a) (Prod.snd a) < (0 : Int))) (
      .ret (([], (5 : Int)))) (
      .chk (decide (len (Bulbs.glasses (Prod.fst a)) ≤ (1000000 : Nat))) <|
      .obs (L_cr1 ((i_rhydro (Prod.fst a) (Prod.snd a), decF rInt (List.length (r_mine a)) fun i => encF rInt (r_mine a) ((0 : Nat) + i), (0 : Nat), (0 : Int)), Prod.fst a, decF rPair (0 : Nat) fun x x_1 => AV.top, PUnit.unit)) fun x0 =>
        .obs (L_cr2 ((decF rInt (List.length (Prod.fst (Prod.fst x0))) fun i => encF rInt (Prod.fst (Prod.fst x0)) ((0 : Nat) + i), Prod.snd (Prod.fst x0), (0 : Int)), Prod.fst (Prod.snd x0), decF rPair (List.length (Prod.fst (Prod.snd (Prod.snd x0)))) (encF rPair (Prod.fst (Prod.snd (Prod.snd x0)))), PUnit.unit)) fun x1 =>
          .ret ((decF rPair (List.length (Prod.fst (Prod.snd x1))) fun i => encF rPair (Prod.fst (Prod.snd x1)) ((0 : Nat) + i), (0 : Int)))))) := fun a => by kernel_rfl
end Go.Proofs.YtjbhooodjmjdkaaGreat
/-! KBl7 -/
namespace Go.Proofs.YtjbhooodjmjdkaaGreat
open Ev K
set_option maxRecDepth 100000
namespace K
theorem insS_perm (L : List Int) (x : Int) : (insS L x).Perm (x :: L) := by
  unfold insS
  rw [List.append_assoc]
  exact List.perm_middle.trans (List.Perm.cons x (by show (L.take _ ++ L.drop _).Perm L; rw [List.take_append_drop]))
theorem risR_perm (l : List Int) : ∀ i, i ≤ l.length → (risR l i).Perm (l.take i)
  | 0, _ => by rw [List.take_zero]; exact .refl _
  | i + 1, h => by
    rw [risR_succ, List.take_add_one, List.getElem?_eq_getElem (by omega), atI_get (by omega)]
    refine (insS_perm _ _).trans ?_
    simp only [Option.toList_some]
    exact (List.Perm.cons _ (risR_perm l i (by omega))).trans (List.perm_append_singleton _ _).symm
theorem risL_perm (l : List Int) : (risL l).Perm l := by
  have := risR_perm l l.length (Nat.le_refl _)
  rw [List.take_of_length_le (Nat.le_refl _)] at this
  exact this
theorem insP_spec (L : List Int) (x : Int) : (∀ j, insP L x L.length ≤ j → j < L.length → x < atI L j) ∧ (0 < insP L x L.length → atI L (insP L x L.length - 1) ≤ x) := by
  unfold insP
  cases hf : first (fun j => !decide (atI L (L.length - j - 1) > x)) L.length with
  | none =>
    refine ⟨fun j _ hj => ?_, fun h => absurd h (Nat.lt_irrefl 0)⟩
    have := first_none' hf (L.length - j - 1) (by omega)
    rw [show L.length - (L.length - j - 1) - 1 = j by omega] at this
    simpa using this
  | some k =>
    obtain ⟨h1, h2, h3⟩ := first_spec hf
    refine ⟨fun j hj hlt => ?_, fun _ => ?_⟩
    · simp only at hj
      have := h3 (L.length - j - 1) (by omega)
      rw [show L.length - (L.length - j - 1) - 1 = j by omega] at this
      simpa using this
    · simpa using h2
theorem insS_sorted {L : List Int} (x : Int) (h : L.Pairwise (· ≤ ·)) : (insS L x).Pairwise (· ≤ ·) := by
  obtain ⟨h1, h2⟩ := insP_spec L x
  have hp := insP_le L x L.length
  unfold insS
  generalize insP L x L.length = p at *
  rw [List.append_assoc, List.pairwise_append]
  have hx : ∀ a ∈ L.take p, a ≤ x := by
    intro a ha
    obtain ⟨i, hi, e⟩ := List.mem_iff_getElem.1 ha
    simp only [List.length_take] at hi
    rw [List.getElem_take] at e
    have h0 := h2 (by omega)
    rw [atI_get (by omega)] at h0
    by_cases e2 : i = p - 1
    · subst e2; omega
    · have := (List.pairwise_iff_getElem.1 h) i (p - 1) (by omega) (by omega) (by omega)
      omega
  have hy : ∀ a ∈ L.drop p, x ≤ a := by
    intro a ha
    obtain ⟨i, hi, e⟩ := List.mem_iff_getElem.1 ha
    simp only [List.length_drop] at hi
    rw [List.getElem_drop] at e
    have := h1 (p + i) (by omega) (by omega)
    rw [atI_get (by omega)] at this; omega
  refine ⟨h.sublist (List.take_sublist _ _), ?_, fun a ha b hb => ?_⟩
  · rw [List.singleton_append, List.pairwise_cons]
    exact ⟨hy, h.sublist (List.drop_sublist _ _)⟩
  · rw [List.singleton_append] at hb
    rcases List.mem_cons.1 hb with rfl | hb
    · exact hx a ha
    · exact Int.le_trans (hx a ha) (hy b hb)
theorem risL_sorted (l : List Int) : (risL l).Pairwise (· ≤ ·) := by
  have : ∀ i, (risR l i).Pairwise (· ≤ ·) := fun i => by
    induction i with
    | zero => exact .nil
    | succ i ih => rw [risR_succ]; exact insS_sorted _ ih
  exact this _
theorem sortL_perm (l : List Int) : (sortL l).Perm l := List.mergeSort_perm l _
theorem sortL_sorted (l : List Int) : (sortL l).Pairwise (· ≤ ·) := by
  have := List.pairwise_mergeSort (le := fun x y : Int => decide (x ≤ y)) (fun a b c h1 h2 => by simp at *; omega) (fun a b => by simp; omega) l
  exact this.imp (fun h => by simpa using h)
theorem sorted_eq {l l' : List Int} (h : l.Pairwise (· ≤ ·)) (h' : l'.Pairwise (· ≤ ·)) (hp : l.Perm l') : l = l' := List.Perm.eq_of_pairwise (fun a b _ _ h1 h2 => Int.le_antisymm h1 h2) h h' hp
theorem risL_eq (l : List Int) : risL l = sortL l := sorted_eq (risL_sorted l) (sortL_sorted l) ((risL_perm l).trans (sortL_perm l).symm)
/-- Each number of the list names a glass. -/
theorem mine_mem {b : Bulbs} {n x : Int} (h : x ∈ mineU b n) : ∃ k, k < len b.glasses ∧ (gls b.glasses k).hydro = n ∧ (gls b.glasses k).id = x := by
  unfold mineU mineR at h
  obtain ⟨k, hk, e⟩ := List.mem_map.1 h
  obtain ⟨h1, h2⟩ := List.mem_filter.1 hk
  exact ⟨k, List.mem_range.1 h1, by simpa using h2, e⟩
theorem i_rglass_at {b : Bulbs} {k : Nat} (hk : k < len b.glasses) : 0 ≤ i_rglass b (gls b.glasses k).id ∧ i_rglass b (gls b.glasses k).id ≤ (k : Int) := by
  have e : i_rglass b (gls b.glasses k).id = idx (p_rglass b (gls b.glasses k).id) (len b.glasses) := rfl
  rw [e]; unfold idx
  cases hf : first (p_rglass b (gls b.glasses k).id) (len b.glasses) with
  | none =>
    have := first_none' hf k hk
    have h2 : p_rglass b (gls b.glasses k).id k = ((gls b.glasses k).id == (gls b.glasses k).id) := rfl
    rw [h2] at this; simp at this
  | some i =>
    obtain ⟨h1, h2, h3⟩ := first_spec hf
    have : i ≤ k := by
      apply Nat.le_of_not_lt
      intro h
      have := h3 k h
      have h2 : p_rglass b (gls b.glasses k).id k = ((gls b.glasses k).id == (gls b.glasses k).id) := rfl
      rw [h2] at this; simp at this
    simp only
    omega
theorem mine_gOk (a : Bulbs × Int) : gOk a.1 (r_mine a) := by
  intro i hi
  have hm : atI (r_mine a) i ∈ mineU a.1 a.2 := by rw [atI_get hi]; exact (risL_perm _).mem_iff.1 (List.getElem_mem hi)
  obtain ⟨k, hk, _, e⟩ := mine_mem hm
  have h2 := i_rglass_at hk
  have := K.len_le' a.1.glasses
  rw [e] at h2; omega
noncomputable def rclL (a : Bulbs × Int) (i : Nat) : List (Int × Int) := (r_mine a).flatMap (r1 a.1 i) ++ (List.range (r_mine a).length).flatMap (r2 a.1 (r_mine a))
noncomputable def r_cla (a : Bulbs × Int) : List (Int × Int) × Int := if (r_bulbs a.1 != 0) = true then ([], r_bulbs a.1) else match first (p_rhydro a.1 a.2) (len a.1.hydros) with
  | none => ([], 5)
  | some i => (rclL a i, 0)
theorem r_mine_le (a : Bulbs × Int) : (r_mine a).length ≤ len a.1.glasses := by unfold r_mine; rw [risR_le]; exact mineR_le _ _ _
theorem r_cla_eq (a : Bulbs × Int) (h : len a.1.glasses ≤ 10000) : callT1 P BKBl64 30 28 D_off R_pairs a = some (r_cla a) := by
  rw [fn_rcl]; unfold r_cla
  refine br_step (fun _ => rfl) (fun _ => ?_)
  have hi : i_rhydro a.1 a.2 = idx (p_rhydro a.1 a.2) (len a.1.hydros) := rfl
  have hm := r_mine_le a
  have e0 : (decF rInt (r_mine a).length fun i => encF rInt (r_mine a) (0 + i)) = r_mine a := decF_enc0 _ _
  have ez : (decF rPair 0 fun x x_1 => AV.top) = ([] : List (Int × Int)) := rfl
  rw [e0, ez]
  cases hf : first (p_rhydro a.1 a.2) (len a.1.hydros) with
  | none =>
    rw [hi]; unfold idx; rw [hf]; rfl
  | some i =>
    have hlt := (first_spec hf).1
    rw [hi]; unfold idx; rw [hf]
    simp only
    rw [T.run_br, if_neg (by simp)]
    refine chk_step (by simp; omega) ?_
    have h1 : ((r_mine a).flatMap (r1 a.1 i)).length ≤ (r_mine a).length := flatMap_le (r1_le _ _) _
    rw [L_cr1_eq a.1 i (r_mine a) hlt (by omega) (mine_gOk a), T.run_some]
    simp only [e0, decF_encF]
    rw [L_cr2_eq a.1 (r_mine a) _ (by omega) (by omega) (mine_gOk a), T.run_some, T.run_ret]
    simp only
    rw [decF_enc0]; rfl
end K
noncomputable def BKBl71 : Tab := BKBl64.addCall 28 (callE D_off R_pairs (fun a => .chk (decide (len a.1.glasses ≤ 10000)) (.ret (K.r_cla a))))
theorem tKBl71 : TabOk P BKBl71 := TabOk.addFn (d := 30) okP tKBl64 (fun a r h => by obtain ⟨g, e⟩ := chk_ret h; subst e; exact K.r_cla_eq a (by simpa using g))
def S_ints := DecS.mk1 (.cons (dRows rInt) (.cons (dRows rInt) (.skips 3 (.last (dI .i64) 20))))
def X_ints := DecX.or (DecX.one .ret [4] (DecS.mk1 (.skips 4 (.last dB 21)))) (DecX.one (.exit 0) [] (DecS.mk1 (.tops 26)))
noncomputable def K.st_ints := loopT1 P BKBl71 30 21 33 [5, 1, 0] S_ints X_ints
theorem sl_ints : ∀ s, (K.st_ints) s = T.run (
  .br (decide (Prod.snd (Prod.snd s) < (↑(clampL (List.length (Prod.fst s))) : Int))) (
    .chk (decide ((0 : Int) ≤ Prod.snd (Prod.snd s) ∧ Prod.snd (Prod.snd s) < (↑(List.length (Prod.fst s)) : Int))) <|
    .chk (decide ((0 : Int) ≤ Prod.snd (Prod.snd s) ∧ Prod.snd (Prod.snd s) < (↑(List.length (Prod.fst (Prod.snd s))) : Int))) <|
    .br (numOf (encF rInt (Prod.fst s) ((0 : Nat) + Int.toNat (Prod.snd (Prod.snd s))) (0 : Nat)) != numOf (encF rInt (Prod.fst (Prod.snd s)) ((0 : Nat) + Int.toNat (Prod.snd (Prod.snd s))) (0 : Nat))) (
      .ret (Sum.inr (Sum.inl false))) (
      .ret (Sum.inl (decF rInt (List.length (Prod.fst s)) fun i => encF rInt (Prod.fst s) ((0 : Nat) + i), decF rInt (List.length (Prod.fst (Prod.snd s))) fun i => encF rInt (Prod.fst (Prod.snd s)) ((0 : Nat) + i), IntKind.wrap IntKind.i64 (Prod.snd (Prod.snd s) + (1 : Int)))))) (
    .ret (Sum.inr (Sum.inr PUnit.unit)))) := fun s => by kernel_rfl
namespace K
noncomputable def L_ints := lim st_ints
theorem L_ints_eq (l m : List Int) (hl : l.length ≤ 1000000) (hm : l.length = m.length) : L_ints (l, m, 0) = some (match first (fun i => atI l i != atI m i) l.length with | some _ => .inl false | none => .inr ()) := by
  have hc : clampL l.length = l.length := clampL_eq (by unfold maxL; omega)
  have e0 : (decF rInt l.length fun i => encF rInt l i) = l := decF_encF rInt l
  have e1 : (decF rInt m.length fun i => encF rInt m i) = m := decF_encF rInt m
  have ha : ∀ l i, numOf (encF rInt l i 0) = atI l i := fun _ _ => rfl
  have := lim_find (step := st_ints) (fun i : Nat => (l, m, (i : Int))) l.length (fun i => atI l i != atI m i) (fun _ => .inl false) (.inr ()) (fun i hi hp => ?_) (fun i hi hp => ?_) ?_
  · show lim st_ints (l, m, ((0 : Nat) : Int)) = _
    rw [this]
    cases first (fun i => atI l i != atI m i) l.length <;> rfl
  · rw [sl_ints]
    simp only [T.run_br, T.run_chk, T.run_ret, decide_eq_true_eq, Int.toNat_natCast, hc, Nat.zero_add, e0, e1, ha]
    rw [if_pos (by omega), if_pos (by omega), if_pos (by omega), if_pos hp]
  · rw [sl_ints]
    simp only [T.run_br, T.run_chk, T.run_ret, decide_eq_true_eq, Int.toNat_natCast, hc, Nat.zero_add, e0, e1, ha]
    rw [if_pos (by omega), if_pos (by omega), if_pos (by omega), if_neg (by rw [hp]; decide), w64_in (n := (i : Int) + 1) (by omega) (by omega)]; rfl
  · rw [sl_ints]
    simp only [T.run_br, T.run_ret, decide_eq_true_eq, hc]
    rw [if_neg (by omega)]
end K
noncomputable def BKBl72 : Tab := BKBl71.addNode 21 33 (nodeE [5, 1, 0] S_ints X_ints (fun s => .obs (K.L_ints s) .ret))
theorem tKBl72 : TabOk P BKBl72 := TabOk.addLoop (d := 30) okP tKBl71 (by kernel_rfl) (by kernel_rfl) (fun s r h => obs_ret h)
def D_ints := DecL.cons (dRows rInt) (.last (dRows rInt) 0)
theorem fn_ints : ∀ a, (callT1 P BKBl72 30 21 D_ints dB) a = T.run (
  .br ((↑(clampL (List.length (Prod.fst a))) : Int) != (↑(clampL (List.length (Prod.snd a))) : Int)) (
    .ret (false)) (
    .obs (L_ints (decF rInt (List.length (Prod.fst a)) fun i => encF rInt (Prod.fst a) ((0 : Nat) + i), decF rInt (List.length (Prod.snd a)) fun i => encF rInt (Prod.snd a) ((0 : Nat) + i), (0 : Int))) fun x0 =>
      .sum (x0) (fun x1 =>
        .ret (x1)) (fun x1 =>
        .ret (true)))) := fun a => by kernel_rfl
namespace K
theorem chk_more {ρ : Type} {g : Bool} {t : T ρ} {r : ρ} (h : (T.chk g t).run = some r) : g = true ∧ t.run = some r := by
  rw [T.run_chk] at h
  split at h
  · exact ⟨by assumption, h⟩
  · cases h
def sameL (a : List Int × List Int) : Bool := decide (a.1 = a.2)
theorem ints_eq (a : List Int × List Int) (h1 : a.1.length ≤ 1000000) (h2 : a.2.length ≤ 1000000) : callT1 P BKBl72 30 21 D_ints dB a = some (sameL a) := by
  obtain ⟨l, m⟩ := a
  simp only at h1 h2
  rw [fn_ints]
  have hc : clampL l.length = l.length := clampL_eq (by unfold maxL; omega)
  have hc2 : clampL m.length = m.length := clampL_eq (by unfold maxL; omega)
  simp only [hc, hc2, decF_enc0]
  unfold sameL
  by_cases hlen : l.length = m.length
  · rw [T.run_br, if_neg (by simp [hlen]), L_ints_eq l m h1 hlen, T.run_some]
    cases hf : first (fun i => atI l i != atI m i) l.length with
    | some i =>
      obtain ⟨g1, g2, _⟩ := first_spec hf
      show T.run (.ret false) = _
      rw [T.run_ret, decide_eq_false (show ¬ l = m from fun e => by subst e; simp at g2)]
    | none =>
      show T.run (.ret true) = _
      rw [T.run_ret]
      have : l = m := by
        apply List.ext_getElem hlen
        intro i hi hi2
        have := first_none' hf i hi
        rw [atI_get hi, atI_get hi2] at this
        simpa using this
      rw [decide_eq_true this]
  · rw [T.run_br, if_pos (by simp; omega), T.run_ret, decide_eq_false (fun e => hlen (by simp only at e; rw [e]))]
end K
noncomputable def BKBl73 : Tab := BKBl72.addCall 21 (callE D_ints dB (fun a => .chk (decide (a.1.length ≤ 1000000)) (.chk (decide (a.2.length ≤ 1000000)) (.ret (K.sameL a)))))
theorem tKBl73 : TabOk P BKBl73 := TabOk.addFn (d := 30) okP tKBl72 (fun a r h => by obtain ⟨g1, h⟩ := K.chk_more h; obtain ⟨g2, e⟩ := chk_ret h; subst e; exact K.ints_eq a (by simpa using g1) (by simpa using g2))
end Go.Proofs.YtjbhooodjmjdkaaGreat
/-! KN5 -/
namespace Go.Proofs.YtjbhooodjmjdkaaGreat
open Ev K
set_option maxRecDepth 100000
def S_rsix := DecS.mk0 (.skip (.unit (dLp 0 0 0 0) (.unit (dLp 1 0 0 0) (.unit (dLp 2 0 0 0) (.unit (dLp 3 0 0 0) (.unit (dLp 4 0 0 0) (.last (dI .i64) 56))))))) (.flat 85 lSurvey (.flat 39 lSpan (.flat 39 lSpan (.flat 39 lSpan (.flat 39 lSpan .nil)))))
def X_rsix := DecX.one (.exit 0) [6, 5, 1, 2, 4, 3] S_rsix
noncomputable def K.st_rsix := loopT1 P BKN43 30 206 41 [6, 5, 1, 2, 4, 3] S_rsix X_rsix
theorem sl_rsix : ∀ s, (K.st_rsix) s = T.run (
  .br (decide (Prod.fst s ≤ IntKind.wrap IntKind.i64 (Span.hi (Prod.fst (Prod.snd (Prod.snd (Prod.snd s)))) + Span.hi (Prod.fst (Prod.snd (Prod.snd (Prod.snd (Prod.snd s)))))))) (
    .br (r_none (r_middle (Prod.fst (Prod.snd s), Prod.fst s))) (
      .ret (Sum.inl (IntKind.wrap IntKind.i64 (Prod.fst s + (1 : Int)), Prod.fst (Prod.snd s), Prod.fst (Prod.snd (Prod.snd s)), Prod.fst (Prod.snd (Prod.snd (Prod.snd s))), Prod.fst (Prod.snd (Prod.snd (Prod.snd (Prod.snd s)))), Prod.fst (Prod.snd (Prod.snd (Prod.snd (Prod.snd (Prod.snd s))))), PUnit.unit))) (
      .br (r_none (Prod.fst (Prod.snd (Prod.snd (Prod.snd (Prod.snd (Prod.snd s))))))) (
        .ret (Sum.inl (IntKind.wrap IntKind.i64 (Prod.fst s + (1 : Int)), Prod.fst (Prod.snd s), Prod.fst (Prod.snd (Prod.snd s)), Prod.fst (Prod.snd (Prod.snd (Prod.snd s))), Prod.fst (Prod.snd (Prod.snd (Prod.snd (Prod.snd s)))), Span.mk (if IntKind.wrap IntKind.i64 (Prod.fst s + IntKind.wrap IntKind.i64 ((6 : Int) * Span.lo (r_middle (Prod.fst (Prod.snd s), Prod.fst s)))) < IntKind.wrap IntKind.i64 (Prod.fst s + IntKind.wrap IntKind.i64 ((6 : Int) * Span.lo (r_middle (Prod.fst (Prod.snd s), Prod.fst s)))) then IntKind.wrap IntKind.i64 (Prod.fst s + IntKind.wrap IntKind.i64 ((6 : Int) * Span.lo (r_middle (Prod.fst (Prod.snd s), Prod.fst s)))) else IntKind.wrap IntKind.i64 (Prod.fst s + IntKind.wrap IntKind.i64 ((6 : Int) * Span.lo (r_middle (Prod.fst (Prod.snd s), Prod.fst s))))) (if IntKind.wrap IntKind.i64 (Prod.fst s + IntKind.wrap IntKind.i64 ((6 : Int) * Span.hi (r_middle (Prod.fst (Prod.snd s), Prod.fst s)))) > IntKind.wrap IntKind.i64 (Prod.fst s + IntKind.wrap IntKind.i64 ((6 : Int) * Span.hi (r_middle (Prod.fst (Prod.snd s), Prod.fst s)))) then IntKind.wrap IntKind.i64 (Prod.fst s + IntKind.wrap IntKind.i64 ((6 : Int) * Span.hi (r_middle (Prod.fst (Prod.snd s), Prod.fst s)))) else IntKind.wrap IntKind.i64 (Prod.fst s + IntKind.wrap IntKind.i64 ((6 : Int) * Span.hi (r_middle (Prod.fst (Prod.snd s), Prod.fst s))))), PUnit.unit))) (
        .ret (Sum.inl (IntKind.wrap IntKind.i64 (Prod.fst s + (1 : Int)), Prod.fst (Prod.snd s), Prod.fst (Prod.snd (Prod.snd s)), Prod.fst (Prod.snd (Prod.snd (Prod.snd s))), Prod.fst (Prod.snd (Prod.snd (Prod.snd (Prod.snd s)))), Span.mk (if IntKind.wrap IntKind.i64 (Prod.fst s + IntKind.wrap IntKind.i64 ((6 : Int) * Span.lo (r_middle (Prod.fst (Prod.snd s), Prod.fst s)))) < Span.lo (Prod.fst (Prod.snd (Prod.snd (Prod.snd (Prod.snd (Prod.snd s)))))) then IntKind.wrap IntKind.i64 (Prod.fst s + IntKind.wrap IntKind.i64 ((6 : Int) * Span.lo (r_middle (Prod.fst (Prod.snd s), Prod.fst s)))) else Span.lo (Prod.fst (Prod.snd (Prod.snd (Prod.snd (Prod.snd (Prod.snd s))))))) (if IntKind.wrap IntKind.i64 (Prod.fst s + IntKind.wrap IntKind.i64 ((6 : Int) * Span.hi (r_middle (Prod.fst (Prod.snd s), Prod.fst s)))) > Span.hi (Prod.fst (Prod.snd (Prod.snd (Prod.snd (Prod.snd (Prod.snd s)))))) then IntKind.wrap IntKind.i64 (Prod.fst s + IntKind.wrap IntKind.i64 ((6 : Int) * Span.hi (r_middle (Prod.fst (Prod.snd s), Prod.fst s)))) else Span.hi (Prod.fst (Prod.snd (Prod.snd (Prod.snd (Prod.snd (Prod.snd s))))))), PUnit.unit))))) (
    .ret (Sum.inr (Prod.fst s, Prod.fst (Prod.snd s), Prod.fst (Prod.snd (Prod.snd s)), Prod.fst (Prod.snd (Prod.snd (Prod.snd s))), Prod.fst (Prod.snd (Prod.snd (Prod.snd (Prod.snd s)))), Prod.fst (Prod.snd (Prod.snd (Prod.snd (Prod.snd (Prod.snd s))))), PUnit.unit)))) := fun s => by kernel_rfl
noncomputable def K.L_rsix := lim K.st_rsix
/-- A span widened to two numbers. -/
def K.grow (o : Span) (a b : Int) : Span := ⟨if a < o.lo then a else o.lo, if b > o.hi then b else o.hi⟩
noncomputable def K.lowAt (x : Survey) (s : Int) : Int := IntKind.i64.wrap (s + IntKind.i64.wrap (6 * (r_middle (x, s)).lo))
noncomputable def K.highAt (x : Survey) (s : Int) : Int := IntKind.i64.wrap (s + IntKind.i64.wrap (6 * (r_middle (x, s)).hi))
noncomputable def K.F_rsix (x : Survey) (s : Int) (o : Span) : Span := if r_none (r_middle (x, s)) = true then o else if r_none o = true then grow ⟨lowAt x s, highAt x s⟩ (lowAt x s) (highAt x s) else grow o (lowAt x s) (highAt x s)
theorem K.L_rsix_eq (x : Survey) (r f a o : Span) (lo hi : Int) (h1 : IntKind.i64.wrap (f.hi + a.hi) = hi) (b1 : -4611686018427387904 ≤ lo) (b2 : hi ≤ 4611686018427387904) :
    K.L_rsix (lo, x, r, f, a, o, ()) = some (lo + ((hi - lo + 1).toNat : Int), x, r, f, a, (List.range (hi - lo + 1).toNat).foldl (fun o (i : Nat) => F_rsix x (lo + (i : Int)) o) o, ()) := by
  have key := lim_fold (step := K.st_rsix) (fun (i : Nat) (o : Span) => (lo + (i : Int), x, r, f, a, o, ())) (hi - lo + 1).toNat (fun o (i : Nat) => F_rsix x (lo + (i : Int)) o) (fun o => (lo + ((hi - lo + 1).toNat : Int), x, r, f, a, o, ())) (fun i hi' o => ?_) (fun o => ?_) o
  · have e0 : lo + ((0 : Nat) : Int) = lo := by omega
    simp only [e0] at key
    exact key
  · rw [sl_rsix]
    simp only [h1]
    rw [w64_in (n := lo + (i : Int) + 1) (by omega) (by omega), show lo + (i : Int) + 1 = lo + ((i + 1 : Nat) : Int) by omega]
    rw [show (F_rsix x (lo + (i : Int)) o) = (if r_none (r_middle (x, lo + (i : Int))) = true then o else if r_none o = true then grow ⟨lowAt x (lo + (i : Int)), highAt x (lo + (i : Int))⟩ (lowAt x (lo + (i : Int))) (highAt x (lo + (i : Int))) else grow o (lowAt x (lo + (i : Int))) (highAt x (lo + (i : Int)))) from rfl]
    have c : decide (lo + (i : Int) ≤ hi) = true := by simp; omega
    cases h2 : r_none (r_middle (x, lo + (i : Int))) with
    | true => simp only [T.run_br, T.run_ret, c, h2, if_true]
    | false =>
      cases h3 : r_none o with
      | true => simp only [T.run_br, T.run_ret, c, h2, h3, if_true, if_false, Bool.false_eq_true]; rfl
      | false => simp only [T.run_br, T.run_ret, c, h2, h3, if_true, if_false, Bool.false_eq_true]; rfl
  · rw [sl_rsix]
    simp only [T.run_br, T.run_ret, decide_eq_true_eq, h1]
    rw [if_neg (by omega)]
noncomputable def BKN51 : Tab := BKN43.addNode 206 41 (nodeE [6, 5, 1, 2, 4, 3] S_rsix X_rsix (fun s => .obs (K.L_rsix s) .ret))
theorem tKN51 : TabOk P BKN51 := TabOk.addLoop (d := 30) okP tKN43 (by kernel_rfl) (by kernel_rfl) (fun s r h => obs_ret h)
theorem fn_rsix : ∀ a, (callT1 P BKN51 30 206 D_rsix dSpan) a = T.run (
  .obs (L_rsix (IntKind.wrap IntKind.i64 (IntKind.wrap IntKind.i64 (Span.lo (Survey.m0 a) + Span.lo (Survey.m1 a)) + IntKind.wrap IntKind.i64 (Span.lo (Survey.m4 a) + Span.lo (Survey.m5 a))), a, Span.mk (0 : Int) (0 : Int), Span.mk (IntKind.wrap IntKind.i64 (Span.lo (Survey.m0 a) + Span.lo (Survey.m1 a))) (IntKind.wrap IntKind.i64 (Span.hi (Survey.m0 a) + Span.hi (Survey.m1 a))), Span.mk (IntKind.wrap IntKind.i64 (Span.lo (Survey.m4 a) + Span.lo (Survey.m5 a))) (IntKind.wrap IntKind.i64 (Span.hi (Survey.m4 a) + Span.hi (Survey.m5 a))), Span.mk (1 : Int) (0 : Int), PUnit.unit)) fun x0 =>
    .ret (Prod.fst (Prod.snd (Prod.snd (Prod.snd (Prod.snd (Prod.snd x0))))))) := fun a => by kernel_rfl
noncomputable def K.sixLo (x : Survey) : Int := IntKind.i64.wrap (IntKind.i64.wrap (x.m0.lo + x.m1.lo) + IntKind.i64.wrap (x.m4.lo + x.m5.lo))
noncomputable def K.sixHi (x : Survey) : Int := IntKind.i64.wrap (IntKind.i64.wrap (x.m0.hi + x.m1.hi) + IntKind.i64.wrap (x.m4.hi + x.m5.hi))
noncomputable def K.sixOk (x : Survey) : Bool := decide (-4611686018427387904 ≤ sixLo x) && decide (sixHi x ≤ 4611686018427387904)
noncomputable def K.r_six (x : Survey) : Span := (List.range (sixHi x - sixLo x + 1).toNat).foldl (fun o (i : Nat) => F_rsix x (sixLo x + (i : Int)) o) ⟨1, 0⟩
theorem K.r_six_eq (x : Survey) (h : sixOk x = true) : callT1 P BKN51 30 206 D_rsix dSpan x = some (r_six x) := by
  unfold sixOk at h
  rw [Bool.and_eq_true, decide_eq_true_eq, decide_eq_true_eq] at h
  rw [fn_rsix]
  show T.run (.obs (L_rsix (sixLo x, x, ⟨0, 0⟩, ⟨_, IntKind.i64.wrap (x.m0.hi + x.m1.hi)⟩, ⟨_, IntKind.i64.wrap (x.m4.hi + x.m5.hi)⟩, ⟨1, 0⟩, ())) _) = _
  rw [L_rsix_eq x _ _ _ _ (sixLo x) (sixHi x) rfl h.1 h.2]; rfl
noncomputable def BKN52 : Tab := BKN51.addCall 206 (callE D_rsix dSpan (fun x => .chk (sixOk x) (.ret (r_six x))))
theorem tKN52 : TabOk P BKN52 := TabOk.addFn (d := 30) okP tKN51 (fun a r h => by obtain ⟨g, e⟩ := chk_ret h; subst e; exact K.r_six_eq a g)
end Go.Proofs.YtjbhooodjmjdkaaGreat
/-! KN6 -/
namespace Go.Proofs.YtjbhooodjmjdkaaGreat
open Ev K
set_option maxRecDepth 100000
theorem fn_rchk : ∀ a, (callT1 P BKN52 30 168 D_rdens (dI .i64)) a = T.run (
  .br (r_bulbs (Prod.fst a) != (0 : Int)) (
    .ret (r_bulbs (Prod.fst a))) (
    .br (!r_id (Survey.id (Prod.snd a))) (
      .ret ((1 : Int))) (
      .br (decide (Survey.tick (Prod.snd a) < (0 : Int))) (
        .ret ((1 : Int))) (
        .br (decide (Survey.tick (Prod.snd a) > (1048576 : Int))) (
          .ret ((1 : Int))) (
          .br (decide (Survey.sag (Prod.snd a) < (0 : Int))) (
            .ret ((1 : Int))) (
            .br (decide (Survey.sag (Prod.snd a) > (200 : Int))) (
              .ret ((1 : Int))) (
              .br (!r_span (Survey.shown (Prod.snd a), (0 : Int), (2000 : Int))) (
                .ret ((1 : Int))) (
                .br (!r_span (Survey.m0 (Prod.snd a), (0 : Int), (65536 : Int))) (
                  .ret ((1 : Int))) (
                  .br (decide (IntKind.wrap IntKind.i64 (Span.hi (Survey.m0 (Prod.snd a)) - Span.lo (Survey.m0 (Prod.snd a))) ≥ (400 : Int))) (
                    .ret ((1 : Int))) (
                    .br (!r_span (Survey.m1 (Prod.snd a), (0 : Int), (65536 : Int))) (
                      .ret ((1 : Int))) (
                      .br (decide (IntKind.wrap IntKind.i64 (Span.hi (Survey.m1 (Prod.snd a)) - Span.lo (Survey.m1 (Prod.snd a))) ≥ (400 : Int))) (
                        .ret ((1 : Int))) (
                        .br (!r_span (Survey.m2 (Prod.snd a), (0 : Int), (65536 : Int))) (
                          .ret ((1 : Int))) (
                          .br (decide (IntKind.wrap IntKind.i64 (Span.hi (Survey.m2 (Prod.snd a)) - Span.lo (Survey.m2 (Prod.snd a))) ≥ (400 : Int))) (
                            .ret ((1 : Int))) (
                            .br (!r_span (Survey.m3 (Prod.snd a), (0 : Int), (65536 : Int))) (
                              .ret ((1 : Int))) (
                              .br (decide (IntKind.wrap IntKind.i64 (Span.hi (Survey.m3 (Prod.snd a)) - Span.lo (Survey.m3 (Prod.snd a))) ≥ (400 : Int))) (
                                .ret ((1 : Int))) (
                                .br (!r_span (Survey.m4 (Prod.snd a), (0 : Int), (65536 : Int))) (
                                  .ret ((1 : Int))) (
                                  .br (decide (IntKind.wrap IntKind.i64 (Span.hi (Survey.m4 (Prod.snd a)) - Span.lo (Survey.m4 (Prod.snd a))) ≥ (400 : Int))) (
                                    .ret ((1 : Int))) (
                                    .br (!r_span (Survey.m5 (Prod.snd a), (0 : Int), (65536 : Int))) (
                                      .ret ((1 : Int))) (
                                      .br (decide (IntKind.wrap IntKind.i64 (Span.hi (Survey.m5 (Prod.snd a)) - Span.lo (Survey.m5 (Prod.snd a))) ≥ (400 : Int))) (
                                        .ret ((1 : Int))) (
                                        .br (Prod.snd (r_Off (Prod.fst a, Survey.hydro (Prod.snd a))) != (0 : Int)) (
                                          .ret (Prod.snd (r_Off (Prod.fst a, Survey.hydro (Prod.snd a))))) (
                                          .br (r_none (r_density a)) (
                                            .ret ((9 : Int))) (
                                            .chk (sixOk (Prod.snd a)) <|
                                            .br (r_none (r_six (Prod.snd a))) (
                                              .ret ((9 : Int))) (
                                              .ret ((0 : Int))))))))))))))))))))))))) := fun a => by kernel_rfl
theorem K.r_span_iff {s : Span} {lo hi : Int} : r_span (s, lo, hi) = true ↔ lo ≤ s.lo ∧ s.lo ≤ s.hi ∧ s.hi ≤ hi := by
  unfold r_span; simp
theorem K.not_not {c : Bool} (h : ¬ (!c) = true) : c = true := by cases c with
  | true => rfl
  | false => exact absurd rfl h
noncomputable def K.r_check (b : Bulbs) (x : Survey) : Int :=
  if (r_bulbs b != 0) = true then r_bulbs b else
  if (!r_id x.id) = true then 1 else
  if decide (x.tick < 0) = true then 1 else
  if decide (x.tick > 1048576) = true then 1 else
  if decide (x.sag < 0) = true then 1 else
  if decide (x.sag > 200) = true then 1 else
  if (!r_span (x.shown, 0, 2000)) = true then 1 else
  if (!r_span (x.m0, 0, 65536)) = true then 1 else
  if decide (IntKind.i64.wrap (x.m0.hi - x.m0.lo) ≥ 400) = true then 1 else
  if (!r_span (x.m1, 0, 65536)) = true then 1 else
  if decide (IntKind.i64.wrap (x.m1.hi - x.m1.lo) ≥ 400) = true then 1 else
  if (!r_span (x.m2, 0, 65536)) = true then 1 else
  if decide (IntKind.i64.wrap (x.m2.hi - x.m2.lo) ≥ 400) = true then 1 else
  if (!r_span (x.m3, 0, 65536)) = true then 1 else
  if decide (IntKind.i64.wrap (x.m3.hi - x.m3.lo) ≥ 400) = true then 1 else
  if (!r_span (x.m4, 0, 65536)) = true then 1 else
  if decide (IntKind.i64.wrap (x.m4.hi - x.m4.lo) ≥ 400) = true then 1 else
  if (!r_span (x.m5, 0, 65536)) = true then 1 else
  if decide (IntKind.i64.wrap (x.m5.hi - x.m5.lo) ≥ 400) = true then 1 else
  if ((r_Off (b, x.hydro)).2 != 0) = true then (r_Off (b, x.hydro)).2 else
  if r_none (r_density (b, x)) = true then 9 else
  if r_none (r_six x) = true then 9 else
  0
theorem K.r_check_eq (a : Bulbs × Survey) : callT1 P BKN52 30 168 D_rdens (dI .i64) a = some (r_check a.1 a.2) := by
  rw [fn_rchk]; unfold r_check
  refine br_step (fun _ => rfl) (fun k0 => ?_)
  refine br_step (fun _ => rfl) (fun k1 => ?_)
  refine br_step (fun _ => rfl) (fun k2 => ?_)
  refine br_step (fun _ => rfl) (fun k3 => ?_)
  refine br_step (fun _ => rfl) (fun k4 => ?_)
  refine br_step (fun _ => rfl) (fun k5 => ?_)
  refine br_step (fun _ => rfl) (fun k6 => ?_)
  refine br_step (fun _ => rfl) (fun k7 => ?_)
  refine br_step (fun _ => rfl) (fun k8 => ?_)
  refine br_step (fun _ => rfl) (fun k9 => ?_)
  refine br_step (fun _ => rfl) (fun k10 => ?_)
  refine br_step (fun _ => rfl) (fun k11 => ?_)
  refine br_step (fun _ => rfl) (fun k12 => ?_)
  refine br_step (fun _ => rfl) (fun k13 => ?_)
  refine br_step (fun _ => rfl) (fun k14 => ?_)
  refine br_step (fun _ => rfl) (fun k15 => ?_)
  refine br_step (fun _ => rfl) (fun k16 => ?_)
  refine br_step (fun _ => rfl) (fun k17 => ?_)
  refine br_step (fun _ => rfl) (fun k18 => ?_)
  refine br_step (fun _ => rfl) (fun k19 => ?_)
  refine br_step (fun _ => rfl) (fun k20 => ?_)
  have ok : sixOk a.2 = true := by
    obtain ⟨a0, b0, c0⟩ := r_span_iff.1 (not_not k7)
    obtain ⟨a1, b1, c1⟩ := r_span_iff.1 (not_not k9)
    obtain ⟨a4, b4, c4⟩ := r_span_iff.1 (not_not k15)
    obtain ⟨a5, b5, c5⟩ := r_span_iff.1 (not_not k17)
    unfold sixOk sixLo sixHi
    rw [w64_in (n := a.2.m0.lo + a.2.m1.lo) (by omega) (by omega), w64_in (n := a.2.m4.lo + a.2.m5.lo) (by omega) (by omega), w64_in (n := a.2.m0.hi + a.2.m1.hi) (by omega) (by omega), w64_in (n := a.2.m4.hi + a.2.m5.hi) (by omega) (by omega), w64_in (n := a.2.m0.lo + a.2.m1.lo + (a.2.m4.lo + a.2.m5.lo)) (by omega) (by omega), w64_in (n := a.2.m0.hi + a.2.m1.hi + (a.2.m4.hi + a.2.m5.hi)) (by omega) (by omega)]
    rw [Bool.and_eq_true, decide_eq_true_eq, decide_eq_true_eq]; omega
  refine chk_step ok ?_
  exact br_step (fun _ => rfl) (fun _ => rfl)
noncomputable def BKN61 : Tab := BKN52.addCall 168 (callE D_rdens (dI .i64) (fun a => .ret (r_check a.1 a.2)))
theorem tKN61 : TabOk P BKN61 := TabOk.addFn (d := 30) okP tKN52 (fun a r h => by rw [r_check_eq]; exact congrArg some (ret_some h))
end Go.Proofs.YtjbhooodjmjdkaaGreat
/-! KN7 -/
namespace Go.Proofs.YtjbhooodjmjdkaaGreat
open Ev K
set_option maxRecDepth 100000
theorem K.lim_gcd {σ : Type} {st : σ → Option (σ ⊕ σ)} (S : Int → Int → σ) (h0 : ∀ m : Nat, st (S m 0) = some (.inr (S m 0))) (h1 : ∀ m n : Nat, 0 < n → st (S m n) = some (.inl (S n ((m % n : Nat) : Int)))) :
    ∀ k n m : Nat, n < k → lim st (S m n) = some (S (Nat.gcd m n : Nat) 0) := by
  intro k
  induction k with
  | zero => intro n m h; omega
  | succ k ih =>
    intro n m h
    rcases Nat.eq_zero_or_pos n with e | e
    · subst e; rw [Nat.gcd_zero_right]; exact lim_done (h0 m)
    · rw [lim_step (h1 m n e), ih (m % n) n (Nat.lt_of_lt_of_le (Nat.mod_lt m e) (by omega)), Nat.gcd_comm m n, Nat.gcd_rec n m, Nat.gcd_comm]
def D_rdiv := DecL.cons (dI .i64) (.last (dI .i64) 0)
def S_rdiv := DecS.mk1 (.cons (dI .i64) (.last (dI .i64) 14))
def X_rdiv := DecX.one (.exit 0) [1, 0] S_rdiv
noncomputable def K.st_rdiv := loopT1 P BKN61 30 226 25 [1, 0] S_rdiv X_rdiv
theorem sl_rdiv : ∀ s, (K.st_rdiv) s = T.run (
  .br (decide (Prod.snd s > (0 : Int))) (
    .chk (!decide (Prod.snd s = (0 : Int))) <|
    .ret (Sum.inl (Prod.snd s, Int.tmod (Prod.fst s) (Prod.snd s)))) (
    .ret (Sum.inr s))) := fun s => by kernel_rfl
noncomputable def K.L_rdiv := lim K.st_rdiv
noncomputable def BKN71 : Tab := BKN61.addNode 226 25 (nodeE [1, 0] S_rdiv X_rdiv (fun s => .obs (K.L_rdiv s) .ret))
theorem tKN71 : TabOk P BKN71 := TabOk.addLoop (d := 30) okP tKN61 (by kernel_rfl) (by kernel_rfl) (fun s r h => obs_ret h)
theorem fn_rdiv : ∀ a, (callT1 P BKN71 30 226 D_rdiv (dI .i64)) a = T.run (
  .br (decide (Prod.fst a < (0 : Int))) (
    .obs (L_rdiv (IntKind.wrap IntKind.i64 ((0 : Int) - Prod.fst a), Prod.snd a)) fun x0 =>
      .ret (Prod.fst x0)) (
    .obs (L_rdiv a) fun x0 =>
      .ret (Prod.fst x0))) := fun a => by kernel_rfl
theorem K.L_rdiv_eq (m n : Nat) : K.L_rdiv ((m : Int), (n : Int)) = some (((Nat.gcd m n : Nat) : Int), 0) := by
  refine lim_gcd (fun a b => (a, b)) (fun m => ?_) (fun m n h => ?_) (n + 1) n m (by omega)
  · rw [sl_rdiv]; rfl
  · rw [sl_rdiv]
    simp only [T.run_br, T.run_chk, T.run_ret]
    rw [if_pos (by simp; omega), if_pos (by simp; omega)]; rfl
def K.divOk (a b : Int) : Bool := decide (-9223372036854775808 < a) && (decide (a ≤ 9223372036854775807) && decide (0 ≤ b))
def K.gcdI (a b : Int) : Int := (Nat.gcd a.natAbs b.natAbs : Nat)
theorem K.r_div_eq (a : Int × Int) (h : divOk a.1 a.2 = true) : callT1 P BKN71 30 226 D_rdiv (dI .i64) a = some (gcdI a.1 a.2) := by
  unfold divOk at h
  simp only [Bool.and_eq_true, decide_eq_true_eq] at h
  obtain ⟨h1, h2, h3⟩ := h
  rw [fn_rdiv]; unfold gcdI
  have e2 : a.2 = (a.2.natAbs : Int) := by omega
  by_cases hn : a.1 < 0
  · have e1 : IntKind.wrap IntKind.i64 (0 - a.1) = (a.1.natAbs : Int) := by rw [w64_in (by omega) (by omega)]; omega
    have key := L_rdiv_eq a.1.natAbs a.2.natAbs
    rw [← e1, ← e2] at key
    simp only [T.run_br, decide_eq_true_eq]
    rw [if_pos hn]
    simp only [T.run, key]
  · have e1 : a.1 = (a.1.natAbs : Int) := by omega
    have key := L_rdiv_eq a.1.natAbs a.2.natAbs
    rw [← e1, ← e2] at key
    simp only [T.run_br, decide_eq_true_eq]
    rw [if_neg hn]
    show T.run (.obs (L_rdiv (a.1, a.2)) _) = _
    simp only [T.run, key]
noncomputable def BKN72 : Tab := BKN71.addCall 226 (callE D_rdiv (dI .i64) (fun a => .chk (divOk a.1 a.2) (.ret (gcdI a.1 a.2))))
theorem tKN72 : TabOk P BKN72 := TabOk.addFn (d := 30) okP tKN71 (fun a r h => by obtain ⟨g, e⟩ := chk_ret h; subst e; exact K.r_div_eq a g)
def D_rfull := DecL.last (dShip) 0
def S_rful := DecS.mk0 (.skip (.unit (dLp 0 0 0 0) (.skip (.cons (dI .i64) (.last (dI .i64) 18))))) (.flat 27 lShip .nil)
def X_rful := DecX.one (.exit 0) [4, 1, 3] S_rful
noncomputable def K.st_rful := loopT1 P BKN72 30 197 25 [4, 1, 3] S_rful X_rful
theorem sl_rful : ∀ s, (K.st_rful) s = T.run (
  .br (decide (Prod.snd (Prod.fst s) < (↑(len (Ship.holds (Prod.fst (Prod.snd s)))) : Int))) (
    .chk (decide ((0 : Int) ≤ Prod.snd (Prod.fst s) ∧ Prod.snd (Prod.fst s) < (↑(XS.len (Ship.holds (Prod.fst (Prod.snd s)))) : Int))) <|
    .ret (Sum.inl ((IntKind.wrap IntKind.i64 (Prod.fst (Prod.fst s) + XS.g (Ship.holds (Prod.fst (Prod.snd s))) (Int.toNat (Prod.snd (Prod.fst s))) (1 : Nat)), IntKind.wrap IntKind.i64 (Prod.snd (Prod.fst s) + (1 : Int))), Prod.fst (Prod.snd s), PUnit.unit))) (
    .ret (Sum.inr (Prod.fst s, Prod.fst (Prod.snd s), PUnit.unit)))) := fun s => by kernel_rfl
noncomputable def K.L_rful := lim K.st_rful
def K.r_full (s : Ship) : Int := (List.range (len s.holds)).foldl (fun n i => IntKind.i64.wrap (n + (hld s.holds i).room)) s.light
theorem K.L_rful_eq (s : Ship) (n : Int) : K.L_rful ((n, 0), s, ()) = some (((List.range (len s.holds)).foldl (fun n i => IntKind.i64.wrap (n + (hld s.holds i).room)) n, (len s.holds : Int)), s, ()) := by
  have e1 := K.len_le s.holds; have e2 := K.len_le' s.holds
  refine lim_fold (fun i n => ((n, (i : Int)), s, ())) (len s.holds) (fun n i => IntKind.i64.wrap (n + (hld s.holds i).room)) (fun n => ((n, (len s.holds : Int)), s, ())) (fun i hi a => ?_) (fun a => ?_) n
  · rw [sl_rful]
    have c1 : (0 : Int) ≤ i ∧ (i : Int) < s.holds.len := by omega
    simp only [T.run_br, T.run_chk, T.run_ret, decide_eq_true_eq, Int.toNat_natCast, if_pos c1]
    rw [if_pos (by omega), w64_in (n := (i : Int) + 1) (by omega) (by omega)]
    rfl
  · rw [sl_rful]
    simp only [T.run_br, T.run_chk, T.run_ret, decide_eq_true_eq]
    rw [if_neg (by omega)]
noncomputable def BKN73 : Tab := BKN72.addNode 197 25 (nodeE [4, 1, 3] S_rful X_rful (fun s => .obs (K.L_rful s) .ret))
theorem tKN73 : TabOk P BKN73 := TabOk.addLoop (d := 30) okP tKN72 (by kernel_rfl) (by kernel_rfl) (fun s r h => obs_ret h)
theorem fn_rful : ∀ a, (callT1 P BKN73 30 197 D_rfull (dI .i64)) a = T.run (
  .obs (L_rful ((Ship.light a, (0 : Int)), a, PUnit.unit)) fun x0 =>
    .ret (Prod.fst (Prod.fst x0))) := fun a => by kernel_rfl
theorem K.r_full_eq (s : Ship) : callT1 P BKN73 30 197 D_rfull (dI .i64) s = some (r_full s) := by
  rw [fn_rful]
  show T.run (.obs (L_rful ((s.light, 0), s, ())) _) = _
  rw [L_rful_eq]; rfl
noncomputable def BKN74 : Tab := BKN73.addCall 197 (callE D_rfull (dI .i64) (fun a => .ret (r_full a)))
theorem tKN74 : TabOk P BKN74 := TabOk.addFn (d := 30) okP tKN73 (fun a r h => by rw [r_full_eq]; exact congrArg some (ret_some h))
end Go.Proofs.YtjbhooodjmjdkaaGreat
/-! KN8 -/
namespace Go.Proofs.YtjbhooodjmjdkaaGreat
open Ev K
set_option maxRecDepth 100000
def D_low := DecL.last (dRatio) 0
def S_low := DecS.mk0 (.skip (.unit (dLp 0 0 0 0) (.unit (dLp 1 0 0 0) (.cons (dI .i64) (.last (dI .i64) 23))))) (.flat 161 (.cons (dI .i64) (.last (dI .i64) 0)) (.flat 59 (.cons (dI .i64) (.last (dI .i64) 0)) .nil))
def X_low := DecX.one (.exit 0) [4, 3, 2, 1] S_low
noncomputable def K.st_low := loopT1 P BKN74 30 98 17 [4, 3, 2, 1] S_low X_low
theorem sl_low : ∀ s, (K.st_low) s = T.run (
  .br (Prod.snd (Prod.fst s) != (0 : Int)) (
    .chk (!decide (Prod.snd (Prod.fst s) = (0 : Int))) <|
    .ret (Sum.inl ((Prod.snd (Prod.fst s), Int.tmod (Prod.fst (Prod.fst s)) (Prod.snd (Prod.fst s))), Prod.fst (Prod.snd s), Prod.fst (Prod.snd (Prod.snd s)), PUnit.unit))) (
    .ret (Sum.inr (Prod.fst s, Prod.fst (Prod.snd s), Prod.fst (Prod.snd (Prod.snd s)), PUnit.unit)))) := fun s => by kernel_rfl
noncomputable def K.L_low := lim K.st_low
theorem K.L_low_eq (m n : Nat) (r) : K.L_low (((m : Int), (n : Int)), r) = some ((((Nat.gcd m n : Nat) : Int), 0), r) := by
  refine lim_gcd (fun a b => ((a, b), r)) (fun m => ?_) (fun m n h => ?_) (n + 1) n m (by omega)
  · rw [sl_low]; rfl
  · rw [sl_low]
    simp only [T.run_br, T.run_chk, T.run_ret]
    rw [if_pos (by simp; omega), if_pos (by simp; omega)]; rfl
noncomputable def BKN81 : Tab := BKN74.addNode 98 17 (nodeE [4, 3, 2, 1] S_low X_low (fun s => .obs (K.L_low s) .ret))
theorem tKN81 : TabOk P BKN81 := TabOk.addLoop (d := 30) okP tKN74 (by kernel_rfl) (by kernel_rfl) (fun s r h => obs_ret h)
theorem fn_low : ∀ a, (callT1 P BKN81 30 98 D_low dFrac) a = T.run (
  .obs (L_low ((if IntKind.wrap IntKind.i64 ((0 : Int) - Frac.num a) > Frac.num a then IntKind.wrap IntKind.i64 ((0 : Int) - Frac.num a) else Frac.num a, Frac.den a), (Frac.num a, Frac.den a), ((0 : Int), (0 : Int)), PUnit.unit)) fun x0 =>
    .chk (!decide (Prod.fst (Prod.fst x0) = (0 : Int))) <|
    .chk (!decide (Prod.fst (Prod.fst x0) = (0 : Int))) <|
    .ret (Frac.mk (IntKind.wrap IntKind.i64 (Int.tdiv (Prod.fst (Prod.fst (Prod.snd x0))) (Prod.fst (Prod.fst x0)))) (IntKind.wrap IntKind.i64 (Int.tdiv (Prod.snd (Prod.fst (Prod.snd x0))) (Prod.fst (Prod.fst x0)))))) := fun a => by kernel_rfl
def K.r_low (f : Frac) : Frac := ⟨IntKind.i64.wrap (Int.tdiv f.num (gcdI f.num f.den)), IntKind.i64.wrap (Int.tdiv f.den (gcdI f.num f.den))⟩
def K.lowOk (f : Frac) : Bool := divOk f.num f.den && !decide (gcdI f.num f.den = 0)
theorem K.r_low_eq (f : Frac) (h : lowOk f = true) : callT1 P BKN81 30 98 D_low dFrac f = some (r_low f) := by
  unfold lowOk divOk at h
  simp only [Bool.and_eq_true, decide_eq_true_eq] at h
  obtain ⟨⟨h1, h2, h3⟩, h4⟩ := h
  rw [fn_low]
  have e2 : f.den = (f.den.natAbs : Int) := by omega
  have e1 : (if IntKind.wrap IntKind.i64 (0 - f.num) > f.num then IntKind.wrap IntKind.i64 (0 - f.num) else f.num) = (f.num.natAbs : Int) := by
    rw [w64_in (n := 0 - f.num) (by omega) (by omega)]; split <;> omega
  have key := L_low_eq f.num.natAbs f.den.natAbs ((f.num, f.den), (0, 0), ())
  rw [← e2] at key
  rw [e1]
  simp only [T.run, key]
  show T.run (.chk (!decide (gcdI f.num f.den = 0)) (.chk (!decide (gcdI f.num f.den = 0)) (.ret (r_low f)))) = _
  exact chk_step h4 (chk_step h4 rfl)
noncomputable def BKN82 : Tab := BKN81.addCall 98 (callE D_low dFrac (fun f => .chk (lowOk f) (.ret (r_low f))))
theorem tKN82 : TabOk P BKN82 := TabOk.addFn (d := 30) okP tKN81 (fun a r h => by obtain ⟨g, e⟩ := chk_ret h; subst e; exact K.r_low_eq a g)
def S_rwh := DecS.mk0 (.skip (.cons (dI .i64) (.unit (dLp 0 0 0 0) (.skip (.unit (dLp 1 0 0 0) (.last (dI .i64) 67)))))) (.flat 25 lCurve (.flat 59 (.cons (dI .i64) (.last (dI .i64) 0)) .nil))
def X_rwh := DecX.one (.exit 0) [5, 4, 1, 2] S_rwh
noncomputable def K.st_rwh := loopT1 P BKN82 30 217 17 [5, 4, 1, 2] S_rwh X_rwh
theorem sl_rwh : ∀ s, (K.st_rwh) s = T.run (
  .chk (decide ((0 : Int) ≤ Prod.snd (Prod.fst s) ∧ Prod.snd (Prod.fst s) < (↑(XS.len (Curve.knots (Prod.fst (Prod.snd s)))) : Int))) <|
  .br (decide (IntKind.wrap IntKind.i64 ((16 : Int) * XS.g (Curve.knots (Prod.fst (Prod.snd s))) (Int.toNat (Prod.snd (Prod.fst s))) (1 : Nat)) < Prod.fst (Prod.fst s))) (
    .ret (Sum.inl ((Prod.fst (Prod.fst s), IntKind.wrap IntKind.i64 (Prod.snd (Prod.fst s) + (1 : Int))), Prod.fst (Prod.snd s), Prod.fst (Prod.snd (Prod.snd s)), PUnit.unit))) (
    .ret (Sum.inr (Prod.fst s, Prod.fst (Prod.snd s), Prod.fst (Prod.snd (Prod.snd s)), PUnit.unit)))) := fun s => by kernel_rfl
noncomputable def K.L_rwh := lim K.st_rwh
noncomputable def BKN83 : Tab := BKN82.addNode 217 17 (nodeE [5, 4, 1, 2] S_rwh X_rwh (fun s => .obs (K.L_rwh s) .ret))
theorem tKN83 : TabOk P BKN83 := TabOk.addLoop (d := 30) okP tKN82 (by kernel_rfl) (by kernel_rfl) (fun s r h => obs_ret h)
def D_rwh := DecL.cons (dCurve) (.last (dI .i64) 0)
theorem fn_rwh : ∀ a, (callT1 P BKN83 30 217 D_rwh dFrac) a = T.run (
  .obs (L_rwh ((Prod.snd a, (0 : Int)), Prod.fst a, ((0 : Int), (0 : Int)), PUnit.unit)) fun x0 =>
    .chk (decide ((0 : Int) ≤ Prod.snd (Prod.fst x0) ∧ Prod.snd (Prod.fst x0) < (↑(XS.len (Curve.knots (Prod.fst (Prod.snd x0)))) : Int))) <|
    .br (IntKind.wrap IntKind.i64 ((16 : Int) * XS.g (Curve.knots (Prod.fst (Prod.snd x0))) (Int.toNat (Prod.snd (Prod.fst x0))) (1 : Nat)) == Prod.fst (Prod.fst x0)) (
      .ret (Frac.mk (XS.g (Curve.knots (Prod.fst (Prod.snd x0))) (Int.toNat (Prod.snd (Prod.fst x0))) (0 : Nat)) (1 : Int))) (
      .chk (decide ((0 : Int) ≤ IntKind.wrap IntKind.i64 (Prod.snd (Prod.fst x0) - (1 : Int)) ∧ IntKind.wrap IntKind.i64 (Prod.snd (Prod.fst x0) - (1 : Int)) < (↑(XS.len (Curve.knots (Prod.fst (Prod.snd x0)))) : Int))) <|
      .chk (divOk (IntKind.wrap IntKind.i64 (IntKind.wrap IntKind.i64 (XS.g (Curve.knots (Prod.fst (Prod.snd x0))) (Int.toNat (IntKind.wrap IntKind.i64 (Prod.snd (Prod.fst x0) - (1 : Int)))) (0 : Nat) * IntKind.wrap IntKind.i64 ((16 : Int) * IntKind.wrap IntKind.i64 (XS.g (Curve.knots (Prod.fst (Prod.snd x0))) (Int.toNat (Prod.snd (Prod.fst x0))) (1 : Nat) - XS.g (Curve.knots (Prod.fst (Prod.snd x0))) (Int.toNat (IntKind.wrap IntKind.i64 (Prod.snd (Prod.fst x0) - (1 : Int)))) (1 : Nat)))) + IntKind.wrap IntKind.i64 (IntKind.wrap IntKind.i64 (Prod.fst (Prod.fst x0) - IntKind.wrap IntKind.i64 ((16 : Int) * XS.g (Curve.knots (Prod.fst (Prod.snd x0))) (Int.toNat (IntKind.wrap IntKind.i64 (Prod.snd (Prod.fst x0) - (1 : Int)))) (1 : Nat))) * IntKind.wrap IntKind.i64 (XS.g (Curve.knots (Prod.fst (Prod.snd x0))) (Int.toNat (Prod.snd (Prod.fst x0))) (0 : Nat) - XS.g (Curve.knots (Prod.fst (Prod.snd x0))) (Int.toNat (IntKind.wrap IntKind.i64 (Prod.snd (Prod.fst x0) - (1 : Int)))) (0 : Nat))))) (IntKind.wrap IntKind.i64 ((16 : Int) * IntKind.wrap IntKind.i64 (XS.g (Curve.knots (Prod.fst (Prod.snd x0))) (Int.toNat (Prod.snd (Prod.fst x0))) (1 : Nat) - XS.g (Curve.knots (Prod.fst (Prod.snd x0))) (Int.toNat (IntKind.wrap IntKind.i64 (Prod.snd (Prod.fst x0) - (1 : Int)))) (1 : Nat))))) <|
      .chk (!decide (gcdI (IntKind.wrap IntKind.i64 (IntKind.wrap IntKind.i64 (XS.g (Curve.knots (Prod.fst (Prod.snd x0))) (Int.toNat (IntKind.wrap IntKind.i64 (Prod.snd (Prod.fst x0) - (1 : Int)))) (0 : Nat) * IntKind.wrap IntKind.i64 ((16 : Int) * IntKind.wrap IntKind.i64 (XS.g (Curve.knots (Prod.fst (Prod.snd x0))) (Int.toNat (Prod.snd (Prod.fst x0))) (1 : Nat) - XS.g (Curve.knots (Prod.fst (Prod.snd x0))) (Int.toNat (IntKind.wrap IntKind.i64 (Prod.snd (Prod.fst x0) - (1 : Int)))) (1 : Nat)))) + IntKind.wrap IntKind.i64 (IntKind.wrap IntKind.i64 (Prod.fst (Prod.fst x0) - IntKind.wrap IntKind.i64 ((16 : Int) * XS.g (Curve.knots (Prod.fst (Prod.snd x0))) (Int.toNat (IntKind.wrap IntKind.i64 (Prod.snd (Prod.fst x0) - (1 : Int)))) (1 : Nat))) * IntKind.wrap IntKind.i64 (XS.g (Curve.knots (Prod.fst (Prod.snd x0))) (Int.toNat (Prod.snd (Prod.fst x0))) (0 : Nat) - XS.g (Curve.knots (Prod.fst (Prod.snd x0))) (Int.toNat (IntKind.wrap IntKind.i64 (Prod.snd (Prod.fst x0) - (1 : Int)))) (0 : Nat))))) (IntKind.wrap IntKind.i64 ((16 : Int) * IntKind.wrap IntKind.i64 (XS.g (Curve.knots (Prod.fst (Prod.snd x0))) (Int.toNat (Prod.snd (Prod.fst x0))) (1 : Nat) - XS.g (Curve.knots (Prod.fst (Prod.snd x0))) (Int.toNat (IntKind.wrap IntKind.i64 (Prod.snd (Prod.fst x0) - (1 : Int)))) (1 : Nat)))) = (0 : Int))) <|
      .chk (!decide (gcdI (IntKind.wrap IntKind.i64 (IntKind.wrap IntKind.i64 (XS.g (Curve.knots (Prod.fst (Prod.snd x0))) (Int.toNat (IntKind.wrap IntKind.i64 (Prod.snd (Prod.fst x0) - (1 : Int)))) (0 : Nat) * IntKind.wrap IntKind.i64 ((16 : Int) * IntKind.wrap IntKind.i64 (XS.g (Curve.knots (Prod.fst (Prod.snd x0))) (Int.toNat (Prod.snd (Prod.fst x0))) (1 : Nat) - XS.g (Curve.knots (Prod.fst (Prod.snd x0))) (Int.toNat (IntKind.wrap IntKind.i64 (Prod.snd (Prod.fst x0) - (1 : Int)))) (1 : Nat)))) + IntKind.wrap IntKind.i64 (IntKind.wrap IntKind.i64 (Prod.fst (Prod.fst x0) - IntKind.wrap IntKind.i64 ((16 : Int) * XS.g (Curve.knots (Prod.fst (Prod.snd x0))) (Int.toNat (IntKind.wrap IntKind.i64 (Prod.snd (Prod.fst x0) - (1 : Int)))) (1 : Nat))) * IntKind.wrap IntKind.i64 (XS.g (Curve.knots (Prod.fst (Prod.snd x0))) (Int.toNat (Prod.snd (Prod.fst x0))) (0 : Nat) - XS.g (Curve.knots (Prod.fst (Prod.snd x0))) (Int.toNat (IntKind.wrap IntKind.i64 (Prod.snd (Prod.fst x0) - (1 : Int)))) (0 : Nat))))) (IntKind.wrap IntKind.i64 ((16 : Int) * IntKind.wrap IntKind.i64 (XS.g (Curve.knots (Prod.fst (Prod.snd x0))) (Int.toNat (Prod.snd (Prod.fst x0))) (1 : Nat) - XS.g (Curve.knots (Prod.fst (Prod.snd x0))) (Int.toNat (IntKind.wrap IntKind.i64 (Prod.snd (Prod.fst x0) - (1 : Int)))) (1 : Nat)))) = (0 : Int))) <|
      .ret (Frac.mk (IntKind.wrap IntKind.i64 (Int.tdiv (IntKind.wrap IntKind.i64 (IntKind.wrap IntKind.i64 (XS.g (Curve.knots (Prod.fst (Prod.snd x0))) (Int.toNat (IntKind.wrap IntKind.i64 (Prod.snd (Prod.fst x0) - (1 : Int)))) (0 : Nat) * IntKind.wrap IntKind.i64 ((16 : Int) * IntKind.wrap IntKind.i64 (XS.g (Curve.knots (Prod.fst (Prod.snd x0))) (Int.toNat (Prod.snd (Prod.fst x0))) (1 : Nat) - XS.g (Curve.knots (Prod.fst (Prod.snd x0))) (Int.toNat (IntKind.wrap IntKind.i64 (Prod.snd (Prod.fst x0) - (1 : Int)))) (1 : Nat)))) + IntKind.wrap IntKind.i64 (IntKind.wrap IntKind.i64 (Prod.fst (Prod.fst x0) - IntKind.wrap IntKind.i64 ((16 : Int) * XS.g (Curve.knots (Prod.fst (Prod.snd x0))) (Int.toNat (IntKind.wrap IntKind.i64 (Prod.snd (Prod.fst x0) - (1 : Int)))) (1 : Nat))) * IntKind.wrap IntKind.i64 (XS.g (Curve.knots (Prod.fst (Prod.snd x0))) (Int.toNat (Prod.snd (Prod.fst x0))) (0 : Nat) - XS.g (Curve.knots (Prod.fst (Prod.snd x0))) (Int.toNat (IntKind.wrap IntKind.i64 (Prod.snd (Prod.fst x0) - (1 : Int)))) (0 : Nat))))) (gcdI (IntKind.wrap IntKind.i64 (IntKind.wrap IntKind.i64 (XS.g (Curve.knots (Prod.fst (Prod.snd x0))) (Int.toNat (IntKind.wrap IntKind.i64 (Prod.snd (Prod.fst x0) - (1 : Int)))) (0 : Nat) * IntKind.wrap IntKind.i64 ((16 : Int) * IntKind.wrap IntKind.i64 (XS.g (Curve.knots (Prod.fst (Prod.snd x0))) (Int.toNat (Prod.snd (Prod.fst x0))) (1 : Nat) - XS.g (Curve.knots (Prod.fst (Prod.snd x0))) (Int.toNat (IntKind.wrap IntKind.i64 (Prod.snd (Prod.fst x0) - (1 : Int)))) (1 : Nat)))) + IntKind.wrap IntKind.i64 (IntKind.wrap IntKind.i64 (Prod.fst (Prod.fst x0) - IntKind.wrap IntKind.i64 ((16 : Int) * XS.g (Curve.knots (Prod.fst (Prod.snd x0))) (Int.toNat (IntKind.wrap IntKind.i64 (Prod.snd (Prod.fst x0) - (1 : Int)))) (1 : Nat))) * IntKind.wrap IntKind.i64 (XS.g (Curve.knots (Prod.fst (Prod.snd x0))) (Int.toNat (Prod.snd (Prod.fst x0))) (0 : Nat) - XS.g (Curve.knots (Prod.fst (Prod.snd x0))) (Int.toNat (IntKind.wrap IntKind.i64 (Prod.snd (Prod.fst x0) - (1 : Int)))) (0 : Nat))))) (IntKind.wrap IntKind.i64 ((16 : Int) * IntKind.wrap IntKind.i64 (XS.g (Curve.knots (Prod.fst (Prod.snd x0))) (Int.toNat (Prod.snd (Prod.fst x0))) (1 : Nat) - XS.g (Curve.knots (Prod.fst (Prod.snd x0))) (Int.toNat (IntKind.wrap IntKind.i64 (Prod.snd (Prod.fst x0) - (1 : Int)))) (1 : Nat))))))) (IntKind.wrap IntKind.i64 (Int.tdiv (IntKind.wrap IntKind.i64 ((16 : Int) * IntKind.wrap IntKind.i64 (XS.g (Curve.knots (Prod.fst (Prod.snd x0))) (Int.toNat (Prod.snd (Prod.fst x0))) (1 : Nat) - XS.g (Curve.knots (Prod.fst (Prod.snd x0))) (Int.toNat (IntKind.wrap IntKind.i64 (Prod.snd (Prod.fst x0) - (1 : Int)))) (1 : Nat)))) (gcdI (IntKind.wrap IntKind.i64 (IntKind.wrap IntKind.i64 (XS.g (Curve.knots (Prod.fst (Prod.snd x0))) (Int.toNat (IntKind.wrap IntKind.i64 (Prod.snd (Prod.fst x0) - (1 : Int)))) (0 : Nat) * IntKind.wrap IntKind.i64 ((16 : Int) * IntKind.wrap IntKind.i64 (XS.g (Curve.knots (Prod.fst (Prod.snd x0))) (Int.toNat (Prod.snd (Prod.fst x0))) (1 : Nat) - XS.g (Curve.knots (Prod.fst (Prod.snd x0))) (Int.toNat (IntKind.wrap IntKind.i64 (Prod.snd (Prod.fst x0) - (1 : Int)))) (1 : Nat)))) + IntKind.wrap IntKind.i64 (IntKind.wrap IntKind.i64 (Prod.fst (Prod.fst x0) - IntKind.wrap IntKind.i64 ((16 : Int) * XS.g (Curve.knots (Prod.fst (Prod.snd x0))) (Int.toNat (IntKind.wrap IntKind.i64 (Prod.snd (Prod.fst x0) - (1 : Int)))) (1 : Nat))) * IntKind.wrap IntKind.i64 (XS.g (Curve.knots (Prod.fst (Prod.snd x0))) (Int.toNat (Prod.snd (Prod.fst x0))) (0 : Nat) - XS.g (Curve.knots (Prod.fst (Prod.snd x0))) (Int.toNat (IntKind.wrap IntKind.i64 (Prod.snd (Prod.fst x0) - (1 : Int)))) (0 : Nat))))) (IntKind.wrap IntKind.i64 ((16 : Int) * IntKind.wrap IntKind.i64 (XS.g (Curve.knots (Prod.fst (Prod.snd x0))) (Int.toNat (Prod.snd (Prod.fst x0))) (1 : Nat) - XS.g (Curve.knots (Prod.fst (Prod.snd x0))) (Int.toNat (IntKind.wrap IntKind.i64 (Prod.snd (Prod.fst x0) - (1 : Int)))) (1 : Nat)))))))))) := fun a => by kernel_rfl
def K.p_rwh (c : Curve) (n : Int) (i : Nat) : Bool := !decide (IntKind.i64.wrap (16 * (knt c.knots i).y) < n)
theorem K.L_rwh_eq (c : Curve) (n : Int) (z) (i : Nat) (h : first (p_rwh c n) (len c.knots) = some i) : K.L_rwh ((n, 0), c, z, ()) = some ((n, (i : Int)), c, z, ()) := by
  have e1 := K.len_le c.knots; have e2 := K.len_le' c.knots
  obtain ⟨h1, h2, h3⟩ := first_spec h
  have key := lim_until (step := K.st_rwh) (fun (i : Nat) => ((n, (i : Int)), c, z, ())) i 0 (fun j _ hj => ?_)
  · show lim K.st_rwh ((n, ((0 : Nat) : Int)), c, z, ()) = _
    rw [key, Nat.zero_add]
    refine lim_done ?_
    rw [sl_rwh]
    unfold p_rwh at h2
    have c1 : (0 : Int) ≤ i ∧ (i : Int) < c.knots.len := by omega
    refine chk_step (by simp only [decide_eq_true_eq]; exact c1) ?_
    rw [T.run_br]
    rw [if_neg (by simp only [Int.toNat_natCast]; intro hc; rw [show (knt c.knots i).y = c.knots.g i 1 from rfl, hc] at h2; cases h2)]
    rfl
  · rw [sl_rwh]
    have h4 := h3 j (by omega)
    unfold p_rwh at h4
    have c1 : (0 : Int) ≤ j ∧ (j : Int) < c.knots.len := by omega
    refine chk_step (by simp only [decide_eq_true_eq]; exact c1) ?_
    rw [T.run_br]
    rw [if_pos (by simp only [Int.toNat_natCast]; exact not_not (by rw [show (knt c.knots j).y = c.knots.g j 1 from rfl] at h4; rw [h4]; decide))]
    rw [T.run_ret, w64_in (n := (j : Int) + 1) (by omega) (by omega)]; rfl
def K.whFrac (c : Curve) (n : Int) (i : Nat) : Frac :=
  ⟨IntKind.i64.wrap (IntKind.i64.wrap ((knt c.knots (i - 1)).x * IntKind.i64.wrap (16 * IntKind.i64.wrap ((knt c.knots i).y - (knt c.knots (i - 1)).y))) +
    IntKind.i64.wrap (IntKind.i64.wrap (n - IntKind.i64.wrap (16 * (knt c.knots (i - 1)).y)) * IntKind.i64.wrap ((knt c.knots i).x - (knt c.knots (i - 1)).x))), IntKind.i64.wrap (16 * IntKind.i64.wrap ((knt c.knots i).y - (knt c.knots (i - 1)).y))⟩
def K.whOk (c : Curve) (n : Int) : Bool := match first (p_rwh c n) (len c.knots) with
  | some i => IntKind.i64.wrap (16 * (knt c.knots i).y) == n || (decide (0 < i) && lowOk (whFrac c n i))
  | none => false
def K.r_where (c : Curve) (n : Int) : Frac := match first (p_rwh c n) (len c.knots) with
  | some i => if (IntKind.i64.wrap (16 * (knt c.knots i).y) == n) = true then ⟨(knt c.knots i).x, 1⟩ else r_low (whFrac c n i)
  | none => ⟨0, 0⟩
theorem K.r_where_eq (a : Curve × Int) (h : whOk a.1 a.2 = true) : callT1 P BKN83 30 217 D_rwh dFrac a = some (r_where a.1 a.2) := by
  obtain ⟨c, n⟩ := a
  unfold whOk at h
  unfold r_where
  simp only at h ⊢
  cases hf : first (p_rwh c n) (len c.knots) with
  | none => rw [hf] at h; cases h
  | some i =>
    rw [hf] at h; simp only at h
    have e1 := K.len_le c.knots; have e2 := K.len_le' c.knots
    have hi := (first_spec hf).1
    have c1 : (0 : Int) ≤ i ∧ (i : Int) < c.knots.len := by omega
    rw [fn_rwh]
    show T.run (.obs (L_rwh ((n, 0), c, (0, 0), ())) _) = _
    rw [L_rwh_eq c n (0, 0) i hf, T.run_some]
    refine chk_step (by simp only [decide_eq_true_eq]; exact c1) ?_
    simp only [T.run_br, T.run_chk, T.run_ret, Int.toNat_natCast]
    cases hq : (IntKind.i64.wrap (16 * (knt c.knots i).y) == n) with
    | true =>
      rw [if_pos (show (IntKind.i64.wrap (16 * c.knots.g i 1) == n) = true from hq)]; rfl
    | false =>
      rw [if_neg (show ¬ (IntKind.i64.wrap (16 * c.knots.g i 1) == n) = true by rw [show (IntKind.i64.wrap (16 * c.knots.g i 1) == n) = false from hq]; decide)]
      rw [hq, Bool.false_or, Bool.and_eq_true, decide_eq_true_eq] at h
      obtain ⟨h0, hl⟩ := h
      unfold lowOk at hl
      rw [Bool.and_eq_true] at hl
      have e3 : IntKind.wrap IntKind.i64 ((i : Int) - 1) = ((i - 1 : Nat) : Int) := by rw [w64_in (by omega) (by omega)]; omega
      simp only [e3, Int.toNat_natCast]
      rw [if_pos (by simp only [decide_eq_true_eq]; omega)]
      refine Eq.trans (if_pos (show divOk (whFrac c n i).num (whFrac c n i).den = true from hl.1)) ?_
      refine Eq.trans (if_pos (show (!decide (gcdI (whFrac c n i).num (whFrac c n i).den = 0)) = true from hl.2)) ?_
      exact if_pos (show (!decide (gcdI (whFrac c n i).num (whFrac c n i).den = 0)) = true from hl.2)
noncomputable def BKN84 : Tab := BKN83.addCall 217 (callE D_rwh dFrac (fun a => .chk (whOk a.1 a.2) (.ret (r_where a.1 a.2))))
theorem tKN84 : TabOk P BKN84 := TabOk.addFn (d := 30) okP tKN83 (fun a r h => by obtain ⟨g, e⟩ := chk_ret h; subst e; exact K.r_where_eq a g)
end Go.Proofs.YtjbhooodjmjdkaaGreat
