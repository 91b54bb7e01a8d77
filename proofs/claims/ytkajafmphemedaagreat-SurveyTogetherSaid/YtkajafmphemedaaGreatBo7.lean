/- SurveyTogether: for every input the law returns true, and the input reads as it did. No conditions. -/
import Derived.Test.YtkajafmphemedaaGreatRows
import Derived.Test.YtkajafmphemedaaGreatBo6
/-! KY1 -/
namespace Go.Proofs.YtkajafmphemedaaGreat
open Ev K
set_option maxRecDepth 100000
/-! Slices of a few slices -/
section
variable {α : Type}
theorem Ev.row_rel {wd m : Nat} {g : Get AV} {row : Nat} {w : World} {A : Nat → Prop} {u : Nat → Nat → Value} (hv : ∀ i k, i < m → k < wd → VR w A noR (g i k) (u i k)) (hr : row < m) : VRs w A noR (rngGet g row 0 wd) ((Array.range wd).map fun k => u row k) := by
  refine ⟨by simp [rngGet_length], fun i y z hy hz => ?_⟩
  have hi : i < wd := by have := (List.getElem?_eq_some_iff.1 hy).1; rwa [rngGet_length] at this
  rw [rngGet_get g row wd 0 i hi] at hy
  simp [hi] at hz
  injection hy with hy; subst hy; subst hz
  rw [Nat.zero_add]
  exact hv row i hr hi
theorem Ev.row_cell {E : DecL α} {a : α} {wd : Nat} {w : World} {A : Nat → Prop} {us : Array Value} (h : VRs w A noR (E.enc a) us) (hs : us.size = wd) {k : Nat} (hk : k < wd) : VR w A noR (((E.enc a)[k]?).getD .top) (us[k]?.getD .nilFunc) := by
  have hk' : k < (E.enc a).length := by rw [h.1, hs]; exact hk
  rw [List.getElem?_eq_getElem hk', Array.getElem?_eq_getElem (by omega)]
  exact h.2 k _ _ (List.getElem?_eq_getElem hk') (Array.getElem?_eq_getElem (by omega))
/-- A slice of one row; of two rows. -/
def Ev.dRow1 (wd : Nat) (E : DecL α) : Dec α where
  enc a := .xsl wd 1 ⟨[], fun _ k => ((E.enc a)[k]?).getD .top⟩ 0 1 none
  dec x := match x with
    | .xsl wd' _ g row len _ => match Nat.beq wd' wd && Nat.beq len 1 with
      | true => E.dec (rngGet g row 0 wd)
      | false => none
    | _ => none
  ok x a h w A r v hv := by
    split at h
    case h_2 => cases h
    rename_i wd' m g row len cap
    split at h
    case h_2 => cases h
    rename_i e
    simp only [Bool.and_eq_true] at e
    have e1 := Nat.eq_of_beq_eq_true e.1; have e2 := Nat.eq_of_beq_eq_true e.2; subst e1; subst e2
    cases hv with
    | xsl b o u hl hcap hn ha hc hv =>
      obtain ⟨ea, hb, hA⟩ := ha (by omega)
      have hcells := E.ok _ _ h _ _ _ _ (row_rel (hv (by omega)) (show _ < _ by omega))
      refine .xsl b (o + row * wd') (fun _ k => u row k) hl (fun x hx => by cases hx) (by omega) (fun _ => ⟨by rw [ea]; simp, hb, hA⟩) (fun _ i k hi hk => ?_) (fun _ i k hi hk => ?_)
      · have : i = 0 := by omega
        subst this
        rw [Nat.zero_mul, Nat.zero_add, Nat.add_assoc]; exact hc (by omega) row k (by omega) hk
      · have := row_cell hcells (by simp) hk
        simp [hk] at this; exact this
def Ev.dRow2 (wd : Nat) (E : DecL α) : Dec (α × α) where
  enc a := .xsl wd 2 ⟨[], fun i k => match i with
    | 0 => ((E.enc a.1)[k]?).getD .top
    | _ => ((E.enc a.2)[k]?).getD .top⟩ 0 2 none
  dec x := match x with
    | .xsl wd' _ g row len _ => match Nat.beq wd' wd && Nat.beq len 2 with
      | true => match E.dec (rngGet g row 0 wd) with
        | some a => match E.dec (rngGet g (row + 1) 0 wd) with
          | some b => some (a, b)
          | none => none
        | none => none
      | false => none
    | _ => none
  ok x a h w A r v hv := by
    split at h
    case h_2 => cases h
    rename_i wd' m g row len cap
    split at h
    case h_2 => cases h
    rename_i e
    split at h
    case h_2 => cases h
    rename_i a1 h1
    split at h
    case h_2 => cases h
    rename_i a2 h2
    injection h with h; subst h
    simp only [Bool.and_eq_true] at e
    have e1 := Nat.eq_of_beq_eq_true e.1; have e2 := Nat.eq_of_beq_eq_true e.2; subst e1; subst e2
    cases hv with
    | xsl b o u hl hcap hn ha hc hv =>
      obtain ⟨ea, hb, hA⟩ := ha (by omega)
      have hcells1 := E.ok _ _ h1 _ _ _ _ (row_rel (hv (by omega)) (show _ < _ by omega))
      have hcells2 := E.ok _ _ h2 _ _ _ _ (row_rel (hv (by omega)) (show _ < _ by omega))
      refine .xsl b (o + row * wd') (fun i k => u (row + i) k) hl (fun x hx => by cases hx) (by omega) (fun _ => ⟨by rw [ea]; simp, hb, hA⟩) (fun _ i k hi hk => ?_) (fun _ i k hi hk => ?_)
      · have := hc (by omega) (row + i) k (by omega) hk
        rw [Nat.add_mul] at this
        rw [show o + row * wd' + (i * wd' + k) = o + (row * wd' + i * wd' + k) by omega]; exact this
      · cases i with
        | zero => have := row_cell hcells1 (by simp) hk; simp [hk] at this; exact this
        | succ i =>
          have : i = 0 := by omega
          subst this
          have := row_cell hcells2 (by simp) hk; simp [hk] at this; exact this
/-- A number that is known. -/
def Ev.dIl (n : Int) : Dec Unit where
  enc _ := .int .i64 n
  dec x := match x with
    | .int .i64 m => match decide (m = n) with
      | true => some ()
      | false => none
    | _ => none
  ok x a h w A r v hv := by
    split at h
    · split at h
      · rename_i e; have := of_decide_eq_true e; subst this; exact hv
      · cases h
    · cases h
end
def lList : DecL XS := DecL.last xSurveys 0
def D_li1 := DecL.cons dShip (.cons dBulbs (.last (dRow1 1 lList) 0))
def D_li2 := DecL.cons dShip (.cons dBulbs (.last (dRow2 1 lList) 0))
/-- The error of a survey of a list. -/
noncomputable def K.svyE (b : Bulbs) (x : XS) (i : Nat) : Option Int := if (check (b, svy x i) != 0) = true then some (check (b, svy x i)) else if decide ((find_lst1 (svy x i) x).2 < (i : Int)) = true then some 6 else none
def S_lia := DecS.mk0 (.skips 4 (.unit (dLp 0 0 0 0) (.skips 5 (.cons xSurveys (.skips 15 (.cons (dRow1 1 lList) (.unit (dIl 1) (.unit (dIl 0) (.skips 11 (.cons xSurveys (.cons (dI .i64) (.last (dI .i64) 21))))))))))))  (.flat 31 lBulbs .nil)
def X_lia := DecX.or (DecX.one .ret [6] (DecS.mk1 (.skips 6 (.last (dI .i64) 57)))) (DecX.one (.exit 3) [4, 26, 27, 28] (DecS.mk0 (.skips 4 (.unit (dLp 0 0 0 0) (.skips 21 (.cons (dRow1 1 lList) (.unit (dIl 1) (.unit (dIl 0) (.tops 35))))))) (.flat 31 lBulbs .nil)))
noncomputable def K.st_lia := loopT1 P BKN112 30 48 121 [42, 10, 4, 40, 26, 27, 28, 41] S_lia X_lia
theorem sl_lia : ∀ s, (K.st_lia) s = T.run (
  .br (decide (Prod.snd (Prod.snd (Prod.snd (Prod.snd (Prod.fst s)))) < Prod.fst (Prod.snd (Prod.snd (Prod.snd (Prod.fst s)))))) (
    .chk (decide ((0 : Int) ≤ Prod.snd (Prod.snd (Prod.snd (Prod.snd (Prod.fst s)))) ∧ Prod.snd (Prod.snd (Prod.snd (Prod.snd (Prod.fst s)))) < (↑(XS.len (Prod.fst (Prod.snd (Prod.snd (Prod.fst s))))) : Int))) <|
    .br (check (Prod.fst (Prod.snd s), svy (Prod.fst (Prod.snd (Prod.snd (Prod.fst s)))) (Int.toNat (Prod.snd (Prod.snd (Prod.snd (Prod.snd (Prod.fst s))))))) != (0 : Int)) (
      .ret (Sum.inr (Sum.inl (check (Prod.fst (Prod.snd s), svy (Prod.fst (Prod.snd (Prod.snd (Prod.fst s)))) (Int.toNat (Prod.snd (Prod.snd (Prod.snd (Prod.snd (Prod.fst s))))))))))) (
      .br (decide (Prod.snd (find_lst1 (svy (Prod.fst (Prod.snd (Prod.snd (Prod.fst s)))) (Int.toNat (Prod.snd (Prod.snd (Prod.snd (Prod.snd (Prod.fst s))))))) (Prod.fst (Prod.fst s))) < Prod.snd (Prod.snd (Prod.snd (Prod.snd (Prod.fst s)))))) (
        .ret (Sum.inr (Sum.inl (6 : Int)))) (
        .ret (Sum.inl ((Prod.fst (Prod.fst s), Prod.fst (Prod.snd (Prod.fst s)), Prod.fst (Prod.snd (Prod.snd (Prod.fst s))), Prod.fst (Prod.snd (Prod.snd (Prod.snd (Prod.fst s)))), IntKind.wrap IntKind.i64 (Prod.snd (Prod.snd (Prod.snd (Prod.snd (Prod.fst s)))) + (1 : Int))), Prod.fst (Prod.snd s), PUnit.unit))))) (
    .ret (Sum.inr (Sum.inr ((Prod.fst (Prod.snd (Prod.fst s)), PUnit.unit), Prod.fst (Prod.snd s), PUnit.unit))))) := fun s => by kernel_rfl
noncomputable def K.L_lia := lim K.st_lia
theorem K.L_lia_eq (x : XS) (d : XS) (b : Bulbs) : K.L_lia ((x, d, x, (len x : Int), 0), b, ()) = some (K.orr Sum.inl (.inr ((d, ()), b, ())) ((List.range (len x)).findSome? (svyE b x))) := by
  have e1 := K.len_le x; have e2 := K.len_le' x
  refine lim_err (fun i => ((x, d, x, (len x : Int), (i : Int)), b, ())) (len x) (svyE b x) Sum.inl (Sum.inr ((d, ()), b, ())) (fun i hi => ?_) ?_
  · rw [sl_lia]
    unfold svyE; simp only [orr_ite2]
    rw [T.run_br, if_pos (by simp only [decide_eq_true_eq]; omega)]
    refine chk_step (by simp only [decide_eq_true_eq]; omega) ?_
    refine br_step (fun _ => rfl) (fun _ => ?_)
    refine br_step (fun _ => rfl) (fun _ => ?_)
    rw [T.run_ret, w64_in (n := (i : Int) + 1) (by omega) (by omega)]; rfl
  · rw [sl_lia]
    simp only [T.run_br, T.run_chk, T.run_ret, decide_eq_true_eq]
    rw [if_neg (by omega)]
noncomputable def BKY11 : Tab := BKN112.addNode 48 121 (nodeE [42, 10, 4, 40, 26, 27, 28, 41] S_lia X_lia (fun s => .obs (K.L_lia s) .ret))
theorem tKY11 : TabOk P BKY11 := TabOk.addLoop (d := 30) okP tKN112 (by kernel_rfl) (by kernel_rfl) (fun s r h => obs_ret h)

def S_lib := DecS.mk0 (.skips 4 (.unit (dLp 0 0 0 0) (.skips 5 (.cons xSurveys (.skips 15 (.cons (dRow2 1 lList) (.unit (dIl 2) (.unit (dIl 0) (.skips 11 (.cons xSurveys (.cons (dI .i64) (.last (dI .i64) 21))))))))))))  (.flat 31 lBulbs .nil)
def X_lib := DecX.or (DecX.one .ret [6] (DecS.mk1 (.skips 6 (.last (dI .i64) 57)))) (DecX.one (.exit 3) [4, 26, 27, 28] (DecS.mk0 (.skips 4 (.unit (dLp 0 0 0 0) (.skips 21 (.cons (dRow2 1 lList) (.unit (dIl 2) (.unit (dIl 0) (.tops 35))))))) (.flat 31 lBulbs .nil)))
noncomputable def K.st_lib := loopT1 P BKY11 30 48 121 [42, 10, 4, 40, 26, 27, 28, 41] S_lib X_lib
theorem sl_lib : ∀ s, (K.st_lib) s = T.run (
  .br (decide (Prod.snd (Prod.snd (Prod.snd (Prod.snd (Prod.fst s)))) < Prod.fst (Prod.snd (Prod.snd (Prod.snd (Prod.fst s)))))) (
    .chk (decide ((0 : Int) ≤ Prod.snd (Prod.snd (Prod.snd (Prod.snd (Prod.fst s)))) ∧ Prod.snd (Prod.snd (Prod.snd (Prod.snd (Prod.fst s)))) < (↑(XS.len (Prod.fst (Prod.snd (Prod.snd (Prod.fst s))))) : Int))) <|
    .br (check (Prod.fst (Prod.snd s), svy (Prod.fst (Prod.snd (Prod.snd (Prod.fst s)))) (Int.toNat (Prod.snd (Prod.snd (Prod.snd (Prod.snd (Prod.fst s))))))) != (0 : Int)) (
      .ret (Sum.inr (Sum.inl (check (Prod.fst (Prod.snd s), svy (Prod.fst (Prod.snd (Prod.snd (Prod.fst s)))) (Int.toNat (Prod.snd (Prod.snd (Prod.snd (Prod.snd (Prod.fst s))))))))))) (
      .br (decide (Prod.snd (find_lst1 (svy (Prod.fst (Prod.snd (Prod.snd (Prod.fst s)))) (Int.toNat (Prod.snd (Prod.snd (Prod.snd (Prod.snd (Prod.fst s))))))) (Prod.fst (Prod.fst s))) < Prod.snd (Prod.snd (Prod.snd (Prod.snd (Prod.fst s)))))) (
        .ret (Sum.inr (Sum.inl (6 : Int)))) (
        .ret (Sum.inl ((Prod.fst (Prod.fst s), Prod.fst (Prod.snd (Prod.fst s)), Prod.fst (Prod.snd (Prod.snd (Prod.fst s))), Prod.fst (Prod.snd (Prod.snd (Prod.snd (Prod.fst s)))), IntKind.wrap IntKind.i64 (Prod.snd (Prod.snd (Prod.snd (Prod.snd (Prod.fst s)))) + (1 : Int))), Prod.fst (Prod.snd s), PUnit.unit))))) (
    .ret (Sum.inr (Sum.inr ((Prod.fst (Prod.snd (Prod.fst s)), PUnit.unit), Prod.fst (Prod.snd s), PUnit.unit))))) := fun s => by kernel_rfl
noncomputable def K.L_lib := lim K.st_lib
theorem K.L_lib_eq (x : XS) (d : XS × XS) (b : Bulbs) : K.L_lib ((x, d, x, (len x : Int), 0), b, ()) = some (K.orr Sum.inl (.inr ((d, ()), b, ())) ((List.range (len x)).findSome? (svyE b x))) := by
  have e1 := K.len_le x; have e2 := K.len_le' x
  refine lim_err (fun i => ((x, d, x, (len x : Int), (i : Int)), b, ())) (len x) (svyE b x) Sum.inl (Sum.inr ((d, ()), b, ())) (fun i hi => ?_) ?_
  · rw [sl_lib]
    unfold svyE; simp only [orr_ite2]
    rw [T.run_br, if_pos (by simp only [decide_eq_true_eq]; omega)]
    refine chk_step (by simp only [decide_eq_true_eq]; omega) ?_
    refine br_step (fun _ => rfl) (fun _ => ?_)
    refine br_step (fun _ => rfl) (fun _ => ?_)
    rw [T.run_ret, w64_in (n := (i : Int) + 1) (by omega) (by omega)]; rfl
  · rw [sl_lib]
    simp only [T.run_br, T.run_chk, T.run_ret, decide_eq_true_eq]
    rw [if_neg (by omega)]
noncomputable def BKY12 : Tab := BKY11.addNode 48 121 (nodeE [42, 10, 4, 40, 26, 27, 28, 41] S_lib X_lib (fun s => .obs (K.L_lib s) .ret))
theorem tKY12 : TabOk P BKY12 := TabOk.addLoop (d := 30) okP tKY11 (by kernel_rfl) (by kernel_rfl) (fun s r h => obs_ret h)

def S_lic := DecS.mk0 (.skips 4 (.unit (dLp 0 0 0 0) (.skips 5 (.cons xSurveys (.skips 15 (.cons (dRow2 1 lList) (.unit (dIl 2) (.unit (dIl 1) (.skips 11 (.cons xSurveys (.cons (dI .i64) (.last (dI .i64) 21))))))))))))  (.flat 31 lBulbs .nil)
def X_lic := DecX.or (DecX.one .ret [6] (DecS.mk1 (.skips 6 (.last (dI .i64) 57)))) (DecX.one (.exit 3) [4, 26, 27, 28] (DecS.mk0 (.skips 4 (.unit (dLp 0 0 0 0) (.skips 21 (.cons (dRow2 1 lList) (.unit (dIl 2) (.unit (dIl 1) (.tops 35))))))) (.flat 31 lBulbs .nil)))
noncomputable def K.st_lic := loopT1 P BKY12 30 48 121 [42, 10, 4, 40, 26, 27, 28, 41] S_lic X_lic
theorem sl_lic : ∀ s, (K.st_lic) s = T.run (
  .br (decide (Prod.snd (Prod.snd (Prod.snd (Prod.snd (Prod.fst s)))) < Prod.fst (Prod.snd (Prod.snd (Prod.snd (Prod.fst s)))))) (
    .chk (decide ((0 : Int) ≤ Prod.snd (Prod.snd (Prod.snd (Prod.snd (Prod.fst s)))) ∧ Prod.snd (Prod.snd (Prod.snd (Prod.snd (Prod.fst s)))) < (↑(XS.len (Prod.fst (Prod.snd (Prod.snd (Prod.fst s))))) : Int))) <|
    .br (check (Prod.fst (Prod.snd s), svy (Prod.fst (Prod.snd (Prod.snd (Prod.fst s)))) (Int.toNat (Prod.snd (Prod.snd (Prod.snd (Prod.snd (Prod.fst s))))))) != (0 : Int)) (
      .ret (Sum.inr (Sum.inl (check (Prod.fst (Prod.snd s), svy (Prod.fst (Prod.snd (Prod.snd (Prod.fst s)))) (Int.toNat (Prod.snd (Prod.snd (Prod.snd (Prod.snd (Prod.fst s))))))))))) (
      .br (decide (Prod.snd (find_lst1 (svy (Prod.fst (Prod.snd (Prod.snd (Prod.fst s)))) (Int.toNat (Prod.snd (Prod.snd (Prod.snd (Prod.snd (Prod.fst s))))))) (Prod.fst (Prod.fst s))) < Prod.snd (Prod.snd (Prod.snd (Prod.snd (Prod.fst s)))))) (
        .ret (Sum.inr (Sum.inl (6 : Int)))) (
        .ret (Sum.inl ((Prod.fst (Prod.fst s), Prod.fst (Prod.snd (Prod.fst s)), Prod.fst (Prod.snd (Prod.snd (Prod.fst s))), Prod.fst (Prod.snd (Prod.snd (Prod.snd (Prod.fst s)))), IntKind.wrap IntKind.i64 (Prod.snd (Prod.snd (Prod.snd (Prod.snd (Prod.fst s)))) + (1 : Int))), Prod.fst (Prod.snd s), PUnit.unit))))) (
    .ret (Sum.inr (Sum.inr ((Prod.fst (Prod.snd (Prod.fst s)), PUnit.unit), Prod.fst (Prod.snd s), PUnit.unit))))) := fun s => by kernel_rfl
noncomputable def K.L_lic := lim K.st_lic
theorem K.L_lic_eq (x : XS) (d : XS × XS) (b : Bulbs) : K.L_lic ((x, d, x, (len x : Int), 0), b, ()) = some (K.orr Sum.inl (.inr ((d, ()), b, ())) ((List.range (len x)).findSome? (svyE b x))) := by
  have e1 := K.len_le x; have e2 := K.len_le' x
  refine lim_err (fun i => ((x, d, x, (len x : Int), (i : Int)), b, ())) (len x) (svyE b x) Sum.inl (Sum.inr ((d, ()), b, ())) (fun i hi => ?_) ?_
  · rw [sl_lic]
    unfold svyE; simp only [orr_ite2]
    rw [T.run_br, if_pos (by simp only [decide_eq_true_eq]; omega)]
    refine chk_step (by simp only [decide_eq_true_eq]; omega) ?_
    refine br_step (fun _ => rfl) (fun _ => ?_)
    refine br_step (fun _ => rfl) (fun _ => ?_)
    rw [T.run_ret, w64_in (n := (i : Int) + 1) (by omega) (by omega)]; rfl
  · rw [sl_lic]
    simp only [T.run_br, T.run_chk, T.run_ret, decide_eq_true_eq]
    rw [if_neg (by omega)]
noncomputable def BKY13 : Tab := BKY12.addNode 48 121 (nodeE [42, 10, 4, 40, 26, 27, 28, 41] S_lic X_lic (fun s => .obs (K.L_lic s) .ret))
theorem tKY13 : TabOk P BKY13 := TabOk.addLoop (d := 30) okP tKY12 (by kernel_rfl) (by kernel_rfl) (fun s r h => obs_ret h)

theorem fn_li1 : ∀ a, (callT1 P BKY13 30 48 D_li1 R_i) a = T.run (
  .br (hullCheck (Prod.fst a) != (0 : Int)) (
    .ret (hullCheck (Prod.fst a))) (
    .br (CheckBulbs (Prod.fst (Prod.snd a)) != (0 : Int)) (
      .ret (CheckBulbs (Prod.fst (Prod.snd a)))) (
      .br ((↑(len (Prod.snd (Prod.snd a))) : Int) == (0 : Int)) (
        .ret ((5 : Int))) (
        .br (decide ((↑(len (Prod.snd (Prod.snd a))) : Int) > (12 : Int))) (
          .ret ((2 : Int))) (
          .obs (L_lia ((Prod.snd (Prod.snd a), Prod.snd (Prod.snd a), Prod.snd (Prod.snd a), (↑(len (Prod.snd (Prod.snd a))) : Int), (0 : Int)), Prod.fst (Prod.snd a), PUnit.unit)) fun x0 =>
            .sum (x0) (fun x1 =>
              .ret (x1)) (fun x1 =>
              .ret ((0 : Int)))))))) := fun a => by kernel_rfl
theorem fn_li2 : ∀ a, (callT1 P BKY13 30 48 D_li2 R_i) a = T.run (
  .br (hullCheck (Prod.fst a) != (0 : Int)) (
    .ret (hullCheck (Prod.fst a))) (
    .br (CheckBulbs (Prod.fst (Prod.snd a)) != (0 : Int)) (
      .ret (CheckBulbs (Prod.fst (Prod.snd a)))) (
      .br ((↑(len (Prod.fst (Prod.snd (Prod.snd a)))) : Int) == (0 : Int)) (
        .ret ((5 : Int))) (
        .br (decide ((↑(len (Prod.fst (Prod.snd (Prod.snd a)))) : Int) > (12 : Int))) (
          .ret ((2 : Int))) (
          .obs (L_lib ((Prod.fst (Prod.snd (Prod.snd a)), Prod.snd (Prod.snd a), Prod.fst (Prod.snd (Prod.snd a)), (↑(len (Prod.fst (Prod.snd (Prod.snd a)))) : Int), (0 : Int)), Prod.fst (Prod.snd a), PUnit.unit)) fun x0 =>
            .sum (x0) (fun x1 =>
              .ret (x1)) (fun x1 =>
              .br ((↑(len (Prod.snd (Prod.fst (Prod.fst x1)))) : Int) == (0 : Int)) (
                .ret ((5 : Int))) (
                .br (decide ((↑(len (Prod.snd (Prod.fst (Prod.fst x1)))) : Int) > (12 : Int))) (
                  .ret ((2 : Int))) (
                  .obs (L_lic ((Prod.snd (Prod.fst (Prod.fst x1)), Prod.fst (Prod.fst x1), Prod.snd (Prod.fst (Prod.fst x1)), (↑(len (Prod.snd (Prod.fst (Prod.fst x1)))) : Int), (0 : Int)), Prod.fst (Prod.snd x1), PUnit.unit)) fun x2 =>
                    .sum (x2) (fun x3 =>
                      .ret (x3)) (fun x3 =>
                      .ret ((0 : Int))))))))))) := fun a => by kernel_rfl
end Go.Proofs.YtkajafmphemedaaGreat
/-! KY2 -/
namespace Go.Proofs.YtkajafmphemedaaGreat
open Ev K
set_option maxRecDepth 100000
/-- The error of a list. -/
noncomputable def K.listO (b : Bulbs) (x : XS) : Option Int := if ((len x : Int) == 0) = true then some 5 else if decide ((len x : Int) > 12) = true then some 2 else (List.range (len x)).findSome? (svyE b x)
noncomputable def K.listed1 (a : Ship × Bulbs × XS) : Int := if (hullCheck a.1 != 0) = true then hullCheck a.1 else if (CheckBulbs a.2.1 != 0) = true then CheckBulbs a.2.1 else K.orr id 0 (listO a.2.1 a.2.2)
noncomputable def K.listed2 (a : Ship × Bulbs × XS × XS) : Int := if (hullCheck a.1 != 0) = true then hullCheck a.1 else if (CheckBulbs a.2.1 != 0) = true then CheckBulbs a.2.1 else K.orr id (K.orr id 0 (listO a.2.1 a.2.2.2)) (listO a.2.1 a.2.2.1)
theorem K.listed1_eq (a : Ship × Bulbs × XS) : callT1 P BKY13 30 48 D_li1 R_i a = some (listed1 a) := by
  rw [fn_li1]; unfold listed1 listO; simp only [orr_ite2]
  refine br_step (fun _ => rfl) (fun _ => ?_)
  refine br_step (fun _ => rfl) (fun _ => ?_)
  refine br_step (fun _ => rfl) (fun _ => ?_)
  refine br_step (fun _ => rfl) (fun _ => ?_)
  rw [L_lia_eq]
  cases (List.range (len a.2.2)).findSome? (svyE a.2.1 a.2.2) <;> rfl
theorem K.listed2_eq (a : Ship × Bulbs × XS × XS) : callT1 P BKY13 30 48 D_li2 R_i a = some (listed2 a) := by
  rw [fn_li2]; unfold listed2 listO; simp only [orr_ite2]
  refine br_step (fun _ => rfl) (fun _ => ?_)
  refine br_step (fun _ => rfl) (fun _ => ?_)
  refine br_step (fun _ => rfl) (fun _ => ?_)
  refine br_step (fun _ => rfl) (fun _ => ?_)
  rw [L_lib_eq]
  cases (List.range (len a.2.2.1)).findSome? (svyE a.2.1 a.2.2.1) with
  | some e => rfl
  | none =>
    simp only [K.orr, T.run_some, T.run_inr]
    refine br_step (fun _ => rfl) (fun _ => ?_)
    refine br_step (fun _ => rfl) (fun _ => ?_)
    rw [L_lic_eq]
    cases (List.range (len a.2.2.2)).findSome? (svyE a.2.1 a.2.2.2) <;> rfl
noncomputable def BKY21 : Tab := BKY13.addCall 48 (callE D_li1 R_i (fun a => .ret (listed1 a)))
theorem tKY21 : TabOk P BKY21 := TabOk.addPC tKY13 (fun a r h => by rw [← ret_some h]; exact call_of okP tKY13 (listed1_eq a))
noncomputable def BKY22 : Tab := BKY21.addCall 48 (callE D_li2 R_i (fun a => .ret (listed2 a)))
theorem tKY22 : TabOk P BKY22 := TabOk.addPC tKY21 (fun a r h => by rw [← ret_some h]; exact call_of okP tKY13 (listed2_eq a))
/-! masses -/
def V_mss : DecL (XS × Ship × Bulbs) := DecL.cons (dP 1 (.last xSurveys 0) 0) (.cons (dP 11 lShip 0) (.last (dP 2 lBulbs 0) 0))
def eMass (p : Int × Span) : List AV := [.int .i64 p.1, dSpan.enc p.2]
def S_mss := DecS.yld (.unit dYv (.skip (.cons (dP 11 lShip 0) (.cons (dP 2 lBulbs 0) (.skips 3 (.cons xSurveys (.cons (dI .i64) (.last (dI .i64) 13)))))))) .nil
def X_mss := DecX.or (DecX.one .ret [] (DecS.yld (.tops 23) .nil)) (DecX.one (.exit 0) [] (DecS.yld (.tops 23) .nil))
noncomputable def K.st_mss := loopT1 P BKY22 30 116 9 [9, 3, 2, 0, 7, 8] S_mss X_mss
theorem sl_mss : ∀ s, (K.st_mss) s = T.run (
  .br (decide (Prod.snd (Prod.snd (Prod.snd (Prod.snd (Prod.fst s)))) < Prod.fst (Prod.snd (Prod.snd (Prod.snd (Prod.fst s)))))) (
    .chk (decide ((0 : Int) ≤ Prod.snd (Prod.snd (Prod.snd (Prod.snd (Prod.fst s)))) ∧ Prod.snd (Prod.snd (Prod.snd (Prod.snd (Prod.fst s)))) < (↑(XS.len (Prod.fst (Prod.snd (Prod.snd (Prod.fst s))))) : Int))) <|
    .chk (massOk (Prod.fst (Prod.fst s)) (svy (Prod.fst (Prod.snd (Prod.snd (Prod.fst s)))) (Int.toNat (Prod.snd (Prod.snd (Prod.snd (Prod.snd (Prod.fst s)))))))) <|
    .br (!Prod.fst (Prod.snd (Prod.snd s)) (List.length (Prod.snd (Prod.snd (Prod.snd s))))) (
      .ret (Sum.inr (Sum.inl (PUnit.unit, PUnit.unit, Prod.fst (Prod.snd (Prod.snd s)), ([AV.int IntKind.i64 (XS.g (Prod.fst (Prod.snd (Prod.snd (Prod.fst s)))) (Int.toNat (Prod.snd (Prod.snd (Prod.snd (Prod.snd (Prod.fst s)))))) (0 : Nat)), AV.agg [AV.int IntKind.i64 (Span.lo (massOf (Prod.fst (Prod.fst s)) (Prod.fst (Prod.snd (Prod.fst s))) (svy (Prod.fst (Prod.snd (Prod.snd (Prod.fst s)))) (Int.toNat (Prod.snd (Prod.snd (Prod.snd (Prod.snd (Prod.fst s))))))))), AV.int IntKind.i64 (Span.hi (massOf (Prod.fst (Prod.fst s)) (Prod.fst (Prod.snd (Prod.fst s))) (svy (Prod.fst (Prod.snd (Prod.snd (Prod.fst s)))) (Int.toNat (Prod.snd (Prod.snd (Prod.snd (Prod.snd (Prod.fst s)))))))))]], Prod.fst (Prod.snd (Prod.snd s)) (List.length (Prod.snd (Prod.snd (Prod.snd s))))) :: Prod.snd (Prod.snd (Prod.snd s)))))) (
      .ret (Sum.inl ((Prod.fst (Prod.fst s), Prod.fst (Prod.snd (Prod.fst s)), Prod.fst (Prod.snd (Prod.snd (Prod.fst s))), Prod.fst (Prod.snd (Prod.snd (Prod.snd (Prod.fst s)))), IntKind.wrap IntKind.i64 (Prod.snd (Prod.snd (Prod.snd (Prod.snd (Prod.fst s)))) + (1 : Int))), PUnit.unit, Prod.fst (Prod.snd (Prod.snd s)), ([AV.int IntKind.i64 (XS.g (Prod.fst (Prod.snd (Prod.snd (Prod.fst s)))) (Int.toNat (Prod.snd (Prod.snd (Prod.snd (Prod.snd (Prod.fst s)))))) (0 : Nat)), AV.agg [AV.int IntKind.i64 (Span.lo (massOf (Prod.fst (Prod.fst s)) (Prod.fst (Prod.snd (Prod.fst s))) (svy (Prod.fst (Prod.snd (Prod.snd (Prod.fst s)))) (Int.toNat (Prod.snd (Prod.snd (Prod.snd (Prod.snd (Prod.fst s))))))))), AV.int IntKind.i64 (Span.hi (massOf (Prod.fst (Prod.fst s)) (Prod.fst (Prod.snd (Prod.fst s))) (svy (Prod.fst (Prod.snd (Prod.snd (Prod.fst s)))) (Int.toNat (Prod.snd (Prod.snd (Prod.snd (Prod.snd (Prod.fst s)))))))))]], Prod.fst (Prod.snd (Prod.snd s)) (List.length (Prod.snd (Prod.snd (Prod.snd s))))) :: Prod.snd (Prod.snd (Prod.snd s)))))) (
    .ret (Sum.inr (Sum.inr (PUnit.unit, PUnit.unit, Prod.snd (Prod.snd s)))))) := fun s => by kernel_rfl
noncomputable def K.L_mss := lim K.st_mss
noncomputable def BKY23 : Tab := BKY22.addNode 116 9 (nodeE [9, 3, 2, 0, 7, 8] S_mss X_mss (fun s => .obs (K.L_mss s) .ret))
theorem tKY23 : TabOk P BKY23 := TabOk.addLoop (d := 30) okP tKY22 (by kernel_rfl) (by kernel_rfl) (fun s r h => obs_ret h)
noncomputable def I_mss (a : XS × Ship × Bulbs) (bs : Nat → Bool) := iterT1 P BKY23 30 116 [] (V_mss.enc a) bs
theorem it_mss : ∀ a bs, (I_mss) a bs = T.run (
  .obs (L_mss ((Prod.fst (Prod.snd a), Prod.snd (Prod.snd a), Prod.fst a, (↑(len (Prod.fst a)) : Int), (0 : Int)), PUnit.unit, bs, [])) fun x0 =>
    .sum (x0) (fun x1 =>
      .ret (List.reverse (Prod.snd (Prod.snd (Prod.snd x1))))) (fun x1 =>
      .ret (List.reverse (Prod.snd (Prod.snd (Prod.snd x1)))))) := fun a bs => by kernel_rfl
end Go.Proofs.YtkajafmphemedaaGreat
/-! KY3 -/
namespace Go.Proofs.YtkajafmphemedaaGreat
open Ev K
set_option maxRecDepth 100000
noncomputable def K.massesL (s : Ship) (b : Bulbs) (x : XS) : List (Int × Span) := (List.range (len x)).map fun i => ((svy x i).id, massOf s b (svy x i))
noncomputable def K.massesOk (s : Ship) (x : XS) : Bool := (List.range (len x)).all fun i => massOk s (svy x i)
theorem K.massesOk_at {s : Ship} {x : XS} (h : massesOk s x = true) {i : Nat} (hi : i < len x) : massOk s (svy x i) = true := List.all_eq_true.1 h i (List.mem_range.2 hi)
section
variable (s : Ship) (b : Bulbs) (x : XS) {bs : Nat → Bool} (ok : massesOk s x = true)
abbrev K.Sm (s : Ship) (b : Bulbs) (x : XS) (bs : Nat → Bool) (i : Nat) (out : List (List AV × Bool)) := ((s, b, x, (len x : Int), (i : Int)), PUnit.unit, bs, out)
noncomputable abbrev K.em (s : Ship) (b : Bulbs) (x : XS) (i : Nat) : List AV := eMass ((svy x i).id, massOf s b (svy x i))
include ok
theorem mss_y (i : Nat) (hi : i < K.len x) (out : List (List AV × Bool)) (hb : bs out.length = true) : st_mss (Sm s b x bs i out) = some (.inl (Sm s b x bs (i + 1) ((em s b x i, true) :: out))) := by
  have e1 := K.len_le x; have e2 := K.len_le' x
  rw [sl_mss]
  refine Eq.trans (T.run_br _ _ _) ?_
  rw [if_pos (by simp only [decide_eq_true_eq]; omega)]
  refine chk_step (by simp only [decide_eq_true_eq]; omega) (chk_step (by rw [Int.toNat_natCast]; exact massesOk_at ok hi) ?_)
  simp only [T.run_br, T.run_ret, hb]
  rw [if_neg (by simp), w64_in (by omega) (by omega)]
  rfl
theorem mss_s (i : Nat) (hi : i < K.len x) (out : List (List AV × Bool)) (hb : bs out.length = false) : st_mss (Sm s b x bs i out) = some (.inr (.inl ((), (), bs, (em s b x i, false) :: out))) := by
  have e1 := K.len_le x; have e2 := K.len_le' x
  rw [sl_mss]
  refine Eq.trans (T.run_br _ _ _) ?_
  rw [if_pos (by simp only [decide_eq_true_eq]; omega)]
  refine chk_step (by simp only [decide_eq_true_eq]; omega) (chk_step (by rw [Int.toNat_natCast]; exact massesOk_at ok hi) ?_)
  simp only [T.run_br, T.run_ret, hb]
  rw [if_pos (by simp)]
  rfl
omit ok in
theorem mss_e (out) : st_mss (Sm s b x bs (K.len x) out) = some (.inr (.inr ((), (), bs, out))) := by
  rw [sl_mss]
  simp only [T.run_br, T.run_chk, T.run_ret, decide_eq_true_eq]
  rw [if_neg (by omega)]
theorem icl_mss : ICL P 116 [] (V_mss.enc (x, s, b)) ((massesL s b x).map eMass) := by
  refine iter_of okP tKY23  (d := 30) ?_ (fun m y hy => ?_)
  · show I_mss (x, s, b) _ = _
    rw [it_mss]
    show T.run (.obs (lim st_mss (Sm s b x _ 0 [])) _) = _
    rw [lim_yields_all (Sm s b x _) (n := K.len x) (fun _ => true) (em s b x) (fun o => Sum.inr ((), (), (fun _ => true), o)) (fun i hi out hp => by cases hp) (fun i hi out hp hb => mss_y s b x ok i hi out hb) (fun out => mss_e s b x out) (fun _ => rfl) (K.len x) 0 [] (by omega)]
    simp only [T.run_some, T.run_inr, T.run_ret, List.append_nil, List.reverse_reverse, massesL, List.map_map, ← List.range_eq_range', filter_all]
    rfl
  · show I_mss (x, s, b) _ = _
    rw [it_mss]
    show T.run (.obs (lim st_mss (Sm s b x _ 0 [])) _) = _
    have hy' : (((List.range' 0 (K.len x)).filter (fun _ => true)).map (em s b x))[m - ([] : List (List AV × Bool)).length]? = some y := by
      rw [← List.range_eq_range']; simpa [massesL, List.map_map, Function.comp_def, filter_all] using hy
    rw [lim_yields_stop (Sm s b x _) (n := K.len x) (fun _ => true) (em s b x) (fun o => Sum.inl ((), (), (fun k => !(Nat.beq k m)), o)) (fun i hi out hp => by cases hp) (fun i hi out hp hb => mss_y s b x ok i hi out hb) (fun i hi out hp hb => mss_s s b x ok i hi out hb) (fun _ => rfl) (K.len x) 0 [] (by omega) (by simp) hy']
    simp only [T.run_some, T.run_inl, T.run_ret, List.append_nil, List.reverse_cons, List.reverse_reverse, List.length_nil, Nat.sub_zero, ← List.range_eq_range', massesL, List.map_map, filter_all]
    rfl
end
def D_mss := DecL.cons (dShip) (.cons (dBulbs) (.last (dX 18 [.int .i64, .int .i64, .int .i64, .int .i64, .int .i64, .int .i64, .int .i64, .int .i64, .int .i64, .int .i64, .int .i64, .int .i64, .int .i64, .int .i64, .int .i64, .int .i64, .int .i64, .int .i64]) 0))
def R_mss := dFn 116 V_mss
theorem fn_mss : ∀ a, (callT1 P BKY23 30 55 D_mss R_mss) a = T.run (
  .ret ((Prod.snd (Prod.snd a), Prod.fst a, Prod.fst (Prod.snd a)))) := fun a => by kernel_rfl
noncomputable def BKY31 : Tab := BKY23.addCall 55 (callE D_mss R_mss (fun a => .ret (a.2.2, a.1, a.2.1)))
theorem tKY31 : TabOk P BKY31 := TabOk.addFn (d := 30) okP tKY23 (fun a r h => by rw [fn_mss]; exact h)
def S_tog := DecS.mk0 (.skips 6 (.unit (dLp 0 0 0 0) (.unit (dLp 1 0 0 0) (.skips 10 (.last R_mss 6))))) (.flat 38 lSpan (.flat 38 lSpan .nil))
noncomputable def K.st_tog := rangeT1 P BKY31 30 49 25 [18, 6, 7] S_tog DecX.no eMass
theorem rg_tog : ∀ s x, (K.st_tog) s x = T.run (
  .ret (Sum.inl (Prod.fst s, Prod.fst (Prod.snd s), meet (Prod.fst (Prod.snd (Prod.snd s))) (Prod.snd x), PUnit.unit))) := fun s x => by kernel_rfl
theorem st_tog_eq (s) (p : Int × Span) : st_tog s p = some (.inl (s.1, s.2.1, meet s.2.2.1 p.2, ())) := by
  rw [rg_tog]; rfl
theorem fold_tog (L : List (Int × Span)) (a : XS × Ship × Bulbs) (r c : Span) : L.foldl (fun (s : (XS × Ship × Bulbs) × Span × Span × Unit) p => (s.1, s.2.1, meet s.2.2.1 p.2, ())) (a, r, c, ()) = (a, r, L.foldl (fun c p => meet c p.2) c, ()) := by
  induction L generalizing c with
  | nil => rfl
  | cons x L ih => simp only [List.foldl_cons]; exact ih _
noncomputable def BKY32 : Tab := BKY31.addNode 49 25 (rangeE [18, 6, 7] S_tog DecX.no (fun s => .chk (massesOk s.1.2.1 s.1.1) (.ret (.inl (s.1, s.2.1, (massesL s.1.2.1 s.1.2.2 s.1.1).foldl (fun c p => meet c p.2) s.2.2.1, ())))))
theorem tKY32 : TabOk P BKY32 := TabOk.addRange (d := 30) (enc := eMass) (L := (fun s => massesL s.1.2.1 s.1.2.2 s.1.1)) okP tKY31 (by kernel_rfl) (by kernel_rfl) (fun s r h => ⟨_, _, _, (by kernel_rfl : _ = some (116, [], V_mss.enc s.1)), icl_mss s.1.2.1 s.1.2.2 s.1.1 (chk_ret h).1⟩) (fun s r h => by have e := (chk_ret h).2; subst e; rw [← fold_tog]; exact foldS_total st_tog_eq _ _)
def D_tog := D_mss
theorem fn_tog : ∀ a, (callT1 P BKY32 30 49 D_tog dSpan) a = T.run (
  .chk (massesOk (Prod.fst a) (Prod.snd (Prod.snd a))) <|
  .ret (List.foldl (fun c p => meet c (Prod.snd p)) (Span.mk (Ship.light (Prod.fst a)) (rooms (Prod.fst a))) (massesL (Prod.fst a) (Prod.fst (Prod.snd a)) (Prod.snd (Prod.snd a))))) := fun a => by kernel_rfl
noncomputable def K.togetherOf (s : Ship) (b : Bulbs) (x : XS) : Span := (massesL s b x).foldl (fun c p => meet c p.2) ⟨s.light, rooms s⟩
noncomputable def BKY33 : Tab := BKY32.addCall 49 (callE D_tog dSpan (fun a => .chk (massesOk a.1 a.2.2) (.ret (togetherOf a.1 a.2.1 a.2.2))))
theorem tKY33 : TabOk P BKY33 := TabOk.addFn (d := 30) okP tKY32 (fun a r h => by rw [fn_tog]; exact h)
theorem fn_Tog : ∀ a, (callT1 P BKY33 30 16 D_tog R_off) a = T.run (
  .br (listed1 a != (0 : Int)) (
    .ret ((Span.mk (0 : Int) (0 : Int), listed1 a))) (
    .chk (massesOk (Prod.fst a) (Prod.snd (Prod.snd a))) <|
    .br (void (togetherOf (Prod.fst a) (Prod.fst (Prod.snd a)) (Prod.snd (Prod.snd a)))) (
      .ret ((Span.mk (0 : Int) (0 : Int), (9 : Int)))) (
      .ret ((togetherOf (Prod.fst a) (Prod.fst (Prod.snd a)) (Prod.snd (Prod.snd a)), (0 : Int)))))) := fun a => by kernel_rfl
end Go.Proofs.YtkajafmphemedaaGreat
/-! KY4 -/
namespace Go.Proofs.YtkajafmphemedaaGreat
open Ev K
set_option maxRecDepth 100000
def D_rls := DecL.cons dBulbs (.last xSurveys 0)
def S_rlk := DecS.mk0 (.skip (.cons xSurveys (.unit (dLp 0 0 0 0) (.skips 2 (.cons (dI .i64) (.skip (.last (dI .i64) 37))))))) (.flat 31 lBulbs .nil)
def X_rlk := DecX.or (DecX.one .ret [4] (DecS.mk1 (.skips 4 (.last (dI .i64) 40)))) (DecX.one (.exit 2) [7, 5, 1, 2] S_rlk)
noncomputable def K.st_rlk := loopT1 P BKY33 30 52 97 [7, 5, 1, 2] S_rlk X_rlk
theorem sl_rlk : ∀ s, (K.st_rlk) s = T.run (
  .br (decide (Prod.snd (Prod.snd (Prod.fst s)) < Prod.fst (Prod.snd (Prod.fst s)))) (
    .chk (decide ((0 : Int) ≤ Prod.snd (Prod.snd (Prod.fst s)) ∧ Prod.snd (Prod.snd (Prod.fst s)) < (↑(XS.len (Prod.fst (Prod.fst s))) : Int))) <|
    .chk (decide ((0 : Int) ≤ Prod.fst (Prod.snd (Prod.fst s)) ∧ Prod.fst (Prod.snd (Prod.fst s)) < (↑(XS.len (Prod.fst (Prod.fst s))) : Int))) <|
    .br (XS.g (Prod.fst (Prod.fst s)) (Int.toNat (Prod.snd (Prod.snd (Prod.fst s)))) (0 : Nat) == XS.g (Prod.fst (Prod.fst s)) (Int.toNat (Prod.fst (Prod.snd (Prod.fst s)))) (0 : Nat)) (
      .ret (Sum.inr (Sum.inl (6 : Int)))) (
      .ret (Sum.inl ((Prod.fst (Prod.fst s), Prod.fst (Prod.snd (Prod.fst s)), IntKind.wrap IntKind.i64 (Prod.snd (Prod.snd (Prod.fst s)) + (1 : Int))), Prod.fst (Prod.snd s), PUnit.unit)))) (
    .ret (Sum.inr (Sum.inr (Prod.fst s, Prod.fst (Prod.snd s), PUnit.unit))))) := fun s => by kernel_rfl
noncomputable def K.L_rlk := lim K.st_rlk
def K.p_rlk (x : XS) (i k : Nat) : Bool := x.g k 0 == x.g i 0
theorem K.L_rlk_eq (x : XS) (b : Bulbs) (i : Nat) (hi : i < len x) : K.L_rlk ((x, (i : Int), 0), b, ()) = some (match first (p_rlk x i) i with | some _ => Sum.inl 6 | none => Sum.inr ((x, (i : Int), (i : Int)), b, ())) := by
  have e1 := K.len_le x; have e2 := K.len_le' x
  refine lim_find (fun k => ((x, (i : Int), (k : Int)), b, ())) i (p_rlk x i) (fun _ => Sum.inl 6) (Sum.inr ((x, (i : Int), (i : Int)), b, ())) (fun k hk hp => ?_) (fun k hk hp => ?_) ?_
  · rw [sl_rlk]; unfold p_rlk at hp
    have c1 : (0 : Int) ≤ k ∧ (k : Int) < x.len := by omega
    have c2 : (0 : Int) ≤ i ∧ (i : Int) < x.len := by omega
    simp only [T.run_br, T.run_chk, T.run_ret, decide_eq_true_eq, Int.toNat_natCast, if_pos c1, if_pos c2]
    rw [if_pos (by omega), if_pos hp]
  · rw [sl_rlk]; unfold p_rlk at hp
    have c1 : (0 : Int) ≤ k ∧ (k : Int) < x.len := by omega
    have c2 : (0 : Int) ≤ i ∧ (i : Int) < x.len := by omega
    simp only [T.run_br, T.run_chk, T.run_ret, decide_eq_true_eq, Int.toNat_natCast, if_pos c1, if_pos c2]
    rw [if_pos (by omega), if_neg (by rw [hp]; decide), w64_in (by omega) (by omega)]; rfl
  · rw [sl_rlk]
    simp only [T.run_br, T.run_chk, T.run_ret, decide_eq_true_eq]
    rw [if_neg (by omega)]
noncomputable def BKY41 : Tab := BKY33.addNode 52 97 (nodeE [7, 5, 1, 2] S_rlk X_rlk (fun s => .obs (K.L_rlk s) .ret))
theorem tKY41 : TabOk P BKY41 := TabOk.addLoop (d := 30) okP tKY33 (by kernel_rfl) (by kernel_rfl) (fun s r h => obs_ret h)
def S_rls := DecS.mk0 (.skip (.cons xSurveys (.unit (dLp 0 0 0 0) (.skips 2 (.last (dI .i64) 39))))) (.flat 31 lBulbs .nil)
def X_rls := DecX.or (DecX.one .ret [4] (DecS.mk1 (.skips 4 (.last (dI .i64) 40)))) (DecX.one (.exit 0) [5, 1, 2] S_rls)
noncomputable def K.st_rls := loopT1 P BKY41 30 52 49 [5, 1, 2] S_rls X_rls
theorem sl_rls : ∀ s, (K.st_rls) s = T.run (
  .br (decide (Prod.snd (Prod.fst s) < (↑(len (Prod.fst (Prod.fst s))) : Int))) (
    .chk (decide ((0 : Int) ≤ Prod.snd (Prod.fst s) ∧ Prod.snd (Prod.fst s) < (↑(XS.len (Prod.fst (Prod.fst s))) : Int))) <|
    .br (r_check (Prod.fst (Prod.snd s)) (svy (Prod.fst (Prod.fst s)) (Int.toNat (Prod.snd (Prod.fst s)))) != (0 : Int)) (
      .ret (Sum.inr (Sum.inl (r_check (Prod.fst (Prod.snd s)) (svy (Prod.fst (Prod.fst s)) (Int.toNat (Prod.snd (Prod.fst s)))))))) (
      .obs (L_rlk ((Prod.fst (Prod.fst s), Prod.snd (Prod.fst s), (0 : Int)), Prod.fst (Prod.snd s), PUnit.unit)) fun x0 =>
        .sum (x0) (fun x1 =>
          .ret (Sum.inr (Sum.inl x1))) (fun x1 =>
          .ret (Sum.inl ((Prod.fst (Prod.fst x1), IntKind.wrap IntKind.i64 (Prod.fst (Prod.snd (Prod.fst x1)) + (1 : Int))), Prod.fst (Prod.snd x1), PUnit.unit))))) (
    .ret (Sum.inr (Sum.inr (Prod.fst s, Prod.fst (Prod.snd s), PUnit.unit))))) := fun s => by kernel_rfl
noncomputable def K.L_rls := lim K.st_rls
noncomputable def K.e_rls (b : Bulbs) (x : XS) (i : Nat) : Option Int := if (r_check b (svy x i) != 0) = true then some (r_check b (svy x i)) else if (first (p_rlk x i) i).isSome = true then some 6 else none
theorem K.L_rls_eq (x : XS) (b : Bulbs) : K.L_rls ((x, 0), b, ()) = some (K.orr Sum.inl (.inr ((x, (len x : Int)), b, ())) ((List.range (len x)).findSome? (e_rls b x))) := by
  have e1 := K.len_le x; have e2 := K.len_le' x
  refine lim_err (fun i => ((x, (i : Int)), b, ())) (len x) (e_rls b x) Sum.inl (Sum.inr ((x, (len x : Int)), b, ())) (fun i hi => ?_) ?_
  · rw [sl_rls]
    unfold e_rls; simp only [orr_ite2]
    rw [T.run_br, if_pos (by simp only [decide_eq_true_eq]; omega)]
    refine chk_step (by simp only [decide_eq_true_eq]; omega) ?_
    refine br_step (fun _ => rfl) (fun _ => ?_)
    show T.run (.obs (L_rlk ((x, (i : Int), 0), b, ())) _) = _
    rw [L_rlk_eq x b i hi]
    cases first (p_rlk x i) i with
    | some k => rfl
    | none =>
      simp only [T.run_some, T.run_inr, T.run_ret]
      rw [w64_in (n := (i : Int) + 1) (by omega) (by omega)]; rfl
  · rw [sl_rls]
    simp only [T.run_br, T.run_chk, T.run_ret, decide_eq_true_eq]
    rw [if_neg (by omega)]
noncomputable def BKY42 : Tab := BKY41.addNode 52 49 (nodeE [5, 1, 2] S_rls X_rls (fun s => .obs (K.L_rls s) .ret))
theorem tKY42 : TabOk P BKY42 := TabOk.addLoop (d := 30) okP tKY41 (by kernel_rfl) (by kernel_rfl) (fun s r h => obs_ret h)
theorem fn_rls : ∀ a, (callT1 P BKY42 30 52 D_rls R_i) a = T.run (
  .br ((↑(len (Prod.snd a)) : Int) == (0 : Int)) (
    .ret ((5 : Int))) (
    .br (decide ((↑(len (Prod.snd a)) : Int) > (12 : Int))) (
      .ret ((2 : Int))) (
      .obs (L_rls ((Prod.snd a, (0 : Int)), Prod.fst a, PUnit.unit)) fun x0 =>
        .sum (x0) (fun x1 =>
          .ret (x1)) (fun x1 =>
          .ret ((0 : Int)))))) := fun a => by kernel_rfl
noncomputable def K.r_listO (b : Bulbs) (x : XS) : Option Int := if ((len x : Int) == 0) = true then some 5 else if decide ((len x : Int) > 12) = true then some 2 else (List.range (len x)).findSome? (e_rls b x)
theorem K.r_listed_eq (a : Bulbs × XS) : callT1 P BKY42 30 52 D_rls R_i a = some (K.orr id 0 (r_listO a.1 a.2)) := by
  rw [fn_rls]; unfold r_listO; simp only [orr_ite2]
  refine br_step (fun _ => rfl) (fun _ => ?_)
  refine br_step (fun _ => rfl) (fun _ => ?_)
  rw [L_rls_eq]
  cases (List.range (len a.2)).findSome? (e_rls a.1 a.2) <;> rfl
noncomputable def BKY43 : Tab := BKY42.addCall 52 (callE D_rls R_i (fun a => .ret (K.orr id 0 (r_listO a.1 a.2))))
theorem tKY43 : TabOk P BKY43 := TabOk.addPC tKY42 (fun a r h => by rw [← ret_some h]; exact call_of okP tKY42 (r_listed_eq a))
theorem fn_r_asked : ∀ a, (callT1 P BKY43 30 51 D_mss R_i) a = T.run (
  .br (r_ship (Prod.fst a) != (0 : Int)) (
    .ret (r_ship (Prod.fst a))) (
    .br (r_bulbs (Prod.fst (Prod.snd a)) != (0 : Int)) (
      .ret (r_bulbs (Prod.fst (Prod.snd a)))) (
      .ret (orr (fun a => a) (0 : Int) (r_listO (Prod.fst (Prod.snd a)) (Prod.snd (Prod.snd a))))))) := fun a => by kernel_rfl
noncomputable def K.r_asked (a : Ship × Bulbs × XS) : Int := (if (r_ship (Prod.fst a) != (0 : Int)) = true then r_ship (Prod.fst a) else (if (r_bulbs (Prod.fst (Prod.snd a)) != (0 : Int)) = true then r_bulbs (Prod.fst (Prod.snd a)) else orr (fun a => a) (0 : Int) (r_listO (Prod.fst (Prod.snd a)) (Prod.snd (Prod.snd a)))))
theorem eq_r_asked (a : Ship × Bulbs × XS) : (callT1 P BKY43 30 51 D_mss R_i) a = some (K.r_asked a) := (fn_r_asked a).trans (T.br_some rfl (T.br_some rfl rfl))
noncomputable def BKY44 : Tab := BKY43.addCall 51 (callE D_mss R_i (fun a => .ret (K.r_asked a)))
theorem tKY44 : TabOk P BKY44 := TabOk.addFn (d := 30) okP tKY43 (fun a r h => by rw [eq_r_asked]; exact congrArg some (ret_some h))
/-! together -/
def S_rtg := DecS.mk0 (.skips 2 (.cons xSurveys (.unit (dLp 0 0 0 0) (.unit (dLp 1 0 0 0) (.skip (.unit (dLp 2 0 0 0) (.unit (dLp 3 0 0 0) (.last (dI .i64) 22)))))))) (.flat 27 lShip (.flat 31 lBulbs (.flat 38 lSpan (.flat 38 lSpan .nil))))
def X_rtg := DecX.one (.exit 0) [8, 7, 2, 4, 3, 6] S_rtg
noncomputable def K.st_rtg := loopT1 P BKY44 30 53 25 [8, 7, 2, 4, 3, 6] S_rtg X_rtg
theorem sl_rtg : ∀ s, (K.st_rtg) s = T.run (
  .br (decide (Prod.snd (Prod.fst s) < (↑(len (Prod.fst (Prod.fst s))) : Int))) (
    .chk (decide ((0 : Int) ≤ Prod.snd (Prod.fst s) ∧ Prod.snd (Prod.fst s) < (↑(XS.len (Prod.fst (Prod.fst s))) : Int))) <|
    .chk (r_massOk (Prod.fst (Prod.snd s)) (svy (Prod.fst (Prod.fst s)) (Int.toNat (Prod.snd (Prod.fst s))))) <|
    .ret (Sum.inl ((Prod.fst (Prod.fst s), IntKind.wrap IntKind.i64 (Prod.snd (Prod.fst s) + (1 : Int))), Prod.fst (Prod.snd s), Prod.fst (Prod.snd (Prod.snd s)), Prod.fst (Prod.snd (Prod.snd (Prod.snd s))), r_both (Prod.fst (Prod.snd (Prod.snd (Prod.snd (Prod.snd s)))), r_mass (Prod.fst (Prod.snd s)) (Prod.fst (Prod.snd (Prod.snd s))) (svy (Prod.fst (Prod.fst s)) (Int.toNat (Prod.snd (Prod.fst s))))), PUnit.unit))) (
    .ret (Sum.inr (Prod.fst s, Prod.fst (Prod.snd s), Prod.fst (Prod.snd (Prod.snd s)), Prod.fst (Prod.snd (Prod.snd (Prod.snd s))), Prod.fst (Prod.snd (Prod.snd (Prod.snd (Prod.snd s)))), PUnit.unit)))) := fun s => by kernel_rfl
noncomputable def K.L_rtg := lim K.st_rtg
noncomputable def BKY45 : Tab := BKY44.addNode 53 25 (nodeE [8, 7, 2, 4, 3, 6] S_rtg X_rtg (fun s => .obs (K.L_rtg s) .ret))
theorem tKY45 : TabOk P BKY45 := TabOk.addLoop (d := 30) okP tKY44 (by kernel_rfl) (by kernel_rfl) (fun s r h => obs_ret h)
theorem fn_rtg : ∀ a, (callT1 P BKY45 30 53 D_mss dSpan) a = T.run (
  .chk (decide ((0 : Int) ≤ (0 : Int) ∧ (0 : Int) < (↑(XS.len (Prod.snd (Prod.snd a))) : Int))) <|
  .chk (r_massOk (Prod.fst a) (svy (Prod.snd (Prod.snd a)) (nat_lit 0))) <|
  .obs (L_rtg ((Prod.snd (Prod.snd a), (1 : Int)), Prod.fst a, Prod.fst (Prod.snd a), Span.mk (0 : Int) (0 : Int), r_mass (Prod.fst a) (Prod.fst (Prod.snd a)) (svy (Prod.snd (Prod.snd a)) (nat_lit 0)), PUnit.unit)) fun x0 =>
    .ret (Prod.fst (Prod.snd (Prod.snd (Prod.snd (Prod.snd x0)))))) := fun a => by kernel_rfl
end Go.Proofs.YtkajafmphemedaaGreat
/-! KU1 -/
namespace Go.Proofs.YtkajafmphemedaaGreat
open Ev K
set_option maxRecDepth 100000
namespace K
theorem idx_lt {p : Nat → Bool} {n i : Nat} (hi : i < n) (hp : p i = true) : decide (idx p n < (i : Int)) = (first p i).isSome := by
  unfold idx
  cases hf : first p n with
  | none => have := first_none' hf i hi; rw [hp] at this; cases this
  | some j =>
    obtain ⟨h1, h2, h3⟩ := first_spec hf
    have hji : j ≤ i := by
      rcases Nat.lt_or_ge i j with h | h
      · have := h3 i h; rw [hp] at this; cases this
      · exact h
    rcases Nat.lt_or_eq_of_le hji with h | h
    · rw [first_some h h2 h3, decide_eq_true (show (j : Int) < i by omega)]; rfl
    · subst h
      rw [first_none h3, decide_eq_false (show ¬ (j : Int) < j by omega)]; rfl
theorem find_lst1_idx (x : XS) (i : Nat) : (find_lst1 (svy x i) x).2 = idx (fun j => x.g j 0 == x.g i 0) (len x) := by
  unfold find_lst1; rw [found_idx]; rfl
theorem svyE_ne (b : Bulbs) (x : XS) (i : Nat) (e : Int) (h : svyE b x i = some e) : e ≠ 0 := by
  unfold svyE at h
  split at h
  · rename_i hc; injection h with h; subst h; simpa using hc
  split at h
  · injection h with h; omega
  · cases h
/-- What a list without an error is. -/
structure ListOk (b : Bulbs) (x : XS) : Prop where
  pos : 0 < len x
  le : len x ≤ 12
  each : ∀ i, i < len x → check (b, svy x i) = 0
  apart : ∀ i j, i < len x → j < i → x.g j 0 ≠ x.g i 0
theorem listO_ne (b : Bulbs) (x : XS) (e : Int) (h : listO b x = some e) : e ≠ 0 := by
  unfold listO at h
  split at h
  · injection h with h; omega
  split at h
  · injection h with h; omega
  · exact findSome_ne (svyE_ne b x) e h
theorem listO_ok {b : Bulbs} {x : XS} (h : listO b x = none) : ListOk b x := by
  unfold listO at h
  split at h
  · cases h
  rename_i h1
  split at h
  · cases h
  rename_i h2
  have h1 : ¬ (len x : Int) = 0 := by simpa using h1
  have h2 : ¬ (len x : Int) > 12 := by simpa using h2
  have hn := none_all h
  have he : ∀ i, i < len x → check (b, svy x i) = 0 := fun i hi => by
    have := hn i hi
    unfold svyE at this
    split at this
    · cases this
    · rename_i hc; simpa using hc
  refine ⟨by omega, by omega, he, fun i j hi hj heq => ?_⟩
  have := hn i hi
  unfold svyE at this
  rw [he i hi] at this
  simp only [bne_self_eq_false, Bool.false_eq_true, if_false] at this
  split at this
  · cases this
  rename_i hc
  rw [find_lst1_idx, idx_lt hi (by simp)] at hc
  apply hc
  cases hf : first (fun j => x.g j 0 == x.g i 0) i with
  | some k => rfl
  | none => have := first_none' hf j hj; simp at this; exact absurd heq this
theorem e_rls_is {b : Bulbs} {x : XS} (hb : CheckBulbs b = 0) {i : Nat} (hi : i < len x) : e_rls b x i = svyE b x i := by
  unfold e_rls svyE
  rw [r_check_is, find_lst1_idx, idx_lt hi (by simp)]
  have : Check (b, svy x i) = check (b, svy x i) := by unfold Check; rw [hb]; rfl
  rw [this]; rfl
theorem findSome_congr {α : Type} (e f : Nat → Option α) (n : Nat) (h : ∀ i, i < n → e i = f i) : (List.range n).findSome? e = (List.range n).findSome? f := findSome_prefix e f n (fun i hi _ => h i hi)
theorem r_listO_is {b : Bulbs} (hb : CheckBulbs b = 0) (x : XS) : r_listO b x = listO b x := by
  unfold r_listO listO
  rw [findSome_congr _ _ _ (fun i hi => e_rls_is hb hi)]
theorem orr_zero' {o : Option Int} (hne : ∀ x, o = some x → x ≠ 0) : K.orr id 0 o = 0 ↔ o = none := ⟨fun h => orr_zero h hne, fun h => by rw [h]; rfl⟩
theorem r_asked_is (a : Ship × Bulbs × XS) : r_asked a = listed1 a := by
  unfold r_asked listed1
  rw [r_ship_is, r_bulbs_is]
  by_cases hb : CheckBulbs a.2.1 = 0
  · rw [r_listO_is hb]; rfl
  · have b0 : (CheckBulbs a.2.1 != 0) = true := by simpa using hb
    simp only [b0, if_true]
theorem list_ok {s : Ship} {b : Bulbs} {x : XS} (h : listed1 (s, b, x) = 0) : ShipOk s ∧ CheckBulbs b = 0 ∧ ListOk b x := by
  unfold listed1 at h
  obtain ⟨h1, h⟩ := ite_err h
  obtain ⟨h2, h⟩ := ite_err h
  exact ⟨ship_ok h1, h2, listO_ok ((orr_zero' (listO_ne b x)).1 h)⟩
theorem list2_ok {s : Ship} {b : Bulbs} {x y : XS} (h : listed2 (s, b, x, y) = 0) : ShipOk s ∧ CheckBulbs b = 0 ∧ ListOk b x ∧ ListOk b y := by
  unfold listed2 at h
  obtain ⟨h1, h⟩ := ite_err h
  obtain ⟨h2, h⟩ := ite_err h
  cases hx : listO b x with
  | some e => rw [hx] at h; exact absurd h (listO_ne b x e hx)
  | none => rw [hx] at h; exact ⟨ship_ok h1, h2, listO_ok hx, listO_ok ((orr_zero' (listO_ne b y)).1 h)⟩
theorem svy_ok {b : Bulbs} {x : XS} (l : ListOk b x) {i : Nat} (hi : i < len x) : Good (svy x i) ∧ (density (b, svy x i)).2 = 0 ∧ (extremes (svy x i)).2 = true := check_ok (l.each i hi)
theorem massesOk_is {s : Ship} {b : Bulbs} {x : XS} (hs : ShipOk s) (l : ListOk b x) : massesOk s x = true := by
  unfold massesOk
  rw [List.all_eq_true]
  intro i hi
  obtain ⟨g, d, e⟩ := svy_ok l (List.mem_range.1 hi)
  exact (massOk_is hs g e).1
theorem r_massesAll {s : Ship} {b : Bulbs} {x : XS} (hs : ShipOk s) (l : ListOk b x) : ((List.range (len x)).all fun i => r_massOk s (svy x i)) = true := by
  rw [List.all_eq_true]
  intro i hi
  obtain ⟨g, d, e⟩ := svy_ok l (List.mem_range.1 hi)
  exact (massOk_is hs g e).2
theorem foldl_same {α β : Type} {f g : β → α → β} : ∀ (l : List α) (a : β), (∀ a x, x ∈ l → f a x = g a x) → l.foldl f a = l.foldl g a
  | [], a, h => rfl
  | x :: l, a, h => by
    rw [List.foldl_cons, List.foldl_cons, h a x (by simp)]
    exact foldl_same l _ (fun a y hy => h a y (by simp [hy]))
/-- Equal, or both empty. -/
def Alike (c d : Span) : Prop := c = d ∨ (void c = true ∧ void d = true)
theorem meet_void {c m : Span} (h : void c = true) : void (meet c m) = true := by
  have h := void_true.1 h
  apply void_true.2
  unfold meet; simp only
  split <;> split <;> omega
theorem fold_alike (ms : List Span) : ∀ {c d : Span}, Alike c d → Alike (ms.foldl meet c) (ms.foldl meet d) := by
  induction ms with
  | nil => intro c d h; exact h
  | cons m ms ih =>
    intro c d h
    simp only [List.foldl_cons]
    apply ih
    rcases h with h | ⟨h1, h2⟩
    · exact .inl (by rw [h])
    · exact .inr ⟨meet_void h1, meet_void h2⟩
theorem meet_again (z l : Span) : meet l (meet z l) = meet z l := by
  unfold meet
  apply Span.ext
  · simp only; split <;> split <;> omega
  · simp only; split <;> split <;> omega
theorem tog_is {s : Ship} {b : Bulbs} {x : XS} (hs : ShipOk s) (hb : CheckBulbs b = 0) (l : ListOk b x) :
    Alike (togetherOf s b x) ((List.range (len x - 1)).foldl (fun o i => r_both (o, r_mass s b (svy x (i + 1)))) (r_mass s b (svy x 0))) := by
  have hr : ∀ i, i < len x → r_mass s b (svy x i) = massOf s b (svy x i) := fun i hi => by
    obtain ⟨g, d, e⟩ := svy_ok l hi
    exact mass_is hs hb g d e
  obtain ⟨n, hn⟩ : ∃ n, len x = n + 1 := ⟨len x - 1, by have := l.pos; omega⟩
  have e1 : togetherOf s b x = ((List.range n).map fun i => massOf s b (svy x (i + 1))).foldl meet (meet ⟨s.light, rooms s⟩ (massOf s b (svy x 0))) := by
    unfold togetherOf massesL
    rw [hn, List.range_succ_eq_map, List.map_cons, List.foldl_cons, List.map_map, List.foldl_map, List.foldl_map]
    rfl
  have e2 : (List.range (len x - 1)).foldl (fun o i => r_both (o, r_mass s b (svy x (i + 1)))) (r_mass s b (svy x 0)) = ((List.range n).map fun i => massOf s b (svy x (i + 1))).foldl meet (massOf s b (svy x 0)) := by
    rw [hn, Nat.add_sub_cancel, hr 0 (by omega), List.foldl_map]
    apply foldl_same
    intro o i hi
    rw [hr (i + 1) (by have := List.mem_range.1 hi; omega)]; rfl
  rw [e1, e2]
  apply fold_alike
  rw [massOf_form]
  by_cases hv : void (ySpan s (svy x 0)) = true
  · rw [if_pos hv]
    right
    refine ⟨?_, by decide⟩
    have := hs.light; have h2 := hs.room; have h3 := hs.room0
    apply void_true.2
    unfold meet; simp only; split <;> split <;> omega
  · rw [if_neg hv]
    left
    exact meet_again _ _
end K
end Go.Proofs.YtkajafmphemedaaGreat
/-! KY5 -/
namespace Go.Proofs.YtkajafmphemedaaGreat
open Ev K
set_option maxRecDepth 100000
noncomputable def K.r_massesOk (s : Ship) (x : XS) : Bool := decide (0 < len x) && (List.range (len x)).all fun i => r_massOk s (svy x i)
noncomputable def K.r_tog (s : Ship) (b : Bulbs) (x : XS) : Span := (List.range (len x - 1)).foldl (fun o i => r_both (o, r_mass s b (svy x (i + 1)))) (r_mass s b (svy x 0))
theorem K.L_rtg_eq (s : Ship) (b : Bulbs) (x : XS) (r m : Span) (ok : r_massesOk s x = true) : K.L_rtg ((x, 1), s, b, r, m, ()) = some ((x, (len x : Int)), s, b, r, (List.range (len x - 1)).foldl (fun o i => r_both (o, r_mass s b (svy x (i + 1)))) m, ()) := by
  have e1 := K.len_le x; have e2 := K.len_le' x
  unfold r_massesOk at ok
  rw [Bool.and_eq_true, decide_eq_true_eq] at ok
  refine lim_fold (fun i m => ((x, ((i + 1 : Nat) : Int)), s, b, r, m, ())) (len x - 1) (fun o i => r_both (o, r_mass s b (svy x (i + 1)))) (fun m => ((x, (len x : Int)), s, b, r, m, ())) (fun i hi a => ?_) (fun a => ?_) m
  · rw [sl_rtg]
    refine Eq.trans (T.run_br _ _ _) ?_
    rw [if_pos (by simp only [decide_eq_true_eq]; omega)]
    refine chk_step (by simp only [decide_eq_true_eq]; omega) (chk_step (List.all_eq_true.1 ok.2 _ (List.mem_range.2 (by simp only [Int.toNat_natCast]; omega))) ?_)
    rw [T.run_ret, w64_in (n := ((i + 1 : Nat) : Int) + 1) (by omega) (by omega)]; rfl
  · rw [sl_rtg]
    simp only [T.run_br, T.run_chk, T.run_ret, decide_eq_true_eq]
    rw [if_neg (by omega), show ((len x - 1 + 1 : Nat) : Int) = (len x : Int) by omega]
theorem K.r_tog_eq (a : Ship × Bulbs × XS) (ok : r_massesOk a.1 a.2.2 = true) : callT1 P BKY45 30 53 D_mss dSpan a = some (r_tog a.1 a.2.1 a.2.2) := by
  have ok' := ok
  unfold r_massesOk at ok'
  rw [Bool.and_eq_true, decide_eq_true_eq] at ok'
  have e2 := K.len_le' a.2.2
  rw [fn_rtg]
  refine chk_step (by simp only [decide_eq_true_eq]; omega) (chk_step (List.all_eq_true.1 ok'.2 _ (List.mem_range.2 ok'.1)) ?_)
  rw [L_rtg_eq _ _ _ _ _ ok]; rfl
noncomputable def BKY51 : Tab := BKY45.addCall 53 (callE D_mss dSpan (fun a => .chk (r_massesOk a.1 a.2.2) (.ret (r_tog a.1 a.2.1 a.2.2))))
theorem tKY51 : TabOk P BKY51 := TabOk.addFn (d := 30) okP tKY45 (fun a r h => by obtain ⟨g, e⟩ := chk_ret h; subst e; exact K.r_tog_eq a g)
theorem fn_rTog : ∀ a, (callT1 P BKY51 30 17 D_mss R_off) a = T.run (
  .br (r_asked a != (0 : Int)) (
    .ret ((Span.mk (0 : Int) (0 : Int), r_asked a))) (
    .chk (r_massesOk (Prod.fst a) (Prod.snd (Prod.snd a))) <|
    .br (r_none (r_tog (Prod.fst a) (Prod.fst (Prod.snd a)) (Prod.snd (Prod.snd a)))) (
      .ret ((Span.mk (0 : Int) (0 : Int), (9 : Int)))) (
      .ret ((r_tog (Prod.fst a) (Prod.fst (Prod.snd a)) (Prod.snd (Prod.snd a)), (0 : Int)))))) := fun a => by kernel_rfl
def D_tkn := DecL.cons (dShip) (.cons (dBulbs) (.cons (dX 18 [.int .i64, .int .i64, .int .i64, .int .i64, .int .i64, .int .i64, .int .i64, .int .i64, .int .i64, .int .i64, .int .i64, .int .i64, .int .i64, .int .i64, .int .i64, .int .i64, .int .i64, .int .i64]) (.last (dX 18 [.int .i64, .int .i64, .int .i64, .int .i64, .int .i64, .int .i64, .int .i64, .int .i64, .int .i64, .int .i64, .int .i64, .int .i64, .int .i64, .int .i64, .int .i64, .int .i64, .int .i64, .int .i64]) 0)))
theorem fn_Tkn : ∀ a, (callT1 P BKY51 30 14 D_tkn R_off) a = T.run (
  .br (listed2 a != (0 : Int)) (
    .ret ((Span.mk (0 : Int) (0 : Int), listed2 a))) (
    .chk (massesOk (Prod.fst a) (Prod.fst (Prod.snd (Prod.snd a)))) <|
    .chk (massesOk (Prod.fst a) (Prod.snd (Prod.snd (Prod.snd a)))) <|
    .br (void (togetherOf (Prod.fst a) (Prod.fst (Prod.snd a)) (Prod.fst (Prod.snd (Prod.snd a))))) (
      .ret ((Span.mk (0 : Int) (0 : Int), (9 : Int)))) (
      .br (void (togetherOf (Prod.fst a) (Prod.fst (Prod.snd a)) (Prod.snd (Prod.snd (Prod.snd a))))) (
        .ret ((Span.mk (0 : Int) (0 : Int), (9 : Int)))) (
        .ret ((Span.mk (IntKind.wrap IntKind.i64 (Span.lo (togetherOf (Prod.fst a) (Prod.fst (Prod.snd a)) (Prod.fst (Prod.snd (Prod.snd a)))) - Span.hi (togetherOf (Prod.fst a) (Prod.fst (Prod.snd a)) (Prod.snd (Prod.snd (Prod.snd a)))))) (IntKind.wrap IntKind.i64 (Span.hi (togetherOf (Prod.fst a) (Prod.fst (Prod.snd a)) (Prod.fst (Prod.snd (Prod.snd a)))) - Span.lo (togetherOf (Prod.fst a) (Prod.fst (Prod.snd a)) (Prod.snd (Prod.snd (Prod.snd a)))))), (0 : Int))))))) := fun a => by kernel_rfl
theorem fn_rTkn : ∀ a, (callT1 P BKY51 30 15 D_tkn R_off) a = T.run (
  .br (r_asked (Prod.fst a, Prod.fst (Prod.snd a), Prod.fst (Prod.snd (Prod.snd a))) == (0 : Int)) (
    .br (orr (fun a => a) (0 : Int) (r_listO (Prod.fst (Prod.snd a)) (Prod.snd (Prod.snd (Prod.snd a)))) != (0 : Int)) (
      .ret ((Span.mk (0 : Int) (0 : Int), orr (fun a => a) (0 : Int) (r_listO (Prod.fst (Prod.snd a)) (Prod.snd (Prod.snd (Prod.snd a))))))) (
      .chk (r_massesOk (Prod.fst a) (Prod.fst (Prod.snd (Prod.snd a)))) <|
      .chk (r_massesOk (Prod.fst a) (Prod.snd (Prod.snd (Prod.snd a)))) <|
      .br (r_none (r_tog (Prod.fst a) (Prod.fst (Prod.snd a)) (Prod.fst (Prod.snd (Prod.snd a))))) (
        .ret ((Span.mk (0 : Int) (0 : Int), (9 : Int)))) (
        .br (r_none (r_tog (Prod.fst a) (Prod.fst (Prod.snd a)) (Prod.snd (Prod.snd (Prod.snd a))))) (
          .ret ((Span.mk (0 : Int) (0 : Int), (9 : Int)))) (
          .ret ((Span.mk (IntKind.wrap IntKind.i64 (Span.lo (r_tog (Prod.fst a) (Prod.fst (Prod.snd a)) (Prod.fst (Prod.snd (Prod.snd a)))) - Span.hi (r_tog (Prod.fst a) (Prod.fst (Prod.snd a)) (Prod.snd (Prod.snd (Prod.snd a)))))) (IntKind.wrap IntKind.i64 (Span.hi (r_tog (Prod.fst a) (Prod.fst (Prod.snd a)) (Prod.fst (Prod.snd (Prod.snd a)))) - Span.lo (r_tog (Prod.fst a) (Prod.fst (Prod.snd a)) (Prod.snd (Prod.snd (Prod.snd a)))))), (0 : Int))))))) (
    .br (r_asked (Prod.fst a, Prod.fst (Prod.snd a), Prod.fst (Prod.snd (Prod.snd a))) != (0 : Int)) (
      .ret ((Span.mk (0 : Int) (0 : Int), r_asked (Prod.fst a, Prod.fst (Prod.snd a), Prod.fst (Prod.snd (Prod.snd a)))))) (
      .chk (r_massesOk (Prod.fst a) (Prod.fst (Prod.snd (Prod.snd a)))) <|
      .chk (r_massesOk (Prod.fst a) (Prod.snd (Prod.snd (Prod.snd a)))) <|
      .br (r_none (r_tog (Prod.fst a) (Prod.fst (Prod.snd a)) (Prod.fst (Prod.snd (Prod.snd a))))) (
        .ret ((Span.mk (0 : Int) (0 : Int), (9 : Int)))) (
        .br (r_none (r_tog (Prod.fst a) (Prod.fst (Prod.snd a)) (Prod.snd (Prod.snd (Prod.snd a))))) (
          .ret ((Span.mk (0 : Int) (0 : Int), (9 : Int)))) (
          .ret ((Span.mk (IntKind.wrap IntKind.i64 (Span.lo (r_tog (Prod.fst a) (Prod.fst (Prod.snd a)) (Prod.fst (Prod.snd (Prod.snd a)))) - Span.hi (r_tog (Prod.fst a) (Prod.fst (Prod.snd a)) (Prod.snd (Prod.snd (Prod.snd a)))))) (IntKind.wrap IntKind.i64 (Span.hi (r_tog (Prod.fst a) (Prod.fst (Prod.snd a)) (Prod.fst (Prod.snd (Prod.snd a)))) - Span.lo (r_tog (Prod.fst a) (Prod.fst (Prod.snd a)) (Prod.snd (Prod.snd (Prod.snd a)))))), (0 : Int)))))))) := fun a => by kernel_rfl
end Go.Proofs.YtkajafmphemedaaGreat
/-! KU2 -/
namespace Go.Proofs.YtkajafmphemedaaGreat
open Ev K
set_option maxRecDepth 100000
namespace K
theorem bne_zero {n : Int} (h : ¬ (n != 0) = true) : n = 0 := by simpa using h
theorem r_massesOk_is {s : Ship} {b : Bulbs} {x : XS} (hs : ShipOk s) (l : ListOk b x) : r_massesOk s x = true := by
  unfold r_massesOk; rw [r_massesAll hs l, decide_eq_true l.pos]; rfl
end K
noncomputable def K.sTog (a : Ship × Bulbs × XS) : Span × Int := if (listed1 a != 0) = true then (⟨0, 0⟩, listed1 a) else if void (togetherOf a.1 a.2.1 a.2.2) = true then (⟨0, 0⟩, 9) else (togetherOf a.1 a.2.1 a.2.2, 0)
theorem K.sTog_eq (a : Ship × Bulbs × XS) : callT1 P BKY33 30 16 D_tog R_off a = some (sTog a) := by
  obtain ⟨s, b, x⟩ := a
  rw [fn_Tog]; unfold sTog
  refine br_step (fun _ => rfl) (fun h => ?_)
  obtain ⟨hs, hb, l⟩ := list_ok (bne_zero h)
  exact chk_step (massesOk_is hs l) (br_step (fun _ => rfl) (fun _ => rfl))
noncomputable def BKU21 : Tab := BKY51.addCall 16 (callE D_tog R_off (fun a => .ret (sTog a)))
theorem tKU21 : TabOk P BKU21 := TabOk.addPC tKY51 (fun a r h => by rw [← ret_some h]; exact call_of okP tKY33 (sTog_eq a))
noncomputable def K.rTog (a : Ship × Bulbs × XS) : Span × Int := if (r_asked a != 0) = true then (⟨0, 0⟩, r_asked a) else if r_none (r_tog a.1 a.2.1 a.2.2) = true then (⟨0, 0⟩, 9) else (r_tog a.1 a.2.1 a.2.2, 0)
theorem K.rTog_eq (a : Ship × Bulbs × XS) : callT1 P BKY51 30 17 D_mss R_off a = some (rTog a) := by
  obtain ⟨s, b, x⟩ := a
  rw [fn_rTog]; unfold rTog
  refine br_step (fun _ => rfl) (fun h => ?_)
  rw [r_asked_is] at h
  obtain ⟨hs, hb, l⟩ := list_ok (bne_zero h)
  exact chk_step (r_massesOk_is hs l) (br_step (fun _ => rfl) (fun _ => rfl))
noncomputable def BKU22 : Tab := BKU21.addCall 17 (callE D_mss R_off (fun a => .ret (rTog a)))
theorem tKU22 : TabOk P BKU22 := TabOk.addPC tKU21 (fun a r h => by rw [← ret_some h]; exact call_of okP tKY51 (rTog_eq a))
theorem K.rTog_is (a : Ship × Bulbs × XS) : rTog a = sTog a := by
  obtain ⟨s, b, x⟩ := a
  unfold rTog sTog
  rw [r_asked_is]
  by_cases h : (listed1 (s, b, x) != 0) = true
  · rw [if_pos h, if_pos h]
  rw [if_neg h, if_neg h]
  obtain ⟨hs, hb, l⟩ := list_ok (bne_zero h)
  rcases tog_is hs hb l with e | ⟨e1, e2⟩
  · show (if void (r_tog s b x) = true then _ else (r_tog s b x, _)) = _
    rw [show r_tog s b x = togetherOf s b x from e.symm]
  · show (if void (r_tog s b x) = true then _ else (r_tog s b x, _)) = (if void (togetherOf s b x) = true then _ else _)
    rw [show void (r_tog s b x) = true from e2, e1]; rfl
/-- What was taken, by what is possible before and behind. -/
noncomputable def K.takenOf (m n : Span) : Span × Int := if void m = true then (⟨0, 0⟩, 9) else if void n = true then (⟨0, 0⟩, 9) else (⟨IntKind.i64.wrap (m.lo - n.hi), IntKind.i64.wrap (m.hi - n.lo)⟩, 0)
noncomputable def K.sTaken (a : Ship × Bulbs × XS × XS) : Span × Int := if (listed2 a != 0) = true then (⟨0, 0⟩, listed2 a) else takenOf (togetherOf a.1 a.2.1 a.2.2.1) (togetherOf a.1 a.2.1 a.2.2.2)
theorem K.sTaken_eq (a : Ship × Bulbs × XS × XS) : callT1 P BKY51 30 14 D_tkn R_off a = some (sTaken a) := by
  obtain ⟨s, b, x, y⟩ := a
  rw [fn_Tkn]; unfold sTaken takenOf
  refine br_step (fun _ => rfl) (fun h => ?_)
  obtain ⟨hs, hb, l, l2⟩ := list2_ok (bne_zero h)
  exact chk_step (massesOk_is hs l) (chk_step (massesOk_is hs l2) (br_step (fun _ => rfl) (fun _ => br_step (fun _ => rfl) (fun _ => rfl))))
noncomputable def BKU23 : Tab := BKU22.addCall 14 (callE D_tkn R_off (fun a => .ret (sTaken a)))
theorem tKU23 : TabOk P BKU23 := TabOk.addPC tKU22 (fun a r h => by rw [← ret_some h]; exact call_of okP tKY51 (sTaken_eq a))
noncomputable def K.rTaken (a : Ship × Bulbs × XS × XS) : Span × Int := if (r_asked (a.1, a.2.1, a.2.2.1) == 0) = true then
    (if (K.orr id 0 (r_listO a.2.1 a.2.2.2) != 0) = true then (⟨0, 0⟩, K.orr id 0 (r_listO a.2.1 a.2.2.2)) else takenOf (r_tog a.1 a.2.1 a.2.2.1) (r_tog a.1 a.2.1 a.2.2.2))
  else (⟨0, 0⟩, r_asked (a.1, a.2.1, a.2.2.1))
theorem K.rTaken_eq (a : Ship × Bulbs × XS × XS) : callT1 P BKY51 30 15 D_tkn R_off a = some (rTaken a) := by
  obtain ⟨s, b, x, y⟩ := a
  rw [fn_rTkn]; unfold rTaken takenOf
  refine br_step (fun h => ?_) (fun h => ?_)
  · have h := eq_of_beq h
    rw [r_asked_is] at h
    obtain ⟨hs, hb, l⟩ := list_ok h
    refine br_step (fun _ => rfl) (fun h2 => ?_)
    have h2 : K.orr id 0 (r_listO b y) = 0 := bne_zero h2
    rw [r_listO_is hb] at h2
    have l2 := listO_ok ((orr_zero' (listO_ne b y)).1 h2)
    exact chk_step (r_massesOk_is hs l) (chk_step (r_massesOk_is hs l2) (br_step (fun _ => rfl) (fun _ => br_step (fun _ => rfl) (fun _ => rfl))))
  · have hne : (r_asked (s, b, x) != 0) = true := by simpa using h
    refine Eq.trans (T.run_br _ _ _) ?_
    rw [if_pos hne]; rfl
noncomputable def BKU24 : Tab := BKU23.addCall 15 (callE D_tkn R_off (fun a => .ret (rTaken a)))
theorem tKU24 : TabOk P BKU24 := TabOk.addPC tKU23 (fun a r h => by rw [← ret_some h]; exact call_of okP tKY51 (rTaken_eq a))
theorem K.takenOf_alike {m m' n n' : Span} (h : Alike m m') (k : Alike n n') : takenOf m n = takenOf m' n' := by
  unfold takenOf
  rcases h with rfl | ⟨h1, h2⟩
  · rcases k with rfl | ⟨k1, k2⟩
    · rfl
    · rw [k1, k2]; rfl
  · rw [h1, h2]; rfl
theorem K.rTaken_is (a : Ship × Bulbs × XS × XS) : rTaken a = sTaken a := by
  obtain ⟨s, b, x, y⟩ := a
  unfold rTaken sTaken
  rw [r_asked_is]
  by_cases h : listed1 (s, b, x) = 0
  · obtain ⟨hs, hb, l⟩ := list_ok h
    rw [if_pos (by simpa using h)]
    simp only
    rw [r_listO_is hb]
    have e : listed2 (s, b, x, y) = K.orr id 0 (listO b y) := by
      unfold listed1 at h; unfold listed2
      obtain ⟨h1, h⟩ := ite_err h
      obtain ⟨h2, h⟩ := ite_err h
      have h3 : listO b x = none := (orr_zero' (listO_ne b x)).1 h
      simp only at h1 h2 ⊢
      rw [h1, h2, h3]; rfl
    rw [e]
    by_cases h2 : K.orr id 0 (listO b y) = 0
    · have l2 := listO_ok ((orr_zero' (listO_ne b y)).1 h2)
      rw [if_neg (by rw [h2]; decide), if_neg (by rw [h2]; decide)]
      have t1 := tog_is hs hb l; have t2 := tog_is hs hb l2
      exact (takenOf_alike t1 t2).symm
    · have hb2 : (K.orr id 0 (listO b y) != 0) = true := by simpa using h2
      rw [if_pos hb2, if_pos hb2]
  · rw [if_neg (by simpa using h)]
    have e : listed2 (s, b, x, y) = listed1 (s, b, x) := by
      unfold listed1 at h ⊢; unfold listed2
      by_cases h1 : hullCheck s = 0
      · by_cases h2 : CheckBulbs b = 0
        · simp only [h1, h2] at h ⊢
          cases hx : listO b x with
          | some e => rfl
          | none => rw [hx] at h; exact absurd rfl h
        · have b2 : (CheckBulbs b != 0) = true := by simpa using h2
          simp only [h1, b2, if_true]
      · have b1 : (hullCheck s != 0) = true := by simpa using h1
        simp only [b1, if_true]
    rw [e, if_pos (by simpa using h)]
def D_list := DecL.last xSurveys 0
theorem fn_list : ∀ a, (callT1 P BKU24 30 13 D_list dB) a = T.run (
  .br (decide ((↑(len a) : Int) ≤ (5 : Int))) (
    .ret (true)) (
    .br (decide ((↑(len a) : Int) > (12 : Int))) (
      .ret (decide ((↑(len a) : Int) ≤ (20 : Int)))) (
      .ret (false)))) := fun a => by kernel_rfl
noncomputable def K.list (a : XS) : Bool := (if (decide ((↑(len a) : Int) ≤ (5 : Int))) = true then true else (if (decide ((↑(len a) : Int) > (12 : Int))) = true then decide ((↑(len a) : Int) ≤ (20 : Int)) else false))
theorem eq_list (a : XS) : (callT1 P BKU24 30 13 D_list dB) a = some (K.list a) := (fn_list a).trans (T.br_some rfl (T.br_some rfl rfl))
noncomputable def BKU25 : Tab := BKU24.addCall 13 (callE D_list dB (fun a => .ret (K.list a)))
theorem tKU25 : TabOk P BKU25 := TabOk.addFn (d := 30) okP tKU24 (fun a r h => by rw [eq_list]; exact congrArg some (ret_some h))
def D_ltk := DecL.cons dShip (.cons dBulbs (.cons xSurveys (.last xSurveys 0)))
theorem fn_lawTakes : ∀ a, (callT1 P BKU25 30 3 D_ltk dB) a = T.run (
  .br (!ship (Prod.fst a)) (
    .ret (true)) (
    .br (!few (Prod.fst (Prod.snd a))) (
      .ret (true)) (
      .br (!list (Prod.fst (Prod.snd (Prod.snd a)))) (
        .ret (true)) (
        .br (!list (Prod.snd (Prod.snd (Prod.snd a)))) (
          .ret (true)) (
          .br (Span.lo (Prod.fst (sTaken a)) == Span.lo (Prod.fst (rTaken a)) && Span.hi (Prod.fst (sTaken a)) == Span.hi (Prod.fst (rTaken a))) (
            .ret (Prod.snd (sTaken a) == Prod.snd (rTaken a))) (
            .ret (false))))))) := fun a => by kernel_rfl
noncomputable def K.lawTakes (a : Ship × Bulbs × XS × XS) : Bool := (if (!ship (Prod.fst a)) = true then true else (if (!few (Prod.fst (Prod.snd a))) = true then true else (if (!list (Prod.fst (Prod.snd (Prod.snd a)))) = true then true else (if (!list (Prod.snd (Prod.snd (Prod.snd a)))) = true then true else (if (Span.lo (Prod.fst (sTaken a)) == Span.lo (Prod.fst (rTaken a)) && Span.hi (Prod.fst (sTaken a)) == Span.hi (Prod.fst (rTaken a))) = true then Prod.snd (sTaken a) == Prod.snd (rTaken a) else false)))))
theorem eq_lawTakes (a : Ship × Bulbs × XS × XS) : (callT1 P BKU25 30 3 D_ltk dB) a = some (K.lawTakes a) := (fn_lawTakes a).trans (T.br_some rfl (T.br_some rfl (T.br_some rfl (T.br_some rfl (T.br_some rfl rfl)))))
noncomputable def BKU26 : Tab := BKU25.addCall 3 (callE D_ltk dB (fun a => .ret (K.lawTakes a)))
theorem tKU26 : TabOk P BKU26 := TabOk.addFn (d := 30) okP tKU25 (fun a r h => by rw [eq_lawTakes]; exact congrArg some (ret_some h))
theorem K.lawTakes_true (a : Ship × Bulbs × XS × XS) : lawTakes a = true := by
  unfold lawTakes
  simp only [rTaken_is, BEq.rfl, Bool.and_self, if_true, ite_self]
end Go.Proofs.YtkajafmphemedaaGreat
/-! KU3 -/
namespace Go.Proofs.YtkajafmphemedaaGreat
open Ev K
set_option maxRecDepth 100000
def S_rst := DecS.mk0 (.skips 9 (.unit (dLp 0 0 0 0) (.skip (.unit (dLp 1 0 0 0) (.unit (dLp 2 0 0 0) (.skips 15 (.last R_mss 24))))))) (.flat 38 lSpan (.flat 3 (.last (dI .i64) 0) (.flat 3 (.last (dI .i64) 0) .nil)))
noncomputable def K.st_rst := rangeT1 P BKU26 30 18 49 [28, 12, 11, 9] S_rst DecX.no eMass
theorem rg_rst : ∀ s x, (K.st_rst) s x = T.run (
  .br (Prod.fst (Prod.snd (Prod.snd s)) == (0 : Int)) (
    .br (Span.lo (Prod.snd x) == Span.lo (Prod.fst (Prod.snd s))) (
      .br (Prod.fst (Prod.snd (Prod.snd (Prod.snd s))) == (0 : Int)) (
        .br (Span.hi (Prod.snd x) == Span.hi (Prod.fst (Prod.snd s))) (
          .ret (Sum.inl (Prod.fst s, Prod.fst (Prod.snd s), Prod.fst x, Prod.fst x, PUnit.unit))) (
          .ret (Sum.inl (Prod.fst s, Prod.fst (Prod.snd s), Prod.fst x, Prod.fst (Prod.snd (Prod.snd (Prod.snd s))), PUnit.unit)))) (
        .ret (Sum.inl (Prod.fst s, Prod.fst (Prod.snd s), Prod.fst x, Prod.fst (Prod.snd (Prod.snd (Prod.snd s))), PUnit.unit)))) (
      .br (Prod.fst (Prod.snd (Prod.snd (Prod.snd s))) == (0 : Int)) (
        .br (Span.hi (Prod.snd x) == Span.hi (Prod.fst (Prod.snd s))) (
          .ret (Sum.inl (Prod.fst s, Prod.fst (Prod.snd s), Prod.fst (Prod.snd (Prod.snd s)), Prod.fst x, PUnit.unit))) (
          .ret (Sum.inl (Prod.fst s, Prod.fst (Prod.snd s), Prod.fst (Prod.snd (Prod.snd s)), Prod.fst (Prod.snd (Prod.snd (Prod.snd s))), PUnit.unit)))) (
        .ret (Sum.inl (Prod.fst s, Prod.fst (Prod.snd s), Prod.fst (Prod.snd (Prod.snd s)), Prod.fst (Prod.snd (Prod.snd (Prod.snd s))), PUnit.unit))))) (
    .br (Prod.fst (Prod.snd (Prod.snd (Prod.snd s))) == (0 : Int)) (
      .br (Span.hi (Prod.snd x) == Span.hi (Prod.fst (Prod.snd s))) (
        .ret (Sum.inl (Prod.fst s, Prod.fst (Prod.snd s), Prod.fst (Prod.snd (Prod.snd s)), Prod.fst x, PUnit.unit))) (
        .ret (Sum.inl (Prod.fst s, Prod.fst (Prod.snd s), Prod.fst (Prod.snd (Prod.snd s)), Prod.fst (Prod.snd (Prod.snd (Prod.snd s))), PUnit.unit)))) (
      .ret (Sum.inl (Prod.fst s, Prod.fst (Prod.snd s), Prod.fst (Prod.snd (Prod.snd s)), Prod.fst (Prod.snd (Prod.snd (Prod.snd s))), PUnit.unit))))) := fun s x => by kernel_rfl
def K.restLo (all : Span) (lo : Int) (p : Int × Span) : Int := if (lo == 0 && p.2.lo == all.lo) = true then p.1 else lo
def K.restHi (all : Span) (hi : Int) (p : Int × Span) : Int := if (hi == 0 && p.2.hi == all.hi) = true then p.1 else hi
theorem st_rst_eq (s) (p : Int × Span) : st_rst s p = some (.inl (s.1, s.2.1, restLo s.2.1 s.2.2.1 p, restHi s.2.1 s.2.2.2.1 p, ())) := by
  rw [rg_rst]; unfold restLo restHi
  simp only [T.run_br, T.run_ret]
  cases (s.2.2.1 == 0) <;> cases (s.2.2.2.1 == 0) <;> cases (p.2.lo == s.2.1.lo) <;> cases (p.2.hi == s.2.1.hi) <;> rfl
theorem fold_rst (L : List (Int × Span)) (a : XS × Ship × Bulbs) (all : Span) (lo hi : Int) : L.foldl (fun (s : (XS × Ship × Bulbs) × Span × Int × Int × Unit) p => (s.1, s.2.1, restLo s.2.1 s.2.2.1 p, restHi s.2.1 s.2.2.2.1 p, ())) (a, all, lo, hi, ()) = (a, all, L.foldl (restLo all) lo, L.foldl (restHi all) hi, ()) := by
  induction L generalizing lo hi with
  | nil => rfl
  | cons x L ih => simp only [List.foldl_cons]; exact ih _ _
noncomputable def BKU31 : Tab := BKU26.addNode 18 49 (rangeE [28, 12, 11, 9] S_rst DecX.no (fun s => .chk (massesOk s.1.2.1 s.1.1) (.ret (.inl (s.1, s.2.1, (massesL s.1.2.1 s.1.2.2 s.1.1).foldl (restLo s.2.1) s.2.2.1, (massesL s.1.2.1 s.1.2.2 s.1.1).foldl (restHi s.2.1) s.2.2.2.1, ())))))
theorem tKU31 : TabOk P BKU31 := TabOk.addRange (d := 30) (enc := eMass) (L := (fun s => massesL s.1.2.1 s.1.2.2 s.1.1)) okP tKU26 (by kernel_rfl) (by kernel_rfl) (fun s r h => ⟨_, _, _, (by kernel_rfl : _ = some (116, [], V_mss.enc s.1)), icl_mss s.1.2.1 s.1.2.2 s.1.1 (chk_ret h).1⟩) (fun s r h => by have e := (chk_ret h).2; subst e; rw [← fold_rst]; exact foldS_total st_rst_eq _ _)
def R_rst := dTup (.cons (dI .i64) (.cons (dI .i64) (.last (dI .i64) 0)))
theorem fn_rst : ∀ a, (callT1 P BKU31 30 18 D_mss R_rst) a = T.run (
  .br (Prod.snd (sTog a) != (0 : Int)) (
    .ret (((0 : Int), (0 : Int), Prod.snd (sTog a)))) (
    .chk (massesOk (Prod.fst a) (Prod.snd (Prod.snd a))) <|
    .ret ((List.foldl (restLo (Prod.fst (sTog a))) (0 : Int) (massesL (Prod.fst a) (Prod.fst (Prod.snd a)) (Prod.snd (Prod.snd a))), List.foldl (restHi (Prod.fst (sTog a))) (0 : Int) (massesL (Prod.fst a) (Prod.fst (Prod.snd a)) (Prod.snd (Prod.snd a))), (0 : Int))))) := fun a => by kernel_rfl
def S_rrs := DecS.mk0 (.skips 2 (.cons xSurveys (.unit (dLp 0 0 0 0) (.unit (dLp 1 0 0 0) (.skips 4 (.unit (dLp 2 0 0 0) (.skip (.cons (dI .i64) (.cons (dI .i64) (.last (dI .i64) 47)))))))))) (.flat 27 lShip (.flat 31 lBulbs (.flat 38 lSpan .nil)))
def X_rrs := DecX.one (.exit 0) [13, 2, 9, 4, 3, 12, 11] S_rrs
noncomputable def K.st_rrs := loopT1 P BKU31 30 19 57 [13, 2, 9, 4, 3, 12, 11] S_rrs X_rrs
theorem sl_rrs : ∀ s, (K.st_rrs) s = T.run (
  .br (decide (Prod.snd (Prod.snd (Prod.snd (Prod.fst s))) ≥ (0 : Int))) (
    .chk (decide ((0 : Int) ≤ Prod.snd (Prod.snd (Prod.snd (Prod.fst s))) ∧ Prod.snd (Prod.snd (Prod.snd (Prod.fst s))) < (↑(XS.len (Prod.fst (Prod.fst s))) : Int))) <|
    .chk (r_massOk (Prod.fst (Prod.snd s)) (svy (Prod.fst (Prod.fst s)) (Int.toNat (Prod.snd (Prod.snd (Prod.snd (Prod.fst s))))))) <|
    .br (Span.lo (r_mass (Prod.fst (Prod.snd s)) (Prod.fst (Prod.snd (Prod.snd s))) (svy (Prod.fst (Prod.fst s)) (Int.toNat (Prod.snd (Prod.snd (Prod.snd (Prod.fst s))))))) == Span.lo (Prod.fst (Prod.snd (Prod.snd (Prod.snd s))))) (
      .chk (decide ((0 : Int) ≤ Prod.snd (Prod.snd (Prod.snd (Prod.fst s))) ∧ Prod.snd (Prod.snd (Prod.snd (Prod.fst s))) < (↑(XS.len (Prod.fst (Prod.fst s))) : Int))) <|
      .br (Span.hi (r_mass (Prod.fst (Prod.snd s)) (Prod.fst (Prod.snd (Prod.snd s))) (svy (Prod.fst (Prod.fst s)) (Int.toNat (Prod.snd (Prod.snd (Prod.snd (Prod.fst s))))))) == Span.hi (Prod.fst (Prod.snd (Prod.snd (Prod.snd s))))) (
        .chk (decide ((0 : Int) ≤ Prod.snd (Prod.snd (Prod.snd (Prod.fst s))) ∧ Prod.snd (Prod.snd (Prod.snd (Prod.fst s))) < (↑(XS.len (Prod.fst (Prod.fst s))) : Int))) <|
        .ret (Sum.inl ((Prod.fst (Prod.fst s), XS.g (Prod.fst (Prod.fst s)) (Int.toNat (Prod.snd (Prod.snd (Prod.snd (Prod.fst s))))) (0 : Nat), XS.g (Prod.fst (Prod.fst s)) (Int.toNat (Prod.snd (Prod.snd (Prod.snd (Prod.fst s))))) (0 : Nat), IntKind.wrap IntKind.i64 (Prod.snd (Prod.snd (Prod.snd (Prod.fst s))) - (1 : Int))), Prod.fst (Prod.snd s), Prod.fst (Prod.snd (Prod.snd s)), Prod.fst (Prod.snd (Prod.snd (Prod.snd s))), PUnit.unit))) (
        .ret (Sum.inl ((Prod.fst (Prod.fst s), XS.g (Prod.fst (Prod.fst s)) (Int.toNat (Prod.snd (Prod.snd (Prod.snd (Prod.fst s))))) (0 : Nat), Prod.fst (Prod.snd (Prod.snd (Prod.fst s))), IntKind.wrap IntKind.i64 (Prod.snd (Prod.snd (Prod.snd (Prod.fst s))) - (1 : Int))), Prod.fst (Prod.snd s), Prod.fst (Prod.snd (Prod.snd s)), Prod.fst (Prod.snd (Prod.snd (Prod.snd s))), PUnit.unit)))) (
      .br (Span.hi (r_mass (Prod.fst (Prod.snd s)) (Prod.fst (Prod.snd (Prod.snd s))) (svy (Prod.fst (Prod.fst s)) (Int.toNat (Prod.snd (Prod.snd (Prod.snd (Prod.fst s))))))) == Span.hi (Prod.fst (Prod.snd (Prod.snd (Prod.snd s))))) (
        .chk (decide ((0 : Int) ≤ Prod.snd (Prod.snd (Prod.snd (Prod.fst s))) ∧ Prod.snd (Prod.snd (Prod.snd (Prod.fst s))) < (↑(XS.len (Prod.fst (Prod.fst s))) : Int))) <|
        .ret (Sum.inl ((Prod.fst (Prod.fst s), Prod.fst (Prod.snd (Prod.fst s)), XS.g (Prod.fst (Prod.fst s)) (Int.toNat (Prod.snd (Prod.snd (Prod.snd (Prod.fst s))))) (0 : Nat), IntKind.wrap IntKind.i64 (Prod.snd (Prod.snd (Prod.snd (Prod.fst s))) - (1 : Int))), Prod.fst (Prod.snd s), Prod.fst (Prod.snd (Prod.snd s)), Prod.fst (Prod.snd (Prod.snd (Prod.snd s))), PUnit.unit))) (
        .ret (Sum.inl ((Prod.fst (Prod.fst s), Prod.fst (Prod.snd (Prod.fst s)), Prod.fst (Prod.snd (Prod.snd (Prod.fst s))), IntKind.wrap IntKind.i64 (Prod.snd (Prod.snd (Prod.snd (Prod.fst s))) - (1 : Int))), Prod.fst (Prod.snd s), Prod.fst (Prod.snd (Prod.snd s)), Prod.fst (Prod.snd (Prod.snd (Prod.snd s))), PUnit.unit))))) (
    .ret (Sum.inr (Prod.fst s, Prod.fst (Prod.snd s), Prod.fst (Prod.snd (Prod.snd s)), Prod.fst (Prod.snd (Prod.snd (Prod.snd s))), PUnit.unit)))) := fun s => by kernel_rfl
noncomputable def K.L_rrs := lim K.st_rrs
noncomputable def K.f_rrs (s : Ship) (b : Bulbs) (x : XS) (all : Span) (a : Int × Int) (i : Nat) : Int × Int :=
  (if ((r_mass s b (svy x i)).lo == all.lo) = true then x.g i 0 else a.1, if ((r_mass s b (svy x i)).hi == all.hi) = true then x.g i 0 else a.2)
theorem K.L_rrs_eq (s : Ship) (b : Bulbs) (x : XS) (all : Span) (a : Int × Int) (ok : r_massesOk s x = true) : K.L_rrs ((x, a.1, a.2, (len x : Int) - 1), s, b, all, ()) =
    some ((x, ((List.range (len x)).foldl (fun a k => f_rrs s b x all a (len x - 1 - k)) a).1, ((List.range (len x)).foldl (fun a k => f_rrs s b x all a (len x - 1 - k)) a).2, -1), s, b, all, ()) := by
  have e1 := K.len_le x; have e2 := K.len_le' x
  unfold r_massesOk at ok
  rw [Bool.and_eq_true, decide_eq_true_eq] at ok
  have key := lim_fold (step := K.st_rrs) (fun (k : Nat) (a : Int × Int) => ((x, a.1, a.2, (len x : Int) - 1 - (k : Int)), s, b, all, ())) (len x) (fun a k => f_rrs s b x all a (len x - 1 - k)) (fun a => ((x, a.1, a.2, -1), s, b, all, ())) (fun k hk a => ?_) (fun a => ?_) a
  · have e0 : (len x : Int) - 1 - ((0 : Nat) : Int) = (len x : Int) - 1 := by omega
    simp only [e0] at key
    exact key
  · rw [sl_rrs]
    have ei : ((len x : Int) - 1 - (k : Int)).toNat = len x - 1 - k := by omega
    refine Eq.trans (T.run_br _ _ _) ?_
    rw [if_pos (by simp only [decide_eq_true_eq]; omega)]
    refine chk_step (by simp only [decide_eq_true_eq]; omega) (chk_step (List.all_eq_true.1 ok.2 _ (List.mem_range.2 (by simp only [ei]; omega))) ?_)
    have c1 : (0 : Int) ≤ (len x : Int) - 1 - (k : Int) ∧ (len x : Int) - 1 - (k : Int) < (x.len : Int) := by omega
    simp only [T.run_br, T.run_chk, T.run_ret, ei, decide_eq_true_eq, if_pos c1]
    rw [w64_in (n := (len x : Int) - 1 - (k : Int) - 1) (by omega) (by omega), show (len x : Int) - 1 - (k : Int) - 1 = (len x : Int) - 1 - ((k + 1 : Nat) : Int) by omega]
    unfold f_rrs
    cases ((r_mass s b (svy x (len x - 1 - k))).lo == all.lo) <;> cases ((r_mass s b (svy x (len x - 1 - k))).hi == all.hi) <;> rfl
  · rw [sl_rrs]
    simp only [T.run_br, T.run_chk, T.run_ret, decide_eq_true_eq]
    rw [if_neg (by omega), show (len x : Int) - 1 - ((len x : Nat) : Int) = -1 by omega]
noncomputable def BKU32 : Tab := BKU31.addNode 19 57 (nodeE [13, 2, 9, 4, 3, 12, 11] S_rrs X_rrs (fun s => .obs (K.L_rrs s) .ret))
theorem tKU32 : TabOk P BKU32 := TabOk.addLoop (d := 30) okP tKU31 (by kernel_rfl) (by kernel_rfl) (fun s r h => obs_ret h)
theorem fn_rrs : ∀ a, (callT1 P BKU32 30 19 D_mss R_rst) a = T.run (
  .br (Prod.snd (rTog a) != (0 : Int)) (
    .ret (((0 : Int), (0 : Int), Prod.snd (rTog a)))) (
    .obs (L_rrs ((Prod.snd (Prod.snd a), (0 : Int), (0 : Int), IntKind.wrap IntKind.i64 ((↑(len (Prod.snd (Prod.snd a))) : Int) - (1 : Int))), Prod.fst a, Prod.fst (Prod.snd a), Prod.fst (rTog a), PUnit.unit)) fun x0 =>
      .ret ((Prod.fst (Prod.snd (Prod.fst x0)), Prod.fst (Prod.snd (Prod.snd (Prod.fst x0))), (0 : Int))))) := fun a => by kernel_rfl
end Go.Proofs.YtkajafmphemedaaGreat
/-! KU4 -/
namespace Go.Proofs.YtkajafmphemedaaGreat
open Ev K
set_option maxRecDepth 100000
namespace K
theorem sTog_ok {s : Ship} {b : Bulbs} {x : XS} (h : (sTog (s, b, x)).2 = 0) : ShipOk s ∧ CheckBulbs b = 0 ∧ ListOk b x ∧ void (togetherOf s b x) = false ∧ (sTog (s, b, x)).1 = togetherOf s b x := by
  unfold sTog at h ⊢
  by_cases h1 : (listed1 (s, b, x) != 0) = true
  · rw [if_pos h1] at h; have h : listed1 (s, b, x) = 0 := h; rw [h] at h1; exact absurd h1 (by decide)
  rw [if_neg h1] at h ⊢
  obtain ⟨hs, hb, l⟩ := list_ok (bne_zero h1)
  refine ⟨hs, hb, l, ?_⟩
  by_cases h2 : void (togetherOf s b x) = true
  · rw [if_pos h2] at h; cases h
  rw [if_neg h2]
  exact ⟨by simpa using h2, rfl⟩
end K
noncomputable def K.sRests (a : Ship × Bulbs × XS) : Int × Int × Int := if ((sTog a).2 != 0) = true then (0, 0, (sTog a).2) else
  ((massesL a.1 a.2.1 a.2.2).foldl (restLo (sTog a).1) 0, (massesL a.1 a.2.1 a.2.2).foldl (restHi (sTog a).1) 0, 0)
theorem K.sRests_eq (a : Ship × Bulbs × XS) : callT1 P BKU31 30 18 D_mss R_rst a = some (sRests a) := by
  obtain ⟨s, b, x⟩ := a
  rw [fn_rst]; unfold sRests
  refine br_step (fun _ => rfl) (fun h => ?_)
  obtain ⟨hs, hb, l, _⟩ := sTog_ok (bne_zero h)
  exact chk_step (massesOk_is hs l) rfl
noncomputable def BKU41 : Tab := BKU32.addCall 18 (callE D_mss R_rst (fun a => .ret (sRests a)))
theorem tKU41 : TabOk P BKU41 := TabOk.addPC tKU32 (fun a r h => by rw [← ret_some h]; exact call_of okP tKU31 (sRests_eq a))
noncomputable def K.rRests (a : Ship × Bulbs × XS) : Int × Int × Int := if ((rTog a).2 != 0) = true then (0, 0, (rTog a).2) else
  (((List.range (len a.2.2)).foldl (fun p k => f_rrs a.1 a.2.1 a.2.2 (rTog a).1 p (len a.2.2 - 1 - k)) (0, 0)).1, ((List.range (len a.2.2)).foldl (fun p k => f_rrs a.1 a.2.1 a.2.2 (rTog a).1 p (len a.2.2 - 1 - k)) (0, 0)).2, 0)
theorem K.rRests_eq (a : Ship × Bulbs × XS) : callT1 P BKU32 30 19 D_mss R_rst a = some (rRests a) := by
  obtain ⟨s, b, x⟩ := a
  have e1 := K.len_le x
  rw [fn_rrs]; unfold rRests
  refine br_step (fun _ => rfl) (fun h => ?_)
  have h := bne_zero h
  rw [rTog_is] at h
  obtain ⟨hs, hb, l, _⟩ := sTog_ok h
  have hp := l.pos
  rw [w64_in (n := (len x : Int) - 1) (by omega) (by omega)]
  show T.run (.obs (L_rrs ((x, (0, 0).1, (0, 0).2, (len x : Int) - 1), s, b, (rTog (s, b, x)).1, ())) _) = _
  rw [L_rrs_eq s b x _ (0, 0) (r_massesOk_is hs l)]; rfl
noncomputable def BKU42 : Tab := BKU41.addCall 19 (callE D_mss R_rst (fun a => .ret (rRests a)))
theorem tKU42 : TabOk P BKU42 := TabOk.addPC tKU41 (fun a r h => by rw [← ret_some h]; exact call_of okP tKU32 (rRests_eq a))
/-- The first one with a property, from the left and from the right. -/
theorem K.left_fold (q : Nat → Bool) (v : Nat → Int) : ∀ n : Nat, (∀ i, i < n → v i ≠ 0) → (List.range n).foldl (fun c i => if (c == 0 && q i) = true then v i else c) 0 = match first q n with | some i => v i | none => 0 := by
  intro n
  induction n with
  | zero => intro _; rfl
  | succ n ih =>
    intro h
    have hi := ih (fun i hi => h i (by omega))
    rw [List.range_succ, List.foldl_append, hi]
    simp only [List.foldl_cons, List.foldl_nil]
    cases hf : first q n with
    | some i =>
      obtain ⟨h1, h2, h3⟩ := first_spec hf
      have : first q (n + 1) = some i := first_some (by omega) h2 h3
      rw [this]
      simp only
      rw [if_neg (by have := h i (by omega); simp [this])]
    | none =>
      have hn := first_none' hf
      simp only [BEq.rfl, Bool.true_and]
      cases hq : q n with
      | true => rw [if_pos rfl, first_some (p := q) (n := n + 1) (by omega) hq hn]
      | false =>
        rw [if_neg (by decide), first_none (p := q) (n := n + 1) (fun i hi => by
          rcases Nat.lt_succ_iff_lt_or_eq.1 hi with h' | h'
          · exact hn i h'
          · subst h'; exact hq)]
theorem K.right_fold (q : Nat → Bool) (v : Nat → Int) (n : Nat) : (List.range n).foldl (fun c k => if q (n - 1 - k) = true then v (n - 1 - k) else c) 0 = match first q n with | some i => v i | none => 0 := by
  have key : ∀ m, m ≤ n → (List.range m).foldl (fun c k => if q (n - 1 - k) = true then v (n - 1 - k) else c) 0 = match (List.range' (n - m) m).find? q with | some i => v i | none => 0 := by
    intro m
    induction m with
    | zero => intro _; rfl
    | succ m ih =>
      intro hm
      rw [List.range_succ, List.foldl_append, ih (by omega)]
      simp only [List.foldl_cons, List.foldl_nil]
      rw [List.range'_succ, show n - (m + 1) + 1 = n - m by omega, show n - 1 - m = n - (m + 1) by omega]
      cases hq : q (n - (m + 1)) with
      | true => rw [List.find?_cons_of_pos hq]; rfl
      | false => rw [List.find?_cons_of_neg (by rw [hq]; decide)]; rfl
  have := key n (Nat.le_refl n)
  rw [Nat.sub_self, ← List.range_eq_range'] at this
  exact this
theorem K.pair_fold {α : Type} (f : Int → α → Int) (g : Int → α → Int) : ∀ (l : List α) (a : Int × Int), l.foldl (fun a k => (f a.1 k, g a.2 k)) a = (l.foldl f a.1, l.foldl g a.2)
  | [], a => rfl
  | x :: l, a => by simp only [List.foldl_cons]; exact pair_fold f g l _
theorem K.rRests_is (a : Ship × Bulbs × XS) : rRests a = sRests a := by
  obtain ⟨s, b, x⟩ := a
  unfold rRests sRests
  rw [rTog_is]
  by_cases h : ((sTog (s, b, x)).2 != 0) = true
  · rw [if_pos h, if_pos h]
  rw [if_neg h, if_neg h]
  obtain ⟨hs, hb, l, hv, ht⟩ := sTog_ok (bne_zero h)
  simp only
  generalize (sTog (s, b, x)).1 = all
  have hid : ∀ i, i < len x → x.g i 0 ≠ 0 := fun i hi => by
    have := (svy_ok l hi).1.id.1
    have e : (svy x i).id = x.g i 0 := rfl
    omega
  have hr : ∀ i, i < len x → r_mass s b (svy x i) = massOf s b (svy x i) := fun i hi => by
    obtain ⟨g, d, e⟩ := svy_ok l hi
    exact mass_is hs hb g d e
  have e1 : (massesL s b x).foldl (restLo all) 0 = match first (fun i => (massOf s b (svy x i)).lo == all.lo) (len x) with | some i => x.g i 0 | none => 0 := by
    unfold massesL; rw [List.foldl_map, ← left_fold _ (fun i => x.g i 0) (len x) hid]; rfl
  have e2 : (massesL s b x).foldl (restHi all) 0 = match first (fun i => (massOf s b (svy x i)).hi == all.hi) (len x) with | some i => x.g i 0 | none => 0 := by
    unfold massesL; rw [List.foldl_map, ← left_fold _ (fun i => x.g i 0) (len x) hid]; rfl
  have e3 : (List.range (len x)).foldl (fun p k => f_rrs s b x all p (len x - 1 - k)) (0, 0) =
      (match first (fun i => (massOf s b (svy x i)).lo == all.lo) (len x) with | some i => x.g i 0 | none => 0, match first (fun i => (massOf s b (svy x i)).hi == all.hi) (len x) with | some i => x.g i 0 | none => 0) := by
    rw [← right_fold _ (fun i => x.g i 0) (len x), ← right_fold _ (fun i => x.g i 0) (len x)]
    refine Eq.trans ?_ (pair_fold _ _ (List.range (len x)) (0, 0))
    apply foldl_same
    intro p k hk
    have hk := List.mem_range.1 hk
    unfold f_rrs
    rw [hr (len x - 1 - k) (by omega)]
  rw [e1, e2, e3]
def D_ltg := DecL.cons dShip (.cons dBulbs (.last xSurveys 0))
theorem fn_lawTogether : ∀ a, (callT1 P BKU42 30 4 D_ltg dB) a = T.run (
  .br (!ship (Prod.fst a)) (
    .ret (true)) (
    .br (!few (Prod.fst (Prod.snd a))) (
      .ret (true)) (
      .br (!list (Prod.snd (Prod.snd a))) (
        .ret (true)) (
        .br (Span.lo (Prod.fst (sTog a)) == Span.lo (Prod.fst (rTog a)) && Span.hi (Prod.fst (sTog a)) == Span.hi (Prod.fst (rTog a))) (
          .br (Prod.snd (sTog a) == Prod.snd (rTog a)) (
            .br (Prod.fst (sRests a) == Prod.fst (rRests a)) (
              .br (Prod.fst (Prod.snd (sRests a)) == Prod.fst (Prod.snd (rRests a))) (
                .ret (Prod.snd (Prod.snd (sRests a)) == Prod.snd (Prod.snd (rRests a)))) (
                .ret (false))) (
              .ret (false))) (
            .ret (false))) (
          .ret (false)))))) := fun a => by kernel_rfl
noncomputable def K.lawTogether (a : Ship × Bulbs × XS) : Bool := (if (!ship (Prod.fst a)) = true then true else (if (!few (Prod.fst (Prod.snd a))) = true then true else (if (!list (Prod.snd (Prod.snd a))) = true then true else (if (Span.lo (Prod.fst (sTog a)) == Span.lo (Prod.fst (rTog a)) && Span.hi (Prod.fst (sTog a)) == Span.hi (Prod.fst (rTog a))) = true then (if (Prod.snd (sTog a) == Prod.snd (rTog a)) = true then (if (Prod.fst (sRests a) == Prod.fst (rRests a)) = true then (if (Prod.fst (Prod.snd (sRests a)) == Prod.fst (Prod.snd (rRests a))) = true then Prod.snd (Prod.snd (sRests a)) == Prod.snd (Prod.snd (rRests a)) else false) else false) else false) else false))))
theorem eq_lawTogether (a : Ship × Bulbs × XS) : (callT1 P BKU42 30 4 D_ltg dB) a = some (K.lawTogether a) := (fn_lawTogether a).trans (T.br_some rfl (T.br_some rfl (T.br_some rfl (T.br_some (T.br_some (T.br_some (T.br_some rfl rfl) rfl) rfl) rfl))))
noncomputable def BKU43 : Tab := BKU42.addCall 4 (callE D_ltg dB (fun a => .ret (K.lawTogether a)))
theorem tKU43 : TabOk P BKU43 := TabOk.addFn (d := 30) okP tKU42 (fun a r h => by rw [eq_lawTogether]; exact congrArg some (ret_some h))
theorem K.lawTogether_true (a : Ship × Bulbs × XS) : lawTogether a = true := by
  unfold lawTogether
  simp only [rTog_is, rRests_is, BEq.rfl, Bool.and_self, if_true, ite_self]
end Go.Proofs.YtkajafmphemedaaGreat
/-! KZTogether -/
namespace Go.Proofs.YtkajafmphemedaaGreat
open Ev K
open Go.ChangeShapes Go.WideShapes Go.RowKit
set_option maxRecDepth 100000
theorem law_pc (a) : PC P 4 (D_ltg.enc a) (.bool true) := by
  have h := eq_lawTogether a
  rw [lawTogether_true] at h
  exact call_of okP tKU42 h
theorem ownP : ownKnob P.godebug = none := by kernel_rfl
theorem laidP : laidOutB P = true := by kernel_rfl
theorem ub : P.underlying 4 = some .bool := by kernel_rfl
theorem surveyTogether_lifted (os : Os) (started : os.Started) (H : Type) (enc : TypeId × Value → H) :
    ReturnsInHanded {} Tryz.checked os 4 .any (Rows.surveyTogetherSpec.pre6 enc Tryz.prog Tryz.f4 Rows.surveyTogetherRow.domain false) (Rows.surveyTogetherSpec.post enc Tryz.prog Tryz.f4 false true false false) := by
  refine returnsInHanded_of_change (C := Tryz.checked) ownP started (by kernel_rfl) Tryz.func4
    (ChangeSpec.witness6 (enc := enc) (C := Tryz.checked) false ⟨#[], #[.agg #[.int .i64 0, .int .i64 0, .int .i64 0, .int .i64 0, .slice none 0 0, .slice none 0 0, .int .i64 0, .slice none 0 0, .int .i64 0, .int .i64 0, .int .i64 0], .agg #[.slice none 0 0, .slice none 0 0], .slice none 0 0], []⟩ 8 (by kernel_rfl) (by kernel_rfl) (by kernel_rfl) (by kernel_rfl)) ?_
  intro W base args ds gs before hval hW _ _
  refine law_contract (P := Tryz.prog) D_ltg laidP (by kernel_rfl) rfl (fun ds hd => ?_) (fun W' b sp hd => trodAll_mk1 (shut_bool ub true)) (fun W' => ok_one (by kernel_rfl) rfl (okWide_bool_mk ub true)) (fun W base args ds p hval hA => ?_) law_pc W base args ds gs before hval hW
  · rw [Tryz.params4] at hd
    match ds, hd with
    | [a, b, c], _ => rfl
  · rw [Tryz.params4] at hA hval
    obtain ⟨v0, vs0, d0, ds0, p0, q0, e0, _, _, h0, r0⟩ := trodAll_cons hA
    obtain ⟨v1, vs1, d1, ds1, p1, q1, e1, _, _, h1, r1⟩ := trodAll_cons r0
    obtain ⟨v2, vs2, d2, ds2, p2, q2, e2, _, _, h2, r2⟩ := trodAll_cons r1
    obtain ⟨e3, _, _⟩ := trodAll_nil r2
    subst e3; subst e2; subst e1
    have ha : args = #[v0, v1, v2] := by apply Array.ext'; exact e0
    subst ha
    exact rdL_cons (rp_ship (hval 0 _ v0 rfl rfl) h0) (rdL_cons (rp_bulbs (hval 1 _ v1 rfl rfl) h1) (rdL_last (rp_surveys (hval 2 _ v2 rfl rfl) h2)))
theorem surveyTogether_holds : Rows.SurveyTogetherSaid :=
  OpenClaim.holds_of_wide 4 Tryz.f4 rfl rfl rfl rfl rfl rfl rfl ⟨rfl, rfl, rfl, rfl, rfl⟩ rfl rfl rfl rfl rfl (by kernel_rfl) Tryz.func4 (by kernel_rfl)
    (of_decide_eq_true (by kernel_rfl)) (by unfold Func.isWrapper; rw [if_neg (of_decide_eq_false (by kernel_rfl))]; exact ⟨rfl, rfl⟩)
    (fun os started H enc _ => surveyTogether_lifted os started H enc)
#print axioms surveyTogether_holds
end Go.Proofs.YtkajafmphemedaaGreat
