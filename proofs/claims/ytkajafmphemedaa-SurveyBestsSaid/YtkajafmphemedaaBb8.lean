/- SurveyBests: for every input the law returns true, and the input reads as it did. No conditions. -/
import Derived.Test.YtkajafmphemedaaRows
import Derived.Test.YtkajafmphemedaaBb7
/-! KW1 -/
namespace Go.Proofs.Ytkajafmphemedaa
open Ev K
set_option maxRecDepth 100000
namespace K
theorem r_ready_is (a : Ship × Bulbs × Survey) : r_ready a = checked a := by
  unfold r_ready checked
  rw [r_ship_is, r_check_is]
theorem checked_ok {s : Ship} {b : Bulbs} {x : Survey} (h : checked (s, b, x) = 0) : ShipOk s ∧ CheckBulbs b = 0 ∧ Good x ∧ (density (b, x)).2 = 0 ∧ (extremes x).2 = true := by
  unfold checked at h
  obtain ⟨h1, h2⟩ := ite_err h
  exact ⟨ship_ok h1, Check_ok h2⟩
theorem ready_ok {s : Ship} {b : Bulbs} {x : Survey} (h : r_ready (s, b, x) = 0) : ShipOk s ∧ CheckBulbs b = 0 ∧ Good x ∧ (density (b, x)).2 = 0 ∧ (extremes x).2 = true := by
  rw [r_ready_is] at h; exact checked_ok h
end K
noncomputable def K.rVolumes (a : Ship × Bulbs × Survey) : Range × Int := if (r_ready a != 0) = true then (⟨⟨0, 0⟩, ⟨0, 0⟩⟩, r_ready a) else if (!(r_volumes a.1 a.2.2).2) = true then (⟨⟨0, 0⟩, ⟨0, 0⟩⟩, 9) else ((r_volumes a.1 a.2.2).1, 0)
theorem K.rVolumes_eq (a : Ship × Bulbs × Survey) : callT1 P BKN121 30 15 D_rrdy R_rVol a = some (rVolumes a) := by
  obtain ⟨s, b, x⟩ := a
  rw [fn_rVol]; unfold rVolumes
  refine br_step (fun _ => rfl) (fun h => ?_)
  obtain ⟨hs, hb, hg, hd, he⟩ := ready_ok (bne_zero h)
  exact chk_step (volumes_is hs hg he).1 (br_step (fun _ => rfl) (fun _ => rfl))
noncomputable def K.rMass (a : Ship × Bulbs × Survey) : Span × Int := if (r_ready a != 0) = true then (⟨0, 0⟩, r_ready a) else if r_none (r_mass a.1 a.2.1 a.2.2) = true then (⟨0, 0⟩, 9) else (r_mass a.1 a.2.1 a.2.2, 0)
theorem K.rMass_eq (a : Ship × Bulbs × Survey) : callT1 P BKN121 30 16 D_rrdy R_off a = some (rMass a) := by
  obtain ⟨s, b, x⟩ := a
  rw [fn_rMas]; unfold rMass
  refine br_step (fun _ => rfl) (fun h => ?_)
  obtain ⟨hs, hb, hg, hd, he⟩ := ready_ok (bne_zero h)
  exact chk_step (massOk_is hs hg he).2 (br_step (fun _ => rfl) (fun _ => rfl))
noncomputable def K.rPossible (a : Ship × Bulbs × Survey × Int) : Bool × Int := if (r_ready (a.1, a.2.1, a.2.2.1) != 0) = true then (false, r_ready (a.1, a.2.1, a.2.2.1)) else
  if decide (a.2.2.2 ≥ (r_mass a.1 a.2.1 a.2.2.1).lo) = true then (decide (a.2.2.2 ≤ (r_mass a.1 a.2.1 a.2.2.1).hi), 0) else (false, 0)
theorem K.rPossible_eq (a : Ship × Bulbs × Survey × Int) : callT1 P BKN121 30 18 D_rpos R_rpos a = some (rPossible a) := by
  obtain ⟨s, b, x, n⟩ := a
  rw [fn_rPos]; unfold rPossible
  refine br_step (fun _ => rfl) (fun h => ?_)
  obtain ⟨hs, hb, hg, hd, he⟩ := ready_ok (bne_zero h)
  exact chk_step (massOk_is hs hg he).2 (br_step (fun _ => rfl) (fun _ => rfl))
noncomputable def K.sVolumes (a : Ship × Bulbs × Survey) : Range × Int := if (checked a != 0) = true then (⟨⟨0, 0⟩, ⟨0, 0⟩⟩, checked a) else if (!(volumes a.1 a.2.2).2) = true then (⟨⟨0, 0⟩, ⟨0, 0⟩⟩, 9) else (⟨r_low (volumes a.1 a.2.2).1.1, r_low (volumes a.1 a.2.2).1.2⟩, 0)
theorem K.sVolumes_eq (a : Ship × Bulbs × Survey) : callT1 P BKN122 30 14 D_rrdy R_rVol a = some (sVolumes a) := by
  obtain ⟨s, b, x⟩ := a
  rw [fn_sVol]; unfold sVolumes
  refine br_step (fun _ => rfl) (fun h => ?_)
  obtain ⟨hs, hb, hg, hd, he⟩ := checked_ok (bne_zero h)
  refine chk_step (decide_eq_true hs.mean.pos) (br_step (fun _ => rfl) (fun hn => ?_))
  have hv : void (ySpan s x) = false := by
    cases hv : void (ySpan s x) with
    | false => rfl
    | true => exfalso; apply hn; show (!(volumes s x).2) = true; unfold volumes; rw [hv]; rfl
  obtain ⟨⟨a1, a2, a3⟩, b1, b2, b3⟩ := wheres (x := x) hs hv
  have e : volumes s x = ((whereOf s.mean (ySpan s x).lo, whereOf s.mean (ySpan s x).hi), true) := by unfold volumes; rw [hv]; rfl
  refine chk_step ?_ (chk_step ?_ rfl)
  · show lowOk (volumes s x).1.1 = true; rw [e]; exact low_ok a2
  · show lowOk (volumes s x).1.2 = true; rw [e]; exact low_ok b2
noncomputable def K.sMass (a : Ship × Bulbs × Survey) : Span × Int := if (checked a != 0) = true then (⟨0, 0⟩, checked a) else if void (massOf a.1 a.2.1 a.2.2) = true then (⟨0, 0⟩, 9) else (massOf a.1 a.2.1 a.2.2, 0)
theorem K.sMass_eq (a : Ship × Bulbs × Survey) : callT1 P BKN122 30 12 D_rrdy R_off a = some (sMass a) := by
  obtain ⟨s, b, x⟩ := a
  rw [fn_sMas]; unfold sMass
  refine br_step (fun _ => rfl) (fun h => ?_)
  obtain ⟨hs, hb, hg, hd, he⟩ := checked_ok (bne_zero h)
  exact chk_step (massOk_is hs hg he).1 (br_step (fun _ => rfl) (fun _ => rfl))
noncomputable def K.sPossible (a : Ship × Bulbs × Survey × Int) : Bool × Int := if (checked (a.1, a.2.1, a.2.2.1) != 0) = true then (false, checked (a.1, a.2.1, a.2.2.1)) else
  (within a.2.2.2 (massOf a.1 a.2.1 a.2.2.1).lo (massOf a.1 a.2.1 a.2.2.1).hi, 0)
theorem K.sPossible_eq (a : Ship × Bulbs × Survey × Int) : callT1 P BKN122 30 17 D_rpos R_rpos a = some (sPossible a) := by
  obtain ⟨s, b, x, n⟩ := a
  rw [fn_sPos]; unfold sPossible
  refine br_step (fun _ => rfl) (fun h => ?_)
  obtain ⟨hs, hb, hg, hd, he⟩ := checked_ok (bne_zero h)
  exact chk_step (massOk_is hs hg he).1 rfl
noncomputable def BKW11 : Tab := BKN122.addCall 15 (callE D_rrdy R_rVol (fun a => .ret (rVolumes a)))
theorem tKW11 : TabOk P BKW11 := TabOk.addPC tKN122 (fun a r h => by rw [← ret_some h]; exact call_of okP tKN121 (rVolumes_eq a))
noncomputable def BKW12 : Tab := BKW11.addCall 16 (callE D_rrdy R_off (fun a => .ret (rMass a)))
theorem tKW12 : TabOk P BKW12 := TabOk.addPC tKW11 (fun a r h => by rw [← ret_some h]; exact call_of okP tKN121 (rMass_eq a))
noncomputable def BKW13 : Tab := BKW12.addCall 18 (callE D_rpos R_rpos (fun a => .ret (rPossible a)))
theorem tKW13 : TabOk P BKW13 := TabOk.addPC tKW12 (fun a r h => by rw [← ret_some h]; exact call_of okP tKN121 (rPossible_eq a))
noncomputable def BKW14 : Tab := BKW13.addCall 14 (callE D_rrdy R_rVol (fun a => .ret (sVolumes a)))
theorem tKW14 : TabOk P BKW14 := TabOk.addPC tKW13 (fun a r h => by rw [← ret_some h]; exact call_of okP tKN122 (sVolumes_eq a))
noncomputable def BKW15 : Tab := BKW14.addCall 12 (callE D_rrdy R_off (fun a => .ret (sMass a)))
theorem tKW15 : TabOk P BKW15 := TabOk.addPC tKW14 (fun a r h => by rw [← ret_some h]; exact call_of okP tKN122 (sMass_eq a))
noncomputable def BKW16 : Tab := BKW15.addCall 17 (callE D_rpos R_rpos (fun a => .ret (sPossible a)))
theorem tKW16 : TabOk P BKW16 := TabOk.addPC tKW15 (fun a r h => by rw [← ret_some h]; exact call_of okP tKN122 (sPossible_eq a))
theorem K.rVolumes_is (a : Ship × Bulbs × Survey) : rVolumes a = sVolumes a := by
  obtain ⟨s, b, x⟩ := a
  unfold rVolumes sVolumes
  rw [r_ready_is]
  by_cases h : (checked (s, b, x) != 0) = true
  · rw [if_pos h, if_pos h]
  rw [if_neg h, if_neg h]
  obtain ⟨hs, hb, hg, hd, he⟩ := checked_ok (bne_zero h)
  simp only
  rw [(volumes_is hs hg he).2]
  unfold volumes
  cases void (ySpan s x) <;> rfl
theorem K.rMass_is (a : Ship × Bulbs × Survey) : rMass a = sMass a := by
  obtain ⟨s, b, x⟩ := a
  unfold rMass sMass
  rw [r_ready_is]
  by_cases h : (checked (s, b, x) != 0) = true
  · rw [if_pos h, if_pos h]
  rw [if_neg h, if_neg h]
  obtain ⟨hs, hb, hg, hd, he⟩ := checked_ok (bne_zero h)
  simp only
  rw [mass_is hs hb hg hd he]; rfl
theorem K.rPossible_is (a : Ship × Bulbs × Survey × Int) : rPossible a = sPossible a := by
  obtain ⟨s, b, x, n⟩ := a
  unfold rPossible sPossible
  rw [r_ready_is]
  simp only
  by_cases h : (checked (s, b, x) != 0) = true
  · rw [if_pos h, if_pos h]
  rw [if_neg h, if_neg h]
  obtain ⟨hs, hb, hg, hd, he⟩ := checked_ok (bne_zero h)
  rw [mass_is hs hb hg hd he]
  unfold within
  show (if decide ((massOf s b x).lo ≤ n) = true then _ else _) = _
  cases decide ((massOf s b x).lo ≤ n) <;> rfl
def D_lmass := DecL.cons dShip (.cons dBulbs (.cons dSurvey (.last (dI .i64) 0)))
theorem fn_lawMasses : ∀ a, (callT1 P BKW16 30 4 D_lmass dB) a = T.run (
  .br (!ship (Prod.fst a)) (
    .ret (true)) (
    .br (!few (Prod.fst (Prod.snd a))) (
      .ret (true)) (
      .br (Frac.num (Range.lo (Prod.fst (sVolumes (Prod.fst a, Prod.fst (Prod.snd a), Prod.fst (Prod.snd (Prod.snd a)))))) == Frac.num (Range.lo (Prod.fst (rVolumes (Prod.fst a, Prod.fst (Prod.snd a), Prod.fst (Prod.snd (Prod.snd a)))))) && Frac.den (Range.lo (Prod.fst (sVolumes (Prod.fst a, Prod.fst (Prod.snd a), Prod.fst (Prod.snd (Prod.snd a)))))) == Frac.den (Range.lo (Prod.fst (rVolumes (Prod.fst a, Prod.fst (Prod.snd a), Prod.fst (Prod.snd (Prod.snd a)))))) && (Frac.num (Range.hi (Prod.fst (sVolumes (Prod.fst a, Prod.fst (Prod.snd a), Prod.fst (Prod.snd (Prod.snd a)))))) == Frac.num (Range.hi (Prod.fst (rVolumes (Prod.fst a, Prod.fst (Prod.snd a), Prod.fst (Prod.snd (Prod.snd a)))))) && Frac.den (Range.hi (Prod.fst (sVolumes (Prod.fst a, Prod.fst (Prod.snd a), Prod.fst (Prod.snd (Prod.snd a)))))) == Frac.den (Range.hi (Prod.fst (rVolumes (Prod.fst a, Prod.fst (Prod.snd a), Prod.fst (Prod.snd (Prod.snd a)))))))) (
        .br (Prod.snd (sVolumes (Prod.fst a, Prod.fst (Prod.snd a), Prod.fst (Prod.snd (Prod.snd a)))) == Prod.snd (rVolumes (Prod.fst a, Prod.fst (Prod.snd a), Prod.fst (Prod.snd (Prod.snd a))))) (
          .br (Span.lo (Prod.fst (sMass (Prod.fst a, Prod.fst (Prod.snd a), Prod.fst (Prod.snd (Prod.snd a))))) == Span.lo (Prod.fst (rMass (Prod.fst a, Prod.fst (Prod.snd a), Prod.fst (Prod.snd (Prod.snd a))))) && Span.hi (Prod.fst (sMass (Prod.fst a, Prod.fst (Prod.snd a), Prod.fst (Prod.snd (Prod.snd a))))) == Span.hi (Prod.fst (rMass (Prod.fst a, Prod.fst (Prod.snd a), Prod.fst (Prod.snd (Prod.snd a)))))) (
            .br (Prod.snd (sMass (Prod.fst a, Prod.fst (Prod.snd a), Prod.fst (Prod.snd (Prod.snd a)))) == Prod.snd (rMass (Prod.fst a, Prod.fst (Prod.snd a), Prod.fst (Prod.snd (Prod.snd a))))) (
              .br (Prod.fst (sPossible a) == Prod.fst (rPossible a)) (
                .ret (Prod.snd (sPossible a) == Prod.snd (rPossible a))) (
                .ret (false))) (
              .ret (false))) (
            .ret (false))) (
          .ret (false))) (
        .ret (false))))) := fun a => by kernel_rfl
noncomputable def K.lawMasses (a : Ship × Bulbs × Survey × Int) : Bool := (if (!ship (Prod.fst a)) = true then true else (if (!few (Prod.fst (Prod.snd a))) = true then true else (if (Frac.num (Range.lo (Prod.fst (sVolumes (Prod.fst a, Prod.fst (Prod.snd a), Prod.fst (Prod.snd (Prod.snd a)))))) == Frac.num (Range.lo (Prod.fst (rVolumes (Prod.fst a, Prod.fst (Prod.snd a), Prod.fst (Prod.snd (Prod.snd a)))))) && Frac.den (Range.lo (Prod.fst (sVolumes (Prod.fst a, Prod.fst (Prod.snd a), Prod.fst (Prod.snd (Prod.snd a)))))) == Frac.den (Range.lo (Prod.fst (rVolumes (Prod.fst a, Prod.fst (Prod.snd a), Prod.fst (Prod.snd (Prod.snd a)))))) && (Frac.num (Range.hi (Prod.fst (sVolumes (Prod.fst a, Prod.fst (Prod.snd a), Prod.fst (Prod.snd (Prod.snd a)))))) == Frac.num (Range.hi (Prod.fst (rVolumes (Prod.fst a, Prod.fst (Prod.snd a), Prod.fst (Prod.snd (Prod.snd a)))))) && Frac.den (Range.hi (Prod.fst (sVolumes (Prod.fst a, Prod.fst (Prod.snd a), Prod.fst (Prod.snd (Prod.snd a)))))) == Frac.den (Range.hi (Prod.fst (rVolumes (Prod.fst a, Prod.fst (Prod.snd a), Prod.fst (Prod.snd (Prod.snd a)))))))) = true then (if (Prod.snd (sVolumes (Prod.fst a, Prod.fst (Prod.snd a), Prod.fst (Prod.snd (Prod.snd a)))) == Prod.snd (rVolumes (Prod.fst a, Prod.fst (Prod.snd a), Prod.fst (Prod.snd (Prod.snd a))))) = true then (if (Span.lo (Prod.fst (sMass (Prod.fst a, Prod.fst (Prod.snd a), Prod.fst (Prod.snd (Prod.snd a))))) == Span.lo (Prod.fst (rMass (Prod.fst a, Prod.fst (Prod.snd a), Prod.fst (Prod.snd (Prod.snd a))))) && Span.hi (Prod.fst (sMass (Prod.fst a, Prod.fst (Prod.snd a), Prod.fst (Prod.snd (Prod.snd a))))) == Span.hi (Prod.fst (rMass (Prod.fst a, Prod.fst (Prod.snd a), Prod.fst (Prod.snd (Prod.snd a)))))) = true then (if (Prod.snd (sMass (Prod.fst a, Prod.fst (Prod.snd a), Prod.fst (Prod.snd (Prod.snd a)))) == Prod.snd (rMass (Prod.fst a, Prod.fst (Prod.snd a), Prod.fst (Prod.snd (Prod.snd a))))) = true then (if (Prod.fst (sPossible a) == Prod.fst (rPossible a)) = true then Prod.snd (sPossible a) == Prod.snd (rPossible a) else false) else false) else false) else false) else false)))
theorem eq_lawMasses (a : Ship × Bulbs × Survey × Int) : (callT1 P BKW16 30 4 D_lmass dB) a = some (K.lawMasses a) := (fn_lawMasses a).trans (T.br_some rfl (T.br_some rfl (T.br_some (T.br_some (T.br_some (T.br_some (T.br_some rfl rfl) rfl) rfl) rfl) rfl)))
noncomputable def BKW17 : Tab := BKW16.addCall 4 (callE D_lmass dB (fun a => .ret (K.lawMasses a)))
theorem tKW17 : TabOk P BKW17 := TabOk.addFn (d := 30) okP tKW16 (fun a r h => by rw [eq_lawMasses]; exact congrArg some (ret_some h))
theorem K.lawMasses_true (a : Ship × Bulbs × Survey × Int) : lawMasses a = true := by
  unfold lawMasses
  simp only [rVolumes_is, rMass_is, rPossible_is, BEq.rfl, Bool.and_self, if_true, ite_self]
end Go.Proofs.Ytkajafmphemedaa
/-! KX6 -/
namespace Go.Proofs.Ytkajafmphemedaa
open Ev K
set_option maxRecDepth 100000
noncomputable def BKX61 : Tab := BKX514.addCall 12 (callE D_rrdy R_off (fun a => .ret (sMass a)))
theorem tKX61 : TabOk P BKX61 := TabOk.addPC tKX514 (fun a r h => by rw [← ret_some h]; exact call_of okP tKN122 (sMass_eq a))
noncomputable def BKX62 : Tab := BKX61.addCall 16 (callE D_rrdy R_off (fun a => .ret (rMass a)))
theorem tKX62 : TabOk P BKX62 := TabOk.addPC tKX61 (fun a r h => by rw [← ret_some h]; exact call_of okP tKN121 (rMass_eq a))
def S_bst := DecS.mk0 (.skips 3 (.unit (dLp 0 0 0 0) (.unit (dLp 1 0 0 0) (.unit (dLp 2 0 0 0) (.skips 5 (.cons (dI .i64) (.cons (dI .i64) (.skips 12 (.last (dI .i64) 19))))))))) (.flat 27 lShip (.flat 31 lBulbs (.flat 36 lSurvey .nil)))
def X_bst := DecX.one (.exit 0) [25, 12, 5, 4, 3, 11] S_bst
noncomputable def K.st_bst := loopT1 P BKX62 30 20 49 [25, 12, 5, 4, 3, 11] S_bst X_bst
theorem sl_bst : ∀ s, (K.st_bst) s = T.run (
  .br (decide (Prod.snd (Prod.snd (Prod.fst s)) < (6 : Int))) (
    .chk (useG (Prod.fst (Prod.snd s)) (Prod.fst (Prod.snd (Prod.snd s))) (Prod.fst (Prod.snd (Prod.snd (Prod.snd s)))) && (decide ((0 : Int) ≤ Prod.snd (Prod.snd (Prod.fst s))) && decide (Prod.snd (Prod.snd (Prod.fst s)) < (6 : Int)))) <|
    .br (decide (Prod.fst (Prod.snd (Prod.fst s)) < (0 : Int))) (
      .ret (Sum.inl ((Prod.snd (Prod.snd (Prod.fst s)), useOf (Prod.fst (Prod.snd s)) (Prod.fst (Prod.snd (Prod.snd s))) (Int.toNat (Prod.snd (Prod.snd (Prod.fst s)))) (Prod.fst (Prod.snd (Prod.snd (Prod.snd s)))), IntKind.wrap IntKind.i64 (Prod.snd (Prod.snd (Prod.fst s)) + (1 : Int))), Prod.fst (Prod.snd s), Prod.fst (Prod.snd (Prod.snd s)), Prod.fst (Prod.snd (Prod.snd (Prod.snd s))), PUnit.unit))) (
      .br (decide (useOf (Prod.fst (Prod.snd s)) (Prod.fst (Prod.snd (Prod.snd s))) (Int.toNat (Prod.snd (Prod.snd (Prod.fst s)))) (Prod.fst (Prod.snd (Prod.snd (Prod.snd s)))) < Prod.fst (Prod.snd (Prod.fst s)))) (
        .ret (Sum.inl ((Prod.snd (Prod.snd (Prod.fst s)), useOf (Prod.fst (Prod.snd s)) (Prod.fst (Prod.snd (Prod.snd s))) (Int.toNat (Prod.snd (Prod.snd (Prod.fst s)))) (Prod.fst (Prod.snd (Prod.snd (Prod.snd s)))), IntKind.wrap IntKind.i64 (Prod.snd (Prod.snd (Prod.fst s)) + (1 : Int))), Prod.fst (Prod.snd s), Prod.fst (Prod.snd (Prod.snd s)), Prod.fst (Prod.snd (Prod.snd (Prod.snd s))), PUnit.unit))) (
        .ret (Sum.inl ((Prod.fst (Prod.fst s), Prod.fst (Prod.snd (Prod.fst s)), IntKind.wrap IntKind.i64 (Prod.snd (Prod.snd (Prod.fst s)) + (1 : Int))), Prod.fst (Prod.snd s), Prod.fst (Prod.snd (Prod.snd s)), Prod.fst (Prod.snd (Prod.snd (Prod.snd s))), PUnit.unit))))) (
    .ret (Sum.inr (Prod.fst s, Prod.fst (Prod.snd s), Prod.fst (Prod.snd (Prod.snd s)), Prod.fst (Prod.snd (Prod.snd (Prod.snd s))), PUnit.unit)))) := fun s => by kernel_rfl
noncomputable def K.L_bst := lim K.st_bst
noncomputable def BKX63 : Tab := BKX62.addNode 20 49 (nodeE [25, 12, 5, 4, 3, 11] S_bst X_bst (fun s => .obs (K.L_bst s) .ret))
theorem tKX63 : TabOk P BKX63 := TabOk.addLoop (d := 30) okP tKX62 (by kernel_rfl) (by kernel_rfl) (fun s r h => obs_ret h)
def R_bst := dTup (.cons (dI .i64) (.cons (dI .i64) (.last (dI .i64) 0)))
theorem fn_bst : ∀ a, (callT1 P BKX63 30 20 D_rrdy R_bst) a = T.run (
  .br (Prod.snd (sMass a) != (0 : Int)) (
    .ret (((0 : Int), (0 : Int), Prod.snd (sMass a)))) (
    .obs (L_bst (((0 : Int), (-1 : Int), (0 : Int)), Prod.fst a, Prod.fst (Prod.snd a), Prod.snd (Prod.snd a), PUnit.unit)) fun x0 =>
      .ret ((Prod.fst (Prod.fst x0), Prod.fst (Prod.snd (Prod.fst x0)), (0 : Int))))) := fun a => by kernel_rfl
def lHelps := DecL.cons (dI .i64) (.cons (dI .i64) (.last (dI .i64) 0))
def S_rbs := DecS.mk0 (.skips 3 (.unit (dLp 0 0 0 0) (.unit (dLp 1 0 0 0) (.unit (dLp 2 0 0 0) (.unit (dLp 3 0 0 0) (.skips 2 (.unit (dLp 4 0 0 0) (.last (dI .i64) 34)))))))) (.flat 27 lShip (.flat 31 lBulbs (.flat 36 lSurvey (.flat 61 lHelps (.flat 61 lHelps .nil)))))
def X_rbs := DecX.one (.exit 0) [10, 9, 5, 4, 3, 6] S_rbs
noncomputable def K.st_rbs := loopT1 P BKX63 30 21 49 [10, 9, 5, 4, 3, 6] S_rbs X_rbs
theorem sl_rbs : ∀ s, (K.st_rbs) s = T.run (
  .br (decide (Prod.fst s < (6 : Int))) (
    .chk (useG (Prod.fst (Prod.snd s)) (Prod.fst (Prod.snd (Prod.snd s))) (Prod.fst (Prod.snd (Prod.snd (Prod.snd s)))) && (decide ((0 : Int) ≤ Prod.fst s) && decide (Prod.fst s < (6 : Int)))) <|
    .br (decide (r_useOf (Prod.fst (Prod.snd s)) (Prod.fst (Prod.snd (Prod.snd s))) (Int.toNat (Prod.fst s)) (Prod.fst (Prod.snd (Prod.snd (Prod.snd s)))) < Prod.fst (Prod.snd (Prod.fst (Prod.snd (Prod.snd (Prod.snd (Prod.snd (Prod.snd s))))))))) (
      .ret (Sum.inl (IntKind.wrap IntKind.i64 (Prod.fst s + (1 : Int)), Prod.fst (Prod.snd s), Prod.fst (Prod.snd (Prod.snd s)), Prod.fst (Prod.snd (Prod.snd (Prod.snd s))), Prod.fst (Prod.snd (Prod.snd (Prod.snd (Prod.snd s)))), (Prod.fst s, r_useOf (Prod.fst (Prod.snd s)) (Prod.fst (Prod.snd (Prod.snd s))) (Int.toNat (Prod.fst s)) (Prod.fst (Prod.snd (Prod.snd (Prod.snd s)))), (0 : Int)), PUnit.unit))) (
      .ret (Sum.inl (IntKind.wrap IntKind.i64 (Prod.fst s + (1 : Int)), Prod.fst (Prod.snd s), Prod.fst (Prod.snd (Prod.snd s)), Prod.fst (Prod.snd (Prod.snd (Prod.snd s))), Prod.fst (Prod.snd (Prod.snd (Prod.snd (Prod.snd s)))), Prod.fst (Prod.snd (Prod.snd (Prod.snd (Prod.snd (Prod.snd s))))), PUnit.unit)))) (
    .ret (Sum.inr (Prod.fst s, Prod.fst (Prod.snd s), Prod.fst (Prod.snd (Prod.snd s)), Prod.fst (Prod.snd (Prod.snd (Prod.snd s))), Prod.fst (Prod.snd (Prod.snd (Prod.snd (Prod.snd s)))), Prod.fst (Prod.snd (Prod.snd (Prod.snd (Prod.snd (Prod.snd s))))), PUnit.unit)))) := fun s => by kernel_rfl
noncomputable def K.L_rbs := lim K.st_rbs
noncomputable def BKX64 : Tab := BKX63.addNode 21 49 (nodeE [10, 9, 5, 4, 3, 6] S_rbs X_rbs (fun s => .obs (K.L_rbs s) .ret))
theorem tKX64 : TabOk P BKX64 := TabOk.addLoop (d := 30) okP tKX63 (by kernel_rfl) (by kernel_rfl) (fun s r h => obs_ret h)
def R_rbs := dAgg lHelps
theorem fn_rbs : ∀ a, (callT1 P BKX64 30 21 D_rrdy R_rbs) a = T.run (
  .br (Prod.snd (rMass a) != (0 : Int)) (
    .ret (((0 : Int), (0 : Int), Prod.snd (rMass a)))) (
    .chk (useG (Prod.fst a) (Prod.fst (Prod.snd a)) (Prod.snd (Prod.snd a)) && (decide ((0 : Int) ≤ (0 : Int)) && decide ((0 : Int) < (6 : Int)))) <|
    .obs (L_rbs ((1 : Int), Prod.fst a, Prod.fst (Prod.snd a), Prod.snd (Prod.snd a), ((0 : Int), (0 : Int), (0 : Int)), ((0 : Int), r_useOf (Prod.fst a) (Prod.fst (Prod.snd a)) (nat_lit 0) (Prod.snd (Prod.snd a)), (0 : Int)), PUnit.unit)) fun x0 =>
      .ret (Prod.fst (Prod.snd (Prod.snd (Prod.snd (Prod.snd (Prod.snd x0)))))))) := fun a => by kernel_rfl
def D_calm := DecL.last dSurvey 0
theorem fn_calm : ∀ a, (callT1 P BKX64 30 19 D_calm dB) a = T.run (
  .br (decide (IntKind.wrap IntKind.i64 (Span.hi (Survey.m0 a) - Span.lo (Survey.m0 a)) > (8 : Int))) (
    .br (decide (IntKind.wrap IntKind.i64 (Span.hi (Survey.m0 a) - Span.lo (Survey.m0 a)) < (400 : Int))) (
      .ret (false)) (
      .br (decide (IntKind.wrap IntKind.i64 (Span.hi (Survey.m1 a) - Span.lo (Survey.m1 a)) > (8 : Int))) (
        .br (decide (IntKind.wrap IntKind.i64 (Span.hi (Survey.m1 a) - Span.lo (Survey.m1 a)) < (400 : Int))) (
          .ret (false)) (
          .br (decide (IntKind.wrap IntKind.i64 (Span.hi (Survey.m2 a) - Span.lo (Survey.m2 a)) > (8 : Int))) (
            .br (decide (IntKind.wrap IntKind.i64 (Span.hi (Survey.m2 a) - Span.lo (Survey.m2 a)) < (400 : Int))) (
              .ret (false)) (
              .br (decide (IntKind.wrap IntKind.i64 (Span.hi (Survey.m3 a) - Span.lo (Survey.m3 a)) > (8 : Int))) (
                .br (decide (IntKind.wrap IntKind.i64 (Span.hi (Survey.m3 a) - Span.lo (Survey.m3 a)) < (400 : Int))) (
                  .ret (false)) (
                  .br (decide (IntKind.wrap IntKind.i64 (Span.hi (Survey.m4 a) - Span.lo (Survey.m4 a)) > (8 : Int))) (
                    .br (decide (IntKind.wrap IntKind.i64 (Span.hi (Survey.m4 a) - Span.lo (Survey.m4 a)) < (400 : Int))) (
                      .ret (false)) (
                      .br (decide (IntKind.wrap IntKind.i64 (Span.hi (Survey.m5 a) - Span.lo (Survey.m5 a)) > (8 : Int))) (
                        .br (decide (IntKind.wrap IntKind.i64 (Span.hi (Survey.m5 a) - Span.lo (Survey.m5 a)) < (400 : Int))) (
                          .ret (false)) (
                          .ret (true))) (
                        .ret (true)))) (
                    .br (decide (IntKind.wrap IntKind.i64 (Span.hi (Survey.m5 a) - Span.lo (Survey.m5 a)) > (8 : Int))) (
                      .br (decide (IntKind.wrap IntKind.i64 (Span.hi (Survey.m5 a) - Span.lo (Survey.m5 a)) < (400 : Int))) (
                        .ret (false)) (
                        .ret (true))) (
                      .ret (true))))) (
                .br (decide (IntKind.wrap IntKind.i64 (Span.hi (Survey.m4 a) - Span.lo (Survey.m4 a)) > (8 : Int))) (
                  .br (decide (IntKind.wrap IntKind.i64 (Span.hi (Survey.m4 a) - Span.lo (Survey.m4 a)) < (400 : Int))) (
                    .ret (false)) (
                    .br (decide (IntKind.wrap IntKind.i64 (Span.hi (Survey.m5 a) - Span.lo (Survey.m5 a)) > (8 : Int))) (
                      .br (decide (IntKind.wrap IntKind.i64 (Span.hi (Survey.m5 a) - Span.lo (Survey.m5 a)) < (400 : Int))) (
                        .ret (false)) (
                        .ret (true))) (
                      .ret (true)))) (
                  .br (decide (IntKind.wrap IntKind.i64 (Span.hi (Survey.m5 a) - Span.lo (Survey.m5 a)) > (8 : Int))) (
                    .br (decide (IntKind.wrap IntKind.i64 (Span.hi (Survey.m5 a) - Span.lo (Survey.m5 a)) < (400 : Int))) (
                      .ret (false)) (
                      .ret (true))) (
                    .ret (true)))))) (
            .br (decide (IntKind.wrap IntKind.i64 (Span.hi (Survey.m3 a) - Span.lo (Survey.m3 a)) > (8 : Int))) (
              .br (decide (IntKind.wrap IntKind.i64 (Span.hi (Survey.m3 a) - Span.lo (Survey.m3 a)) < (400 : Int))) (
                .ret (false)) (
                .br (decide (IntKind.wrap IntKind.i64 (Span.hi (Survey.m4 a) - Span.lo (Survey.m4 a)) > (8 : Int))) (
                  .br (decide (IntKind.wrap IntKind.i64 (Span.hi (Survey.m4 a) - Span.lo (Survey.m4 a)) < (400 : Int))) (
                    .ret (false)) (
                    .br (decide (IntKind.wrap IntKind.i64 (Span.hi (Survey.m5 a) - Span.lo (Survey.m5 a)) > (8 : Int))) (
                      .br (decide (IntKind.wrap IntKind.i64 (Span.hi (Survey.m5 a) - Span.lo (Survey.m5 a)) < (400 : Int))) (
                        .ret (false)) (
                        .ret (true))) (
                      .ret (true)))) (
                  .br (decide (IntKind.wrap IntKind.i64 (Span.hi (Survey.m5 a) - Span.lo (Survey.m5 a)) > (8 : Int))) (
                    .br (decide (IntKind.wrap IntKind.i64 (Span.hi (Survey.m5 a) - Span.lo (Survey.m5 a)) < (400 : Int))) (
                      .ret (false)) (
                      .ret (true))) (
                    .ret (true))))) (
              .br (decide (IntKind.wrap IntKind.i64 (Span.hi (Survey.m4 a) - Span.lo (Survey.m4 a)) > (8 : Int))) (
                .br (decide (IntKind.wrap IntKind.i64 (Span.hi (Survey.m4 a) - Span.lo (Survey.m4 a)) < (400 : Int))) (
                  .ret (false)) (
                  .br (decide (IntKind.wrap IntKind.i64 (Span.hi (Survey.m5 a) - Span.lo (Survey.m5 a)) > (8 : Int))) (
                    .br (decide (IntKind.wrap IntKind.i64 (Span.hi (Survey.m5 a) - Span.lo (Survey.m5 a)) < (400 : Int))) (
                      .ret (false)) (
                      .ret (true))) (
                    .ret (true)))) (
                .br (decide (IntKind.wrap IntKind.i64 (Span.hi (Survey.m5 a) - Span.lo (Survey.m5 a)) > (8 : Int))) (
                  .br (decide (IntKind.wrap IntKind.i64 (Span.hi (Survey.m5 a) - Span.lo (Survey.m5 a)) < (400 : Int))) (
                    .ret (false)) (
                    .ret (true))) (
                  .ret (true))))))) (
        .br (decide (IntKind.wrap IntKind.i64 (Span.hi (Survey.m2 a) - Span.lo (Survey.m2 a)) > (8 : Int))) (
          .br (decide (IntKind.wrap IntKind.i64 (Span.hi (Survey.m2 a) - Span.lo (Survey.m2 a)) < (400 : Int))) (
            .ret (false)) (
            .br (decide (IntKind.wrap IntKind.i64 (Span.hi (Survey.m3 a) - Span.lo (Survey.m3 a)) > (8 : Int))) (
              .br (decide (IntKind.wrap IntKind.i64 (Span.hi (Survey.m3 a) - Span.lo (Survey.m3 a)) < (400 : Int))) (
                .ret (false)) (
                .br (decide (IntKind.wrap IntKind.i64 (Span.hi (Survey.m4 a) - Span.lo (Survey.m4 a)) > (8 : Int))) (
                  .br (decide (IntKind.wrap IntKind.i64 (Span.hi (Survey.m4 a) - Span.lo (Survey.m4 a)) < (400 : Int))) (
                    .ret (false)) (
                    .br (decide (IntKind.wrap IntKind.i64 (Span.hi (Survey.m5 a) - Span.lo (Survey.m5 a)) > (8 : Int))) (
                      .br (decide (IntKind.wrap IntKind.i64 (Span.hi (Survey.m5 a) - Span.lo (Survey.m5 a)) < (400 : Int))) (
                        .ret (false)) (
                        .ret (true))) (
                      .ret (true)))) (
                  .br (decide (IntKind.wrap IntKind.i64 (Span.hi (Survey.m5 a) - Span.lo (Survey.m5 a)) > (8 : Int))) (
                    .br (decide (IntKind.wrap IntKind.i64 (Span.hi (Survey.m5 a) - Span.lo (Survey.m5 a)) < (400 : Int))) (
                      .ret (false)) (
                      .ret (true))) (
                    .ret (true))))) (
              .br (decide (IntKind.wrap IntKind.i64 (Span.hi (Survey.m4 a) - Span.lo (Survey.m4 a)) > (8 : Int))) (
                .br (decide (IntKind.wrap IntKind.i64 (Span.hi (Survey.m4 a) - Span.lo (Survey.m4 a)) < (400 : Int))) (
                  .ret (false)) (
                  .br (decide (IntKind.wrap IntKind.i64 (Span.hi (Survey.m5 a) - Span.lo (Survey.m5 a)) > (8 : Int))) (
                    .br (decide (IntKind.wrap IntKind.i64 (Span.hi (Survey.m5 a) - Span.lo (Survey.m5 a)) < (400 : Int))) (
                      .ret (false)) (
                      .ret (true))) (
                    .ret (true)))) (
                .br (decide (IntKind.wrap IntKind.i64 (Span.hi (Survey.m5 a) - Span.lo (Survey.m5 a)) > (8 : Int))) (
                  .br (decide (IntKind.wrap IntKind.i64 (Span.hi (Survey.m5 a) - Span.lo (Survey.m5 a)) < (400 : Int))) (
                    .ret (false)) (
                    .ret (true))) (
                  .ret (true)))))) (
          .br (decide (IntKind.wrap IntKind.i64 (Span.hi (Survey.m3 a) - Span.lo (Survey.m3 a)) > (8 : Int))) (
            .br (decide (IntKind.wrap IntKind.i64 (Span.hi (Survey.m3 a) - Span.lo (Survey.m3 a)) < (400 : Int))) (
              .ret (false)) (
              .br (decide (IntKind.wrap IntKind.i64 (Span.hi (Survey.m4 a) - Span.lo (Survey.m4 a)) > (8 : Int))) (
                .br (decide (IntKind.wrap IntKind.i64 (Span.hi (Survey.m4 a) - Span.lo (Survey.m4 a)) < (400 : Int))) (
                  .ret (false)) (
                  .br (decide (IntKind.wrap IntKind.i64 (Span.hi (Survey.m5 a) - Span.lo (Survey.m5 a)) > (8 : Int))) (
                    .br (decide (IntKind.wrap IntKind.i64 (Span.hi (Survey.m5 a) - Span.lo (Survey.m5 a)) < (400 : Int))) (
                      .ret (false)) (
                      .ret (true))) (
                    .ret (true)))) (
                .br (decide (IntKind.wrap IntKind.i64 (Span.hi (Survey.m5 a) - Span.lo (Survey.m5 a)) > (8 : Int))) (
                  .br (decide (IntKind.wrap IntKind.i64 (Span.hi (Survey.m5 a) - Span.lo (Survey.m5 a)) < (400 : Int))) (
                    .ret (false)) (
                    .ret (true))) (
                  .ret (true))))) (
            .br (decide (IntKind.wrap IntKind.i64 (Span.hi (Survey.m4 a) - Span.lo (Survey.m4 a)) > (8 : Int))) (
              .br (decide (IntKind.wrap IntKind.i64 (Span.hi (Survey.m4 a) - Span.lo (Survey.m4 a)) < (400 : Int))) (
                .ret (false)) (
                .br (decide (IntKind.wrap IntKind.i64 (Span.hi (Survey.m5 a) - Span.lo (Survey.m5 a)) > (8 : Int))) (
                  .br (decide (IntKind.wrap IntKind.i64 (Span.hi (Survey.m5 a) - Span.lo (Survey.m5 a)) < (400 : Int))) (
                    .ret (false)) (
                    .ret (true))) (
                  .ret (true)))) (
              .br (decide (IntKind.wrap IntKind.i64 (Span.hi (Survey.m5 a) - Span.lo (Survey.m5 a)) > (8 : Int))) (
                .br (decide (IntKind.wrap IntKind.i64 (Span.hi (Survey.m5 a) - Span.lo (Survey.m5 a)) < (400 : Int))) (
                  .ret (false)) (
                  .ret (true))) (
                .ret (true)))))))) (
    .br (decide (IntKind.wrap IntKind.i64 (Span.hi (Survey.m1 a) - Span.lo (Survey.m1 a)) > (8 : Int))) (
      .br (decide (IntKind.wrap IntKind.i64 (Span.hi (Survey.m1 a) - Span.lo (Survey.m1 a)) < (400 : Int))) (
        .ret (false)) (
        .br (decide (IntKind.wrap IntKind.i64 (Span.hi (Survey.m2 a) - Span.lo (Survey.m2 a)) > (8 : Int))) (
          .br (decide (IntKind.wrap IntKind.i64 (Span.hi (Survey.m2 a) - Span.lo (Survey.m2 a)) < (400 : Int))) (
            .ret (false)) (
            .br (decide (IntKind.wrap IntKind.i64 (Span.hi (Survey.m3 a) - Span.lo (Survey.m3 a)) > (8 : Int))) (
              .br (decide (IntKind.wrap IntKind.i64 (Span.hi (Survey.m3 a) - Span.lo (Survey.m3 a)) < (400 : Int))) (
                .ret (false)) (
                .br (decide (IntKind.wrap IntKind.i64 (Span.hi (Survey.m4 a) - Span.lo (Survey.m4 a)) > (8 : Int))) (
                  .br (decide (IntKind.wrap IntKind.i64 (Span.hi (Survey.m4 a) - Span.lo (Survey.m4 a)) < (400 : Int))) (
                    .ret (false)) (
                    .br (decide (IntKind.wrap IntKind.i64 (Span.hi (Survey.m5 a) - Span.lo (Survey.m5 a)) > (8 : Int))) (
                      .br (decide (IntKind.wrap IntKind.i64 (Span.hi (Survey.m5 a) - Span.lo (Survey.m5 a)) < (400 : Int))) (
                        .ret (false)) (
                        .ret (true))) (
                      .ret (true)))) (
                  .br (decide (IntKind.wrap IntKind.i64 (Span.hi (Survey.m5 a) - Span.lo (Survey.m5 a)) > (8 : Int))) (
                    .br (decide (IntKind.wrap IntKind.i64 (Span.hi (Survey.m5 a) - Span.lo (Survey.m5 a)) < (400 : Int))) (
                      .ret (false)) (
                      .ret (true))) (
                    .ret (true))))) (
              .br (decide (IntKind.wrap IntKind.i64 (Span.hi (Survey.m4 a) - Span.lo (Survey.m4 a)) > (8 : Int))) (
                .br (decide (IntKind.wrap IntKind.i64 (Span.hi (Survey.m4 a) - Span.lo (Survey.m4 a)) < (400 : Int))) (
                  .ret (false)) (
                  .br (decide (IntKind.wrap IntKind.i64 (Span.hi (Survey.m5 a) - Span.lo (Survey.m5 a)) > (8 : Int))) (
                    .br (decide (IntKind.wrap IntKind.i64 (Span.hi (Survey.m5 a) - Span.lo (Survey.m5 a)) < (400 : Int))) (
                      .ret (false)) (
                      .ret (true))) (
                    .ret (true)))) (
                .br (decide (IntKind.wrap IntKind.i64 (Span.hi (Survey.m5 a) - Span.lo (Survey.m5 a)) > (8 : Int))) (
                  .br (decide (IntKind.wrap IntKind.i64 (Span.hi (Survey.m5 a) - Span.lo (Survey.m5 a)) < (400 : Int))) (
                    .ret (false)) (
                    .ret (true))) (
                  .ret (true)))))) (
          .br (decide (IntKind.wrap IntKind.i64 (Span.hi (Survey.m3 a) - Span.lo (Survey.m3 a)) > (8 : Int))) (
            .br (decide (IntKind.wrap IntKind.i64 (Span.hi (Survey.m3 a) - Span.lo (Survey.m3 a)) < (400 : Int))) (
              .ret (false)) (
              .br (decide (IntKind.wrap IntKind.i64 (Span.hi (Survey.m4 a) - Span.lo (Survey.m4 a)) > (8 : Int))) (
                .br (decide (IntKind.wrap IntKind.i64 (Span.hi (Survey.m4 a) - Span.lo (Survey.m4 a)) < (400 : Int))) (
                  .ret (false)) (
                  .br (decide (IntKind.wrap IntKind.i64 (Span.hi (Survey.m5 a) - Span.lo (Survey.m5 a)) > (8 : Int))) (
                    .br (decide (IntKind.wrap IntKind.i64 (Span.hi (Survey.m5 a) - Span.lo (Survey.m5 a)) < (400 : Int))) (
                      .ret (false)) (
                      .ret (true))) (
                    .ret (true)))) (
                .br (decide (IntKind.wrap IntKind.i64 (Span.hi (Survey.m5 a) - Span.lo (Survey.m5 a)) > (8 : Int))) (
                  .br (decide (IntKind.wrap IntKind.i64 (Span.hi (Survey.m5 a) - Span.lo (Survey.m5 a)) < (400 : Int))) (
                    .ret (false)) (
                    .ret (true))) (
                  .ret (true))))) (
            .br (decide (IntKind.wrap IntKind.i64 (Span.hi (Survey.m4 a) - Span.lo (Survey.m4 a)) > (8 : Int))) (
              .br (decide (IntKind.wrap IntKind.i64 (Span.hi (Survey.m4 a) - Span.lo (Survey.m4 a)) < (400 : Int))) (
                .ret (false)) (
                .br (decide (IntKind.wrap IntKind.i64 (Span.hi (Survey.m5 a) - Span.lo (Survey.m5 a)) > (8 : Int))) (
                  .br (decide (IntKind.wrap IntKind.i64 (Span.hi (Survey.m5 a) - Span.lo (Survey.m5 a)) < (400 : Int))) (
                    .ret (false)) (
                    .ret (true))) (
                  .ret (true)))) (
              .br (decide (IntKind.wrap IntKind.i64 (Span.hi (Survey.m5 a) - Span.lo (Survey.m5 a)) > (8 : Int))) (
                .br (decide (IntKind.wrap IntKind.i64 (Span.hi (Survey.m5 a) - Span.lo (Survey.m5 a)) < (400 : Int))) (
                  .ret (false)) (
                  .ret (true))) (
                .ret (true))))))) (
      .br (decide (IntKind.wrap IntKind.i64 (Span.hi (Survey.m2 a) - Span.lo (Survey.m2 a)) > (8 : Int))) (
        .br (decide (IntKind.wrap IntKind.i64 (Span.hi (Survey.m2 a) - Span.lo (Survey.m2 a)) < (400 : Int))) (
          .ret (false)) (
          .br (decide (IntKind.wrap IntKind.i64 (Span.hi (Survey.m3 a) - Span.lo (Survey.m3 a)) > (8 : Int))) (
            .br (decide (IntKind.wrap IntKind.i64 (Span.hi (Survey.m3 a) - Span.lo (Survey.m3 a)) < (400 : Int))) (
              .ret (false)) (
              .br (decide (IntKind.wrap IntKind.i64 (Span.hi (Survey.m4 a) - Span.lo (Survey.m4 a)) > (8 : Int))) (
                .br (decide (IntKind.wrap IntKind.i64 (Span.hi (Survey.m4 a) - Span.lo (Survey.m4 a)) < (400 : Int))) (
                  .ret (false)) (
                  .br (decide (IntKind.wrap IntKind.i64 (Span.hi (Survey.m5 a) - Span.lo (Survey.m5 a)) > (8 : Int))) (
                    .br (decide (IntKind.wrap IntKind.i64 (Span.hi (Survey.m5 a) - Span.lo (Survey.m5 a)) < (400 : Int))) (
                      .ret (false)) (
                      .ret (true))) (
                    .ret (true)))) (
                .br (decide (IntKind.wrap IntKind.i64 (Span.hi (Survey.m5 a) - Span.lo (Survey.m5 a)) > (8 : Int))) (
                  .br (decide (IntKind.wrap IntKind.i64 (Span.hi (Survey.m5 a) - Span.lo (Survey.m5 a)) < (400 : Int))) (
                    .ret (false)) (
                    .ret (true))) (
                  .ret (true))))) (
            .br (decide (IntKind.wrap IntKind.i64 (Span.hi (Survey.m4 a) - Span.lo (Survey.m4 a)) > (8 : Int))) (
              .br (decide (IntKind.wrap IntKind.i64 (Span.hi (Survey.m4 a) - Span.lo (Survey.m4 a)) < (400 : Int))) (
                .ret (false)) (
                .br (decide (IntKind.wrap IntKind.i64 (Span.hi (Survey.m5 a) - Span.lo (Survey.m5 a)) > (8 : Int))) (
                  .br (decide (IntKind.wrap IntKind.i64 (Span.hi (Survey.m5 a) - Span.lo (Survey.m5 a)) < (400 : Int))) (
                    .ret (false)) (
                    .ret (true))) (
                  .ret (true)))) (
              .br (decide (IntKind.wrap IntKind.i64 (Span.hi (Survey.m5 a) - Span.lo (Survey.m5 a)) > (8 : Int))) (
                .br (decide (IntKind.wrap IntKind.i64 (Span.hi (Survey.m5 a) - Span.lo (Survey.m5 a)) < (400 : Int))) (
                  .ret (false)) (
                  .ret (true))) (
                .ret (true)))))) (
        .br (decide (IntKind.wrap IntKind.i64 (Span.hi (Survey.m3 a) - Span.lo (Survey.m3 a)) > (8 : Int))) (
          .br (decide (IntKind.wrap IntKind.i64 (Span.hi (Survey.m3 a) - Span.lo (Survey.m3 a)) < (400 : Int))) (
            .ret (false)) (
            .br (decide (IntKind.wrap IntKind.i64 (Span.hi (Survey.m4 a) - Span.lo (Survey.m4 a)) > (8 : Int))) (
              .br (decide (IntKind.wrap IntKind.i64 (Span.hi (Survey.m4 a) - Span.lo (Survey.m4 a)) < (400 : Int))) (
                .ret (false)) (
                .br (decide (IntKind.wrap IntKind.i64 (Span.hi (Survey.m5 a) - Span.lo (Survey.m5 a)) > (8 : Int))) (
                  .br (decide (IntKind.wrap IntKind.i64 (Span.hi (Survey.m5 a) - Span.lo (Survey.m5 a)) < (400 : Int))) (
                    .ret (false)) (
                    .ret (true))) (
                  .ret (true)))) (
              .br (decide (IntKind.wrap IntKind.i64 (Span.hi (Survey.m5 a) - Span.lo (Survey.m5 a)) > (8 : Int))) (
                .br (decide (IntKind.wrap IntKind.i64 (Span.hi (Survey.m5 a) - Span.lo (Survey.m5 a)) < (400 : Int))) (
                  .ret (false)) (
                  .ret (true))) (
                .ret (true))))) (
          .br (decide (IntKind.wrap IntKind.i64 (Span.hi (Survey.m4 a) - Span.lo (Survey.m4 a)) > (8 : Int))) (
            .br (decide (IntKind.wrap IntKind.i64 (Span.hi (Survey.m4 a) - Span.lo (Survey.m4 a)) < (400 : Int))) (
              .ret (false)) (
              .br (decide (IntKind.wrap IntKind.i64 (Span.hi (Survey.m5 a) - Span.lo (Survey.m5 a)) > (8 : Int))) (
                .br (decide (IntKind.wrap IntKind.i64 (Span.hi (Survey.m5 a) - Span.lo (Survey.m5 a)) < (400 : Int))) (
                  .ret (false)) (
                  .ret (true))) (
                .ret (true)))) (
            .br (decide (IntKind.wrap IntKind.i64 (Span.hi (Survey.m5 a) - Span.lo (Survey.m5 a)) > (8 : Int))) (
              .br (decide (IntKind.wrap IntKind.i64 (Span.hi (Survey.m5 a) - Span.lo (Survey.m5 a)) < (400 : Int))) (
                .ret (false)) (
                .ret (true))) (
              .ret (true)))))))) := fun a => by kernel_rfl
noncomputable def K.calm (a : Survey) : Bool := (if (decide (IntKind.wrap IntKind.i64 (Span.hi (Survey.m0 a) - Span.lo (Survey.m0 a)) > (8 : Int))) = true then (if (decide (IntKind.wrap IntKind.i64 (Span.hi (Survey.m0 a) - Span.lo (Survey.m0 a)) < (400 : Int))) = true then false else (if (decide (IntKind.wrap IntKind.i64 (Span.hi (Survey.m1 a) - Span.lo (Survey.m1 a)) > (8 : Int))) = true then (if (decide (IntKind.wrap IntKind.i64 (Span.hi (Survey.m1 a) - Span.lo (Survey.m1 a)) < (400 : Int))) = true then false else (if (decide (IntKind.wrap IntKind.i64 (Span.hi (Survey.m2 a) - Span.lo (Survey.m2 a)) > (8 : Int))) = true then (if (decide (IntKind.wrap IntKind.i64 (Span.hi (Survey.m2 a) - Span.lo (Survey.m2 a)) < (400 : Int))) = true then false else (if (decide (IntKind.wrap IntKind.i64 (Span.hi (Survey.m3 a) - Span.lo (Survey.m3 a)) > (8 : Int))) = true then (if (decide (IntKind.wrap IntKind.i64 (Span.hi (Survey.m3 a) - Span.lo (Survey.m3 a)) < (400 : Int))) = true then false else (if (decide (IntKind.wrap IntKind.i64 (Span.hi (Survey.m4 a) - Span.lo (Survey.m4 a)) > (8 : Int))) = true then (if (decide (IntKind.wrap IntKind.i64 (Span.hi (Survey.m4 a) - Span.lo (Survey.m4 a)) < (400 : Int))) = true then false else (if (decide (IntKind.wrap IntKind.i64 (Span.hi (Survey.m5 a) - Span.lo (Survey.m5 a)) > (8 : Int))) = true then (if (decide (IntKind.wrap IntKind.i64 (Span.hi (Survey.m5 a) - Span.lo (Survey.m5 a)) < (400 : Int))) = true then false else true) else true)) else (if (decide (IntKind.wrap IntKind.i64 (Span.hi (Survey.m5 a) - Span.lo (Survey.m5 a)) > (8 : Int))) = true then (if (decide (IntKind.wrap IntKind.i64 (Span.hi (Survey.m5 a) - Span.lo (Survey.m5 a)) < (400 : Int))) = true then false else true) else true))) else (if (decide (IntKind.wrap IntKind.i64 (Span.hi (Survey.m4 a) - Span.lo (Survey.m4 a)) > (8 : Int))) = true then (if (decide (IntKind.wrap IntKind.i64 (Span.hi (Survey.m4 a) - Span.lo (Survey.m4 a)) < (400 : Int))) = true then false else (if (decide (IntKind.wrap IntKind.i64 (Span.hi (Survey.m5 a) - Span.lo (Survey.m5 a)) > (8 : Int))) = true then (if (decide (IntKind.wrap IntKind.i64 (Span.hi (Survey.m5 a) - Span.lo (Survey.m5 a)) < (400 : Int))) = true then false else true) else true)) else (if (decide (IntKind.wrap IntKind.i64 (Span.hi (Survey.m5 a) - Span.lo (Survey.m5 a)) > (8 : Int))) = true then (if (decide (IntKind.wrap IntKind.i64 (Span.hi (Survey.m5 a) - Span.lo (Survey.m5 a)) < (400 : Int))) = true then false else true) else true)))) else (if (decide (IntKind.wrap IntKind.i64 (Span.hi (Survey.m3 a) - Span.lo (Survey.m3 a)) > (8 : Int))) = true then (if (decide (IntKind.wrap IntKind.i64 (Span.hi (Survey.m3 a) - Span.lo (Survey.m3 a)) < (400 : Int))) = true then false else (if (decide (IntKind.wrap IntKind.i64 (Span.hi (Survey.m4 a) - Span.lo (Survey.m4 a)) > (8 : Int))) = true then (if (decide (IntKind.wrap IntKind.i64 (Span.hi (Survey.m4 a) - Span.lo (Survey.m4 a)) < (400 : Int))) = true then false else (if (decide (IntKind.wrap IntKind.i64 (Span.hi (Survey.m5 a) - Span.lo (Survey.m5 a)) > (8 : Int))) = true then (if (decide (IntKind.wrap IntKind.i64 (Span.hi (Survey.m5 a) - Span.lo (Survey.m5 a)) < (400 : Int))) = true then false else true) else true)) else (if (decide (IntKind.wrap IntKind.i64 (Span.hi (Survey.m5 a) - Span.lo (Survey.m5 a)) > (8 : Int))) = true then (if (decide (IntKind.wrap IntKind.i64 (Span.hi (Survey.m5 a) - Span.lo (Survey.m5 a)) < (400 : Int))) = true then false else true) else true))) else (if (decide (IntKind.wrap IntKind.i64 (Span.hi (Survey.m4 a) - Span.lo (Survey.m4 a)) > (8 : Int))) = true then (if (decide (IntKind.wrap IntKind.i64 (Span.hi (Survey.m4 a) - Span.lo (Survey.m4 a)) < (400 : Int))) = true then false else (if (decide (IntKind.wrap IntKind.i64 (Span.hi (Survey.m5 a) - Span.lo (Survey.m5 a)) > (8 : Int))) = true then (if (decide (IntKind.wrap IntKind.i64 (Span.hi (Survey.m5 a) - Span.lo (Survey.m5 a)) < (400 : Int))) = true then false else true) else true)) else (if (decide (IntKind.wrap IntKind.i64 (Span.hi (Survey.m5 a) - Span.lo (Survey.m5 a)) > (8 : Int))) = true then (if (decide (IntKind.wrap IntKind.i64 (Span.hi (Survey.m5 a) - Span.lo (Survey.m5 a)) < (400 : Int))) = true then false else true) else true))))) else (if (decide (IntKind.wrap IntKind.i64 (Span.hi (Survey.m2 a) - Span.lo (Survey.m2 a)) > (8 : Int))) = true then (if (decide (IntKind.wrap IntKind.i64 (Span.hi (Survey.m2 a) - Span.lo (Survey.m2 a)) < (400 : Int))) = true then false else (if (decide (IntKind.wrap IntKind.i64 (Span.hi (Survey.m3 a) - Span.lo (Survey.m3 a)) > (8 : Int))) = true then (if (decide (IntKind.wrap IntKind.i64 (Span.hi (Survey.m3 a) - Span.lo (Survey.m3 a)) < (400 : Int))) = true then false else (if (decide (IntKind.wrap IntKind.i64 (Span.hi (Survey.m4 a) - Span.lo (Survey.m4 a)) > (8 : Int))) = true then (if (decide (IntKind.wrap IntKind.i64 (Span.hi (Survey.m4 a) - Span.lo (Survey.m4 a)) < (400 : Int))) = true then false else (if (decide (IntKind.wrap IntKind.i64 (Span.hi (Survey.m5 a) - Span.lo (Survey.m5 a)) > (8 : Int))) = true then (if (decide (IntKind.wrap IntKind.i64 (Span.hi (Survey.m5 a) - Span.lo (Survey.m5 a)) < (400 : Int))) = true then false else true) else true)) else (if (decide (IntKind.wrap IntKind.i64 (Span.hi (Survey.m5 a) - Span.lo (Survey.m5 a)) > (8 : Int))) = true then (if (decide (IntKind.wrap IntKind.i64 (Span.hi (Survey.m5 a) - Span.lo (Survey.m5 a)) < (400 : Int))) = true then false else true) else true))) else (if (decide (IntKind.wrap IntKind.i64 (Span.hi (Survey.m4 a) - Span.lo (Survey.m4 a)) > (8 : Int))) = true then (if (decide (IntKind.wrap IntKind.i64 (Span.hi (Survey.m4 a) - Span.lo (Survey.m4 a)) < (400 : Int))) = true then false else (if (decide (IntKind.wrap IntKind.i64 (Span.hi (Survey.m5 a) - Span.lo (Survey.m5 a)) > (8 : Int))) = true then (if (decide (IntKind.wrap IntKind.i64 (Span.hi (Survey.m5 a) - Span.lo (Survey.m5 a)) < (400 : Int))) = true then false else true) else true)) else (if (decide (IntKind.wrap IntKind.i64 (Span.hi (Survey.m5 a) - Span.lo (Survey.m5 a)) > (8 : Int))) = true then (if (decide (IntKind.wrap IntKind.i64 (Span.hi (Survey.m5 a) - Span.lo (Survey.m5 a)) < (400 : Int))) = true then false else true) else true)))) else (if (decide (IntKind.wrap IntKind.i64 (Span.hi (Survey.m3 a) - Span.lo (Survey.m3 a)) > (8 : Int))) = true then (if (decide (IntKind.wrap IntKind.i64 (Span.hi (Survey.m3 a) - Span.lo (Survey.m3 a)) < (400 : Int))) = true then false else (if (decide (IntKind.wrap IntKind.i64 (Span.hi (Survey.m4 a) - Span.lo (Survey.m4 a)) > (8 : Int))) = true then (if (decide (IntKind.wrap IntKind.i64 (Span.hi (Survey.m4 a) - Span.lo (Survey.m4 a)) < (400 : Int))) = true then false else (if (decide (IntKind.wrap IntKind.i64 (Span.hi (Survey.m5 a) - Span.lo (Survey.m5 a)) > (8 : Int))) = true then (if (decide (IntKind.wrap IntKind.i64 (Span.hi (Survey.m5 a) - Span.lo (Survey.m5 a)) < (400 : Int))) = true then false else true) else true)) else (if (decide (IntKind.wrap IntKind.i64 (Span.hi (Survey.m5 a) - Span.lo (Survey.m5 a)) > (8 : Int))) = true then (if (decide (IntKind.wrap IntKind.i64 (Span.hi (Survey.m5 a) - Span.lo (Survey.m5 a)) < (400 : Int))) = true then false else true) else true))) else (if (decide (IntKind.wrap IntKind.i64 (Span.hi (Survey.m4 a) - Span.lo (Survey.m4 a)) > (8 : Int))) = true then (if (decide (IntKind.wrap IntKind.i64 (Span.hi (Survey.m4 a) - Span.lo (Survey.m4 a)) < (400 : Int))) = true then false else (if (decide (IntKind.wrap IntKind.i64 (Span.hi (Survey.m5 a) - Span.lo (Survey.m5 a)) > (8 : Int))) = true then (if (decide (IntKind.wrap IntKind.i64 (Span.hi (Survey.m5 a) - Span.lo (Survey.m5 a)) < (400 : Int))) = true then false else true) else true)) else (if (decide (IntKind.wrap IntKind.i64 (Span.hi (Survey.m5 a) - Span.lo (Survey.m5 a)) > (8 : Int))) = true then (if (decide (IntKind.wrap IntKind.i64 (Span.hi (Survey.m5 a) - Span.lo (Survey.m5 a)) < (400 : Int))) = true then false else true) else true)))))) else (if (decide (IntKind.wrap IntKind.i64 (Span.hi (Survey.m1 a) - Span.lo (Survey.m1 a)) > (8 : Int))) = true then (if (decide (IntKind.wrap IntKind.i64 (Span.hi (Survey.m1 a) - Span.lo (Survey.m1 a)) < (400 : Int))) = true then false else (if (decide (IntKind.wrap IntKind.i64 (Span.hi (Survey.m2 a) - Span.lo (Survey.m2 a)) > (8 : Int))) = true then (if (decide (IntKind.wrap IntKind.i64 (Span.hi (Survey.m2 a) - Span.lo (Survey.m2 a)) < (400 : Int))) = true then false else (if (decide (IntKind.wrap IntKind.i64 (Span.hi (Survey.m3 a) - Span.lo (Survey.m3 a)) > (8 : Int))) = true then (if (decide (IntKind.wrap IntKind.i64 (Span.hi (Survey.m3 a) - Span.lo (Survey.m3 a)) < (400 : Int))) = true then false else (if (decide (IntKind.wrap IntKind.i64 (Span.hi (Survey.m4 a) - Span.lo (Survey.m4 a)) > (8 : Int))) = true then (if (decide (IntKind.wrap IntKind.i64 (Span.hi (Survey.m4 a) - Span.lo (Survey.m4 a)) < (400 : Int))) = true then false else (if (decide (IntKind.wrap IntKind.i64 (Span.hi (Survey.m5 a) - Span.lo (Survey.m5 a)) > (8 : Int))) = true then (if (decide (IntKind.wrap IntKind.i64 (Span.hi (Survey.m5 a) - Span.lo (Survey.m5 a)) < (400 : Int))) = true then false else true) else true)) else (if (decide (IntKind.wrap IntKind.i64 (Span.hi (Survey.m5 a) - Span.lo (Survey.m5 a)) > (8 : Int))) = true then (if (decide (IntKind.wrap IntKind.i64 (Span.hi (Survey.m5 a) - Span.lo (Survey.m5 a)) < (400 : Int))) = true then false else true) else true))) else (if (decide (IntKind.wrap IntKind.i64 (Span.hi (Survey.m4 a) - Span.lo (Survey.m4 a)) > (8 : Int))) = true then (if (decide (IntKind.wrap IntKind.i64 (Span.hi (Survey.m4 a) - Span.lo (Survey.m4 a)) < (400 : Int))) = true then false else (if (decide (IntKind.wrap IntKind.i64 (Span.hi (Survey.m5 a) - Span.lo (Survey.m5 a)) > (8 : Int))) = true then (if (decide (IntKind.wrap IntKind.i64 (Span.hi (Survey.m5 a) - Span.lo (Survey.m5 a)) < (400 : Int))) = true then false else true) else true)) else (if (decide (IntKind.wrap IntKind.i64 (Span.hi (Survey.m5 a) - Span.lo (Survey.m5 a)) > (8 : Int))) = true then (if (decide (IntKind.wrap IntKind.i64 (Span.hi (Survey.m5 a) - Span.lo (Survey.m5 a)) < (400 : Int))) = true then false else true) else true)))) else (if (decide (IntKind.wrap IntKind.i64 (Span.hi (Survey.m3 a) - Span.lo (Survey.m3 a)) > (8 : Int))) = true then (if (decide (IntKind.wrap IntKind.i64 (Span.hi (Survey.m3 a) - Span.lo (Survey.m3 a)) < (400 : Int))) = true then false else (if (decide (IntKind.wrap IntKind.i64 (Span.hi (Survey.m4 a) - Span.lo (Survey.m4 a)) > (8 : Int))) = true then (if (decide (IntKind.wrap IntKind.i64 (Span.hi (Survey.m4 a) - Span.lo (Survey.m4 a)) < (400 : Int))) = true then false else (if (decide (IntKind.wrap IntKind.i64 (Span.hi (Survey.m5 a) - Span.lo (Survey.m5 a)) > (8 : Int))) = true then (if (decide (IntKind.wrap IntKind.i64 (Span.hi (Survey.m5 a) - Span.lo (Survey.m5 a)) < (400 : Int))) = true then false else true) else true)) else (if (decide (IntKind.wrap IntKind.i64 (Span.hi (Survey.m5 a) - Span.lo (Survey.m5 a)) > (8 : Int))) = true then (if (decide (IntKind.wrap IntKind.i64 (Span.hi (Survey.m5 a) - Span.lo (Survey.m5 a)) < (400 : Int))) = true then false else true) else true))) else (if (decide (IntKind.wrap IntKind.i64 (Span.hi (Survey.m4 a) - Span.lo (Survey.m4 a)) > (8 : Int))) = true then (if (decide (IntKind.wrap IntKind.i64 (Span.hi (Survey.m4 a) - Span.lo (Survey.m4 a)) < (400 : Int))) = true then false else (if (decide (IntKind.wrap IntKind.i64 (Span.hi (Survey.m5 a) - Span.lo (Survey.m5 a)) > (8 : Int))) = true then (if (decide (IntKind.wrap IntKind.i64 (Span.hi (Survey.m5 a) - Span.lo (Survey.m5 a)) < (400 : Int))) = true then false else true) else true)) else (if (decide (IntKind.wrap IntKind.i64 (Span.hi (Survey.m5 a) - Span.lo (Survey.m5 a)) > (8 : Int))) = true then (if (decide (IntKind.wrap IntKind.i64 (Span.hi (Survey.m5 a) - Span.lo (Survey.m5 a)) < (400 : Int))) = true then false else true) else true))))) else (if (decide (IntKind.wrap IntKind.i64 (Span.hi (Survey.m2 a) - Span.lo (Survey.m2 a)) > (8 : Int))) = true then (if (decide (IntKind.wrap IntKind.i64 (Span.hi (Survey.m2 a) - Span.lo (Survey.m2 a)) < (400 : Int))) = true then false else (if (decide (IntKind.wrap IntKind.i64 (Span.hi (Survey.m3 a) - Span.lo (Survey.m3 a)) > (8 : Int))) = true then (if (decide (IntKind.wrap IntKind.i64 (Span.hi (Survey.m3 a) - Span.lo (Survey.m3 a)) < (400 : Int))) = true then false else (if (decide (IntKind.wrap IntKind.i64 (Span.hi (Survey.m4 a) - Span.lo (Survey.m4 a)) > (8 : Int))) = true then (if (decide (IntKind.wrap IntKind.i64 (Span.hi (Survey.m4 a) - Span.lo (Survey.m4 a)) < (400 : Int))) = true then false else (if (decide (IntKind.wrap IntKind.i64 (Span.hi (Survey.m5 a) - Span.lo (Survey.m5 a)) > (8 : Int))) = true then (if (decide (IntKind.wrap IntKind.i64 (Span.hi (Survey.m5 a) - Span.lo (Survey.m5 a)) < (400 : Int))) = true then false else true) else true)) else (if (decide (IntKind.wrap IntKind.i64 (Span.hi (Survey.m5 a) - Span.lo (Survey.m5 a)) > (8 : Int))) = true then (if (decide (IntKind.wrap IntKind.i64 (Span.hi (Survey.m5 a) - Span.lo (Survey.m5 a)) < (400 : Int))) = true then false else true) else true))) else (if (decide (IntKind.wrap IntKind.i64 (Span.hi (Survey.m4 a) - Span.lo (Survey.m4 a)) > (8 : Int))) = true then (if (decide (IntKind.wrap IntKind.i64 (Span.hi (Survey.m4 a) - Span.lo (Survey.m4 a)) < (400 : Int))) = true then false else (if (decide (IntKind.wrap IntKind.i64 (Span.hi (Survey.m5 a) - Span.lo (Survey.m5 a)) > (8 : Int))) = true then (if (decide (IntKind.wrap IntKind.i64 (Span.hi (Survey.m5 a) - Span.lo (Survey.m5 a)) < (400 : Int))) = true then false else true) else true)) else (if (decide (IntKind.wrap IntKind.i64 (Span.hi (Survey.m5 a) - Span.lo (Survey.m5 a)) > (8 : Int))) = true then (if (decide (IntKind.wrap IntKind.i64 (Span.hi (Survey.m5 a) - Span.lo (Survey.m5 a)) < (400 : Int))) = true then false else true) else true)))) else (if (decide (IntKind.wrap IntKind.i64 (Span.hi (Survey.m3 a) - Span.lo (Survey.m3 a)) > (8 : Int))) = true then (if (decide (IntKind.wrap IntKind.i64 (Span.hi (Survey.m3 a) - Span.lo (Survey.m3 a)) < (400 : Int))) = true then false else (if (decide (IntKind.wrap IntKind.i64 (Span.hi (Survey.m4 a) - Span.lo (Survey.m4 a)) > (8 : Int))) = true then (if (decide (IntKind.wrap IntKind.i64 (Span.hi (Survey.m4 a) - Span.lo (Survey.m4 a)) < (400 : Int))) = true then false else (if (decide (IntKind.wrap IntKind.i64 (Span.hi (Survey.m5 a) - Span.lo (Survey.m5 a)) > (8 : Int))) = true then (if (decide (IntKind.wrap IntKind.i64 (Span.hi (Survey.m5 a) - Span.lo (Survey.m5 a)) < (400 : Int))) = true then false else true) else true)) else (if (decide (IntKind.wrap IntKind.i64 (Span.hi (Survey.m5 a) - Span.lo (Survey.m5 a)) > (8 : Int))) = true then (if (decide (IntKind.wrap IntKind.i64 (Span.hi (Survey.m5 a) - Span.lo (Survey.m5 a)) < (400 : Int))) = true then false else true) else true))) else (if (decide (IntKind.wrap IntKind.i64 (Span.hi (Survey.m4 a) - Span.lo (Survey.m4 a)) > (8 : Int))) = true then (if (decide (IntKind.wrap IntKind.i64 (Span.hi (Survey.m4 a) - Span.lo (Survey.m4 a)) < (400 : Int))) = true then false else (if (decide (IntKind.wrap IntKind.i64 (Span.hi (Survey.m5 a) - Span.lo (Survey.m5 a)) > (8 : Int))) = true then (if (decide (IntKind.wrap IntKind.i64 (Span.hi (Survey.m5 a) - Span.lo (Survey.m5 a)) < (400 : Int))) = true then false else true) else true)) else (if (decide (IntKind.wrap IntKind.i64 (Span.hi (Survey.m5 a) - Span.lo (Survey.m5 a)) > (8 : Int))) = true then (if (decide (IntKind.wrap IntKind.i64 (Span.hi (Survey.m5 a) - Span.lo (Survey.m5 a)) < (400 : Int))) = true then false else true) else true))))))
theorem eq_calm (a : Survey) : (callT1 P BKX64 30 19 D_calm dB) a = some (K.calm a) := (fn_calm a).trans (T.br_some (T.br_some rfl (T.br_some (T.br_some rfl (T.br_some (T.br_some rfl (T.br_some (T.br_some rfl (T.br_some (T.br_some rfl (T.br_some (T.br_some rfl rfl) rfl)) (T.br_some (T.br_some rfl rfl) rfl))) (T.br_some (T.br_some rfl (T.br_some (T.br_some rfl rfl) rfl)) (T.br_some (T.br_some rfl rfl) rfl)))) (T.br_some (T.br_some rfl (T.br_some (T.br_some rfl (T.br_some (T.br_some rfl rfl) rfl)) (T.br_some (T.br_some rfl rfl) rfl))) (T.br_some (T.br_some rfl (T.br_some (T.br_some rfl rfl) rfl)) (T.br_some (T.br_some rfl rfl) rfl))))) (T.br_some (T.br_some rfl (T.br_some (T.br_some rfl (T.br_some (T.br_some rfl (T.br_some (T.br_some rfl rfl) rfl)) (T.br_some (T.br_some rfl rfl) rfl))) (T.br_some (T.br_some rfl (T.br_some (T.br_some rfl rfl) rfl)) (T.br_some (T.br_some rfl rfl) rfl)))) (T.br_some (T.br_some rfl (T.br_some (T.br_some rfl (T.br_some (T.br_some rfl rfl) rfl)) (T.br_some (T.br_some rfl rfl) rfl))) (T.br_some (T.br_some rfl (T.br_some (T.br_some rfl rfl) rfl)) (T.br_some (T.br_some rfl rfl) rfl)))))) (T.br_some (T.br_some rfl (T.br_some (T.br_some rfl (T.br_some (T.br_some rfl (T.br_some (T.br_some rfl (T.br_some (T.br_some rfl rfl) rfl)) (T.br_some (T.br_some rfl rfl) rfl))) (T.br_some (T.br_some rfl (T.br_some (T.br_some rfl rfl) rfl)) (T.br_some (T.br_some rfl rfl) rfl)))) (T.br_some (T.br_some rfl (T.br_some (T.br_some rfl (T.br_some (T.br_some rfl rfl) rfl)) (T.br_some (T.br_some rfl rfl) rfl))) (T.br_some (T.br_some rfl (T.br_some (T.br_some rfl rfl) rfl)) (T.br_some (T.br_some rfl rfl) rfl))))) (T.br_some (T.br_some rfl (T.br_some (T.br_some rfl (T.br_some (T.br_some rfl (T.br_some (T.br_some rfl rfl) rfl)) (T.br_some (T.br_some rfl rfl) rfl))) (T.br_some (T.br_some rfl (T.br_some (T.br_some rfl rfl) rfl)) (T.br_some (T.br_some rfl rfl) rfl)))) (T.br_some (T.br_some rfl (T.br_some (T.br_some rfl (T.br_some (T.br_some rfl rfl) rfl)) (T.br_some (T.br_some rfl rfl) rfl))) (T.br_some (T.br_some rfl (T.br_some (T.br_some rfl rfl) rfl)) (T.br_some (T.br_some rfl rfl) rfl))))))
noncomputable def BKX65 : Tab := BKX64.addCall 19 (callE D_calm dB (fun a => .ret (K.calm a)))
theorem tKX65 : TabOk P BKX65 := TabOk.addFn (d := 30) okP tKX64 (fun a r h => by rw [eq_calm]; exact congrArg some (ret_some h))
end Go.Proofs.Ytkajafmphemedaa
/-! KX7 -/
namespace Go.Proofs.Ytkajafmphemedaa
open Ev K
set_option maxRecDepth 100000
namespace K
theorem check_good {b : Bulbs} {y : Survey} (g : K.Good y) (hd : (density (b, y)).2 = 0) : check (b, y) = if (!(extremes y).2) = true then 9 else 0 := by
  have hm : ∀ m : Span, MarkOk m → spans m 0 65536 = true ∧ decide (IntKind.wrap IntKind.i64 (m.hi - m.lo) < 400) = true := fun m h => by
    obtain ⟨a, b, c, d⟩ := h
    exact ⟨spans_iff.2 ⟨a, b, c⟩, by rw [w64_in (by omega) (by omega)]; simpa using d⟩
  unfold check
  simp only [within_iff.2 g.id, within_iff.2 g.tick, within_iff.2 g.sag, spans_iff.2 g.shown, (hm _ g.m0).1, (hm _ g.m0).2, (hm _ g.m1).1, (hm _ g.m1).2, (hm _ g.m2).1, (hm _ g.m2).2, (hm _ g.m3).1, (hm _ g.m3).2, (hm _ g.m4).1, (hm _ g.m4).2,
    (hm _ g.m5).1, (hm _ g.m5).2, hd, if_true, Bool.not_true, Bool.false_eq_true, if_false, bne_self_eq_false]
theorem useOf_is {s : Ship} {b : Bulbs} {x : Survey} (h : useG s b x = true) (k : Nat) : r_useOf s b k x = useOf s b k x := by
  obtain ⟨hs, hb, hg, hd, he⟩ := useG_ok h
  obtain ⟨o1, o2, o3, o4⟩ := getM_ok hg k
  unfold r_useOf useOf
  generalize hn : ((getM k x).hi - (getM k x).lo + 1).toNat = n
  have key : ∀ (l : List Nat), (∀ i ∈ l, i < n) → ∀ a : Int, l.foldl (fun a (i : Nat) => r_useStep s b k x ((getM k x).lo + (i : Int)) a) a = l.foldl (fun a (i : Nat) => useStep s b k x ((getM k x).lo + (i : Int)) a) a := by
    intro l
    induction l with
    | nil => intro _ a; rfl
    | cons i l ih =>
      intro hl a
      rw [List.foldl_cons, List.foldl_cons]
      have hi := hl i (by simp)
      have e : r_useStep s b k x ((getM k x).lo + (i : Int)) a = useStep s b k x ((getM k x).lo + (i : Int)) a := by
        have gy := one_ok hg k (n := (getM k x).lo + (i : Int)) (by omega) (by omega)
        have hd' : (density (b, setM k x ⟨(getM k x).lo + (i : Int), (getM k x).lo + (i : Int)⟩)).2 = 0 := by rw [dens_set]; exact hd
        unfold r_useStep useStep
        rw [check_good gy hd', six_bool gy]
        cases hy : (extremes (setM k x ⟨(getM k x).lo + (i : Int), (getM k x).lo + (i : Int)⟩)).2 with
        | false => rfl
        | true => rw [mass_is hs hb gy hd' hy]; rfl
      rw [e]
      exact ih (fun j hj => hl j (by simp [hj])) _
  exact key _ (fun i hi => List.mem_range.1 hi) 0
theorem useOf_nn (s : Ship) (b : Bulbs) (k : Nat) (x : Survey) : 0 ≤ useOf s b k x := by
  unfold useOf
  have key : ∀ (l : List Nat) (a : Int), 0 ≤ a → 0 ≤ l.foldl (fun a (i : Nat) => useStep s b k x ((getM k x).lo + (i : Int)) a) a := by
    intro l
    induction l with
    | nil => intro a h; exact h
    | cons i l ih =>
      intro a h
      rw [List.foldl_cons]
      apply ih
      unfold useStep moreOf
      split
      · split <;> omega
      · exact h
  exact key _ 0 (by omega)
noncomputable def bestF (s : Ship) (b : Bulbs) (x : Survey) (p : Int × Int) (i : Nat) : Int × Int := if p.2 < 0 then ((i : Int), useOf s b i x) else if useOf s b i x < p.2 then ((i : Int), useOf s b i x) else p
noncomputable def r_bestF (s : Ship) (b : Bulbs) (x : Survey) (p : Int × Int) (i : Nat) : Int × Int := if r_useOf s b (i + 1) x < p.2 then (((i + 1 : Nat) : Int), r_useOf s b (i + 1) x) else p
theorem L_bst_eq (s : Ship) (b : Bulbs) (x : Survey) (h : useG s b x = true) : L_bst ((0, -1, 0), s, b, x, ()) = some ((((List.range 6).foldl (bestF s b x) (0, -1)).1, ((List.range 6).foldl (bestF s b x) (0, -1)).2, 6), s, b, x, ()) := by
  refine lim_fold (fun i (p : Int × Int) => ((p.1, p.2, (i : Int)), s, b, x, ())) 6 (bestF s b x) (fun p => ((p.1, p.2, 6), s, b, x, ())) (fun i hi p => ?_) (fun p => ?_) (0, -1)
  · rw [sl_bst]
    refine Eq.trans (T.run_br _ _ _) ?_
    rw [if_pos (by simp only [decide_eq_true_eq]; omega)]
    refine chk_step (by rw [h]; simp only [Bool.true_and, Bool.and_eq_true, decide_eq_true_eq]; omega) ?_
    simp only [T.run_br, T.run_ret, decide_eq_true_eq, Int.toNat_natCast]
    rw [w64_in (by omega) (by omega)]
    unfold bestF
    by_cases h1 : p.2 < 0
    · rw [if_pos h1, if_pos h1]; rfl
    · rw [if_neg h1, if_neg h1]
      by_cases h2 : useOf s b i x < p.2
      · rw [if_pos h2, if_pos h2]; rfl
      · rw [if_neg h2, if_neg h2]; rfl
  · rw [sl_bst]; rfl
theorem L_rbs_eq (s : Ship) (b : Bulbs) (x : Survey) (z : Int × Int × Int) (h : useG s b x = true) : L_rbs (1, s, b, x, z, (0, r_useOf s b 0 x, 0), ()) =
    some (6, s, b, x, z, (((List.range 5).foldl (r_bestF s b x) (0, r_useOf s b 0 x)).1, ((List.range 5).foldl (r_bestF s b x) (0, r_useOf s b 0 x)).2, 0), ()) := by
  refine lim_fold (fun i (p : Int × Int) => (((i + 1 : Nat) : Int), s, b, x, z, (p.1, p.2, (0 : Int)), ())) 5 (r_bestF s b x) (fun p => (6, s, b, x, z, (p.1, p.2, 0), ())) (fun i hi p => ?_) (fun p => ?_) (0, r_useOf s b 0 x)
  · rw [sl_rbs]
    refine Eq.trans (T.run_br _ _ _) ?_
    rw [if_pos (by simp only [decide_eq_true_eq]; omega)]
    refine chk_step (by rw [h]; simp only [Bool.true_and, Bool.and_eq_true, decide_eq_true_eq]; omega) ?_
    simp only [T.run_br, T.run_ret, decide_eq_true_eq, Int.toNat_natCast]
    rw [w64_in (by omega) (by omega)]
    unfold r_bestF
    by_cases h2 : r_useOf s b (i + 1) x < p.2
    · rw [if_pos h2, if_pos h2]; rfl
    · rw [if_neg h2, if_neg h2]; rfl
  · rw [sl_rbs]; rfl
theorem sMass_ok {s : Ship} {b : Bulbs} {x : Survey} (h : (sMass (s, b, x)).2 = 0) : useG s b x = true := by
  unfold sMass at h
  by_cases h1 : (checked (s, b, x) != 0) = true
  · rw [if_pos h1] at h; have h : checked (s, b, x) = 0 := h; rw [h] at h1; exact absurd h1 (by decide)
  · have h2 := bne_zero h1
    unfold checked at h2
    obtain ⟨h3, h4⟩ := ite_err h2
    unfold useG
    simp only at h3 h4
    rw [h3, h4]; rfl
end K
noncomputable def K.sBest (a : Ship × Bulbs × Survey) : Int × Int × Int := if ((sMass a).2 != 0) = true then (0, 0, (sMass a).2) else (((List.range 6).foldl (bestF a.1 a.2.1 a.2.2) (0, -1)).1, ((List.range 6).foldl (bestF a.1 a.2.1 a.2.2) (0, -1)).2, 0)
theorem K.sBest_eq (a : Ship × Bulbs × Survey) : callT1 P BKX63 30 20 D_rrdy R_bst a = some (sBest a) := by
  obtain ⟨s, b, x⟩ := a
  rw [fn_bst]; unfold sBest
  refine br_step (fun _ => rfl) (fun h => ?_)
  have hg := sMass_ok (bne_zero h)
  show T.run (.obs (L_bst ((0, -1, 0), s, b, x, ())) _) = _
  rw [L_bst_eq s b x hg]; rfl
noncomputable def BKX71 : Tab := BKX65.addCall 20 (callE D_rrdy R_bst (fun a => .ret (sBest a)))
theorem tKX71 : TabOk P BKX71 := TabOk.addPC tKX65 (fun a r h => by rw [← ret_some h]; exact call_of okP tKX63 (sBest_eq a))
noncomputable def K.rBest (a : Ship × Bulbs × Survey) : Int × Int × Int := if ((rMass a).2 != 0) = true then (0, 0, (rMass a).2) else
  (((List.range 5).foldl (r_bestF a.1 a.2.1 a.2.2) (0, r_useOf a.1 a.2.1 0 a.2.2)).1, ((List.range 5).foldl (r_bestF a.1 a.2.1 a.2.2) (0, r_useOf a.1 a.2.1 0 a.2.2)).2, 0)
theorem K.rBest_eq (a : Ship × Bulbs × Survey) : callT1 P BKX64 30 21 D_rrdy R_rbs a = some (rBest a) := by
  obtain ⟨s, b, x⟩ := a
  rw [fn_rbs]; unfold rBest
  refine br_step (fun _ => rfl) (fun h => ?_)
  have h := bne_zero h
  rw [rMass_is] at h
  have hg := sMass_ok h
  refine chk_step (by rw [hg]; rfl) ?_
  show T.run (.obs (L_rbs (1, s, b, x, (0, 0, 0), (0, r_useOf s b 0 x, 0), ())) _) = _
  rw [L_rbs_eq s b x (0, 0, 0) hg]; rfl
noncomputable def BKX72 : Tab := BKX71.addCall 21 (callE D_rrdy R_rbs (fun a => .ret (rBest a)))
theorem tKX72 : TabOk P BKX72 := TabOk.addPC tKX71 (fun a r h => by rw [← ret_some h]; exact call_of okP tKX64 (rBest_eq a))
theorem K.best_fold (s : Ship) (b : Bulbs) (x : Survey) (h : useG s b x = true) : ∀ (l : List Nat) (p : Int × Int), 0 ≤ p.2 → l.foldl (fun p i => bestF s b x p (i + 1)) p = l.foldl (r_bestF s b x) p := by
  intro l
  induction l with
  | nil => intro p _; rfl
  | cons i l ih =>
    intro p hp
    rw [List.foldl_cons, List.foldl_cons]
    have e : r_bestF s b x p i = bestF s b x p (i + 1) := by
      unfold r_bestF bestF; rw [useOf_is h, if_neg (show ¬ p.2 < 0 by omega)]
    rw [e]
    apply ih
    unfold bestF
    have := useOf_nn s b (i + 1) x
    split
    · exact this
    split
    · exact this
    · exact hp
theorem K.rBest_is (a : Ship × Bulbs × Survey) : rBest a = sBest a := by
  obtain ⟨s, b, x⟩ := a
  unfold rBest sBest
  rw [rMass_is]
  by_cases h : ((sMass (s, b, x)).2 != 0) = true
  · rw [if_pos h, if_pos h]
  rw [if_neg h, if_neg h]
  have hg := sMass_ok (bne_zero h)
  simp only
  have e : (List.range 6).foldl (bestF s b x) (0, -1) = (List.range 5).foldl (r_bestF s b x) (0, r_useOf s b 0 x) := by
    rw [show (6 : Nat) = 5 + 1 from rfl, List.range_succ_eq_map, List.foldl_cons, List.foldl_map, useOf_is hg]
    exact best_fold s b x hg (List.range 5) (0, useOf s b 0 x) (useOf_nn s b 0 x)
  rw [e]
theorem fn_lawBests : ∀ a, (callT1 P BKX72 30 5 D_rrdy dB) a = T.run (
  .br (!ship (Prod.fst a)) (
    .ret (true)) (
    .br (!few (Prod.fst (Prod.snd a))) (
      .ret (true)) (
      .br (!K.calm (Prod.snd (Prod.snd a))) (
        .ret (true)) (
        .br (Prod.fst (sBest a) == Prod.fst (rBest a)) (
          .br (Prod.fst (Prod.snd (sBest a)) == Prod.fst (Prod.snd (rBest a))) (
            .ret (Prod.snd (Prod.snd (sBest a)) == Prod.snd (Prod.snd (rBest a)))) (
            .ret (false))) (
          .ret (false)))))) := fun a => by kernel_rfl
noncomputable def K.lawBests (a : Ship × Bulbs × Survey) : Bool := (if (!ship (Prod.fst a)) = true then true else (if (!few (Prod.fst (Prod.snd a))) = true then true else (if (!K.calm (Prod.snd (Prod.snd a))) = true then true else (if (Prod.fst (sBest a) == Prod.fst (rBest a)) = true then (if (Prod.fst (Prod.snd (sBest a)) == Prod.fst (Prod.snd (rBest a))) = true then Prod.snd (Prod.snd (sBest a)) == Prod.snd (Prod.snd (rBest a)) else false) else false))))
theorem eq_lawBests (a : Ship × Bulbs × Survey) : (callT1 P BKX72 30 5 D_rrdy dB) a = some (K.lawBests a) := (fn_lawBests a).trans (T.br_some rfl (T.br_some rfl (T.br_some rfl (T.br_some (T.br_some rfl rfl) rfl))))
noncomputable def BKX73 : Tab := BKX72.addCall 5 (callE D_rrdy dB (fun a => .ret (K.lawBests a)))
theorem tKX73 : TabOk P BKX73 := TabOk.addFn (d := 30) okP tKX72 (fun a r h => by rw [eq_lawBests]; exact congrArg some (ret_some h))
theorem K.lawBests_true (a : Ship × Bulbs × Survey) : lawBests a = true := by
  unfold lawBests
  simp only [rBest_is, BEq.rfl, if_true, ite_self]
end Go.Proofs.Ytkajafmphemedaa
/-! KZBests -/
namespace Go.Proofs.Ytkajafmphemedaa
open Ev K
open Go.ChangeShapes Go.WideShapes Go.RowKit
set_option maxRecDepth 100000
theorem law_pc (a) : PC P 5 (D_rrdy.enc a) (.bool true) := by
  have h := eq_lawBests a
  rw [lawBests_true] at h
  exact call_of okP tKX72 h
theorem ownP : ownKnob P.godebug = none := by kernel_rfl
theorem laidP : laidOutB P = true := by kernel_rfl
theorem ub : P.underlying 4 = some .bool := by kernel_rfl
theorem surveyBests_lifted (os : Os) (started : os.Started) (H : Type) (enc : TypeId × Value → H) :
    ReturnsInHanded {} Try.checked os 5 .any (Rows.surveyBestsSpec.pre6 enc Try.prog Try.f5 Rows.surveyBestsRow.domain false) (Rows.surveyBestsSpec.post enc Try.prog Try.f5 false true false false) := by
  refine returnsInHanded_of_change (C := Try.checked) ownP started (by kernel_rfl) Try.func5
    (ChangeSpec.witness6 (enc := enc) (C := Try.checked) false ⟨#[], #[.agg #[.int .i64 0, .int .i64 0, .int .i64 0, .int .i64 0, .slice none 0 0, .slice none 0 0, .int .i64 0, .slice none 0 0, .int .i64 0, .int .i64 0, .int .i64 0], .agg #[.slice none 0 0, .slice none 0 0], .agg (Array.replicate 18 (.int .i64 0))], []⟩ 8 (by kernel_rfl) (by kernel_rfl) (by kernel_rfl) (by kernel_rfl)) ?_
  intro W base args ds gs before hval hW _ _
  refine law_contract (P := Try.prog) D_rrdy laidP (by kernel_rfl) rfl (fun ds hd => ?_) (fun W' b sp hd => trodAll_mk1 (shut_bool ub true)) (fun W' => ok_one (by kernel_rfl) rfl (okWide_bool_mk ub true)) (fun W base args ds p hval hA => ?_) law_pc W base args ds gs before hval hW
  · rw [Try.params5] at hd
    match ds, hd with
    | [a, b, c], _ => rfl
  · rw [Try.params5] at hA hval
    obtain ⟨v0, vs0, d0, ds0, p0, q0, e0, _, _, h0, r0⟩ := trodAll_cons hA
    obtain ⟨v1, vs1, d1, ds1, p1, q1, e1, _, _, h1, r1⟩ := trodAll_cons r0
    obtain ⟨v2, vs2, d2, ds2, p2, q2, e2, _, _, h2, r2⟩ := trodAll_cons r1
    obtain ⟨e3, _, _⟩ := trodAll_nil r2
    subst e3; subst e2; subst e1
    have ha : args = #[v0, v1, v2] := by apply Array.ext'; exact e0
    subst ha
    exact rdL_cons (rp_ship (hval 0 _ v0 rfl rfl) h0) (rdL_cons (rp_bulbs (hval 1 _ v1 rfl rfl) h1) (rdL_last (rp_survey (hval 2 _ v2 rfl rfl) h2)))
theorem surveyBests_holds : Rows.SurveyBestsSaid :=
  OpenClaim.holds_of_wide 5 Try.f5 rfl rfl rfl rfl rfl rfl rfl ⟨rfl, rfl, rfl, rfl, rfl⟩ rfl rfl rfl rfl rfl (by kernel_rfl) Try.func5 (by kernel_rfl)
    (of_decide_eq_true (by kernel_rfl)) (by unfold Func.isWrapper; rw [if_neg (of_decide_eq_false (by kernel_rfl))]; exact ⟨rfl, rfl⟩)
    (fun os started H enc _ => surveyBests_lifted os started H enc)
#print axioms surveyBests_holds
end Go.Proofs.Ytkajafmphemedaa
