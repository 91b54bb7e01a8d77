/- Pieces of a curve; the check of a ship. No conditions. -/
import Derived.Test.YtkajafmphemedaaKG
namespace Go.Proofs.Ytkajafmphemedaa
open Ev K
set_option maxRecDepth 100000
theorem filter_all {α : Type} (l : List α) : l.filter (fun _ => true) = l := by simp
section
variable (c : Curve) {bs : Nat → Bool}
abbrev K.Sp (c : Curve) (bs : Nat → Bool) (i : Nat) (out : List (List AV × Bool)) := ((c, ((i + 1 : Nat) : Int)), PUnit.unit, bs, out)
abbrev K.pieceAt (x : XS) (i : Nat) : Int × Piece := ((i : Int), ⟨knt x i, knt x (i + 1)⟩)
abbrev K.ep (c : Curve) (i : Nat) : List AV := ePiece (pieceAt c.knots i)
theorem pcs_y (i : Nat) (hi : i < K.len c.knots - 1) (out : List (List AV × Bool)) (hb : bs out.length = true) : st_pcs (Sp c bs i out) = some (.inl (Sp c bs (i + 1) ((ep c i, true) :: out))) := by
  have e1 := K.len_le c.knots; have e2 := K.len_le' c.knots
  rw [sl_pcs]
  simp only [T.run_br, T.run_chk, T.run_ret, decide_eq_true_eq, hb]
  rw [if_pos (by omega), w64_in (n := ((i + 1 : Nat) : Int) - 1) (by omega) (by omega), w64_in (n := ((i + 1 : Nat) : Int) + 1) (by omega) (by omega), if_pos (by omega), if_pos (by omega), if_neg (by simp)]
  rw [show ((i + 1 : Nat) : Int) - 1 = (i : Int) by omega, show ((i + 1 : Nat) : Int) + 1 = ((i + 1 + 1 : Nat) : Int) by omega]
  rfl
theorem pcs_s (i : Nat) (hi : i < K.len c.knots - 1) (out : List (List AV × Bool)) (hb : bs out.length = false) : st_pcs (Sp c bs i out) = some (.inr (.inl ((), (), bs, (ep c i, false) :: out))) := by
  have e1 := K.len_le c.knots; have e2 := K.len_le' c.knots
  rw [sl_pcs]
  simp only [T.run_br, T.run_chk, T.run_ret, decide_eq_true_eq, hb]
  rw [if_pos (by omega), w64_in (n := ((i + 1 : Nat) : Int) - 1) (by omega) (by omega), if_pos (by omega), if_pos (by omega), if_pos (by simp)]
  rw [show ((i + 1 : Nat) : Int) - 1 = (i : Int) by omega]
  rfl
theorem pcs_e (out) : st_pcs (Sp c bs (K.len c.knots - 1) out) = some (.inr (.inr ((), (), bs, out))) := by
  rw [sl_pcs]
  simp only [T.run_br, T.run_chk, T.run_ret, decide_eq_true_eq]
  rw [if_neg (by omega)]
theorem icl_pcs : ICL P 129 [] (V_pcs.enc c) ((piecesL c).map ePiece) := by
  refine iter_of okP tKG6  (d := 30) ?_ (fun m y hy => ?_)
  · show I_pcs c _ = _
    rw [it_pcs]
    show T.run (.obs (lim st_pcs (Sp c _ 0 [])) _) = _
    rw [lim_yields_all (Sp c _) (n := K.len c.knots - 1) (fun _ => true) (ep c) (fun o => Sum.inr ((), (), (fun _ => true), o)) (fun i hi out hp => by cases hp) (fun i hi out hp hb => pcs_y c i hi out hb) (fun out => pcs_e c out) (fun _ => rfl) (K.len c.knots - 1) 0 [] (by omega)]
    simp only [T.run_some, T.run_inr, T.run_ret, List.append_nil, List.reverse_reverse, piecesL, List.map_map, ← List.range_eq_range', filter_all]
    rfl
  · show I_pcs c _ = _
    rw [it_pcs]
    show T.run (.obs (lim st_pcs (Sp c _ 0 [])) _) = _
    have hy' : (((List.range' 0 (K.len c.knots - 1)).filter (fun _ => true)).map (ep c))[m - ([] : List (List AV × Bool)).length]? = some y := by
      rw [← List.range_eq_range']; simpa [piecesL, List.map_map, Function.comp_def, filter_all] using hy
    rw [lim_yields_stop (Sp c _) (n := K.len c.knots - 1) (fun _ => true) (ep c) (fun o => Sum.inl ((), (), (fun k => !(Nat.beq k m)), o)) (fun i hi out hp => by cases hp) (fun i hi out hp hb => pcs_y c i hi out hb) (fun i hi out hp hb => pcs_s c i hi out hb) (fun _ => rfl) (K.len c.knots - 1) 0 [] (by omega) (by simp) hy']
    simp only [T.run_some, T.run_inl, T.run_ret, List.append_nil, List.reverse_cons, List.reverse_reverse, List.length_nil, Nat.sub_zero, ← List.range_eq_range', piecesL, List.map_map, filter_all]
    rfl
end
def R_pcs := dFn 129 V_pcs
theorem fn_pcs : ∀ a, (callT1 P BKG6 30 124 D_crv R_pcs) a = T.run (
  .ret (a)) := fun a => by kernel_rfl
noncomputable def BKH1 : Tab := BKG6.addCall 124 (callE D_crv R_pcs (fun c => .ret c))
theorem tKH1 : TabOk P BKH1 := TabOk.addFn (d := 30) okP tKG6 (fun a r h => by rw [fn_pcs]; exact h)
/-! rising -/
def S_ris := DecS.mk0 (.skips 3 (.unit (dLp 0 0 0 0) (.unit (dLp 1 0 0 0) (.skips 3 (.last R_pcs 18))))) (.flat 4 (.last dB 0) (.flat 4 (.last dB 0) .nil))
noncomputable def K.st_ris := rangeT1 P BKH1 30 112 25 [8, 4, 3] S_ris DecX.no ePiece
theorem rg_ris : ∀ s x, (K.st_ris) s x = T.run (
  .br (Prod.fst (Prod.snd s)) (
    .br (Prod.fst (Prod.snd (Prod.snd s))) (
      .ret (Sum.inl (Prod.fst s, decide (rise (Prod.snd x) > (0 : Int)), decide (rise (Prod.snd x) < (0 : Int)), PUnit.unit))) (
      .ret (Sum.inl (Prod.fst s, decide (rise (Prod.snd x) > (0 : Int)), false, PUnit.unit)))) (
    .br (Prod.fst (Prod.snd (Prod.snd s))) (
      .ret (Sum.inl (Prod.fst s, false, decide (rise (Prod.snd x) < (0 : Int)), PUnit.unit))) (
      .ret (Sum.inl (Prod.fst s, false, false, PUnit.unit))))) := fun s x => by kernel_rfl
def K.upDown (L : List (Int × Piece)) (u d : Bool) : Bool × Bool := L.foldl (fun s p => (s.1 && decide (rise p.2 > 0), s.2 && decide (rise p.2 < 0))) (u, d)
theorem st_ris_eq (s) (x : Int × Piece) : st_ris s x = some (.inl (s.1, s.2.1 && decide (rise x.2 > 0), s.2.2.1 && decide (rise x.2 < 0), ())) := by
  rw [rg_ris]; simp only [T.run_br, T.run_ret]; cases s.2.1 <;> cases s.2.2.1 <;> rfl
theorem fold_ris (L : List (Int × Piece)) (c : Curve) (u d : Bool) : L.foldl (fun (s : Curve × Bool × Bool × Unit) x => (s.1, s.2.1 && decide (rise x.2 > 0), s.2.2.1 && decide (rise x.2 < 0), ())) (c, u, d, ()) = (c, (upDown L u d).1, (upDown L u d).2, ()) := by
  induction L generalizing u d with
  | nil => rfl
  | cons x L ih => simp only [List.foldl_cons, upDown]; exact ih _ _
noncomputable def BKH2 : Tab := BKH1.addNode 112 25 (rangeE [8, 4, 3] S_ris DecX.no (fun s => .ret (.inl (s.1, (upDown (piecesL s.1) s.2.1 s.2.2.1).1, (upDown (piecesL s.1) s.2.1 s.2.2.1).2, ()))))
theorem tKH2 : TabOk P BKH2 := TabOk.addRange (d := 30) (enc := ePiece) (L := (fun s => piecesL s.1)) okP tKH1 (by kernel_rfl) (by kernel_rfl) (fun s r h => ⟨_, _, _, (by kernel_rfl : _ = some (129, [], V_pcs.enc s.1)), icl_pcs s.1⟩) (fun s r h => by have e := ret_some h; subst e; rw [← fold_ris]; exact foldS_total st_ris_eq _ _)
theorem fn_rising : ∀ a, (callT1 P BKH2 30 112 D_crv (dI .i64)) a = T.run (
  .br (Prod.fst (upDown (piecesL a) true true)) (
    .ret ((1 : Int))) (
    .br (Prod.snd (upDown (piecesL a) true true)) (
      .ret ((-1 : Int))) (
      .ret ((0 : Int))))) := fun a => by kernel_rfl
noncomputable def K.rising (a : Curve) : Int := (if (Prod.fst (upDown (piecesL a) true true)) = true then (1 : Int) else (if (Prod.snd (upDown (piecesL a) true true)) = true then (-1 : Int) else (0 : Int)))
theorem eq_rising (a : Curve) : (callT1 P BKH2 30 112 D_crv (dI .i64)) a = some (K.rising a) := (fn_rising a).trans (T.br_some rfl (T.br_some rfl rfl))
noncomputable def BKH3 : Tab := BKH2.addCall 112 (callE D_crv (dI .i64) (fun a => .ret (K.rising a)))
theorem tKH3 : TabOk P BKH3 := TabOk.addFn (d := 30) okP tKH2 (fun a r h => by rw [eq_rising]; exact congrArg some (ret_some h))
def R_rsg := dTup (.cons (dI .i64) (.last (dI .i64) 0))
theorem fn_Rising : ∀ a, (callT1 P BKH3 30 85 D_crv R_rsg) a = T.run (
  .br (curveCheck a != (0 : Int)) (
    .ret (((0 : Int), curveCheck a))) (
    .ret ((rising a, (0 : Int))))) := fun a => by kernel_rfl
noncomputable def K.Rising (a : Curve) : Int × Int := (if (curveCheck a != (0 : Int)) = true then ((0 : Int), curveCheck a) else (rising a, (0 : Int)))
theorem eq_Rising (a : Curve) : (callT1 P BKH3 30 85 D_crv R_rsg) a = some (K.Rising a) := (fn_Rising a).trans (T.br_some rfl rfl)
noncomputable def BKH4 : Tab := BKH3.addCall 85 (callE D_crv R_rsg (fun a => .ret (K.Rising a)))
theorem tKH4 : TabOk P BKH4 := TabOk.addFn (d := 30) okP tKH3 (fun a r h => by rw [eq_Rising]; exact congrArg some (ret_some h))
theorem fn_tm : ∀ a, (callT1 P BKH4 30 113 D_crv dSpan) a = T.run (
  .chk (decide ((0 : Int) ≤ (0 : Int) ∧ (0 : Int) < (↑(XS.len (Curve.knots a)) : Int))) <|
  .chk (decide ((0 : Int) ≤ IntKind.wrap IntKind.i64 ((↑(len (Curve.knots a)) : Int) - (1 : Int)) ∧ IntKind.wrap IntKind.i64 ((↑(len (Curve.knots a)) : Int) - (1 : Int)) < (↑(XS.len (Curve.knots a)) : Int))) <|
  .ret (Span.mk (IntKind.wrap IntKind.i64 (XS.g (Curve.knots a) (nat_lit 0) (0 : Nat) * (40 : Int))) (IntKind.wrap IntKind.i64 (XS.g (Curve.knots a) (Int.toNat (IntKind.wrap IntKind.i64 ((↑(len (Curve.knots a)) : Int) - (1 : Int)))) (0 : Nat) * (40 : Int))))) := fun a => by kernel_rfl
def K.massesOf (c : Curve) : Span := ⟨IntKind.i64.wrap (c.knots.g 0 0 * 40), IntKind.i64.wrap (c.knots.g (len c.knots - 1) 0 * 40)⟩
theorem K.massesOf_eq (c : Curve) (h : 0 < len c.knots) : callT1 P BKH4 30 113 D_crv dSpan c = some (massesOf c) := by
  have e1 := K.len_le c.knots; have e2 := K.len_le' c.knots
  rw [fn_tm]
  simp only [T.run_br, T.run_chk, T.run_ret, decide_eq_true_eq]
  rw [w64_in (n := (len c.knots : Int) - 1) (by omega) (by omega), if_pos (by omega), if_pos (by omega)]
  rw [show ((len c.knots : Int) - 1).toNat = len c.knots - 1 by omega]; rfl
noncomputable def BKH5 : Tab := BKH4.addCall 113 (callE D_crv dSpan (fun c => .chk (decide (0 < len c.knots)) (.ret (massesOf c))))
theorem tKH5 : TabOk P BKH5 := TabOk.addFn (d := 30) okP tKH4 (fun a r h => by obtain ⟨g, e⟩ := chk_ret h; subst e; exact K.massesOf_eq a (by simpa using g))
def D_tbl := DecL.cons (dShip) (.last (dCurve) 0)
theorem fn_tbl : ∀ a, (callT1 P BKH5 30 87 D_tbl (dI .i64)) a = T.run (
  .chk (decide ((0 : Nat) < len (Curve.knots (Prod.snd a)))) <|
  .br (decide (Span.lo (massesOf (Prod.snd a)) > Ship.light (Prod.fst a))) (
    .ret ((1 : Int))) (
    .br (decide (Span.hi (massesOf (Prod.snd a)) < rooms (Prod.fst a))) (
      .ret ((1 : Int))) (
      .br (has_tab1 PUnit.unit (Curve.knots (Prod.snd a))) (
        .ret ((1 : Int))) (
        .ret ((0 : Int)))))) := fun a => by kernel_rfl
def K.tabled (s : Ship) (c : Curve) : Int := if (massesOf c).lo > s.light then 1 else if (massesOf c).hi < rooms s then 1 else if has_tab1 () c.knots = true then 1 else 0
theorem K.tabled_eq (a : Ship × Curve) (h : 0 < len a.2.knots) : callT1 P BKH5 30 87 D_tbl (dI .i64) a = some (tabled a.1 a.2) := by
  rw [fn_tbl]; unfold tabled
  simp only [T.run_br, T.run_chk, T.run_ret, decide_eq_true_eq, h, if_true]
  split
  · rfl
  split
  · rfl
  split <;> rfl
noncomputable def BKH6 : Tab := BKH5.addCall 87 (callE D_tbl (dI .i64) (fun a => .chk (decide (0 < len a.2.knots)) (.ret (tabled a.1 a.2))))
theorem tKH6 : TabOk P BKH6 := TabOk.addFn (d := 30) okP tKH5 (fun a r h => by obtain ⟨g, e⟩ := chk_ret h; subst e; exact K.tabled_eq a (by simpa using g))
end Go.Proofs.Ytkajafmphemedaa
