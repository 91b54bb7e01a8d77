/- The hydrometers of a survey: glasses, errors, CheckBulbs. No conditions. -/
import Derived.Test.YtkajafmphemedaaKB
namespace Go.Proofs.Ytkajafmphemedaa
open Ev K
set_option maxRecDepth 100000
/-! glasses -/
def S_gls := DecS.yld (.unit dYv (.skip (.cons (dP 1 (.last (dI .i64) 0) 0) (.skips 4 (.cons xGlasses (.cons (dI .i64) (.last (dI .i64) 28))))))) .nil
def X_gls := DecX.or (DecX.one .ret [] (DecS.yld (.tops 38) .nil)) (DecX.one (.exit 0) [] (DecS.yld (.tops 38) .nil))
noncomputable def K.st_gls := loopT1 P BKB21 30 127 9 [9, 0, 2, 7, 8] S_gls X_gls
theorem sl_gls : ∀ s, (K.st_gls) s = T.run (
  .br (decide (Prod.snd (Prod.snd (Prod.snd (Prod.fst s))) < Prod.fst (Prod.snd (Prod.snd (Prod.fst s))))) (
    .chk (decide ((0 : Int) ≤ Prod.snd (Prod.snd (Prod.snd (Prod.fst s))) ∧ Prod.snd (Prod.snd (Prod.snd (Prod.fst s))) < (↑(XS.len (Prod.fst (Prod.snd (Prod.fst s)))) : Int))) <|
    .br (numOf (XS.f (Prod.fst (Prod.snd (Prod.fst s))) (XS.row (Prod.fst (Prod.snd (Prod.fst s))) + Int.toNat (Prod.snd (Prod.snd (Prod.snd (Prod.fst s))))) (nat_lit 1)) == Prod.fst (Prod.fst s)) (
      .br (!Prod.fst (Prod.snd (Prod.snd s)) (List.length (Prod.snd (Prod.snd (Prod.snd s))))) (
        .ret (Sum.inr (Sum.inl (PUnit.unit, PUnit.unit, Prod.fst (Prod.snd (Prod.snd s)), ([AV.agg [AV.int IntKind.i64 (numOf (XS.f (Prod.fst (Prod.snd (Prod.fst s))) (XS.row (Prod.fst (Prod.snd (Prod.fst s))) + Int.toNat (Prod.snd (Prod.snd (Prod.snd (Prod.fst s))))) (0 : Nat))), AV.int IntKind.i64 (numOf (XS.f (Prod.fst (Prod.snd (Prod.fst s))) (XS.row (Prod.fst (Prod.snd (Prod.fst s))) + Int.toNat (Prod.snd (Prod.snd (Prod.snd (Prod.fst s))))) (nat_lit 1))), AV.int IntKind.i64 (numOf (XS.f (Prod.fst (Prod.snd (Prod.fst s))) (XS.row (Prod.fst (Prod.snd (Prod.fst s))) + Int.toNat (Prod.snd (Prod.snd (Prod.snd (Prod.fst s))))) (nat_lit 2))), AV.int IntKind.i64 (numOf (XS.f (Prod.fst (Prod.snd (Prod.fst s))) (XS.row (Prod.fst (Prod.snd (Prod.fst s))) + Int.toNat (Prod.snd (Prod.snd (Prod.snd (Prod.fst s))))) (nat_lit 3))), AV.int IntKind.i64 (numOf (XS.f (Prod.fst (Prod.snd (Prod.fst s))) (XS.row (Prod.fst (Prod.snd (Prod.fst s))) + Int.toNat (Prod.snd (Prod.snd (Prod.snd (Prod.fst s))))) (nat_lit 4))), AV.int IntKind.i64 (IntKind.wrap IntKind.i64 (numOf (XS.f (Prod.fst (Prod.snd (Prod.fst s))) (XS.row (Prod.fst (Prod.snd (Prod.fst s))) + Int.toNat (Prod.snd (Prod.snd (Prod.snd (Prod.fst s))))) (nat_lit 3)) - numOf (XS.f (Prod.fst (Prod.snd (Prod.fst s))) (XS.row (Prod.fst (Prod.snd (Prod.fst s))) + Int.toNat (Prod.snd (Prod.snd (Prod.snd (Prod.fst s))))) (nat_lit 2)))), AV.int IntKind.i64 (IntKind.wrap IntKind.i64 (numOf (XS.f (Prod.fst (Prod.snd (Prod.fst s))) (XS.row (Prod.fst (Prod.snd (Prod.fst s))) + Int.toNat (Prod.snd (Prod.snd (Prod.snd (Prod.fst s))))) (nat_lit 4)) - numOf (XS.f (Prod.fst (Prod.snd (Prod.fst s))) (XS.row (Prod.fst (Prod.snd (Prod.fst s))) + Int.toNat (Prod.snd (Prod.snd (Prod.snd (Prod.fst s))))) (nat_lit 2))))]], Prod.fst (Prod.snd (Prod.snd s)) (List.length (Prod.snd (Prod.snd (Prod.snd s))))) :: Prod.snd (Prod.snd (Prod.snd s)))))) (
        .ret (Sum.inl ((Prod.fst (Prod.fst s), Prod.fst (Prod.snd (Prod.fst s)), Prod.fst (Prod.snd (Prod.snd (Prod.fst s))), IntKind.wrap IntKind.i64 (Prod.snd (Prod.snd (Prod.snd (Prod.fst s))) + (1 : Int))), PUnit.unit, Prod.fst (Prod.snd (Prod.snd s)), ([AV.agg [AV.int IntKind.i64 (numOf (XS.f (Prod.fst (Prod.snd (Prod.fst s))) (XS.row (Prod.fst (Prod.snd (Prod.fst s))) + Int.toNat (Prod.snd (Prod.snd (Prod.snd (Prod.fst s))))) (0 : Nat))), AV.int IntKind.i64 (numOf (XS.f (Prod.fst (Prod.snd (Prod.fst s))) (XS.row (Prod.fst (Prod.snd (Prod.fst s))) + Int.toNat (Prod.snd (Prod.snd (Prod.snd (Prod.fst s))))) (nat_lit 1))), AV.int IntKind.i64 (numOf (XS.f (Prod.fst (Prod.snd (Prod.fst s))) (XS.row (Prod.fst (Prod.snd (Prod.fst s))) + Int.toNat (Prod.snd (Prod.snd (Prod.snd (Prod.fst s))))) (nat_lit 2))), AV.int IntKind.i64 (numOf (XS.f (Prod.fst (Prod.snd (Prod.fst s))) (XS.row (Prod.fst (Prod.snd (Prod.fst s))) + Int.toNat (Prod.snd (Prod.snd (Prod.snd (Prod.fst s))))) (nat_lit 3))), AV.int IntKind.i64 (numOf (XS.f (Prod.fst (Prod.snd (Prod.fst s))) (XS.row (Prod.fst (Prod.snd (Prod.fst s))) + Int.toNat (Prod.snd (Prod.snd (Prod.snd (Prod.fst s))))) (nat_lit 4))), AV.int IntKind.i64 (IntKind.wrap IntKind.i64 (numOf (XS.f (Prod.fst (Prod.snd (Prod.fst s))) (XS.row (Prod.fst (Prod.snd (Prod.fst s))) + Int.toNat (Prod.snd (Prod.snd (Prod.snd (Prod.fst s))))) (nat_lit 3)) - numOf (XS.f (Prod.fst (Prod.snd (Prod.fst s))) (XS.row (Prod.fst (Prod.snd (Prod.fst s))) + Int.toNat (Prod.snd (Prod.snd (Prod.snd (Prod.fst s))))) (nat_lit 2)))), AV.int IntKind.i64 (IntKind.wrap IntKind.i64 (numOf (XS.f (Prod.fst (Prod.snd (Prod.fst s))) (XS.row (Prod.fst (Prod.snd (Prod.fst s))) + Int.toNat (Prod.snd (Prod.snd (Prod.snd (Prod.fst s))))) (nat_lit 4)) - numOf (XS.f (Prod.fst (Prod.snd (Prod.fst s))) (XS.row (Prod.fst (Prod.snd (Prod.fst s))) + Int.toNat (Prod.snd (Prod.snd (Prod.snd (Prod.fst s))))) (nat_lit 2))))]], Prod.fst (Prod.snd (Prod.snd s)) (List.length (Prod.snd (Prod.snd (Prod.snd s))))) :: Prod.snd (Prod.snd (Prod.snd s)))))) (
      .ret (Sum.inl ((Prod.fst (Prod.fst s), Prod.fst (Prod.snd (Prod.fst s)), Prod.fst (Prod.snd (Prod.snd (Prod.fst s))), IntKind.wrap IntKind.i64 (Prod.snd (Prod.snd (Prod.snd (Prod.fst s))) + (1 : Int))), PUnit.unit, Prod.snd (Prod.snd s))))) (
    .ret (Sum.inr (Sum.inr (PUnit.unit, PUnit.unit, Prod.snd (Prod.snd s)))))) := fun s => by kernel_rfl
noncomputable def K.L_gls := lim K.st_gls
noncomputable def BKC1 : Tab := BKB21.addNode 127 9 (nodeE [9, 0, 2, 7, 8] S_gls X_gls (fun s => .obs (K.L_gls s) .ret))
theorem tKC1 : TabOk P BKC1 := TabOk.addLoop (d := 30) okP tKB21 (by kernel_rfl) (by kernel_rfl) (fun s r h => obs_ret h)
noncomputable def I_gls (a : Bulbs × Int) (bs : Nat → Bool) := iterT1 P BKC1 30 127 [] (V_gls.enc a) bs
theorem it_gls : ∀ a bs, (I_gls) a bs = T.run (
  .obs (L_gls ((Prod.snd a, Bulbs.glasses (Prod.fst a), (↑(clampL (XS.len (Bulbs.glasses (Prod.fst a)))) : Int), (0 : Int)), PUnit.unit, bs, [])) fun x0 =>
    .sum (x0) (fun x1 =>
      .ret (List.reverse (Prod.snd (Prod.snd (Prod.snd x1))))) (fun x1 =>
      .ret (List.reverse (Prod.snd (Prod.snd (Prod.snd x1)))))) := fun a bs => by kernel_rfl
section
variable (x : XS) (h : Int) {bs : Nat → Bool}
abbrev K.Sg (x : XS) (h : Int) (bs : Nat → Bool) (i : Nat) (out : List (List AV × Bool)) := ((h, x, (K.len x : Int), (i : Int)), PUnit.unit, bs, out)
abbrev K.pg (x : XS) (h : Int) (i : Nat) : Bool := (gls x i).hydro == h
abbrev K.eg (x : XS) (i : Nat) : List AV := eTold (toldOf (gls x i))
theorem gls_n (i : Nat) (hi : i < K.len x) (out) (hp : pg x h i = false) : st_gls (Sg x h bs i out) = some (.inl (Sg x h bs (i + 1) out)) := by
  have e1 := K.len_le x; have e2 := K.len_le' x
  rw [sl_gls]
  simp only [T.run_br, T.run_chk, T.run_ret, decide_eq_true_eq, Int.toNat_natCast]
  rw [if_pos (by omega), if_pos (by omega)]
  simp only [pg, gls, XS.g] at hp
  rw [if_neg (by simp [hp]), w64_in (by omega) (by omega)]; simp
theorem gls_y (i : Nat) (hi : i < K.len x) (out : List (List AV × Bool)) (hp : pg x h i = true) (hb : bs out.length = true) : st_gls (Sg x h bs i out) = some (.inl (Sg x h bs (i + 1) ((eg x i, true) :: out))) := by
  have e1 := K.len_le x; have e2 := K.len_le' x
  rw [sl_gls]
  simp only [T.run_br, T.run_chk, T.run_ret, decide_eq_true_eq, Int.toNat_natCast, hb]
  rw [if_pos (by omega), if_pos (by omega)]
  simp only [pg, gls, XS.g] at hp
  rw [if_pos hp, if_neg (by simp), w64_in (by omega) (by omega)]; simp; rfl
theorem gls_s (i : Nat) (hi : i < K.len x) (out : List (List AV × Bool)) (hp : pg x h i = true) (hb : bs out.length = false) : st_gls (Sg x h bs i out) = some (.inr (.inl ((), (), bs, (eg x i, false) :: out))) := by
  have e1 := K.len_le x; have e2 := K.len_le' x
  rw [sl_gls]
  simp only [T.run_br, T.run_chk, T.run_ret, decide_eq_true_eq, Int.toNat_natCast, hb]
  rw [if_pos (by omega), if_pos (by omega)]
  simp only [pg, gls, XS.g] at hp
  rw [if_pos hp, if_pos (by simp)]; rfl
theorem gls_e (out) : st_gls (Sg x h bs (K.len x) out) = some (.inr (.inr ((), (), bs, out))) := by
  rw [sl_gls]
  simp only [T.run_br, T.run_chk, T.run_ret, decide_eq_true_eq]
  rw [if_neg (by omega)]
theorem icl_gls (b : Bulbs) : ICL P 127 [] (V_gls.enc (b, h)) ((glassesL b h).map eTold) := by
  refine iter_of okP tKC1  (d := 30) ?_ (fun m y hy => ?_)
  · show I_gls (b, h) _ = _
    rw [it_gls]
    show T.run (.obs (lim st_gls (Sg b.glasses h _ 0 [])) _) = _
    rw [lim_yields_all (Sg b.glasses h _) (pg b.glasses h) (eg b.glasses) (fun o => Sum.inr ((), (), (fun _ => true), o)) (fun i hi out hp => gls_n b.glasses h i hi out hp) (fun i hi out hp hb => gls_y b.glasses h i hi out hp hb) (fun out => gls_e b.glasses h out) (fun _ => rfl) (K.len b.glasses) 0 [] (by omega)]
    simp only [T.run_some, T.run_inr, T.run_ret, List.append_nil, List.reverse_reverse, glassesL, List.map_map, ← List.range_eq_range']
    rfl
  · show I_gls (b, h) _ = _
    rw [it_gls]
    show T.run (.obs (lim st_gls (Sg b.glasses h _ 0 [])) _) = _
    have hy' : (((List.range' 0 (K.len b.glasses)).filter (pg b.glasses h)).map (eg b.glasses))[m - ([] : List (List AV × Bool)).length]? = some y := by
      rw [← List.range_eq_range']; simpa [glassesL, List.map_map, Function.comp_def] using hy
    rw [lim_yields_stop (Sg b.glasses h _) (pg b.glasses h) (eg b.glasses) (fun o => Sum.inl ((), (), (fun k => !(Nat.beq k m)), o)) (fun i hi out hp => gls_n b.glasses h i hi out hp) (fun i hi out hp hb => gls_y b.glasses h i hi out hp hb) (fun i hi out hp hb => gls_s b.glasses h i hi out hp hb) (fun _ => rfl) (K.len b.glasses) 0 [] (by omega) (by simp) hy']
    simp only [T.run_some, T.run_inl, T.run_ret, List.append_nil, List.reverse_cons, List.reverse_reverse, List.length_nil, Nat.sub_zero, ← List.range_eq_range', glassesL, List.map_map]
    rfl
end
/-! errors -/
def D_gl := DecL.cons (dBulbs) (.last (dI .i64) 0)
def R_gl := dFn 127 V_gls
theorem fn_gl : ∀ a, (callT1 P BKC1 30 119 D_gl R_gl) a = T.run (
  .ret ((Prod.fst a, numOf (AV.int IntKind.i64 (Prod.snd a))))) := fun a => by kernel_rfl
noncomputable def BKC2 : Tab := BKC1.addCall 119 (callE D_gl R_gl (fun a => .ret a))
theorem tKC2 : TabOk P BKC2 := TabOk.addFn (d := 30) okP tKC1 (fun a r h => by rw [fn_gl]; exact h)
def S_err := DecS.mk0 (.skips 5 (.unit (dLp 0 0 0 0) (.unit (dLp 1 0 0 0) (.unit (dLp 2 0 0 0) (.skips 6 (.last R_gl 11)))))) (.flat 3 (.last (dI .i64) 0) (.flat 33 lSpan (.flat 33 lSpan .nil)))
noncomputable def K.st_err := rangeT1 P BKC2 30 95 25 [14, 6, 7, 5] S_err DecX.no eTold
theorem rg_err : ∀ s x, (K.st_err) s x = T.run (
  .br (Glass.id (GlassE.g x) != Prod.fst (Prod.snd s)) (
    .ret (Sum.inl (Prod.fst s, Prod.fst (Prod.snd s), Prod.fst (Prod.snd (Prod.snd s)), meet (Prod.fst (Prod.snd (Prod.snd (Prod.snd s)))) (GlassE.errors x), PUnit.unit))) (
    .ret (Sum.inl (Prod.fst s, Prod.fst (Prod.snd s), Prod.fst (Prod.snd (Prod.snd s)), Prod.fst (Prod.snd (Prod.snd (Prod.snd s))), PUnit.unit)))) := fun s x => by kernel_rfl
theorem st_err_eq (s) (x : GlassE) : st_err s x = some (.inl (s.1, s.2.1, s.2.2.1, if x.g.id != s.2.1 then meet s.2.2.2.1 x.errors else s.2.2.2.1, ())) := by
  rw [rg_err]; simp only [T.run_br, T.run_ret]; cases (x.g.id != s.2.1) <;> rfl
theorem fold_err (L : List GlassE) (a : Bulbs × Int) (but : Int) (r c : Span) : L.foldl (fun (s : (Bulbs × Int) × Int × Span × Span × Unit) (x : GlassE) => (s.1, s.2.1, s.2.2.1, if x.g.id != s.2.1 then meet s.2.2.2.1 x.errors else s.2.2.2.1, ())) (a, but, r, c, ()) =
    (a, but, r, L.foldl (fun c g => if g.g.id != but then meet c g.errors else c) c, ()) := by
  induction L generalizing c with
  | nil => rfl
  | cons x L ih => simp only [List.foldl_cons]; exact ih _
noncomputable def BKC3 : Tab := BKC2.addNode 95 25 (rangeE [14, 6, 7, 5] S_err DecX.no (fun s => .ret (.inl (s.1, s.2.1, s.2.2.1, (glassesL s.1.1 s.1.2).foldl (fun c g => if g.g.id != s.2.1 then meet c g.errors else c) s.2.2.2.1, ()))))
theorem tKC3 : TabOk P BKC3 := TabOk.addRange (d := 30) (enc := eTold) (L := (fun s => glassesL s.1.1 s.1.2)) okP tKC2 (by kernel_rfl) (by kernel_rfl) (fun s r h => ⟨_, _, _, (by kernel_rfl : _ = some (127, [], V_gls.enc s.1)), icl_gls s.1.2 s.1.1⟩) (fun s r h => by have e := ret_some h; subst e; rw [← fold_err]; exact foldS_total st_err_eq _ _)
def D_errs := DecL.cons (dBulbs) (.cons (dHydro) (.last (dI .i64) 0))
theorem fn_errs : ∀ a, (callT1 P BKC3 30 95 D_errs dSpan) a = T.run (
  .ret (List.foldl (fun c g => if (Glass.id (GlassE.g g) != Prod.snd (Prod.snd a)) = true then meet c (GlassE.errors g) else c) (Hydro.off (Prod.fst (Prod.snd a))) (glassesL (Prod.fst a) (Hydro.id (Prod.fst (Prod.snd a)))))) := fun a => by kernel_rfl
noncomputable def BKC4 : Tab := BKC3.addCall 95 (callE D_errs dSpan (fun a => .ret (errs a.1 a.2.1 a.2.2)))
theorem tKC4 : TabOk P BKC4 := TabOk.addFn (d := 30) okP tKC3 (fun a r h => by rw [fn_errs]; exact h)
def D_hydro := DecL.cons (dBulbs) (.last (dI .i64) 0)
def R_hydro := dTup (.cons dHydro (.last dB 0))
theorem fn_hydro : ∀ a, (callT1 P BKC4 30 94 D_hydro R_hydro) a = T.run (
  .ret ((Prod.fst (find_hyd1 (numOf (AV.int IntKind.i64 (Prod.snd a))) (Bulbs.hydros (Prod.fst a))), decide (Prod.snd (find_hyd1 (numOf (AV.int IntKind.i64 (Prod.snd a))) (Bulbs.hydros (Prod.fst a))) ≥ (0 : Int))))) := fun a => by kernel_rfl
noncomputable def K.hydro (a : Bulbs × Int) : Hydro × Bool := (Prod.fst (find_hyd1 (numOf (AV.int IntKind.i64 (Prod.snd a))) (Bulbs.hydros (Prod.fst a))), decide (Prod.snd (find_hyd1 (numOf (AV.int IntKind.i64 (Prod.snd a))) (Bulbs.hydros (Prod.fst a))) ≥ (0 : Int)))
theorem eq_hydro (a : Bulbs × Int) : (callT1 P BKC4 30 94 D_hydro R_hydro) a = some (K.hydro a) := (fn_hydro a).trans rfl
noncomputable def BKC5 : Tab := BKC4.addCall 94 (callE D_hydro R_hydro (fun a => .ret (K.hydro a)))
theorem tKC5 : TabOk P BKC5 := TabOk.addFn (d := 30) okP tKC4 (fun a r h => by rw [eq_hydro]; exact congrArg some (ret_some h))
def D_off := DecL.cons (dBulbs) (.last (dI .i64) 0)
def R_off := dTup (.cons dSpan (.last (dI .i64) 0))
theorem fn_off : ∀ a, (callT1 P BKC5 30 61 D_off R_off) a = T.run (
  .br (!Prod.snd (hydro a)) (
    .ret ((Span.mk (0 : Int) (0 : Int), (5 : Int)))) (
    .br (void (errs (Prod.fst a) (Prod.fst (hydro a)) (0 : Int))) (
      .ret ((Span.mk (0 : Int) (0 : Int), (9 : Int)))) (
      .ret ((errs (Prod.fst a) (Prod.fst (hydro a)) (0 : Int), (0 : Int)))))) := fun a => by kernel_rfl
noncomputable def K.off (a : Bulbs × Int) : Span × Int := (if (!Prod.snd (hydro a)) = true then (Span.mk (0 : Int) (0 : Int), (5 : Int)) else (if (void (errs (Prod.fst a) (Prod.fst (hydro a)) (0 : Int))) = true then (Span.mk (0 : Int) (0 : Int), (9 : Int)) else (errs (Prod.fst a) (Prod.fst (hydro a)) (0 : Int), (0 : Int))))
theorem eq_off (a : Bulbs × Int) : (callT1 P BKC5 30 61 D_off R_off) a = some (K.off a) := (fn_off a).trans (T.br_some rfl (T.br_some rfl rfl))
noncomputable def BKC6 : Tab := BKC5.addCall 61 (callE D_off R_off (fun a => .ret (K.off a)))
theorem tKC6 : TabOk P BKC6 := TabOk.addFn (d := 30) okP tKC5 (fun a r h => by rw [eq_off]; exact congrArg some (ret_some h))
def D_dens := DecL.cons (dBulbs) (.last (dSurvey) 0)
theorem fn_density : ∀ a, (callT1 P BKC6 30 54 D_dens R_off) a = T.run (
  .br (Prod.snd (off (Prod.fst a, Survey.hydro (Prod.snd a))) != (0 : Int)) (
    .ret ((Span.mk (0 : Int) (0 : Int), Prod.snd (off (Prod.fst a, Survey.hydro (Prod.snd a)))))) (
    .br (void (meet (Span.mk (IntKind.wrap IntKind.i64 (Span.lo (Survey.shown (Prod.snd a)) - Span.hi (Prod.fst (off (Prod.fst a, Survey.hydro (Prod.snd a)))))) (IntKind.wrap IntKind.i64 (Span.hi (Survey.shown (Prod.snd a)) - Span.lo (Prod.fst (off (Prod.fst a, Survey.hydro (Prod.snd a))))))) (Span.mk (900 : Int) (1100 : Int)))) (
      .ret ((Span.mk (0 : Int) (0 : Int), (9 : Int)))) (
      .ret ((meet (Span.mk (IntKind.wrap IntKind.i64 (Span.lo (Survey.shown (Prod.snd a)) - Span.hi (Prod.fst (off (Prod.fst a, Survey.hydro (Prod.snd a)))))) (IntKind.wrap IntKind.i64 (Span.hi (Survey.shown (Prod.snd a)) - Span.lo (Prod.fst (off (Prod.fst a, Survey.hydro (Prod.snd a))))))) (Span.mk (900 : Int) (1100 : Int)), (0 : Int)))))) := fun a => by kernel_rfl
noncomputable def K.density (a : Bulbs × Survey) : Span × Int := (if (Prod.snd (off (Prod.fst a, Survey.hydro (Prod.snd a))) != (0 : Int)) = true then (Span.mk (0 : Int) (0 : Int), Prod.snd (off (Prod.fst a, Survey.hydro (Prod.snd a)))) else (if (void (meet (Span.mk (IntKind.wrap IntKind.i64 (Span.lo (Survey.shown (Prod.snd a)) - Span.hi (Prod.fst (off (Prod.fst a, Survey.hydro (Prod.snd a)))))) (IntKind.wrap IntKind.i64 (Span.hi (Survey.shown (Prod.snd a)) - Span.lo (Prod.fst (off (Prod.fst a, Survey.hydro (Prod.snd a))))))) (Span.mk (900 : Int) (1100 : Int)))) = true then (Span.mk (0 : Int) (0 : Int), (9 : Int)) else (meet (Span.mk (IntKind.wrap IntKind.i64 (Span.lo (Survey.shown (Prod.snd a)) - Span.hi (Prod.fst (off (Prod.fst a, Survey.hydro (Prod.snd a)))))) (IntKind.wrap IntKind.i64 (Span.hi (Survey.shown (Prod.snd a)) - Span.lo (Prod.fst (off (Prod.fst a, Survey.hydro (Prod.snd a))))))) (Span.mk (900 : Int) (1100 : Int)), (0 : Int))))
theorem eq_density (a : Bulbs × Survey) : (callT1 P BKC6 30 54 D_dens R_off) a = some (K.density a) := (fn_density a).trans (T.br_some rfl (T.br_some rfl rfl))
noncomputable def BKC7 : Tab := BKC6.addCall 54 (callE D_dens R_off (fun a => .ret (K.density a)))
theorem tKC7 : TabOk P BKC7 := TabOk.addFn (d := 30) okP tKC6 (fun a r h => by rw [eq_density]; exact congrArg some (ret_some h))
def D_extr := DecL.last (dSurvey) 0
def R_extr := (dTup (.cons (dAgg (.cons (dI .i64) (.cons (dI .i64) (.cons (dI .i64) (.last (dI .i64) 0))))) (.last dB 0))).iso (fun p => ((⟨p.1.1, p.1.2.1⟩, ⟨p.1.2.2.1, p.1.2.2.2⟩), p.2)) (fun (s : (Sums × Sums) × Bool) => ((s.1.1.ends, s.1.1.middle, s.1.2.ends, s.1.2.middle), s.2)) (fun _ => rfl)
theorem fn_extr : ∀ a, (callT1 P BKC7 30 51 D_extr R_extr) a = T.run (
  .br (void (meet (both (Survey.m2 a) (Survey.m3 a)) (Span.mk (IntKind.wrap IntKind.i64 ((0 : Int) - half (IntKind.wrap IntKind.i64 (IntKind.wrap IntKind.i64 ((4 : Int) * Survey.sag a) - Span.lo (both (both (Survey.m0 a) (Survey.m1 a)) (both (Survey.m4 a) (Survey.m5 a))))))) (half (IntKind.wrap IntKind.i64 (Span.hi (both (both (Survey.m0 a) (Survey.m1 a)) (both (Survey.m4 a) (Survey.m5 a))) + IntKind.wrap IntKind.i64 ((4 : Int) * Survey.sag a))))))) (
    .ret (((Sums.mk (0 : Int) (0 : Int), Sums.mk (0 : Int) (0 : Int)), false))) (
    .ret (((Sums.mk (if IntKind.wrap IntKind.i64 (IntKind.wrap IntKind.i64 ((2 : Int) * Span.lo (meet (both (Survey.m2 a) (Survey.m3 a)) (Span.mk (IntKind.wrap IntKind.i64 ((0 : Int) - half (IntKind.wrap IntKind.i64 (IntKind.wrap IntKind.i64 ((4 : Int) * Survey.sag a) - Span.lo (both (both (Survey.m0 a) (Survey.m1 a)) (both (Survey.m4 a) (Survey.m5 a))))))) (half (IntKind.wrap IntKind.i64 (Span.hi (both (both (Survey.m0 a) (Survey.m1 a)) (both (Survey.m4 a) (Survey.m5 a))) + IntKind.wrap IntKind.i64 ((4 : Int) * Survey.sag a))))))) - IntKind.wrap IntKind.i64 ((4 : Int) * Survey.sag a)) > Span.lo (both (both (Survey.m0 a) (Survey.m1 a)) (both (Survey.m4 a) (Survey.m5 a))) then IntKind.wrap IntKind.i64 (IntKind.wrap IntKind.i64 ((2 : Int) * Span.lo (meet (both (Survey.m2 a) (Survey.m3 a)) (Span.mk (IntKind.wrap IntKind.i64 ((0 : Int) - half (IntKind.wrap IntKind.i64 (IntKind.wrap IntKind.i64 ((4 : Int) * Survey.sag a) - Span.lo (both (both (Survey.m0 a) (Survey.m1 a)) (both (Survey.m4 a) (Survey.m5 a))))))) (half (IntKind.wrap IntKind.i64 (Span.hi (both (both (Survey.m0 a) (Survey.m1 a)) (both (Survey.m4 a) (Survey.m5 a))) + IntKind.wrap IntKind.i64 ((4 : Int) * Survey.sag a))))))) - IntKind.wrap IntKind.i64 ((4 : Int) * Survey.sag a)) else Span.lo (both (both (Survey.m0 a) (Survey.m1 a)) (both (Survey.m4 a) (Survey.m5 a)))) (Span.lo (meet (both (Survey.m2 a) (Survey.m3 a)) (Span.mk (IntKind.wrap IntKind.i64 ((0 : Int) - half (IntKind.wrap IntKind.i64 (IntKind.wrap IntKind.i64 ((4 : Int) * Survey.sag a) - Span.lo (both (both (Survey.m0 a) (Survey.m1 a)) (both (Survey.m4 a) (Survey.m5 a))))))) (half (IntKind.wrap IntKind.i64 (Span.hi (both (both (Survey.m0 a) (Survey.m1 a)) (both (Survey.m4 a) (Survey.m5 a))) + IntKind.wrap IntKind.i64 ((4 : Int) * Survey.sag a))))))), Sums.mk (if IntKind.wrap IntKind.i64 (IntKind.wrap IntKind.i64 ((2 : Int) * Span.hi (meet (both (Survey.m2 a) (Survey.m3 a)) (Span.mk (IntKind.wrap IntKind.i64 ((0 : Int) - half (IntKind.wrap IntKind.i64 (IntKind.wrap IntKind.i64 ((4 : Int) * Survey.sag a) - Span.lo (both (both (Survey.m0 a) (Survey.m1 a)) (both (Survey.m4 a) (Survey.m5 a))))))) (half (IntKind.wrap IntKind.i64 (Span.hi (both (both (Survey.m0 a) (Survey.m1 a)) (both (Survey.m4 a) (Survey.m5 a))) + IntKind.wrap IntKind.i64 ((4 : Int) * Survey.sag a))))))) + IntKind.wrap IntKind.i64 ((4 : Int) * Survey.sag a)) < Span.hi (both (both (Survey.m0 a) (Survey.m1 a)) (both (Survey.m4 a) (Survey.m5 a))) then IntKind.wrap IntKind.i64 (IntKind.wrap IntKind.i64 ((2 : Int) * Span.hi (meet (both (Survey.m2 a) (Survey.m3 a)) (Span.mk (IntKind.wrap IntKind.i64 ((0 : Int) - half (IntKind.wrap IntKind.i64 (IntKind.wrap IntKind.i64 ((4 : Int) * Survey.sag a) - Span.lo (both (both (Survey.m0 a) (Survey.m1 a)) (both (Survey.m4 a) (Survey.m5 a))))))) (half (IntKind.wrap IntKind.i64 (Span.hi (both (both (Survey.m0 a) (Survey.m1 a)) (both (Survey.m4 a) (Survey.m5 a))) + IntKind.wrap IntKind.i64 ((4 : Int) * Survey.sag a))))))) + IntKind.wrap IntKind.i64 ((4 : Int) * Survey.sag a)) else Span.hi (both (both (Survey.m0 a) (Survey.m1 a)) (both (Survey.m4 a) (Survey.m5 a)))) (Span.hi (meet (both (Survey.m2 a) (Survey.m3 a)) (Span.mk (IntKind.wrap IntKind.i64 ((0 : Int) - half (IntKind.wrap IntKind.i64 (IntKind.wrap IntKind.i64 ((4 : Int) * Survey.sag a) - Span.lo (both (both (Survey.m0 a) (Survey.m1 a)) (both (Survey.m4 a) (Survey.m5 a))))))) (half (IntKind.wrap IntKind.i64 (Span.hi (both (both (Survey.m0 a) (Survey.m1 a)) (both (Survey.m4 a) (Survey.m5 a))) + IntKind.wrap IntKind.i64 ((4 : Int) * Survey.sag a)))))))), true)))) := fun a => by kernel_rfl
/-- The ends' sums, and the middle's. -/
def K.endsOf (x : Survey) : Span := both (both x.m0 x.m1) (both x.m4 x.m5)
def K.bend (x : Survey) : Int := IntKind.i64.wrap (4 * x.sag)
def K.mids (x : Survey) : Span := meet (both x.m2 x.m3) ⟨IntKind.i64.wrap (0 - half (IntKind.i64.wrap (bend x - (endsOf x).lo))), half (IntKind.i64.wrap ((endsOf x).hi + bend x))⟩
def K.extremes (x : Survey) : (Sums × Sums) × Bool := if void (mids x) = true then ((⟨0, 0⟩, ⟨0, 0⟩), false) else
  ((⟨if IntKind.i64.wrap (IntKind.i64.wrap (2 * (mids x).lo) - bend x) > (endsOf x).lo then IntKind.i64.wrap (IntKind.i64.wrap (2 * (mids x).lo) - bend x) else (endsOf x).lo, (mids x).lo⟩,
    ⟨if IntKind.i64.wrap (IntKind.i64.wrap (2 * (mids x).hi) + bend x) < (endsOf x).hi then IntKind.i64.wrap (IntKind.i64.wrap (2 * (mids x).hi) + bend x) else (endsOf x).hi, (mids x).hi⟩), true)
noncomputable def BKC8 : Tab := BKC7.addCall 51 (callE D_extr R_extr (fun a => .ret (K.extremes a)))
theorem tKC8 : TabOk P BKC8 := TabOk.addFn (d := 30) okP tKC7 (fun a r h => by rw [fn_extr, ← ret_some h]; exact T.br_some rfl rfl)
end Go.Proofs.Ytkajafmphemedaa
