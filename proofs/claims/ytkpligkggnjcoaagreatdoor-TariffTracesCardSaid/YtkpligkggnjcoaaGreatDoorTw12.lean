/- Parts of the proof, one behind the other: TD7, TF1, TF2, TF3, TF4, TF5, TF6, TU1, TU2, TU3, TU4, TU5, TU6, TU7, TU8, TU9, TUa, TUb, TUc, TUd, TV0, TV1, TV2, TV3, TV4, TV5, TV6, TV7. No conditions. -/
import Derived.Test.YtkpligkggnjcoaaGreatDoorTw11
import Derived.Shelf.Small.Strs
import Derived.Shelf.Strconv.AtoiAll
import Derived.KernelRfl
/-! TD7 -/
namespace Go.Proofs.YtkpligkggnjcoaaGreatDoor
open Ev K
set_option maxRecDepth 100000
namespace K
theorem L_g1b_eq (l : List Rul) (m i : Int) (L : List Rul) (G : List Str) (hG : G.length ≤ 1000) (M : List (Str × Bool)) : L_g1b ((l, L, m, i, G, (G.length : Int), 0), M, ()) = some ((l, L, m, i), G.foldl insB M, ()) := by
  have e : G.foldl insB M = (G.take G.length).foldl insB M := by rw [List.take_length]
  rw [e]
  refine lim_all (fun j : Nat => ((l, L, m, i, G, (G.length : Int), (j : Int)), (G.take j).foldl insB M, ())) G.length (fun j hj => ?_) ?_
  · have hy := List.getElem?_eq_getElem hj
    rw [sl_g1b]
    have ht : G.take (j + 1) = G.take j ++ [G[j]] := by rw [List.take_add_one, hy]; rfl
    rw [ht]
    generalize G[j] = g at hy
    simp only [Int.toNat_natCast, Nat.zero_add, str_at hy, ns0, decF_encF, decN_encN, wi j (by omega), putB]
    refine br_t (decide_eq_true (by omega)) (chk_step (decide_eq_true (by omega)) ?_)
    rw [List.foldl_append]; rfl
  · rw [sl_g1b]
    simp only [Nat.zero_add, decN_encN, decF_encF]
    exact br_f (decide_eq_false (by omega)) rfl
theorem L_g1_eq (l : List Rul) (hc : checkT l = 0) (M : List (Str × Bool)) : L_g1 ((l, l, (l.length : Int), 0), M, ()) = some ((l, ()), (l.flatMap (·.grades)).foldl insB M, ()) := by
  obtain ⟨hl, hr⟩ := checkT_ok hc
  have e : (l.flatMap (·.grades)).foldl insB M = ((l.take l.length).flatMap (·.grades)).foldl insB M := by rw [List.take_length]
  rw [e]
  refine lim_all (fun i : Nat => ((l, l, (l.length : Int), (i : Int)), ((l.take i).flatMap (·.grades)).foldl insB M, ())) l.length (fun i hi => ?_) ?_
  · have hy := List.getElem?_eq_getElem hi
    have hg := (hr l[i] (List.getElem_mem hi)).1.2
    rw [sl_g1]
    have ht : l.take (i + 1) = l.take i ++ [l[i]] := by rw [List.take_add_one, hy]; rfl
    rw [ht]
    generalize l[i] = r at hy hg
    simp only [Int.toNat_natCast, Nat.zero_add, rul_at hy, nr2, so_rd, decN_encN, decF_encF]
    simp only [so_len, cl (show r.grades.length ≤ 1000000 by omega)]
    refine br_t (decide_eq_true (by omega)) (chk_step (decide_eq_true (by omega)) (obs_step (L_g1b_eq l _ _ l r.grades (by omega) _) ?_))
    simp only [wi i (by omega)]
    rw [List.flatMap_append, List.foldl_append]
    show some _ = some _
    simp only [List.flatMap_cons, List.flatMap_nil, List.append_nil]
  · rw [sl_g1]
    simp only [Nat.zero_add, decN_encN, decF_encF]
    exact br_f (decide_eq_false (by omega)) rfl
theorem L_g20b_eq (l l2 : List Rul) (m i : Int) (L : List Rul) (G : List Str) (hG : G.length ≤ 1000) (M : List (Str × Bool)) : L_g20b (((l, l2), L, m, i, G, (G.length : Int), 0), M, ()) = some (((l, l2), L, m, i), G.foldl insB M, ()) := by
  have e : G.foldl insB M = (G.take G.length).foldl insB M := by rw [List.take_length]
  rw [e]
  refine lim_all (fun j : Nat => (((l, l2), L, m, i, G, (G.length : Int), (j : Int)), (G.take j).foldl insB M, ())) G.length (fun j hj => ?_) ?_
  · have hy := List.getElem?_eq_getElem hj
    rw [sl_g20b]
    have ht : G.take (j + 1) = G.take j ++ [G[j]] := by rw [List.take_add_one, hy]; rfl
    rw [ht]
    generalize G[j] = g at hy
    simp only [Int.toNat_natCast, Nat.zero_add, str_at hy, ns0, decF_encF, decN_encN, wi j (by omega), putB]
    refine br_t (decide_eq_true (by omega)) (chk_step (decide_eq_true (by omega)) ?_)
    rw [List.foldl_append]; rfl
  · rw [sl_g20b]
    simp only [Nat.zero_add, decN_encN, decF_encF]
    exact br_f (decide_eq_false (by omega)) rfl
theorem L_g20_eq (l l2 : List Rul) (hc : checkT l = 0) (M : List (Str × Bool)) : L_g20 (((l, l2), l, (l.length : Int), 0), M, ()) = some (((l, l2), ()), (l.flatMap (·.grades)).foldl insB M, ()) := by
  obtain ⟨hl, hr⟩ := checkT_ok hc
  have e : (l.flatMap (·.grades)).foldl insB M = ((l.take l.length).flatMap (·.grades)).foldl insB M := by rw [List.take_length]
  rw [e]
  refine lim_all (fun i : Nat => (((l, l2), l, (l.length : Int), (i : Int)), ((l.take i).flatMap (·.grades)).foldl insB M, ())) l.length (fun i hi => ?_) ?_
  · have hy := List.getElem?_eq_getElem hi
    have hg := (hr l[i] (List.getElem_mem hi)).1.2
    rw [sl_g20]
    have ht : l.take (i + 1) = l.take i ++ [l[i]] := by rw [List.take_add_one, hy]; rfl
    rw [ht]
    generalize l[i] = r at hy hg
    simp only [Int.toNat_natCast, Nat.zero_add, rul_at hy, nr2, so_rd, decN_encN, decF_encF]
    simp only [so_len, cl (show r.grades.length ≤ 1000000 by omega)]
    refine br_t (decide_eq_true (by omega)) (chk_step (decide_eq_true (by omega)) (obs_step (L_g20b_eq l l2 _ _ l r.grades (by omega) _) ?_))
    simp only [wi i (by omega)]
    rw [List.flatMap_append, List.foldl_append]
    show some _ = some _
    simp only [List.flatMap_cons, List.flatMap_nil, List.append_nil]
  · rw [sl_g20]
    simp only [Nat.zero_add, decN_encN, decF_encF]
    exact br_f (decide_eq_false (by omega)) rfl
theorem L_g21b_eq (l l2 : List Rul) (m i : Int) (L : List Rul) (G : List Str) (hG : G.length ≤ 1000) (M : List (Str × Bool)) : L_g21b (((l2, l), L, m, i, G, (G.length : Int), 0), M, ()) = some (((l2, l), L, m, i), G.foldl insB M, ()) := by
  have e : G.foldl insB M = (G.take G.length).foldl insB M := by rw [List.take_length]
  rw [e]
  refine lim_all (fun j : Nat => (((l2, l), L, m, i, G, (G.length : Int), (j : Int)), (G.take j).foldl insB M, ())) G.length (fun j hj => ?_) ?_
  · have hy := List.getElem?_eq_getElem hj
    rw [sl_g21b]
    have ht : G.take (j + 1) = G.take j ++ [G[j]] := by rw [List.take_add_one, hy]; rfl
    rw [ht]
    generalize G[j] = g at hy
    simp only [Int.toNat_natCast, Nat.zero_add, str_at hy, ns0, decF_encF, decN_encN, wi j (by omega), putB]
    refine br_t (decide_eq_true (by omega)) (chk_step (decide_eq_true (by omega)) ?_)
    rw [List.foldl_append]; rfl
  · rw [sl_g21b]
    simp only [Nat.zero_add, decN_encN, decF_encF]
    exact br_f (decide_eq_false (by omega)) rfl
theorem L_g21_eq (l l2 : List Rul) (hc : checkT l = 0) (M : List (Str × Bool)) : L_g21 (((l2, l), l, (l.length : Int), 0), M, ()) = some (((l2, l), ()), (l.flatMap (·.grades)).foldl insB M, ()) := by
  obtain ⟨hl, hr⟩ := checkT_ok hc
  have e : (l.flatMap (·.grades)).foldl insB M = ((l.take l.length).flatMap (·.grades)).foldl insB M := by rw [List.take_length]
  rw [e]
  refine lim_all (fun i : Nat => (((l2, l), l, (l.length : Int), (i : Int)), ((l.take i).flatMap (·.grades)).foldl insB M, ())) l.length (fun i hi => ?_) ?_
  · have hy := List.getElem?_eq_getElem hi
    have hg := (hr l[i] (List.getElem_mem hi)).1.2
    rw [sl_g21]
    have ht : l.take (i + 1) = l.take i ++ [l[i]] := by rw [List.take_add_one, hy]; rfl
    rw [ht]
    generalize l[i] = r at hy hg
    simp only [Int.toNat_natCast, Nat.zero_add, rul_at hy, nr2, so_rd, decN_encN, decF_encF]
    simp only [so_len, cl (show r.grades.length ≤ 1000000 by omega)]
    refine br_t (decide_eq_true (by omega)) (chk_step (decide_eq_true (by omega)) (obs_step (L_g21b_eq l l2 _ _ l r.grades (by omega) _) ?_))
    simp only [wi i (by omega)]
    rw [List.flatMap_append, List.foldl_append]
    show some _ = some _
    simp only [List.flatMap_cons, List.flatMap_nil, List.append_nil]
  · rw [sl_g21]
    simp only [Nat.zero_add, decN_encN, decF_encF]
    exact br_f (decide_eq_false (by omega)) rfl
theorem grs_okL {l : List Rul} (h : checkT l = 0) : (∀ s ∈ l.flatMap (·.grades), s.length ≤ 1000000) ∧ (l.flatMap (·.grades)).length ≤ 240 := by
  obtain ⟨h1, h2⟩ := checkT_ok h
  refine ⟨fun s hs => ?_, ?_⟩
  · obtain ⟨r, hr, hg⟩ := List.mem_flatMap.1 hs
    have := (rul_short (h2 r hr)).2 s hg
    omega
  · have key : ∀ L : List Rul, (∀ r ∈ L, rulOk r) → (L.flatMap (·.grades)).length ≤ 8 * L.length := by
      intro L
      induction L with
      | nil => intro _; simp
      | cons r L ih =>
        intro hL
        have := ih fun r hr => hL r (List.mem_cons_of_mem _ hr)
        have h8 := (hL r (List.mem_cons_self ..)).1.2
        rw [List.flatMap_cons, List.length_append, List.length_cons]; omega
    have := key l h2
    omega
theorem g1_ok (a : List Rul) (r : List Str) (h : (T.chk (decide (checkT a = 0)) (.ret (gradesT a))).run = some r) : freshT1 P BTD67 30 113 9 D_d1 rStr a = some r := by
  obtain ⟨g, e⟩ := chk_ret h
  subst e
  have g := of_decide_eq_true g
  have hl := (checkT_ok g).1
  obtain ⟨o1, o2⟩ := grs_okL g
  obtain ⟨k1, k2⟩ := insB_ok (L := a.flatMap (·.grades)) (by omega) o1
  rw [fn_g1]
  simp only [Nat.zero_add, decN_encN, decF_encF, cl (show a.length ≤ 1000000 by omega), nilB]
  refine obs_step (L_g1_eq a g []) ?_
  refine chk_step (decide_eq_true k1) ?_
  show some (setS (keysB _)) = _
  rw [k2]; rfl
theorem g2_ok (a : List Rul × List Rul) (r : List Str) (h : (T.chk (decide (checkT a.1 = 0 ∧ checkT a.2 = 0)) (.ret (setS (a.1.flatMap (·.grades) ++ a.2.flatMap (·.grades))))).run = some r) : freshT1 P BTD67 30 113 9 D_d2 rStr a = some r := by
  obtain ⟨g, e⟩ := chk_ret h
  subst e
  obtain ⟨a, b⟩ := a
  obtain ⟨g1, g2⟩ := of_decide_eq_true g
  simp only at g1 g2
  have hl1 := (checkT_ok g1).1
  have hl2 := (checkT_ok g2).1
  obtain ⟨o1, o2⟩ := grs_okL g1
  obtain ⟨o3, o4⟩ := grs_okL g2
  obtain ⟨k1, k2⟩ := insB_ok (L := a.flatMap (·.grades) ++ b.flatMap (·.grades)) (by rw [List.length_append]; omega) (fun s hs => (List.mem_append.1 hs).elim (o1 s) (o3 s))
  rw [List.foldl_append] at k1 k2
  rw [fn_g2]
  simp only [Nat.zero_add, decN_encN, decF_encF, cl (show a.length ≤ 1000000 by omega), nilB]
  refine obs_step (L_g20_eq a b g1 []) ?_
  simp only [cl (show b.length ≤ 1000000 by omega)]
  refine obs_step (L_g21_eq b a g2 _) ?_
  refine chk_step (decide_eq_true k1) ?_
  show some (setS (keysB _)) = _
  rw [k2]
def gradesAB' (a : List Rul × List Rul) : List Str := setS (a.1.flatMap (·.grades) ++ a.2.flatMap (·.grades))
end K
noncomputable def BTD71 : Tab := BTD67.addTurn 113 (freshE 9 D_d1 rStr (fun a => .chk (decide (K.checkT a = 0)) (.ret (K.gradesT a))))
theorem tTD71 : TabOk P BTD71 := TabOk.addFC tTD67 (D := D_d1) (R := rStr) (M := (fun a => .chk (decide (K.checkT a = 0)) (.ret (K.gradesT a)))) (fun a r h => fresh_of (d := 30) okP tTD67 (K.g1_ok a r h))
noncomputable def BTD72 : Tab := BTD71.addTurn 113 (freshE 9 D_d2 rStr (fun a => .chk (decide (K.checkT a.1 = 0 ∧ K.checkT a.2 = 0)) (.ret (K.gradesAB' a))))
theorem tTD72 : TabOk P BTD72 := TabOk.addFC tTD71 (D := D_d2) (R := rStr) (M := (fun a => .chk (decide (K.checkT a.1 = 0 ∧ K.checkT a.2 = 0)) (.ret (K.gradesAB' a)))) (fun a r h => fresh_of (d := 30) okP tTD67 (K.g2_ok a r h))
end Go.Proofs.YtkpligkggnjcoaaGreatDoor
/-! TF1 -/
namespace Go.Proofs.YtkpligkggnjcoaaGreatDoor
open Ev K
set_option maxRecDepth 100000
def lS1 : DecL Str := .last dS 0
def lI1 : DecL Int := .last dInt 0
def lB1 : DecL Bool := .last dB 0
def O_sm : DecB (List Rul × List Rul × Spn × Str × Str × Int × Bool × Str × Str × List Str × List Str × Unit) := .flat 25 lTar (.flat 25 lTar (.flat 53 lSpn (.flat 9 lS1 (.flat 9 lS1 (.flat 3 lI1 (.flat 4 lB1 (.flat 9 lS1 (.flat 9 lS1 (.rows 9 rStr (.rows 9 rStr .nil))))))))))
def S_sm := DecS.mk0 (.skips 3 (.unit (dLp 0 0 0 0) (.unit (dLp 1 0 0 0) (.unit (dLp 2 0 0 0) (.unit (dLp 3 0 0 0) (.unit (dLp 4 0 0 0) (.unit (dLp 5 0 0 0) (.unit (dLp 6 0 0 0) (.skip (.unit (dLp 7 0 0 0) (.skip (.unit (dLp 8 0 0 0) (.skips 4 (.cons (dO 9) (.cons (dInt) (.cons (dInt) (.skips 8 (.cons (dO 10) (.cons (dInt) (.cons (dInt) (.skips 4 (.last (R_ea) 21)))))))))))))))))))))) O_sm
def O_sx : DecB (Str × Str × Int × Bool × Unit) := .flat 9 lS1 (.flat 9 lS1 (.flat 3 lI1 (.flat 4 lB1 .nil)))
def X_sm := DecX.one (.exit 0) [6, 7, 8, 9] (DecS.mk0 (.skips 6 (.unit (dLp 0 0 0 0) (.unit (dLp 1 0 0 0) (.unit (dLp 2 0 0 0) (.unit (dLp 3 0 0 0) (.tops 48)))))) O_sx)
noncomputable def K.st_sm := rangeT1 P BTD72 30 91 73 [36, 6, 7, 8, 9, 11, 4, 3, 5, 29, 18, 19, 20, 30, 31, 13] S_sm X_sm eInt
theorem rg_sm : ∀ s x, (K.st_sm) s x = T.run (
 let q1 := s.2.2.2.2.2.2.2.2.2.1;
 let q2 := s.2.2.2.2.2.2.2.2.1;
 let q3 := List.length s.2.2.1;
 let q4 := List.length s.2.1;
 let q5 := (0 : Nat);
  .chk (decide (penOk (decN nRul q4 fun i => encN nRul s.2.1 (q5 + i), q2, q1, x))) <|
  .chk (decide (penOk (decN nRul q3 fun i => encN nRul s.2.2.1 (q5 + i), q2, q1, x))) <|
  .br (penceL (decN nRul q4 fun i => encN nRul s.2.1 (q5 + i)) q2 q1 x != penceL (decN nRul q3 fun i => encN nRul s.2.2.1 (q5 + i)) q2 q1 x) (
    .ret (Sum.inr (PUnit.unit, q2, q1, x, false, PUnit.unit))) (
    .ret (Sum.inl (s.1, decN nRul q4 fun i => encN nRul s.2.1 (q5 + i), decN nRul q3 fun i => encN nRul s.2.2.1 (q5 + i), s.2.2.2.1, s.2.2.2.2.1, s.2.2.2.2.2.1, s.2.2.2.2.2.2.1, s.2.2.2.2.2.2.2.1, q2, q1, decF rStr (List.length s.2.2.2.2.2.2.2.2.2.2.1) (encF rStr s.2.2.2.2.2.2.2.2.2.2.1), decF rStr (List.length s.2.2.2.2.2.2.2.2.2.2.2.1) (encF rStr s.2.2.2.2.2.2.2.2.2.2.2.1), PUnit.unit)))) := fun s x => by kernel_rfl
end Go.Proofs.YtkpligkggnjcoaaGreatDoor
/-! TF2 -/
namespace Go.Proofs.YtkpligkggnjcoaaGreatDoor
open Ev K
set_option maxRecDepth 100000
namespace K
abbrev smT := (Nat × Int × Int × Nat × Int × Int × Spn) × List Rul × List Rul × Spn × Str × Str × Int × Bool × Str × Str × List Str × List Str × Unit
def smM (s : smT) : Option Int := firstD s.2.1 s.2.2.1 s.1.2.2.2.2.2.2.lo s.1.2.2.2.2.2.2.hi s.2.2.2.2.2.2.2.2.1 s.2.2.2.2.2.2.2.2.2.1
def smOk (s : smT) : Prop := (checkT s.2.1 = 0 ∧ checkT s.2.2.1 = 0) ∧ spanL s.1.2.2.2.2.2.2 = 0
instance (s : smT) : Decidable (smOk s) := by unfold smOk; infer_instance
theorem fold_sm (s : smT) (h1 : checkT s.2.1 = 0) (h2 : checkT s.2.2.1 = 0) : ∀ M : List Int, (∀ x ∈ M, 0 ≤ x ∧ x ≤ 65536) →
    foldS st_sm M s = some (match M.find? fun m => penceL s.2.1 s.2.2.2.2.2.2.2.2.1 s.2.2.2.2.2.2.2.2.2.1 m != penceL s.2.2.1 s.2.2.2.2.2.2.2.2.1 s.2.2.2.2.2.2.2.2.2.1 m with
      | some m => .inr ((), s.2.2.2.2.2.2.2.2.1, s.2.2.2.2.2.2.2.2.2.1, m, false, ())
      | none => .inl s) := by
  intro M
  induction M with
  | nil => intro _; rfl
  | cons x M ih =>
    intro hM
    have hx := hM x (List.mem_cons_self ..)
    have e : st_sm s x = some (if penceL s.2.1 s.2.2.2.2.2.2.2.2.1 s.2.2.2.2.2.2.2.2.2.1 x != penceL s.2.2.1 s.2.2.2.2.2.2.2.2.1 s.2.2.2.2.2.2.2.2.2.1 x then .inr ((), s.2.2.2.2.2.2.2.2.1, s.2.2.2.2.2.2.2.2.2.1, x, false, ()) else .inl s) := by
      rw [rg_sm]
      simp only [Nat.zero_add, decN_encN, decF_encF]
      refine chk_step (decide_eq_true ⟨h1, hx⟩) (chk_step (decide_eq_true ⟨h2, hx⟩) ?_)
      by_cases hp : (penceL s.2.1 s.2.2.2.2.2.2.2.2.1 s.2.2.2.2.2.2.2.2.2.1 x != penceL s.2.2.1 s.2.2.2.2.2.2.2.2.1 s.2.2.2.2.2.2.2.2.2.1 x) = true
      · rw [if_pos hp]; exact br_t hp rfl
      · rw [if_neg hp]; exact br_f (Bool.eq_false_iff.2 hp) rfl
    simp only [foldS, e]
    by_cases hp : (penceL s.2.1 s.2.2.2.2.2.2.2.2.1 s.2.2.2.2.2.2.2.2.2.1 x != penceL s.2.2.1 s.2.2.2.2.2.2.2.2.1 s.2.2.2.2.2.2.2.2.2.1 x) = true
    · rw [if_pos hp, List.find?_cons_of_pos (l := M) (p := fun m => penceL s.2.1 s.2.2.2.2.2.2.2.2.1 s.2.2.2.2.2.2.2.2.2.1 m != penceL s.2.2.1 s.2.2.2.2.2.2.2.2.1 s.2.2.2.2.2.2.2.2.2.1 m) hp]
    · rw [if_neg hp, List.find?_cons_of_neg (l := M) (p := fun m => penceL s.2.1 s.2.2.2.2.2.2.2.2.1 s.2.2.2.2.2.2.2.2.2.1 m != penceL s.2.2.1 s.2.2.2.2.2.2.2.2.1 s.2.2.2.2.2.2.2.2.2.1 m) hp]
      exact ih fun y hy => hM y (List.mem_cons_of_mem _ hy)
theorem chk_of {ρ : Type} {p : Prop} [Decidable p] {t : T ρ} {r : ρ} (h : (T.chk (decide p) t).run = some r) : p := by
  by_cases hp : p
  · exact hp
  · rw [decide_eq_false hp] at h; cases h
theorem sm_ok (s : smT) (r) (h : (T.chk (decide (smOk s)) (.br (smM s).isSome (.ret (.inr ((), s.2.2.2.2.2.2.2.2.1, s.2.2.2.2.2.2.2.2.2.1, (smM s).getD 0, false, ()))) (.ret (.inl s)))).run = some r) :
    foldS st_sm (masses s.1.2.2.2.2.2.2.lo s.1.2.2.2.2.2.2.hi) s = some r := by
  by_cases hk : decide (smOk s) = true
  · have g := of_decide_eq_true hk
    obtain ⟨⟨g1, g2⟩, g4⟩ := g
    obtain ⟨b1, b2, b3, b4⟩ := span_ok g4
    rw [fold_sm s g1 g2 _ (fun x hx => by have := masses_in hx; omega)]
    have h2 := (chk_step (t := .br (smM s).isSome (.ret (Sum.inr ((), s.2.2.2.2.2.2.2.2.1, s.2.2.2.2.2.2.2.2.2.1, (smM s).getD 0, false, ()))) (.ret (Sum.inl s))) hk rfl).symm.trans h
    rw [← h2]
    show some (match smM s with | some m => _ | none => _) = _
    cases smM s <;> rfl
  · have : (T.chk (decide (smOk s)) (.br (smM s).isSome (.ret (Sum.inr ((), s.2.2.2.2.2.2.2.2.1, s.2.2.2.2.2.2.2.2.2.1, (smM s).getD 0, false, ()))) (.ret (Sum.inl s)))).run = none := by
      rw [Bool.eq_false_iff.2 hk]; rfl
    rw [this] at h; cases h
end K
noncomputable def BTF21 : Tab := BTD72.addNode 91 73 (rangeE [36, 6, 7, 8, 9, 11, 4, 3, 5, 29, 18, 19, 20, 30, 31, 13] S_sm X_sm (fun s => .chk (decide (K.smOk s)) (.br (K.smM s).isSome (.ret (.inr ((), s.2.2.2.2.2.2.2.2.1, s.2.2.2.2.2.2.2.2.2.1, (K.smM s).getD 0, false, ()))) (.ret (.inl s)))))
theorem tTF21 : TabOk P BTF21 := TabOk.addRange (d := 30) (enc := eInt) (L := (fun s => K.masses s.1.2.2.2.2.2.2.lo s.1.2.2.2.2.2.2.hi)) okP tTD72 (by kernel_rfl) (by kernel_rfl) (fun s r h => ⟨_, _, _, (by kernel_rfl : _ = some (165, [], V_ea.enc s.1.2.2.2.2.2.2)), by have b := K.span_ok (K.chk_of h).2; exact icl_ea _ b.1 b.2.2.1⟩) (fun s r h => K.sm_ok s r h)
def O_s2 : DecB (List Rul × List Rul × Spn × Str × Str × Int × Bool × Str × List Str × List Str × Unit) := .flat 25 lTar (.flat 25 lTar (.flat 53 lSpn (.flat 9 lS1 (.flat 9 lS1 (.flat 3 lI1 (.flat 4 lB1 (.flat 9 lS1 (.rows 9 rStr (.rows 9 rStr .nil)))))))))
def O_s1 : DecB (List Rul × List Rul × Spn × Str × Str × Int × Bool × List Str × Unit) := .flat 25 lTar (.flat 25 lTar (.flat 53 lSpn (.flat 9 lS1 (.flat 9 lS1 (.flat 3 lI1 (.flat 4 lB1 (.rows 9 rStr .nil)))))))
def S_s2 := DecS.mk0 (.skips 3 (.unit (dLp 0 0 0 0) (.unit (dLp 1 0 0 0) (.unit (dLp 2 0 0 0) (.unit (dLp 3 0 0 0) (.unit (dLp 4 0 0 0) (.unit (dLp 5 0 0 0) (.unit (dLp 6 0 0 0) (.skip (.unit (dLp 7 0 0 0) (.skips 6 (.cons (dO 8) (.cons (dInt) (.cons (dInt) (.skips 8 (.cons (dO 9) (.cons (dInt) (.last (dInt) 26)))))))))))))))))) O_s2
def X_s2 := DecX.or (DecX.one (.exit 2) [6, 7, 8, 9, 4, 3, 5, 18, 19, 20] (DecS.mk0 (.skips 3 (.unit (dLp 0 0 0 0) (.unit (dLp 1 0 0 0) (.unit (dLp 2 0 0 0) (.unit (dLp 3 0 0 0) (.unit (dLp 4 0 0 0) (.unit (dLp 5 0 0 0) (.unit (dLp 6 0 0 0) (.skips 8 (.cons (dO 7) (.cons (dInt) (.last (dInt) 37)))))))))))) O_s1)) X_sm
noncomputable def K.st_s2 := loopT1 P BTF21 30 91 49 [31, 6, 7, 8, 9, 11, 4, 3, 5, 29, 18, 19, 20, 30] S_s2 X_s2
theorem sl_s2 : ∀ s, (K.st_s2) s = T.run (
 let q6 := s.1.2.2.2.2.2;
 let q11 := List.length s.2.1;
 let q10 := List.length s.2.2.1;
 let q13 := s.2.2.2.2.2.2.2.1;
 let q12 := s.2.2.2.2.2.2.2.2.1;
 let q2 := s.2.2.2.2.2.2.2.2.2.2.1;
 let q9 := encF rStr q2 (Int.toNat q6) (0 : Nat);
 let q3 := s.2.2.2.2.2.2.2.2.2.1;
 let q1 := ((s.1.1, s.1.2.1, s.1.2.2.1, s.1.2.2.2.1, s.1.2.2.2.2.1, q6, s.2.2.2.1), decN nRul q11 fun i => encN nRul s.2.1 ((0 : Nat) + i), decN nRul q10 fun i => encN nRul s.2.2.1 ((0 : Nat) + i), s.2.2.2.1, s.2.2.2.2.1, s.2.2.2.2.2.1, s.2.2.2.2.2.2.1, q13, q12, textOf q9, decF rStr (List.length q3) (encF rStr q3), decF rStr (List.length q2) (encF rStr q2), PUnit.unit);
 let q4 := decN nRul q10 fun i => encN nRul s.2.2.1 ((0 : Nat) + i);
 let q5 := decN nRul q11 fun i => encN nRul s.2.1 ((0 : Nat) + i);
 let q7 := decF rStr (List.length q3) (encF rStr q3);
 let q8 := decF rStr (List.length q2) (encF rStr q2);
  .br (decide (q6 < s.1.2.2.2.2.1)) (
    .chk (decide ((0 : Int) ≤ q6 ∧ q6 < (↑s.1.2.2.2.1 : Int))) <|
    .chk (decide (smOk q1)) <|
    .br (match smM q1 with
| some _val => true
| none => false) (
      .ret (Sum.inr (Sum.inr (PUnit.unit, q12, textOf q9, Option.getD (smM q1) (0 : Int), false, PUnit.unit)))) (
      .ret (Sum.inl ((s.1.1, s.1.2.1, s.1.2.2.1, s.1.2.2.2.1, s.1.2.2.2.2.1, IntKind.wrap IntKind.i64 (q6 + (1 : Int))), decN nRul (List.length q5) fun i => encN nRul q5 ((0 : Nat) + i), decN nRul (List.length q4) fun i => encN nRul q4 ((0 : Nat) + i), s.2.2.2.1, s.2.2.2.2.1, s.2.2.2.2.2.1, s.2.2.2.2.2.2.1, q13, q12, decF rStr (List.length q7) (encF rStr q7), decF rStr (List.length q8) (encF rStr q8), PUnit.unit)))) (
    .ret (Sum.inr (Sum.inl ((s.1.1, s.1.2.1, s.1.2.2.1), decN nRul q11 fun i => encN nRul s.2.1 ((0 : Nat) + i), decN nRul q10 fun i => encN nRul s.2.2.1 ((0 : Nat) + i), s.2.2.2.1, s.2.2.2.2.1, s.2.2.2.2.2.1, s.2.2.2.2.2.2.1, q13, decF rStr (List.length q3) (encF rStr q3), PUnit.unit))))) := fun s => by kernel_rfl
end Go.Proofs.YtkpligkggnjcoaaGreatDoor
/-! TF3 -/
namespace Go.Proofs.YtkpligkggnjcoaaGreatDoor
open Ev K
set_option maxRecDepth 100000
namespace K
theorem findSome_map {α β γ : Type} (f : α → β) (g : β → Option γ) : ∀ l : List α, (l.map f).findSome? g = l.findSome? fun a => g (f a)
  | [] => rfl
  | a :: l => by rw [List.map_cons, List.findSome?_cons, List.findSome?_cons, findSome_map f g l]
theorem range_findSome {α β : Type} (f : α → Option β) : ∀ l : List α, ((List.range l.length).findSome? fun i => (l[i]?).bind f) = l.findSome? f
  | [] => rfl
  | a :: l => by
    rw [List.length_cons, List.range_succ_eq_map, List.findSome?_cons, List.findSome?_cons, findSome_map]
    have ih := range_findSome f l
    simp only [List.getElem?_cons_zero, Option.bind_some, List.getElem?_cons_succ]
    rw [ih]
noncomputable def L_s2 := lim st_s2
def gAt (A B : List Rul) (sp : Spn) (due : Str) (g : Str) : Option (Str × Int) := (firstD A B sp.lo sp.hi due g).map fun m => (g, m)
theorem L_s2_eq (A B : List Rul) (sp : Spn) (due : Str) (gs ds : List Str) (hA : checkT A = 0) (hB : checkT B = 0) (hs : spanL sp = 0) (hg : gs.length ≤ 1000000) (nd : Nat) (n i : Int) (x6 x7 : Str) (x8 : Int) (x9 : Bool) :
    L_s2 ((nd, n, i, gs.length, (gs.length : Int), 0), A, B, sp, x6, x7, x8, x9, due, ds, gs, ()) = some (orr (fun q : Str × Int => .inr ((), due, q.1, q.2, false, ())) (.inl ((nd, n, i), A, B, sp, x6, x7, x8, x9, ds, ())) (gs.findSome? (gAt A B sp due))) := by
  rw [← range_findSome]
  refine lim_err (fun j : Nat => ((nd, n, i, gs.length, (gs.length : Int), (j : Int)), A, B, sp, x6, x7, x8, x9, due, ds, gs, ())) gs.length (fun j => (gs[j]?).bind (gAt A B sp due)) (fun q : Str × Int => Sum.inr ((), due, q.1, q.2, false, ())) (Sum.inl ((nd, n, i), A, B, sp, x6, x7, x8, x9, ds, ())) (fun j hj => ?_) ?_
  · have hx := List.getElem?_eq_getElem hj
    generalize gs[j] = g at hx
    rw [sl_s2, hx]
    simp only [Nat.zero_add, decF_encF, decN_encN, Int.toNat_natCast, str_at hx, Option.bind_some]
    refine br_t (decide_eq_true (by omega)) (chk_step (decide_eq_true (by omega)) (chk_step (decide_eq_true ⟨⟨hA, hB⟩, hs⟩) ?_))
    unfold smM gAt
    simp only [show textOf (rStr.wr g 0) = g from rfl]
    cases firstD A B sp.lo sp.hi due g with
    | none => refine br_f rfl ?_; rw [wi j (by omega)]; rfl
    | some m => exact br_t rfl rfl
  · rw [sl_s2]
    simp only [Nat.zero_add, decF_encF, decN_encN]
    exact br_f (decide_eq_false (by omega)) rfl
end K
noncomputable def BTF31 : Tab := BTF21.addNode 91 49 (nodeE [31, 6, 7, 8, 9, 11, 4, 3, 5, 29, 18, 19, 20, 30] S_s2 X_s2 (fun s => .obs (K.L_s2 s) .ret))
theorem tTF31 : TabOk P BTF31 := TabOk.addLoop (d := 30) okP tTF21 (by kernel_rfl) (by kernel_rfl) (fun s r h => obs_ret h)
def S_s1 := DecS.mk0 (.skips 3 (.unit (dLp 0 0 0 0) (.unit (dLp 1 0 0 0) (.unit (dLp 2 0 0 0) (.unit (dLp 3 0 0 0) (.unit (dLp 4 0 0 0) (.unit (dLp 5 0 0 0) (.unit (dLp 6 0 0 0) (.skips 8 (.cons (dO 7) (.cons (dInt) (.last (dInt) 37)))))))))))) O_s1
noncomputable def K.st_s1 := loopT1 P BTF31 30 91 25 [6, 7, 8, 9, 4, 3, 5, 20, 18, 19] S_s1 X_sm
theorem sl_s1 : ∀ s, (K.st_s1) s = T.run (
 let q4 := List.length s.2.1;
 let q3 := List.length s.2.2.1;
 let q1 := gradesAB' (decN nRul q4 fun i => encN nRul s.2.1 (nat_lit 0 + i), decN nRul q3 fun i => encN nRul s.2.2.1 (nat_lit 0 + i));
 let q2 := (1 : Nat) + List.length q1;
 let q5 := s.2.2.2.2.2.2.2.2.1;
  .br (decide (s.1.2.2 < s.1.2.1)) (
    .chk (decide ((0 : Int) ≤ s.1.2.2 ∧ s.1.2.2 < (↑s.1.1 : Int))) <|
    .chk (decide (checkT (decN nRul q4 fun i => encN nRul s.2.1 (nat_lit 0 + i)) = (0 : Int) ∧ checkT (decN nRul q3 fun i => encN nRul s.2.2.1 (nat_lit 0 + i)) = (0 : Int))) <|
    .chk (decide (q2 * (16 : Nat) ≤ (140737488355328 : Nat) ∧ (1 : Nat) + List.length q1 ≤ nat_lit 9223372036854775807)) <|
    .obs (L_s2 ((s.1.1, s.1.2.1, s.1.2.2, (1 : Nat) + List.length q1, (↑q2 : Int), (0 : Int)), decN nRul q4 fun i => encN nRul s.2.1 ((0 : Nat) + i), decN nRul q3 fun i => encN nRul s.2.2.1 ((0 : Nat) + i), s.2.2.2.1, s.2.2.2.2.1, s.2.2.2.2.2.1, s.2.2.2.2.2.2.1, s.2.2.2.2.2.2.2.1, textOf (encF rStr q5 (Int.toNat s.1.2.2) (0 : Nat)), decF rStr (List.length q5) (encF rStr q5), decF rStr q2 (appG (1 : Nat) (fun _x _x_1 => AV.str []) (encF rStr q1)), PUnit.unit)) fun x0 =>
      .sum (x0) (fun x1 =>
        .ret (Sum.inl ((x1.1.1, x1.1.2.1, IntKind.wrap IntKind.i64 (x1.1.2.2 + (1 : Int))), decN nRul (List.length x1.2.1) fun i => encN nRul x1.2.1 ((0 : Nat) + i), decN nRul (List.length x1.2.2.1) fun i => encN nRul x1.2.2.1 ((0 : Nat) + i), x1.2.2.2.1, x1.2.2.2.2.1, x1.2.2.2.2.2.1, x1.2.2.2.2.2.2.1, x1.2.2.2.2.2.2.2.1, decF rStr (List.length x1.2.2.2.2.2.2.2.2.1) (encF rStr x1.2.2.2.2.2.2.2.2.1), PUnit.unit))) (fun x1 =>
        .ret (Sum.inr (PUnit.unit, x1.2.1, x1.2.2.1, x1.2.2.2.1, x1.2.2.2.2.1, PUnit.unit)))) (
    .ret (Sum.inr (PUnit.unit, s.2.2.2.2.1, s.2.2.2.2.2.1, s.2.2.2.2.2.2.1, s.2.2.2.2.2.2.2.1, PUnit.unit)))) := fun s => by kernel_rfl
end Go.Proofs.YtkpligkggnjcoaaGreatDoor
/-! TF4 -/
namespace Go.Proofs.YtkpligkggnjcoaaGreatDoor
open Ev K
set_option maxRecDepth 100000
namespace K
noncomputable def L_s1 := lim st_s1
theorem consG (l : List Str) : decF rStr (1 + l.length) (appG 1 (fun _ _ => AV.str []) (encF rStr l)) = [] :: l := by
  have e : decF rStr (1 + l.length) (appG 1 (fun _ _ => AV.str []) (encF rStr l)) = decF rStr (1 + l.length) (appG 1 (encF rStr [([] : Str)]) (encF rStr l)) := by
    unfold decF
    refine List.map_congr_left fun i _ => ?_
    cases i with
    | zero => rfl
    | succ i => rfl
  exact e.trans ((decF_app rStr [([] : Str)] l.length (encF rStr l)).trans (by rw [decF_encF]; rfl))
theorem gradesAB_eq (A B : List Rul) : gradesAB A B = [] :: gradesAB' (A, B) := rfl
theorem setS_le (l : List Str) : (setS l).length ≤ l.length := by
  have h2 : ∀ (s : Str) (acc : List Str), (putS acc s).length ≤ acc.length + 1 := by
    intro s acc
    induction acc with
    | nil => exact Nat.le_refl _
    | cons y ys ih =>
      simp only [putS]
      split
      · simp only [List.length_cons]; omega
      · split <;> simp only [List.length_cons] <;> omega
  have key : ∀ (L acc : List Str), (L.foldl putS acc).length ≤ acc.length + L.length := by
    intro L
    induction L with
    | nil => intro acc; simp
    | cons s L ih =>
      intro acc
      have h1 := ih (putS acc s)
      have h3 := h2 s acc
      rw [List.foldl_cons, List.length_cons]; omega
  have := key l []
  simpa [setS] using this
theorem gradesAB_len (A B : List Rul) (hA : checkT A = 0) (hB : checkT B = 0) : (gradesAB' (A, B)).length ≤ 1000 := by
  have h1 := (grs_okL hA).2
  have h2 := (grs_okL hB).2
  have h3 := setS_le (A.flatMap (·.grades) ++ B.flatMap (·.grades))
  rw [List.length_append] at h3
  exact Nat.le_trans h3 (by omega)
def dAt (A B : List Rul) (sp : Spn) (due : Str) : Option (Str × Str × Int) := ((gradesAB A B).findSome? (gAt A B sp due)).map fun q => (due, q.1, q.2)
theorem L_s1_eq (A B : List Rul) (sp : Spn) (ds : List Str) (hA : checkT A = 0) (hB : checkT B = 0) (hs : spanL sp = 0) (hd : ds.length ≤ 1000000) (x6 x7 : Str) (x8 : Int) (x9 : Bool) :
    L_s1 ((ds.length, (ds.length : Int), 0), A, B, sp, x6, x7, x8, x9, ds, ()) = some (orr (fun q : Str × Str × Int => ((), q.1, q.2.1, q.2.2, false, ())) ((), x6, x7, x8, x9, ()) (ds.findSome? (dAt A B sp))) := by
  rw [← range_findSome]
  refine lim_err (fun j : Nat => ((ds.length, (ds.length : Int), (j : Int)), A, B, sp, x6, x7, x8, x9, ds, ())) ds.length (fun j => (ds[j]?).bind (dAt A B sp)) (fun q : Str × Str × Int => ((), q.1, q.2.1, q.2.2, false, ())) ((), x6, x7, x8, x9, ()) (fun j hj => ?_) ?_
  · have hx := List.getElem?_eq_getElem hj
    generalize ds[j] = due at hx
    have hl := gradesAB_len A B hA hB
    rw [sl_s1, hx]
    simp only [Nat.zero_add, decF_encF, decN_encN, Int.toNat_natCast, str_at hx, Option.bind_some, show textOf (rStr.wr due 0) = due from rfl, consG]
    refine br_t (decide_eq_true (by omega)) (chk_step (decide_eq_true (by omega)) (chk_step (decide_eq_true ⟨hA, hB⟩) (chk_step (decide_eq_true (by omega)) ?_)))
    have h := L_s2_eq A B sp due (gradesAB A B) ds hA hB hs (by rw [gradesAB_eq, List.length_cons]; omega) ds.length (ds.length : Int) (j : Int) x6 x7 x8 x9
    have e : (gradesAB A B).length = 1 + (gradesAB' (A, B)).length := by rw [gradesAB_eq, List.length_cons]; omega
    rw [e] at h
    refine obs_step h ?_
    unfold dAt
    cases (gradesAB A B).findSome? (gAt A B sp due) with
    | none => refine (T.run_inl _ _ _).trans ?_; rw [wi j (by omega)]; rfl
    | some m => exact (T.run_inr _ _ _).trans rfl
  · rw [sl_s1]
    simp only [Nat.zero_add, decF_encF, decN_encN]
    exact br_f (decide_eq_false (by omega)) rfl
theorem dAt_eq (A B : List Rul) (sp : Spn) : (duesAB A B).findSome? (dAt A B sp) = differL A B sp.lo sp.hi := by
  unfold differL
  congr 1
  funext d
  unfold dAt gAt
  generalize gradesAB A B = G
  induction G with
  | nil => rfl
  | cons g G ih =>
    rw [List.findSome?_cons, List.findSome?_cons]
    cases firstD A B sp.lo sp.hi d g with
    | none => exact ih
    | some m => rfl
end K
noncomputable def BTF41 : Tab := BTF31.addNode 91 25 (nodeE [6, 7, 8, 9, 4, 3, 5, 20, 18, 19] S_s1 X_sm (fun s => .obs (K.L_s1 s) .ret))
theorem tTF41 : TabOk P BTF41 := TabOk.addLoop (d := 30) okP tTF31 (by kernel_rfl) (by kernel_rfl) (fun s r h => obs_ret h)
def D_sm := DecL.cons dTar (.cons dTar (.last dSpn 0))
def R_sm := dTup (.cons dS (.cons dS (.cons dInt (.last dB 0))))
theorem fn_sm : ∀ a, (callT1 P BTF41 30 91 D_sm R_sm) a = T.run (
 let q3 := decN nRul (List.length a.1) fun i => encN nRul a.1 (nat_lit 0 + i);
 let q2 := decN nRul (List.length a.2.1) fun i => encN nRul a.2.1 (nat_lit 0 + i);
 let q1 := duesAB q3 q2;
  .chk (decide (checkT q3 = (0 : Int) ∧ checkT q2 = (0 : Int))) <|
  .obs (L_s1 ((List.length q1, (↑(List.length q1) : Int), (0 : Int)), decN nRul (List.length a.1) fun i => encN nRul a.1 ((0 : Nat) + i), decN nRul (List.length a.2.1) fun i => encN nRul a.2.1 ((0 : Nat) + i), a.2.2, [], [], (0 : Int), true, decF rStr (List.length q1) (encF rStr q1), PUnit.unit)) fun x0 =>
    .ret ((x0.2.1, x0.2.2.1, x0.2.2.2.1, x0.2.2.2.2.1))) := fun a => by kernel_rfl
end Go.Proofs.YtkpligkggnjcoaaGreatDoor
/-! TF5 -/
namespace Go.Proofs.YtkpligkggnjcoaaGreatDoor
open Ev K
set_option maxRecDepth 100000
namespace K
def difV : Option (Str × Str × Int) → Str × Str × Int × Bool
  | none => ([], [], 0, true)
  | some (d, g, m) => (d, g, m, false)
def sm1Ok (a : List Rul × List Rul × Spn) : Prop := (checkT a.1 = 0 ∧ checkT a.2.1 = 0) ∧ spanL a.2.2 = 0
instance (a : List Rul × List Rul × Spn) : Decidable (sm1Ok a) := by unfold sm1Ok; infer_instance
theorem duesAB_len (A B : List Rul) (hA : checkT A = 0) (hB : checkT B = 0) : (duesAB A B).length ≤ 1000 := by
  have h3 := setS_le (A.map (·.due) ++ B.map (·.due))
  have h1 := (checkT_ok hA).1
  have h2 := (checkT_ok hB).1
  rw [List.length_append, List.length_map, List.length_map] at h3
  exact Nat.le_trans h3 (by omega)
theorem same_ok (a : List Rul × List Rul × Spn) (r) (h : (T.chk (decide (sm1Ok a)) (.ret (difV (differL a.1 a.2.1 a.2.2.lo a.2.2.hi)))).run = some r) : callT1 P BTF41 30 91 D_sm R_sm a = some r := by
  obtain ⟨g, e⟩ := chk_ret h
  subst e
  obtain ⟨⟨g1, g2⟩, g3⟩ := of_decide_eq_true g
  obtain ⟨A, B, sp⟩ := a
  simp only at g1 g2 g3
  have hl := duesAB_len A B g1 g2
  rw [fn_sm]
  simp only [Nat.zero_add, decF_encF, decN_encN]
  refine chk_step (decide_eq_true ⟨g1, g2⟩) (obs_step (L_s1_eq A B sp _ g1 g2 g3 (by omega) _ _ _ _) ?_)
  rw [dAt_eq]
  cases differL A B sp.lo sp.hi with
  | none => rfl
  | some q => rfl
end K
noncomputable def BTF51 : Tab := BTF41.addCall 91 (callE D_sm R_sm (fun a => .chk (decide (K.sm1Ok a)) (.ret (K.difV (K.differL a.1 a.2.1 a.2.2.lo a.2.2.hi)))))
theorem tTF51 : TabOk P BTF51 := TabOk.addPC tTF41 (fun a r h => call_of okP tTF41 (K.same_ok a r h))
def R_sam := dTup (.cons dS (.cons dS (.cons dInt (.cons dB (.last dInt 0)))))
theorem fn_sam : ∀ a, (callT1 P BTF51 30 30 D_sm R_sam) a = T.run (
 let q5 := decN nRul (List.length a.1) fun i => encN nRul a.1 ((0 : Nat) + i);
 let q4 := decN nRul (List.length a.2.1) fun i => encN nRul a.2.1 ((0 : Nat) + i);
 let q1 := difV (differL q5 q4 (Spn.lo a.2.2) (Spn.hi a.2.2));
 let q2 := decide (sm1Ok (decN nRul (List.length a.1) fun i => encN nRul a.1 ((0 : Nat) + i), decN nRul (List.length a.2.1) fun i => encN nRul a.2.1 ((0 : Nat) + i), a.2.2));
 let q6 := (0 : Int);
 let q3 := (q1.1, q1.2.1, q1.2.2.1, q1.2.2.2, q6);
 let q7 : T _ := .chk q2 <|
        .ret q3;
  .br (checkT q5 != q6) (
    .br (checkT q5 != q6) (
      .ret (([], [], q6, false, checkT q5))) (
      .chk q2 <|
      .ret q3)) (
    .br (checkT q4 != q6) (
      .br (checkT q4 != q6) (
        .ret (([], [], q6, false, checkT q4))) q7) (
      .br (spanL a.2.2 != q6) (
        .br (spanL a.2.2 != q6) (
          .ret (([], [], q6, false, spanL a.2.2))) (
          .chk q2 <|
          .ret q3)) q7))) := fun a => by kernel_rfl
def O_sp : DecB (List Rul × Spn × List Int × Unit) := .flat 25 lTar (.flat 53 lSpn (.rows 3 rInt .nil))
def S_sp := DecS.ghost 7 3 1 [.int .i64] (DecS.mk0 (.skips 2 (.unit (dLp 0 0 0 0) (.unit (dLp 1 0 0 0) (.skips 3 (.cons (dO 2) (.skips 16 (.cons (dInt) (.last (dInt) 20)))))))) O_sp)
def X_sp := DecX.one (.exit 0) [7] (DecS.mk0 (.skips 7 (.last (dO 0) 38)) (.rows 3 rInt .nil))
noncomputable def K.st_sp := loopT1 P BTF51 30 32 49 [25, 7, 3, 2, 24] S_sp X_sp
theorem sl_sp : ∀ s, (K.st_sp) s = T.run (
 let q2 := List.length s.2.1;
 let q5 := (0 : Nat);
 let q1 := decN nRul q2 fun i => encN nRul s.2.1 (q5 + i);
 let q3 := s.2.2.2.1;
 let q4 := eraseR q1 s.1.2.2;
  .br (decide (s.1.2.2 < s.1.2.1)) (
    .chk (decide (woOk (decN nRul q2 fun i => encN nRul s.2.1 (q5 + i), s.1.2.2))) <|
    .chk (decide (sm1Ok (decN nRul q2 fun i => encN nRul s.2.1 (q5 + i), decN nRul (List.length q4) fun i => encN nRul q4 (q5 + i), s.2.2.1))) <|
    .br (Prod.snd (Prod.snd (Prod.snd (difV (differL q1 (decN nRul (List.length q4) fun i => encN nRul q4 (q5 + i)) (Spn.lo s.2.2.1) (Spn.hi s.2.2.1)))))) (
      .chk (decide ((List.length q3 + (1 : Nat)) * (8 : Nat) ≤ (140737488355328 : Nat) ∧ List.length q3 + (1 : Nat) ≤ nat_lit 9223372036854775807)) <|
      .ret (Sum.inl ((List.length q3 + (1 : Nat), s.1.2.1, IntKind.wrap IntKind.i64 (s.1.2.2 + (1 : Int))), decN nRul q2 fun i => encN nRul s.2.1 (q5 + i), s.2.2.1, decF rInt (List.length q3 + (1 : Nat)) (appG (List.length q3) (encF rInt q3) fun i k => Option.getD [AV.int IntKind.i64 s.1.2.2][(q5 + i) * (1 : Nat) + k]? AV.top), PUnit.unit))) (
      .ret (Sum.inl ((s.1.1, s.1.2.1, IntKind.wrap IntKind.i64 (s.1.2.2 + (1 : Int))), decN nRul q2 fun i => encN nRul s.2.1 (q5 + i), s.2.2.1, decF rInt (List.length q3) (encF rInt q3), PUnit.unit)))) (
    .ret (Sum.inr (s.1.1, decF rInt (List.length q3) (encF rInt q3), PUnit.unit)))) := fun s => by kernel_rfl
noncomputable def K.L_sp := lim K.st_sp
noncomputable def BTF52 : Tab := BTF51.addNode 32 49 (nodeE [25, 7, 3, 2, 24] S_sp X_sp (fun s => .obs (K.L_sp s) .ret))
theorem tTF52 : TabOk P BTF52 := TabOk.addLoop (d := 30) okP tTF51 (by kernel_rfl) (by kernel_rfl) (fun s r h => obs_ret h)
def D_spa := DecL.cons dTar (.last dSpn 0)
theorem fn_sp : ∀ a, (callT1 P BTF52 30 32 D_spa R_res) a = T.run (
 let q5 := (0 : Nat);
 let q6 := List.length a.1;
 let q4 := (0 : Int);
 let q1 := L_sp ((q5, (↑(clampL q6) : Int), q4), decN nRul q6 fun i => encN nRul a.1 (q5 + i), a.2, decF rInt q5 fun _x _x_1 => AV.top, PUnit.unit);
 let q2 := decN nRul q6 fun i => encN nRul a.1 (q5 + i);
 let q3 : T _ := .obs q1 fun x0 =>
        .ret ((decF rInt (List.length x0.2.1) fun i => encF rInt x0.2.1 (q5 + i), q4));
  .br (checkT q2 != q4) (
    .br (checkT q2 != q4) (
      .ret (([], checkT q2))) q3) (
    .br (spanL a.2 != q4) (
      .br (spanL a.2 != q4) (
        .ret (([], spanL a.2))) (
        .obs q1 fun x0 =>
          .ret ((decF rInt (List.length x0.2.1) fun i => encF rInt x0.2.1 (q5 + i), q4)))) q3)) := fun a => by kernel_rfl
end Go.Proofs.YtkpligkggnjcoaaGreatDoor
/-! TF6 -/
namespace Go.Proofs.YtkpligkggnjcoaaGreatDoor
open Ev K
set_option maxRecDepth 100000
namespace K
def errM (A B : List Rul) (a : Spn) : Int := if checkT A ≠ 0 then checkT A else if checkT B ≠ 0 then checkT B else spanL a
def sameV (A B : List Rul) (a : Spn) : Str × Str × Int × Bool × Int := if errM A B a ≠ 0 then ([], [], 0, false, errM A B a) else ((difV (differL A B a.lo a.hi)).1, (difV (differL A B a.lo a.hi)).2.1, (difV (differL A B a.lo a.hi)).2.2.1, (difV (differL A B a.lo a.hi)).2.2.2, 0)
theorem sam_eq (a : List Rul × List Rul × Spn) : callT1 P BTF51 30 30 D_sm R_sam a = some (sameV a.1 a.2.1 a.2.2) := by
  rw [fn_sam]
  simp only [Nat.zero_add, decN_encN]
  unfold sameV errM
  by_cases h1 : checkT a.1 = 0
  · rw [if_neg (show ¬ (checkT a.1 ≠ 0) from fun k => k h1)]
    refine br_f (by rw [h1]; rfl) ?_
    by_cases h2 : checkT a.2.1 = 0
    · rw [if_neg (show ¬ (checkT a.2.1 ≠ 0) from fun k => k h2)]
      refine br_f (by rw [h2]; rfl) ?_
      by_cases h3 : spanL a.2.2 = 0
      · rw [if_neg (fun k => k h3)]
        exact br_f (by rw [h3]; rfl) (chk_step (decide_eq_true ⟨⟨h1, h2⟩, h3⟩) rfl)
      · rw [if_pos h3]
        exact br_t (bne_iff_ne.2 h3) (br_t (bne_iff_ne.2 h3) rfl)
    · rw [if_pos h2, if_pos h2]
      exact br_t (bne_iff_ne.2 h2) (br_t (bne_iff_ne.2 h2) rfl)
  · rw [if_pos h1, if_pos h1]
    exact br_t (bne_iff_ne.2 h1) (br_t (bne_iff_ne.2 h1) rfl)
def spareP (l : List Rul) (a : Spn) (i : Nat) : Bool := (differL l (l.eraseIdx i) a.lo a.hi).isNone
def spareK (l : List Rul) (a : Spn) (k : Nat) : List Int := ((List.range k).filter (spareP l a)).map fun i : Nat => (i : Int)
theorem spareK_succ (l : List Rul) (a : Spn) (k : Nat) : spareK l a (k + 1) = if spareP l a k = true then spareK l a k ++ [(k : Int)] else spareK l a k := by
  unfold spareK
  rw [List.range_succ, List.filter_append, List.map_append]
  by_cases h : spareP l a k = true
  · rw [if_pos h, List.filter_cons_of_pos h]; rfl
  · rw [if_neg h, List.filter_cons_of_neg h]; simp
theorem spareK_len (l : List Rul) (a : Spn) (k : Nat) : (spareK l a k).length ≤ k := by
  unfold spareK
  rw [List.length_map]
  have := List.length_filter_le (spareP l a) (List.range k)
  rw [List.length_range] at this; exact this
theorem L_sp_eq (l : List Rul) (a : Spn) (hl : checkT l = 0) (hs : spanL a = 0) :
    L_sp ((0, (l.length : Int), 0), l, a, [], ()) = some ((spareK l a l.length).length, spareK l a l.length, ()) := by
  obtain ⟨h1, _⟩ := checkT_ok hl
  refine lim_all (fun i : Nat => (((spareK l a i).length, (l.length : Int), (i : Int)), l, a, spareK l a i, ())) l.length (fun i hi => ?_) ?_
  · have hlen := spareK_len l a i
    have e : eraseR l (i : Int) = l.eraseIdx i := rfl
    rw [sl_sp]
    simp only [Nat.zero_add, decF_encF, decN_encN, e]
    refine br_t (decide_eq_true (by omega)) (chk_step (decide_eq_true ⟨h1, by dsimp only; omega, by dsimp only; omega⟩) (chk_step (decide_eq_true ⟨⟨hl, check_erase hl i⟩, hs⟩) ?_))
    rw [spareK_succ]
    unfold spareP
    cases differL l (l.eraseIdx i) a.lo a.hi with
    | none =>
      simp only [Option.isNone_none, if_true]
      refine br_t rfl (chk_step (decide_eq_true (by omega)) ?_)
      simp only [wi i (by omega), pushN]
      rw [List.length_append, List.length_singleton]; rfl
    | some q =>
      simp only [Option.isNone_some, Bool.false_eq_true, if_false]
      refine br_f rfl ?_
      rw [wi i (by omega)]; rfl
  · rw [sl_sp]
    simp only [decF_encF, decN_encN, Nat.zero_add]
    exact br_f (decide_eq_false (by omega)) rfl
def errP (l : List Rul) (a : Spn) : Int := if checkT l ≠ 0 then checkT l else spanL a
def spareV (l : List Rul) (a : Spn) : List Int × Int := if errP l a ≠ 0 then ([], errP l a) else (spareL l a.lo a.hi, 0)
theorem sp_eq (a : List Rul × Spn) : callT1 P BTF52 30 32 D_spa R_res a = some (spareV a.1 a.2) := by
  rw [fn_sp]
  simp only [Nat.zero_add, decF_encF, decN_encN, show decF rInt 0 (fun x x_1 => AV.top) = [] from rfl]
  unfold spareV errP
  by_cases h1 : checkT a.1 = 0
  · rw [if_neg (show ¬ (checkT a.1 ≠ 0) from fun k => k h1)]
    refine br_f (by rw [h1]; rfl) ?_
    by_cases h3 : spanL a.2 = 0
    · rw [if_neg (fun k => k h3), cl (show a.1.length ≤ 1000000 by have := (checkT_ok h1).1; omega)]
      exact br_f (by rw [h3]; rfl) (obs_step (L_sp_eq a.1 a.2 h1 h3) rfl)
    · rw [if_pos h3]
      exact br_t (bne_iff_ne.2 h3) (br_t (bne_iff_ne.2 h3) rfl)
  · rw [if_pos h1, if_pos h1]
    exact br_t (bne_iff_ne.2 h1) (br_t (bne_iff_ne.2 h1) rfl)
end K
noncomputable def BTF61 : Tab := BTF52.addCall 30 (callE D_sm R_sam (fun a => .ret (K.sameV a.1 a.2.1 a.2.2)))
theorem tTF61 : TabOk P BTF61 := TabOk.addPC tTF52 (fun a r h => by rw [← ret_some h]; exact call_of okP tTF51 (K.sam_eq a))
noncomputable def BTF62 : Tab := BTF61.addCall 32 (callE D_spa R_res (fun a => .ret (K.spareV a.1 a.2)))
theorem tTF62 : TabOk P BTF62 := TabOk.addPC tTF61 (fun a r h => by rw [← ret_some h]; exact call_of okP tTF52 (K.sp_eq a))
end Go.Proofs.YtkpligkggnjcoaaGreatDoor
/-! TU1 -/
namespace Go.Proofs.YtkpligkggnjcoaaGreatDoor
open Ev K
set_option maxRecDepth 100000
def F_line : Dec Unit := dFn 127 (.tops 0)
theorem fn_a_line : ∀ a, (callT1 P BTF62 30 127 D_u8 dB) a = T.run (
  .ret (a != (10 : Int))) := fun a => by kernel_rfl
noncomputable def K.a_line (a : Int) : Bool := a != (10 : Int)
theorem eq_a_line (a : Int) : (callT1 P BTF62 30 127 D_u8 dB) a = some (K.a_line a) := (fn_a_line a).trans rfl
noncomputable def BTU11 : Tab := BTF62.addCall 127 (callE D_u8 dB (fun a => .ret (K.a_line a)))
theorem tTU11 : TabOk P BTU11 := TabOk.addFn (d := 30) okP tTF62 (fun a r h => by rw [eq_a_line]; exact congrArg some (ret_some h))
def S_rl := DecS.mk0 (.cons (dS) (.cons (dInt) (.unit (F_line) (.tops 18)))) .nil
noncomputable def K.st_rl := loopT1 P BTU11 30 126 9 [1, 0, 2] S_rl X_run
theorem sl_rl : ∀ s, (K.st_rl) s = T.run (
  .br (decide (s.1.2.1 < (↑(List.length s.1.1) : Int))) (
    .chk (decide ((0 : Int) ≤ s.1.2.1 ∧ s.1.2.1 < (↑(List.length s.1.1) : Int))) <|
    .br (a_line (↑(↑(BitVec.toFin (UInt8.toBitVec (Option.getD s.1.1[Int.toNat s.1.2.1]? (0 : UInt8)))) : Nat) : Int)) (
      .ret (Sum.inl ((s.1.1, IntKind.wrap IntKind.i64 (s.1.2.1 + (1 : Int)), PUnit.unit), PUnit.unit))) (
      .ret (Sum.inr (s.1.2.1, PUnit.unit)))) (
    .ret (Sum.inr (s.1.2.1, PUnit.unit)))) := fun s => by kernel_rfl
noncomputable def K.L_rl := lim K.st_rl
noncomputable def BTU12 : Tab := BTU11.addNode 126 9 (nodeE [1, 0, 2] S_rl X_run (fun s => .obs (K.L_rl s) .ret))
theorem tTU12 : TabOk P BTU12 := TabOk.addLoop (d := 30) okP tTU11 (by kernel_rfl) (by kernel_rfl) (fun s r h => obs_ret h)
def D_rl := DecL.cons dS (.cons dInt (.unit F_line (.tops 0)))
theorem fn_rl : ∀ a, (callT1 P BTU12 30 126 D_rl dInt) a = T.run (
  .obs (L_rl ((a.1, a.2.1, PUnit.unit), PUnit.unit)) fun x0 =>
    .ret x0.1) := fun a => by kernel_rfl
end Go.Proofs.YtkpligkggnjcoaaGreatDoor
/-! TU2 -/
namespace Go.Proofs.YtkpligkggnjcoaaGreatDoor
open Ev K Go.Own Go.Shelf Go.RowKit
set_option maxRecDepth 100000
namespace K
def lineB (b : UInt8) : Bool := b.toNat != 10
theorem a_line_eq (b : UInt8) : a_line ((b.toNat : Nat) : Int) = lineB b := by
  unfold a_line lineB
  apply Bool.eq_iff_iff.2
  simp; omega
theorem L_rl_eq (s : Str) (hs : s.length ≤ 1000000) (i : Nat) (hi : i ≤ s.length) : L_rl ((s, (i : Int), ()), ()) = some ((runV lineB s i : Int), ()) := by
  refine run_spec (fun i : Nat => ((s, (i : Int), ()), ())) s lineB (fun i => ((i : Int), ())) (fun i b hb hp => ?_) (fun i b hb hp => ?_) ?_ (s.length - i) i (by omega)
  · have hlt := (List.getElem?_eq_some_iff.1 hb).1
    rw [sl_rl]
    simp only [Int.toNat_natCast, hb, Option.getD_some, wi i (by omega)]
    exact br_t (decide_eq_true (by omega)) (chk_step (decide_eq_true (by omega)) (br_t ((a_line_eq b).trans hp) rfl))
  · have hlt := (List.getElem?_eq_some_iff.1 hb).1
    rw [sl_rl]
    simp only [Int.toNat_natCast, hb, Option.getD_some]
    exact br_t (decide_eq_true (by omega)) (chk_step (decide_eq_true (by omega)) (br_f ((a_line_eq b).trans hp) rfl))
  · rw [sl_rl]
    exact br_f (decide_eq_false (by dsimp only; omega)) rfl
theorem rl_ok (a : Str × Int × Unit) (r : Int) (h : (M_rp lineB a).run = some r) : callT1 P BTU12 30 126 D_rl dInt a = some r := by
  obtain ⟨g, e⟩ := chk_ret h
  subst e
  obtain ⟨s, i, u⟩ := a
  obtain ⟨g1, g2, g3⟩ := of_decide_eq_true g
  obtain ⟨k, rfl⟩ : ∃ k : Nat, i = k := ⟨i.toNat, by simp only at g2; omega⟩
  rw [fn_rl]
  refine obs_step (L_rl_eq s g1 k (by simp only at g3; omega)) ?_
  simp only [Int.toNat_natCast]; rfl
end K
def D_ib := DecL.cons dS (.last (dI .u8) 0)
namespace K
theorem VRs.two_of {w : World} {A : Nat → Prop} {r : Rr} {x y : AV} {us : Array Value} (h : VRs w A r [x, y] us) : ∃ u v, us = #[u, v] ∧ VR w A r x u ∧ VR w A r y v := by
  have hs : us.size = 2 := h.1.symm
  obtain ⟨u, v, rfl⟩ : ∃ u v, us = #[u, v] := by
    have h1 : us.toList.length = 2 := by simpa using hs
    match hl : us.toList, h1 with
    | [u, v], _ => exact ⟨u, v, by apply Array.ext'; exact hl⟩
  exact ⟨u, v, rfl, h.2 0 _ u rfl rfl, h.2 1 _ v rfl rfl⟩
def ixB (a : Str × Int) : Int := Lib.indexByte a.1 a.2.toNat.toUInt8
def M_ib (a : Str × Int) : T Int := .ret (ixB a)
theorem ib_pc (a : Str × Int) (r : Int) (h : (M_ib a).run = some r) : PC P 133 (D_ib.enc a) (dInt.enc r) := by
  have e := ret_some h
  subst e
  intro ro n A w us hG hA hus
  obtain ⟨u, v, rfl, hu, hv⟩ := VRs.two_of hus
  cases hu
  cases hv
  have key := Any.strings_IndexByte Tryz.lays137 ⟨a.1.toArray⟩ a.2 w
  apply callsIn_round
  refine (callsIn_wide.2 key).mono ?_
  rintro e w' ⟨rfl, rfl⟩
  exact ⟨_, rfl, .int, Bel.refl _ _⟩
end K
noncomputable def BTU21 : Tab := BTU12.addCall 126 (callE D_rl dInt (K.M_rp K.lineB))
theorem tTU21 : TabOk P BTU21 := TabOk.addPC tTU12 (fun a r h => call_of okP tTU12 (K.rl_ok a r h))
noncomputable def BTU22 : Tab := BTU21.addCall 133 (callE D_ib dInt K.M_ib)
theorem tTU22 : TabOk P BTU22 := TabOk.addPC tTU21 (K.ib_pc)
end Go.Proofs.YtkpligkggnjcoaaGreatDoor
/-! TU3 -/
namespace Go.Proofs.YtkpligkggnjcoaaGreatDoor
open Ev K Go.Own Go.Shelf Go.RowKit
set_option maxRecDepth 100000
def dNif : Dec Unit where
  enc _ := .nilif
  dec x := match x with
    | .nilif => some ()
    | _ => none
  ok x a h w A r v hv := by
    split at h
    · exact hv
    · simp at h
def R_at := dTup (.cons dInt (.unit dNif (.tops 0)))
namespace K
def atoiV (s : Str) : Option Int := match Lib.atoiAll s with
  | .ok v => some v
  | _ => none
def atoiOk (s : Str) : Bool := (atoiV s).isSome
def atoiN (s : Str) : Int := (atoiV s).getD 0
def M_at (s : Str) : T (Int × Unit) := .chk (decide (s.length ≤ 1000000 ∧ atoiOk s = true)) (.ret (atoiN s, ()))
theorem at_pc (s : Str) (r : Int × Unit) (h : (M_at s).run = some r) : PC P 186 (D_s.enc s) (R_at.enc r) := by
  obtain ⟨g, e⟩ := chk_ret h
  subst e
  obtain ⟨g1, g2⟩ := of_decide_eq_true g
  obtain ⟨v, hv⟩ : ∃ v, Lib.atoiAll s = .ok v := by
    unfold atoiOk atoiV at g2
    cases hx : Lib.atoiAll s with
    | ok v => exact ⟨v, rfl⟩
    | «syntax» => rw [hx] at g2; cases g2
    | range => rw [hx] at g2; cases g2
  have e2 : atoiN s = v := by unfold atoiN atoiV; rw [hv]; rfl
  rw [e2]
  intro ro n A w us hG hA hus
  obtain ⟨u, rfl, hu⟩ := VRs.one_of hus
  cases hu
  have key := Any.strconv_Atoi_ok Tryz.laysC172 ⟨s.toArray⟩ (by show s.toArray.size ≤ _; simp; omega) v (by simpa using hv) w
  apply callsIn_round
  refine (callsIn_wide.2 key).mono ?_
  rintro e w' ⟨rfl, hw⟩
  refine ⟨_, rfl, ?_, ?_⟩
  · refine .tup rfl fun i x u hx hu => ?_
    match i, hx, hu with
    | 0, hx, hu =>
      injection hx with hx; injection hu with hu; subst hx; subst hu
      exact .int
    | 1, hx, hu =>
      injection hx with hx; injection hu with hu; subst hx; subst hu
      exact .nilif
    | i + 2, hx, hu => simp at hu
  · rcases hw with rfl | ⟨t, rfl⟩
    · exact Bel.refl _ _
    · exact ⟨Lib.bytesWorld_below _ _ _, dle.of (by unfold Lib.bytesWorld World.freeze; split <;> exact Nat.le_succ _)⟩
end K
noncomputable def BTU31 : Tab := BTU22.addCall 186 (callE D_s R_at K.M_at)
theorem tTU31 : TabOk P BTU31 := TabOk.addPC tTU22 (K.at_pc)
end Go.Proofs.YtkpligkggnjcoaaGreatDoor
/-! TU4 -/
namespace Go.Proofs.YtkpligkggnjcoaaGreatDoor
open Ev K
set_option maxRecDepth 100000
namespace K
structure Tok where
  kind : Int
  text : Str
  pos : Int
  deriving DecidableEq, Repr, Inhabited
end K
def V_tk : DecL Str := .last (dP 1 lS1 0) 0
def S_tk := DecS.yld (.unit (dYv) (.cons (dP 1 lS1 0) (.skip (.last (dInt) 84)))) .nil
def X_tk := DecX.or (DecX.one .ret [] (DecS.yld (.tops 88) .nil)) (DecX.one (.exit 0) [] (DecS.yld (.tops 88) .nil))
noncomputable def BTU41 : Tab := BTU31.addInl 132
theorem tTU41 : TabOk P BTU41 := TabOk.addInl tTU31
noncomputable def K.st_tk := loopT1 P BTU41 30 125 9 [3, 1, 0] S_tk X_tk
theorem sl_tk : ∀ s, (K.st_tk) s = T.run (
 let q17 := s.2.2.1;
 let q23 := (0 : Int);
 let q34 := s.1.2;
 let q28 := s.2.2.2;
 let q5 := List.length q28;
 let q1 := Sum.inr (Sum.inl (PUnit.unit, PUnit.unit, q17, ([AV.agg [AV.int IntKind.i64 q23, AV.str [], AV.int IntKind.i64 q34]], q17 q5) :: q28));
 let q2 := Int.toNat q34;
 let q20 := q34 + (1 : Int);
 let q37 := s.1.1;
 let q19 := List.length q37;
 let q27 := IntKind.wrap IntKind.i64 q20;
 let q3 := decide (q23 ≤ IntKind.wrap IntKind.i64 q20 ∧ IntKind.wrap IntKind.i64 q20 ≤ (↑q19 : Int)) && decide (q23 ≤ q34 ∧ q34 ≤ (↑(Int.toNat q27) : Int));
 let q4 := List.drop q2 (List.take (Int.toNat q27) q37);
 let q6 := BitVec.toFin (UInt8.toBitVec (Option.getD q37[Int.toNat q34]? (0 : UInt8)));
 let q22 := runV plainB q37 q2;
 let q7 := List.drop q2 (List.take (Int.toNat (↑q22 : Int)) q37);
 let q10 := runV digitB q37 q2;
 let q18 := List.drop q2 (List.take (Int.toNat (↑q10 : Int)) q37);
 let q8 := ([AV.agg [AV.int IntKind.i64 (2 : Int), AV.str q18, AV.int IntKind.i64 q34]], q17 q5);
 let q9 := decide (q23 ≤ (↑q10 : Int) ∧ (↑q10 : Int) ≤ (↑q19 : Int)) && decide (q23 ≤ q34 ∧ q34 ≤ (↑(Int.toNat (↑q10 : Int)) : Int));
 let q11 := ([AV.agg [AV.int IntKind.i64 (2 : Int), AV.str q4, AV.int IntKind.i64 q34]], q17 q5);
 let q12 := (q37, IntKind.wrap IntKind.i64 q20);
 let q13 : T _ := .ret (Sum.inr (Sum.inl (PUnit.unit, PUnit.unit, q17, ([AV.agg [AV.int IntKind.i64 q23, AV.str [], AV.int IntKind.i64 q27]], q17 q5) :: q28)));
 let q14 := decide (List.length q37 ≤ (1000000 : Nat) ∧ q23 ≤ q34 ∧ q34 ≤ (↑q19 : Int));
 let q15 : T _ := .ret (Sum.inr (Sum.inl (PUnit.unit, PUnit.unit, q17, ([AV.agg [AV.int IntKind.i64 q23, AV.str [], AV.int IntKind.i64 (↑q10 : Int)]], q17 q5) :: q28)));
 let q16 : T _ := .ret (Sum.inr (Sum.inl (PUnit.unit, PUnit.unit, q17, ([AV.agg [AV.int IntKind.i64 q23, AV.str q7, AV.int IntKind.i64 q34]], q17 q5) :: q28)));
 let q29 := !q17 q5;
 let q21 : T _ := .br q29 (
                      .ret q1) (
                      .ret q1);
 let q24 := ([AV.agg [AV.int IntKind.i64 (3 : Int), AV.str q7, AV.int IntKind.i64 q34]], q17 q5);
 let q25 := ([AV.agg [AV.int IntKind.i64 (1 : Int), AV.str q7, AV.int IntKind.i64 q34]], q17 q5);
 let q26 := ([AV.agg [AV.int IntKind.i64 (3 : Int), AV.str q4, AV.int IntKind.i64 q34]], q17 q5);
 let q30 := Sum.inl (q12, PUnit.unit, s.2.2);
 let q31 := Sum.inl ((q37, (↑q10 : Int)), PUnit.unit, q17, q8 :: q28);
 let q32 := Sum.inr (Sum.inl (PUnit.unit, PUnit.unit, q17, q11 :: q28));
 let q33 := Sum.inr (Sum.inl (PUnit.unit, PUnit.unit, q17, q8 :: q28));
 let q35 := Sum.inl (q12, PUnit.unit, q17, q11 :: q28);
 let q36 := decide (q23 ≤ q34 ∧ q34 < (↑q19 : Int));
  .br (decide (q34 < (↑q19 : Int))) (
    .chk q36 <|
    .br ((↑(↑q6 : Nat) : Int) == (32 : Int)) (
      .ret q30) (
      .br ((↑(↑q6 : Nat) : Int) == (9 : Int)) (
        .ret q30) (
        .br ((↑(↑q6 : Nat) : Int) == (10 : Int)) (
          .ret q30) (
          .br ((↑(↑q6 : Nat) : Int) == (35 : Int)) (
            .chk q14 <|
            .ret (Sum.inl ((q37, (↑(runV lineB q37 q2) : Int)), PUnit.unit, s.2.2))) (
            .br (a_letter (↑(↑q6 : Nat) : Int)) (
              .chk q14 <|
              .chk (decide (q23 ≤ (↑q22 : Int) ∧ (↑q22 : Int) ≤ (↑q19 : Int)) && decide (q23 ≤ q34 ∧ q34 ≤ (↑(Int.toNat (↑q22 : Int)) : Int))) <|
              .br (inS words q7) (
                .br q29 (
                  .ret (Sum.inr (Sum.inl (PUnit.unit, PUnit.unit, q17, q24 :: q28)))) (
                  .ret (Sum.inl ((q37, (↑q22 : Int)), PUnit.unit, q17, q24 :: q28)))) (
                .br (decide ((↑(List.length q7) : Int) ≤ (24 : Int))) (
                  .br q29 (
                    .ret (Sum.inr (Sum.inl (PUnit.unit, PUnit.unit, q17, q25 :: q28)))) (
                    .ret (Sum.inl ((q37, (↑q22 : Int)), PUnit.unit, q17, q25 :: q28)))) (
                  .br q29 q16 q16))) (
              .br (a_digit (↑(↑q6 : Nat) : Int)) (
                .chk q36 <|
                .br ((↑(↑q6 : Nat) : Int) != (48 : Int)) (
                  .chk q14 <|
                  .chk q9 <|
                  .chk (decide (List.length q18 ≤ (1000000 : Nat) ∧ atoiOk q18 = true)) <|
                  .br (decide (atoiN q18 > (65536 : Int))) q21 (
                    .br (decide ((↑q10 : Int) < (↑q19 : Int))) (
                      .chk (decide (q23 ≤ (↑q10 : Int) ∧ (↑q10 : Int) < (↑q19 : Int))) <|
                      .br (a_plain (↑(↑(BitVec.toFin (UInt8.toBitVec (Option.getD q37[Int.toNat (↑q10 : Int)]? (0 : UInt8)))) : Nat) : Int)) (
                        .br q29 q15 q15) (
                        .chk q9 <|
                        .br q29 (
                          .ret q33) (
                          .ret q31))) (
                      .chk q9 <|
                      .br q29 (
                        .ret q33) (
                        .ret q31)))) (
                  .chk q3 <|
                  .chk (decide (List.length q4 ≤ (1000000 : Nat) ∧ atoiOk q4 = true)) <|
                  .br (decide (atoiN q4 > (65536 : Int))) q21 (
                    .br (decide (IntKind.wrap IntKind.i64 q20 < (↑q19 : Int))) (
                      .chk (decide (q23 ≤ IntKind.wrap IntKind.i64 q20 ∧ IntKind.wrap IntKind.i64 q20 < (↑q19 : Int))) <|
                      .br (a_plain (↑(↑(BitVec.toFin (UInt8.toBitVec (Option.getD q37[Int.toNat q27]? (0 : UInt8)))) : Nat) : Int)) (
                        .br q29 q13 q13) (
                        .chk q3 <|
                        .br q29 (
                          .ret q32) (
                          .ret q35))) (
                      .chk q3 <|
                      .br q29 (
                        .ret q32) (
                        .ret q35))))) (
                .br (decide (ixB ([(58 : UInt8), (59 : UInt8), (44 : UInt8)], (↑(↑q6 : Nat) : Int)) ≥ q23)) (
                  .chk q3 <|
                  .br q29 (
                    .ret (Sum.inr (Sum.inl (PUnit.unit, PUnit.unit, q17, q26 :: q28)))) (
                    .ret (Sum.inl (q12, PUnit.unit, q17, q26 :: q28)))) (
                  .br q29 (
                    .ret q1) (
                    .ret q1))))))))) (
    .ret (Sum.inr (Sum.inr (PUnit.unit, PUnit.unit, s.2.2))))) := fun s => by kernel_rfl
end Go.Proofs.YtkpligkggnjcoaaGreatDoor
/-! TU5 -/
namespace Go.Proofs.YtkpligkggnjcoaaGreatDoor
open Ev K
set_option maxRecDepth 100000
namespace K
inductive TSt where
  | fin
  | skip (j : Nat)
  | tok (t : Tok) (j : Nat)
  | bad (t : Tok)
  | fail
  deriving DecidableEq, Repr
def cutS (s : Str) (i j : Nat) : Str := (s.take j).drop i
def numSt (s : Str) (i e : Nat) : TSt :=
  if (cutS s i e).length ≤ 1000000 ∧ atoiOk (cutS s i e) = true then
    if atoiN (cutS s i e) > 65536 then .bad ⟨0, [], i⟩
    else if e < s.length ∧ plainB ((s[e]?).getD 0) = true then .bad ⟨0, [], e⟩
    else .tok ⟨2, cutS s i e, i⟩ e
  else .fail
def tokSt (s : Str) (i : Nat) : TSt :=
  if i < s.length then
    let b := (s[i]?).getD 0
    if b = 32 ∨ b = 9 ∨ b = 10 then .skip (i + 1)
    else if b = 35 then .skip (runV lineB s i)
    else if smallB b = true then
      let e := runV plainB s i
      if inS words (cutS s i e) = true then .tok ⟨3, cutS s i e, i⟩ e
      else if (cutS s i e).length ≤ 24 then .tok ⟨1, cutS s i e, i⟩ e
      else .bad ⟨0, cutS s i e, i⟩
    else if digitB b = true then numSt s i (if b = 48 then i + 1 else runV digitB s i)
    else if 0 ≤ ixB ([58, 59, 44], (b.toNat : Int)) then .tok ⟨3, cutS s i (i + 1), i⟩ (i + 1)
    else .bad ⟨0, [], i⟩
  else .fin
def lexF : Nat → Str → Nat → Option (List Tok)
  | 0, _, _ => none
  | n + 1, s, i => match tokSt s i with
    | .fin => some []
    | .skip j => lexF n s j
    | .tok t j => (lexF n s j).map (t :: ·)
    | .bad t => some [t]
    | .fail => none
end K
end Go.Proofs.YtkpligkggnjcoaaGreatDoor
/-! TU6 -/
namespace Go.Proofs.YtkpligkggnjcoaaGreatDoor
open Ev K
set_option maxRecDepth 100000
namespace K
def eTok (t : Tok) : List AV := [.agg [.int .i64 t.kind, .str t.text, .int .i64 t.pos]]
abbrev tkS := (Str × Int) × Unit × (Nat → Bool) × List (List AV × Bool)
abbrev tkR := Unit × Unit × (Nat → Bool) × List (List AV × Bool)
def tkV (s : Str) (bs : Nat → Bool) (out : List (List AV × Bool)) : TSt → Option (tkS ⊕ tkR ⊕ tkR)
  | .fin => some (.inr (.inr ((), (), bs, out)))
  | .skip j => some (.inl ((s, (j : Int)), (), bs, out))
  | .tok t j => some (if bs out.length = true then .inl ((s, (j : Int)), (), bs, (eTok t, true) :: out) else .inr (.inl ((), (), bs, (eTok t, false) :: out)))
  | .bad t => some (.inr (.inl ((), (), bs, (eTok t, bs out.length) :: out)))
  | .fail => none
theorem tk_y {s : Str} {bs : Nat → Bool} {out : List (List AV × Bool)} (t : Tok) (j : Nat) (ji : Int) (h : ji = j) :
    (T.br (!bs out.length) (.ret (Sum.inr (Sum.inl ((), (), bs, (eTok t, bs out.length) :: out)) : tkS ⊕ tkR ⊕ tkR)) (.ret (Sum.inl ((s, ji), (), bs, (eTok t, bs out.length) :: out)))).run = tkV s bs out (.tok t j) := by
  subst h
  unfold tkV
  cases bs out.length <;> rfl
theorem tk_b {s : Str} {bs : Nat → Bool} {out : List (List AV × Bool)} (t : Tok) :
    (T.br (!bs out.length) (.ret (Sum.inr (Sum.inl ((), (), bs, (eTok t, bs out.length) :: out)) : tkS ⊕ tkR ⊕ tkR)) (.ret (Sum.inr (Sum.inl ((), (), bs, (eTok t, bs out.length) :: out))))).run = tkV s bs out (.bad t) := by
  unfold tkV
  cases bs out.length <;> rfl
theorem runV_ge (p : UInt8 → Bool) (s : Str) (i : Nat) : i ≤ runV p s i := Nat.le_add_right _ _
theorem runV_le (p : UInt8 → Bool) (s : Str) (i : Nat) (h : i ≤ s.length) : runV p s i ≤ s.length := by
  unfold runV
  have h2 : ((s.drop i).takeWhile p).length ≤ (s.drop i).length := (List.takeWhile_prefix p).length_le
  rw [List.length_drop] at h2; omega
theorem eqB (b : UInt8) (n : UInt8) : ((((b.toNat : Nat) : Int) == ((n.toNat : Nat) : Int)) : Bool) = decide (b = n) := by
  apply Bool.eq_iff_iff.2
  rw [beq_iff_eq, decide_eq_true_iff]
  constructor
  · intro h; exact UInt8.toNat_inj.1 (by omega)
  · rintro rfl; rfl
theorem tk_step (s : Str) (hs : s.length ≤ 1000000) (i : Nat) (hi : i ≤ s.length) (bs : Nat → Bool) (out : List (List AV × Bool)) (hf : tokSt s i ≠ .fail) :
    st_tk ((s, (i : Int)), (), bs, out) = tkV s bs out (tokSt s i) := by
  rw [sl_tk]
  unfold tokSt at hf ⊢
  by_cases hlt : i < s.length
  · rw [if_pos hlt] at hf ⊢
    refine br_t (decide_eq_true (by dsimp only; omega)) (chk_step (decide_eq_true (by dsimp only; omega)) ?_)
    obtain ⟨b, hb⟩ : ∃ b, (s[i]?).getD 0 = b := ⟨_, rfl⟩
    simp only [Int.toNat_natCast, byteI, hb] at hf ⊢
    have w1 := wi i (by omega)
    simp only [w1, Int.toNat_natCast] at hf ⊢
    by_cases h32 : b = 32
    · rw [if_pos (.inl h32)]
      exact br_t (by rw [h32]; rfl) rfl
    refine br_f ((eqB b 32).trans (decide_eq_false h32)) ?_
    by_cases h9 : b = 9
    · rw [if_pos (.inr (.inl h9))]
      exact br_t (by rw [h9]; rfl) rfl
    refine br_f ((eqB b 9).trans (decide_eq_false h9)) ?_
    by_cases h10 : b = 10
    · rw [if_pos (.inr (.inr h10))]
      exact br_t (by rw [h10]; rfl) rfl
    refine br_f ((eqB b 10).trans (decide_eq_false h10)) ?_
    rw [if_neg (by rintro (h | h | h); exact h32 h; exact h9 h; exact h10 h)] at hf ⊢
    by_cases h35 : b = 35
    · rw [if_pos h35]
      exact br_t (by rw [h35]; rfl) (chk_step (decide_eq_true (by omega)) rfl)
    refine br_f ((eqB b 35).trans (decide_eq_false h35)) ?_
    rw [if_neg h35] at hf ⊢
    have cut : ∀ j : Nat, (s.take j).drop i = cutS s i j := fun _ => rfl
    simp only [cut] at hf ⊢
    have q1 := runV_ge plainB s i
    have q2 := runV_le plainB s i hi
    have q3 := runV_ge digitB s i
    have q4 := runV_le digitB s i hi
    cases hsm : smallB b with
    | true =>
      rw [if_pos hsm] at hf
      rw [if_pos rfl]
      refine br_t ((a_letter_eq b).trans hsm) (chk_step (decide_eq_true (by omega)) (chk_step (by rw [Bool.and_eq_true]; exact ⟨decide_eq_true (by omega), decide_eq_true (by omega)⟩) ?_))
      cases hw : inS words (cutS s i (runV plainB s i)) with
      | true =>
        rw [if_pos rfl]
        exact br_t rfl (tk_y ⟨3, cutS s i (runV plainB s i), i⟩ _ _ rfl)
      | false =>
        rw [if_neg Bool.false_ne_true]
        refine br_f rfl ?_
        by_cases h24 : (cutS s i (runV plainB s i)).length ≤ 24
        · rw [if_pos h24]
          exact br_t (decide_eq_true (by omega)) (tk_y ⟨1, cutS s i (runV plainB s i), i⟩ _ _ rfl)
        · rw [if_neg h24]
          exact br_f (decide_eq_false (by omega)) (tk_b ⟨0, cutS s i (runV plainB s i), i⟩)
    | false =>
      rw [if_neg (by rw [hsm]; exact Bool.false_ne_true)] at hf
      rw [if_neg Bool.false_ne_true]
      refine br_f ((a_letter_eq b).trans hsm) ?_
      cases hd : digitB b with
      | true =>
        rw [if_pos hd] at hf
        rw [if_pos rfl]
        refine br_t ((a_digit_eq b).trans hd) (chk_step (decide_eq_true (by omega)) ?_)
        by_cases h48 : b = 48
        · rw [if_pos h48] at hf ⊢
          refine br_f (by rw [h48]; rfl) ?_
          unfold numSt at hf ⊢
          by_cases ha : (cutS s i (i + 1)).length ≤ 1000000 ∧ atoiOk (cutS s i (i + 1)) = true
          · rw [if_pos ha]
            refine chk_step (by rw [Bool.and_eq_true]; exact ⟨decide_eq_true (by omega), decide_eq_true (by omega)⟩) (chk_step (decide_eq_true ha) ?_)
            by_cases hbig : atoiN (cutS s i (i + 1)) > 65536
            · rw [if_pos hbig]
              exact br_t (decide_eq_true hbig) (tk_b ⟨0, [], i⟩)
            rw [if_neg hbig]
            refine br_f (decide_eq_false hbig) ?_
            by_cases hlt2 : (i + 1) < s.length
            · refine br_t (decide_eq_true (by omega)) (chk_step (decide_eq_true (by omega)) ?_)
              cases hp : plainB ((s[(i + 1)]?).getD 0) with
              | true =>
                rw [if_pos ⟨hlt2, rfl⟩]
                exact br_t ((a_plain_eq _).trans hp) (tk_b ⟨0, [], (((i + 1 : Nat)) : Int)⟩)
              | false =>
                rw [if_neg (by rintro ⟨_, h⟩; cases h)]
                exact br_f ((a_plain_eq _).trans hp) (chk_step (by rw [Bool.and_eq_true]; exact ⟨decide_eq_true (by omega), decide_eq_true (by omega)⟩) (tk_y ⟨2, cutS s i (i + 1), i⟩ _ _ rfl))
            · rw [if_neg (by rintro ⟨h, _⟩; exact hlt2 h)]
              exact br_f (decide_eq_false (by omega)) (chk_step (by rw [Bool.and_eq_true]; exact ⟨decide_eq_true (by omega), decide_eq_true (by omega)⟩) (tk_y ⟨2, cutS s i (i + 1), i⟩ _ _ rfl))
          · exact absurd (if_neg ha) hf
        · rw [if_neg h48] at hf ⊢
          refine br_t (congrArg not ((eqB b 48).trans (decide_eq_false h48))) ?_
          unfold numSt at hf ⊢
          by_cases ha : (cutS s i (runV digitB s i)).length ≤ 1000000 ∧ atoiOk (cutS s i (runV digitB s i)) = true
          · rw [if_pos ha]
            refine chk_step (decide_eq_true (by omega)) (chk_step (by rw [Bool.and_eq_true]; exact ⟨decide_eq_true (by omega), decide_eq_true (by omega)⟩) (chk_step (decide_eq_true ha) ?_))
            by_cases hbig : atoiN (cutS s i (runV digitB s i)) > 65536
            · rw [if_pos hbig]
              exact br_t (decide_eq_true hbig) (tk_b ⟨0, [], i⟩)
            rw [if_neg hbig]
            refine br_f (decide_eq_false hbig) ?_
            by_cases hlt2 : (runV digitB s i) < s.length
            · refine br_t (decide_eq_true (by omega)) (chk_step (decide_eq_true (by omega)) ?_)
              cases hp : plainB ((s[(runV digitB s i)]?).getD 0) with
              | true =>
                rw [if_pos ⟨hlt2, rfl⟩]
                exact br_t ((a_plain_eq _).trans hp) (tk_b ⟨0, [], ((runV digitB s i : Nat) : Int)⟩)
              | false =>
                rw [if_neg (by rintro ⟨_, h⟩; cases h)]
                exact br_f ((a_plain_eq _).trans hp) (chk_step (by rw [Bool.and_eq_true]; exact ⟨decide_eq_true (by omega), decide_eq_true (by omega)⟩) (tk_y ⟨2, cutS s i (runV digitB s i), i⟩ _ _ rfl))
            · rw [if_neg (by rintro ⟨h, _⟩; exact hlt2 h)]
              exact br_f (decide_eq_false (by omega)) (chk_step (by rw [Bool.and_eq_true]; exact ⟨decide_eq_true (by omega), decide_eq_true (by omega)⟩) (tk_y ⟨2, cutS s i (runV digitB s i), i⟩ _ _ rfl))
          · exact absurd (if_neg ha) hf
      | false =>
        rw [if_neg (by rw [hd]; exact Bool.false_ne_true)] at hf
        rw [if_neg Bool.false_ne_true]
        refine br_f ((a_digit_eq b).trans hd) ?_
        by_cases hc : 0 ≤ ixB ([58, 59, 44], (b.toNat : Int))
        · rw [if_pos hc]
          exact br_t (decide_eq_true hc) (chk_step (by rw [Bool.and_eq_true]; exact ⟨decide_eq_true (by omega), decide_eq_true (by omega)⟩) (tk_y ⟨3, cutS s i (i + 1), i⟩ _ _ rfl))
        · rw [if_neg hc]
          exact br_f (decide_eq_false hc) (tk_b ⟨0, [], i⟩)
  · rw [if_neg hlt]
    exact br_f (decide_eq_false (by dsimp only; omega)) rfl
end K
end Go.Proofs.YtkpligkggnjcoaaGreatDoor
/-! TU7 -/
namespace Go.Proofs.YtkpligkggnjcoaaGreatDoor
open Ev K
set_option maxRecDepth 100000
namespace K
theorem tokSt_j {s : Str} {i : Nat} (hi : i ≤ s.length) : (∀ j, tokSt s i = .skip j → j ≤ s.length) ∧ ∀ t j, tokSt s i = .tok t j → j ≤ s.length := by
  have r1 := runV_le lineB s i hi
  have r2 := runV_le plainB s i hi
  have r3 := runV_le digitB s i hi
  unfold tokSt numSt
  by_cases hlt : i < s.length
  · rw [if_pos hlt]
    constructor
    · intro j h
      simp only at h
      repeat' split at h
      all_goals first | (injection h with h; omega) | cases h
    · intro t j h
      simp only at h
      repeat' split at h
      all_goals first | (injection h with _ h; omega) | (injection h with _ h; subst h; split <;> omega) | cases h
  · rw [if_neg hlt]
    constructor
    · intro j h; cases h
    · intro t j h; cases h
noncomputable def L_tk := lim st_tk
theorem L_tk_all (s : Str) (hs : s.length ≤ 1000000) (bs : Nat → Bool) (hb : ∀ k, bs k = true) : ∀ (n i : Nat) (out : List (List AV × Bool)) (L : List Tok), i ≤ s.length → lexF n s i = some L →
    L_tk ((s, (i : Int)), (), bs, out) = some (.inl ((), (), bs, (L.map fun t => (eTok t, true)).reverse ++ out)) ∨ L_tk ((s, (i : Int)), (), bs, out) = some (.inr ((), (), bs, (L.map fun t => (eTok t, true)).reverse ++ out))
  | 0, i, out, L, hi, h => by cases h
  | n + 1, i, out, L, hi, h => by
    have hst : tokSt s i ≠ .fail := by intro e; simp only [lexF, e] at h; cases h
    have hj := tokSt_j (s := s) hi
    have st := tk_step s hs i hi bs out hst
    unfold lexF at h
    cases hk : tokSt s i with
    | fin =>
      rw [hk] at h st
      injection h with h; subst h
      exact .inr (lim_done st)
    | skip j =>
      rw [hk] at h st
      have := L_tk_all s hs bs hb n j out L (hj.1 j hk) h
      unfold L_tk at this ⊢
      rw [lim_step st]; exact this
    | tok t j =>
      rw [hk] at h st
      simp only at h
      obtain ⟨M, hM, rfl⟩ := Option.map_eq_some_iff.1 h
      have e : tkV s bs out (.tok t j) = some (.inl ((s, (j : Int)), (), bs, (eTok t, true) :: out)) := by simp only [tkV, hb, if_true]
      rw [e] at st
      have := L_tk_all s hs bs hb n j ((eTok t, true) :: out) M (hj.2 t j hk) hM
      unfold L_tk at this ⊢
      rw [lim_step st, List.map_cons, List.reverse_cons, List.append_assoc]; exact this
    | bad t =>
      rw [hk] at h st
      injection h with h; subst h
      have e : tkV s bs out (.bad t) = some (.inr (.inl ((), (), bs, (eTok t, true) :: out))) := by simp only [tkV, hb]
      rw [e] at st
      exact .inl (lim_done st)
    | fail => exact absurd hk hst
end K
end Go.Proofs.YtkpligkggnjcoaaGreatDoor
/-! TU8 -/
namespace Go.Proofs.YtkpligkggnjcoaaGreatDoor
open Ev K
set_option maxRecDepth 100000
namespace K
theorem L_tk_stop (s : Str) (hs : s.length ≤ 1000000) (bs : Nat → Bool) (m : Nat) (hb : ∀ k, bs k = !(Nat.beq k m)) (y : Tok) : ∀ (n i : Nat) (out : List (List AV × Bool)) (L : List Tok), i ≤ s.length → lexF n s i = some L → out.length ≤ m → L[m - out.length]? = some y →
    L_tk ((s, (i : Int)), (), bs, out) = some (.inl ((), (), bs, (eTok y, false) :: (((L.take (m - out.length)).map fun t => (eTok t, true)).reverse ++ out)))
  | 0, i, out, L, hi, h, _, _ => by cases h
  | n + 1, i, out, L, hi, h, hm, hy => by
    have hst : tokSt s i ≠ .fail := by intro e; simp only [lexF, e] at h; cases h
    have hj := tokSt_j (s := s) hi
    have st := tk_step s hs i hi bs out hst
    unfold lexF at h
    cases hk : tokSt s i with
    | fin =>
      rw [hk] at h st
      injection h with h; subst h
      simp at hy
    | skip j =>
      rw [hk] at h st
      have := L_tk_stop s hs bs m hb y n j out L (hj.1 j hk) h hm hy
      unfold L_tk at this ⊢
      rw [lim_step st]; exact this
    | tok t j =>
      rw [hk] at h st
      simp only at h
      obtain ⟨M, hM, rfl⟩ := Option.map_eq_some_iff.1 h
      by_cases he : out.length = m
      · have hbf : bs out.length = false := by rw [hb, he, show Nat.beq m m = true from by rw [Nat.beq_eq]]; rfl
        have e : tkV s bs out (.tok t j) = some (.inr (.inl ((), (), bs, (eTok t, false) :: out))) := by simp only [tkV, hbf, Bool.false_eq_true, if_false]
        rw [e] at st
        rw [he, Nat.sub_self] at hy ⊢
        injection hy with hy; subst hy
        exact lim_done st
      · have hbt : bs out.length = true := by
          rw [hb, show Nat.beq out.length m = false by rw [← Bool.not_eq_true, Nat.beq_eq]; exact he]; rfl
        have e : tkV s bs out (.tok t j) = some (.inl ((s, (j : Int)), (), bs, (eTok t, true) :: out)) := by simp only [tkV, hbt, if_true]
        rw [e] at st
        obtain ⟨d, hd⟩ : ∃ d, m - out.length = d + 1 := ⟨m - out.length - 1, by omega⟩
        have hd2 : m - ((eTok t, true) :: out).length = d := by rw [List.length_cons]; omega
        rw [hd] at hy ⊢
        have := L_tk_stop s hs bs m hb y n j ((eTok t, true) :: out) M (hj.2 t j hk) hM (by rw [List.length_cons]; omega) (by rw [hd2]; exact hy)
        rw [hd2] at this
        unfold L_tk at this ⊢
        rw [lim_step st, List.take_succ_cons, List.map_cons, List.reverse_cons, List.append_assoc]; exact this
    | bad t =>
      rw [hk] at h st
      injection h with h; subst h
      have h0 : m - out.length = 0 := by
        cases hx : m - out.length with
        | zero => rfl
        | succ d => rw [hx] at hy; simp at hy
      have he : out.length = m := by omega
      have hbf : bs out.length = false := by rw [hb, he, show Nat.beq m m = true from by rw [Nat.beq_eq]]; rfl
      have e : tkV s bs out (.bad t) = some (.inr (.inl ((), (), bs, (eTok t, false) :: out))) := by simp only [tkV, hbf]
      rw [e] at st
      rw [h0] at hy ⊢
      injection hy with hy; subst hy
      exact lim_done st
    | fail => exact absurd hk hst
end K
noncomputable def BTU81 : Tab := BTU41.addNode 125 9 (nodeE [3, 1, 0] S_tk X_tk (fun s => .obs (K.L_tk s) .ret))
theorem tTU81 : TabOk P BTU81 := TabOk.addLoop (d := 30) okP tTU41 (by kernel_rfl) (by kernel_rfl) (fun s r h => obs_ret h)
noncomputable def I_tk (s : Str) (bs : Nat → Bool) := iterT1 P BTU81 30 125 [] (V_tk.enc s) bs
theorem it_tk : ∀ s bs, (I_tk) s bs = T.run (
  .obs (L_tk ((s, (0 : Int)), PUnit.unit, bs, [])) fun x0 =>
    .sum (x0) (fun x1 =>
      .ret (List.reverse x1.2.2.2)) (fun x1 =>
      .ret (List.reverse x1.2.2.2))) := fun s bs => by kernel_rfl
end Go.Proofs.YtkpligkggnjcoaaGreatDoor
/-! TU9 -/
namespace Go.Proofs.YtkpligkggnjcoaaGreatDoor
open Ev K
set_option maxRecDepth 100000
theorem icl_tk (s : Str) (hs : s.length ≤ 1000000) (n : Nat) (L : List Tok) (h : lexF n s 0 = some L) : ICL P 125 [] (V_tk.enc s) (L.map eTok) := by
  refine iter_of okP tTU81 (d := 30) ?_ (fun m y hy => ?_)
  · show I_tk s _ = _
    rw [it_tk]
    rcases L_tk_all s hs (fun _ => true) (fun _ => rfl) n 0 [] L (Nat.zero_le _) h with e | e
    · refine obs_step e ?_
      simp only [T.run_inl, T.run_ret, List.append_nil, List.reverse_reverse, List.map_map]
      rfl
    · refine obs_step e ?_
      simp only [T.run_inr, T.run_ret, List.append_nil, List.reverse_reverse, List.map_map]
      rfl
  · show I_tk s _ = _
    rw [it_tk]
    rw [List.getElem?_map] at hy
    obtain ⟨t, ht, rfl⟩ := Option.map_eq_some_iff.1 hy
    refine obs_step (L_tk_stop s hs (fun k => !(Nat.beq k m)) m (fun _ => rfl) t n 0 [] L (Nat.zero_le _) h (Nat.zero_le _) (by simpa using ht)) ?_
    simp only [T.run_inl, T.run_ret, List.append_nil, List.reverse_cons, List.reverse_reverse, List.length_nil, Nat.sub_zero, List.map_map, List.map_take]
    rfl
end Go.Proofs.YtkpligkggnjcoaaGreatDoor
/-! TUa -/
namespace Go.Proofs.YtkpligkggnjcoaaGreatDoor
open Ev K
set_option maxRecDepth 100000
namespace Ev
end Ev
def ghostP (t kc : Nat) (e : TypeId) (wd : Nat) (tags : List CK) (st : St) : St :=
  match st.env[t]? with
  | some (.lptr j0 _ 0 0) => match st.loc[j0]? with
   | some (.flat _ [.lptr j _ 0 0]) => match st.loc[j]? with
    | some (.flat ty cs) => match cs[kc]? with
      | some .nilsl => match Nat.blt 0 wd with
        | true => { st with loc := st.loc.set j (.flat ty (cs.set kc (.osl st.loc.length 0 0))) ++ [.list e wd 0 0 ⟨tags, fun _ _ => .top⟩] }
        | false => st
      | _ => st
    | _ => st
   | _ => st
  | _ => st
theorem ghostP_len (t kc : Nat) (e : TypeId) (wd : Nat) (tags : List CK) (st : St) : (ghostP t kc e wd tags st).env.length = st.env.length := by
  unfold ghostP
  repeat' split
  all_goals rfl
theorem ghostP_tidy (t kc : Nat) (e : TypeId) (wd : Nat) (tags : List CK) (st : St) : Tidy st (ghostP t kc e wd tags st) := by
  unfold ghostP
  split
  case h_2 => exact ⟨rfl, fun X yl A0 r ds sv a w h => ⟨r, h⟩⟩
  rename_i j0 _ ht
  split
  case h_2 => exact ⟨rfl, fun X yl A0 r ds sv a w h => ⟨r, h⟩⟩
  rename_i ty0 j _ hj0
  split
  case h_2 => exact ⟨rfl, fun X yl A0 r ds sv a w h => ⟨r, h⟩⟩
  rename_i ty cs hj
  split
  case h_2 => exact ⟨rfl, fun X yl A0 r ds sv a w h => ⟨r, h⟩⟩
  rename_i hcell
  split
  case h_2 => exact ⟨rfl, fun X yl A0 r ds sv a w h => ⟨r, h⟩⟩
  rename_i hwd
  have hwd : 0 < wd := by simpa [Nat.blt_eq] using hwd
  refine ⟨rfl, fun X yl A0 r ds sv a w h => ?_⟩
  have hnx : locOf st st.loc.length = none := locOf_len st
  have hlt : j < st.loc.length := (List.getElem?_eq_some_iff.1 hj).1
  obtain ⟨r', hv, k⟩ := h.grow2 (nx := st.loc.length) (j := st.loc.length) (v := 0) (n := 0) (e := 0) (c := 0) (wd := wd) (t := e) (get := ⟨tags, fun _ _ => .top⟩) (ob := none) (xs := []) (w1 := w) (fun _ => hnx) (fun b hb => by cases hb) (.inl ⟨rfl, rfl⟩)
    (World.ownsRow_nil w 0 e wd) (fun i k hi => absurd hi (Nat.not_lt_zero _)) ⟨rfl, rfl, rfl, Nat.le_refl _, fun _ _ _ => rfl⟩ (fun b hb => by cases hb) (fun _ => ⟨rfl, rfl⟩) ⟨Nat.le_refl _, Nat.zero_le _⟩ hwd (dle.refl _) none
  have hlj : (locE ⟨none, .osl st.loc.length 0 0, some (st.loc.length, .list e wd 0 0 ⟨tags, fun _ _ => .top⟩)⟩ (locOf st)) j = some (.flat ty cs) := by
    simp only [locE]
    rw [if_neg (by omega)]; exact hj
  have k2 := k.swap hlj (cs' := cs.set kc (.osl st.loc.length 0 0)) (fun us hus => by
    refine ⟨by rw [List.length_set]; exact hus.1, fun i x u hx hu => ?_⟩
    rw [List.getElem?_set] at hx
    split at hx
    · rename_i e1
      subst e1
      split at hx
      · injection hx with hx; subst hx
        have hn := hus.2 kc _ u hcell hu
        have hu' : u = .slice (slBase 0) 0 0 := by cases hn; rfl
        rw [hu']; exact hv
      · cases hx
    · exact hus.2 i x u hx hu)
  have el : locOf { st with loc := st.loc.set j (.flat ty (cs.set kc (.osl st.loc.length 0 0))) ++ [.list e wd 0 0 ⟨tags, fun _ _ => .top⟩] } = fun k => if k = j then some (.flat ty (cs.set kc (.osl st.loc.length 0 0))) else (locE ⟨none, .osl st.loc.length 0 0, some (st.loc.length, .list e wd 0 0 ⟨tags, fun _ _ => .top⟩)⟩ (locOf st)) k := by
    funext i
    simp only [locOf, locE]
    by_cases hi : i = j
    · subst hi
      rw [if_pos rfl, List.getElem?_append_left (by simpa using hlt), List.getElem?_set, if_pos rfl, if_pos hlt]
    · rw [if_neg hi]
      by_cases hn : i = st.loc.length
      · subst hn
        rw [List.getElem?_append_right (by simp)]; simp
      · rw [if_neg hn]
        by_cases hl2 : i < st.loc.length
        · rw [List.getElem?_append_left (by simpa using hl2), List.getElem?_set, if_neg (Ne.symm hi)]
        · rw [List.getElem?_eq_none (by simp; omega), List.getElem?_eq_none (by omega)]
  exact ⟨r', by rw [el]; exact k2⟩
def DecS.ghostPC {σ : Type} (t kc : Nat) (e : TypeId) (wd : Nat) (tags : List CK) (D : DecS σ) : DecS σ where
  enc := D.enc
  dec st := forceS st fun st => forceS (ghostP t kc e wd tags st) fun s1 => forceS (prune (List.range s1.env.length) s1) D.dec
  ok st s h := by
    rw [forceS_eq, forceS_eq, forceS_eq] at h
    exact (ghostP_tidy t kc e wd tags st).trans ((prune_tidy _ _).trans (D.ok _ _ h))
  len st s h := by
    rw [forceS_eq, forceS_eq, forceS_eq] at h
    rw [D.len _ _ h, prune_len, ghostP_len]
end Go.Proofs.YtkpligkggnjcoaaGreatDoor
/-! TUb -/
namespace Go.Proofs.YtkpligkggnjcoaaGreatDoor
open Ev K
set_option maxRecDepth 100000
def rTok : RowD Tok where
  wd := 3
  tags := [.int .i64, .str, .int .i64]
  rd f := ⟨numOf (f 0), textOf (f 1), numOf (f 2)⟩
  wr a k := match k with
    | 0 => .int .i64 a.kind
    | 1 => .str a.text
    | _ => .int .i64 a.pos
  ok f k hk := by
    match k, hk with
    | 0, _ => rfl
    | 1, _ => rfl
    | 2, _ => rfl
    | k + 3, hk => omega
  good _ := rfl
def lPr : DecL (Nat × Int × Bool) := .cons (dO 5) (.cons dInt (.last dB 0))
def O_pr : DecB (List Rul × Int × Int × Unit × (Nat × Int × Bool) × List Tok × Unit) := .flat 25 lTar (.flat 26 lI1 (.flat 3 lI1 (.flat 150 (.unit (dLp 4 0 0 0) (.tops 0)) (.flat 153 lPr (.rows 158 rTok .nil)))))
def R_tk := dFn 125 V_tk
def S_pr := DecS.ghostPC 5 0 158 3 [.int .i64, .str, .int .i64] (DecS.mk0 (.cons (dS) (.skip (.unit (dLp 0 0 0 0) (.unit (dLp 1 0 0 0) (.unit (dLp 2 0 0 0) (.unit (dLp 3 0 0 0) (.skips 11 (.last (R_tk) 55)))))))) O_pr)
def X_pr := DecX.one .ret [2, 3, 4] (DecS.mk0 (.skips 2 (.unit (dLp 0 0 0 0) (.unit (dLp 1 0 0 0) (.unit (dLp 2 0 0 0) (.tops 68))))) (.flat 25 lTar (.flat 26 lI1 (.flat 3 lI1 .nil))))
noncomputable def K.st_pr := rangeT1 P BTU81 30 18 41 [17, 2, 3, 4, 5, 0] S_pr X_pr eTok
theorem rg_pr : ∀ s x, (K.st_pr) s x = T.run (
  .br (Tok.kind x == (0 : Int)) (
    .ret (Sum.inr (PUnit.unit, [], (7 : Int), Tok.pos x, PUnit.unit))) (
    .chk (decide ((List.length s.2.2.2.2.2.2.1 + (1 : Nat)) * (32 : Nat) ≤ (140737488355328 : Nat) ∧ List.length s.2.2.2.2.2.2.1 + (1 : Nat) ≤ nat_lit 9223372036854775807)) <|
    .ret (Sum.inl (s.1, decN nRul (List.length s.2.1) fun i => encN nRul s.2.1 ((0 : Nat) + i), s.2.2.1, s.2.2.2.1, PUnit.unit, (List.length s.2.2.2.2.2.2.1 + (1 : Nat), s.2.2.2.2.2.1.2), decF rTok (List.length s.2.2.2.2.2.2.1 + (1 : Nat)) (appG (List.length s.2.2.2.2.2.2.1) (encF rTok s.2.2.2.2.2.2.1) fun i k => Option.getD [AV.int IntKind.i64 (Tok.kind x), AV.str (Tok.text x), AV.int IntKind.i64 (Tok.pos x)][((0 : Nat) + i) * (3 : Nat) + k]? AV.top), PUnit.unit)))) := fun s x => by kernel_rfl
end Go.Proofs.YtkpligkggnjcoaaGreatDoor
/-! TUc -/
namespace Go.Proofs.YtkpligkggnjcoaaGreatDoor
open Ev K
set_option maxRecDepth 100000
namespace K
def lexT (s : Str) : Option (List Tok) := lexF (s.length + 1) s 0
abbrev prS := (Str × Str) × List Rul × Int × Int × Unit × (Nat × Int × Bool) × List Tok × Unit
theorem pushK (l : List Tok) (t : Tok) : decF rTok (l.length + 1) (appG l.length (encF rTok l) fun i k => ([(.int .i64 t.kind : AV), .str t.text, .int .i64 t.pos][(0 + i) * 3 + k]?).getD .top) = l ++ [t] := by
  have := (decF_app rTok l 1 (fun i k => ([(.int .i64 t.kind : AV), .str t.text, .int .i64 t.pos][(0 + i) * 3 + k]?).getD .top))
  exact this.trans rfl
theorem st_pr_eq (s0 : Str × Str) (l : List Rul) (e n : Int) (p : Int × Bool) (acc : List Tok) (t : Tok) (h : acc.length ≤ 1000000) :
    st_pr (s0, l, e, n, (), (acc.length, p), acc, ()) t = some (if t.kind = 0 then .inr ((), [], 7, t.pos, ()) else .inl (s0, l, e, n, (), ((acc ++ [t]).length, p), acc ++ [t], ())) := by
  rw [rg_pr]
  simp only [decN_encN, Nat.zero_add]
  by_cases hk : t.kind = 0
  · rw [if_pos hk]
    exact br_t (by rw [hk]; rfl) rfl
  · rw [if_neg hk]
    refine br_f (beq_eq_false_iff_ne.2 hk) (chk_step (decide_eq_true (by omega)) ?_)
    have e1 : (acc ++ [t]).length = acc.length + 1 := by simp
    have := pushK acc t
    simp only [Nat.zero_add] at this
    rw [this, e1]; rfl
theorem fold_pr (s0 : Str × Str) (l : List Rul) (e n : Int) (p : Int × Bool) : ∀ (M acc : List Tok), acc.length + M.length ≤ 1000000 →
    foldS st_pr M (s0, l, e, n, (), (acc.length, p), acc, ()) = some (match M.find? fun t => decide (t.kind = 0) with
      | some t => .inr ((), [], 7, t.pos, ())
      | none => .inl (s0, l, e, n, (), ((acc ++ M).length, p), acc ++ M, ())) := by
  intro M
  induction M with
  | nil => intro acc _; rw [List.append_nil]; rfl
  | cons t M ih =>
    intro acc h
    rw [List.length_cons] at h
    simp only [foldS, st_pr_eq s0 l e n p acc t (by omega)]
    by_cases hk : t.kind = 0
    · rw [if_pos hk, List.find?_cons_of_pos (by exact decide_eq_true hk)]
    · rw [if_neg hk, List.find?_cons_of_neg (by simpa using hk)]
      have := ih (acc ++ [t]) (by rw [List.length_append, List.length_singleton]; omega)
      rw [List.append_assoc, List.singleton_append] at this
      exact this
end K
end Go.Proofs.YtkpligkggnjcoaaGreatDoor
/-! TUd -/
namespace Go.Proofs.YtkpligkggnjcoaaGreatDoor
open Ev K
set_option maxRecDepth 100000
namespace K
def toksT (s : Str) : List Tok := (lexT s).getD []
def badTk (s : Str) : Option Tok := (toksT s).find? fun t => decide (t.kind = 0)
def badP (s : Str) : Int := match badTk s with
  | some t => t.pos
  | none => 0
def isBad (s : Str) : Bool := (badTk s).isSome
def lexOk (s : Str) : Bool := (lexT s).isSome && decide ((toksT s).length ≤ 900000)
def prOk (s : prS) : Prop := (s.2.2.2.2.2.2.1 = [] ∧ s.2.2.2.2.2.1.1 = 0) ∧ s.1.2.length ≤ 1000000 ∧ lexOk s.1.2 = true
instance (s : prS) : Decidable (prOk s) := by unfold prOk; infer_instance
theorem pr_ok (s : prS) (r) (h : (T.chk (decide (prOk s)) (.br (isBad s.1.2) (.ret (Sum.inr ((), [], 7, badP s.1.2, ()))) (.ret (Sum.inl (s.1, s.2.1, s.2.2.1, s.2.2.2.1, (), ((toksT s.1.2).length, s.2.2.2.2.2.1.2), toksT s.1.2, ()))))).run = some r) :
    foldS st_pr (toksT s.1.2) s = some r := by
  have g := chk_of h
  have h2 := (chk_step (t := .br (isBad s.1.2) (.ret (Sum.inr ((), [], 7, badP s.1.2, ()))) (.ret (Sum.inl (s.1, s.2.1, s.2.2.1, s.2.2.2.1, (), ((toksT s.1.2).length, s.2.2.2.2.2.1.2), toksT s.1.2, ())))) (decide_eq_true g) rfl).symm.trans h
  rw [← h2]
  obtain ⟨s0, l, e, n, u, p, acc, v⟩ := s
  obtain ⟨⟨g1, g2⟩, g3, g4⟩ := g
  simp only at g1 g2 g3 g4
  subst g1
  obtain ⟨c, p⟩ := p
  simp only at g2
  subst g2
  have hlen : (toksT s0.2).length ≤ 900000 := of_decide_eq_true (Bool.and_eq_true _ _ ▸ g4).2
  have := fold_pr s0 l e n p (toksT s0.2) [] (by simp; omega)
  refine this.trans ?_
  unfold isBad badP badTk
  simp only
  cases (toksT s0.2).find? fun t => decide (t.kind = 0) with
  | none => rfl
  | some t => rfl
theorem icl_pr {s : Str} (h1 : s.length ≤ 1000000) (h : lexOk s = true) : ICL P 125 [] (V_tk.enc s) ((toksT s).map eTok) := by
  obtain ⟨L, hL⟩ := Option.isSome_iff_exists.1 ((Bool.and_eq_true _ _ ▸ h : _ ∧ _).1)
  have e : toksT s = L := by unfold toksT; rw [hL]; rfl
  rw [e]
  exact icl_tk s h1 _ L hL
end K
noncomputable def BTUd1 : Tab := BTU81.addNode 18 41 (rangeE [17, 2, 3, 4, 5, 0] S_pr X_pr (fun s => .chk (decide (K.prOk s)) (.br (K.isBad s.1.2) (.ret (.inr ((), [], 7, K.badP s.1.2, ()))) (.ret (.inl (s.1, s.2.1, s.2.2.1, s.2.2.2.1, (), ((K.toksT s.1.2).length, s.2.2.2.2.2.1.2), K.toksT s.1.2, ()))))))
theorem tTUd1 : TabOk P BTUd1 := TabOk.addRange (d := 30) (enc := eTok) (L := (fun s => K.toksT s.1.2)) okP tTU81 (by kernel_rfl) (by kernel_rfl) (fun s r h => ⟨_, _, _, (by kernel_rfl : _ = some (125, [], V_tk.enc s.1.2)), by have b := K.chk_of h; exact K.icl_pr b.2.1 b.2.2⟩) (fun s r h => K.pr_ok s r h)
end Go.Proofs.YtkpligkggnjcoaaGreatDoor
/-! TV0 -/
namespace Go.Proofs.YtkpligkggnjcoaaGreatDoor
open Ev K
set_option maxRecDepth 100000
namespace K
structure Par where
  x : XS
  pos : Int
  wrong : Bool
def Par.l (p : Par) : List Tok := decF rTok p.x.len fun i => p.x.f (p.x.row + i)
def parOk (p : Par) : Prop := 0 ≤ p.pos ∧ p.pos ≤ p.l.length ∧ p.l.length ≤ 1000000 ∧ (p.l.all fun t => decide (t.text.length ≤ 1000000)) = true
instance (p : Par) : Decidable (parOk p) := by unfold parOk; infer_instance
def Par.bad (p : Par) : Par := ⟨p.x, p.pos, true⟩
def Par.nx (p : Par) : Option Tok := if p.wrong then none else p.l[p.pos.toNat]?
def Par.step (p : Par) : Par := match p.nx with
  | some _ => ⟨p.x, p.pos + 1, p.wrong⟩
  | none => ⟨p.x, p.pos + 1, p.wrong⟩
theorem step_def (p : Par) : p.step = ⟨p.x, p.pos + 1, p.wrong⟩ := by unfold Par.step; split <;> rfl
def textV (p : Par) : Str := match p.nx with
  | some t => if t.kind = 3 then t.text else []
  | none => []
def isV (p : Par) (m : Str) : Par × Bool := if textV p = m then (p.step, true) else (p, false)
def mustV (p : Par) (m : Str) : Par := if textV p = m then p.step else p.bad
def nextV (p : Par) (k : Int) : Par × Str := match p.nx with
  | some t => if t.kind = k then (p.step, t.text) else (p.bad, [])
  | none => (p.bad, [])
def atoiT (s : Str) : Int := match Lib.atoiAll s with
  | .ok v => v
  | .syntax => 0
  | .range => Lib.atoiSat s
def numV (p : Par) : Par × Int := ((nextV p 2).1, atoiT (nextV p 2).2)
def wOf : Str := [111, 102]
def wFlat : Str := [102, 108, 97, 116]
def wPer : Str := [112, 101, 114]
def wPay : Str := [112, 97, 121]
def wAbove : Str := [97, 98, 111, 118, 101]
def wUpto : Str := [117, 112, 116, 111]
def wIn : Str := [105, 110]
def wDue : Str := [100, 117, 101]
def wRebate : Str := [114, 101, 98, 97, 116, 101]
def wLeast : Str := [108, 101, 97, 115, 116]
def wMost : Str := [109, 111, 115, 116]
def wRound : Str := [114, 111, 117, 110, 100]
def wUp : Str := [117, 112]
def wDown : Str := [100, 111, 119, 110]
def wNear : Str := [110, 101, 97, 114]
def wComma : Str := [44]
def wColon : Str := [58]
def wSemi : Str := [59]
def listV {α : Type} (f : Par → Par × α) : Nat → Par → List α → Par × List α
  | 0, p, acc => (p, acc)
  | n + 1, p, acc => if textV p = wComma then listV f n (f p.step).1 (acc ++ [(f p.step).2]) else (p, acc)
def fuelV (p : Par) : Nat := p.l.length + 1
def nameV (p : Par) : Par × Str := nextV p 1
def headV (p : Par) (k : Int) : Par × Rul :=
  let a := nameV p
  if textV a.1 = wOf then
    let g := nameV a.1.step
    let r := listV nameV (fuelV g.1) g.1 [g.2]
    (r.1, ⟨k, a.2, r.2, [], 0, 0, 0⟩)
  else (a.1, ⟨k, a.2, [], [], 0, 0, 0⟩)
def aboveV (p : Par) : Par × Int := if textV p = wAbove then numV p.step else (p, 0)
def uptoV (p : Par) : Par × Int := if textV p = wUpto then numV p.step else (p, 65536)
def termV (p : Par) : Par × Trm :=
  if textV p = wFlat then ((numV p.step).1, ⟨0, (numV p.step).2, 0, 0⟩) else
    let a := numV (mustV p wPer)
    let b := numV (mustV a.1 wPay)
    let c := aboveV b.1
    let d := uptoV c.1
    (d.1, ⟨a.2, b.2, c.2, d.2⟩)
def dueV (p : Par) : Par × Rul :=
  let h := headV p 1
  let t := termV (mustV h.1 wColon)
  let r := listV termV (fuelV t.1) t.1 [t.2]
  (r.1, ⟨h.2.kind, h.2.due, h.2.grades, r.2, 0, 0, 0⟩)
def rebateV (p : Par) : Par × Rul :=
  let h := headV p 2
  let n := numV h.1
  let d := numV (mustV n.1 wIn)
  (d.1, ⟨h.2.kind, h.2.due, h.2.grades, [], n.2, d.2, 0⟩)
def leastV (p : Par) : Par × Rul :=
  let h := headV p 3
  let n := numV h.1
  (n.1, ⟨h.2.kind, h.2.due, h.2.grades, [], n.2, 0, 0⟩)
def mostV (p : Par) : Par × Rul :=
  let h := headV p 4
  let n := numV h.1
  (n.1, ⟨h.2.kind, h.2.due, h.2.grades, [], n.2, 0, 0⟩)
def wayV (s : Str) : Int := if s = [] then 0 else if s = wUp then 1 else if s = wDown then 2 else if s = wNear then 3 else -1
def rndV (p : Par) : Par × Rul :=
  let h := headV p 5
  let w := wayV (textV h.1)
  if w < 1 then (h.1.bad, ⟨h.2.kind, h.2.due, h.2.grades, [], 0, 0, w⟩) else
    let n := numV h.1.step
    (n.1, ⟨h.2.kind, h.2.due, h.2.grades, [], n.2, 0, w⟩)
def ruleV (w : Str) (p : Par) : Option (Par × Rul) := if w = wDue then some (dueV p) else if w = wRebate then some (rebateV p) else if w = wLeast then some (leastV p) else if w = wMost then some (mostV p) else if w = wRound then some (rndV p) else none
def sourceF : Nat → Par → List Rul → Par × List Rul
  | 0, p, acc => (p, acc)
  | n + 1, p, acc => if p.pos < p.l.length ∧ p.wrong = false then
      match ruleV (textV p) p.step with
      | some r => sourceF n (mustV r.1 wSemi) (acc ++ [r.2])
      | none => (p.bad, acc)
    else (p, acc)
def sourceV (p : Par) : Par × List Rul := sourceF (fuelV p) p []
def Adv (p q : Par) : Prop := q.x = p.x ∧ parOk q ∧ p.pos ≤ q.pos ∧ (p.wrong = true → q.wrong = true)
theorem Adv.refl {p : Par} (h : parOk p) : Adv p p := ⟨rfl, h, Int.le_refl _, id⟩
theorem Adv.trans {a b c : Par} (h : Adv a b) (k : Adv b c) : Adv a c := ⟨k.1.trans h.1, k.2.1, Int.le_trans h.2.2.1 k.2.2.1, fun e => k.2.2.2 (h.2.2.2 e)⟩
theorem nx_some {p : Par} {t : Tok} (h : p.nx = some t) (hp : parOk p) : p.wrong = false ∧ p.l[p.pos.toNat]? = some t ∧ p.pos < p.l.length := by
  unfold Par.nx at h
  split at h
  · cases h
  · rename_i hw
    have := (List.getElem?_eq_some_iff.1 h).1
    refine ⟨by simpa using hw, h, ?_⟩
    have := hp.1
    omega
theorem step_ok {p : Par} {t : Tok} (h : p.nx = some t) (hp : parOk p) : Adv p p.step := by
  obtain ⟨h1, h2, h3⟩ := nx_some h hp
  rw [step_def]
  refine ⟨rfl, ⟨?_, ?_, hp.2.2⟩, ?_, id⟩
  · show 0 ≤ p.pos + 1; have := hp.1; omega
  · show p.pos + 1 ≤ p.l.length; omega
  · show p.pos ≤ p.pos + 1; omega
theorem bad_ok {p : Par} (hp : parOk p) : Adv p p.bad := ⟨rfl, hp, Int.le_refl _, fun _ => rfl⟩
theorem text_nx {p : Par} {m : Str} (h : textV p = m) (hm : m ≠ []) : ∃ t, p.nx = some t ∧ t.kind = 3 ∧ t.text = m := by
  unfold textV at h
  split at h
  · rename_i t ht
    split at h
    · rename_i hk; exact ⟨t, ht, hk, h⟩
    · exact absurd h.symm hm
  · exact absurd h.symm hm
theorem text_step {p : Par} {m : Str} (h : textV p = m) (hm : m ≠ []) (hp : parOk p) : Adv p p.step := by
  obtain ⟨t, ht, _⟩ := text_nx h hm
  exact step_ok ht hp
theorem must_ok {p : Par} {m : Str} (hm : m ≠ []) (hp : parOk p) : Adv p (mustV p m) := by
  unfold mustV
  split
  · rename_i h; exact text_step h hm hp
  · exact bad_ok hp
theorem next_ok {p : Par} (k : Int) (hp : parOk p) : Adv p (nextV p k).1 := by
  unfold nextV
  split
  · rename_i t ht
    split
    · exact step_ok ht hp
    · exact bad_ok hp
  · exact bad_ok hp
theorem num_ok {p : Par} (hp : parOk p) : Adv p (numV p).1 := next_ok 2 hp
theorem name_ok {p : Par} (hp : parOk p) : Adv p (nameV p).1 := next_ok 1 hp
theorem list_ok {α : Type} {f : Par → Par × α} (hf : ∀ p, parOk p → Adv p (f p).1) : ∀ (n : Nat) (p : Par) (acc : List α), parOk p → Adv p (listV f n p acc).1
  | 0, p, acc, hp => Adv.refl hp
  | n + 1, p, acc, hp => by
    unfold listV
    split
    · rename_i h
      have h1 := text_step h (by decide) hp
      have h2 := hf _ h1.2.1
      exact (h1.trans h2).trans (list_ok hf n _ _ h2.2.1)
    · exact Adv.refl hp
theorem head_ok {p : Par} (k : Int) (hp : parOk p) : Adv p (headV p k).1 := by
  unfold headV
  have h1 := name_ok hp
  simp only
  split
  · rename_i h
    have h2 := text_step h (by decide) h1.2.1
    have h3 := name_ok h2.2.1
    exact (h1.trans (h2.trans h3)).trans (list_ok (fun _ h => name_ok h) _ _ _ h3.2.1)
  · exact h1
theorem above_ok {p : Par} (hp : parOk p) : Adv p (aboveV p).1 := by
  unfold aboveV
  split
  · rename_i h
    have h1 := text_step h (by decide) hp
    exact h1.trans (num_ok h1.2.1)
  · exact Adv.refl hp
theorem upto_ok {p : Par} (hp : parOk p) : Adv p (uptoV p).1 := by
  unfold uptoV
  split
  · rename_i h
    have h1 := text_step h (by decide) hp
    exact h1.trans (num_ok h1.2.1)
  · exact Adv.refl hp
theorem term_ok {p : Par} (hp : parOk p) : Adv p (termV p).1 := by
  unfold termV
  split
  · rename_i h
    have h1 := text_step h (by decide) hp
    exact h1.trans (num_ok h1.2.1)
  · have h1 := must_ok (m := wPer) (by decide) hp
    have h2 := h1.trans (num_ok h1.2.1)
    have h3 := h2.trans (must_ok (m := wPay) (by decide) h2.2.1)
    have h4 := h3.trans (num_ok h3.2.1)
    have h5 := h4.trans (above_ok h4.2.1)
    exact h5.trans (upto_ok h5.2.1)
theorem due_ok {p : Par} (hp : parOk p) : Adv p (dueV p).1 := by
  have h1 := head_ok 1 hp
  have h2 := h1.trans (must_ok (m := wColon) (by decide) h1.2.1)
  have h3 := h2.trans (term_ok h2.2.1)
  exact h3.trans (list_ok (fun _ h => term_ok h) _ _ _ h3.2.1)
theorem rebate_ok {p : Par} (hp : parOk p) : Adv p (rebateV p).1 := by
  have h1 := head_ok 2 hp
  have h2 := h1.trans (num_ok h1.2.1)
  have h3 := h2.trans (must_ok (m := wIn) (by decide) h2.2.1)
  exact h3.trans (num_ok h3.2.1)
theorem least_ok {p : Par} (hp : parOk p) : Adv p (leastV p).1 := by
  have h1 := head_ok 3 hp
  exact h1.trans (num_ok h1.2.1)
theorem most_ok {p : Par} (hp : parOk p) : Adv p (mostV p).1 := by
  have h1 := head_ok 4 hp
  exact h1.trans (num_ok h1.2.1)
theorem way_pos {s : Str} (h : ¬ wayV s < 1) : s ≠ [] := fun e => h (by subst e; decide)
theorem round_ok {p : Par} (hp : parOk p) : Adv p (rndV p).1 := by
  have h1 := head_ok 5 hp
  unfold rndV
  simp only
  split
  · exact h1.trans (bad_ok h1.2.1)
  · rename_i h
    have h2 := text_step rfl (way_pos h) h1.2.1
    have h3 := h1.trans h2
    exact h3.trans (num_ok h3.2.1)
theorem rule_ok {w : Str} {p : Par} {r : Par × Rul} (h : ruleV w p = some r) (hp : parOk p) : Adv p r.1 := by
  unfold ruleV at h
  (repeat' split at h) <;> first | (injection h with h; subst h; first | exact due_ok hp | exact rebate_ok hp | exact least_ok hp | exact most_ok hp | exact round_ok hp) | cases h
theorem rule_ne {w : Str} {p : Par} {r : Par × Rul} (h : ruleV w p = some r) : w ≠ [] := fun e => by
  subst e
  simp [ruleV, wDue, wRebate, wLeast, wMost, wRound] at h
theorem next_len {p : Par} (k : Int) (hp : parOk p) : (nextV p k).2.length ≤ 1000000 := by
  unfold nextV
  split
  · rename_i t ht
    split
    · exact of_decide_eq_true (List.all_eq_true.1 hp.2.2.2 t (List.mem_of_getElem? (nx_some ht hp).2.1))
    · exact Nat.zero_le _
  · exact Nat.zero_le _
end K
end Go.Proofs.YtkpligkggnjcoaaGreatDoor
/-! TV1 -/
namespace Go.Proofs.YtkpligkggnjcoaaGreatDoor
open Ev K
set_option maxRecDepth 100000
def lPar : DecL K.Par := (DecL.cons (dX 3 [.int .i64, .str, .int .i64]) (.cons dInt (.last dB 0))).iso (fun p => ⟨p.1, p.2.1, p.2.2⟩) (fun s => (s.x, s.pos, s.wrong)) (fun _ => rfl)
theorem m_text : ∀ a, (methT1 P BTUd1 30 139 153 0 lPar (.tops 0) dS) a = T.run (
  .br (!Par.wrong a.1) (
    .br (decide (Par.pos a.1 < (↑(len (Par.x a.1)) : Int))) (
      .chk (decide ((0 : Int) ≤ Par.pos a.1 ∧ Par.pos a.1 < (↑(XS.len (Par.x a.1)) : Int))) <|
      .br (XS.g (Par.x a.1) (Int.toNat (Par.pos a.1)) (0 : Nat) == (3 : Int)) (
        .chk (decide ((0 : Int) ≤ Par.pos a.1 ∧ Par.pos a.1 < (↑(XS.len (Par.x a.1)) : Int))) <|
        .ret ((a.1, textOf (XS.f (Par.x a.1) (XS.row (Par.x a.1) + Int.toNat (Par.pos a.1)) (nat_lit 1))))) (
        .ret ((a.1, [])))) (
      .ret ((a.1, [])))) (
    .ret ((a.1, [])))) := fun a => by kernel_rfl
theorem m_next : ∀ a, (methT1 P BTUd1 30 215 153 0 lPar (.last dInt 0) dS) a = T.run (
 let q1 := IntKind.wrap IntKind.i64 (Par.pos a.1 + (1 : Int)) - (1 : Int);
 let q3 := Par.x a.1;
 let q2 := (Par.mk q3 (Par.pos a.1) true, []);
  .br (Par.wrong a.1) (
    .ret q2) (
    .br (Par.pos a.1 == (↑(len q3) : Int)) (
      .ret q2) (
      .chk (decide ((0 : Int) ≤ Par.pos a.1 ∧ Par.pos a.1 < (↑(XS.len q3) : Int))) <|
      .br (XS.g q3 (Int.toNat (Par.pos a.1)) (0 : Nat) != a.2) (
        .ret q2) (
        .chk (decide ((0 : Int) ≤ IntKind.wrap IntKind.i64 q1 ∧ IntKind.wrap IntKind.i64 q1 < (↑(XS.len q3) : Int))) <|
        .ret ((Par.mk q3 (IntKind.wrap IntKind.i64 (Par.pos a.1 + (1 : Int))) (Par.wrong a.1), textOf (XS.f q3 (XS.row q3 + Int.toNat (IntKind.wrap IntKind.i64 q1)) (nat_lit 1)))))))) := fun a => by kernel_rfl
end Go.Proofs.YtkpligkggnjcoaaGreatDoor
/-! TV2 -/
namespace Go.Proofs.YtkpligkggnjcoaaGreatDoor
open Ev K
set_option maxRecDepth 100000
namespace K
theorem par_len (p : Par) : p.l.length = p.x.len := decF_length ..
theorem par_tok {p : Par} {i : Nat} {t : Tok} (h : p.l[i]? = some t) : t = ⟨XS.g p.x i 0, textOf (p.x.f (p.x.row + i) 1), XS.g p.x i 2⟩ := by
  have hi := (List.getElem?_eq_some_iff.1 h).1
  rw [par_len] at hi
  unfold Par.l at h
  simp only [decF, List.getElem?_map, List.getElem?_range hi, Option.map_some] at h
  injection h with h
  exact h.symm
theorem nx_in {p : Par} (h : parOk p) (hw : p.wrong = false) (hl : p.pos < p.l.length) : ∃ t, p.nx = some t ∧ t = ⟨XS.g p.x p.pos.toNat 0, textOf (p.x.f (p.x.row + p.pos.toNat) 1), XS.g p.x p.pos.toNat 2⟩ := by
  have hi : p.pos.toNat < p.l.length := by have := h.1; omega
  have e : p.l[p.pos.toNat]? = some p.l[p.pos.toNat] := List.getElem?_eq_getElem hi
  exact ⟨p.l[p.pos.toNat], by unfold Par.nx; rw [hw]; exact e, par_tok e⟩
theorem nx_out {p : Par} (hl : ¬ p.pos < p.l.length) : p.nx = none := by
  unfold Par.nx
  split
  · rfl
  · exact List.getElem?_eq_none (by omega)
theorem nx_wrong {p : Par} (hw : p.wrong = true) : p.nx = none := by unfold Par.nx; rw [hw]; rfl
theorem par_clamp {p : Par} (h : parOk p) : len p.x = p.l.length := by rw [par_len]; have := h.2.2.1; rw [par_len] at this; exact cl this
theorem text_eq (p : Par) (h : parOk p) : methT1 P BTUd1 30 139 153 0 lPar (.tops 0) dS (p, ()) = some (p, textV p) := by
  rw [m_text]
  simp only [par_clamp h, ← par_len]
  unfold textV
  cases hw : p.wrong with
  | true =>
    rw [nx_wrong hw]
    exact br_f rfl rfl
  | false =>
    refine br_t rfl ?_
    by_cases hl : p.pos < p.l.length
    · obtain ⟨t, h1, h2⟩ := nx_in h hw hl
      rw [h1]
      subst h2
      simp only
      refine br_t (decide_eq_true hl) (chk_step (decide_eq_true ⟨h.1, hl⟩) ?_)
      by_cases hk : XS.g p.x p.pos.toNat 0 = 3
      · rw [if_pos hk]
        exact br_t (beq_iff_eq.2 hk) (chk_step (decide_eq_true ⟨h.1, hl⟩) rfl)
      · rw [if_neg hk]
        exact br_f (beq_eq_false_iff_ne.2 hk) rfl
    · rw [nx_out hl]
      exact br_f (decide_eq_false hl) rfl
theorem next_eq (p : Par) (k : Int) (h : parOk p) : methT1 P BTUd1 30 215 153 0 lPar (.last dInt 0) dS (p, k) = some (nextV p k) := by
  rw [m_next]
  simp only [par_clamp h, ← par_len]
  have hp := h.1; have hq := h.2.1; have hr := h.2.2.1
  have w1 : IntKind.i64.wrap (p.pos + 1) = p.pos + 1 := w64_in (by omega) (by omega)
  have w2 : IntKind.i64.wrap (p.pos + 1 - 1) = p.pos := by rw [w64_in (by omega) (by omega)]; omega
  simp only [w1, w2]
  unfold nextV
  cases hw : p.wrong with
  | true =>
    rw [nx_wrong hw]
    exact br_t rfl rfl
  | false =>
    refine br_f rfl ?_
    by_cases hl : p.pos < p.l.length
    · obtain ⟨t, h1, h2⟩ := nx_in h hw hl
      rw [h1]
      subst h2
      simp only
      refine br_f (beq_eq_false_iff_ne.2 (by omega)) (chk_step (decide_eq_true ⟨h.1, hl⟩) ?_)
      by_cases hk : XS.g p.x p.pos.toNat 0 = k
      · rw [if_pos hk]
        refine br_f (by rw [hk]; simp) (chk_step (decide_eq_true ⟨h.1, hl⟩) ?_)
        rw [step_def, hw]; rfl
      · rw [if_neg hk]
        exact br_t (bne_iff_ne.2 hk) rfl
    · rw [nx_out hl]
      exact br_t (beq_iff_eq.2 (by omega)) rfl
theorem mc_ret {ω ρ : Type} {p : Prop} [Decidable p] {v : ω × ρ} {o' : ω} {r : ρ} {X : Option (ω × ρ)} (h : (T.chk (decide p) (.ret v)).run = some (o', r)) (k : p → X = some v) : X = some (o', r) := by
  obtain ⟨g, e⟩ := chk_ret h
  rw [k (of_decide_eq_true g), e]
def stk {α : Type} (x : Par × α) : Par × α := match x.1.wrong with
  | true => x
  | false => x
theorem stk_eq {α : Type} (x : Par × α) : stk x = x := by unfold stk; split <;> rfl
theorem mc_stk {ρ : Type} {p : Prop} [Decidable p] {v : Par × ρ} {o' : Par} {r : ρ} {X : Option (Par × ρ)} (h : (T.chk (decide p) (.ret (stk v))).run = some (o', r)) (k : p → X = some v) : X = some (o', r) := by
  rw [stk_eq] at h
  exact mc_ret h k
end K
noncomputable def BTV21 : Tab := BTUd1.addTurn 139 (methC 153 lPar (.tops 0) dS (fun a => .chk (decide (K.parOk a.1)) (.ret (a.1, K.textV a.1))))
theorem tTV21 : TabOk P BTV21 := TabOk.addMC (wd := 0) (d := 30) okP tTUd1 tTUd1 (fun o _a _o' _r h => K.mc_ret h (K.text_eq o))
noncomputable def BTV22 : Tab := BTV21.addTurn 215 (methC 153 lPar (.last dInt 0) dS (fun a => .chk (decide (K.parOk a.1)) (.ret (K.nextV a.1 a.2))))
theorem tTV22 : TabOk P BTV22 := TabOk.addMC (wd := 0) (d := 30) okP tTV21 tTUd1 (fun o a _o' _r h => K.mc_ret h (K.next_eq o a))
theorem m_is : ∀ a, (methT1 P BTV22 30 190 153 0 lPar (.last dS 0) dB) a = T.run (
  .chk (decide (parOk a.1)) <|
  .br (textV a.1 == a.2) (
    .ret ((Par.mk (Par.x a.1) (IntKind.wrap IntKind.i64 (Par.pos a.1 + (1 : Int))) (Par.wrong a.1), true))) (
    .ret ((a.1, false)))) := fun a => by kernel_rfl
theorem m_name : ∀ a, (methT1 P BTV22 30 214 153 0 lPar (.tops 0) dS) a = T.run (
  .chk (decide (parOk a.1)) <|
  .ret (nextV a.1 (1 : Int))) := fun a => by kernel_rfl
end Go.Proofs.YtkpligkggnjcoaaGreatDoor
/-! TV3 -/
namespace Go.Proofs.YtkpligkggnjcoaaGreatDoor
open Ev K Go.Own Go.Shelf Go.RowKit
set_option maxRecDepth 100000
def dErr : Dec Bool where
  enc b := match b with
    | true => .nilif
    | false => .errif
  dec x := match x with
    | .nilif => some true
    | .errif => some false
    | _ => none
  ok x a h w A r v hv := by
    split at h
    · injection h with h; subst h; exact hv
    · injection h with h; subst h; exact hv
    · cases h
def R_ax := dTup (.cons dInt (.last dErr 0))
namespace K
def M_ax (s : Str) : T (Int × Bool) := .chk (decide (s.length ≤ 1000000)) (.br (atoiOk s) (.ret (atoiT s, true)) (.ret (atoiT s, false)))
theorem err_tup {w : World} {A : Nat → Prop} {n : Int} {t : TypeId} {u : Value} : VR w A noR (R_ax.enc (n, false)) (.tuple #[.int .i64 n, .iface t u]) := by
  refine .tup rfl fun i x u hx hu => ?_
  match i, hx, hu with
  | 0, hx, hu => injection hx with hx; injection hu with hu; subst hx; subst hu; exact .int
  | 1, hx, hu => injection hx with hx; injection hu with hu; subst hx; subst hu; exact .errif
  | i + 2, hx, hu => simp at hu
theorem glob_syn : P.globalNamed "strconv.ErrSyntax" ≠ none := fun h => absurd ((by kernel_rfl : (P.globalNamed "strconv.ErrSyntax").isSome = true)) (by rw [h]; exact Bool.false_ne_true)
theorem glob_rng : P.globalNamed "strconv.ErrRange" ≠ none := fun h => absurd ((by kernel_rfl : (P.globalNamed "strconv.ErrRange").isSome = true)) (by rw [h]; exact Bool.false_ne_true)
theorem ax_pc (s : Str) (r : Int × Bool) (h : (M_ax s).run = some r) : PC P 186 (D_s.enc s) (R_ax.enc r) := by
  have g := chk_of h
  have h2 : (T.br (atoiOk s) (.ret (atoiT s, true)) (.ret (atoiT s, false)) : T (Int × Bool)).run = some r := (chk_step (decide_eq_true g) rfl).symm.trans h
  cases hx : Lib.atoiAll s with
  | ok v =>
    have e1 : atoiOk s = true := by unfold atoiOk atoiV; rw [hx]; rfl
    have e2 : atoiT s = v := by unfold atoiT; rw [hx]
    rw [e1, e2] at h2
    have h2 : some (v, true) = some r := h2
    injection h2 with h2; subst h2
    have e3 : atoiN s = v := by unfold atoiN atoiV; rw [hx]; rfl
    have := at_pc s (v, ()) (by unfold M_at; rw [e3]; exact chk_step (decide_eq_true ⟨g, e1⟩) rfl)
    exact this
  | «syntax» =>
    have e1 : atoiOk s = false := by unfold atoiOk atoiV; rw [hx]; rfl
    have e2 : atoiT s = 0 := by unfold atoiT; rw [hx]
    rw [e1, e2] at h2
    have h2 : some ((0 : Int), false) = some r := h2
    injection h2 with h2; subst h2
    intro ro n A w us hG hA hus
    obtain ⟨u, rfl, hu⟩ := VRs.one_of hus
    cases hu
    obtain ⟨ev, hv, hev⟩ := hG.err _ (.inl rfl) glob_syn
    have key := Any.strconv_Atoi_syntax Tryz.laysC172 ⟨s.toArray⟩ (by show s.toArray.size ≤ _; simp; omega) (by simpa using hx) ev w (by have h0 := World.var?_cell (Tryz.laysC172).m15 hv 0; simpa using h0) hev
    apply callsIn_round
    refine (callsIn_wide.2 key).mono ?_
    rintro e w' ⟨N, rfl, hN, hc, hb⟩
    exact ⟨_, rfl, err_tup, ⟨hb, .inl rfl⟩⟩
  | range =>
    have e1 : atoiOk s = false := by unfold atoiOk atoiV; rw [hx]; rfl
    have e2 : atoiT s = Lib.atoiSat s := by unfold atoiT; rw [hx]
    rw [e1, e2] at h2
    have h2 : some (Lib.atoiSat s, false) = some r := h2
    injection h2 with h2; subst h2
    intro ro n A w us hG hA hus
    obtain ⟨u, rfl, hu⟩ := VRs.one_of hus
    cases hu
    obtain ⟨ev, hv, hev⟩ := hG.err _ (.inr rfl) glob_rng
    have key := Any.strconv_Atoi_range Tryz.laysC172 ⟨s.toArray⟩ (by show s.toArray.size ≤ _; simp; omega) (by simpa using hx) ev w (by have h0 := World.var?_cell (Tryz.laysC172).m16 hv 0; simpa using h0) hev
    apply callsIn_round
    refine (callsIn_wide.2 key).mono ?_
    rintro e w' ⟨N, rfl, hN, hc, hb⟩
    exact ⟨_, rfl, by simpa using err_tup, ⟨hb, .inl rfl⟩⟩
theorem stp {p : Par} (h : parOk p) : IntKind.i64.wrap (p.pos + 1) = p.pos + 1 := by
  have h1 := h.1; have h2 := h.2.1; have h3 := h.2.2.1
  exact w64_in (by omega) (by omega)
theorem is_eq (p : Par) (m : Str) (h : parOk p) : methT1 P BTV22 30 190 153 0 lPar (.last dS 0) dB (p, m) = some (isV p m) := by
  rw [m_is]
  simp only [stp h]
  refine chk_step (decide_eq_true h) ?_
  unfold isV
  by_cases e : textV p = m
  · rw [if_pos e, step_def]; exact br_t (beq_iff_eq.2 e) rfl
  · rw [if_neg e]; exact br_f (beq_eq_false_iff_ne.2 e) rfl
theorem name_eq (p : Par) (h : parOk p) : methT1 P BTV22 30 214 153 0 lPar (.tops 0) dS (p, ()) = some (nameV p) := by
  rw [m_name]
  exact chk_step (decide_eq_true h) rfl
theorem is_mc {p p' : Par} {m : Str} {r : Bool} (h : (T.chk (decide (parOk p)) (.br (decide (textV p = m)) (.ret (p.step, true)) (.ret (p, false)))).run = some (p', r)) : methT1 P BTV22 30 190 153 0 lPar (.last dS 0) dB (p, m) = some (p', r) := by
  have g := chk_of h
  rw [is_eq p m g, ← h]
  refine (chk_step (decide_eq_true g) ?_).symm
  unfold isV
  by_cases e : textV p = m
  · rw [if_pos e]; exact br_t (decide_eq_true e) rfl
  · rw [if_neg e]; exact br_f (decide_eq_false e) rfl
end K
noncomputable def BTV31 : Tab := BTV22.addTurn 190 (methC 153 lPar (.last dS 0) dB (fun a => .chk (decide (K.parOk a.1)) (.br (decide (K.textV a.1 = a.2)) (.ret (a.1.step, true)) (.ret (a.1, false)))))
theorem tTV31 : TabOk P BTV31 := TabOk.addMC (wd := 0) (d := 30) okP tTV22 tTV22 (fun _o _a _o' _r h => K.is_mc h)
noncomputable def BTV32 : Tab := BTV31.addTurn 214 (methC 153 lPar (.tops 0) dS (fun a => .chk (decide (K.parOk a.1)) (.ret (K.nameV a.1))))
theorem tTV32 : TabOk P BTV32 := TabOk.addMC (wd := 0) (d := 30) okP tTV31 tTV22 (fun o _a _o' _r h => K.mc_ret h (K.name_eq o))
noncomputable def BTV33 : Tab := BTV32.addCall 186 (callE D_s R_ax K.M_ax)
theorem tTV33 : TabOk P BTV33 := TabOk.addPC tTV32 (K.ax_pc)
theorem m_must : ∀ a, (methT1 P BTV33 30 140 153 0 lPar (.last dS 0) (dTup (.tops 0))) a = T.run (
  .chk (decide (parOk a.1)) <|
  .br (decide (textV a.1 = a.2)) (
    .br (!true) (
      .ret ((Par.mk (Par.x (Par.step a.1)) (Par.pos (Par.step a.1)) true, PUnit.unit))) (
      .ret ((Par.step a.1, PUnit.unit)))) (
    .br (!false) (
      .ret ((Par.mk (Par.x a.1) (Par.pos a.1) true, PUnit.unit))) (
      .ret ((a.1, PUnit.unit))))) := fun a => by kernel_rfl
theorem m_num : ∀ a, (methT1 P BTV33 30 191 153 0 lPar (.tops 0) dInt) a = T.run (
  .chk (decide (parOk a.1)) <|
  .chk (decide (List.length (Prod.snd (nextV a.1 (2 : Int))) ≤ (1000000 : Nat))) <|
  .br (atoiOk (Prod.snd (nextV a.1 (2 : Int)))) (
    .ret ((Prod.fst (nextV a.1 (2 : Int)), atoiT (Prod.snd (nextV a.1 (2 : Int)))))) (
    .ret ((Prod.fst (nextV a.1 (2 : Int)), atoiT (Prod.snd (nextV a.1 (2 : Int))))))) := fun a => by kernel_rfl
end Go.Proofs.YtkpligkggnjcoaaGreatDoor
/-! TV4 -/
namespace Go.Proofs.YtkpligkggnjcoaaGreatDoor
open Ev K
set_option maxRecDepth 100000
namespace K
theorem must_eq (p : Par) (m : Str) (h : parOk p) : methT1 P BTV33 30 140 153 0 lPar (.last dS 0) (dTup (.tops 0)) (p, m) = some (mustV p m, ()) := by
  rw [m_must]
  refine chk_step (decide_eq_true h) ?_
  unfold mustV
  by_cases e : textV p = m
  · rw [if_pos e]; exact br_t (decide_eq_true e) (br_f rfl rfl)
  · rw [if_neg e]; exact br_f (decide_eq_false e) (br_t rfl rfl)
theorem num_eq (p : Par) (h : parOk p) : methT1 P BTV33 30 191 153 0 lPar (.tops 0) dInt (p, ()) = some (numV p) := by
  rw [m_num]
  refine chk_step (decide_eq_true h) (chk_step (decide_eq_true (next_len 2 h)) ?_)
  cases hb : atoiOk (nextV p 2).2 with
  | true => exact br_t rfl rfl
  | false => exact br_f rfl rfl
end K
noncomputable def BTV41 : Tab := BTV33.addTurn 140 (methC 153 lPar (.last dS 0) (dTup (.tops 0)) (fun a => .chk (decide (K.parOk a.1)) (.ret (K.mustV a.1 a.2, ()))))
theorem tTV41 : TabOk P BTV41 := TabOk.addMC (wd := 0) (d := 30) okP tTV33 tTV33 (fun o a _o' _r h => K.mc_ret h (K.must_eq o a))
noncomputable def BTV42 : Tab := BTV41.addTurn 191 (methC 153 lPar (.tops 0) dInt (fun a => .chk (decide (K.parOk a.1)) (.ret (K.numV a.1))))
theorem tTV42 : TabOk P BTV42 := TabOk.addMC (wd := 0) (d := 30) okP tTV41 tTV33 (fun o _a _o' _r h => K.mc_ret h (K.num_eq o))
def dNilS : Dec Unit where
  enc _ := .nilsl
  dec x := match x with
    | .nilsl => some ()
    | _ => none
  ok x a h w A r v hv := by
    split at h
    · exact hv
    · cases h
def R_hd : Dec (Int × Str × List Str × Unit) := dAgg (.cons dInt (.cons dStr (.cons (dRows rStr) (.unit dNilS (.unit (dK 0) (.unit (dK 0) (.unit (dK 0) (.tops 0))))))))
def lRG : DecL (Int × Str × Nat × Unit) := .cons dInt (.cons dStr (.cons (dO 3) (.unit dNilS (.unit (dK 0) (.unit (dK 0) (.unit (dK 0) (.tops 0)))))))
def O_hd : DecB (Par × Rul × (Int × Str × Nat × Unit) × List Str × Unit) := .flat 153 lPar (.flat 68 lRul (.flat 68 lRG (.rows 9 rStr .nil)))
def V_me : DecL Unit := .unit (dLp 0 0 0 0) (.tops 0)
def S_hd := DecS.rnd (.unit (dLp 0 0 0 0) (.skips 3 (.unit (dLp 1 0 0 0) (.unit (dLp 2 0 0 0) (.tops 23))))) O_hd V_me
def X_hd := DecX.one (.exit 0) [0, 4, 5] S_hd
noncomputable def K.st_hd := loopT1 P BTV42 30 188 33 [5, 0, 4] S_hd X_hd
theorem sl_hd : ∀ s, (K.st_hd) s = T.run (
 let q3 := s.2.1.2.1;
 let q1 := decF rStr (List.length (Rul.grades q3)) fun i => encF rStr (Rul.grades q3) ((0 : Nat) + i);
 let q2 := decF rTrm (List.length (Rul.terms q3)) fun i => encF rTrm (Rul.terms q3) ((0 : Nat) + i);
 let q4 := s.2.1.2.2.2.1;
 let q5 := Par.step s.2.1.1;
  .chk (decide (parOk s.2.1.1)) <|
  .br (decide (textV s.2.1.1 = [(44 : UInt8)])) (
    .chk (decide (parOk q5)) <|
    .chk (decide ((List.length q4 + (1 : Nat)) * (16 : Nat) ≤ (140737488355328 : Nat) ∧ List.length q4 + (1 : Nat) ≤ nat_lit 9223372036854775807)) <|
    .ret (Sum.inl (PUnit.unit, (Prod.fst (nameV q5), Rul.mk (Rul.kind q3) (Rul.due q3) q1 q2 (Rul.n q3) (Rul.d q3) (Rul.way q3), (s.2.1.2.2.1.1, s.2.1.2.2.1.2.1, List.length q4 + (1 : Nat), PUnit.unit), decF rStr (List.length q4 + (1 : Nat)) (appG (List.length q4) (encF rStr q4) fun i k => Option.getD [AV.str (Prod.snd (nameV q5))][((0 : Nat) + i) * (1 : Nat) + k]? AV.top), PUnit.unit), PUnit.unit))) (
    .ret (Sum.inr (PUnit.unit, (s.2.1.1, Rul.mk (Rul.kind q3) (Rul.due q3) q1 q2 (Rul.n q3) (Rul.d q3) (Rul.way q3), (s.2.1.2.2.1.1, s.2.1.2.2.1.2.1, s.2.1.2.2.1.2.2.1, PUnit.unit), decF rStr (List.length q4) (encF rStr q4), PUnit.unit), PUnit.unit)))) := fun s => by kernel_rfl
noncomputable def K.L_hd := lim K.st_hd
noncomputable def BTV43 : Tab := BTV42.addNode 188 33 (nodeE [5, 0, 4] S_hd X_hd (fun s => .obs (K.L_hd s) .ret))
theorem tTV43 : TabOk P BTV43 := TabOk.addLoop (d := 30) okP tTV42 (by kernel_rfl) (by kernel_rfl) (fun s r h => obs_ret h)
theorem m_head : ∀ a, (methT1 P BTV43 30 188 153 0 lPar (.last dInt 0) R_hd) a = T.run (
 let q1 := Prod.fst (nameV a.1);
  .chk (decide (parOk a.1)) <|
  .chk (decide (parOk q1)) <|
  .br (decide (textV q1 = [(111 : UInt8), (102 : UInt8)])) (
    .chk (decide (parOk (Par.step q1))) <|
    .obs (L_hd (PUnit.unit, (Prod.fst (nameV (Par.step q1)), Rul.mk (0 : Int) [] [] [] (0 : Int) (0 : Int) (0 : Int), (a.2, Prod.snd (nameV a.1), (1 : Nat), PUnit.unit), decF rStr (1 : Nat) fun i k => Option.getD [AV.str (Prod.snd (nameV (Par.step q1)))][((0 : Nat) + i) * (1 : Nat) + k]? AV.top, PUnit.unit), PUnit.unit)) fun x0 =>
      .ret ((x0.2.1.1, x0.2.1.2.2.1.1, x0.2.1.2.2.1.2.1, decF rStr (List.length x0.2.1.2.2.2.1) fun i => encF rStr x0.2.1.2.2.2.1 ((0 : Nat) + i), PUnit.unit))) (
    .ret ((Prod.fst (nameV a.1), a.2, Prod.snd (nameV a.1), [], PUnit.unit)))) := fun a => by kernel_rfl
end Go.Proofs.YtkpligkggnjcoaaGreatDoor
/-! TV5 -/
namespace Go.Proofs.YtkpligkggnjcoaaGreatDoor
open Ev K
set_option maxRecDepth 100000
namespace K
theorem pushS1 (l : List Str) (s : Str) : decF rStr (l.length + 1) (appG l.length (encF rStr l) fun i k => ([(.str s : AV)][i * 1 + k]?).getD .top) = l ++ [s] := (decF_app rStr l 1 _).trans rfl
theorem left_lt {p q : Par} (h : Adv p.step q) {m : Int} (hm : (p.l.length : Int) - p.pos < m + 1) : (q.l.length : Int) - q.pos < m ∧ (q.l.length : Int) - q.pos + 1 ≤ (p.l.length : Int) - p.pos := by
  have e : q.l.length = p.l.length := by have := h.1; rw [step_def] at this; unfold Par.l; rw [this]
  have h1 : p.pos + 1 ≤ q.pos := by have := h.2.2.1; rw [step_def] at this; exact this
  omega
theorem L_hd_eq (z : Rul) (k : Int) (d : Str) : ∀ (m : Nat) (p : Par) (g : List Str), parOk p → (p.l.length : Int) - p.pos < m → (g.length : Int) + ((p.l.length : Int) - p.pos) ≤ 1100000 →
    L_hd ((), (p, z, (k, d, g.length, ()), g, ()), ()) = some ((), ((listV nameV m p g).1, z, (k, d, (listV nameV m p g).2.length, ()), (listV nameV m p g).2, ()), ()) := by
  intro m
  induction m with
  | zero => intro p g hp hm _; have := hp.2.1; omega
  | succ m ih =>
    intro p g hp hm hg
    unfold listV
    have hq := hp.2.1
    by_cases hc : textV p = wComma
    · rw [if_pos hc]
      have h1 := text_step hc (by decide) hp
      have h2 := name_ok h1.2.1
      obtain ⟨r1, r2⟩ := left_lt h2 (m := m) (by omega)
      have r3 : ((g ++ [(nameV p.step).2]).length : Int) = (g.length : Int) + 1 := by rw [List.length_append]; simp
      refine (lim_step ?_).trans (ih (nameV p.step).1 (g ++ [(nameV p.step).2]) h2.2.1 r1 (by omega))
      rw [sl_hd]
      simp only [Nat.zero_add, decF_encF]
      refine chk_step (decide_eq_true hp) (br_t (decide_eq_true hc) (chk_step (decide_eq_true h1.2.1) (chk_step (decide_eq_true (by omega)) ?_)))
      simp only [pushS1]
      rw [List.length_append, List.length_singleton]; rfl
    · rw [if_neg hc]
      refine lim_done ?_
      rw [sl_hd]
      simp only [Nat.zero_add, decF_encF]
      exact chk_step (decide_eq_true hp) (br_f (decide_eq_false hc) rfl)
theorem fuel_lt (p : Par) (h : parOk p) : (p.l.length : Int) - p.pos < (fuelV p : Nat) := by unfold fuelV; have := h.1; omega
def headW (p : Par) (k : Int) : Par × Int × Str × List Str × Unit := ((headV p k).1, (headV p k).2.kind, (headV p k).2.due, (headV p k).2.grades, ())
theorem head_eq (p : Par) (k : Int) (h : parOk p) : methT1 P BTV43 30 188 153 0 lPar (.last dInt 0) R_hd (p, k) = some (headW p k) := by
  rw [m_head]
  have h1 := name_ok h
  unfold headW headV
  simp only [Nat.zero_add]
  refine chk_step (decide_eq_true h) (chk_step (decide_eq_true h1.2.1) ?_)
  by_cases hc : textV (nameV p).1 = wOf
  · rw [if_pos hc]
    have h2 := text_step hc (by decide) h1.2.1
    have h3 := name_ok h2.2.1
    refine br_t (decide_eq_true hc) (chk_step (decide_eq_true h2.2.1) ?_)
    refine obs_step (L_hd_eq _ _ _ (fuelV (nameV (nameV p).1.step).1) (nameV (nameV p).1.step).1 [(nameV (nameV p).1.step).2] h3.2.1 (fuel_lt _ h3.2.1) ?_) ?_
    rotate_left
    · simp only [decF_encF]; rfl
    have a := h3.2.1.1; have b := h3.2.1.2.2.1
    show (1 : Int) + _ ≤ _; omega
  · rw [if_neg hc]
    exact br_f (decide_eq_false hc) rfl
end K
noncomputable def BTV51 : Tab := BTV43.addTurn 188 (methC 153 lPar (.last dInt 0) R_hd (fun a => .chk (decide (K.parOk a.1)) (.ret (K.headW a.1 a.2))))
theorem tTV51 : TabOk P BTV51 := TabOk.addMC (wd := 0) (d := 30) okP tTV43 tTV43 (fun o a _o' _r h => K.mc_ret h (K.head_eq o a))
theorem m_term : ∀ a, (methT1 P BTV51 30 189 153 0 lPar (.tops 0) dTrm) a = T.run (
 let q8 := (112 : UInt8);
 let q2 := mustV a.1 [q8, (101 : UInt8), (114 : UInt8)];
 let q4 := mustV (Prod.fst (numV q2)) [q8, (97 : UInt8), (121 : UInt8)];
 let q1 := numV q4;
 let q5 := q1.1;
 let q3 := numV (Par.step q5);
 let q6 := Prod.snd (numV q2);
 let q7 := Par.step q3.1;
 let q9 := q1.2;
  .chk (decide (parOk a.1)) <|
  .br (decide (textV a.1 = [(102 : UInt8), (108 : UInt8), (97 : UInt8), (116 : UInt8)])) (
    .chk (decide (parOk (Par.step a.1))) <|
    .ret ((Prod.fst (numV (Par.step a.1)), Trm.mk (0 : Int) (Prod.snd (numV (Par.step a.1))) (0 : Int) (0 : Int)))) (
    .chk (decide (parOk a.1)) <|
    .chk (decide (parOk q2)) <|
    .chk (decide (parOk (Prod.fst (numV q2)))) <|
    .chk (decide (parOk q4)) <|
    .chk (decide (parOk q5)) <|
    .br (decide (textV q5 = [(97 : UInt8), (98 : UInt8), (111 : UInt8), (118 : UInt8), (101 : UInt8)])) (
      .chk (decide (parOk (Par.step q5))) <|
      .chk (decide (parOk q3.1)) <|
      .br (decide (textV q3.1 = [(117 : UInt8), q8, (116 : UInt8), (111 : UInt8)])) (
        .chk (decide (parOk q7)) <|
        .ret ((Prod.fst (numV q7), Trm.mk q6 q9 q3.2 (Prod.snd (numV q7))))) (
        .ret ((q3.1, Trm.mk q6 q9 q3.2 (65536 : Int))))) (
      .chk (decide (parOk q5)) <|
      .br (decide (textV q5 = [(117 : UInt8), q8, (116 : UInt8), (111 : UInt8)])) (
        .chk (decide (parOk (Par.step q5))) <|
        .ret ((q3.1, Trm.mk q6 q9 (0 : Int) q3.2))) (
        .ret ((q1.1, Trm.mk q6 q9 (0 : Int) (65536 : Int))))))) := fun a => by kernel_rfl
theorem m_reb : ∀ a, (methT1 P BTV51 30 135 153 0 lPar (.tops 0) dRul) a = T.run (
  .chk (decide (parOk a.1)) <|
  .chk (decide (parOk (Prod.fst (headW a.1 (2 : Int))))) <|
  .chk (decide (parOk (Prod.fst (numV (Prod.fst (headW a.1 (2 : Int))))))) <|
  .chk (decide (parOk (mustV (Prod.fst (numV (Prod.fst (headW a.1 (2 : Int))))) [(105 : UInt8), (110 : UInt8)]))) <|
  .ret ((Prod.fst (numV (mustV (Prod.fst (numV (Prod.fst (headW a.1 (2 : Int))))) [(105 : UInt8), (110 : UInt8)])), Rul.mk (Rul.kind (Prod.snd (headV a.1 (2 : Int)))) (Rul.due (Prod.snd (headV a.1 (2 : Int)))) (decF rStr (List.length (Rul.grades (Prod.snd (headV a.1 (2 : Int))))) fun i => encF rStr (Rul.grades (Prod.snd (headV a.1 (2 : Int)))) ((0 : Nat) + i)) [] (Prod.snd (numV (Prod.fst (headW a.1 (2 : Int))))) (Prod.snd (numV (mustV (Prod.fst (numV (Prod.fst (headW a.1 (2 : Int))))) [(105 : UInt8), (110 : UInt8)]))) (0 : Int)))) := fun a => by kernel_rfl
theorem m_lea : ∀ a, (methT1 P BTV51 30 136 153 0 lPar (.tops 0) dRul) a = T.run (
  .chk (decide (parOk a.1)) <|
  .chk (decide (parOk (Prod.fst (headW a.1 (3 : Int))))) <|
  .ret ((Prod.fst (numV (Prod.fst (headW a.1 (3 : Int)))), Rul.mk (Rul.kind (Prod.snd (headV a.1 (3 : Int)))) (Rul.due (Prod.snd (headV a.1 (3 : Int)))) (decF rStr (List.length (Rul.grades (Prod.snd (headV a.1 (3 : Int))))) fun i => encF rStr (Rul.grades (Prod.snd (headV a.1 (3 : Int)))) ((0 : Nat) + i)) [] (Prod.snd (numV (Prod.fst (headW a.1 (3 : Int))))) (0 : Int) (0 : Int)))) := fun a => by kernel_rfl
theorem m_mos : ∀ a, (methT1 P BTV51 30 137 153 0 lPar (.tops 0) dRul) a = T.run (
  .chk (decide (parOk a.1)) <|
  .chk (decide (parOk (Prod.fst (headW a.1 (4 : Int))))) <|
  .ret ((Prod.fst (numV (Prod.fst (headW a.1 (4 : Int)))), Rul.mk (Rul.kind (Prod.snd (headV a.1 (4 : Int)))) (Rul.due (Prod.snd (headV a.1 (4 : Int)))) (decF rStr (List.length (Rul.grades (Prod.snd (headV a.1 (4 : Int))))) fun i => encF rStr (Rul.grades (Prod.snd (headV a.1 (4 : Int)))) ((0 : Nat) + i)) [] (Prod.snd (numV (Prod.fst (headW a.1 (4 : Int))))) (0 : Int) (0 : Int)))) := fun a => by kernel_rfl
end Go.Proofs.YtkpligkggnjcoaaGreatDoor
/-! TV6 -/
namespace Go.Proofs.YtkpligkggnjcoaaGreatDoor
open Ev K
set_option maxRecDepth 100000
namespace K
theorem tmV_eq (p : Par) (h : parOk p) : methT1 P BTV51 30 189 153 0 lPar (.tops 0) dTrm (p, ()) = some (termV p) := by
  rw [m_term]
  unfold termV
  refine chk_step (decide_eq_true h) ?_
  by_cases hf : textV p = wFlat
  · rw [if_pos hf]
    exact br_t (decide_eq_true hf) (chk_step (decide_eq_true (text_step hf (by decide) h).2.1) rfl)
  · rw [if_neg hf]
    refine br_f (decide_eq_false hf) ?_
    have h1 := must_ok (m := wPer) (by decide) h
    have h2 := num_ok h1.2.1
    have h3 := must_ok (m := wPay) (by decide) h2.2.1
    have h4 := num_ok h3.2.1
    refine chk_step (decide_eq_true h) (chk_step (decide_eq_true h1.2.1) (chk_step (decide_eq_true h2.2.1) (chk_step (decide_eq_true h3.2.1) (chk_step (decide_eq_true h4.2.1) ?_))))
    show _ = some (_, Trm.mk _ _ _ _)
    simp only [show ([112, 101, 114] : Str) = wPer from rfl, show ([112, 97, 121] : Str) = wPay from rfl, show ([97, 98, 111, 118, 101] : Str) = wAbove from rfl, show ([117, 112, 116, 111] : Str) = wUpto from rfl]
    generalize numV (mustV p wPer) = a at *
    generalize numV (mustV a.1 wPay) = b at *
    unfold aboveV uptoV
    by_cases ha : textV b.1 = wAbove
    · rw [if_pos ha]
      have h5 := text_step ha (by decide) h4.2.1
      have h6 := num_ok h5.2.1
      refine br_t (decide_eq_true ha) (chk_step (decide_eq_true h5.2.1) (chk_step (decide_eq_true h6.2.1) ?_))
      by_cases hu : textV (numV b.1.step).1 = wUpto
      · rw [if_pos hu]
        exact br_t (decide_eq_true hu) (chk_step (decide_eq_true (text_step hu (by decide) h6.2.1).2.1) rfl)
      · rw [if_neg hu]
        exact br_f (decide_eq_false hu) rfl
    · rw [if_neg ha]
      refine br_f (decide_eq_false ha) (chk_step (decide_eq_true h4.2.1) ?_)
      by_cases hu : textV b.1 = wUpto
      · rw [if_pos hu]
        exact br_t (decide_eq_true hu) (chk_step (decide_eq_true (text_step hu (by decide) h4.2.1).2.1) rfl)
      · rw [if_neg hu]
        exact br_f (decide_eq_false hu) rfl
theorem reb_eq (p : Par) (h : parOk p) : methT1 P BTV51 30 135 153 0 lPar (.tops 0) dRul (p, ()) = some (rebateV p) := by
  rw [m_reb]
  have h1 := head_ok 2 h
  have h2 := num_ok h1.2.1
  have h3 := must_ok (m := wIn) (by decide) h2.2.1
  simp only [Nat.zero_add, decF_encF]
  exact chk_step (decide_eq_true h) (chk_step (decide_eq_true h1.2.1) (chk_step (decide_eq_true h2.2.1) (chk_step (decide_eq_true h3.2.1) rfl)))
theorem lea_eq (p : Par) (h : parOk p) : methT1 P BTV51 30 136 153 0 lPar (.tops 0) dRul (p, ()) = some (leastV p) := by
  rw [m_lea]
  have h1 := head_ok 3 h
  simp only [Nat.zero_add, decF_encF]
  exact chk_step (decide_eq_true h) (chk_step (decide_eq_true h1.2.1) rfl)
theorem mos_eq (p : Par) (h : parOk p) : methT1 P BTV51 30 137 153 0 lPar (.tops 0) dRul (p, ()) = some (mostV p) := by
  rw [m_mos]
  have h1 := head_ok 4 h
  simp only [Nat.zero_add, decF_encF]
  exact chk_step (decide_eq_true h) (chk_step (decide_eq_true h1.2.1) rfl)
end K
noncomputable def BTV61 : Tab := BTV51.addTurn 189 (methC 153 lPar (.tops 0) dTrm (fun a => .chk (decide (K.parOk a.1)) (.ret (K.stk (K.termV a.1)))))
theorem tTV61 : TabOk P BTV61 := TabOk.addMC (wd := 0) (d := 30) okP tTV51 tTV51 (fun o _a _o' _r h => K.mc_stk h (K.tmV_eq o))
noncomputable def BTV62 : Tab := BTV61.addTurn 135 (methC 153 lPar (.tops 0) dRul (fun a => .chk (decide (K.parOk a.1)) (.ret (K.stk (K.rebateV a.1)))))
theorem tTV62 : TabOk P BTV62 := TabOk.addMC (wd := 0) (d := 30) okP tTV61 tTV51 (fun o _a _o' _r h => K.mc_stk h (K.reb_eq o))
noncomputable def BTV63 : Tab := BTV62.addTurn 136 (methC 153 lPar (.tops 0) dRul (fun a => .chk (decide (K.parOk a.1)) (.ret (K.stk (K.leastV a.1)))))
theorem tTV63 : TabOk P BTV63 := TabOk.addMC (wd := 0) (d := 30) okP tTV62 tTV51 (fun o _a _o' _r h => K.mc_stk h (K.lea_eq o))
noncomputable def BTV64 : Tab := BTV63.addTurn 137 (methC 153 lPar (.tops 0) dRul (fun a => .chk (decide (K.parOk a.1)) (.ret (K.stk (K.mostV a.1)))))
theorem tTV64 : TabOk P BTV64 := TabOk.addMC (wd := 0) (d := 30) okP tTV63 tTV51 (fun o _a _o' _r h => K.mc_stk h (K.mos_eq o))
def lRT : DecL (Int × Str × List Str × Nat × Unit) := .cons dInt (.cons dStr (.cons (dRows rStr) (.cons (dO 3) (.unit (dK 0) (.unit (dK 0) (.unit (dK 0) (.tops 0)))))))
def O_du : DecB (Par × Rul × (Int × Str × List Str × Nat × Unit) × List Trm × Unit) := .flat 153 lPar (.flat 68 lRul (.flat 68 lRT (.rows 86 rTrm .nil)))
def S_du := DecS.rnd (.unit (dLp 0 0 0 0) (.skip (.unit (dLp 1 0 0 0) (.unit (dLp 2 0 0 0) (.tops 21))))) O_du V_me
def X_du := DecX.one (.exit 0) [0, 2, 3] S_du
noncomputable def K.st_du := loopT1 P BTV64 30 134 33 [3, 0, 2] S_du X_du
theorem sl_du : ∀ s, (K.st_du) s = T.run (
 let q7 := Par.step s.2.1.1;
 let q1 := Prod.snd (stk (termV q7));
 let q4 := s.2.1.2.1;
 let q2 := decF rStr (List.length (Rul.grades q4)) fun i => encF rStr (Rul.grades q4) ((0 : Nat) + i);
 let q3 := decF rTrm (List.length (Rul.terms q4)) fun i => encF rTrm (Rul.terms q4) ((0 : Nat) + i);
 let q5 := s.2.1.2.2.2.1;
 let q6 := s.2.1.2.2.1.2.2.1;
  .chk (decide (parOk s.2.1.1)) <|
  .br (decide (textV s.2.1.1 = [(44 : UInt8)])) (
    .chk (decide (parOk q7)) <|
    .chk (decide ((List.length q5 + (1 : Nat)) * (32 : Nat) ≤ (140737488355328 : Nat) ∧ List.length q5 + (1 : Nat) ≤ nat_lit 9223372036854775807)) <|
    .ret (Sum.inl (PUnit.unit, (Prod.fst (stk (termV q7)), Rul.mk (Rul.kind q4) (Rul.due q4) q2 q3 (Rul.n q4) (Rul.d q4) (Rul.way q4), (s.2.1.2.2.1.1, s.2.1.2.2.1.2.1, decF rStr (List.length q6) fun i => encF rStr q6 ((0 : Nat) + i), List.length q5 + (1 : Nat), PUnit.unit), decF rTrm (List.length q5 + (1 : Nat)) (appG (List.length q5) (encF rTrm q5) fun i k => Option.getD [AV.int IntKind.i64 (Trm.per q1), AV.int IntKind.i64 (Trm.pay q1), AV.int IntKind.i64 (Trm.above q1), AV.int IntKind.i64 (Trm.upto q1)][((0 : Nat) + i) * (4 : Nat) + k]? AV.top), PUnit.unit), PUnit.unit))) (
    .ret (Sum.inr (PUnit.unit, (s.2.1.1, Rul.mk (Rul.kind q4) (Rul.due q4) q2 q3 (Rul.n q4) (Rul.d q4) (Rul.way q4), (s.2.1.2.2.1.1, s.2.1.2.2.1.2.1, decF rStr (List.length q6) fun i => encF rStr q6 ((0 : Nat) + i), s.2.1.2.2.1.2.2.2.1, PUnit.unit), decF rTrm (List.length q5) (encF rTrm q5), PUnit.unit), PUnit.unit)))) := fun s => by kernel_rfl
noncomputable def K.L_du := lim K.st_du
noncomputable def BTV65 : Tab := BTV64.addNode 134 33 (nodeE [3, 0, 2] S_du X_du (fun s => .obs (K.L_du s) .ret))
theorem tTV65 : TabOk P BTV65 := TabOk.addLoop (d := 30) okP tTV64 (by kernel_rfl) (by kernel_rfl) (fun s r h => obs_ret h)
theorem m_due : ∀ a, (methT1 P BTV65 30 134 153 0 lPar (.tops 0) dRul) a = T.run (
 let q3 := Prod.fst (headW a.1 (1 : Int));
 let q1 := stk (termV (mustV q3 [(58 : UInt8)]));
 let q2 := Prod.snd (headV a.1 (1 : Int));
 let q4 := (0 : Int);
 let q5 := q1.2;
  .chk (decide (parOk a.1)) <|
  .chk (decide (parOk q3)) <|
  .chk (decide (parOk (mustV q3 [(58 : UInt8)]))) <|
  .obs (L_du (PUnit.unit, (q1.1, Rul.mk q4 [] [] [] q4 q4 q4, (Rul.kind q2, Rul.due q2, decF rStr (List.length (Rul.grades q2)) fun i => encF rStr (Rul.grades q2) ((0 : Nat) + i), (1 : Nat), PUnit.unit), decF rTrm (1 : Nat) fun i k => Option.getD [AV.int IntKind.i64 (Trm.per q5), AV.int IntKind.i64 (Trm.pay q5), AV.int IntKind.i64 (Trm.above q5), AV.int IntKind.i64 (Trm.upto q5)][((0 : Nat) + i) * (4 : Nat) + k]? AV.top, PUnit.unit), PUnit.unit)) fun x0 =>
    .ret ((x0.2.1.1, Rul.mk x0.2.1.2.2.1.1 x0.2.1.2.2.1.2.1 (decF rStr (List.length x0.2.1.2.2.1.2.2.1) fun i => encF rStr x0.2.1.2.2.1.2.2.1 ((0 : Nat) + i)) (decF rTrm (List.length x0.2.1.2.2.2.1) fun i => encF rTrm x0.2.1.2.2.2.1 ((0 : Nat) + i)) q4 q4 q4))) := fun a => by kernel_rfl
end Go.Proofs.YtkpligkggnjcoaaGreatDoor
/-! TV7 -/
namespace Go.Proofs.YtkpligkggnjcoaaGreatDoor
open Ev K
set_option maxRecDepth 100000
namespace K
theorem pushT1 (l : List Trm) (a b c d : Int) : decF rTrm (l.length + 1) (appG l.length (encF rTrm l) fun i k => ([(.int .i64 a : AV), .int .i64 b, .int .i64 c, .int .i64 d][i * 4 + k]?).getD .top) = l ++ [⟨a, b, c, d⟩] := (decF_app rTrm l 1 _).trans rfl
theorem L_du_eq (z : Rul) (k : Int) (d : Str) (gr : List Str) : ∀ (m : Nat) (p : Par) (g : List Trm), parOk p → (p.l.length : Int) - p.pos < m → (g.length : Int) + ((p.l.length : Int) - p.pos) ≤ 1100000 →
    L_du ((), (p, z, (k, d, gr, g.length, ()), g, ()), ()) = some ((), ((listV termV m p g).1, z, (k, d, gr, (listV termV m p g).2.length, ()), (listV termV m p g).2, ()), ()) := by
  intro m
  induction m with
  | zero => intro p g hp hm _; have := hp.2.1; omega
  | succ m ih =>
    intro p g hp hm hg
    unfold listV
    have hq := hp.2.1
    by_cases hc : textV p = wComma
    · rw [if_pos hc]
      have h1 := text_step hc (by decide) hp
      have h2 := term_ok h1.2.1
      obtain ⟨r1, r2⟩ := left_lt h2 (m := m) (by omega)
      have r3 : ((g ++ [(termV p.step).2]).length : Int) = (g.length : Int) + 1 := by rw [List.length_append]; simp
      refine (lim_step ?_).trans (ih (termV p.step).1 (g ++ [(termV p.step).2]) h2.2.1 r1 (by omega))
      rw [sl_du]
      simp only [Nat.zero_add, decF_encF, stk_eq]
      refine chk_step (decide_eq_true hp) (br_t (decide_eq_true hc) (chk_step (decide_eq_true h1.2.1) (chk_step (decide_eq_true (by omega)) ?_)))
      simp only [pushT1]
      rw [List.length_append, List.length_singleton]; rfl
    · rw [if_neg hc]
      refine lim_done ?_
      rw [sl_du]
      simp only [Nat.zero_add, decF_encF, stk_eq]
      exact chk_step (decide_eq_true hp) (br_f (decide_eq_false hc) rfl)
theorem due_eq (p : Par) (h : parOk p) : methT1 P BTV65 30 134 153 0 lPar (.tops 0) dRul (p, ()) = some (dueV p) := by
  rw [m_due]
  have h1 := head_ok 1 h
  have h2 := must_ok (m := wColon) (by decide) h1.2.1
  have h3 := term_ok h2.2.1
  simp only [Nat.zero_add, decF_encF, stk_eq]
  refine chk_step (decide_eq_true h) (chk_step (decide_eq_true h1.2.1) (chk_step (decide_eq_true h2.2.1) ?_))
  refine obs_step (L_du_eq _ _ _ _ (fuelV (termV (mustV (headV p 1).1 wColon)).1) (termV (mustV (headV p 1).1 wColon)).1 [(termV (mustV (headV p 1).1 wColon)).2] h3.2.1 (fuel_lt _ h3.2.1) ?_) ?_
  · have a := h3.2.1.1; have b := h3.2.1.2.2.1
    show (1 : Int) + _ ≤ _; omega
  · simp only; rfl
end K
noncomputable def BTV71 : Tab := BTV65.addTurn 134 (methC 153 lPar (.tops 0) dRul (fun a => .chk (decide (K.parOk a.1)) (.ret (K.stk (K.dueV a.1)))))
theorem tTV71 : TabOk P BTV71 := TabOk.addMC (wd := 0) (d := 30) okP tTV65 tTV65 (fun o _a _o' _r h => K.mc_stk h (K.due_eq o))
noncomputable def BTV72 : Tab := BTV71.addInl 169
theorem tTV72 : TabOk P BTV72 := TabOk.addInl tTV71
theorem m_rnd : ∀ a, (methT1 P BTV72 30 138 153 0 lPar (.tops 0) dRul) a = T.run (
 let q2 := Prod.fst (headW a.1 (5 : Int));
 let q1 := ixI (decF rStr (4 : Nat) fun i k => Option.getD [AV.str [], AV.str [(117 : UInt8), (112 : UInt8)], AV.str [(100 : UInt8), (111 : UInt8), (119 : UInt8), (110 : UInt8)], AV.str [(110 : UInt8), (101 : UInt8), (97 : UInt8), (114 : UInt8)]][((0 : Nat) + i) * (1 : Nat) + k]? AV.top) fun y => textV q2 == y;
 let q3 := Prod.snd (headV a.1 (5 : Int));
 let q4 := Par.mk (Par.x q2) (IntKind.wrap IntKind.i64 (Par.pos q2 + (1 : Int))) (Par.wrong q2);
 let q5 := decF rStr (List.length (Rul.grades q3)) fun i => encF rStr (Rul.grades q3) ((0 : Nat) + i);
  .chk (decide (parOk a.1)) <|
  .chk (decide (parOk q2)) <|
  .chk (decide (nat_lit 4 ≤ (1000000 : Nat))) <|
  .br (decide (q1 < (1 : Int))) (
    .ret ((Par.mk (Par.x q2) (Par.pos q2) true, Rul.mk (Rul.kind q3) (Rul.due q3) q5 [] (0 : Int) (0 : Int) q1))) (
    .chk (decide (parOk q4)) <|
    .ret ((Prod.fst (numV q4), Rul.mk (Rul.kind q3) (Rul.due q3) q5 [] (Prod.snd (numV q4)) (0 : Int) q1)))) := fun a => by kernel_rfl
end Go.Proofs.YtkpligkggnjcoaaGreatDoor
