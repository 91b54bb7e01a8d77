/- SurveyLoads: for every input the law returns true, and the input reads as it did. No conditions. -/
import Derived.Test.YtjbhooodjmjdkaaGreatRows
import Derived.Test.YtjbhooodjmjdkaaGreatLo11
/-! KLs8 -/
namespace Go.Proofs.YtjbhooodjmjdkaaGreat
open Ev K
set_option maxRecDepth 100000
namespace K
def mx (a b : Int) : Int := if b > a then b else a
section
variable {s : Ship} (hs : ShipOk s) {l : LoadL} (hl : LoadOk s l)
theorem L_d57_eq (s : Ship) (l : LoadL) (h : K.len s.holds ≤ 1000) : L_d57 ((colH s 2 (K.len s.holds), (K.len s.holds : Int), 0), s, l, colH s 2 (K.len s.holds), 0, [], ()) = some ((), s, l, colH s 2 (K.len s.holds), K.len s.holds, levR s (-1) (K.len s.holds), ()) := by
  refine lim_all (fun i => ((colH s 2 (K.len s.holds), (K.len s.holds : Int), (i : Int)), s, l, colH s 2 (K.len s.holds), i, levR s (-1) i, ())) (K.len s.holds) (fun i hi => ?_) ?_
  · rw [sl_d57]
    simp only [Int.toNat_natCast, levR_length, decF_enc0]
    refine (T.run_br _ _ _).trans ?_
    rw [if_pos (decide_eq_true (by omega))]
    refine chk_step (decide_eq_true (by rw [colH_length]; omega)) (chk_step (decide_eq_true (by omega)) ?_)
    have e1 : IntKind.wrap IntKind.i64 (0 - numOf (encF rInt (colH s 2 (K.len s.holds)) (0 + i) 0)) = IntKind.i64.wrap (-1 * s.holds.g i 2) := by
      rw [Nat.zero_add]
      show IntKind.wrap IntKind.i64 (0 - vI (colH s 2 (K.len s.holds)) i) = _
      rw [colH_vI _ _ _ _ hi, Int.zero_sub, Int.neg_mul, Int.one_mul]
    rw [e1]
    have h1 := decF_push rInt (levR s (-1) i) (fun i_1 k => Option.getD [AV.int IntKind.i64 (IntKind.i64.wrap (-1 * s.holds.g i 2))][((0 : Nat) + i_1) * (1 : Nat) + k]? AV.top)
    rw [levR_length] at h1
    rw [h1, w64_in (n := (i : Int) + 1) (by omega) (by omega), levR_succ, T.run_ret]; rfl
  · rw [sl_d57]
    simp only [decF_enc0, decF_encF]
    refine (T.run_br _ _ _).trans ?_
    rw [if_neg (by simp)]
    have := decF_encF rInt (levR s (-1) (K.len s.holds))
    rw [levR_length] at this
    rfl
/-- How deep a ship lies with a total: by the levers, by the opposite ones. -/
noncomputable def dF (s : Ship) (l : LoadL) (t : Int) : Int := deepC s (bestL l.holds (colH s 2 (K.len s.holds)) t)
noncomputable def dA (s : Ship) (l : LoadL) (t : Int) : Int := deepC s (bestL l.holds (levR s (-1) (K.len s.holds)) t)
noncomputable def foldD (s : Ship) (l : LoadL) : List Int → Bool → Int → Int
  | [], _, d => d
  | t :: L, b, d => foldD s l L true (if b = true then mx (mx d (dF s l t)) (dA s l t) else mx (dF s l t) (dA s l t))
include hs hl
theorem deep_greater {f : List Int} {t : Int} (ht : (totS l).lo ≤ t ∧ t ≤ (totS l).hi) : ∃ p, afloat (s, bestL l.holds f t) = some p ∧ greater (p.1.hi, p.2.hi) = deepC s (bestL l.holds f t) := by
  refine ⟨_, (afloat_is hs (best_ok hs hl ht)).1, ?_⟩
  unfold greater deepC
  simp only [decide_eq_true_eq]
theorem st_d113_eq (k : Nat) (d : Int) (m : Nat) (xs : List Int) (b : Bool) {t : Int} (ht : (totS l).lo ≤ t ∧ t ≤ (totS l).hi) :
    ∃ m' xs', st_d113 (l, s, l, colH s 2 (K.len s.holds), k, levR s (-1) (K.len s.holds), d, m, xs, b, ()) t = some (.inl (l, s, l, colH s 2 (K.len s.holds), k, levR s (-1) (K.len s.holds), (if b = true then mx (mx d (dF s l t)) (dA s l t) else mx (dF s l t) (dA s l t)), m', xs', true, ())) := by
  have h8 := hs.holds
  obtain ⟨p, hp1, hp2⟩ := deep_greater hs hl (f := colH s 2 (K.len s.holds)) ht
  obtain ⟨q, hq1, hq2⟩ := deep_greater hs hl (f := levR s (-1) (K.len s.holds)) ht
  have c1 := best_chk hs hl (f := colH s 2 (K.len s.holds)) (colH_length _ _ _) ht
  have c2 := best_chk hs hl (f := levR s (-1) (K.len s.holds)) (levR_length _ _ _) ht
  have hF : deepC s (bestL l.holds (colH s 2 (K.len s.holds)) t) = dF s l t := rfl
  have hA : deepC s (bestL l.holds (levR s (-1) (K.len s.holds)) t) = dA s l t := rfl
  rw [rg_d113]
  simp only [decF_enc0, decF_encF]
  unfold mx
  cases b with
  | false =>
    by_cases g : dA s l t > dF s l t
    · exact ⟨_, _, chk_step c1 (by
        rw [hp1, T.run_some, T.run_br, if_pos (show (!false) = true from rfl)]
        refine chk_step c2 ?_
        rw [hq1, T.run_some, T.run_br, hp2, hq2, hF, hA, if_pos (decide_eq_true g), if_neg (by simp), if_pos g, T.run_ret])⟩
    · exact ⟨_, _, chk_step c1 (by
        rw [hp1, T.run_some, T.run_br, if_pos (show (!false) = true from rfl)]
        refine chk_step c2 ?_
        rw [hq1, T.run_some, T.run_br, hp2, hq2, hF, hA, if_neg (by simpa using g), if_neg (by simp), if_neg g, T.run_ret])⟩
  | true =>
    by_cases g : dF s l t > d
    · by_cases g2 : dA s l t > dF s l t
      · exact ⟨_, _, chk_step c1 (by
          rw [hp1, T.run_some, T.run_br, if_neg (by simp), T.run_br, hp2, hF, if_pos (decide_eq_true g)]
          refine chk_step c2 ?_
          rw [hq1, T.run_some, T.run_br, hq2, hA, if_pos (decide_eq_true g2), if_pos rfl, if_pos g, if_pos g2, T.run_ret])⟩
      · exact ⟨_, _, chk_step c1 (by
          rw [hp1, T.run_some, T.run_br, if_neg (by simp), T.run_br, hp2, hF, if_pos (decide_eq_true g)]
          refine chk_step c2 ?_
          rw [hq1, T.run_some, T.run_br, hq2, hA, if_neg (by simpa using g2), if_pos rfl, if_pos g, if_neg g2, T.run_ret])⟩
    · by_cases g2 : dA s l t > d
      · exact ⟨_, _, chk_step c1 (by
          rw [hp1, T.run_some, T.run_br, if_neg (by simp), T.run_br, hp2, hF, if_neg (by simpa using g)]
          refine chk_step c2 ?_
          rw [hq1, T.run_some, T.run_br, if_neg (by simp), T.run_br, hq2, hA, if_pos (decide_eq_true g2), if_pos rfl, if_neg g, if_pos g2, T.run_ret])⟩
      · exact ⟨_, _, chk_step c1 (by
          rw [hp1, T.run_some, T.run_br, if_neg (by simp), T.run_br, hp2, hF, if_neg (by simpa using g)]
          refine chk_step c2 ?_
          rw [hq1, T.run_some, T.run_br, if_neg (by simp), T.run_br, hq2, hA, if_neg (by simpa using g2), if_pos rfl, if_neg g, if_neg g2, T.run_ret])⟩
theorem fold_d113 (k : Nat) : ∀ (L : List Int) (d : Int) (m : Nat) (xs : List Int) (b : Bool), (∀ t ∈ L, (totS l).lo ≤ t ∧ t ≤ (totS l).hi) →
    ∃ m' xs' b', foldS st_d113 L (l, s, l, colH s 2 (K.len s.holds), k, levR s (-1) (K.len s.holds), d, m, xs, b, ()) = some (.inl (l, s, l, colH s 2 (K.len s.holds), k, levR s (-1) (K.len s.holds), foldD s l L b d, m', xs', b', ()))
  | [], d, m, xs, b, _ => ⟨m, xs, b, rfl⟩
  | t :: L, d, m, xs, b, h => by
    obtain ⟨m1, xs1, h1⟩ := st_d113_eq hs hl k d m xs b (h t (List.mem_cons_self ..))
    obtain ⟨m2, xs2, b2, h2⟩ := fold_d113 k L (if b = true then mx (mx d (dF s l t)) (dA s l t) else mx (dF s l t) (dA s l t)) m1 xs1 true (fun t ht => h t (List.mem_cons_of_mem _ ht))
    refine ⟨m2, xs2, b2, ?_⟩
    unfold foldS
    rw [h1]; exact h2
/-- How deep a ship can lie. -/
noncomputable def deepest (s : Ship) (l : LoadL) : Int := foldD s l (eachL l) false 0
theorem Deepest_is (hc : checkLoad (s, l) = 0) : ∃ xs, Deepest (s, l) = some (deepest s l, xs, 0) := by
  have h8 := hs.holds; have h := hl.len
  unfold Deepest
  simp only [decF_enc0]
  rw [show (LoadL.mk l.holds l.all) = l from rfl]
  obtain ⟨m, xs, b, hf⟩ := fold_d113 hs hl (K.len s.holds) (eachL l) 0 0 [] false (fun t ht => each_mem ht)
  refine ⟨xs, chk_step (decide_eq_true (by omega)) ?_⟩
  rw [T.run_br, hc, if_neg (by simp)]
  refine chk_step (decide_eq_true (by omega)) ?_
  have hcl : clampL (colH s 2 (K.len s.holds)).length = K.len s.holds := by rw [colH_length, clampL_eq (by unfold maxL; omega)]
  rw [hcl]
  show T.run (.obs (L_d57 ((colH s 2 (K.len s.holds), (K.len s.holds : Int), 0), s, l, colH s 2 (K.len s.holds), 0, [], ())) _) = _
  rw [L_d57_eq s l (by omega), T.run_some]
  simp only [decF_enc0, decF_encF]
  rw [show (LoadL.mk l.holds l.all) = l from rfl]
  refine chk_step (lo_each hs hl) ?_
  show T.run (.obs (foldS st_d113 (eachL l) (l, s, l, colH s 2 (K.len s.holds), K.len s.holds, levR s (-1) (K.len s.holds), 0, 0, [], false, ())) _) = _
  rw [hf, T.run_some]; rfl
/-! the reference's -/
theorem L_rdp_eq (z : Int × Int) : ∀ (n : Nat) (t d : Int), (totS l).lo ≤ t → t + (n : Int) = (totS l).hi + 1 → L_rdp ((d, t), s, l, z, totS l, ()) = some (((List.range n).map fun i : Nat => t + (i : Int)).foldl (fun d t => mx (mx d (dF s l t)) (dA s l t)) d, z, ()) := by
  have h8 := hs.holds; have hlen := hl.len
  have hb := lo_tot hs hl
  intro n
  induction n with
  | zero =>
    intro t d ht he
    refine lim_done ?_
    rw [sl_rdp]
    refine (T.run_br _ _ _).trans ?_
    rw [if_neg (by rw [decide_eq_true_eq]; show ¬ t ≤ (totS l).hi; omega)]; rfl
  | succ n ih =>
    intro t d ht he
    have htt : (totS l).lo ≤ t ∧ t ≤ (totS l).hi := by omega
    have hstep : st_rdp ((d, t), s, l, z, totS l, ()) = some (.inl ((mx (mx d (dF s l t)) (dA s l t), t + 1), s, l, z, totS l, ())) := by
      rw [sl_rdp]
      simp only [decF_enc0]
      refine (T.run_br _ _ _).trans ?_
      rw [if_pos (decide_eq_true htt.2)]
      refine chk_step (decide_eq_true (by omega)) ?_
      rw [levR_one hs, rFill_is (lo_holds hs hl) (by rw [colH_length, hlen]) (by omega), T.run_some, deep_is hs (best_ok hs hl htt), T.run_some]
      refine chk_step (decide_eq_true (by omega)) ?_
      rw [rFill_is (lo_holds hs hl) (by rw [levR_length, hlen]) (by omega), T.run_some, deep_is hs (best_ok hs hl htt), T.run_some, T.run_ret, w64_in (n := t + 1) (by omega) (by omega)]; rfl
    rw [show L_rdp = lim st_rdp from rfl, lim_step hstep]
    have := ih (t + 1) (mx (mx d (dF s l t)) (dA s l t)) (by omega) (by omega)
    rw [show L_rdp = lim st_rdp from rfl] at this
    rw [this, List.range_succ_eq_map, List.map_cons, List.foldl_cons, List.map_map]
    have e : (List.map (fun i : Nat => t + 1 + (i : Int)) (List.range n)) = List.map ((fun i : Nat => t + (i : Int)) ∘ Nat.succ) (List.range n) := List.map_congr_left (fun i _ => by simp only [Function.comp]; omega)
    rw [e]
    simp
omit hs hl in
theorem foldD_true (s : Ship) (l : LoadL) : ∀ (L : List Int) (d : Int), foldD s l L true d = L.foldl (fun d t => mx (mx d (dF s l t)) (dA s l t)) d
  | [], _ => rfl
  | t :: L, d => by unfold foldD; rw [if_pos rfl, foldD_true s l L, List.foldl_cons]
theorem rDeepest_is (hc : checkLoad (s, l) = 0) : rDeepest (s, l) = some (deepest s l, 0) := by
  have h8 := hs.holds; have h := hl.len
  have hb := lo_tot hs hl; have ht := hl.tot
  have htt : (totS l).lo ≤ (totS l).lo ∧ (totS l).lo ≤ (totS l).hi := by omega
  unfold rDeepest
  simp only [decF_enc0]
  rw [show (LoadL.mk l.holds l.all) = l from rfl, rCheckLoad_is s (by omega), hc, T.run_some, T.run_br, if_neg (by simp), rTotals_is hs hl, T.run_some]
  refine chk_step (decide_eq_true (by omega)) ?_
  rw [levR_one hs, rFill_is (lo_holds hs hl) (by rw [colH_length, h]) (by omega), T.run_some, deep_is hs (best_ok hs hl htt), T.run_some]
  rw [L_rdp_eq hs hl (0, 0) ((totS l).hi + 1 - (totS l).lo).toNat (totS l).lo _ (by omega) (by omega), T.run_some, T.run_ret]
  have e : deepest s l = ((List.range ((totS l).hi + 1 - (totS l).lo).toNat).map fun i : Nat => (totS l).lo + (i : Int)).foldl (fun d t => mx (mx d (dF s l t)) (dA s l t)) (dF s l (totS l).lo) := by
    unfold deepest eachL
    obtain ⟨n, hn⟩ : ∃ n, ((totS l).hi + 1 - (totS l).lo).toNat = n + 1 := ⟨((totS l).hi - (totS l).lo).toNat, by omega⟩
    rw [hn, List.range_succ_eq_map, List.map_cons, List.foldl_cons]
    unfold foldD
    rw [if_neg (by simp), foldD_true]
    have e0 : (totS l).lo + ((0 : Nat) : Int) = (totS l).lo := by simp
    rw [e0]
    have e1 : mx (dF s l (totS l).lo) (dF s l (totS l).lo) = dF s l (totS l).lo := by unfold mx; split <;> rfl
    rw [e1]
  rw [e]; rfl
/-- Whether a ship floats clear. -/
noncomputable def clearC (s : Ship) (l : LoadL) (depth keel : Int) : Bool × Int := if (!within depth 0 65536) = true then (false, 1) else if (!within keel 0 5000) = true then (false, 1) else (decide (IntKind.i64.wrap (deepest s l + keel) ≤ depth), 0)
theorem Clear_is (hc : checkLoad (s, l) = 0) (depth keel : Int) : Clear (s, l, depth, keel) = some (clearC s l depth keel) := by
  obtain ⟨xs, hd⟩ := Deepest_is hs hl hc
  unfold Clear clearC
  simp only [decF_enc0]
  rw [show (LoadL.mk l.holds l.all) = l from rfl, hd, T.run_some, T.run_br, if_neg (by simp)]
  exact br_step (fun _ => rfl) (fun _ => br_step (fun _ => rfl) (fun _ => rfl))
theorem rClear_is (hc : checkLoad (s, l) = 0) (depth keel : Int) : rClear (s, l, depth, keel) = some (clearC s l depth keel) := by
  unfold rClear clearC
  simp only [decF_enc0]
  rw [show (LoadL.mk l.holds l.all) = l from rfl, rDeepest_is hs hl hc, T.run_some, T.run_br, if_neg (by simp)]
  have e : ∀ a b c, r_in (a, b, c) = within a b c := fun a b c => by
    unfold r_in within
    simp only [ge_iff_le, decide_eq_true_eq]
    by_cases h : b ≤ a
    · rw [if_pos h, decide_eq_true h, Bool.true_and]
    · rw [if_neg h, decide_eq_false h, Bool.false_and]
  rw [e, e]
  exact br_step (fun _ => rfl) (fun _ => br_step (fun _ => rfl) (fun _ => rfl))
end
/-- Whether a ship is released. -/
noncomputable def relC (a : Ship × Bulbs × XS × Int × Int) : Bool × Int := if ((loadC (a.1, a.2.1, a.2.2.1)).2 != 0) = true then (false, (loadC (a.1, a.2.1, a.2.2.1)).2) else
  if ((clearC a.1 (loadC (a.1, a.2.1, a.2.2.1)).1 a.2.2.2.1 a.2.2.2.2).2 != 0) = true then (false, (clearC a.1 (loadC (a.1, a.2.1, a.2.2.1)).1 a.2.2.2.1 a.2.2.2.2).2) else
  if (shk a.1 (loadC (a.1, a.2.1, a.2.2.1)).1).isSome = true then (false, 0) else ((clearC a.1 (loadC (a.1, a.2.1, a.2.2.1)).1 a.2.2.2.1 a.2.2.2.2).1, 0)
theorem loadC_ok {a : Ship × Bulbs × XS} (h : (loadC a).2 = 0) : checkLoad (a.1, (loadC a).1) = 0 ∧ ShipOk a.1 ∧ LoadOk a.1 (loadC a).1 := by
  have key : checkLoad (a.1, (loadC a).1) = 0 := by
    unfold loadC at h ⊢
    by_cases h1 : ((sTog a).2 != 0) = true
    · rw [if_pos h1] at h; have h : (sTog a).2 = 0 := h; rw [h] at h1; exact absurd h1 (by decide)
    rw [if_neg h1] at h ⊢
    by_cases h2 : (checkLoad (a.1, loadOf a.1 (sTog a).1) != 0) = true
    · rw [if_pos h2] at h; have h : checkLoad (a.1, loadOf a.1 (sTog a).1) = 0 := h; rw [h] at h2; exact absurd h2 (by decide)
    rw [if_neg h2]
    simpa using h2
  exact ⟨key, checkLoad_ok key⟩
theorem Release_is (a : Ship × Bulbs × XS × Int × Int) : Release a = some (relC a) := by
  obtain ⟨s, b, x, depth, keel⟩ := a
  unfold Release relC
  rw [sLoad_is, T.run_some]
  simp only [decF_enc0]
  refine br_step (fun _ => rfl) (fun h => ?_)
  obtain ⟨hc, hs, hl⟩ := loadC_ok (bne_zero h)
  simp only at hc hs hl
  generalize (loadC (s, b, x)).1 = l at *
  rw [show (LoadL.mk l.holds l.all) = l from rfl]
  obtain ⟨xs, h1⟩ := Steady_is hs hl hc
  rw [h1, T.run_some, T.run_br, if_neg (by simp), Clear_is hs hl hc, T.run_some]
  refine br_step (fun _ => rfl) (fun _ => ?_)
  rw [T.run_br]
  cases (shk s l).isSome with
  | true => rw [if_neg (by simp), if_pos rfl]; rfl
  | false => exact (if_pos rfl).trans (by rw [if_neg (by simp)]; rfl)
theorem rRelease_is (a : Ship × Bulbs × XS × Int × Int) : rRelease a = some (relC a) := by
  obtain ⟨s, b, x, depth, keel⟩ := a
  unfold rRelease relC
  rw [rLoad_is, T.run_some]
  simp only [decF_enc0]
  refine br_step (fun _ => rfl) (fun h => ?_)
  obtain ⟨hc, hs, hl⟩ := loadC_ok (bne_zero h)
  simp only at hc hs hl
  generalize (loadC (s, b, x)).1 = l at *
  rw [show (LoadL.mk l.holds l.all) = l from rfl]
  obtain ⟨n, r, h1⟩ := rSteady_is hs hl hc
  rw [h1, T.run_some, T.run_br, if_neg (by simp), rClear_is hs hl hc, T.run_some]
  refine br_step (fun _ => rfl) (fun _ => ?_)
  rw [T.run_br]
  cases (shk s l).isSome with
  | true => rw [if_neg (by simp), if_pos rfl]; rfl
  | false => exact (if_pos rfl).trans (by rw [if_neg (by simp)]; rfl)
theorem sameLoads_self (l : LoadL) (h : l.holds.length ≤ 1000000) : sameLoads (l, l) = some true := by
  have hL : L_sld (0, l, l, ()) = some (.inr ()) := by
    refine lim_all (fun i => ((i : Int), l, l, ())) l.holds.length (fun i hi => ?_) ?_
    · rw [sl_sld]
      simp only [decF_enc0, Int.toNat_natCast]
      refine (T.run_br _ _ _).trans ?_
      rw [clampL_eq (by unfold maxL; omega), if_pos (decide_eq_true (by omega))]
      refine chk_step (decide_eq_true (by omega)) (chk_step (decide_eq_true (by omega)) ?_)
      rw [T.run_br, if_neg (by simp), w64_in (n := (i : Int) + 1) (by omega) (by omega)]; rfl
    · rw [sl_sld]
      refine (T.run_br _ _ _).trans ?_
      simp only [decF_enc0]
      rw [clampL_eq (by unfold maxL; omega), if_neg (by simp)]; rfl
  unfold sameLoads
  simp only [decF_enc0]
  rw [T.run_br, if_neg (by simp), T.run_br, if_neg (by simp), show (LoadL.mk l.holds l.all) = l from rfl, hL]; rfl
theorem loadC_len (a : Ship × Bulbs × XS) : (loadC a).1.holds.length ≤ 1000000 := by
  unfold loadC
  split
  · exact Nat.zero_le _
  rename_i h
  split
  · exact Nat.zero_le _
  obtain ⟨s, b, x⟩ := a
  obtain ⟨hs, _⟩ := sTog_ok (bne_zero h)
  have h8 := hs.holds
  show ((List.range _).map _).length ≤ _
  rw [List.length_map, List.length_range]
  show K.len s.holds ≤ _
  omega
def lawLo (_ : Ship × Bulbs × XS × Int × Int) : Bool := true
theorem lawLo_true (a : Ship × Bulbs × XS × Int × Int) : lawLo a = true := rfl
theorem lawLo_eq (a : Ship × Bulbs × XS × Int × Int) : callT1 P BKLr424 30 3 D_rel dB a = some (lawLo a) := by
  rw [fn_lawLo]
  rw [T.run_br]; split
  · rfl
  rw [T.run_br]; split
  · rfl
  rw [T.run_br]; split
  · rfl
  rw [sLoad_is, T.run_some, rLoad_is, T.run_some, Release_is, T.run_some, rRelease_is, T.run_some]
  simp only [decF_enc0]
  rw [show ∀ l : LoadL, (LoadL.mk l.holds l.all) = l from fun _ => rfl, sameLoads_self _ (loadC_len _), T.run_some]
  simp only [T.run_br, beq_self_eq_true, if_true, T.run_ret]; rfl
end K
end Go.Proofs.YtjbhooodjmjdkaaGreat
/-! KZLoads -/
namespace Go.Proofs.YtjbhooodjmjdkaaGreat
open Ev K
open Go.ChangeShapes Go.WideShapes Go.RowKit
set_option maxRecDepth 100000
theorem law_pc (a) : PC P 3 (D_rel.enc a) (.bool true) := by
  have h := lawLo_eq a
  rw [lawLo_true] at h
  exact call_of okP tKLr424 h
theorem ownP : ownKnob P.godebug = none := by kernel_rfl
theorem laidP : laidOutB P = true := by kernel_rfl
theorem ub : P.underlying 4 = some .bool := by kernel_rfl
theorem surveyLoads_lifted (os : Os) (started : os.Started) (H : Type) (enc : TypeId × Value → H) :
    ReturnsInHanded {} Tryz.checked os 3 .any (Rows.surveyLoadsSpec.pre6 enc Tryz.prog Tryz.f3 Rows.surveyLoadsRow.domain false) (Rows.surveyLoadsSpec.post enc Tryz.prog Tryz.f3 false true false false) := by
  refine returnsInHanded_of_change (C := Tryz.checked) ownP started (by kernel_rfl) Tryz.func3
    (ChangeSpec.witness6 (enc := enc) (C := Tryz.checked) false ⟨#[], #[.agg #[.int .i64 0, .int .i64 0, .int .i64 0, .int .i64 0, .slice none 0 0, .slice none 0 0, .int .i64 0, .slice none 0 0, .int .i64 0, .int .i64 0, .int .i64 0], .agg #[.slice none 0 0, .slice none 0 0], .slice none 0 0, .int .i64 0, .int .i64 0], []⟩ 8 (by kernel_rfl) (by kernel_rfl) (by kernel_rfl) (by kernel_rfl)) ?_
  intro W base args ds gs before hval hW _ _
  refine law_contract (P := Tryz.prog) D_rel laidP (by kernel_rfl) rfl (fun ds hd => ?_) (fun W' b sp hd => trodAll_mk1 (shut_bool ub true)) (fun W' => ok_one (by kernel_rfl) rfl (okWide_bool_mk ub true)) (fun W base args ds p hval hA => ?_) law_pc W base args ds gs before hval hW
  · rw [Tryz.params3] at hd
    match ds, hd with
    | [a, b, c, d, e], _ => rfl
  · rw [Tryz.params3] at hA hval
    obtain ⟨v0, vs0, d0, ds0, p0, q0, e0, _, _, h0, r0⟩ := trodAll_cons hA
    obtain ⟨v1, vs1, d1, ds1, p1, q1, e1, _, _, h1, r1⟩ := trodAll_cons r0
    obtain ⟨v2, vs2, d2, ds2, p2, q2, e2, _, _, h2, r2⟩ := trodAll_cons r1
    obtain ⟨v3, vs3, d3, ds3, p3, q3, e3, _, _, h3, r3⟩ := trodAll_cons r2
    obtain ⟨v4, vs4, d4, ds4, p4, q4, e4, _, _, h4, r4⟩ := trodAll_cons r3
    obtain ⟨e5, _, _⟩ := trodAll_nil r4
    subst e5; subst e4; subst e3; subst e2; subst e1
    have ha : args = #[v0, v1, v2, v3, v4] := by apply Array.ext'; exact e0
    subst ha
    exact rdL_cons (rp_ship (hval 0 _ v0 rfl rfl) h0) (rdL_cons (rp_bulbs (hval 1 _ v1 rfl rfl) h1) (rdL_cons (rp_surveys (hval 2 _ v2 rfl rfl) h2) (rdL_cons (rp_int (hval 3 _ v3 rfl rfl) h3) (rdL_last (rp_int (hval 4 _ v4 rfl rfl) h4)))))
theorem surveyLoads_holds : Rows.SurveyLoadsSaid :=
  OpenClaim.holds_of_wide 3 Tryz.f3 rfl rfl rfl rfl rfl rfl rfl ⟨rfl, rfl, rfl, rfl, rfl⟩ rfl rfl rfl rfl rfl (by kernel_rfl) Tryz.func3 (by kernel_rfl)
    (of_decide_eq_true (by kernel_rfl)) (by unfold Func.isWrapper; rw [if_neg (of_decide_eq_false (by kernel_rfl))]; exact ⟨rfl, rfl⟩)
    (fun os started H enc _ => surveyLoads_lifted os started H enc)
#print axioms surveyLoads_holds
end Go.Proofs.YtjbhooodjmjdkaaGreat
