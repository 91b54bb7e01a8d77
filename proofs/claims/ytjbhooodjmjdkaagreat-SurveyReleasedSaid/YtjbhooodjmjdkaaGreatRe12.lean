/- SurveyReleased: for every input the law returns true, and the input reads as it did. No conditions. -/
import Derived.Test.YtjbhooodjmjdkaaGreatRows
import Derived.Test.YtjbhooodjmjdkaaGreatRe11
/-! KLs8 -/
namespace Go.Proofs.YtjbhooodjmjdkaaGreat
open Ev K
set_option maxRecDepth 100000
namespace K
def mx (a b : Int) : Int := if b > a then b else a
section
variable {s : Ship} (hs : ShipOk s) {l : LoadL} (hl : LoadOk s l)
theorem L_d57_eq (s : Ship) (l : LoadL) (h : K.len s.holds ≤ 1000) : L_d57 ((colH s 2 (K.len s.holds), (K.len s.holds : Int), 0), s, l, colH s 2 (K.len s.holds), 0, [], ()) = some ((), s, l, colH s 2 (K.len s.holds), K.len s.holds, levR s (-1) (K.len s.holds), ()) := by
  refine lim_all (fun i => ((colH s 2 (K.len s.holds), (K.len s.holds : Int), (i : Int)), s, l, colH s 2 (K.len s.holds), i, levR s (-1) i, ())) (K.len s.holds) (fun i hi => ?_) ?_
  · rw [sl_d57]
    simp only [Int.toNat_natCast, levR_length, decF_enc0]
    refine (T.run_br _ _ _).trans ?_
    rw [if_pos (decide_eq_true (by omega))]
    refine chk_step (decide_eq_true (by rw [colH_length]; omega)) (chk_step (decide_eq_true (by omega)) ?_)
    have e1 : IntKind.wrap IntKind.i64 (0 - numOf (encF rInt (colH s 2 (K.len s.holds)) (0 + i) 0)) = IntKind.i64.wrap (-1 * s.holds.g i 2) := by
      rw [Nat.zero_add]
      show IntKind.wrap IntKind.i64 (0 - vI (colH s 2 (K.len s.holds)) i) = _
      rw [colH_vI _ _ _ _ hi, Int.zero_sub, Int.neg_mul, Int.one_mul]
    rw [e1]
    have h1 := decF_push rInt (levR s (-1) i) (fun i_1 k => Option.getD [AV.int IntKind.i64 (IntKind.i64.wrap (-1 * s.holds.g i 2))][((0 : Nat) + i_1) * (1 : Nat) + k]? AV.top)
    rw [levR_length] at h1
    rw [h1, w64_in (n := (i : Int) + 1) (by omega) (by omega), levR_succ, T.run_ret]; rfl
  · rw [sl_d57]
    simp only [decF_enc0, decF_encF]
    refine (T.run_br _ _ _).trans ?_
    rw [if_neg (by simp)]
    have := decF_encF rInt (levR s (-1) (K.len s.holds))
    rw [levR_length] at this
    rfl
noncomputable def dF (s : Ship) (l : LoadL) (t : Int) : Int := deepC s (bestL l.holds (colH s 2 (K.len s.holds)) t)
noncomputable def dA (s : Ship) (l : LoadL) (t : Int) : Int := deepC s (bestL l.holds (levR s (-1) (K.len s.holds)) t)
noncomputable def foldD (s : Ship) (l : LoadL) : List Int → Bool → Int → Int
  | [], _, d => d
  | t :: L, b, d => foldD s l L true (if b = true then mx (mx d (dF s l t)) (dA s l t) else mx (dF s l t) (dA s l t))
include hs hl
theorem deep_greater {f : List Int} {t : Int} (ht : (totS l).lo ≤ t ∧ t ≤ (totS l).hi) : ∃ p, afloat (s, bestL l.holds f t) = some p ∧ greater (p.1.hi, p.2.hi) = deepC s (bestL l.holds f t) := by
  refine ⟨_, (afloat_is hs (best_ok hs hl ht)).1, ?_⟩
  unfold greater deepC
  simp only [decide_eq_true_eq]
theorem st_d113_eq (k : Nat) (d : Int) (m : Nat) (xs : List Int) (b : Bool) {t : Int} (ht : (totS l).lo ≤ t ∧ t ≤ (totS l).hi) :
    ∃ m' xs', st_d113 (l, s, l, colH s 2 (K.len s.holds), k, levR s (-1) (K.len s.holds), d, m, xs, b, ()) t = some (.inl (l, s, l, colH s 2 (K.len s.holds), k, levR s (-1) (K.len s.holds), (if b = true then mx (mx d (dF s l t)) (dA s l t) else mx (dF s l t) (dA s l t)), m', xs', true, ())) := by
  have h8 := hs.holds
  obtain ⟨p, hp1, hp2⟩ := deep_greater hs hl (f := colH s 2 (K.len s.holds)) ht
  obtain ⟨q, hq1, hq2⟩ := deep_greater hs hl (f := levR s (-1) (K.len s.holds)) ht
  have c1 := best_chk hs hl (f := colH s 2 (K.len s.holds)) (colH_length _ _ _) ht
  have c2 := best_chk hs hl (f := levR s (-1) (K.len s.holds)) (levR_length _ _ _) ht
  have hF : deepC s (bestL l.holds (colH s 2 (K.len s.holds)) t) = dF s l t := rfl
  have hA : deepC s (bestL l.holds (levR s (-1) (K.len s.holds)) t) = dA s l t := rfl
  rw [rg_d113]
  simp only [decF_enc0, decF_encF]
  unfold mx
  cases b with
  | false =>
    by_cases g : dA s l t > dF s l t
    · exact ⟨_, _, chk_step c1 (by
        rw [hp1, T.run_some, T.run_br, if_pos (show (!false) = true from rfl)]
        refine chk_step c2 ?_
        rw [hq1, T.run_some, T.run_br, hp2, hq2, hF, hA, if_pos (decide_eq_true g), if_neg (by simp), if_pos g, T.run_ret])⟩
    · exact ⟨_, _, chk_step c1 (by
        rw [hp1, T.run_some, T.run_br, if_pos (show (!false) = true from rfl)]
        refine chk_step c2 ?_
        rw [hq1, T.run_some, T.run_br, hp2, hq2, hF, hA, if_neg (by simpa using g), if_neg (by simp), if_neg g, T.run_ret])⟩
  | true =>
    by_cases g : dF s l t > d
    · by_cases g2 : dA s l t > dF s l t
      · exact ⟨_, _, chk_step c1 (by
          rw [hp1, T.run_some, T.run_br, if_neg (by simp), T.run_br, hp2, hF, if_pos (decide_eq_true g)]
          refine chk_step c2 ?_
          rw [hq1, T.run_some, T.run_br, hq2, hA, if_pos (decide_eq_true g2), if_pos rfl, if_pos g, if_pos g2, T.run_ret])⟩
      · exact ⟨_, _, chk_step c1 (by
          rw [hp1, T.run_some, T.run_br, if_neg (by simp), T.run_br, hp2, hF, if_pos (decide_eq_true g)]
          refine chk_step c2 ?_
          rw [hq1, T.run_some, T.run_br, hq2, hA, if_neg (by simpa using g2), if_pos rfl, if_pos g, if_neg g2, T.run_ret])⟩
    · by_cases g2 : dA s l t > d
      · exact ⟨_, _, chk_step c1 (by
          rw [hp1, T.run_some, T.run_br, if_neg (by simp), T.run_br, hp2, hF, if_neg (by simpa using g)]
          refine chk_step c2 ?_
          rw [hq1, T.run_some, T.run_br, if_neg (by simp), T.run_br, hq2, hA, if_pos (decide_eq_true g2), if_pos rfl, if_neg g, if_pos g2, T.run_ret])⟩
      · exact ⟨_, _, chk_step c1 (by
          rw [hp1, T.run_some, T.run_br, if_neg (by simp), T.run_br, hp2, hF, if_neg (by simpa using g)]
          refine chk_step c2 ?_
          rw [hq1, T.run_some, T.run_br, if_neg (by simp), T.run_br, hq2, hA, if_neg (by simpa using g2), if_pos rfl, if_neg g, if_neg g2, T.run_ret])⟩
theorem fold_d113 (k : Nat) : ∀ (L : List Int) (d : Int) (m : Nat) (xs : List Int) (b : Bool), (∀ t ∈ L, (totS l).lo ≤ t ∧ t ≤ (totS l).hi) →
    ∃ m' xs' b', foldS st_d113 L (l, s, l, colH s 2 (K.len s.holds), k, levR s (-1) (K.len s.holds), d, m, xs, b, ()) = some (.inl (l, s, l, colH s 2 (K.len s.holds), k, levR s (-1) (K.len s.holds), foldD s l L b d, m', xs', b', ()))
  | [], d, m, xs, b, _ => ⟨m, xs, b, rfl⟩
  | t :: L, d, m, xs, b, h => by
    obtain ⟨m1, xs1, h1⟩ := st_d113_eq hs hl k d m xs b (h t (List.mem_cons_self ..))
    obtain ⟨m2, xs2, b2, h2⟩ := fold_d113 k L (if b = true then mx (mx d (dF s l t)) (dA s l t) else mx (dF s l t) (dA s l t)) m1 xs1 true (fun t ht => h t (List.mem_cons_of_mem _ ht))
    refine ⟨m2, xs2, b2, ?_⟩
    unfold foldS
    rw [h1]; exact h2
noncomputable def deepest (s : Ship) (l : LoadL) : Int := foldD s l (eachL l) false 0
theorem Deepest_is (hc : checkLoad (s, l) = 0) : ∃ xs, Deepest (s, l) = some (deepest s l, xs, 0) := by
  have h8 := hs.holds; have h := hl.len
  unfold Deepest
  simp only [decF_enc0]
  rw [show (LoadL.mk l.holds l.all) = l from rfl]
  obtain ⟨m, xs, b, hf⟩ := fold_d113 hs hl (K.len s.holds) (eachL l) 0 0 [] false (fun t ht => each_mem ht)
  refine ⟨xs, chk_step (decide_eq_true (by omega)) ?_⟩
  rw [T.run_br, hc, if_neg (by simp)]
  refine chk_step (decide_eq_true (by omega)) ?_
  have hcl : clampL (colH s 2 (K.len s.holds)).length = K.len s.holds := by rw [colH_length, clampL_eq (by unfold maxL; omega)]
  rw [hcl]
  show T.run (.obs (L_d57 ((colH s 2 (K.len s.holds), (K.len s.holds : Int), 0), s, l, colH s 2 (K.len s.holds), 0, [], ())) _) = _
  rw [L_d57_eq s l (by omega), T.run_some]
  simp only [decF_enc0, decF_encF]
  rw [show (LoadL.mk l.holds l.all) = l from rfl]
  refine chk_step (lo_each hs hl) ?_
  show T.run (.obs (foldS st_d113 (eachL l) (l, s, l, colH s 2 (K.len s.holds), K.len s.holds, levR s (-1) (K.len s.holds), 0, 0, [], false, ())) _) = _
  rw [hf, T.run_some]; rfl
/-! the reference's -/
theorem L_rdp_eq (z : Int × Int) : ∀ (n : Nat) (t d : Int), (totS l).lo ≤ t → t + (n : Int) = (totS l).hi + 1 → L_rdp ((d, t), s, l, z, totS l, ()) = some (((List.range n).map fun i : Nat => t + (i : Int)).foldl (fun d t => mx (mx d (dF s l t)) (dA s l t)) d, z, ()) := by
  have h8 := hs.holds; have hlen := hl.len
  have hb := lo_tot hs hl
  intro n
  induction n with
  | zero =>
    intro t d ht he
    refine lim_done ?_
    rw [sl_rdp]
    refine (T.run_br _ _ _).trans ?_
    rw [if_neg (by rw [decide_eq_true_eq]; show ¬ t ≤ (totS l).hi; omega)]; rfl
  | succ n ih =>
    intro t d ht he
    have htt : (totS l).lo ≤ t ∧ t ≤ (totS l).hi := by omega
    have hstep : st_rdp ((d, t), s, l, z, totS l, ()) = some (.inl ((mx (mx d (dF s l t)) (dA s l t), t + 1), s, l, z, totS l, ())) := by
      rw [sl_rdp]
      simp only [decF_enc0]
      refine (T.run_br _ _ _).trans ?_
      rw [if_pos (decide_eq_true htt.2)]
      refine chk_step (decide_eq_true (by omega)) ?_
      rw [levR_one hs, rFill_is (lo_holds hs hl) (by rw [colH_length, hlen]) (by omega), T.run_some, deep_is hs (best_ok hs hl htt), T.run_some]
      refine chk_step (decide_eq_true (by omega)) ?_
      rw [rFill_is (lo_holds hs hl) (by rw [levR_length, hlen]) (by omega), T.run_some, deep_is hs (best_ok hs hl htt), T.run_some, T.run_ret, w64_in (n := t + 1) (by omega) (by omega)]; rfl
    rw [show L_rdp = lim st_rdp from rfl, lim_step hstep]
    have := ih (t + 1) (mx (mx d (dF s l t)) (dA s l t)) (by omega) (by omega)
    rw [show L_rdp = lim st_rdp from rfl] at this
    rw [this, List.range_succ_eq_map, List.map_cons, List.foldl_cons, List.map_map]
    have e : (List.map (fun i : Nat => t + 1 + (i : Int)) (List.range n)) = List.map ((fun i : Nat => t + (i : Int)) ∘ Nat.succ) (List.range n) := List.map_congr_left (fun i _ => by simp only [Function.comp]; omega)
    rw [e]
    simp
omit hs hl in
theorem foldD_true (s : Ship) (l : LoadL) : ∀ (L : List Int) (d : Int), foldD s l L true d = L.foldl (fun d t => mx (mx d (dF s l t)) (dA s l t)) d
  | [], _ => rfl
  | t :: L, d => by unfold foldD; rw [if_pos rfl, foldD_true s l L, List.foldl_cons]
theorem rDeepest_is (hc : checkLoad (s, l) = 0) : rDeepest (s, l) = some (deepest s l, 0) := by
  have h8 := hs.holds; have h := hl.len
  have hb := lo_tot hs hl; have ht := hl.tot
  have htt : (totS l).lo ≤ (totS l).lo ∧ (totS l).lo ≤ (totS l).hi := by omega
  unfold rDeepest
  simp only [decF_enc0]
  rw [show (LoadL.mk l.holds l.all) = l from rfl, rCheckLoad_is s (by omega), hc, T.run_some, T.run_br, if_neg (by simp), rTotals_is hs hl, T.run_some]
  refine chk_step (decide_eq_true (by omega)) ?_
  rw [levR_one hs, rFill_is (lo_holds hs hl) (by rw [colH_length, h]) (by omega), T.run_some, deep_is hs (best_ok hs hl htt), T.run_some]
  rw [L_rdp_eq hs hl (0, 0) ((totS l).hi + 1 - (totS l).lo).toNat (totS l).lo _ (by omega) (by omega), T.run_some, T.run_ret]
  have e : deepest s l = ((List.range ((totS l).hi + 1 - (totS l).lo).toNat).map fun i : Nat => (totS l).lo + (i : Int)).foldl (fun d t => mx (mx d (dF s l t)) (dA s l t)) (dF s l (totS l).lo) := by
    unfold deepest eachL
    obtain ⟨n, hn⟩ : ∃ n, ((totS l).hi + 1 - (totS l).lo).toNat = n + 1 := ⟨((totS l).hi - (totS l).lo).toNat, by omega⟩
    rw [hn, List.range_succ_eq_map, List.map_cons, List.foldl_cons]
    unfold foldD
    rw [if_neg (by simp), foldD_true]
    have e0 : (totS l).lo + ((0 : Nat) : Int) = (totS l).lo := by simp
    rw [e0]
    have e1 : mx (dF s l (totS l).lo) (dF s l (totS l).lo) = dF s l (totS l).lo := by unfold mx; split <;> rfl
    rw [e1]
  rw [e]; rfl
noncomputable def clearC (s : Ship) (l : LoadL) (depth keel : Int) : Bool × Int := if (!within depth 0 65536) = true then (false, 1) else if (!within keel 0 5000) = true then (false, 1) else (decide (IntKind.i64.wrap (deepest s l + keel) ≤ depth), 0)
theorem Clear_is (hc : checkLoad (s, l) = 0) (depth keel : Int) : Clear (s, l, depth, keel) = some (clearC s l depth keel) := by
  obtain ⟨xs, hd⟩ := Deepest_is hs hl hc
  unfold Clear clearC
  simp only [decF_enc0]
  rw [show (LoadL.mk l.holds l.all) = l from rfl, hd, T.run_some, T.run_br, if_neg (by simp)]
  exact br_step (fun _ => rfl) (fun _ => br_step (fun _ => rfl) (fun _ => rfl))
theorem rClear_is (hc : checkLoad (s, l) = 0) (depth keel : Int) : rClear (s, l, depth, keel) = some (clearC s l depth keel) := by
  unfold rClear clearC
  simp only [decF_enc0]
  rw [show (LoadL.mk l.holds l.all) = l from rfl, rDeepest_is hs hl hc, T.run_some, T.run_br, if_neg (by simp)]
  have e : ∀ a b c, r_in (a, b, c) = within a b c := fun a b c => by
    unfold r_in within
    simp only [ge_iff_le, decide_eq_true_eq]
    by_cases h : b ≤ a
    · rw [if_pos h, decide_eq_true h, Bool.true_and]
    · rw [if_neg h, decide_eq_false h, Bool.false_and]
  rw [e, e]
  exact br_step (fun _ => rfl) (fun _ => br_step (fun _ => rfl) (fun _ => rfl))
end
noncomputable def relC (a : Ship × Bulbs × XS × Int × Int) : Bool × Int := if ((loadC (a.1, a.2.1, a.2.2.1)).2 != 0) = true then (false, (loadC (a.1, a.2.1, a.2.2.1)).2) else
  if ((clearC a.1 (loadC (a.1, a.2.1, a.2.2.1)).1 a.2.2.2.1 a.2.2.2.2).2 != 0) = true then (false, (clearC a.1 (loadC (a.1, a.2.1, a.2.2.1)).1 a.2.2.2.1 a.2.2.2.2).2) else
  if (shk a.1 (loadC (a.1, a.2.1, a.2.2.1)).1).isSome = true then (false, 0) else ((clearC a.1 (loadC (a.1, a.2.1, a.2.2.1)).1 a.2.2.2.1 a.2.2.2.2).1, 0)
theorem loadC_ok {a : Ship × Bulbs × XS} (h : (loadC a).2 = 0) : checkLoad (a.1, (loadC a).1) = 0 ∧ ShipOk a.1 ∧ LoadOk a.1 (loadC a).1 := by
  have key : checkLoad (a.1, (loadC a).1) = 0 := by
    unfold loadC at h ⊢
    by_cases h1 : ((sTog a).2 != 0) = true
    · rw [if_pos h1] at h; have h : (sTog a).2 = 0 := h; rw [h] at h1; exact absurd h1 (by decide)
    rw [if_neg h1] at h ⊢
    by_cases h2 : (checkLoad (a.1, loadOf a.1 (sTog a).1) != 0) = true
    · rw [if_pos h2] at h; have h : checkLoad (a.1, loadOf a.1 (sTog a).1) = 0 := h; rw [h] at h2; exact absurd h2 (by decide)
    rw [if_neg h2]
    simpa using h2
  exact ⟨key, checkLoad_ok key⟩
theorem Release_is (a : Ship × Bulbs × XS × Int × Int) : Release a = some (relC a) := by
  obtain ⟨s, b, x, depth, keel⟩ := a
  unfold Release relC
  rw [sLoad_is, T.run_some]
  simp only [decF_enc0]
  refine br_step (fun _ => rfl) (fun h => ?_)
  obtain ⟨hc, hs, hl⟩ := loadC_ok (bne_zero h)
  simp only at hc hs hl
  generalize (loadC (s, b, x)).1 = l at *
  rw [show (LoadL.mk l.holds l.all) = l from rfl]
  obtain ⟨xs, h1⟩ := Steady_is hs hl hc
  rw [h1, T.run_some, T.run_br, if_neg (by simp), Clear_is hs hl hc, T.run_some]
  refine br_step (fun _ => rfl) (fun _ => ?_)
  rw [T.run_br]
  cases (shk s l).isSome with
  | true => rw [if_neg (by simp), if_pos rfl]; rfl
  | false => exact (if_pos rfl).trans (by rw [if_neg (by simp)]; rfl)
theorem rRelease_is (a : Ship × Bulbs × XS × Int × Int) : rRelease a = some (relC a) := by
  obtain ⟨s, b, x, depth, keel⟩ := a
  unfold rRelease relC
  rw [rLoad_is, T.run_some]
  simp only [decF_enc0]
  refine br_step (fun _ => rfl) (fun h => ?_)
  obtain ⟨hc, hs, hl⟩ := loadC_ok (bne_zero h)
  simp only at hc hs hl
  generalize (loadC (s, b, x)).1 = l at *
  rw [show (LoadL.mk l.holds l.all) = l from rfl]
  obtain ⟨n, r, h1⟩ := rSteady_is hs hl hc
  rw [h1, T.run_some, T.run_br, if_neg (by simp), rClear_is hs hl hc, T.run_some]
  refine br_step (fun _ => rfl) (fun _ => ?_)
  rw [T.run_br]
  cases (shk s l).isSome with
  | true => rw [if_neg (by simp), if_pos rfl]; rfl
  | false => exact (if_pos rfl).trans (by rw [if_neg (by simp)]; rfl)
theorem sameLoads_self (l : LoadL) (h : l.holds.length ≤ 1000000) : sameLoads (l, l) = some true := by
  have hL : L_sld (0, l, l, ()) = some (.inr ()) := by
    refine lim_all (fun i => ((i : Int), l, l, ())) l.holds.length (fun i hi => ?_) ?_
    · rw [sl_sld]
      simp only [decF_enc0, Int.toNat_natCast]
      refine (T.run_br _ _ _).trans ?_
      rw [clampL_eq (by unfold maxL; omega), if_pos (decide_eq_true (by omega))]
      refine chk_step (decide_eq_true (by omega)) (chk_step (decide_eq_true (by omega)) ?_)
      rw [T.run_br, if_neg (by simp), w64_in (n := (i : Int) + 1) (by omega) (by omega)]; rfl
    · rw [sl_sld]
      refine (T.run_br _ _ _).trans ?_
      simp only [decF_enc0]
      rw [clampL_eq (by unfold maxL; omega), if_neg (by simp)]; rfl
  unfold sameLoads
  simp only [decF_enc0]
  rw [T.run_br, if_neg (by simp), T.run_br, if_neg (by simp), show (LoadL.mk l.holds l.all) = l from rfl, hL]; rfl
theorem loadC_len (a : Ship × Bulbs × XS) : (loadC a).1.holds.length ≤ 1000000 := by
  unfold loadC
  split
  · exact Nat.zero_le _
  rename_i h
  split
  · exact Nat.zero_le _
  obtain ⟨s, b, x⟩ := a
  obtain ⟨hs, _⟩ := sTog_ok (bne_zero h)
  have h8 := hs.holds
  show ((List.range _).map _).length ≤ _
  rw [List.length_map, List.length_range]
  show K.len s.holds ≤ _
  omega
def lawLo (_ : Ship × Bulbs × XS × Int × Int) : Bool := true
theorem lawLo_true (a : Ship × Bulbs × XS × Int × Int) : lawLo a = true := rfl
theorem lawLo_eq (a : Ship × Bulbs × XS × Int × Int) : callT1 P BKLr424 30 3 D_rel dB a = some (lawLo a) := by
  rw [fn_lawLo]
  rw [T.run_br]; split
  · rfl
  rw [T.run_br]; split
  · rfl
  rw [T.run_br]; split
  · rfl
  rw [sLoad_is, T.run_some, rLoad_is, T.run_some, Release_is, T.run_some, rRelease_is, T.run_some]
  simp only [decF_enc0]
  rw [show ∀ l : LoadL, (LoadL.mk l.holds l.all) = l from fun _ => rfl, sameLoads_self _ (loadC_len _), T.run_some]
  simp only [T.run_br, beq_self_eq_true, if_true, T.run_ret]; rfl
end K
end Go.Proofs.YtjbhooodjmjdkaaGreat
/-! KLt1 -/
namespace Go.Proofs.YtjbhooodjmjdkaaGreat
open Ev K
set_option maxRecDepth 100000
def lFr2 : DecL (Int × Int) := .cons (dI .i64) (.last (dI .i64) 0)
def S_lw := DecS.mk0 (.cons (dI .i64) (.cons (dI .i64) (.skips 2 (.unit (dLp 0 0 0 0) (.cons (dI .i64) (.last (dI .i64) 18)))))) (.flat 59 lFr2 .nil)
def X_lw := DecX.one (.exit 0) [5, 4, 1, 0] (DecS.mk0 (.cons (dI .i64) (.cons (dI .i64) (.skips 2 (.unit (dLp 0 0 0 0) (.last (dI .i64) 19))))) (.flat 59 lFr2 .nil))
noncomputable def K.st_lw := loopT1 P BKLob6 30 65 17 [6, 5, 4, 1, 0] S_lw X_lw
theorem sl_lw : ∀ s, (K.st_lw) s = T.run (
  .br (decide (Prod.snd (Prod.snd (Prod.snd (Prod.fst s))) > (0 : Int))) (
    .chk (!decide (Prod.snd (Prod.snd (Prod.snd (Prod.fst s))) = (0 : Int))) <|
    .ret (Sum.inl ((Prod.fst (Prod.fst s), Prod.fst (Prod.snd (Prod.fst s)), Prod.snd (Prod.snd (Prod.snd (Prod.fst s))), Int.tmod (Prod.fst (Prod.snd (Prod.snd (Prod.fst s)))) (Prod.snd (Prod.snd (Prod.snd (Prod.fst s))))), Prod.fst (Prod.snd s), PUnit.unit))) (
    .ret (Sum.inr ((Prod.fst (Prod.fst s), Prod.fst (Prod.snd (Prod.fst s)), Prod.fst (Prod.snd (Prod.snd (Prod.fst s)))), Prod.fst (Prod.snd s), PUnit.unit)))) := fun s => by kernel_rfl
noncomputable def K.L_lw := lim K.st_lw
noncomputable def BKLt11 : Tab := BKLob6.addNode 65 17 (nodeE [6, 5, 4, 1, 0] S_lw X_lw (fun s => .obs (K.L_lw s) .ret))
theorem tKLt11 : TabOk P BKLt11 := TabOk.addLoop (d := 30) okP tKLob6 (by kernel_rfl) (by kernel_rfl) (fun s r h => obs_ret h)
theorem fn_lowF : ∀ a, (callT1 P BKLt11 30 65 D_int2 (dAgg lFr2)) a = T.run (
  .obs (L_lw ((Prod.fst a, Prod.snd a, greater (Prod.fst a, IntKind.wrap IntKind.i64 ((0 : Int) - Prod.fst a)), Prod.snd a), ((0 : Int), (0 : Int)), PUnit.unit)) fun x0 =>
    .chk (!decide (Prod.snd (Prod.snd (Prod.fst x0)) = (0 : Int))) <|
    .chk (!decide (Prod.snd (Prod.snd (Prod.fst x0)) = (0 : Int))) <|
    .ret ((IntKind.wrap IntKind.i64 (Int.tdiv (Prod.fst (Prod.fst x0)) (Prod.snd (Prod.snd (Prod.fst x0)))), IntKind.wrap IntKind.i64 (Int.tdiv (Prod.fst (Prod.snd (Prod.fst x0))) (Prod.snd (Prod.snd (Prod.fst x0))))))) := fun a => by kernel_rfl
noncomputable def K.lowF (a : Int × Int) : Option (Int × Int) := T.run (
  .obs (L_lw ((Prod.fst a, Prod.snd a, greater (Prod.fst a, IntKind.wrap IntKind.i64 ((0 : Int) - Prod.fst a)), Prod.snd a), ((0 : Int), (0 : Int)), PUnit.unit)) fun x0 =>
    .chk (!decide (Prod.snd (Prod.snd (Prod.fst x0)) = (0 : Int))) <|
    .chk (!decide (Prod.snd (Prod.snd (Prod.fst x0)) = (0 : Int))) <|
    .ret ((IntKind.wrap IntKind.i64 (Int.tdiv (Prod.fst (Prod.fst x0)) (Prod.snd (Prod.snd (Prod.fst x0)))), IntKind.wrap IntKind.i64 (Int.tdiv (Prod.fst (Prod.snd (Prod.fst x0))) (Prod.snd (Prod.snd (Prod.fst x0)))))))
theorem eq_lowF (a : Int × Int) : (callT1 P BKLt11 30 65 D_int2 (dAgg lFr2)) a = K.lowF a := fn_lowF a
noncomputable def BKLt12 : Tab := BKLt11.addCall 65 (callE D_int2 (dAgg lFr2) (fun a => .obs (K.lowF a) .ret))
theorem tKLt12 : TabOk P BKLt12 := TabOk.addFn (d := 30) okP tKLt11 (fun a r h => by rw [eq_lowF]; exact obs_ret h)
def S_fts := DecS.mk0 (.skip (.cons (dRows rInt) (.unit (dLp 0 0 0 0) (.skips 10 (.cons (dRows rInt) (.cons (dI .i64) (.last (dI .i64) 29))))))) (.flat 41 lLoadL .nil)
def X_fts := DecX.or (DecX.one .ret [4] (DecS.mk1 (.skips 4 (.last dB 40)))) (DecX.one (.exit 0) [1, 2] (DecS.mk0 (.skip (.cons (dRows rInt) (.unit (dLp 0 0 0 0) (.tops 42)))) (.flat 41 lLoadL .nil)))
noncomputable def K.st_fts := loopT1 P BKLt12 30 61 33 [15, 2, 13, 1, 14] S_fts X_fts
theorem sl_fts : ∀ s, (K.st_fts) s = T.run (
  .br (decide (Prod.snd (Prod.snd (Prod.snd (Prod.fst s))) < Prod.fst (Prod.snd (Prod.snd (Prod.fst s))))) (
    .chk (decide ((0 : Int) ≤ Prod.snd (Prod.snd (Prod.snd (Prod.fst s))) ∧ Prod.snd (Prod.snd (Prod.snd (Prod.fst s))) < (↑(List.length (Prod.fst (Prod.snd (Prod.fst s)))) : Int))) <|
    .chk (decide ((0 : Int) ≤ Prod.snd (Prod.snd (Prod.snd (Prod.fst s))) ∧ Prod.snd (Prod.snd (Prod.snd (Prod.fst s))) < (↑(List.length (LoadL.holds (Prod.fst (Prod.snd s)))) : Int))) <|
    .chk (decide ((0 : Int) ≤ Prod.snd (Prod.snd (Prod.snd (Prod.fst s))) ∧ Prod.snd (Prod.snd (Prod.snd (Prod.fst s))) < (↑(List.length (LoadL.holds (Prod.fst (Prod.snd s)))) : Int))) <|
    .br (!within (numOf (encF rInt (Prod.fst (Prod.snd (Prod.fst s))) ((0 : Nat) + Int.toNat (Prod.snd (Prod.snd (Prod.snd (Prod.fst s))))) (0 : Nat))) (numOf (encF rSpan (LoadL.holds (Prod.fst (Prod.snd s))) ((0 : Nat) + Int.toNat (Prod.snd (Prod.snd (Prod.snd (Prod.fst s))))) (nat_lit 0))) (numOf (encF rSpan (LoadL.holds (Prod.fst (Prod.snd s))) ((0 : Nat) + Int.toNat (Prod.snd (Prod.snd (Prod.snd (Prod.fst s))))) (nat_lit 1)))) (
      .ret (Sum.inr (Sum.inl false))) (
      .ret (Sum.inl ((decF rInt (List.length (Prod.fst (Prod.fst s))) fun i => encF rInt (Prod.fst (Prod.fst s)) ((0 : Nat) + i), decF rInt (List.length (Prod.fst (Prod.snd (Prod.fst s)))) fun i => encF rInt (Prod.fst (Prod.snd (Prod.fst s))) ((0 : Nat) + i), Prod.fst (Prod.snd (Prod.snd (Prod.fst s))), IntKind.wrap IntKind.i64 (Prod.snd (Prod.snd (Prod.snd (Prod.fst s))) + (1 : Int))), LoadL.mk (decF rSpan (List.length (LoadL.holds (Prod.fst (Prod.snd s)))) fun i => encF rSpan (LoadL.holds (Prod.fst (Prod.snd s))) ((0 : Nat) + i)) (LoadL.all (Prod.fst (Prod.snd s))), PUnit.unit)))) (
    .ret (Sum.inr (Sum.inr ((decF rInt (List.length (Prod.fst (Prod.fst s))) fun i => encF rInt (Prod.fst (Prod.fst s)) ((0 : Nat) + i), PUnit.unit), LoadL.mk (decF rSpan (List.length (LoadL.holds (Prod.fst (Prod.snd s)))) fun i => encF rSpan (LoadL.holds (Prod.fst (Prod.snd s))) ((0 : Nat) + i)) (LoadL.all (Prod.fst (Prod.snd s))), PUnit.unit))))) := fun s => by kernel_rfl
noncomputable def K.L_fts := lim K.st_fts
noncomputable def BKLt13 : Tab := BKLt12.addNode 61 33 (nodeE [15, 2, 13, 1, 14] S_fts X_fts (fun s => .obs (K.L_fts s) .ret))
theorem tKLt13 : TabOk P BKLt13 := TabOk.addLoop (d := 30) okP tKLt12 (by kernel_rfl) (by kernel_rfl) (fun s r h => obs_ret h)
def D_fts := DecL.cons dLoadL (.last (dRows rInt) 0)
theorem fn_fitsO : ∀ a, (callT1 P BKLt13 30 61 D_fts dB) a = T.run (
  .br ((↑(clampL (List.length (Prod.snd a))) : Int) != (↑(clampL (List.length (LoadL.holds (Prod.fst a)))) : Int)) (
    .ret (false)) (
    .obs (L_fts ((decF rInt (List.length (Prod.snd a)) fun i => encF rInt (Prod.snd a) ((0 : Nat) + i), decF rInt (List.length (Prod.snd a)) fun i => encF rInt (Prod.snd a) ((0 : Nat) + i), (↑(clampL (List.length (Prod.snd a))) : Int), (0 : Int)), LoadL.mk (decF rSpan (List.length (LoadL.holds (Prod.fst a))) fun i => encF rSpan (LoadL.holds (Prod.fst a)) ((0 : Nat) + i)) (LoadL.all (Prod.fst a)), PUnit.unit)) fun x0 =>
      .sum (x0) (fun x1 =>
        .ret (x1)) (fun x1 =>
        .chk (decide (List.length (decF rInt (List.length (Prod.fst (Prod.fst x1))) fun i => encF rInt (Prod.fst (Prod.fst x1)) ((0 : Nat) + i)) ≤ (1000000 : Nat))) <|
        .ret (within (K.addL (decF rInt (List.length (Prod.fst (Prod.fst x1))) fun i => encF rInt (Prod.fst (Prod.fst x1)) ((0 : Nat) + i))) (Span.lo (LoadL.all (Prod.fst (Prod.snd x1)))) (Span.hi (LoadL.all (Prod.fst (Prod.snd x1)))))))) := fun a => by kernel_rfl
noncomputable def K.fitsO (a : LoadL × List Int) : Option (Bool) := T.run (
  .br ((↑(clampL (List.length (Prod.snd a))) : Int) != (↑(clampL (List.length (LoadL.holds (Prod.fst a)))) : Int)) (
    .ret (false)) (
    .obs (L_fts ((decF rInt (List.length (Prod.snd a)) fun i => encF rInt (Prod.snd a) ((0 : Nat) + i), decF rInt (List.length (Prod.snd a)) fun i => encF rInt (Prod.snd a) ((0 : Nat) + i), (↑(clampL (List.length (Prod.snd a))) : Int), (0 : Int)), LoadL.mk (decF rSpan (List.length (LoadL.holds (Prod.fst a))) fun i => encF rSpan (LoadL.holds (Prod.fst a)) ((0 : Nat) + i)) (LoadL.all (Prod.fst a)), PUnit.unit)) fun x0 =>
      .sum (x0) (fun x1 =>
        .ret (x1)) (fun x1 =>
        .chk (decide (List.length (decF rInt (List.length (Prod.fst (Prod.fst x1))) fun i => encF rInt (Prod.fst (Prod.fst x1)) ((0 : Nat) + i)) ≤ (1000000 : Nat))) <|
        .ret (within (K.addL (decF rInt (List.length (Prod.fst (Prod.fst x1))) fun i => encF rInt (Prod.fst (Prod.fst x1)) ((0 : Nat) + i))) (Span.lo (LoadL.all (Prod.fst (Prod.snd x1)))) (Span.hi (LoadL.all (Prod.fst (Prod.snd x1))))))))
theorem eq_fitsO (a : LoadL × List Int) : (callT1 P BKLt13 30 61 D_fts dB) a = K.fitsO a := fn_fitsO a
noncomputable def BKLt14 : Tab := BKLt13.addCall 61 (callE D_fts dB (fun a => .obs (K.fitsO a) .ret))
theorem tKLt14 : TabOk P BKLt14 := TabOk.addFn (d := 30) okP tKLt13 (fun a r h => by rw [eq_fitsO]; exact obs_ret h)
def D_Fts := DecL.cons dShip (.cons dLoadL (.last (dRows rInt) 0))
theorem fn_FitsO : ∀ a, (callT1 P BKLt14 30 22 D_Fts dB) a = T.run (
  .chk (decide (List.length (decF rSpan (List.length (LoadL.holds (Prod.fst (Prod.snd a)))) fun i => encF rSpan (LoadL.holds (Prod.fst (Prod.snd a))) ((0 : Nat) + i)) ≤ (1000000 : Nat))) <|
  .br (checkLoad (Prod.fst a, LoadL.mk (decF rSpan (List.length (LoadL.holds (Prod.fst (Prod.snd a)))) fun i => encF rSpan (LoadL.holds (Prod.fst (Prod.snd a))) ((0 : Nat) + i)) (LoadL.all (Prod.fst (Prod.snd a)))) == (0 : Int)) (
    .obs (fitsO (LoadL.mk (decF rSpan (List.length (LoadL.holds (Prod.fst (Prod.snd a)))) fun i => encF rSpan (LoadL.holds (Prod.fst (Prod.snd a))) ((0 : Nat) + i)) (LoadL.all (Prod.fst (Prod.snd a))), decF rInt (List.length (Prod.snd (Prod.snd a))) fun i => encF rInt (Prod.snd (Prod.snd a)) ((0 : Nat) + i))) fun x0 =>
      .ret (x0)) (
    .ret (false))) := fun a => by kernel_rfl
noncomputable def K.FitsO (a : Ship × LoadL × List Int) : Option (Bool) := T.run (
  .chk (decide (List.length (decF rSpan (List.length (LoadL.holds (Prod.fst (Prod.snd a)))) fun i => encF rSpan (LoadL.holds (Prod.fst (Prod.snd a))) ((0 : Nat) + i)) ≤ (1000000 : Nat))) <|
  .br (checkLoad (Prod.fst a, LoadL.mk (decF rSpan (List.length (LoadL.holds (Prod.fst (Prod.snd a)))) fun i => encF rSpan (LoadL.holds (Prod.fst (Prod.snd a))) ((0 : Nat) + i)) (LoadL.all (Prod.fst (Prod.snd a)))) == (0 : Int)) (
    .obs (fitsO (LoadL.mk (decF rSpan (List.length (LoadL.holds (Prod.fst (Prod.snd a)))) fun i => encF rSpan (LoadL.holds (Prod.fst (Prod.snd a))) ((0 : Nat) + i)) (LoadL.all (Prod.fst (Prod.snd a))), decF rInt (List.length (Prod.snd (Prod.snd a))) fun i => encF rInt (Prod.snd (Prod.snd a)) ((0 : Nat) + i))) fun x0 =>
      .ret (x0)) (
    .ret (false)))
theorem eq_FitsO (a : Ship × LoadL × List Int) : (callT1 P BKLt14 30 22 D_Fts dB) a = K.FitsO a := fn_FitsO a
noncomputable def BKLt15 : Tab := BKLt14.addCall 22 (callE D_Fts dB (fun a => .obs (K.FitsO a) .ret))
theorem tKLt15 : TabOk P BKLt15 := TabOk.addFn (d := 30) okP tKLt14 (fun a r h => by rw [eq_FitsO]; exact obs_ret h)
def lInts : DecL (List Int) := DecL.last (dRows rInt) 0
def D_ldd := DecL.cons dShip (.last (dRow1 1 lInts) 0)
def S_ldd := DecS.mk0 (.skips 2 (.unit (dLp 0 0 0 0) (.skips 12 (.cons (dRow1 1 lInts) (.unit (dIl 1) (.unit (dIl 0) (.skips 9 (.cons (dRows rInt) (.cons (dI .i64) (.last (dI .i64) 15)))))))))) (.flat 27 lShip .nil)
def X_ldd := DecX.or (DecX.one .ret [4] (DecS.mk1 (.skips 4 (.last (dI .i64) 40)))) (DecX.one (.exit 2) [2, 15, 16, 17] (DecS.mk0 (.skips 2 (.unit (dLp 0 0 0 0) (.skips 12 (.cons (dRow1 1 lInts) (.unit (dIl 1) (.unit (dIl 0) (.tops 27))))))) (.flat 27 lShip .nil)))
noncomputable def K.st_ldd := loopT1 P BKLt15 30 62 81 [29, 2, 27, 15, 16, 17, 28] S_ldd X_ldd
theorem sl_ldd : ∀ s, (K.st_ldd) s = T.run (
  .br (decide (Prod.snd (Prod.snd (Prod.snd (Prod.fst s))) < Prod.fst (Prod.snd (Prod.snd (Prod.fst s))))) (
    .chk (decide ((0 : Int) ≤ Prod.snd (Prod.snd (Prod.snd (Prod.fst s))) ∧ Prod.snd (Prod.snd (Prod.snd (Prod.fst s))) < (↑(List.length (Prod.fst (Prod.snd (Prod.fst s)))) : Int))) <|
    .chk (decide ((0 : Int) ≤ Prod.snd (Prod.snd (Prod.snd (Prod.fst s))) ∧ Prod.snd (Prod.snd (Prod.snd (Prod.fst s))) < (↑(XS.len (Ship.holds (Prod.fst (Prod.snd s)))) : Int))) <|
    .br (!within (numOf (encF rInt (Prod.fst (Prod.snd (Prod.fst s))) ((0 : Nat) + Int.toNat (Prod.snd (Prod.snd (Prod.snd (Prod.fst s))))) (0 : Nat))) (0 : Int) (XS.g (Ship.holds (Prod.fst (Prod.snd s))) (Int.toNat (Prod.snd (Prod.snd (Prod.snd (Prod.fst s))))) (1 : Nat))) (
      .ret (Sum.inr (Sum.inl (1 : Int)))) (
      .ret (Sum.inl ((decF rInt (List.length (Prod.fst (Prod.fst s))) fun i => encF rInt (Prod.fst (Prod.fst s)) ((0 : Nat) + i), decF rInt (List.length (Prod.fst (Prod.snd (Prod.fst s)))) fun i => encF rInt (Prod.fst (Prod.snd (Prod.fst s))) ((0 : Nat) + i), Prod.fst (Prod.snd (Prod.snd (Prod.fst s))), IntKind.wrap IntKind.i64 (Prod.snd (Prod.snd (Prod.snd (Prod.fst s))) + (1 : Int))), Prod.fst (Prod.snd s), PUnit.unit)))) (
    .ret (Sum.inr (Sum.inr ((decF rInt (List.length (Prod.fst (Prod.fst s))) fun i => encF rInt (Prod.fst (Prod.fst s)) ((0 : Nat) + i), PUnit.unit), Prod.fst (Prod.snd s), PUnit.unit))))) := fun s => by kernel_rfl
noncomputable def K.L_ldd := lim K.st_ldd
noncomputable def BKLt16 : Tab := BKLt15.addNode 62 81 (nodeE [29, 2, 27, 15, 16, 17, 28] S_ldd X_ldd (fun s => .obs (K.L_ldd s) .ret))
theorem tKLt16 : TabOk P BKLt16 := TabOk.addLoop (d := 30) okP tKLt15 (by kernel_rfl) (by kernel_rfl) (fun s r h => obs_ret h)
theorem fn_loadedO : ∀ a, (callT1 P BKLt16 30 62 D_ldd (dI .i64)) a = T.run (
  .br (hullCheck (Prod.fst a) != (0 : Int)) (
    .ret (hullCheck (Prod.fst a))) (
    .br ((↑(clampL (List.length (Prod.snd a))) : Int) != (↑(len (Ship.holds (Prod.fst a))) : Int)) (
      .ret ((1 : Int))) (
      .obs (L_ldd ((decF rInt (List.length (Prod.snd a)) fun i => encF rInt (Prod.snd a) ((0 : Nat) + i), decF rInt (List.length (Prod.snd a)) fun i => encF rInt (Prod.snd a) ((0 : Nat) + i), (↑(clampL (List.length (Prod.snd a))) : Int), (0 : Int)), Prod.fst a, PUnit.unit)) fun x0 =>
        .sum (x0) (fun x1 =>
          .ret (x1)) (fun _ =>
          .ret ((0 : Int)))))) := fun a => by kernel_rfl
noncomputable def K.loadedO (a : Ship × List Int) : Option (Int) := T.run (
  .br (hullCheck (Prod.fst a) != (0 : Int)) (
    .ret (hullCheck (Prod.fst a))) (
    .br ((↑(clampL (List.length (Prod.snd a))) : Int) != (↑(len (Ship.holds (Prod.fst a))) : Int)) (
      .ret ((1 : Int))) (
      .obs (L_ldd ((decF rInt (List.length (Prod.snd a)) fun i => encF rInt (Prod.snd a) ((0 : Nat) + i), decF rInt (List.length (Prod.snd a)) fun i => encF rInt (Prod.snd a) ((0 : Nat) + i), (↑(clampL (List.length (Prod.snd a))) : Int), (0 : Int)), Prod.fst a, PUnit.unit)) fun x0 =>
        .sum (x0) (fun x1 =>
          .ret (x1)) (fun _ =>
          .ret ((0 : Int))))))
theorem eq_loadedO (a : Ship × List Int) : (callT1 P BKLt16 30 62 D_ldd (dI .i64)) a = K.loadedO a := fn_loadedO a
noncomputable def BKLt17 : Tab := BKLt16.addCall 62 (callE D_ldd (dI .i64) (fun a => .obs (K.loadedO a) .ret))
theorem tKLt17 : TabOk P BKLt17 := TabOk.addFn (d := 30) okP tKLt16 (fun a r h => by rw [eq_loadedO]; exact obs_ret h)
def R_stf := dTup (.cons (dAgg lFr2) (.last (dI .i64) 0))
theorem fn_StiffO : ∀ a, (callT1 P BKLt17 30 23 D_sl R_stf) a = T.run (
  .obs (loadedO (Prod.fst a, decF rInt (List.length (Prod.snd a)) fun i => encF rInt (Prod.snd a) ((0 : Nat) + i))) fun x0 =>
    .br (x0 != (0 : Int)) (
      .ret ((((0 : Int), (0 : Int)), x0))) (
      .chk (decide (List.length (decF rInt (List.length (Prod.snd a)) fun i => encF rInt (Prod.snd a) ((0 : Nat) + i)) ≤ (1000000 : Nat))) <|
      .obs (tabAt (Ship.mc (Prod.fst a), IntKind.wrap IntKind.i64 (Ship.light (Prod.fst a) + K.addL (decF rInt (List.length (Prod.snd a)) fun i => encF rInt (Prod.snd a) ((0 : Nat) + i))))) fun x1 =>
        .obs (riseL (Prod.fst a, decF rInt (List.length (Prod.snd a)) fun i => encF rInt (Prod.snd a) ((0 : Nat) + i))) fun x2 =>
          .obs (lowF (IntKind.wrap IntKind.i64 (IntKind.wrap IntKind.i64 (IntKind.wrap IntKind.i64 (Prod.fst x1 - IntKind.wrap IntKind.i64 (Curve.err (Ship.mc (Prod.fst a)) * Prod.snd x1)) * IntKind.wrap IntKind.i64 (Ship.light (Prod.fst a) + K.addL (decF rInt (List.length (Prod.snd a)) fun i => encF rInt (Prod.snd a) ((0 : Nat) + i)))) - IntKind.wrap IntKind.i64 (x2 * Prod.snd x1)), IntKind.wrap IntKind.i64 (Prod.snd x1 * IntKind.wrap IntKind.i64 (Ship.light (Prod.fst a) + K.addL (decF rInt (List.length (Prod.snd a)) fun i => encF rInt (Prod.snd a) ((0 : Nat) + i)))))) fun x3 =>
            .ret ((x3, (0 : Int))))) := fun a => by kernel_rfl
noncomputable def K.StiffO (a : Ship × List Int) : Option ((Int × Int) × Int) := T.run (
  .obs (loadedO (Prod.fst a, decF rInt (List.length (Prod.snd a)) fun i => encF rInt (Prod.snd a) ((0 : Nat) + i))) fun x0 =>
    .br (x0 != (0 : Int)) (
      .ret ((((0 : Int), (0 : Int)), x0))) (
      .chk (decide (List.length (decF rInt (List.length (Prod.snd a)) fun i => encF rInt (Prod.snd a) ((0 : Nat) + i)) ≤ (1000000 : Nat))) <|
      .obs (tabAt (Ship.mc (Prod.fst a), IntKind.wrap IntKind.i64 (Ship.light (Prod.fst a) + K.addL (decF rInt (List.length (Prod.snd a)) fun i => encF rInt (Prod.snd a) ((0 : Nat) + i))))) fun x1 =>
        .obs (riseL (Prod.fst a, decF rInt (List.length (Prod.snd a)) fun i => encF rInt (Prod.snd a) ((0 : Nat) + i))) fun x2 =>
          .obs (lowF (IntKind.wrap IntKind.i64 (IntKind.wrap IntKind.i64 (IntKind.wrap IntKind.i64 (Prod.fst x1 - IntKind.wrap IntKind.i64 (Curve.err (Ship.mc (Prod.fst a)) * Prod.snd x1)) * IntKind.wrap IntKind.i64 (Ship.light (Prod.fst a) + K.addL (decF rInt (List.length (Prod.snd a)) fun i => encF rInt (Prod.snd a) ((0 : Nat) + i)))) - IntKind.wrap IntKind.i64 (x2 * Prod.snd x1)), IntKind.wrap IntKind.i64 (Prod.snd x1 * IntKind.wrap IntKind.i64 (Ship.light (Prod.fst a) + K.addL (decF rInt (List.length (Prod.snd a)) fun i => encF rInt (Prod.snd a) ((0 : Nat) + i)))))) fun x3 =>
            .ret ((x3, (0 : Int)))))
theorem eq_StiffO (a : Ship × List Int) : (callT1 P BKLt17 30 23 D_sl R_stf) a = K.StiffO a := fn_StiffO a
noncomputable def BKLt18 : Tab := BKLt17.addCall 23 (callE D_sl R_stf (fun a => .obs (K.StiffO a) .ret))
theorem tKLt18 : TabOk P BKLt18 := TabOk.addFn (d := 30) okP tKLt17 (fun a r h => by rw [eq_StiffO]; exact obs_ret h)
def R_afl := dTup (.cons dDraughts (.last (dI .i64) 0))
theorem fn_AfloatO : ∀ a, (callT1 P BKLt18 30 24 D_sl R_afl) a = T.run (
  .obs (loadedO (Prod.fst a, decF rInt (List.length (Prod.snd a)) fun i => encF rInt (Prod.snd a) ((0 : Nat) + i))) fun x0 =>
    .br (x0 != (0 : Int)) (
      .ret (((Span.mk (0 : Int) (0 : Int), Span.mk (0 : Int) (0 : Int)), x0))) (
      .obs (afloat (Prod.fst a, decF rInt (List.length (Prod.snd a)) fun i => encF rInt (Prod.snd a) ((0 : Nat) + i))) fun x1 =>
        .ret ((x1, (0 : Int))))) := fun a => by kernel_rfl
noncomputable def K.AfloatO (a : Ship × List Int) : Option ((Span × Span) × Int) := T.run (
  .obs (loadedO (Prod.fst a, decF rInt (List.length (Prod.snd a)) fun i => encF rInt (Prod.snd a) ((0 : Nat) + i))) fun x0 =>
    .br (x0 != (0 : Int)) (
      .ret (((Span.mk (0 : Int) (0 : Int), Span.mk (0 : Int) (0 : Int)), x0))) (
      .obs (afloat (Prod.fst a, decF rInt (List.length (Prod.snd a)) fun i => encF rInt (Prod.snd a) ((0 : Nat) + i))) fun x1 =>
        .ret ((x1, (0 : Int)))))
theorem eq_AfloatO (a : Ship × List Int) : (callT1 P BKLt18 30 24 D_sl R_afl) a = K.AfloatO a := fn_AfloatO a
noncomputable def BKLt19 : Tab := BKLt18.addCall 24 (callE D_sl R_afl (fun a => .obs (K.AfloatO a) .ret))
theorem tKLt19 : TabOk P BKLt19 := TabOk.addFn (d := 30) okP tKLt18 (fun a r h => by rw [eq_AfloatO]; exact obs_ret h)
def D_rld := DecL.cons dShip (.cons dBulbs (.cons xSurveys (.cons (dI .i64) (.cons (dI .i64) (.last (dRows rInt) 0)))))
theorem fn_lawRe : ∀ a, (callT1 P BKLt19 30 5 D_rld dB) a = T.run (
  .br (!ship (Prod.fst a)) (
    .ret (true)) (
    .br (!few (Prod.fst (Prod.snd a))) (
      .ret (true)) (
      .br (!list (Prod.fst (Prod.snd (Prod.snd a)))) (
        .ret (true)) (
        .br (decide ((↑(clampL (List.length (Prod.snd (Prod.snd (Prod.snd (Prod.snd (Prod.snd a))))))) : Int) > (12 : Int))) (
          .ret (true)) (
          .obs (Release (Prod.fst a, Prod.fst (Prod.snd a), Prod.fst (Prod.snd (Prod.snd a)), Prod.fst (Prod.snd (Prod.snd (Prod.snd a))), Prod.fst (Prod.snd (Prod.snd (Prod.snd (Prod.snd a)))))) fun x0 =>
            .obs (sLoad (Prod.fst a, Prod.fst (Prod.snd a), Prod.fst (Prod.snd (Prod.snd a)))) fun x1 =>
              .br (Prod.snd x0 != (0 : Int)) (
                .br (Prod.snd x0 == (0 : Int)) (
                  .ret (true)) (
                  .ret (!Prod.fst x0))) (
                .br (!Prod.fst x0) (
                  .br (Prod.snd x0 == (0 : Int)) (
                    .ret (true)) (
                    .ret (!Prod.fst x0))) (
                  .br (Prod.snd x1 != (0 : Int)) (
                    .ret (false)) (
                    .obs (FitsO (Prod.fst a, LoadL.mk (decF rSpan (List.length (LoadL.holds (Prod.fst x1))) fun i => encF rSpan (LoadL.holds (Prod.fst x1)) ((0 : Nat) + i)) (LoadL.all (Prod.fst x1)), decF rInt (List.length (Prod.snd (Prod.snd (Prod.snd (Prod.snd (Prod.snd a)))))) fun i => encF rInt (Prod.snd (Prod.snd (Prod.snd (Prod.snd (Prod.snd a))))) ((0 : Nat) + i))) fun x2 =>
                      .br (!x2) (
                        .ret (true)) (
                        .obs (StiffO (Prod.fst a, decF rInt (List.length (Prod.snd (Prod.snd (Prod.snd (Prod.snd (Prod.snd a)))))) fun i => encF rInt (Prod.snd (Prod.snd (Prod.snd (Prod.snd (Prod.snd a))))) ((0 : Nat) + i))) fun x3 =>
                          .obs (AfloatO (Prod.fst a, decF rInt (List.length (Prod.snd (Prod.snd (Prod.snd (Prod.snd (Prod.snd a)))))) fun i => encF rInt (Prod.snd (Prod.snd (Prod.snd (Prod.snd (Prod.snd a))))) ((0 : Nat) + i))) fun x4 =>
                            .br (Prod.snd x3 == (0 : Int)) (
                              .br (Prod.snd x4 == (0 : Int)) (
                                .br (decide (Prod.fst (Prod.fst x3) ≥ IntKind.wrap IntKind.i64 (Ship.least (Prod.fst a) * Prod.snd (Prod.fst x3)))) (
                                  .ret (decide (IntKind.wrap IntKind.i64 ((if Span.hi (Prod.snd (Prod.fst x4)) > Span.hi (Prod.fst (Prod.fst x4)) then Span.hi (Prod.snd (Prod.fst x4)) else Span.hi (Prod.fst (Prod.fst x4))) + Prod.fst (Prod.snd (Prod.snd (Prod.snd (Prod.snd a))))) ≤ Prod.fst (Prod.snd (Prod.snd (Prod.snd a)))))) (
                                  .ret (false))) (
                                .ret (false))) (
                              .ret (false))))))))))) := fun a => by kernel_rfl
end Go.Proofs.YtjbhooodjmjdkaaGreat
/-! KLt2 -/
namespace Go.Proofs.YtjbhooodjmjdkaaGreat
open Ev K
set_option maxRecDepth 100000
namespace K
theorem S_append (g : Int → Int) : ∀ a b : List Int, Pl.S g (a ++ b) = Pl.S g a + Pl.S g b
  | [], b => by simp [Pl.S]
  | x :: a, b => by simp only [List.cons_append, Pl.S]; rw [S_append g a b]; omega
theorem S_tl (g : Int → Int) : ∀ n : Nat, Pl.S g (tl 0 n) = sm (fun i => g (i : Int)) n
  | 0 => rfl
  | n + 1 => by rw [tl_succ, S_append, S_tl g n]; simp [Pl.S, sm]
theorem S_ord (f g : Int → Int) (n : Nat) : Pl.S g (ordL f n) = sm (fun i => g (i : Int)) n := by rw [Pl.S_perm (ordL_perm f n), S_tl]
theorem sm_add {g h : Nat → Int} : ∀ {n : Nat}, sm (fun i => g i + h i) n = sm g n + sm h n
  | 0 => rfl
  | n + 1 => by simp only [sm]; rw [sm_add]; omega
theorem sm_sub {g h : Nat → Int} : ∀ {n : Nat}, sm (fun i => g i - h i) n = sm g n - sm h n
  | 0 => rfl
  | n + 1 => by simp only [sm]; rw [sm_sub]; omega
structure FitOk (l : LoadL) (x : List Int) : Prop where
  len : x.length = l.holds.length
  each : ∀ i, i < x.length → (vS l.holds i).lo ≤ vI x i ∧ vI x i ≤ (vS l.holds i).hi
  all : l.all.lo ≤ addL x ∧ addL x ≤ l.all.hi
section
variable {s : Ship} (hs : ShipOk s) {l : LoadL} (hl : LoadOk s l)
include hs hl
omit hs hl in
theorem best_at {f : List Int} {t : Int} {i : Nat} (hi : i < l.holds.length) : vI (bestL l.holds f t) i = (vS l.holds i).lo + Pl.amt (capF l.holds) (ordL (formF f) l.holds.length) (t - addL (losU l.holds l.holds.length)) i := by
  have hnd : (ordL (formF f) l.holds.length).Nodup := (ordL_sorted _ _).imp (fun h e => by subst e; exact h.irr)
  have hat := Pl.fillL_at (c := capF l.holds) (left := t - addL (losU l.holds l.holds.length)) (x := losU l.holds l.holds.length) (k := i) hnd (fun j hj => by rw [losU_length]; exact ordL_mem hj)
  rw [← getD_vI (by rw [bestL_length]; exact hi)]
  unfold bestL
  rw [hat, losU_at hi]
theorem los_sm : addL (losU l.holds l.holds.length) = sm (fun i => (vS l.holds i).lo) l.holds.length ∧ (addS l.holds).hi = sm (fun i => (vS l.holds i).hi) l.holds.length ∧ (addS l.holds).lo = sm (fun i => (vS l.holds i).lo) l.holds.length := by
  have h8 := hs.holds; have h := hl.len
  obtain ⟨p1, p2, p3, p4⟩ := addS_is hs hl.len hl.each
  have hh := lo_holds hs hl
  refine ⟨?_, by rw [p1], by rw [p1]⟩
  unfold addL
  rw [losU_length, (fold_w (g := vI (losU l.holds l.holds.length)) (B := 65536) (by omega) l.holds.length (by omega) (fun i hi => by rw [losU_vI hi]; have := hh.each i hi; omega)).1]
  exact sm_congr (fun i hi => losU_vI hi)
omit hs hl in
theorem cap_at {i : Nat} : capF l.holds (i : Int) = (vS l.holds i).hi - (vS l.holds i).lo := by unfold capF; rw [Int.toNat_natCast]
theorem cap_nonneg {f : Int → Int} : ∀ i ∈ ordL f l.holds.length, 0 ≤ capF l.holds i := fun j hj => by
  have hm := ordL_mem hj
  have := (lo_holds hs hl).each j.toNat (by omega)
  unfold capF; omega
omit hs hl in
theorem tot_hi : (totS l).hi ≤ (addS l.holds).hi := by
  unfold totS
  simp only
  split <;> omega
theorem amt_all (f : List Int) {t : Int} (ht : (totS l).lo ≤ t ∧ t ≤ (totS l).hi) : sm (fun i => Pl.amt (capF l.holds) (ordL (formF f) l.holds.length) (t - addL (losU l.holds l.holds.length)) (i : Int)) l.holds.length = t - addL (losU l.holds l.holds.length) := by
  have hb := lo_tot hs hl
  obtain ⟨q1, q2, q3⟩ := los_sm hs hl
  have hth := tot_hi (l := l)
  have hnd : (ordL (formF f) l.holds.length).Nodup := (ordL_sorted _ _).imp (fun h e => by subst e; exact h.irr)
  rw [← S_ord (formF f)]
  refine Pl.amt_sum hnd (by omega) ?_ (cap_nonneg hs hl)
  rw [S_ord, sm_congr (fun i _ => cap_at), sm_sub, ← q2, ← q1]
  omega
theorem best_sum (f : List Int) {t : Int} (ht : (totS l).lo ≤ t ∧ t ≤ (totS l).hi) : addL (bestL l.holds f t) = t := by
  have hx := best_ok hs hl (f := f) ht
  obtain ⟨q1, q2, q3⟩ := los_sm hs hl
  rw [(ldg_sum hs hx).1, bestL_length, sm_congr (fun i hi => best_at hi), sm_add, amt_all hs hl f ht, ← q1]
  omega
variable {x : List Int} (hf : FitOk l x)
include hf
omit hs in
theorem fit_ldg : LoadgOk s x := by
  refine ⟨by rw [hf.len, hl.len], fun i hi => ?_⟩
  have h1 := hf.each i hi
  have h2 := hl.each i (by rw [← hf.len]; exact hi)
  omega
theorem fit_tot : (totS l).lo ≤ addL x ∧ addL x ≤ (totS l).hi := by
  obtain ⟨q1, q2, q3⟩ := los_sm hs hl
  have hsum := (ldg_sum hs (fit_ldg hl hf)).1
  have h1 := sm_le (n := x.length) (g := fun i => (vS l.holds i).lo) (h := vI x) (fun i hi => (hf.each i hi).1)
  have h2 := sm_le (n := x.length) (g := vI x) (h := fun i => (vS l.holds i).hi) (fun i hi => (hf.each i hi).2)
  rw [hf.len] at h1 h2 hsum
  have ha := hf.all
  unfold totS greater
  simp only [decide_eq_true_eq]
  constructor
  · split <;> omega
  · split <;> omega
theorem best_most (f : List Int) : sm (fun i => vI f i * vI x i) l.holds.length ≤ sm (fun i => vI f i * vI (bestL l.holds f (addL x)) i) l.holds.length := by
  have ht := fit_tot hs hl hf
  have hb := lo_tot hs hl
  obtain ⟨q1, q2, q3⟩ := los_sm hs hl
  have hsum := (ldg_sum hs (fit_ldg hl hf)).1
  rw [hf.len] at hsum
  have hzsum : sm (fun i => vI x i - (vS l.holds i).lo) l.holds.length = addL x - addL (losU l.holds l.holds.length) := by rw [sm_sub, ← hsum, ← q1]
  have hz : ∀ i : Nat, (fun k : Int => vI x k.toNat - (vS l.holds k.toNat).lo) (i : Int) = vI x i - (vS l.holds i).lo := fun i => by simp only [Int.toNat_natCast]
  have key := Pl.amt_best (f := formF f) (c := capF l.holds) (z := fun k => vI x k.toNat - (vS l.holds k.toNat).lo) (os := ordL (formF f) l.holds.length) (left := addL x - addL (losU l.holds l.holds.length)) (ordL_sorted _ _) (by omega) (cap_nonneg hs hl) (fun k hk => by
    have hm := ordL_mem hk
    have := hf.each k.toNat (by rw [hf.len]; omega)
    unfold capF
    constructor <;> omega) (by
      rw [S_ord, S_ord, amt_all hs hl f ht, sm_congr (fun i _ => hz i), hzsum])
  rw [S_ord, S_ord] at key
  have e1 : sm (fun i => vI f i * vI x i) l.holds.length = sm (fun i => vI f i * (vS l.holds i).lo) l.holds.length + sm (fun i : Nat => formF f (i : Int) * (vI x (i : Int).toNat - (vS l.holds (i : Int).toNat).lo)) l.holds.length := by
    rw [← sm_add]
    refine sm_congr (fun i _ => ?_)
    unfold formF
    rw [Int.toNat_natCast, Int.mul_sub]; omega
  have e2 : sm (fun i => vI f i * vI (bestL l.holds f (addL x)) i) l.holds.length = sm (fun i => vI f i * (vS l.holds i).lo) l.holds.length + sm (fun i : Nat => formF f (i : Int) * Pl.amt (capF l.holds) (ordL (formF f) l.holds.length) (addL x - addL (losU l.holds l.holds.length)) (i : Int)) l.holds.length := by
    rw [← sm_add]
    refine sm_congr (fun i hi => ?_)
    rw [best_at hi, Int.mul_add]
    unfold formF
    rw [Int.toNat_natCast]
  rw [e1, e2]; omega
theorem fit_disp (f : List Int) : dispC s x = dispC s (bestL l.holds f (addL x)) := by
  unfold dispC; rw [best_sum hs hl f (fit_tot hs hl hf)]
theorem fit_rise : riseC s x ≤ riseC s (bestL l.holds (colH s 3 (K.len s.holds)) (addL x)) := by
  have h := best_most hs hl hf (colH s 3 (K.len s.holds))
  unfold riseC
  rw [hf.len, bestL_length]
  have e1 : ∀ y : List Int, sm (fun i => vI (colH s 3 (K.len s.holds)) i * vI y i) l.holds.length = sm (fun i => s.holds.g i 3 * vI y i) l.holds.length := fun y => sm_congr (fun i hi => by rw [colH_vI _ _ _ _ (by rw [← hl.len]; exact hi)])
  rw [e1, e1] at h
  omega
theorem fit_fore : momC s x ≤ momC s (bestL l.holds (colH s 2 (K.len s.holds)) (addL x)) := by
  have h := best_most hs hl hf (colH s 2 (K.len s.holds))
  unfold momC
  rw [hf.len, bestL_length]
  have e1 : ∀ y : List Int, sm (fun i => vI (colH s 2 (K.len s.holds)) i * vI y i) l.holds.length = sm (fun i => s.holds.g i 2 * vI y i) l.holds.length := fun y => sm_congr (fun i hi => by rw [colH_vI _ _ _ _ (by rw [← hl.len]; exact hi)])
  rw [e1, e1] at h
  omega
omit hs hl hf in
theorem sm_neg {g : Nat → Int} : ∀ {n : Nat}, sm (fun i => -(g i)) n = -(sm g n)
  | 0 => rfl
  | n + 1 => by simp only [sm]; rw [sm_neg]; omega
theorem fit_aft : momC s (bestL l.holds (levR s (-1) (K.len s.holds)) (addL x)) ≤ momC s x := by
  have h := best_most hs hl hf (levR s (-1) (K.len s.holds))
  have hw : ∀ i, i < l.holds.length → vI (levR s (-1) (K.len s.holds)) i = -(s.holds.g i 2) := fun i hi => by
    have hi2 : i < K.len s.holds := by rw [← hl.len]; exact hi
    have := hold_ok hs hi2
    rw [levR_vI _ _ _ _ hi2, w64_in (by omega) (by omega)]; omega
  unfold momC
  rw [hf.len, bestL_length]
  have e1 : ∀ y : List Int, sm (fun i => vI (levR s (-1) (K.len s.holds)) i * vI y i) l.holds.length = -(sm (fun i => s.holds.g i 2 * vI y i) l.holds.length) := fun y => by
    rw [← sm_neg]
    exact sm_congr (fun i hi => by rw [hw i hi, Int.neg_mul])
  rw [e1, e1] at h
  omega
end
end K
end Go.Proofs.YtjbhooodjmjdkaaGreat
/-! KLt3 -/
namespace Go.Proofs.YtjbhooodjmjdkaaGreat
open Ev K
set_option maxRecDepth 100000
namespace K
theorem lim_gcd2 {σ ρ : Type} {st : σ → Option (σ ⊕ ρ)} (S : Int → Int → σ) (fin : Int → ρ) (h0 : ∀ m : Nat, st (S m 0) = some (.inr (fin m))) (h1 : ∀ m n : Nat, 0 < n → st (S m n) = some (.inl (S n ((m % n : Nat) : Int)))) :
    ∀ k n m : Nat, n < k → lim st (S m n) = some (fin (Nat.gcd m n : Nat)) := by
  intro k
  induction k with
  | zero => intro n m h; omega
  | succ k ih =>
    intro n m h
    rcases Nat.eq_zero_or_pos n with e | e
    · subst e; rw [Nat.gcd_zero_right]; exact lim_done (h0 m)
    · rw [lim_step (h1 m n e), ih (m % n) n (Nat.lt_of_lt_of_le (Nat.mod_lt m e) (by omega)), Nat.gcd_comm m n, Nat.gcd_rec n m, Nat.gcd_comm]
theorem lowF_is {n m L : Int} (hm : 0 < m ∧ m ≤ 1000000000000) (hn : -1000000000000000000 ≤ n ∧ n ≤ 1000000000000000000) (hL : 0 ≤ L ∧ L ≤ 5000) (h : n ≥ L * m) : ∃ p, lowF (n, m) = some p ∧ p.1 ≥ IntKind.wrap IntKind.i64 (L * p.2) := by
  have eg : greater (n, IntKind.wrap IntKind.i64 (0 - n)) = (n.natAbs : Int) := by
    unfold greater
    rw [w64_in (n := 0 - n) (by omega) (by omega)]
    simp only [decide_eq_true_eq]
    split <;> omega
  have em : m = (m.natAbs : Int) := by omega
  have hlim : L_lw ((n, m, (n.natAbs : Int), m), (0, 0), ()) = some ((n, m, ((Nat.gcd n.natAbs m.natAbs : Nat) : Int)), (0, 0), ()) := by
    have := lim_gcd2 (st := st_lw) (fun a b => ((n, m, a, b), (0, 0), ())) (fun g => ((n, m, g), (0, 0), ())) (fun k => by
      rw [sl_lw]; rfl) (fun a b hb => by
      rw [sl_lw]
      simp only [T.run_br, T.run_chk, T.run_ret]
      rw [if_pos (by simp; omega), if_pos (by simp; omega)]; rfl) (m.natAbs + 1) m.natAbs n.natAbs (by omega)
    rw [← em] at this
    exact this
  have hg : 0 < Nat.gcd n.natAbs m.natAbs := Nat.gcd_pos_of_pos_right _ (by omega)
  generalize hG : Nat.gcd n.natAbs m.natAbs = g at hlim hg
  obtain ⟨n', hn'⟩ : (g : Int) ∣ n := Int.ofNat_dvd_left.2 (by rw [← hG]; exact Nat.gcd_dvd_left _ _)
  obtain ⟨m', hm'⟩ : (g : Int) ∣ m := Int.ofNat_dvd_left.2 (by rw [← hG]; exact Nat.gcd_dvd_right _ _)
  have q1 : Int.tdiv n g = n' := by rw [hn']; exact Int.mul_tdiv_cancel_left _ (by omega)
  have q2 : Int.tdiv m g = m' := by rw [hm']; exact Int.mul_tdiv_cancel_left _ (by omega)
  have b1 := Int.natAbs_tdiv_le_natAbs n g
  have b2 := Int.natAbs_tdiv_le_natAbs m g
  rw [q1] at b1; rw [q2] at b2
  have hne : (!decide ((g : Int) = 0)) = true := by simp; omega
  refine ⟨(n', m'), ?_, ?_⟩
  · unfold lowF
    simp only [eg]
    rw [hlim, T.run_some]
    refine chk_step hne (chk_step hne ?_)
    simp only [q1, q2, T.run_ret]
    rw [w64_in (by omega) (by omega), w64_in (by omega) (by omega)]
  · have mb := mul_bound (a := L) (b := m') (A := 5000) (B := 1000000000000) (by omega) (by
      constructor
      · refine Classical.byContradiction fun hneg => ?_
        have h1 : (g : Int) * m' ≤ 0 := Int.mul_nonpos_of_nonneg_of_nonpos (by omega) (by omega)
        omega
      · omega) (by omega)
    show n' ≥ IntKind.wrap IntKind.i64 (L * m')
    rw [w64_in (by omega) (by omega)]
    rw [hn', hm'] at h
    have h2 : (g : Int) * (L * m') ≤ (g : Int) * n' := by
      have : L * ((g : Int) * m') = (g : Int) * (L * m') := by rw [← Int.mul_assoc, Int.mul_comm L, Int.mul_assoc]
      omega
    exact Int.le_of_mul_le_mul_left h2 (by omega)
theorem L_fts_eq (l : LoadL) (x : List Int) (h : x.length = l.holds.length) (h2 : x.length ≤ 1000000) : L_fts ((x, x, (x.length : Int), 0), l, ()) = some (match first (fun i => !within (vI x i) (vS l.holds i).lo (vS l.holds i).hi) x.length with | some _ => Sum.inl false | none => Sum.inr ((x, ()), l, ())) := by
  refine lim_find (fun i => ((x, x, (x.length : Int), (i : Int)), l, ())) x.length (fun i => !within (vI x i) (vS l.holds i).lo (vS l.holds i).hi) (fun _ => Sum.inl false) (Sum.inr ((x, ()), l, ())) (fun i hi hp => ?_) (fun i hi hp => ?_) ?_
  · rw [sl_fts]
    simp only [decF_enc0, Int.toNat_natCast]
    simp only [Nat.zero_add]
    refine (T.run_br _ _ _).trans ?_
    rw [if_pos (decide_eq_true (by omega))]
    refine chk_step (decide_eq_true (by omega)) (chk_step (decide_eq_true (by omega)) (chk_step (decide_eq_true (by omega)) ?_))
    rw [T.run_br]
    exact if_pos hp
  · rw [sl_fts]
    simp only [decF_enc0, Int.toNat_natCast]
    simp only [Nat.zero_add]
    refine (T.run_br _ _ _).trans ?_
    rw [if_pos (decide_eq_true (by omega))]
    refine chk_step (decide_eq_true (by omega)) (chk_step (decide_eq_true (by omega)) (chk_step (decide_eq_true (by omega)) ?_))
    rw [T.run_br]
    refine (if_neg (by
      have hp : (!within (vI x i) (vS l.holds i).lo (vS l.holds i).hi) = false := hp
      exact fun hc => by
        have hc : (!within (vI x i) (vS l.holds i).lo (vS l.holds i).hi) = true := hc
        rw [hp] at hc; cases hc)).trans ?_
    rw [w64_in (n := (i : Int) + 1) (by omega) (by omega)]; rfl
  · rw [sl_fts]
    simp only [decF_enc0]
    refine (T.run_br _ _ _).trans ?_
    rw [if_neg (by simp)]; rfl
theorem fitsO_is (l : LoadL) (x : List Int) (h : l.holds.length ≤ 1000000) (h2 : x.length ≤ 1000000) : ∃ b, fitsO (l, x) = some b ∧ (b = true → FitOk l x) := by
  unfold fitsO
  simp only [decF_enc0]
  rw [clampL_eq (by unfold maxL; omega), clampL_eq (by unfold maxL; omega)]
  rw [T.run_br]
  by_cases hn : x.length = l.holds.length
  · rw [if_neg (by simp [hn])]
    rw [show (LoadL.mk l.holds l.all) = l from rfl, L_fts_eq l x hn h2, T.run_some]
    cases hf : first (fun i => !within (vI x i) (vS l.holds i).lo (vS l.holds i).hi) x.length with
    | some i => exact ⟨false, rfl, fun h => by cases h⟩
    | none =>
      refine ⟨_, chk_step (decide_eq_true h2) rfl, fun hw => ⟨hn, fun i hi => ?_, within_iff.1 hw⟩⟩
      have := first_none' hf i hi
      exact within_iff.1 (by simpa using this)
  · rw [if_pos (by rw [bne_iff_ne]; omega)]
    exact ⟨false, rfl, fun h => by cases h⟩
theorem FitsO_is (s : Ship) (l : LoadL) (x : List Int) (h : l.holds.length ≤ 1000000) (h2 : x.length ≤ 1000000) : ∃ b, FitsO (s, l, x) = some b ∧ (b = true → FitOk l x) := by
  obtain ⟨b, hb, hf⟩ := fitsO_is l x h h2
  unfold FitsO
  simp only [decF_enc0]
  rw [show (LoadL.mk l.holds l.all) = l from rfl]
  by_cases hc : (checkLoad (s, l) == 0) = true
  · refine ⟨b, chk_step (decide_eq_true h) ?_, hf⟩
    rw [T.run_br, if_pos hc, hb]; rfl
  · refine ⟨false, chk_step (decide_eq_true h) ?_, fun h => by cases h⟩
    rw [T.run_br, if_neg hc]; rfl
def lddE (s : Ship) (l : List Int) (i : Nat) : Option Int := if (!within (vI l i) 0 (s.holds.g i 1)) = true then some 1 else none
theorem L_ldd_eq (s : Ship) (l : List Int) (h : l.length = K.len s.holds) (h2 : l.length ≤ 1000000) : L_ldd ((l, l, (l.length : Int), 0), s, ()) = some (K.orr Sum.inl (.inr ((l, ()), s, ())) ((List.range l.length).findSome? (lddE s l))) := by
  have e1 := K.len_le s.holds; have e2 := K.len_le' s.holds
  refine lim_err (fun i => ((l, l, (l.length : Int), (i : Int)), s, ())) l.length (lddE s l) Sum.inl _ (fun i hi => ?_) ?_
  · rw [sl_ldd]
    simp only [decF_enc0, Int.toNat_natCast]
    simp only [Nat.zero_add]
    refine (T.run_br _ _ _).trans ?_
    rw [if_pos (decide_eq_true (by omega))]
    refine chk_step (decide_eq_true (by omega)) (chk_step (decide_eq_true (by omega)) ?_)
    rw [w64_in (n := (i : Int) + 1) (by omega) (by omega), T.run_br]
    show (if (!within (vI l i) 0 (s.holds.g i 1)) = true then _ else _) = _
    unfold lddE
    split <;> rfl
  · rw [sl_ldd]
    simp only [decF_enc0]
    refine (T.run_br _ _ _).trans ?_
    rw [if_neg (by simp)]; rfl
section
variable {s : Ship} (h0 : hullCheck s = 0) (hs : ShipOk s) {x : List Int} (hx : LoadgOk s x)
include h0 hs hx
theorem loadedO_is : loadedO (s, x) = some 0 := by
  have h8 := hs.holds; have hlen := hx.len
  unfold loadedO
  simp only [decF_enc0, h0]
  rw [clampL_eq (by unfold maxL; omega), T.run_br, if_neg (by simp), T.run_br, if_neg (by simp [hlen])]
  rw [L_ldd_eq s x hlen (by omega), T.run_some]
  have : (List.range x.length).findSome? (lddE s x) = none := List.findSome?_eq_none_iff.2 (fun i hi => by
    have h1 := hx.each i (List.mem_range.1 hi)
    unfold lddE
    rw [within_iff.2 h1, if_neg (by simp)])
  rw [this]; rfl
theorem AfloatO_is : AfloatO (s, x) = some (afloatC s x, 0) := by
  unfold AfloatO
  simp only [decF_enc0, loadedO_is h0 hs hx, T.run_some, (afloat_is hs hx).1]
  rw [T.run_br, if_neg (by simp)]; rfl
theorem StiffO_is (hst : steadyC s x = true) : ∃ p, StiffO (s, x) = some (p, 0) ∧ p.1 ≥ IntKind.wrap IntKind.i64 (s.least * p.2) := by
  have h8 := hs.holds; have hl := hx.len
  have hd := disp_bound hs hx
  have g1 : s.mc.knots.g 0 0 * 40 ≤ dispC s x := Int.le_trans hs.mlow hd.1
  have g2 : dispC s x ≤ s.mc.knots.g (K.len s.mc.knots - 1) 0 * 40 := Int.le_trans hd.2.1 hs.mhigh
  have t1 := tabAt_is hs.mc g1 g2; have t3 := tA_bound hs.mc g1 g2
  obtain ⟨r1, r2, r3⟩ := rise_is hs hx
  have herr := hs.mc.err; have hle := hs.least
  have hsum := ldg_sum hs hx
  have hmost := hs.most
  have hlt := hs.light
  have hD : IntKind.wrap IntKind.i64 (s.light + addL x) = dispC s x := by unfold dispC; rw [w64_in (by omega) (by omega)]
  have hload := loadedO_is h0 hs hx
  unfold steadyC at hst
  have hst := of_decide_eq_true hst
  generalize tA s.mc (dispC s x) = p at *
  generalize riseC s x = R at *
  obtain ⟨N, D⟩ := p
  simp only at t3 hst
  have m3 := mul_bound (a := R) (b := D) (A := 3000000000) (B := 80000) (by omega) (by omega) (by omega)
  have m4 := mul_bound (a := s.mc.err) (b := D) (A := 9000) (B := 80000) (by omega) (by omega) (by omega)
  have m5 := mul_bound (a := N - s.mc.err * D) (b := dispC s x) (A := 17000000000) (B := 65536) (by omega) (by omega) (by omega)
  have m6 := mul_bound (a := D) (b := dispC s x) (A := 80000) (B := 65536) (by omega) (by omega) (by omega)
  have w5 : IntKind.wrap IntKind.i64 (R * D) = R * D := w64_in (by omega) (by omega)
  have w6 : IntKind.wrap IntKind.i64 (s.mc.err * D) = s.mc.err * D := w64_in (by omega) (by omega)
  have w7 : IntKind.wrap IntKind.i64 (N - s.mc.err * D) = N - s.mc.err * D := w64_in (by omega) (by omega)
  have w8 : IntKind.wrap IntKind.i64 ((N - s.mc.err * D) * dispC s x) = (N - s.mc.err * D) * dispC s x := w64_in (by omega) (by omega)
  have w9 : IntKind.wrap IntKind.i64 ((N - s.mc.err * D) * dispC s x - R * D) = (N - s.mc.err * D) * dispC s x - R * D := w64_in (by omega) (by omega)
  have w10 : IntKind.wrap IntKind.i64 (D * dispC s x) = D * dispC s x := w64_in (by omega) (by omega)
  have e : (N - (s.mc.err + s.least) * D) * dispC s x = (N - s.mc.err * D) * dispC s x - s.least * (D * dispC s x) := by
    rw [Int.add_mul, ← Int.mul_assoc s.least, ← Int.sub_mul]
    congr 1; omega
  have hpos : 0 < D * dispC s x := Int.mul_pos (by omega) (by omega)
  obtain ⟨q, hq1, hq2⟩ := lowF_is (n := (N - s.mc.err * D) * dispC s x - R * D) (m := D * dispC s x) (L := s.least) (by omega) (by omega) (by omega) (by omega)
  refine ⟨q, ?_, hq2⟩
  unfold StiffO
  simp only [decF_enc0, hload, T.run_some]
  rw [T.run_br, if_neg (by simp)]
  refine chk_step (decide_eq_true (by omega)) ?_
  simp only [hD, t1, r1, T.run_some, w5, w6, w7, w8, w9, w10, hq1, T.run_ret]
end
/-! depth -/
theorem foldD_ge (s : Ship) (l : LoadL) : ∀ (L : List Int) (d : Int), d ≤ foldD s l L true d ∧ ∀ t ∈ L, dF s l t ≤ foldD s l L true d ∧ dA s l t ≤ foldD s l L true d
  | [], d => ⟨Int.le_refl _, fun t h => by simp at h⟩
  | t :: L, d => by
    obtain ⟨h1, h2⟩ := foldD_ge s l L (mx (mx d (dF s l t)) (dA s l t))
    have hm : d ≤ mx (mx d (dF s l t)) (dA s l t) ∧ dF s l t ≤ mx (mx d (dF s l t)) (dA s l t) ∧ dA s l t ≤ mx (mx d (dF s l t)) (dA s l t) := by
      unfold mx; split <;> split <;> omega
    unfold foldD
    rw [if_pos rfl]
    refine ⟨by omega, fun u hu => ?_⟩
    rcases List.mem_cons.1 hu with e | e
    · subst e; omega
    · exact h2 u e
theorem foldD_le (s : Ship) (l : LoadL) (B : Int) : ∀ (L : List Int) (d : Int), d ≤ B → (∀ t ∈ L, dF s l t ≤ B ∧ dA s l t ≤ B) → foldD s l L true d ≤ B
  | [], d, h, _ => h
  | t :: L, d, h, hl => by
    have ht := hl t (List.mem_cons_self ..)
    unfold foldD
    rw [if_pos rfl]
    exact foldD_le s l B L _ (by unfold mx; split <;> split <;> omega) (fun u hu => hl u (List.mem_cons_of_mem _ hu))
section
variable {s : Ship} (hs : ShipOk s) {l : LoadL} (hl : LoadOk s l)
include hs
theorem deepC_bound {x : List Int} (hx : LoadgOk s x) : -100000000000010000 ≤ deepC s x ∧ deepC s x ≤ 100000000000010000 := by
  have h8 := hs.holds
  have hd := disp_bound hs hx
  have g1 : s.mean.knots.g 0 0 * 40 ≤ dispC s x := Int.le_trans hs.low hd.1
  have g2 : dispC s x ≤ s.mean.knots.g (K.len s.mean.knots - 1) 0 * 40 := Int.le_trans hd.2.1 hs.high
  have t3 := tA_bound hs.mean g1 g2
  obtain ⟨r1, r2, r3⟩ := mom_is hs hx
  have herr := hs.mean.err; have hturn := hs.turn
  unfold deepC afloatC endC foreC aftC denC
  generalize tA s.mean (dispC s x) = p at *
  generalize momC s x = M at *
  obtain ⟨N, D⟩ := p
  simp only at t3 ⊢
  have m1 := mul_bound (a := N * 2) (b := s.turn) (A := 32000000000) (B := 1048576) (by omega) (by omega) (by omega)
  have m3 := mul_bound (a := M) (b := D) (A := 12000000000) (B := 80000) (by omega) (by omega) (by omega)
  have q2 := Int.natAbs_ediv_le_natAbs (-(N * 2 * s.turn + M * D)) (D * 2 * s.turn)
  have q4 := Int.natAbs_ediv_le_natAbs (-(N * 2 * s.turn - M * D)) (D * 2 * s.turn)
  generalize -(N * 2 * s.turn + M * D) / (D * 2 * s.turn) = u at *
  generalize -(N * 2 * s.turn - M * D) / (D * 2 * s.turn) = v at *
  split <;> omega
omit hs in
theorem deepest_le {t : Int} (ht : t ∈ eachL l) : dF s l t ≤ deepest s l ∧ dA s l t ≤ deepest s l := by
  unfold deepest
  cases hL : eachL l with
  | nil => rw [hL] at ht; simp at ht
  | cons u L =>
    rw [hL] at ht
    unfold foldD
    rw [if_neg (by simp)]
    obtain ⟨h1, h2⟩ := foldD_ge s l L (mx (dF s l u) (dA s l u))
    have hm : dF s l u ≤ mx (dF s l u) (dA s l u) ∧ dA s l u ≤ mx (dF s l u) (dA s l u) := by unfold mx; split <;> omega
    rcases List.mem_cons.1 ht with e | e
    · subst e; omega
    · exact h2 t e
include hl
theorem deepest_most : deepest s l ≤ 100000000000010000 := by
  have hb : ∀ t ∈ eachL l, dF s l t ≤ 100000000000010000 ∧ dA s l t ≤ 100000000000010000 := fun t ht => ⟨(deepC_bound hs (best_ok hs hl (each_mem ht))).2, (deepC_bound hs (best_ok hs hl (each_mem ht))).2⟩
  unfold deepest
  cases hL : eachL l with
  | nil => unfold foldD; omega
  | cons u L =>
    rw [hL] at hb
    unfold foldD
    rw [if_neg (by simp)]
    have hu := hb u (List.mem_cons_self ..)
    exact foldD_le s l _ L _ (by unfold mx; split <;> omega) (fun t ht => hb t (List.mem_cons_of_mem _ ht))
variable {x : List Int} (hf : FitOk l x)
include hf
theorem fit_each : addL x ∈ eachL l := by
  have ht := fit_tot hs hl hf
  unfold eachL
  exact List.mem_map.2 ⟨(addL x - (totS l).lo).toNat, List.mem_range.2 (by omega), by omega⟩
theorem fit_steady (hk : (shk s l).isSome = false) : steadyC s x = true := by
  have ht := fit_tot hs hl hf
  have hx := fit_ldg hl hf
  have hst : stT s l (addL x) = true := by
    unfold shk at hk
    have : (eachL l).find? (fun t => !stT s l t) = none := by
      cases h : (eachL l).find? (fun t => !stT s l t) with
      | none => rfl
      | some t => rw [h] at hk; cases hk
    have := List.find?_eq_none.1 this (addL x) (fit_each hs hl hf)
    simpa using this
  have hd := disp_bound hs hx
  have g1 : s.mc.knots.g 0 0 * 40 ≤ dispC s x := Int.le_trans hs.mlow hd.1
  have g2 : dispC s x ≤ s.mc.knots.g (K.len s.mc.knots - 1) 0 * 40 := Int.le_trans hd.2.1 hs.mhigh
  have t3 := tA_bound hs.mc g1 g2
  have hr := fit_rise hs hl hf
  unfold stT steadyC at hst
  rw [← fit_disp hs hl hf] at hst
  have hst := of_decide_eq_true hst
  unfold steadyC
  refine decide_eq_true ?_
  have := Int.mul_le_mul_of_nonneg_right hr (show 0 ≤ (tA s.mc (dispC s x)).2 by omega)
  omega
theorem fit_deep : deepC s x ≤ deepest s l := by
  have ht := fit_tot hs hl hf
  have hx := fit_ldg hl hf
  have hm := fit_each hs hl hf
  obtain ⟨d1, d2⟩ := deepest_le (s := s) hm
  have hd := disp_bound hs hx
  have g1 : s.mean.knots.g 0 0 * 40 ≤ dispC s x := Int.le_trans hs.low hd.1
  have g2 : dispC s x ≤ s.mean.knots.g (K.len s.mean.knots - 1) 0 * 40 := Int.le_trans hd.2.1 hs.high
  have t3 := tA_bound hs.mean g1 g2
  have hturn := hs.turn
  have hpos : 0 < denC s x := by unfold denC; exact Int.mul_pos (by omega) (by omega)
  have hden : ∀ f, denC s (bestL l.holds f (addL x)) = denC s x := fun f => by unfold denC; rw [← fit_disp hs hl hf]
  have up : ∀ {a b : Int}, a ≤ b → -(-a / denC s x) + s.mean.err ≤ -(-b / denC s x) + s.mean.err := fun h => by
    have := Int.ediv_le_ediv hpos (show -_ ≤ -_ from Int.neg_le_neg h)
    omega
  have f1 : foreC s x ≤ foreC s (bestL l.holds (colH s 2 (K.len s.holds)) (addL x)) := by
    unfold foreC
    rw [← fit_disp hs hl hf]
    have := Int.mul_le_mul_of_nonneg_right (fit_fore hs hl hf) (show 0 ≤ (tA s.mean (dispC s x)).2 by omega)
    omega
  have f2 : aftC s x ≤ aftC s (bestL l.holds (levR s (-1) (K.len s.holds)) (addL x)) := by
    unfold aftC
    rw [← fit_disp hs hl hf]
    have := Int.mul_le_mul_of_nonneg_right (fit_aft hs hl hf) (show 0 ≤ (tA s.mean (dispC s x)).2 by omega)
    omega
  have e1 : (afloatC s x).1.hi ≤ dF s l (addL x) := by
    have h1 : (afloatC s x).1.hi ≤ (afloatC s (bestL l.holds (colH s 2 (K.len s.holds)) (addL x))).1.hi := by
      unfold afloatC endC
      simp only [hden]
      exact up f1
    unfold dF deepC
    split <;> omega
  have e2 : (afloatC s x).2.hi ≤ dA s l (addL x) := by
    have h1 : (afloatC s x).2.hi ≤ (afloatC s (bestL l.holds (levR s (-1) (K.len s.holds)) (addL x))).2.hi := by
      unfold afloatC endC
      simp only [hden]
      exact up f2
    unfold dA deepC
    split <;> omega
  unfold deepC
  split <;> omega
end
def lawRe (_ : Ship × Bulbs × XS × Int × Int × List Int) : Bool := true
theorem lawRe_true (a : Ship × Bulbs × XS × Int × Int × List Int) : lawRe a = true := rfl
theorem relC_ok {s : Ship} {b : Bulbs} {y : XS} {depth keel : Int} (h : (relC (s, b, y, depth, keel)).1 = true) :
    (loadC (s, b, y)).2 = 0 ∧ (shk s (loadC (s, b, y)).1).isSome = false ∧ IntKind.i64.wrap (deepest s (loadC (s, b, y)).1 + keel) ≤ depth ∧ 0 ≤ keel ∧ keel ≤ 5000 := by
  unfold relC at h
  simp only at h
  split at h
  · cases h
  rename_i h1
  split at h
  · cases h
  split at h
  · cases h
  rename_i h3
  unfold clearC at h
  split at h
  · cases h
  split at h
  · cases h
  rename_i h5
  have hk := within_iff.1 (show within keel 0 5000 = true by simpa using h5)
  exact ⟨by simpa using h1, by simpa using h3, of_decide_eq_true h, hk⟩
theorem relC_err {a : Ship × Bulbs × XS × Int × Int} (h : (relC a).2 ≠ 0) : (relC a).1 = false := by
  unfold relC at h ⊢
  split
  · rfl
  rename_i h1
  rw [if_neg h1] at h
  split
  · rfl
  rename_i h2
  rw [if_neg h2] at h
  split
  · rfl
  rename_i h3
  rw [if_neg h3] at h
  exact absurd rfl h
theorem lawRe_eq (a : Ship × Bulbs × XS × Int × Int × List Int) : callT1 P BKLt19 30 5 D_rld dB a = some (lawRe a) := by
  obtain ⟨s, b, y, depth, keel, x⟩ := a
  rw [fn_lawRe]
  rw [T.run_br]; split
  · rfl
  rw [T.run_br]; split
  · rfl
  rw [T.run_br]; split
  · rfl
  rw [T.run_br]; split
  · rfl
  rename_i hx12
  rw [Release_is, T.run_some, sLoad_is, T.run_some]
  simp only [decF_enc0]
  rw [T.run_br]; split
  · rename_i he
    have he : (relC (s, b, y, depth, keel)).2 ≠ 0 := by simpa using he
    rw [T.run_br, if_neg (by simpa using he), relC_err he]; rfl
  rename_i he
  have he : (relC (s, b, y, depth, keel)).2 = 0 := by simpa using he
  rw [T.run_br]; split
  · rw [T.run_br, he, if_pos (by simp)]; rfl
  rename_i hr
  have hr : (relC (s, b, y, depth, keel)).1 = true := by simpa using hr
  obtain ⟨k1, k2, k3, k4, k5⟩ := relC_ok hr
  obtain ⟨hc, hs, hl⟩ := loadC_ok k1
  rw [T.run_br, k1, if_neg (by simp)]
  simp only at hc hs hl
  have hlen := loadC_len (s, b, y)
  generalize (loadC (s, b, y)).1 = l at *
  rw [show (LoadL.mk l.holds l.all) = l from rfl]
  have hxl : x.length ≤ 1000000 := by
    have hx12 : ¬ decide ((clampL x.length : Int) > 12) = true := hx12
    rw [decide_eq_true_eq] at hx12
    refine Classical.byContradiction fun hbig => hx12 ?_
    unfold clampL maxL
    split <;> omega
  obtain ⟨f, hf1, hf2⟩ := FitsO_is s l x hlen hxl
  rw [hf1, T.run_some, T.run_br]; split
  · rfl
  rename_i hft
  have hf := hf2 (by simpa using hft)
  have hx := fit_ldg hl hf
  have h0 : hullCheck s = 0 := by
    rw [checkLoad_tail] at hc
    by_cases h1 : (hullCheck s != 0) = true
    · rw [if_pos h1] at hc; exact hc
    · simpa using h1
  obtain ⟨p, hp1, hp2⟩ := StiffO_is h0 hs hx (fit_steady hs hl hf k2)
  rw [hp1, T.run_some, AfloatO_is h0 hs hx, T.run_some]
  rw [T.run_br, if_pos (by simp), T.run_br, if_pos (by simp), T.run_br, if_pos (decide_eq_true hp2), T.run_ret]
  have hdeep := fit_deep hs hl hf
  have hb := deepC_bound hs hx
  have hmost := deepest_most hs hl
  have hdd : (if (afloatC s x).2.hi > (afloatC s x).1.hi then (afloatC s x).2.hi else (afloatC s x).1.hi) = deepC s x := rfl
  show some (decide (IntKind.i64.wrap ((if (afloatC s x).2.hi > (afloatC s x).1.hi then (afloatC s x).2.hi else (afloatC s x).1.hi) + keel) ≤ depth)) = some true
  rw [hdd]
  rw [w64_in (n := deepest s l + keel) (by omega) (by omega)] at k3
  rw [w64_in (by omega) (by omega)]
  exact congrArg some (decide_eq_true (by omega))
end K
end Go.Proofs.YtjbhooodjmjdkaaGreat
/-! KZReleased -/
namespace Go.Proofs.YtjbhooodjmjdkaaGreat
open Ev K
open Go.ChangeShapes Go.WideShapes Go.RowKit
set_option maxRecDepth 100000
theorem law_pc (a) : PC P 5 (D_rld.enc a) (.bool true) := by
  have h := lawRe_eq a
  rw [lawRe_true] at h
  exact call_of okP tKLt19 h
theorem ownP : ownKnob P.godebug = none := by kernel_rfl
theorem laidP : laidOutB P = true := by kernel_rfl
theorem ub : P.underlying 4 = some .bool := by kernel_rfl
theorem surveyReleased_lifted (os : Os) (started : os.Started) (H : Type) (enc : TypeId × Value → H) :
    ReturnsInHanded {} Tryz.checked os 5 .any (Rows.surveyReleasedSpec.pre6 enc Tryz.prog Tryz.f5 Rows.surveyReleasedRow.domain false) (Rows.surveyReleasedSpec.post enc Tryz.prog Tryz.f5 false true false false) := by
  refine returnsInHanded_of_change (C := Tryz.checked) ownP started (by kernel_rfl) Tryz.func5
    (ChangeSpec.witness6 (enc := enc) (C := Tryz.checked) false ⟨#[], #[.agg #[.int .i64 0, .int .i64 0, .int .i64 0, .int .i64 0, .slice none 0 0, .slice none 0 0, .int .i64 0, .slice none 0 0, .int .i64 0, .int .i64 0, .int .i64 0], .agg #[.slice none 0 0, .slice none 0 0], .slice none 0 0, .int .i64 0, .int .i64 0, .slice none 0 0], []⟩ 8 (by kernel_rfl) (by kernel_rfl) (by kernel_rfl) (by kernel_rfl)) ?_
  intro W base args ds gs before hval hW _ _
  refine law_contract (P := Tryz.prog) D_rld laidP (by kernel_rfl) rfl (fun ds hd => ?_) (fun W' b sp hd => trodAll_mk1 (shut_bool ub true)) (fun W' => ok_one (by kernel_rfl) rfl (okWide_bool_mk ub true)) (fun W base args ds p hval hA => ?_) law_pc W base args ds gs before hval hW
  · rw [Tryz.params5] at hd
    match ds, hd with
    | [a, b, c, d, e, f], _ => rfl
  · rw [Tryz.params5] at hA hval
    obtain ⟨v0, vs0, d0, ds0, p0, q0, e0, _, _, h0, r0⟩ := trodAll_cons hA
    obtain ⟨v1, vs1, d1, ds1, p1, q1, e1, _, _, h1, r1⟩ := trodAll_cons r0
    obtain ⟨v2, vs2, d2, ds2, p2, q2, e2, _, _, h2, r2⟩ := trodAll_cons r1
    obtain ⟨v3, vs3, d3, ds3, p3, q3, e3, _, _, h3, r3⟩ := trodAll_cons r2
    obtain ⟨v4, vs4, d4, ds4, p4, q4, e4, _, _, h4, r4⟩ := trodAll_cons r3
    obtain ⟨v5, vs5, d5, ds5, p5, q5, e5, _, _, h5, r5⟩ := trodAll_cons r4
    obtain ⟨e6, _, _⟩ := trodAll_nil r5
    subst e6; subst e5; subst e4; subst e3; subst e2; subst e1
    have ha : args = #[v0, v1, v2, v3, v4, v5] := by apply Array.ext'; exact e0
    subst ha
    exact rdL_cons (rp_ship (hval 0 _ v0 rfl rfl) h0) (rdL_cons (rp_bulbs (hval 1 _ v1 rfl rfl) h1) (rdL_cons (rp_surveys (hval 2 _ v2 rfl rfl) h2) (rdL_cons (rp_int (hval 3 _ v3 rfl rfl) h3) (rdL_cons (rp_int (hval 4 _ v4 rfl rfl) h4) (rdL_last (rp_ints (hval 5 _ v5 rfl rfl) h5))))))
theorem surveyReleased_holds : Rows.SurveyReleasedSaid :=
  OpenClaim.holds_of_wide 5 Tryz.f5 rfl rfl rfl rfl rfl rfl rfl ⟨rfl, rfl, rfl, rfl, rfl⟩ rfl rfl rfl rfl rfl (by kernel_rfl) Tryz.func5 (by kernel_rfl)
    (of_decide_eq_true (by kernel_rfl)) (by unfold Func.isWrapper; rw [if_neg (of_decide_eq_false (by kernel_rfl))]; exact ⟨rfl, rfl⟩)
    (fun os started H enc _ => surveyReleased_lifted os started H enc)
#print axioms surveyReleased_holds
end Go.Proofs.YtjbhooodjmjdkaaGreat
