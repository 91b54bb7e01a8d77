/- Parts of the proof, one behind the other: KLo5, KLo6, KLo7, KLo8, KLo9, KLoa, KU1, KLob, KLr1, KLr2. No conditions. -/
import Derived.Test.YtjbhooodjmjdkaaGreatRe9
/-! KLo5 -/
namespace Go.Proofs.YtjbhooodjmjdkaaGreat
open Ev K
set_option maxRecDepth 100000
namespace K
theorem decF_set1 (n i : Nat) (v : Int) (f : Nat → Nat → AV) : decF rInt n (setR i 0 1 [.int .i64 v] f) = (decF rInt n f).set i v := by
  apply List.ext_getElem?
  intro j
  by_cases hj : j < n
  · rw [List.getElem?_set]
    simp only [decF, List.getElem?_map, List.getElem?_range hj, Option.map_some, List.length_map, List.length_range]
    by_cases e : i = j
    · subst e
      rw [if_pos rfl, if_pos hj]
      show some (numOf (setR i 0 1 [.int .i64 v] f i 0)) = some v
      unfold setR
      rw [show (Nat.beq i i && (Nat.ble 0 0 && Nat.blt 0 (0 + 1))) = true from by simp]; rfl
    · rw [if_neg e]
      show some (numOf (setR i 0 1 [.int .i64 v] f j 0)) = some (numOf (f j 0))
      unfold setR
      have hb : Nat.beq j i = false := by rw [← Bool.not_eq_true, Nat.beq_eq]; omega
      rw [hb]; rfl
  · rw [List.getElem?_eq_none (by simp [decF]; omega), List.getElem?_eq_none (by simp [decF]; omega)]
theorem set_mid {P Q : List Int} {x y : Int} : (P ++ x :: Q).set P.length y = P ++ y :: Q := by
  induction P with
  | nil => rfl
  | cons a P ih => simp [ih]
theorem vI_mid {P Q : List Int} {x : Int} : vI (P ++ x :: Q) P.length = x := by
  rw [vI_get (by simp)]; simp
theorem vI_mid2 {P Q : List Int} {x y : Int} : vI (P ++ y :: x :: Q) (P.length + 1) = x := by
  rw [vI_get (by simp)]; simp
theorem set_mid2 {P Q : List Int} {x y z : Int} : (P ++ y :: x :: Q).set (P.length + 1) z = P ++ y :: z :: Q := by
  have h : P ++ y :: x :: Q = (P ++ [y]) ++ x :: Q := by simp
  rw [h, show P.length + 1 = (P ++ [y]).length by simp, set_mid]; simp
def formF (l : List Int) (k : Int) : Int := vI l k.toNat
theorem cmpI_neg {a b : Int} : cmpI (a, b) < 0 ↔ a < b := by
  unfold cmpI
  rw [if_neg (by simp), if_neg (by simp)]
  by_cases h : a < b
  · rw [if_pos (decide_eq_true h)]; exact ⟨fun _ => h, fun _ => by decide⟩
  · rw [if_neg (by simpa using h)]
    refine ⟨fun h2 => ?_, fun h2 => absurd h2 h⟩
    exfalso; revert h2; split <;> decide
theorem bestCmp_eq {form : List Int} {a b : Int} (ha : 0 ≤ a ∧ a < form.length) (hb : 0 ≤ b ∧ b < form.length) : bestCmp (a, b, form) = some (cmpI (formF form b, formF form a)) := by
  unfold bestCmp
  rw [Nat.zero_add, Nat.zero_add]
  exact chk_step (decide_eq_true hb) (chk_step (decide_eq_true ha) rfl)
theorem L_in33_eq (form : List Int) (load : LoadL) (xl : Nat) (xs : List Int) (b i : Int) (v : Nat × Int × Int × Int × Nat) (x : Int) (hx : 0 ≤ x ∧ x < form.length) : ∀ (A C : List Int), (∀ y ∈ A, 0 ≤ y ∧ y < form.length) → A.length + C.length ≤ 1000 →
    L_in33 (((A.reverse ++ x :: C).length, 0, b, i, (A.length : Int)), (A.reverse ++ x :: C, form, load, xl, xs, ()), v) = some (((A.reverse ++ x :: C).length, 0, b, i), (Pl.insR (formF form) x A C, form, load, xl, xs, ()), v)
  | [], C, _, _ => by
    refine lim_done ?_
    rw [sl_in33]
    refine (T.run_br _ _ _).trans ?_
    rw [if_neg (by simp), decF_encF, decF_enc0, decF_enc0, decF_encF]; rfl
  | y :: A, C, hA, hl => by
    have hy := hA y (List.mem_cons_self ..)
    have hA' : ∀ z ∈ A, 0 ≤ z ∧ z < form.length := fun z hz => hA z (List.mem_cons_of_mem _ hz)
    simp only [List.length_cons] at hl
    have el : (y :: A).reverse ++ x :: C = A.reverse ++ y :: x :: C := by simp
    have hlen : (A.reverse ++ y :: x :: C).length = A.length + C.length + 2 := by simp; omega
    rw [el]
    have hw : IntKind.wrap IntKind.i64 (((y :: A).length : Int) - 1) = ((A.length : Nat) : Int) := by
      rw [List.length_cons, w64_in (by omega) (by omega)]; omega
    have e1 : vI (A.reverse ++ y :: x :: C) (A.length + 1) = x := by rw [show A.length + 1 = A.reverse.length + 1 by simp]; exact vI_mid2
    have e2 : vI (A.reverse ++ y :: x :: C) A.length = y := by rw [show A.length = A.reverse.length by simp]; exact vI_mid
    have g1 : decide ((0 : Int) ≤ ((y :: A).length : Int) ∧ ((y :: A).length : Int) < ((A.reverse ++ y :: x :: C).length : Int)) = true := decide_eq_true ⟨by omega, by rw [hlen, List.length_cons]; omega⟩
    have g2 : decide ((0 : Int) ≤ ((A.length : Nat) : Int) ∧ ((A.length : Nat) : Int) < ((A.reverse ++ y :: x :: C).length : Int)) = true := decide_eq_true ⟨by omega, by rw [hlen]; omega⟩
    have hstep : st_in33 (((A.reverse ++ y :: x :: C).length, 0, b, i, ((y :: A).length : Int)), (A.reverse ++ y :: x :: C, form, load, xl, xs, ()), v) =
        if formF form y < formF form x then some (.inl (((A.reverse ++ x :: y :: C).length, 0, b, i, (A.length : Int)), (A.reverse ++ x :: y :: C, form, load, xl, xs, ()), v))
        else some (.inr (((A.reverse ++ y :: x :: C).length, 0, b, i), (A.reverse ++ y :: x :: C, form, load, xl, xs, ()), v)) := by
      rw [sl_in33]
      simp only [hw, Int.toNat_natCast, decF_enc0, decF_encF]
      refine (T.run_br _ _ _).trans ?_
      rw [if_pos (decide_eq_true (by rw [List.length_cons]; omega))]
      refine chk_step g1 (chk_step g2 ?_)
      have hb : bestCmp (numOf (encF rInt (A.reverse ++ y :: x :: C) (y :: A).length 0), numOf (encF rInt (A.reverse ++ y :: x :: C) A.length 0), form) = some (cmpI (formF form y, formF form x)) := by
        have e1' : numOf (encF rInt (A.reverse ++ y :: x :: C) (y :: A).length 0) = x := e1
        have e2' : numOf (encF rInt (A.reverse ++ y :: x :: C) A.length 0) = y := e2
        rw [e1', e2']; exact bestCmp_eq hx hy
      rw [hb, T.run_some, T.run_br]
      by_cases hc : formF form y < formF form x
      · rw [if_pos (decide_eq_true (cmpI_neg.2 hc)), if_pos hc]
        refine chk_step g2 (chk_step g1 (chk_step g1 (chk_step g2 ?_)))
        have e1' : numOf (encF rInt (A.reverse ++ y :: x :: C) (y :: A).length 0) = x := e1
        have e2' : numOf (encF rInt (A.reverse ++ y :: x :: C) A.length 0) = y := e2
        rw [T.run_ret, e1', e2', decF_set1, decF_set1, decF_encF]
        have es : ((A.reverse ++ y :: x :: C).set (y :: A).length y).set A.length x = A.reverse ++ x :: y :: C := by
          rw [show (y :: A).length = A.reverse.length + 1 by simp, set_mid2, show A.length = A.reverse.length by simp, set_mid]
        rw [es, show (A.reverse ++ x :: y :: C).length = (A.reverse ++ y :: x :: C).length from by simp]
      · rw [if_neg (by rw [decide_eq_true_eq]; exact fun h => hc (cmpI_neg.1 h)), if_neg hc, T.run_ret]
    unfold Pl.insR
    by_cases hc : formF form y < formF form x
    · rw [if_pos hc] at hstep ⊢
      rw [show L_in33 = lim st_in33 from rfl, lim_step hstep]
      have := L_in33_eq form load xl xs b i v x hx A (y :: C) hA' (by simp only [List.length_cons]; omega)
      rw [show L_in33 = lim st_in33 from rfl] at this
      rw [this, show (A.reverse ++ x :: y :: C).length = (A.reverse ++ y :: x :: C).length from by simp]
    · rw [if_neg hc] at hstep ⊢
      rw [show L_in33 = lim st_in33 from rfl, lim_done hstep]
      simp
def tl (i n : Nat) : List Int := (List.range' i (n - i)).map Int.ofNat
theorem tl_cons {i n : Nat} (h : i < n) : tl i n = (i : Int) :: tl (i + 1) n := by
  unfold tl
  rw [show n - i = (n - (i + 1)) + 1 by omega, List.range'_succ]; rfl
theorem tl_length (i n : Nat) : (tl i n).length = n - i := by simp [tl]
def ordL (f : Int → Int) : Nat → List Int
  | 0 => []
  | k + 1 => Pl.insR f k (ordL f k).reverse []
theorem insR_app (f : Int → Int) (x : Int) : ∀ (A D C : List Int), Pl.insR f x A (D ++ C) = Pl.insR f x A D ++ C
  | [], D, C => rfl
  | b :: A, D, C => by
    unfold Pl.insR
    split
    · exact insR_app f x A (b :: D) C
    · simp
theorem ordL_perm (f : Int → Int) : ∀ k, (ordL f k).Perm (tl 0 k)
  | 0 => List.Perm.refl _
  | k + 1 => by
    unfold ordL
    refine (Pl.insR_perm f k _ _).trans ?_
    rw [List.reverse_reverse]
    have e : tl 0 (k + 1) = tl 0 k ++ [(k : Int)] := by
      unfold tl
      rw [Nat.sub_zero, Nat.sub_zero, List.range'_concat, List.map_append, Nat.zero_add, Nat.one_mul]; rfl
    rw [e]
    exact (ordL_perm f k).append_right _
theorem ordL_length (f : Int → Int) (k : Nat) : (ordL f k).length = k := by rw [(ordL_perm f k).length_eq, tl_length]; rfl
theorem ordL_mem {f : Int → Int} {k : Nat} {x : Int} (h : x ∈ ordL f k) : 0 ≤ x ∧ x < k := by
  have := (ordL_perm f k).mem_iff.1 h
  unfold tl at this
  obtain ⟨y, hy, rfl⟩ := List.mem_map.1 this
  have := List.mem_range'_1.1 hy
  constructor
  · exact Int.natCast_nonneg y
  · exact Int.ofNat_lt.2 (by omega)
theorem ordL_has {f : Int → Int} {k : Nat} {x : Int} (h : 0 ≤ x ∧ x < k) : x ∈ ordL f k := by
  refine (ordL_perm f k).mem_iff.2 ?_
  unfold tl
  refine List.mem_map.2 ⟨x.toNat, List.mem_range'_1.2 (by omega), ?_⟩
  show ((x.toNat : Nat) : Int) = x
  omega
theorem ordL_sorted (f : Int → Int) : ∀ k, (ordL f k).Pairwise (Pl.Bef f)
  | 0 => List.Pairwise.nil
  | k + 1 => by
    unfold ordL
    refine Pl.insR_sorted f k _ _ (by rw [List.reverse_reverse, List.append_nil]; exact ordL_sorted f k) (fun c hc => by simp at hc) (fun a ha => ?_)
    rw [List.mem_reverse] at ha
    exact (ordL_mem ha).2
theorem L_in9_eq (form : List Int) (load : LoadL) (xl : Nat) (xs : List Int) (v : Nat × Int × Int × Int × Nat) (n : Nat) (hn : n ≤ 500) (hf : n ≤ form.length) :
    L_in9 ((n, 0, (n : Int), 1), (tl 0 n, form, load, xl, xs, ()), v) = some ((), (ordL (formF form) n, load, xl, xs, ()), v) := by
  have hend : ∀ (l : List Int) (i : Int), ¬ i < n → st_in9 ((n, 0, (n : Int), i), (l, form, load, xl, xs, ()), v) = some (.inr ((), (l, load, xl, xs, ()), v)) := fun l i hi => by
    rw [sl_in9]
    refine (T.run_br _ _ _).trans ?_
    rw [if_neg (by simpa using hi), decF_encF, decF_enc0, decF_encF]; rfl
  rcases Nat.eq_zero_or_pos n with rfl | hpos
  · exact lim_done (hend _ 1 (by omega))
  have h1 : tl 0 n = ordL (formF form) 1 ++ tl 1 n := by rw [tl_cons hpos]; rfl
  rw [h1]
  have key := lim_until (step := st_in9) (fun i => ((n, 0, (n : Int), ((i + 1 : Nat) : Int)), (ordL (formF form) (i + 1) ++ tl (i + 1) n, form, load, xl, xs, ()), v)) (n - 1) 0 (fun i _ hi => ?_)
  · refine (show L_in9 _ = _ from key).trans ?_
    rw [Nat.zero_add, show n - 1 + 1 = n by omega]
    have e : tl n n = [] := by unfold tl; rw [Nat.sub_self]; rfl
    rw [e, List.append_nil]
    exact lim_done (hend _ n (by omega))
  · have hlt : i + 1 < n := by omega
    rw [sl_in9]
    refine (T.run_br _ _ _).trans ?_
    rw [if_pos (decide_eq_true (by show ((i + 1 : Nat) : Int) < (n : Int); omega))]
    simp only [decF_encF, decF_enc0]
    rw [tl_cons hlt]
    have hlen : ((ordL (formF form) (i + 1)) ++ ((i + 1 : Nat) : Int) :: tl (i + 1 + 1) n).length = n := by
      simp only [List.length_append, ordL_length, List.length_cons, tl_length]; omega
    have := L_in33_eq form load xl xs n ((i + 1 : Nat) : Int) v ((i + 1 : Nat) : Int) (by omega) (ordL (formF form) (i + 1)).reverse (tl (i + 1 + 1) n) (fun y hy => by
      rw [List.mem_reverse] at hy; have := ordL_mem hy; omega) (by rw [List.length_reverse, ordL_length, tl_length]; omega)
    rw [List.reverse_reverse, List.length_reverse, ordL_length, hlen] at this
    rw [this, T.run_some, T.run_ret]
    have hi := insR_app (formF form) ((i + 1 : Nat) : Int) (ordL (formF form) (i + 1)).reverse [] (tl (i + 1 + 1) n)
    rw [List.nil_append] at hi
    have hw : IntKind.i64.wrap (((i + 1 : Nat) : Int) + 1) = ((i + 1 + 1 : Nat) : Int) := by rw [w64_in (by omega) (by omega)]; omega
    rw [hi]
    simp only [hw]
    rfl
end K
end Go.Proofs.YtjbhooodjmjdkaaGreat
/-! KLo6 -/
namespace Go.Proofs.YtjbhooodjmjdkaaGreat
open Ev K
set_option maxRecDepth 100000
def F_fill : Dec Unit := dFn 201 (.unit (dLp 2 0 0 0) (.unit (dLp 3 0 0 0) (.unit (dLp 0 0 0 0) (.tops 0))))
def S_bst2 := DecS.mk0 (.skips 7 (.unit (dLp 0 0 0 0) (.skips 4 (.unit F_fill (.skips 28 (.cons (dO 4) (.cons (dI .i64) (.last (dI .i64) 8)))))))) (.flat 49 (.last (dO 1) 0) (.rows 3 rInt (.flat 3 (.last (dI .i64) 0) (.flat 41 lLoadL (.rows 3 rInt .nil)))))
def X_bst2 := DecX.one (.exit 2) [7] (DecS.mk0 (.skips 7 (.unit (dLp 0 0 0 0) (.tops 44))) (.flat 49 (.last (dO 1) 0) (.rows 3 rInt .nil)))
noncomputable def K.st_bst2 := loopT1 P BKLo46 30 159 89 [43, 12, 41, 7, 42] S_bst2 X_bst2
theorem sl_bst2 : ∀ s, (K.st_bst2) s = T.run (
  .br (decide (Prod.snd (Prod.snd (Prod.fst s)) < Prod.fst (Prod.snd (Prod.fst s)))) (
    .chk (decide ((0 : Int) ≤ Prod.snd (Prod.snd (Prod.fst s)) ∧ Prod.snd (Prod.snd (Prod.fst s)) < (↑(Prod.fst (Prod.fst s)) : Int))) <|
    .chk (decide ((0 : Int) ≤ numOf (encF rInt (Prod.fst (Prod.snd (Prod.snd (Prod.snd (Prod.snd (Prod.snd s)))))) (Int.toNat (Prod.snd (Prod.snd (Prod.fst s)))) (0 : Nat)) ∧ numOf (encF rInt (Prod.fst (Prod.snd (Prod.snd (Prod.snd (Prod.snd (Prod.snd s)))))) (Int.toNat (Prod.snd (Prod.snd (Prod.fst s)))) (0 : Nat)) < (↑(List.length (LoadL.holds (Prod.fst (Prod.snd (Prod.snd (Prod.snd (Prod.snd s))))))) : Int))) <|
    .chk (decide ((0 : Int) ≤ numOf (encF rInt (Prod.fst (Prod.snd (Prod.snd (Prod.snd (Prod.snd (Prod.snd s)))))) (Int.toNat (Prod.snd (Prod.snd (Prod.fst s)))) (0 : Nat)) ∧ numOf (encF rInt (Prod.fst (Prod.snd (Prod.snd (Prod.snd (Prod.snd (Prod.snd s)))))) (Int.toNat (Prod.snd (Prod.snd (Prod.fst s)))) (0 : Nat)) < (↑(List.length (LoadL.holds (Prod.fst (Prod.snd (Prod.snd (Prod.snd (Prod.snd s))))))) : Int))) <|
    .chk (decide ((0 : Int) ≤ numOf (encF rInt (Prod.fst (Prod.snd (Prod.snd (Prod.snd (Prod.snd (Prod.snd s)))))) (Int.toNat (Prod.snd (Prod.snd (Prod.fst s)))) (0 : Nat)) ∧ numOf (encF rInt (Prod.fst (Prod.snd (Prod.snd (Prod.snd (Prod.snd (Prod.snd s)))))) (Int.toNat (Prod.snd (Prod.snd (Prod.fst s)))) (0 : Nat)) < (↑(Prod.fst (Prod.snd s)) : Int))) <|
    .chk (decide ((0 : Int) ≤ numOf (encF rInt (Prod.fst (Prod.snd (Prod.snd (Prod.snd (Prod.snd (Prod.snd s)))))) (Int.toNat (Prod.snd (Prod.snd (Prod.fst s)))) (0 : Nat)) ∧ numOf (encF rInt (Prod.fst (Prod.snd (Prod.snd (Prod.snd (Prod.snd (Prod.snd s)))))) (Int.toNat (Prod.snd (Prod.snd (Prod.fst s)))) (0 : Nat)) < (↑(Prod.fst (Prod.snd s)) : Int))) <|
    .ret (Sum.inl ((Prod.fst (Prod.fst s), Prod.fst (Prod.snd (Prod.fst s)), IntKind.wrap IntKind.i64 (Prod.snd (Prod.snd (Prod.fst s)) + (1 : Int))), Prod.fst (Prod.snd s), decF rInt (List.length (Prod.fst (Prod.snd (Prod.snd s)))) (setR (Int.toNat (numOf (encF rInt (Prod.fst (Prod.snd (Prod.snd (Prod.snd (Prod.snd (Prod.snd s)))))) (Int.toNat (Prod.snd (Prod.snd (Prod.fst s)))) (0 : Nat)))) (0 : Nat) (nat_lit 1) [AV.int IntKind.i64 (IntKind.wrap IntKind.i64 (numOf (encF rInt (Prod.fst (Prod.snd (Prod.snd s))) (Int.toNat (numOf (encF rInt (Prod.fst (Prod.snd (Prod.snd (Prod.snd (Prod.snd (Prod.snd s)))))) (Int.toNat (Prod.snd (Prod.snd (Prod.fst s)))) (0 : Nat)))) (0 : Nat)) + if IntKind.wrap IntKind.i64 (numOf (encF rSpan (LoadL.holds (Prod.fst (Prod.snd (Prod.snd (Prod.snd (Prod.snd s)))))) ((0 : Nat) + Int.toNat (numOf (encF rInt (Prod.fst (Prod.snd (Prod.snd (Prod.snd (Prod.snd (Prod.snd s)))))) (Int.toNat (Prod.snd (Prod.snd (Prod.fst s)))) (0 : Nat)))) (nat_lit 1)) - numOf (encF rSpan (LoadL.holds (Prod.fst (Prod.snd (Prod.snd (Prod.snd (Prod.snd s)))))) ((0 : Nat) + Int.toNat (numOf (encF rInt (Prod.fst (Prod.snd (Prod.snd (Prod.snd (Prod.snd (Prod.snd s)))))) (Int.toNat (Prod.snd (Prod.snd (Prod.fst s)))) (0 : Nat)))) (nat_lit 0))) < Prod.fst (Prod.snd (Prod.snd (Prod.snd s))) then IntKind.wrap IntKind.i64 (numOf (encF rSpan (LoadL.holds (Prod.fst (Prod.snd (Prod.snd (Prod.snd (Prod.snd s)))))) ((0 : Nat) + Int.toNat (numOf (encF rInt (Prod.fst (Prod.snd (Prod.snd (Prod.snd (Prod.snd (Prod.snd s)))))) (Int.toNat (Prod.snd (Prod.snd (Prod.fst s)))) (0 : Nat)))) (nat_lit 1)) - numOf (encF rSpan (LoadL.holds (Prod.fst (Prod.snd (Prod.snd (Prod.snd (Prod.snd s)))))) ((0 : Nat) + Int.toNat (numOf (encF rInt (Prod.fst (Prod.snd (Prod.snd (Prod.snd (Prod.snd (Prod.snd s)))))) (Int.toNat (Prod.snd (Prod.snd (Prod.fst s)))) (0 : Nat)))) (nat_lit 0))) else Prod.fst (Prod.snd (Prod.snd (Prod.snd s)))))] (encF rInt (Prod.fst (Prod.snd (Prod.snd s))))), IntKind.wrap IntKind.i64 (Prod.fst (Prod.snd (Prod.snd (Prod.snd s))) - if IntKind.wrap IntKind.i64 (numOf (encF rSpan (LoadL.holds (Prod.fst (Prod.snd (Prod.snd (Prod.snd (Prod.snd s)))))) ((0 : Nat) + Int.toNat (numOf (encF rInt (Prod.fst (Prod.snd (Prod.snd (Prod.snd (Prod.snd (Prod.snd s)))))) (Int.toNat (Prod.snd (Prod.snd (Prod.fst s)))) (0 : Nat)))) (nat_lit 1)) - numOf (encF rSpan (LoadL.holds (Prod.fst (Prod.snd (Prod.snd (Prod.snd (Prod.snd s)))))) ((0 : Nat) + Int.toNat (numOf (encF rInt (Prod.fst (Prod.snd (Prod.snd (Prod.snd (Prod.snd (Prod.snd s)))))) (Int.toNat (Prod.snd (Prod.snd (Prod.fst s)))) (0 : Nat)))) (nat_lit 0))) < Prod.fst (Prod.snd (Prod.snd (Prod.snd s))) then IntKind.wrap IntKind.i64 (numOf (encF rSpan (LoadL.holds (Prod.fst (Prod.snd (Prod.snd (Prod.snd (Prod.snd s)))))) ((0 : Nat) + Int.toNat (numOf (encF rInt (Prod.fst (Prod.snd (Prod.snd (Prod.snd (Prod.snd (Prod.snd s)))))) (Int.toNat (Prod.snd (Prod.snd (Prod.fst s)))) (0 : Nat)))) (nat_lit 1)) - numOf (encF rSpan (LoadL.holds (Prod.fst (Prod.snd (Prod.snd (Prod.snd (Prod.snd s)))))) ((0 : Nat) + Int.toNat (numOf (encF rInt (Prod.fst (Prod.snd (Prod.snd (Prod.snd (Prod.snd (Prod.snd s)))))) (Int.toNat (Prod.snd (Prod.snd (Prod.fst s)))) (0 : Nat)))) (nat_lit 0))) else Prod.fst (Prod.snd (Prod.snd (Prod.snd s)))), LoadL.mk (decF rSpan (List.length (LoadL.holds (Prod.fst (Prod.snd (Prod.snd (Prod.snd (Prod.snd s))))))) fun i => encF rSpan (LoadL.holds (Prod.fst (Prod.snd (Prod.snd (Prod.snd (Prod.snd s)))))) ((0 : Nat) + i)) (LoadL.all (Prod.fst (Prod.snd (Prod.snd (Prod.snd (Prod.snd s)))))), decF rInt (List.length (Prod.fst (Prod.snd (Prod.snd (Prod.snd (Prod.snd (Prod.snd s))))))) (encF rInt (Prod.fst (Prod.snd (Prod.snd (Prod.snd (Prod.snd (Prod.snd s))))))), PUnit.unit))) (
    .ret (Sum.inr (PUnit.unit, Prod.fst (Prod.snd s), decF rInt (List.length (Prod.fst (Prod.snd (Prod.snd s)))) (encF rInt (Prod.fst (Prod.snd (Prod.snd s)))), PUnit.unit)))) := fun s => by kernel_rfl
noncomputable def K.L_bst2 := lim K.st_bst2
noncomputable def BKLo61 : Tab := BKLo46.addNode 159 89 (nodeE [43, 12, 41, 7, 42] S_bst2 X_bst2 (fun s => .obs (K.L_bst2 s) .ret))
theorem tKLo61 : TabOk P BKLo61 := TabOk.addLoop (d := 30) okP tKLo46 (by kernel_rfl) (by kernel_rfl) (fun s r h => obs_ret h)
def D_bst := DecL.cons dLoadL (.cons (dRows rInt) (.last (dI .i64) 0))
theorem fn_bst : ∀ a, (freshT1 P BKLo61 30 159 3 D_bst rInt) a = T.run (
  .obs (L_bst1 ((Prod.snd (Prod.snd a), (0 : Nat), decF rSpan (List.length (LoadL.holds (Prod.fst a))) fun i => encF rSpan (LoadL.holds (Prod.fst a)) ((0 : Nat) + i), (↑(clampL (List.length (LoadL.holds (Prod.fst a)))) : Int), (0 : Int)), LoadL.mk (decF rSpan (List.length (LoadL.holds (Prod.fst a))) fun i => encF rSpan (LoadL.holds (Prod.fst a)) ((0 : Nat) + i)) (LoadL.all (Prod.fst a)), decF rInt (List.length (Prod.fst (Prod.snd a))) fun i => encF rInt (Prod.fst (Prod.snd a)) ((0 : Nat) + i), (0 : Nat), decF rInt (0 : Nat) fun x x_1 => AV.top, decF rInt (0 : Nat) fun x x_1 => AV.top, PUnit.unit)) fun x0 =>
    .obs (L_st17 ((Prod.snd (Prod.fst x0), (↑(Prod.snd (Prod.fst x0)) : Int), (20 : Int), (0 : Int), (20 : Int)), (decF rInt (List.length (Prod.fst (Prod.snd (Prod.snd (Prod.snd (Prod.snd (Prod.snd x0))))))) (encF rInt (Prod.fst (Prod.snd (Prod.snd (Prod.snd (Prod.snd (Prod.snd x0))))))), decF rInt (List.length (Prod.fst (Prod.snd (Prod.snd x0)))) fun i => encF rInt (Prod.fst (Prod.snd (Prod.snd x0))) ((0 : Nat) + i), LoadL.mk (decF rSpan (List.length (LoadL.holds (Prod.fst (Prod.snd x0)))) fun i => encF rSpan (LoadL.holds (Prod.fst (Prod.snd x0))) ((0 : Nat) + i)) (LoadL.all (Prod.fst (Prod.snd x0))), Prod.fst (Prod.snd (Prod.snd (Prod.snd x0))), decF rInt (List.length (Prod.fst (Prod.snd (Prod.snd (Prod.snd (Prod.snd x0)))))) (encF rInt (Prod.fst (Prod.snd (Prod.snd (Prod.snd (Prod.snd x0)))))), PUnit.unit), Prod.fst x0)) fun x1 =>
      .obs (L_in9 ((Prod.fst (Prod.fst x1), Prod.snd (Prod.snd (Prod.snd (Prod.fst x1))), Prod.fst (Prod.snd (Prod.fst x1)), IntKind.wrap IntKind.i64 (Prod.snd (Prod.snd (Prod.snd (Prod.fst x1))) + (1 : Int))), (decF rInt (List.length (Prod.fst (Prod.fst (Prod.snd x1)))) (encF rInt (Prod.fst (Prod.fst (Prod.snd x1)))), decF rInt (List.length (Prod.fst (Prod.snd (Prod.fst (Prod.snd x1))))) fun i => encF rInt (Prod.fst (Prod.snd (Prod.fst (Prod.snd x1)))) ((0 : Nat) + i), LoadL.mk (decF rSpan (List.length (LoadL.holds (Prod.fst (Prod.snd (Prod.snd (Prod.fst (Prod.snd x1))))))) fun i => encF rSpan (LoadL.holds (Prod.fst (Prod.snd (Prod.snd (Prod.fst (Prod.snd x1)))))) ((0 : Nat) + i)) (LoadL.all (Prod.fst (Prod.snd (Prod.snd (Prod.fst (Prod.snd x1)))))), Prod.fst (Prod.snd (Prod.snd (Prod.snd (Prod.fst (Prod.snd x1))))), decF rInt (List.length (Prod.fst (Prod.snd (Prod.snd (Prod.snd (Prod.snd (Prod.fst (Prod.snd x1)))))))) (encF rInt (Prod.fst (Prod.snd (Prod.snd (Prod.snd (Prod.snd (Prod.fst (Prod.snd x1)))))))), PUnit.unit), Prod.fst (Prod.fst x1), Prod.fst (Prod.snd (Prod.fst x1)), Prod.fst (Prod.snd (Prod.snd (Prod.fst x1))), Prod.snd (Prod.snd x1))) fun x2 =>
        .obs (L_st57 ((Prod.fst (Prod.snd (Prod.snd x2)), Prod.fst (Prod.snd (Prod.snd (Prod.snd x2))), Prod.fst (Prod.snd (Prod.snd (Prod.snd (Prod.snd x2))))), (decF rInt (List.length (Prod.fst (Prod.fst (Prod.snd x2)))) (encF rInt (Prod.fst (Prod.fst (Prod.snd x2)))), LoadL.mk (decF rSpan (List.length (LoadL.holds (Prod.fst (Prod.snd (Prod.fst (Prod.snd x2)))))) fun i => encF rSpan (LoadL.holds (Prod.fst (Prod.snd (Prod.fst (Prod.snd x2))))) ((0 : Nat) + i)) (LoadL.all (Prod.fst (Prod.snd (Prod.fst (Prod.snd x2))))), Prod.fst (Prod.snd (Prod.snd (Prod.fst (Prod.snd x2)))), decF rInt (List.length (Prod.fst (Prod.snd (Prod.snd (Prod.snd (Prod.fst (Prod.snd x2))))))) (encF rInt (Prod.fst (Prod.snd (Prod.snd (Prod.snd (Prod.fst (Prod.snd x2))))))), PUnit.unit), Prod.snd (Prod.snd (Prod.snd (Prod.snd (Prod.snd x2)))))) fun x3 =>
          .chk (decide (List.length (decF rInt (List.length (Prod.fst (Prod.snd (Prod.snd (Prod.fst (Prod.snd x3)))))) fun i => encF rInt (Prod.fst (Prod.snd (Prod.snd (Prod.fst (Prod.snd x3))))) ((0 : Nat) + i)) ≤ (1000000 : Nat))) <|
          .obs (L_bst2 ((Prod.snd (Prod.snd (Prod.snd x3)), (↑(Prod.snd (Prod.snd (Prod.snd x3))) : Int), (0 : Int)), Prod.fst (Prod.snd (Prod.fst (Prod.snd x3))), decF rInt (List.length (Prod.fst (Prod.snd (Prod.snd (Prod.fst (Prod.snd x3)))))) (encF rInt (Prod.fst (Prod.snd (Prod.snd (Prod.fst (Prod.snd x3)))))), IntKind.wrap IntKind.i64 (Prod.fst (Prod.snd (Prod.snd x3)) - K.addL (decF rInt (List.length (Prod.fst (Prod.snd (Prod.snd (Prod.fst (Prod.snd x3)))))) fun i => encF rInt (Prod.fst (Prod.snd (Prod.snd (Prod.fst (Prod.snd x3))))) ((0 : Nat) + i))), LoadL.mk (decF rSpan (List.length (LoadL.holds (Prod.fst (Prod.fst (Prod.snd x3))))) fun i => encF rSpan (LoadL.holds (Prod.fst (Prod.fst (Prod.snd x3)))) ((0 : Nat) + i)) (LoadL.all (Prod.fst (Prod.fst (Prod.snd x3)))), decF rInt (List.length (Prod.fst (Prod.snd (Prod.snd (Prod.snd (Prod.fst (Prod.snd x3))))))) (encF rInt (Prod.fst (Prod.snd (Prod.snd (Prod.snd (Prod.fst (Prod.snd x3))))))), PUnit.unit)) fun x4 =>
            .ret (decF rInt (List.length (Prod.fst (Prod.snd (Prod.snd x4)))) fun i => encF rInt (Prod.fst (Prod.snd (Prod.snd x4))) ((0 : Nat) + i))) := fun a => by kernel_rfl
end Go.Proofs.YtjbhooodjmjdkaaGreat
/-! KLo7 -/
namespace Go.Proofs.YtjbhooodjmjdkaaGreat
open Ev K
set_option maxRecDepth 100000
namespace K
def losU (l : List Span) (n : Nat) : List Int := (List.range n).map fun k => (vS l k).lo
theorem losU_length (l : List Span) (n : Nat) : (losU l n).length = n := by simp [losU]
theorem losU_succ (l : List Span) (n : Nat) : losU l (n + 1) = losU l n ++ [(vS l n).lo] := by unfold losU; rw [List.range_succ, List.map_append]; rfl
theorem losU_at {l : List Span} {n k : Nat} (h : k < n) : (losU l n).getD k 0 = (vS l k).lo := by
  rw [List.getD_eq_getElem?_getD]; simp [losU, h]
theorem tl_succ (n : Nat) : tl 0 (n + 1) = tl 0 n ++ [(n : Int)] := by
  unfold tl
  rw [Nat.sub_zero, Nat.sub_zero, List.range'_concat, List.map_append, Nat.zero_add, Nat.one_mul]; rfl
theorem L_bst1_eq (t : Int) (l : List Span) (load : LoadL) (form : List Int) (h : l.length ≤ 1000) :
    L_bst1 ((t, 0, l, (l.length : Int), 0), load, form, 0, [], [], ()) = some ((t, l.length), load, form, l.length, losU l l.length, tl 0 l.length, ()) := by
  refine lim_all (fun i => ((t, i, l, (l.length : Int), (i : Int)), load, form, i, losU l i, tl 0 i, ())) l.length (fun i hi => ?_) ?_
  · have ht : (tl 0 i).length = i := by rw [tl_length]; rfl
    rw [sl_bst1]
    simp only [Int.toNat_natCast, losU_length, ht, decF_enc0]
    refine (T.run_br _ _ _).trans ?_
    rw [if_pos (decide_eq_true (by omega))]
    refine chk_step (decide_eq_true (by omega)) (chk_step (decide_eq_true (by omega)) (chk_step (decide_eq_true (by omega)) ?_))
    have h1 := decF_push rInt (losU l i) (fun i_1 k => Option.getD [AV.int IntKind.i64 (numOf (encF rSpan l (0 + i) 0))][((0 : Nat) + i_1) * (1 : Nat) + k]? AV.top)
    have h2 := decF_push rInt (tl 0 i) (fun i_1 k => Option.getD [AV.int IntKind.i64 ((i : Nat) : Int)][((0 : Nat) + i_1) * (1 : Nat) + k]? AV.top)
    rw [losU_length] at h1
    rw [ht] at h2
    rw [h1, h2, w64_in (n := (i : Int) + 1) (by omega) (by omega), losU_succ, tl_succ, T.run_ret]
    rw [Nat.zero_add]; rfl
  · have ht : (tl 0 l.length).length = l.length := by rw [tl_length]; rfl
    rw [sl_bst1]
    refine (T.run_br _ _ _).trans ?_
    rw [if_neg (by simp)]
    simp only [decF_encF, decF_enc0]; rfl
structure HoldsOk (l : List Span) : Prop where
  le : l.length ≤ 8
  each : ∀ k, k < l.length → 0 ≤ (vS l k).lo ∧ (vS l k).lo ≤ (vS l k).hi ∧ (vS l k).hi ≤ 65536
def holdsB (l : List Span) : Bool := decide (l.length ≤ 8) && (List.range l.length).all fun k => decide (0 ≤ (vS l k).lo ∧ (vS l k).lo ≤ (vS l k).hi ∧ (vS l k).hi ≤ 65536)
theorem holdsB_iff {l : List Span} : holdsB l = true ↔ HoldsOk l := by
  unfold holdsB
  rw [Bool.and_eq_true, decide_eq_true_eq, List.all_eq_true]
  constructor
  · rintro ⟨h1, h2⟩
    exact ⟨h1, fun k hk => of_decide_eq_true (h2 k (List.mem_range.2 hk))⟩
  · rintro ⟨h1, h2⟩
    exact ⟨h1, fun k hk => decide_eq_true (h2 k (List.mem_range.1 hk))⟩
def capF (l : List Span) (k : Int) : Int := (vS l k.toNat).hi - (vS l k.toNat).lo
theorem L_bst2_eq {l : List Span} (hl : HoldsOk l) (load : LoadL) (hload : load.holds = l) (n : Nat) (hn : n = l.length) : ∀ (os pre : List Int) (xs : List Int) (left : Int), xs.length = n → (pre ++ os).length = n → (pre ++ os).Nodup →
    (∀ k ∈ os, 0 ≤ k ∧ k < n ∧ xs.getD k.toNat 0 = (vS l k.toNat).lo) → (-1000000000000 ≤ left ∧ left ≤ 1000000000000) →
    L_bst2 ((n, (n : Int), (pre.length : Int)), n, xs, left, load, pre ++ os, ()) = some ((), n, Pl.fillL (capF l) os left xs, ())
  | [], pre, xs, left, hx, hp, _, _, _ => by
    rw [List.append_nil] at hp ⊢
    refine lim_done ?_
    rw [sl_bst2]
    refine (T.run_br _ _ _).trans ?_
    rw [if_neg (by simp [hp]), decF_encF]; rfl
  | k :: os, pre, xs, left, hx, hp, hnd, hin, hb => by
    have h8 := hl.le
    obtain ⟨k1, k2, k3⟩ := hin k (List.mem_cons_self ..)
    obtain ⟨m, rfl⟩ : ∃ m : Nat, k = m := ⟨k.toNat, by omega⟩
    simp only [Int.toNat_natCast] at k3
    have hlt : pre.length < n := by rw [← hp]; simp
    have hk := hl.each m (by omega)
    have hat : numOf (encF rInt (pre ++ (m : Int) :: os) pre.length 0) = m := vI_mid
    have hv : numOf (encF rInt xs m 0) = (vS l m).lo := by
      rw [← k3]
      show vI xs m = _
      rw [vI_get (by omega), List.getD_eq_getElem?_getD, List.getElem?_eq_getElem (by omega)]; rfl
    have hc : IntKind.wrap IntKind.i64 (numOf (encF rSpan load.holds (0 + m) 1) - numOf (encF rSpan load.holds (0 + m) 0)) = capF l m := by
      rw [hload, Nat.zero_add]
      show IntKind.wrap IntKind.i64 ((vS l m).hi - (vS l m).lo) = _
      rw [w64_in (by omega) (by omega)]; rfl
    have hcap : capF l m = (vS l m).hi - (vS l m).lo := rfl
    have ⟨q1, q2, q3⟩ := @Pl.mn_le left (capF l m)
    have hstep : st_bst2 ((n, (n : Int), (pre.length : Int)), n, xs, left, load, pre ++ (m : Int) :: os, ()) =
        some (.inl ((n, (n : Int), ((pre.length + 1 : Nat) : Int)), n, xs.set m (xs.getD m 0 + Pl.mn left (capF l m)), left - Pl.mn left (capF l m), load, pre ++ (m : Int) :: os, ())) := by
      rw [sl_bst2]
      simp only [Int.toNat_natCast, hat, hc, hv, decF_enc0, decF_encF]
      refine (T.run_br _ _ _).trans ?_
      rw [if_pos (decide_eq_true (by omega))]
      have g : decide ((0 : Int) ≤ (m : Int) ∧ (m : Int) < (load.holds.length : Int)) = true := decide_eq_true (by rw [hload]; omega)
      have g2 : decide ((0 : Int) ≤ (m : Int) ∧ (m : Int) < (n : Int)) = true := decide_eq_true (by omega)
      refine chk_step (decide_eq_true (by omega)) (chk_step g (chk_step g (chk_step g2 (chk_step g2 ?_))))
      rw [T.run_ret, decF_set1, decF_encF, k3]
      show some (Sum.inl ((n, (n : Int), _), n, xs.set m (IntKind.wrap IntKind.i64 ((vS l m).lo + Pl.mn left (capF l m))), IntKind.wrap IntKind.i64 (left - Pl.mn left (capF l m)), load, _, ())) = _
      rw [w64_in (n := (vS l m).lo + Pl.mn left (capF l m)) (by omega) (by omega), w64_in (n := left - Pl.mn left (capF l m)) (by omega) (by omega), w64_in (n := (pre.length : Int) + 1) (by omega) (by omega)]; rfl
    rw [show L_bst2 = lim st_bst2 from rfl, lim_step hstep]
    have hnot : (m : Int) ∉ os := by
      have := (List.nodup_append.1 hnd).2.1
      exact (List.nodup_cons.1 this).1
    have := L_bst2_eq hl load hload n hn os (pre ++ [(m : Int)]) (xs.set m (xs.getD m 0 + Pl.mn left (capF l m))) (left - Pl.mn left (capF l m)) (by rw [List.length_set]; exact hx) (by rw [List.append_assoc]; exact hp) (by rw [List.append_assoc]; exact hnd) (fun k hk' => by
      obtain ⟨j1, j2, j3⟩ := hin k (List.mem_cons_of_mem _ hk')
      refine ⟨j1, j2, ?_⟩
      rw [Pl.getD_set (by omega), if_neg (fun e => hnot ?_)]
      · exact j3
      · have : (m : Int) = k := by omega
        rw [this]; exact hk') (by omega)
    rw [List.length_append, List.append_assoc] at this
    rw [show L_bst2 = lim st_bst2 from rfl] at this
    exact this
def bestL (l : List Span) (form : List Int) (t : Int) : List Int := Pl.fillL (capF l) (ordL (formF form) l.length) (t - addL (losU l l.length)) (losU l l.length)
theorem bestL_length (l : List Span) (form : List Int) (t : Int) : (bestL l form t).length = l.length := by unfold bestL; rw [Pl.fillL_length, losU_length]
theorem addL_bound {l : List Int} (b : Int) (hb : 0 ≤ b ∧ b ≤ 1000000) : ∀ n, n ≤ l.length → n ≤ 1000 → (∀ k, k < n → 0 ≤ vI l k ∧ vI l k ≤ b) → 0 ≤ (List.range n).foldl (fun a i => IntKind.i64.wrap (a + vI l i)) 0 ∧ (List.range n).foldl (fun a i => IntKind.i64.wrap (a + vI l i)) 0 ≤ n * b := by
  intro n
  induction n with
  | zero => intro _ _ _; simp
  | succ n ih =>
    intro h h2 hk
    obtain ⟨i1, i2⟩ := ih (by omega) (by omega) (fun k h => hk k (by omega))
    have hn := hk n (by omega)
    rw [List.range_succ, List.foldl_append]
    simp only [List.foldl_cons, List.foldl_nil]
    have hm : (n : Int) * b ≤ 1000 * 1000000 := Int.mul_le_mul (by omega) hb.2 hb.1 (by omega)
    rw [w64_in (by omega) (by omega)]
    have : ((n + 1 : Nat) : Int) * b = n * b + b := by
      rw [show ((n + 1 : Nat) : Int) = (n : Int) + 1 by omega, Int.add_mul, Int.one_mul]
    omega
theorem losU_vI {l : List Span} {n k : Nat} (h : k < n) : vI (losU l n) k = (vS l k).lo := by
  rw [vI_get (by rw [losU_length]; exact h)]; simp [losU]
theorem los_bound {l : List Span} (hl : HoldsOk l) : 0 ≤ addL (losU l l.length) ∧ addL (losU l l.length) ≤ 524288 := by
  have h8 := hl.le
  have := addL_bound (l := losU l l.length) 65536 (by omega) l.length (by rw [losU_length]; exact Nat.le_refl _) (by omega) (fun k hk => by rw [losU_vI hk]; have := hl.each k hk; omega)
  unfold addL; rw [losU_length]; omega
theorem best_eq (a : LoadL × List Int × Int) (hl : HoldsOk a.1.holds) (hf : a.2.1.length = a.1.holds.length) (ht : -100000000000 ≤ a.2.2 ∧ a.2.2 ≤ 100000000000) :
    freshT1 P BKLo61 30 159 3 D_bst rInt a = some (bestL a.1.holds a.2.1 a.2.2) := by
  obtain ⟨load, form, t⟩ := a
  simp only at hl hf ht ⊢
  have h8 := hl.le
  have hb := los_bound hl
  have htl : (tl 0 load.holds.length).length = load.holds.length := by rw [tl_length]; rfl
  rw [fn_bst]
  simp only [decF_enc0, decF_encF]
  rw [clampL_eq (by unfold maxL; omega)]
  rw [show (LoadL.mk load.holds load.all) = load from rfl]
  show T.run (.obs (L_bst1 ((t, 0, load.holds, (load.holds.length : Int), 0), load, form, 0, [], [], ())) _) = _
  rw [L_bst1_eq t load.holds load form (by omega), T.run_some]
  show T.run (.obs (L_st17 ((load.holds.length, (load.holds.length : Int), 20, 0, 20), (tl 0 load.holds.length, form, load, load.holds.length, losU load.holds load.holds.length, ()), t, load.holds.length)) _) = _
  have e17 : L_st17 ((load.holds.length, (load.holds.length : Int), 20, 0, 20), (tl 0 load.holds.length, form, load, load.holds.length, losU load.holds load.holds.length, ()), t, load.holds.length) = some ((load.holds.length, (load.holds.length : Int), 20, 0), (tl 0 load.holds.length, form, load, load.holds.length, losU load.holds load.holds.length, ()), t, load.holds.length) := by
    refine lim_done ?_
    rw [sl_st17]
    refine (T.run_br _ _ _).trans ?_
    rw [if_neg (by rw [decide_eq_true_eq]; show ¬ (20 : Int) ≤ (load.holds.length : Int); omega)]
    simp only [decF_enc0, decF_encF]; rfl
  rw [e17, T.run_some]
  show T.run (.obs (L_in9 ((load.holds.length, 0, (load.holds.length : Int), 1), (tl 0 load.holds.length, form, load, load.holds.length, losU load.holds load.holds.length, ()), load.holds.length, (load.holds.length : Int), 20, t, load.holds.length)) _) = _
  rw [L_in9_eq form load load.holds.length _ _ load.holds.length (by omega) (by omega), T.run_some]
  show T.run (.obs (L_st57 ((load.holds.length, (load.holds.length : Int), 20), (ordL (formF form) load.holds.length, load, load.holds.length, losU load.holds load.holds.length, ()), t, load.holds.length)) _) = _
  have e57 : L_st57 ((load.holds.length, (load.holds.length : Int), 20), (ordL (formF form) load.holds.length, load, load.holds.length, losU load.holds load.holds.length, ()), t, load.holds.length) = some ((), (load, load.holds.length, losU load.holds load.holds.length, ordL (formF form) load.holds.length, ()), t, load.holds.length) := by
    refine lim_done ?_
    rw [sl_st57]
    refine (T.run_br _ _ _).trans ?_
    rw [if_neg (by rw [decide_eq_true_eq]; show ¬ (20 : Int) < (load.holds.length : Int); omega)]
    simp only [decF_enc0, decF_encF]; rfl
  rw [e57, T.run_some]
  refine chk_step (decide_eq_true (by show (losU load.holds load.holds.length).length ≤ 1000000; rw [losU_length]; omega)) ?_
  simp only [decF_enc0, decF_encF]
  rw [w64_in (n := t - addL (losU load.holds load.holds.length)) (by omega) (by omega)]
  have := L_bst2_eq hl load rfl load.holds.length rfl (ordL (formF form) load.holds.length) [] (losU load.holds load.holds.length) (t - addL (losU load.holds load.holds.length)) (losU_length _ _) (by rw [List.nil_append, ordL_length]) ?_ ?_ (by omega)
  · show T.run (.obs (L_bst2 ((load.holds.length, (load.holds.length : Int), 0), load.holds.length, losU load.holds load.holds.length, t - addL (losU load.holds load.holds.length), load, ordL (formF form) load.holds.length, ())) _) = _
    rw [List.nil_append] at this
    rw [show (0 : Int) = (([] : List Int).length : Int) from rfl, this, T.run_some, T.run_ret]; rfl
  · rw [List.nil_append]
    exact (ordL_sorted _ _).imp (fun h e => by subst e; exact h.irr)
  · intro k hk
    have := ordL_mem hk
    exact ⟨this.1, this.2, losU_at (by omega)⟩
end K
noncomputable def BKLo71 : Tab := BKLo61.addTurn 159 (freshE 3 D_bst rInt (fun a => .chk (K.holdsB a.1.holds && decide (a.2.1.length = a.1.holds.length ∧ -100000000000 ≤ a.2.2 ∧ a.2.2 ≤ 100000000000)) (.ret (K.bestL a.1.holds a.2.1 a.2.2))))
theorem tKLo71 : TabOk P BKLo71 := TabOk.addFresh (d := 30) okP tKLo61 (fun a r h => by obtain ⟨g, e⟩ := chk_ret h; subst e; rw [Bool.and_eq_true] at g; have g2 := of_decide_eq_true g.2; exact K.best_eq a (K.holdsB_iff.1 g.1) g2.1 g2.2)
end Go.Proofs.YtjbhooodjmjdkaaGreat
/-! KLo8 -/
namespace Go.Proofs.YtjbhooodjmjdkaaGreat
open Ev K
set_option maxRecDepth 100000
def D_cl := DecL.cons dShip (.last dLoadL 0)
def S_cl := DecS.mk0 (.skips 2 (.unit (dLp 0 0 0 0) (.unit (dLp 1 0 0 0) (.skips 18 (.cons (dRows rSpan) (.cons (dI .i64) (.last (dI .i64) 63))))))) (.flat 27 lShip (.flat 41 lLoadL .nil))
def X_cl := DecX.or (DecX.one .ret [4] (DecS.mk1 (.skips 4 (.last (dI .i64) 83)))) (DecX.one (.exit 0) [3] (DecS.mk0 (.skips 3 (.unit (dLp 0 0 0 0) (.tops 84))) (.flat 41 lLoadL .nil)))
noncomputable def K.st_cl := loopT1 P BKLo71 30 41 57 [24, 2, 22, 3, 23] S_cl X_cl
theorem sl_cl : ∀ s, (K.st_cl) s = T.run (
  .br (decide (Prod.snd (Prod.snd (Prod.fst s)) < Prod.fst (Prod.snd (Prod.fst s)))) (
    .chk (decide ((0 : Int) ≤ Prod.snd (Prod.snd (Prod.fst s)) ∧ Prod.snd (Prod.snd (Prod.fst s)) < (↑(List.length (Prod.fst (Prod.fst s))) : Int))) <|
    .br (decide (numOf (encF rSpan (Prod.fst (Prod.fst s)) ((0 : Nat) + Int.toNat (Prod.snd (Prod.snd (Prod.fst s)))) (0 : Nat)) < (0 : Int))) (
      .ret (Sum.inr (Sum.inl (1 : Int)))) (
      .br (decide (numOf (encF rSpan (Prod.fst (Prod.fst s)) ((0 : Nat) + Int.toNat (Prod.snd (Prod.snd (Prod.fst s)))) (0 : Nat)) > numOf (encF rSpan (Prod.fst (Prod.fst s)) ((0 : Nat) + Int.toNat (Prod.snd (Prod.snd (Prod.fst s)))) (nat_lit 1)))) (
        .ret (Sum.inr (Sum.inl (1 : Int)))) (
        .chk (decide ((0 : Int) ≤ Prod.snd (Prod.snd (Prod.fst s)) ∧ Prod.snd (Prod.snd (Prod.fst s)) < (↑(XS.len (Ship.holds (Prod.fst (Prod.snd s)))) : Int))) <|
        .br (decide (numOf (encF rSpan (Prod.fst (Prod.fst s)) ((0 : Nat) + Int.toNat (Prod.snd (Prod.snd (Prod.fst s)))) (nat_lit 1)) > XS.g (Ship.holds (Prod.fst (Prod.snd s))) (Int.toNat (Prod.snd (Prod.snd (Prod.fst s)))) (1 : Nat))) (
          .ret (Sum.inr (Sum.inl (1 : Int)))) (
          .ret (Sum.inl ((decF rSpan (List.length (Prod.fst (Prod.fst s))) fun i => encF rSpan (Prod.fst (Prod.fst s)) ((0 : Nat) + i), Prod.fst (Prod.snd (Prod.fst s)), IntKind.wrap IntKind.i64 (Prod.snd (Prod.snd (Prod.fst s)) + (1 : Int))), Prod.fst (Prod.snd s), LoadL.mk (decF rSpan (List.length (LoadL.holds (Prod.fst (Prod.snd (Prod.snd s))))) fun i => encF rSpan (LoadL.holds (Prod.fst (Prod.snd (Prod.snd s)))) ((0 : Nat) + i)) (LoadL.all (Prod.fst (Prod.snd (Prod.snd s)))), PUnit.unit)))))) (
    .ret (Sum.inr (Sum.inr (PUnit.unit, LoadL.mk (decF rSpan (List.length (LoadL.holds (Prod.fst (Prod.snd (Prod.snd s))))) fun i => encF rSpan (LoadL.holds (Prod.fst (Prod.snd (Prod.snd s)))) ((0 : Nat) + i)) (LoadL.all (Prod.fst (Prod.snd (Prod.snd s)))), PUnit.unit))))) := fun s => by kernel_rfl
noncomputable def K.L_cl := lim K.st_cl
noncomputable def BKLo81 : Tab := BKLo71.addNode 41 57 (nodeE [24, 2, 22, 3, 23] S_cl X_cl (fun s => .obs (K.L_cl s) .ret))
theorem tKLo81 : TabOk P BKLo81 := TabOk.addLoop (d := 30) okP tKLo71 (by kernel_rfl) (by kernel_rfl) (fun s r h => obs_ret h)
theorem fn_cl : ∀ a, (callT1 P BKLo81 30 41 D_cl (dI .i64)) a = T.run (
  .br (hullCheck (Prod.fst a) != (0 : Int)) (
    .ret (hullCheck (Prod.fst a))) (
    .br ((↑(clampL (List.length (LoadL.holds (Prod.snd a)))) : Int) != (↑(len (Ship.holds (Prod.fst a))) : Int)) (
      .ret ((1 : Int))) (
      .obs (L_cl ((decF rSpan (List.length (LoadL.holds (Prod.snd a))) fun i => encF rSpan (LoadL.holds (Prod.snd a)) ((0 : Nat) + i), (↑(clampL (List.length (LoadL.holds (Prod.snd a)))) : Int), (0 : Int)), Prod.fst a, LoadL.mk (decF rSpan (List.length (LoadL.holds (Prod.snd a))) fun i => encF rSpan (LoadL.holds (Prod.snd a)) ((0 : Nat) + i)) (LoadL.all (Prod.snd a)), PUnit.unit)) fun x0 =>
        .sum (x0) (fun x1 =>
          .ret (x1)) (fun x1 =>
          .obs (totals (LoadL.mk (decF rSpan (List.length (LoadL.holds (Prod.fst (Prod.snd x1)))) fun i => encF rSpan (LoadL.holds (Prod.fst (Prod.snd x1))) ((0 : Nat) + i)) (LoadL.all (Prod.fst (Prod.snd x1))))) fun x2 =>
            .br (decide (Span.lo (LoadL.all (Prod.fst (Prod.snd x1))) < (0 : Int))) (
              .ret ((1 : Int))) (
              .br (decide (Span.lo (LoadL.all (Prod.fst (Prod.snd x1))) > Span.hi (LoadL.all (Prod.fst (Prod.snd x1))))) (
                .ret ((1 : Int))) (
                .br (decide (Span.hi (LoadL.all (Prod.fst (Prod.snd x1))) > (65536 : Int))) (
                  .ret ((1 : Int))) (
                  .br (decide (IntKind.wrap IntKind.i64 (Span.hi (LoadL.all (Prod.fst (Prod.snd x1))) - Span.lo (LoadL.all (Prod.fst (Prod.snd x1)))) ≥ (4000 : Int))) (
                    .ret ((2 : Int))) (
                    .br (decide (Span.lo x2 > Span.hi x2)) (
                      .ret ((9 : Int))) (
                      .ret ((0 : Int))))))))))) := fun a => by kernel_rfl
/-! the totals -/
def V_each : DecL LoadL := .last (dP 3 lLoadL 0) 0
def eInt (n : Int) : List AV := [.int .i64 n]
def S_each := DecS.yld (.unit dYv (.skips 2 (.unit (dLp 0 0 0 0) (.last (dI .i64) 14)))) (.flat 39 lSpan .nil)
def X_each := DecX.or (DecX.one .ret [] (DecS.yld (.tops 19) .nil)) (DecX.one (.exit 0) [] (DecS.yld (.tops 19) .nil))
noncomputable def K.st_each := loopT1 P BKLo81 30 198 17 [4, 0, 3] S_each X_each
theorem sl_each : ∀ s, (K.st_each) s = T.run (
  .br (decide (Prod.fst s ≤ Span.hi (Prod.fst (Prod.fst (Prod.snd s))))) (
    .br (!Prod.fst (Prod.snd (Prod.snd s)) (List.length (Prod.snd (Prod.snd (Prod.snd s))))) (
      .ret (Sum.inr (Sum.inl (PUnit.unit, PUnit.unit, Prod.fst (Prod.snd (Prod.snd s)), ([AV.int IntKind.i64 (Prod.fst s)], Prod.fst (Prod.snd (Prod.snd s)) (List.length (Prod.snd (Prod.snd (Prod.snd s))))) :: Prod.snd (Prod.snd (Prod.snd s)))))) (
      .ret (Sum.inl (IntKind.wrap IntKind.i64 (Prod.fst s + (1 : Int)), (Prod.fst (Prod.fst (Prod.snd s)), PUnit.unit), Prod.fst (Prod.snd (Prod.snd s)), ([AV.int IntKind.i64 (Prod.fst s)], Prod.fst (Prod.snd (Prod.snd s)) (List.length (Prod.snd (Prod.snd (Prod.snd s))))) :: Prod.snd (Prod.snd (Prod.snd s)))))) (
    .ret (Sum.inr (Sum.inr (PUnit.unit, PUnit.unit, Prod.snd (Prod.snd s)))))) := fun s => by kernel_rfl
noncomputable def K.L_each := lim K.st_each
noncomputable def BKLo82 : Tab := BKLo81.addNode 198 17 (nodeE [4, 0, 3] S_each X_each (fun s => .obs (K.L_each s) .ret))
theorem tKLo82 : TabOk P BKLo82 := TabOk.addLoop (d := 30) okP tKLo81 (by kernel_rfl) (by kernel_rfl) (fun s r h => obs_ret h)
noncomputable def I_each (a : LoadL) (bs : Nat → Bool) := iterT1 P BKLo82 30 198 [] (V_each.enc a) bs
theorem it_each : ∀ a bs, (I_each) a bs = T.run (
  .obs (totals (LoadL.mk (decF rSpan (List.length (LoadL.holds a)) fun i => encF rSpan (LoadL.holds a) ((0 : Nat) + i)) (LoadL.all a))) fun x0 =>
    .obs (L_each (Span.lo x0, (x0, PUnit.unit), bs, [])) fun x1 =>
      .sum (x1) (fun x2 =>
        .ret (List.reverse (Prod.snd (Prod.snd (Prod.snd x2))))) (fun x2 =>
        .ret (List.reverse (Prod.snd (Prod.snd (Prod.snd x2)))))) := fun a bs => by kernel_rfl
def R_each := dFn 198 V_each
theorem fn_each : ∀ a, (callT1 P BKLo82 30 158 D_ld R_each) a = T.run (
  .ret (LoadL.mk (decF rSpan (List.length (LoadL.holds a)) fun i => encF rSpan (LoadL.holds a) ((0 : Nat) + i)) (LoadL.all a))) := fun a => by kernel_rfl
end Go.Proofs.YtjbhooodjmjdkaaGreat
/-! KLo9 -/
namespace Go.Proofs.YtjbhooodjmjdkaaGreat
open Ev K
set_option maxRecDepth 100000
namespace K
theorem load_eta (a : LoadL) : LoadL.mk (decF rSpan a.holds.length fun i => encF rSpan a.holds (0 + i)) a.all = a := by rw [decF_enc0]
noncomputable def totS (l : LoadL) : Span := ⟨greater ((addS l.holds).lo, l.all.lo), if l.all.hi < (addS l.holds).hi then l.all.hi else (addS l.holds).hi⟩
theorem totals_is {l : LoadL} (h : l.holds.length ≤ 1000000) : totals l = some (totS l) := by
  unfold totals
  rw [decF_enc0]
  exact chk_step (decide_eq_true h) rfl
def loadE (s : Ship) (l : List Span) (i : Nat) : Option Int := if decide ((vS l i).lo < 0) = true then some 1 else if decide ((vS l i).lo > (vS l i).hi) = true then some 1 else if decide ((vS l i).hi > s.holds.g i 1) = true then some 1 else none
theorem L_cl_eq (s : Ship) (a : LoadL) (h : a.holds.length ≤ 1000000) (hl : a.holds.length ≤ len s.holds) :
    L_cl ((a.holds, (a.holds.length : Int), 0), s, a, ()) = some (K.orr Sum.inl (.inr ((), a, ())) ((List.range a.holds.length).findSome? (loadE s a.holds))) := by
  have e2 := K.len_le' s.holds
  refine lim_err (fun i => ((a.holds, (a.holds.length : Int), (i : Int)), s, a, ())) a.holds.length (loadE s a.holds) Sum.inl (.inr ((), a, ())) (fun i hi => ?_) ?_
  · rw [sl_cl]
    simp only [Int.toNat_natCast, Nat.zero_add, decF_encF]
    refine (T.run_br _ _ _).trans ?_
    rw [if_pos (decide_eq_true (by omega))]
    refine chk_step (decide_eq_true (by omega)) ?_
    rw [w64_in (n := (i : Int) + 1) (by omega) (by omega)]
    show T.run (.br (decide ((vS a.holds i).lo < 0)) _ (.br (decide ((vS a.holds i).lo > (vS a.holds i).hi)) _ (.chk _ (.br (decide ((vS a.holds i).hi > s.holds.g i 1)) _ _)))) = _
    unfold loadE
    rw [T.run_br]
    split
    · rfl
    rw [T.run_br]
    split
    · rfl
    refine chk_step (decide_eq_true (by omega)) ?_
    rw [T.run_br]
    split <;> rfl
  · rw [sl_cl]
    refine (T.run_br _ _ _).trans ?_
    rw [if_neg (by simp), decF_enc0]; rfl
noncomputable def allE (l : LoadL) : Int := if decide (l.all.lo < 0) = true then 1 else if decide (l.all.lo > l.all.hi) = true then 1 else if decide (l.all.hi > 65536) = true then 1 else if decide (IntKind.wrap IntKind.i64 (l.all.hi - l.all.lo) ≥ 4000) = true then 2 else if decide ((totS l).lo > (totS l).hi) = true then 9 else 0
noncomputable def checkLoad (a : Ship × LoadL) : Int := if (hullCheck a.1 != 0) = true then hullCheck a.1 else if ((a.2.holds.length : Int) != (len a.1.holds : Int)) = true then 1 else K.orr id (allE a.2) ((List.range a.2.holds.length).findSome? (loadE a.1 a.2.holds))
theorem checkLoad_eq (a : Ship × LoadL) (h : a.2.holds.length ≤ 1000000) : callT1 P BKLo81 30 41 D_cl (dI .i64) a = some (checkLoad a) := by
  obtain ⟨s, a⟩ := a
  simp only at h
  rw [fn_cl]
  simp only [decF_enc0]
  rw [clampL_eq (by unfold maxL; omega)]
  unfold checkLoad
  refine br_step (fun _ => rfl) (fun _ => br_step (fun _ => rfl) (fun hn => ?_))
  have hn : a.holds.length = len s.holds := by
    have hn : ¬ ((a.holds.length : Int) != (len s.holds : Int)) = true := hn
    simp only [bne_iff_ne, ne_eq, Classical.not_not] at hn; omega
  show T.run (.obs (L_cl ((a.holds, (a.holds.length : Int), 0), s, a, ())) _) = _
  rw [L_cl_eq s a h (by omega), T.run_some]
  cases (List.range a.holds.length).findSome? (loadE s a.holds) with
  | some e => rfl
  | none =>
    show T.run (.obs (totals a) _) = _
    rw [totals_is h, T.run_some]
    unfold K.orr allE
    simp only
    refine br_step (fun _ => rfl) (fun _ => br_step (fun _ => rfl) (fun _ => br_step (fun _ => rfl) (fun _ => br_step (fun _ => rfl) (fun _ => br_step (fun _ => rfl) (fun _ => rfl)))))
noncomputable def eachL (l : LoadL) : List Int := (List.range ((totS l).hi + 1 - (totS l).lo).toNat).map fun (i : Nat) => (totS l).lo + (i : Int)
noncomputable def eachB (l : LoadL) : Bool := decide (l.holds.length ≤ 1000000 ∧ -1000000000000 ≤ (totS l).lo ∧ (totS l).hi ≤ 1000000000000 ∧ (totS l).lo ≤ 1000000000000)
abbrev Sea (t : Span) (bs : Nat → Bool) (i : Nat) (out : List (List AV × Bool)) := (t.lo + (i : Int), (t, ()), bs, out)
abbrev eea (t : Span) (i : Nat) : List AV := eInt (t.lo + (i : Int))
section
variable (t : Span) {bs : Nat → Bool} (hb1 : -1000000000000 ≤ t.lo ∧ t.hi ≤ 1000000000000 ∧ t.lo ≤ 1000000000000)
include hb1
theorem each_y (i : Nat) (hi : i < (t.hi + 1 - t.lo).toNat) (out : List (List AV × Bool)) (hb : bs out.length = true) : st_each (Sea t bs i out) = some (.inl (Sea t bs (i + 1) ((eea t i, true) :: out))) := by
  rw [sl_each]
  refine (T.run_br _ _ _).trans ?_
  rw [if_pos (decide_eq_true (by show t.lo + (i : Int) ≤ t.hi; omega))]
  simp only [T.run_br, T.run_ret, hb]
  rw [if_neg (by simp), w64_in (by omega) (by omega)]
  show some (Sum.inl (t.lo + (i : Int) + 1, _)) = _
  rw [show t.lo + (i : Int) + 1 = t.lo + ((i + 1 : Nat) : Int) by omega]; rfl
omit hb1 in
theorem each_s (i : Nat) (hi : i < (t.hi + 1 - t.lo).toNat) (out : List (List AV × Bool)) (hb : bs out.length = false) : st_each (Sea t bs i out) = some (.inr (.inl ((), (), bs, (eea t i, false) :: out))) := by
  rw [sl_each]
  refine (T.run_br _ _ _).trans ?_
  rw [if_pos (decide_eq_true (by show t.lo + (i : Int) ≤ t.hi; omega))]
  simp only [T.run_br, T.run_ret, hb]
  rw [if_pos (by simp)]; rfl
omit hb1 in
theorem each_e (out) : st_each (Sea t bs (t.hi + 1 - t.lo).toNat out) = some (.inr (.inr ((), (), bs, out))) := by
  rw [sl_each]
  refine (T.run_br _ _ _).trans ?_
  rw [if_neg (by rw [decide_eq_true_eq]; show ¬ t.lo + (((t.hi + 1 - t.lo).toNat : Nat) : Int) ≤ t.hi; omega)]; rfl
end
theorem icl_each (l : LoadL) (h : eachB l = true) : ICL P 198 [] (V_each.enc l) ((eachL l).map eInt) := by
  have h := of_decide_eq_true h
  have ht := totals_is h.1
  have hb := h.2
  refine iter_of okP tKLo82 (d := 30) ?_ (fun m y hy => ?_)
  · show I_each l _ = _
    rw [it_each, load_eta, ht, T.run_some]
    show T.run (.obs (lim st_each ((totS l).lo, (totS l, ()), _, [])) _) = _
    have e0 : ((totS l).lo, (totS l, ()), (fun _ => true : Nat → Bool), ([] : List (List AV × Bool))) = Sea (totS l) (fun _ => true) 0 [] := by unfold Sea; simp
    rw [e0]
    rw [lim_yields_all (Sea (totS l) _) (n := ((totS l).hi + 1 - (totS l).lo).toNat) (fun _ => true) (eea (totS l)) (fun o => Sum.inr ((), (), (fun _ => true), o)) (fun i hi out hp => by cases hp) (fun i hi out hp hb' => each_y (totS l) hb i hi out hb') (fun out => each_e (totS l) out) (fun _ => rfl) ((totS l).hi + 1 - (totS l).lo).toNat 0 [] (by omega)]
    simp only [T.run_some, T.run_inr, T.run_ret, List.append_nil, List.reverse_reverse, eachL, List.map_map, ← List.range_eq_range', filter_all]
    rfl
  · show I_each l _ = _
    rw [it_each, load_eta, ht, T.run_some]
    show T.run (.obs (lim st_each ((totS l).lo, (totS l, ()), _, [])) _) = _
    have e0 : ∀ bs : Nat → Bool, ((totS l).lo, (totS l, ()), bs, ([] : List (List AV × Bool))) = Sea (totS l) bs 0 [] := fun bs => by unfold Sea; simp
    rw [e0]
    have hy' : (((List.range' 0 ((totS l).hi + 1 - (totS l).lo).toNat).filter (fun _ => true)).map (eea (totS l)))[m - ([] : List (List AV × Bool)).length]? = some y := by
      rw [← List.range_eq_range']; simpa [eachL, List.map_map, Function.comp_def, filter_all] using hy
    rw [lim_yields_stop (Sea (totS l) _) (n := ((totS l).hi + 1 - (totS l).lo).toNat) (fun _ => true) (eea (totS l)) (fun o => Sum.inl ((), (), (fun k => !(Nat.beq k m)), o)) (fun i hi out hp => by cases hp) (fun i hi out hp hb' => each_y (totS l) hb i hi out hb') (fun i hi out hp hb' => each_s (totS l) i hi out hb') (fun _ => rfl) ((totS l).hi + 1 - (totS l).lo).toNat 0 [] (by omega) (by simp) hy']
    simp only [T.run_some, T.run_inl, T.run_ret, List.append_nil, List.reverse_cons, List.reverse_reverse, List.length_nil, Nat.sub_zero, ← List.range_eq_range', eachL, List.map_map, filter_all]
    rfl
end K
noncomputable def BKLo91 : Tab := BKLo82.addCall 41 (callE D_cl (dI .i64) (fun a => .chk (decide (a.2.holds.length ≤ 1000000)) (.ret (K.checkLoad a))))
theorem tKLo91 : TabOk P BKLo91 := TabOk.addPC tKLo82 (fun a r h => by obtain ⟨g, e⟩ := chk_ret h; subst e; exact call_of okP tKLo81 (K.checkLoad_eq a (by simpa using g)))
noncomputable def BKLo92 : Tab := BKLo91.addCall 158 (callE D_ld R_each (fun a => .ret a))
theorem tKLo92 : TabOk P BKLo92 := TabOk.addPC tKLo91 (fun a r h => by have e := ret_some h; subst e; exact call_of okP tKLo82 (by rw [fn_each, K.load_eta]; rfl))
end Go.Proofs.YtjbhooodjmjdkaaGreat
/-! KLoa -/
namespace Go.Proofs.YtjbhooodjmjdkaaGreat
open Ev K
set_option maxRecDepth 100000
theorem chk_ok {ρ : Type} {g : Bool} {t : T ρ} {r : ρ} (h : (T.chk g t).run = some r) : g = true ∧ t.run = some r := by
  cases g with
  | true => exact ⟨rfl, h⟩
  | false => simp [T.run] at h
def S_shk := DecS.mk0 (.skips 2 (.unit (dLp 0 0 0 0) (.unit (dLp 1 0 0 0) (.unit (dLp 2 0 0 0) (.unit (dLp 3 0 0 0) (.skips 3 (.last R_each 11))))))) (.flat 27 lShip (.flat 41 lLoadL (.flat 49 (.last (dRows rInt) 0) (.flat 4 (.last dB 0) .nil))))
def X_shk := DecX.one .ret [4, 5] (DecS.mk0 (.skips 4 (.unit (dLp 0 0 0 0) (.unit (dLp 2 0 0 0) (.tops 15)))) (.flat 49 (.last (dO 1) 0) (.rows 3 rInt (.flat 4 (.last dB 0) .nil))))
noncomputable def K.st_shk := rangeT1 P BKLo92 30 105 17 [9, 4, 5, 2, 3] S_shk X_shk eInt
theorem rg_shk : ∀ s x, (K.st_shk) s x = T.run (
  .chk (decide (len (Ship.holds (Prod.fst (Prod.snd s))) ≤ (1000000 : Nat))) <|
  .chk (holdsB (decF rSpan (List.length (LoadL.holds (Prod.fst (Prod.snd (Prod.snd s))))) fun i => encF rSpan (LoadL.holds (Prod.fst (Prod.snd (Prod.snd s)))) ((0 : Nat) + i)) && decide (List.length (decF rInt (List.length (colH (Prod.fst (Prod.snd s)) (3 : Nat) (len (Ship.holds (Prod.fst (Prod.snd s)))))) fun i => encF rInt (colH (Prod.fst (Prod.snd s)) (3 : Nat) (len (Ship.holds (Prod.fst (Prod.snd s))))) ((0 : Nat) + i)) = List.length (decF rSpan (List.length (LoadL.holds (Prod.fst (Prod.snd (Prod.snd s))))) fun i => encF rSpan (LoadL.holds (Prod.fst (Prod.snd (Prod.snd s)))) ((0 : Nat) + i)) ∧ (-100000000000 : Int) ≤ x ∧ x ≤ (100000000000 : Int))) <|
  .obs (steadyL (Prod.fst (Prod.snd s), decF rInt (List.length (bestL (decF rSpan (List.length (LoadL.holds (Prod.fst (Prod.snd (Prod.snd s))))) fun i => encF rSpan (LoadL.holds (Prod.fst (Prod.snd (Prod.snd s)))) ((0 : Nat) + i)) (decF rInt (List.length (colH (Prod.fst (Prod.snd s)) (3 : Nat) (len (Ship.holds (Prod.fst (Prod.snd s)))))) fun i => encF rInt (colH (Prod.fst (Prod.snd s)) (3 : Nat) (len (Ship.holds (Prod.fst (Prod.snd s))))) ((0 : Nat) + i)) x)) fun i => encF rInt (bestL (decF rSpan (List.length (LoadL.holds (Prod.fst (Prod.snd (Prod.snd s))))) fun i => encF rSpan (LoadL.holds (Prod.fst (Prod.snd (Prod.snd s)))) ((0 : Nat) + i)) (decF rInt (List.length (colH (Prod.fst (Prod.snd s)) (3 : Nat) (len (Ship.holds (Prod.fst (Prod.snd s)))))) fun i => encF rInt (colH (Prod.fst (Prod.snd s)) (3 : Nat) (len (Ship.holds (Prod.fst (Prod.snd s))))) ((0 : Nat) + i)) x) ((0 : Nat) + i))) fun x0 =>
    .br (!x0) (
      .ret (Sum.inr (PUnit.unit, List.length (bestL (decF rSpan (List.length (LoadL.holds (Prod.fst (Prod.snd (Prod.snd s))))) fun i => encF rSpan (LoadL.holds (Prod.fst (Prod.snd (Prod.snd s)))) ((0 : Nat) + i)) (decF rInt (List.length (colH (Prod.fst (Prod.snd s)) (3 : Nat) (len (Ship.holds (Prod.fst (Prod.snd s)))))) fun i => encF rInt (colH (Prod.fst (Prod.snd s)) (3 : Nat) (len (Ship.holds (Prod.fst (Prod.snd s))))) ((0 : Nat) + i)) x), decF rInt (List.length (bestL (decF rSpan (List.length (LoadL.holds (Prod.fst (Prod.snd (Prod.snd s))))) fun i => encF rSpan (LoadL.holds (Prod.fst (Prod.snd (Prod.snd s)))) ((0 : Nat) + i)) (decF rInt (List.length (colH (Prod.fst (Prod.snd s)) (3 : Nat) (len (Ship.holds (Prod.fst (Prod.snd s)))))) fun i => encF rInt (colH (Prod.fst (Prod.snd s)) (3 : Nat) (len (Ship.holds (Prod.fst (Prod.snd s))))) ((0 : Nat) + i)) x)) (encF rInt (bestL (decF rSpan (List.length (LoadL.holds (Prod.fst (Prod.snd (Prod.snd s))))) fun i => encF rSpan (LoadL.holds (Prod.fst (Prod.snd (Prod.snd s)))) ((0 : Nat) + i)) (decF rInt (List.length (colH (Prod.fst (Prod.snd s)) (3 : Nat) (len (Ship.holds (Prod.fst (Prod.snd s)))))) fun i => encF rInt (colH (Prod.fst (Prod.snd s)) (3 : Nat) (len (Ship.holds (Prod.fst (Prod.snd s))))) ((0 : Nat) + i)) x)), true, PUnit.unit))) (
      .ret (Sum.inl (LoadL.mk (decF rSpan (List.length (LoadL.holds (Prod.fst s))) fun i => encF rSpan (LoadL.holds (Prod.fst s)) ((0 : Nat) + i)) (LoadL.all (Prod.fst s)), Prod.fst (Prod.snd s), LoadL.mk (decF rSpan (List.length (LoadL.holds (Prod.fst (Prod.snd (Prod.snd s))))) fun i => encF rSpan (LoadL.holds (Prod.fst (Prod.snd (Prod.snd s)))) ((0 : Nat) + i)) (LoadL.all (Prod.fst (Prod.snd (Prod.snd s)))), decF rInt (List.length (Prod.fst (Prod.snd (Prod.snd (Prod.snd s))))) fun i => encF rInt (Prod.fst (Prod.snd (Prod.snd (Prod.snd s)))) ((0 : Nat) + i), Prod.fst (Prod.snd (Prod.snd (Prod.snd (Prod.snd s)))), PUnit.unit)))) := fun s x => by kernel_rfl
noncomputable def K.F_shk (s : LoadL × Ship × LoadL × List Int × Bool × Unit) := foldS K.st_shk (eachL s.1) s
noncomputable def BKLoa1 : Tab := BKLo92.addNode 105 17 (rangeE [9, 4, 5, 2, 3] S_shk X_shk (fun s => .chk (eachB s.1) (.obs (K.F_shk s) .ret)))
theorem tKLoa1 : TabOk P BKLoa1 := TabOk.addRange (d := 30) (enc := eInt) (L := (fun s => eachL s.1)) okP tKLo92 (by kernel_rfl) (by kernel_rfl) (fun s r h => ⟨_, _, _, (by kernel_rfl : _ = some (198, [], V_each.enc s.1)), icl_each s.1 (chk_ok h).1⟩) (fun s r h => obs_ret (chk_ok h).2)
def R_shk := dTup (.cons (dRows rInt) (.last dB 0))
theorem fn_shk : ∀ a, (callT1 P BKLoa1 30 105 D_cl R_shk) a = T.run (
  .chk (eachB (LoadL.mk (decF rSpan (List.length (decF rSpan (List.length (LoadL.holds (Prod.snd a))) fun i => encF rSpan (LoadL.holds (Prod.snd a)) ((0 : Nat) + i))) fun i => encF rSpan (decF rSpan (List.length (LoadL.holds (Prod.snd a))) fun i => encF rSpan (LoadL.holds (Prod.snd a)) ((0 : Nat) + i)) ((0 : Nat) + i)) (LoadL.all (Prod.snd a)))) <|
  .obs (F_shk (LoadL.mk (decF rSpan (List.length (decF rSpan (List.length (LoadL.holds (Prod.snd a))) fun i => encF rSpan (LoadL.holds (Prod.snd a)) ((0 : Nat) + i))) fun i => encF rSpan (decF rSpan (List.length (LoadL.holds (Prod.snd a))) fun i => encF rSpan (LoadL.holds (Prod.snd a)) ((0 : Nat) + i)) ((0 : Nat) + i)) (LoadL.all (Prod.snd a)), Prod.fst a, LoadL.mk (decF rSpan (List.length (LoadL.holds (Prod.snd a))) fun i => encF rSpan (LoadL.holds (Prod.snd a)) ((0 : Nat) + i)) (LoadL.all (Prod.snd a)), [], false, PUnit.unit)) fun x0 =>
    .sum (x0) (fun _ =>
      .ret (([], false))) (fun x1 =>
      .ret ((decF rInt (List.length (Prod.fst (Prod.snd (Prod.snd x1)))) fun i => encF rInt (Prod.fst (Prod.snd (Prod.snd x1))) ((0 : Nat) + i), Prod.fst (Prod.snd (Prod.snd (Prod.snd x1))))))) := fun a => by kernel_rfl
theorem fn_shaky : ∀ a, (callT1 P BKLoa1 30 105 D_cl R_shk) a = T.run (
  .chk (eachB (LoadL.mk (decF rSpan (List.length (decF rSpan (List.length (LoadL.holds (Prod.snd a))) fun i => encF rSpan (LoadL.holds (Prod.snd a)) ((0 : Nat) + i))) fun i => encF rSpan (decF rSpan (List.length (LoadL.holds (Prod.snd a))) fun i => encF rSpan (LoadL.holds (Prod.snd a)) ((0 : Nat) + i)) ((0 : Nat) + i)) (LoadL.all (Prod.snd a)))) <|
  .obs (F_shk (LoadL.mk (decF rSpan (List.length (decF rSpan (List.length (LoadL.holds (Prod.snd a))) fun i => encF rSpan (LoadL.holds (Prod.snd a)) ((0 : Nat) + i))) fun i => encF rSpan (decF rSpan (List.length (LoadL.holds (Prod.snd a))) fun i => encF rSpan (LoadL.holds (Prod.snd a)) ((0 : Nat) + i)) ((0 : Nat) + i)) (LoadL.all (Prod.snd a)), Prod.fst a, LoadL.mk (decF rSpan (List.length (LoadL.holds (Prod.snd a))) fun i => encF rSpan (LoadL.holds (Prod.snd a)) ((0 : Nat) + i)) (LoadL.all (Prod.snd a)), [], false, PUnit.unit)) fun x0 =>
    .sum (x0) (fun _ =>
      .ret (([], false))) (fun x1 =>
      .ret ((decF rInt (List.length (Prod.fst (Prod.snd (Prod.snd x1)))) fun i => encF rInt (Prod.fst (Prod.snd (Prod.snd x1))) ((0 : Nat) + i), Prod.fst (Prod.snd (Prod.snd (Prod.snd x1))))))) := fun a => by kernel_rfl
noncomputable def K.shaky (a : Ship × LoadL) : Option (List Int × Bool) := T.run (
  .chk (eachB (LoadL.mk (decF rSpan (List.length (decF rSpan (List.length (LoadL.holds (Prod.snd a))) fun i => encF rSpan (LoadL.holds (Prod.snd a)) ((0 : Nat) + i))) fun i => encF rSpan (decF rSpan (List.length (LoadL.holds (Prod.snd a))) fun i => encF rSpan (LoadL.holds (Prod.snd a)) ((0 : Nat) + i)) ((0 : Nat) + i)) (LoadL.all (Prod.snd a)))) <|
  .obs (F_shk (LoadL.mk (decF rSpan (List.length (decF rSpan (List.length (LoadL.holds (Prod.snd a))) fun i => encF rSpan (LoadL.holds (Prod.snd a)) ((0 : Nat) + i))) fun i => encF rSpan (decF rSpan (List.length (LoadL.holds (Prod.snd a))) fun i => encF rSpan (LoadL.holds (Prod.snd a)) ((0 : Nat) + i)) ((0 : Nat) + i)) (LoadL.all (Prod.snd a)), Prod.fst a, LoadL.mk (decF rSpan (List.length (LoadL.holds (Prod.snd a))) fun i => encF rSpan (LoadL.holds (Prod.snd a)) ((0 : Nat) + i)) (LoadL.all (Prod.snd a)), [], false, PUnit.unit)) fun x0 =>
    .sum (x0) (fun _ =>
      .ret (([], false))) (fun x1 =>
      .ret ((decF rInt (List.length (Prod.fst (Prod.snd (Prod.snd x1)))) fun i => encF rInt (Prod.fst (Prod.snd (Prod.snd x1))) ((0 : Nat) + i), Prod.fst (Prod.snd (Prod.snd (Prod.snd x1)))))))
theorem eq_shaky (a : Ship × LoadL) : (callT1 P BKLoa1 30 105 D_cl R_shk) a = K.shaky a := fn_shaky a
noncomputable def BKLoa2 : Tab := BKLoa1.addCall 105 (callE D_cl R_shk (fun a => .obs (K.shaky a) .ret))
theorem tKLoa2 : TabOk P BKLoa2 := TabOk.addFn (d := 30) okP tKLoa1 (fun a r h => by rw [eq_shaky]; exact obs_ret h)
def R_std := dTup (.cons (dRows rInt) (.cons dB (.last (dI .i64) 0)))
theorem fn_Steady : ∀ a, (callT1 P BKLoa2 30 44 D_cl R_std) a = T.run (
  .chk (decide (List.length (decF rSpan (List.length (LoadL.holds (Prod.snd a))) fun i => encF rSpan (LoadL.holds (Prod.snd a)) ((0 : Nat) + i)) ≤ (1000000 : Nat))) <|
  .br (checkLoad (Prod.fst a, LoadL.mk (decF rSpan (List.length (LoadL.holds (Prod.snd a))) fun i => encF rSpan (LoadL.holds (Prod.snd a)) ((0 : Nat) + i)) (LoadL.all (Prod.snd a))) != (0 : Int)) (
    .ret (([], false, checkLoad (Prod.fst a, LoadL.mk (decF rSpan (List.length (LoadL.holds (Prod.snd a))) fun i => encF rSpan (LoadL.holds (Prod.snd a)) ((0 : Nat) + i)) (LoadL.all (Prod.snd a)))))) (
    .obs (shaky (Prod.fst a, LoadL.mk (decF rSpan (List.length (LoadL.holds (Prod.snd a))) fun i => encF rSpan (LoadL.holds (Prod.snd a)) ((0 : Nat) + i)) (LoadL.all (Prod.snd a)))) fun x0 =>
      .ret ((decF rInt (List.length (Prod.fst x0)) fun i => encF rInt (Prod.fst x0) ((0 : Nat) + i), !Prod.snd x0, (0 : Int))))) := fun a => by kernel_rfl
noncomputable def K.Steady (a : Ship × LoadL) : Option (List Int × Bool × Int) := T.run (
  .chk (decide (List.length (decF rSpan (List.length (LoadL.holds (Prod.snd a))) fun i => encF rSpan (LoadL.holds (Prod.snd a)) ((0 : Nat) + i)) ≤ (1000000 : Nat))) <|
  .br (checkLoad (Prod.fst a, LoadL.mk (decF rSpan (List.length (LoadL.holds (Prod.snd a))) fun i => encF rSpan (LoadL.holds (Prod.snd a)) ((0 : Nat) + i)) (LoadL.all (Prod.snd a))) != (0 : Int)) (
    .ret (([], false, checkLoad (Prod.fst a, LoadL.mk (decF rSpan (List.length (LoadL.holds (Prod.snd a))) fun i => encF rSpan (LoadL.holds (Prod.snd a)) ((0 : Nat) + i)) (LoadL.all (Prod.snd a)))))) (
    .obs (shaky (Prod.fst a, LoadL.mk (decF rSpan (List.length (LoadL.holds (Prod.snd a))) fun i => encF rSpan (LoadL.holds (Prod.snd a)) ((0 : Nat) + i)) (LoadL.all (Prod.snd a)))) fun x0 =>
      .ret ((decF rInt (List.length (Prod.fst x0)) fun i => encF rInt (Prod.fst x0) ((0 : Nat) + i), !Prod.snd x0, (0 : Int)))))
theorem eq_Steady (a : Ship × LoadL) : (callT1 P BKLoa2 30 44 D_cl R_std) a = K.Steady a := fn_Steady a
noncomputable def BKLoa3 : Tab := BKLoa2.addCall 44 (callE D_cl R_std (fun a => .obs (K.Steady a) .ret))
theorem tKLoa3 : TabOk P BKLoa3 := TabOk.addFn (d := 30) okP tKLoa2 (fun a r h => by rw [eq_Steady]; exact obs_ret h)
def O_d57 : DecB (Ship × LoadL × List Int × Nat × List Int × Unit) := .flat 27 lShip (.flat 41 lLoadL (.flat 49 (.last (dRows rInt) 0) (.flat 49 (.last (dO 4) 0) (.rows 3 rInt .nil))))
def S_d57 := DecS.ghostC 9 3 1 [.int .i64] (DecS.mk0 (.skips 2 (.unit (dLp 0 0 0 0) (.unit (dLp 1 0 0 0) (.skips 4 (.unit (dLp 2 0 0 0) (.unit (dLp 3 0 0 0) (.skips 19 (.cons (dRows rInt) (.cons (dI .i64) (.last (dI .i64) 46)))))))))) O_d57)
def X_d57 := DecX.one (.exit 0) [2, 3, 8, 9] (DecS.mk0 (.skips 2 (.unit (dLp 0 0 0 0) (.unit (dLp 1 0 0 0) (.skips 4 (.unit (dLp 2 0 0 0) (.unit (dLp 3 0 0 0) (.tops 68))))))) O_d57)
noncomputable def K.st_d57 := loopT1 P BKLoa3 30 106 57 [31, 9, 29, 2, 3, 8, 30] S_d57 X_d57
theorem sl_d57 : ∀ s, (K.st_d57) s = T.run (
  .br (decide (Prod.snd (Prod.snd (Prod.fst s)) < Prod.fst (Prod.snd (Prod.fst s)))) (
    .chk (decide ((0 : Int) ≤ Prod.snd (Prod.snd (Prod.fst s)) ∧ Prod.snd (Prod.snd (Prod.fst s)) < (↑(List.length (Prod.fst (Prod.fst s))) : Int))) <|
    .chk (decide ((List.length (Prod.fst (Prod.snd (Prod.snd (Prod.snd (Prod.snd (Prod.snd s)))))) + (1 : Nat)) * (8 : Nat) ≤ (140737488355328 : Nat) ∧ List.length (Prod.fst (Prod.snd (Prod.snd (Prod.snd (Prod.snd (Prod.snd s)))))) + (1 : Nat) ≤ nat_lit 9223372036854775807)) <|
    .ret (Sum.inl ((decF rInt (List.length (Prod.fst (Prod.fst s))) fun i => encF rInt (Prod.fst (Prod.fst s)) ((0 : Nat) + i), Prod.fst (Prod.snd (Prod.fst s)), IntKind.wrap IntKind.i64 (Prod.snd (Prod.snd (Prod.fst s)) + (1 : Int))), Prod.fst (Prod.snd s), LoadL.mk (decF rSpan (List.length (LoadL.holds (Prod.fst (Prod.snd (Prod.snd s))))) fun i => encF rSpan (LoadL.holds (Prod.fst (Prod.snd (Prod.snd s)))) ((0 : Nat) + i)) (LoadL.all (Prod.fst (Prod.snd (Prod.snd s)))), decF rInt (List.length (Prod.fst (Prod.snd (Prod.snd (Prod.snd s))))) fun i => encF rInt (Prod.fst (Prod.snd (Prod.snd (Prod.snd s)))) ((0 : Nat) + i), List.length (Prod.fst (Prod.snd (Prod.snd (Prod.snd (Prod.snd (Prod.snd s)))))) + (1 : Nat), decF rInt (List.length (Prod.fst (Prod.snd (Prod.snd (Prod.snd (Prod.snd (Prod.snd s)))))) + (1 : Nat)) (appG (List.length (Prod.fst (Prod.snd (Prod.snd (Prod.snd (Prod.snd (Prod.snd s))))))) (encF rInt (Prod.fst (Prod.snd (Prod.snd (Prod.snd (Prod.snd (Prod.snd s))))))) fun i k => Option.getD [AV.int IntKind.i64 (IntKind.wrap IntKind.i64 ((0 : Int) - numOf (encF rInt (Prod.fst (Prod.fst s)) ((0 : Nat) + Int.toNat (Prod.snd (Prod.snd (Prod.fst s)))) (0 : Nat))))][((0 : Nat) + i) * (1 : Nat) + k]? AV.top), PUnit.unit))) (
    .ret (Sum.inr (PUnit.unit, Prod.fst (Prod.snd s), LoadL.mk (decF rSpan (List.length (LoadL.holds (Prod.fst (Prod.snd (Prod.snd s))))) fun i => encF rSpan (LoadL.holds (Prod.fst (Prod.snd (Prod.snd s)))) ((0 : Nat) + i)) (LoadL.all (Prod.fst (Prod.snd (Prod.snd s)))), decF rInt (List.length (Prod.fst (Prod.snd (Prod.snd (Prod.snd s))))) fun i => encF rInt (Prod.fst (Prod.snd (Prod.snd (Prod.snd s)))) ((0 : Nat) + i), Prod.fst (Prod.snd (Prod.snd (Prod.snd (Prod.snd s)))), decF rInt (List.length (Prod.fst (Prod.snd (Prod.snd (Prod.snd (Prod.snd (Prod.snd s))))))) (encF rInt (Prod.fst (Prod.snd (Prod.snd (Prod.snd (Prod.snd (Prod.snd s))))))), PUnit.unit)))) := fun s => by kernel_rfl
noncomputable def K.L_d57 := lim K.st_d57
noncomputable def BKLoa4 : Tab := BKLoa3.addNode 106 57 (nodeE [31, 9, 29, 2, 3, 8, 30] S_d57 X_d57 (fun s => .obs (K.L_d57 s) .ret))
theorem tKLoa4 : TabOk P BKLoa4 := TabOk.addLoop (d := 30) okP tKLoa3 (by kernel_rfl) (by kernel_rfl) (fun s r h => obs_ret h)
def S_d113 := DecS.ghostC 13 3 1 [.int .i64] (DecS.mk0 (.skips 2 (.unit (dLp 0 0 0 0) (.unit (dLp 1 0 0 0) (.skips 4 (.unit (dLp 2 0 0 0) (.unit (dLp 3 0 0 0) (.skips 2 (.unit (dLp 5 0 0 0) (.unit (dLp 6 0 0 0) (.unit (dLp 8 0 0 0) (.skips 27 (.last R_each 35))))))))))))
  (.flat 27 lShip (.flat 41 lLoadL (.flat 49 (.last (dRows rInt) 0) (.flat 49 (.last (dO 4) 0) (.rows 3 rInt (.flat 3 (.last (dI .i64) 0) (.flat 49 (.last (dO 7) 0) (.rows 3 rInt (.flat 4 (.last dB 0) .nil))))))))))
noncomputable def K.st_d113 := rangeT1 P BKLoa4 30 106 113 [42, 13, 12, 14, 2, 3, 9, 8] S_d113 DecX.no eInt
theorem rg_d113 : ∀ s x, (K.st_d113) s x = T.run (
  .chk (holdsB (decF rSpan (List.length (LoadL.holds (Prod.fst (Prod.snd (Prod.snd s))))) fun i => encF rSpan (LoadL.holds (Prod.fst (Prod.snd (Prod.snd s)))) ((0 : Nat) + i)) && decide (List.length (decF rInt (List.length (Prod.fst (Prod.snd (Prod.snd (Prod.snd s))))) fun i => encF rInt (Prod.fst (Prod.snd (Prod.snd (Prod.snd s)))) ((0 : Nat) + i)) = List.length (decF rSpan (List.length (LoadL.holds (Prod.fst (Prod.snd (Prod.snd s))))) fun i => encF rSpan (LoadL.holds (Prod.fst (Prod.snd (Prod.snd s)))) ((0 : Nat) + i)) ∧ (-100000000000 : Int) ≤ x ∧ x ≤ (100000000000 : Int))) <|
  .obs (afloat (Prod.fst (Prod.snd s), decF rInt (List.length (bestL (decF rSpan (List.length (LoadL.holds (Prod.fst (Prod.snd (Prod.snd s))))) fun i => encF rSpan (LoadL.holds (Prod.fst (Prod.snd (Prod.snd s)))) ((0 : Nat) + i)) (decF rInt (List.length (Prod.fst (Prod.snd (Prod.snd (Prod.snd s))))) fun i => encF rInt (Prod.fst (Prod.snd (Prod.snd (Prod.snd s)))) ((0 : Nat) + i)) x)) fun i => encF rInt (bestL (decF rSpan (List.length (LoadL.holds (Prod.fst (Prod.snd (Prod.snd s))))) fun i => encF rSpan (LoadL.holds (Prod.fst (Prod.snd (Prod.snd s)))) ((0 : Nat) + i)) (decF rInt (List.length (Prod.fst (Prod.snd (Prod.snd (Prod.snd s))))) fun i => encF rInt (Prod.fst (Prod.snd (Prod.snd (Prod.snd s)))) ((0 : Nat) + i)) x) ((0 : Nat) + i))) fun x0 =>
    .br (!Prod.fst (Prod.snd (Prod.snd (Prod.snd (Prod.snd (Prod.snd (Prod.snd (Prod.snd (Prod.snd (Prod.snd s)))))))))) (
      .chk (holdsB (decF rSpan (List.length (LoadL.holds (Prod.fst (Prod.snd (Prod.snd s))))) fun i => encF rSpan (LoadL.holds (Prod.fst (Prod.snd (Prod.snd s)))) ((0 : Nat) + i)) && decide (List.length (decF rInt (List.length (Prod.fst (Prod.snd (Prod.snd (Prod.snd (Prod.snd (Prod.snd s))))))) fun i => encF rInt (Prod.fst (Prod.snd (Prod.snd (Prod.snd (Prod.snd (Prod.snd s)))))) ((0 : Nat) + i)) = List.length (decF rSpan (List.length (LoadL.holds (Prod.fst (Prod.snd (Prod.snd s))))) fun i => encF rSpan (LoadL.holds (Prod.fst (Prod.snd (Prod.snd s)))) ((0 : Nat) + i)) ∧ (-100000000000 : Int) ≤ x ∧ x ≤ (100000000000 : Int))) <|
      .obs (afloat (Prod.fst (Prod.snd s), decF rInt (List.length (bestL (decF rSpan (List.length (LoadL.holds (Prod.fst (Prod.snd (Prod.snd s))))) fun i => encF rSpan (LoadL.holds (Prod.fst (Prod.snd (Prod.snd s)))) ((0 : Nat) + i)) (decF rInt (List.length (Prod.fst (Prod.snd (Prod.snd (Prod.snd (Prod.snd (Prod.snd s))))))) fun i => encF rInt (Prod.fst (Prod.snd (Prod.snd (Prod.snd (Prod.snd (Prod.snd s)))))) ((0 : Nat) + i)) x)) fun i => encF rInt (bestL (decF rSpan (List.length (LoadL.holds (Prod.fst (Prod.snd (Prod.snd s))))) fun i => encF rSpan (LoadL.holds (Prod.fst (Prod.snd (Prod.snd s)))) ((0 : Nat) + i)) (decF rInt (List.length (Prod.fst (Prod.snd (Prod.snd (Prod.snd (Prod.snd (Prod.snd s))))))) fun i => encF rInt (Prod.fst (Prod.snd (Prod.snd (Prod.snd (Prod.snd (Prod.snd s)))))) ((0 : Nat) + i)) x) ((0 : Nat) + i))) fun x1 =>
        .br (decide (greater (Span.hi (Prod.fst x1), Span.hi (Prod.snd x1)) > greater (Span.hi (Prod.fst x0), Span.hi (Prod.snd x0)))) (
          .ret (Sum.inl (LoadL.mk (decF rSpan (List.length (LoadL.holds (Prod.fst s))) fun i => encF rSpan (LoadL.holds (Prod.fst s)) ((0 : Nat) + i)) (LoadL.all (Prod.fst s)), Prod.fst (Prod.snd s), LoadL.mk (decF rSpan (List.length (LoadL.holds (Prod.fst (Prod.snd (Prod.snd s))))) fun i => encF rSpan (LoadL.holds (Prod.fst (Prod.snd (Prod.snd s)))) ((0 : Nat) + i)) (LoadL.all (Prod.fst (Prod.snd (Prod.snd s)))), decF rInt (List.length (Prod.fst (Prod.snd (Prod.snd (Prod.snd s))))) fun i => encF rInt (Prod.fst (Prod.snd (Prod.snd (Prod.snd s)))) ((0 : Nat) + i), Prod.fst (Prod.snd (Prod.snd (Prod.snd (Prod.snd s)))), decF rInt (List.length (Prod.fst (Prod.snd (Prod.snd (Prod.snd (Prod.snd (Prod.snd s))))))) (encF rInt (Prod.fst (Prod.snd (Prod.snd (Prod.snd (Prod.snd (Prod.snd s))))))), greater (Span.hi (Prod.fst x1), Span.hi (Prod.snd x1)), List.length (bestL (decF rSpan (List.length (LoadL.holds (Prod.fst (Prod.snd (Prod.snd s))))) fun i => encF rSpan (LoadL.holds (Prod.fst (Prod.snd (Prod.snd s)))) ((0 : Nat) + i)) (decF rInt (List.length (Prod.fst (Prod.snd (Prod.snd (Prod.snd (Prod.snd (Prod.snd s))))))) fun i => encF rInt (Prod.fst (Prod.snd (Prod.snd (Prod.snd (Prod.snd (Prod.snd s)))))) ((0 : Nat) + i)) x), decF rInt (List.length (bestL (decF rSpan (List.length (LoadL.holds (Prod.fst (Prod.snd (Prod.snd s))))) fun i => encF rSpan (LoadL.holds (Prod.fst (Prod.snd (Prod.snd s)))) ((0 : Nat) + i)) (decF rInt (List.length (Prod.fst (Prod.snd (Prod.snd (Prod.snd (Prod.snd (Prod.snd s))))))) fun i => encF rInt (Prod.fst (Prod.snd (Prod.snd (Prod.snd (Prod.snd (Prod.snd s)))))) ((0 : Nat) + i)) x)) (encF rInt (bestL (decF rSpan (List.length (LoadL.holds (Prod.fst (Prod.snd (Prod.snd s))))) fun i => encF rSpan (LoadL.holds (Prod.fst (Prod.snd (Prod.snd s)))) ((0 : Nat) + i)) (decF rInt (List.length (Prod.fst (Prod.snd (Prod.snd (Prod.snd (Prod.snd (Prod.snd s))))))) fun i => encF rInt (Prod.fst (Prod.snd (Prod.snd (Prod.snd (Prod.snd (Prod.snd s)))))) ((0 : Nat) + i)) x)), true, PUnit.unit))) (
          .ret (Sum.inl (LoadL.mk (decF rSpan (List.length (LoadL.holds (Prod.fst s))) fun i => encF rSpan (LoadL.holds (Prod.fst s)) ((0 : Nat) + i)) (LoadL.all (Prod.fst s)), Prod.fst (Prod.snd s), LoadL.mk (decF rSpan (List.length (LoadL.holds (Prod.fst (Prod.snd (Prod.snd s))))) fun i => encF rSpan (LoadL.holds (Prod.fst (Prod.snd (Prod.snd s)))) ((0 : Nat) + i)) (LoadL.all (Prod.fst (Prod.snd (Prod.snd s)))), decF rInt (List.length (Prod.fst (Prod.snd (Prod.snd (Prod.snd s))))) fun i => encF rInt (Prod.fst (Prod.snd (Prod.snd (Prod.snd s)))) ((0 : Nat) + i), Prod.fst (Prod.snd (Prod.snd (Prod.snd (Prod.snd s)))), decF rInt (List.length (Prod.fst (Prod.snd (Prod.snd (Prod.snd (Prod.snd (Prod.snd s))))))) (encF rInt (Prod.fst (Prod.snd (Prod.snd (Prod.snd (Prod.snd (Prod.snd s))))))), greater (Span.hi (Prod.fst x0), Span.hi (Prod.snd x0)), List.length (bestL (decF rSpan (List.length (LoadL.holds (Prod.fst (Prod.snd (Prod.snd s))))) fun i => encF rSpan (LoadL.holds (Prod.fst (Prod.snd (Prod.snd s)))) ((0 : Nat) + i)) (decF rInt (List.length (Prod.fst (Prod.snd (Prod.snd (Prod.snd s))))) fun i => encF rInt (Prod.fst (Prod.snd (Prod.snd (Prod.snd s)))) ((0 : Nat) + i)) x), decF rInt (List.length (bestL (decF rSpan (List.length (LoadL.holds (Prod.fst (Prod.snd (Prod.snd s))))) fun i => encF rSpan (LoadL.holds (Prod.fst (Prod.snd (Prod.snd s)))) ((0 : Nat) + i)) (decF rInt (List.length (Prod.fst (Prod.snd (Prod.snd (Prod.snd s))))) fun i => encF rInt (Prod.fst (Prod.snd (Prod.snd (Prod.snd s)))) ((0 : Nat) + i)) x)) (encF rInt (bestL (decF rSpan (List.length (LoadL.holds (Prod.fst (Prod.snd (Prod.snd s))))) fun i => encF rSpan (LoadL.holds (Prod.fst (Prod.snd (Prod.snd s)))) ((0 : Nat) + i)) (decF rInt (List.length (Prod.fst (Prod.snd (Prod.snd (Prod.snd s))))) fun i => encF rInt (Prod.fst (Prod.snd (Prod.snd (Prod.snd s)))) ((0 : Nat) + i)) x)), true, PUnit.unit)))) (
      .br (decide (greater (Span.hi (Prod.fst x0), Span.hi (Prod.snd x0)) > Prod.fst (Prod.snd (Prod.snd (Prod.snd (Prod.snd (Prod.snd (Prod.snd s)))))))) (
        .chk (holdsB (decF rSpan (List.length (LoadL.holds (Prod.fst (Prod.snd (Prod.snd s))))) fun i => encF rSpan (LoadL.holds (Prod.fst (Prod.snd (Prod.snd s)))) ((0 : Nat) + i)) && decide (List.length (decF rInt (List.length (Prod.fst (Prod.snd (Prod.snd (Prod.snd (Prod.snd (Prod.snd s))))))) fun i => encF rInt (Prod.fst (Prod.snd (Prod.snd (Prod.snd (Prod.snd (Prod.snd s)))))) ((0 : Nat) + i)) = List.length (decF rSpan (List.length (LoadL.holds (Prod.fst (Prod.snd (Prod.snd s))))) fun i => encF rSpan (LoadL.holds (Prod.fst (Prod.snd (Prod.snd s)))) ((0 : Nat) + i)) ∧ (-100000000000 : Int) ≤ x ∧ x ≤ (100000000000 : Int))) <|
        .obs (afloat (Prod.fst (Prod.snd s), decF rInt (List.length (bestL (decF rSpan (List.length (LoadL.holds (Prod.fst (Prod.snd (Prod.snd s))))) fun i => encF rSpan (LoadL.holds (Prod.fst (Prod.snd (Prod.snd s)))) ((0 : Nat) + i)) (decF rInt (List.length (Prod.fst (Prod.snd (Prod.snd (Prod.snd (Prod.snd (Prod.snd s))))))) fun i => encF rInt (Prod.fst (Prod.snd (Prod.snd (Prod.snd (Prod.snd (Prod.snd s)))))) ((0 : Nat) + i)) x)) fun i => encF rInt (bestL (decF rSpan (List.length (LoadL.holds (Prod.fst (Prod.snd (Prod.snd s))))) fun i => encF rSpan (LoadL.holds (Prod.fst (Prod.snd (Prod.snd s)))) ((0 : Nat) + i)) (decF rInt (List.length (Prod.fst (Prod.snd (Prod.snd (Prod.snd (Prod.snd (Prod.snd s))))))) fun i => encF rInt (Prod.fst (Prod.snd (Prod.snd (Prod.snd (Prod.snd (Prod.snd s)))))) ((0 : Nat) + i)) x) ((0 : Nat) + i))) fun x1 =>
          .br (decide (greater (Span.hi (Prod.fst x1), Span.hi (Prod.snd x1)) > greater (Span.hi (Prod.fst x0), Span.hi (Prod.snd x0)))) (
            .ret (Sum.inl (LoadL.mk (decF rSpan (List.length (LoadL.holds (Prod.fst s))) fun i => encF rSpan (LoadL.holds (Prod.fst s)) ((0 : Nat) + i)) (LoadL.all (Prod.fst s)), Prod.fst (Prod.snd s), LoadL.mk (decF rSpan (List.length (LoadL.holds (Prod.fst (Prod.snd (Prod.snd s))))) fun i => encF rSpan (LoadL.holds (Prod.fst (Prod.snd (Prod.snd s)))) ((0 : Nat) + i)) (LoadL.all (Prod.fst (Prod.snd (Prod.snd s)))), decF rInt (List.length (Prod.fst (Prod.snd (Prod.snd (Prod.snd s))))) fun i => encF rInt (Prod.fst (Prod.snd (Prod.snd (Prod.snd s)))) ((0 : Nat) + i), Prod.fst (Prod.snd (Prod.snd (Prod.snd (Prod.snd s)))), decF rInt (List.length (Prod.fst (Prod.snd (Prod.snd (Prod.snd (Prod.snd (Prod.snd s))))))) (encF rInt (Prod.fst (Prod.snd (Prod.snd (Prod.snd (Prod.snd (Prod.snd s))))))), greater (Span.hi (Prod.fst x1), Span.hi (Prod.snd x1)), List.length (bestL (decF rSpan (List.length (LoadL.holds (Prod.fst (Prod.snd (Prod.snd s))))) fun i => encF rSpan (LoadL.holds (Prod.fst (Prod.snd (Prod.snd s)))) ((0 : Nat) + i)) (decF rInt (List.length (Prod.fst (Prod.snd (Prod.snd (Prod.snd (Prod.snd (Prod.snd s))))))) fun i => encF rInt (Prod.fst (Prod.snd (Prod.snd (Prod.snd (Prod.snd (Prod.snd s)))))) ((0 : Nat) + i)) x), decF rInt (List.length (bestL (decF rSpan (List.length (LoadL.holds (Prod.fst (Prod.snd (Prod.snd s))))) fun i => encF rSpan (LoadL.holds (Prod.fst (Prod.snd (Prod.snd s)))) ((0 : Nat) + i)) (decF rInt (List.length (Prod.fst (Prod.snd (Prod.snd (Prod.snd (Prod.snd (Prod.snd s))))))) fun i => encF rInt (Prod.fst (Prod.snd (Prod.snd (Prod.snd (Prod.snd (Prod.snd s)))))) ((0 : Nat) + i)) x)) (encF rInt (bestL (decF rSpan (List.length (LoadL.holds (Prod.fst (Prod.snd (Prod.snd s))))) fun i => encF rSpan (LoadL.holds (Prod.fst (Prod.snd (Prod.snd s)))) ((0 : Nat) + i)) (decF rInt (List.length (Prod.fst (Prod.snd (Prod.snd (Prod.snd (Prod.snd (Prod.snd s))))))) fun i => encF rInt (Prod.fst (Prod.snd (Prod.snd (Prod.snd (Prod.snd (Prod.snd s)))))) ((0 : Nat) + i)) x)), true, PUnit.unit))) (
            .ret (Sum.inl (LoadL.mk (decF rSpan (List.length (LoadL.holds (Prod.fst s))) fun i => encF rSpan (LoadL.holds (Prod.fst s)) ((0 : Nat) + i)) (LoadL.all (Prod.fst s)), Prod.fst (Prod.snd s), LoadL.mk (decF rSpan (List.length (LoadL.holds (Prod.fst (Prod.snd (Prod.snd s))))) fun i => encF rSpan (LoadL.holds (Prod.fst (Prod.snd (Prod.snd s)))) ((0 : Nat) + i)) (LoadL.all (Prod.fst (Prod.snd (Prod.snd s)))), decF rInt (List.length (Prod.fst (Prod.snd (Prod.snd (Prod.snd s))))) fun i => encF rInt (Prod.fst (Prod.snd (Prod.snd (Prod.snd s)))) ((0 : Nat) + i), Prod.fst (Prod.snd (Prod.snd (Prod.snd (Prod.snd s)))), decF rInt (List.length (Prod.fst (Prod.snd (Prod.snd (Prod.snd (Prod.snd (Prod.snd s))))))) (encF rInt (Prod.fst (Prod.snd (Prod.snd (Prod.snd (Prod.snd (Prod.snd s))))))), greater (Span.hi (Prod.fst x0), Span.hi (Prod.snd x0)), List.length (bestL (decF rSpan (List.length (LoadL.holds (Prod.fst (Prod.snd (Prod.snd s))))) fun i => encF rSpan (LoadL.holds (Prod.fst (Prod.snd (Prod.snd s)))) ((0 : Nat) + i)) (decF rInt (List.length (Prod.fst (Prod.snd (Prod.snd (Prod.snd s))))) fun i => encF rInt (Prod.fst (Prod.snd (Prod.snd (Prod.snd s)))) ((0 : Nat) + i)) x), decF rInt (List.length (bestL (decF rSpan (List.length (LoadL.holds (Prod.fst (Prod.snd (Prod.snd s))))) fun i => encF rSpan (LoadL.holds (Prod.fst (Prod.snd (Prod.snd s)))) ((0 : Nat) + i)) (decF rInt (List.length (Prod.fst (Prod.snd (Prod.snd (Prod.snd s))))) fun i => encF rInt (Prod.fst (Prod.snd (Prod.snd (Prod.snd s)))) ((0 : Nat) + i)) x)) (encF rInt (bestL (decF rSpan (List.length (LoadL.holds (Prod.fst (Prod.snd (Prod.snd s))))) fun i => encF rSpan (LoadL.holds (Prod.fst (Prod.snd (Prod.snd s)))) ((0 : Nat) + i)) (decF rInt (List.length (Prod.fst (Prod.snd (Prod.snd (Prod.snd s))))) fun i => encF rInt (Prod.fst (Prod.snd (Prod.snd (Prod.snd s)))) ((0 : Nat) + i)) x)), true, PUnit.unit)))) (
        .chk (holdsB (decF rSpan (List.length (LoadL.holds (Prod.fst (Prod.snd (Prod.snd s))))) fun i => encF rSpan (LoadL.holds (Prod.fst (Prod.snd (Prod.snd s)))) ((0 : Nat) + i)) && decide (List.length (decF rInt (List.length (Prod.fst (Prod.snd (Prod.snd (Prod.snd (Prod.snd (Prod.snd s))))))) fun i => encF rInt (Prod.fst (Prod.snd (Prod.snd (Prod.snd (Prod.snd (Prod.snd s)))))) ((0 : Nat) + i)) = List.length (decF rSpan (List.length (LoadL.holds (Prod.fst (Prod.snd (Prod.snd s))))) fun i => encF rSpan (LoadL.holds (Prod.fst (Prod.snd (Prod.snd s)))) ((0 : Nat) + i)) ∧ (-100000000000 : Int) ≤ x ∧ x ≤ (100000000000 : Int))) <|
        .obs (afloat (Prod.fst (Prod.snd s), decF rInt (List.length (bestL (decF rSpan (List.length (LoadL.holds (Prod.fst (Prod.snd (Prod.snd s))))) fun i => encF rSpan (LoadL.holds (Prod.fst (Prod.snd (Prod.snd s)))) ((0 : Nat) + i)) (decF rInt (List.length (Prod.fst (Prod.snd (Prod.snd (Prod.snd (Prod.snd (Prod.snd s))))))) fun i => encF rInt (Prod.fst (Prod.snd (Prod.snd (Prod.snd (Prod.snd (Prod.snd s)))))) ((0 : Nat) + i)) x)) fun i => encF rInt (bestL (decF rSpan (List.length (LoadL.holds (Prod.fst (Prod.snd (Prod.snd s))))) fun i => encF rSpan (LoadL.holds (Prod.fst (Prod.snd (Prod.snd s)))) ((0 : Nat) + i)) (decF rInt (List.length (Prod.fst (Prod.snd (Prod.snd (Prod.snd (Prod.snd (Prod.snd s))))))) fun i => encF rInt (Prod.fst (Prod.snd (Prod.snd (Prod.snd (Prod.snd (Prod.snd s)))))) ((0 : Nat) + i)) x) ((0 : Nat) + i))) fun x1 =>
          .br (!Prod.fst (Prod.snd (Prod.snd (Prod.snd (Prod.snd (Prod.snd (Prod.snd (Prod.snd (Prod.snd (Prod.snd s)))))))))) (
            .ret (Sum.inl (LoadL.mk (decF rSpan (List.length (LoadL.holds (Prod.fst s))) fun i => encF rSpan (LoadL.holds (Prod.fst s)) ((0 : Nat) + i)) (LoadL.all (Prod.fst s)), Prod.fst (Prod.snd s), LoadL.mk (decF rSpan (List.length (LoadL.holds (Prod.fst (Prod.snd (Prod.snd s))))) fun i => encF rSpan (LoadL.holds (Prod.fst (Prod.snd (Prod.snd s)))) ((0 : Nat) + i)) (LoadL.all (Prod.fst (Prod.snd (Prod.snd s)))), decF rInt (List.length (Prod.fst (Prod.snd (Prod.snd (Prod.snd s))))) fun i => encF rInt (Prod.fst (Prod.snd (Prod.snd (Prod.snd s)))) ((0 : Nat) + i), Prod.fst (Prod.snd (Prod.snd (Prod.snd (Prod.snd s)))), decF rInt (List.length (Prod.fst (Prod.snd (Prod.snd (Prod.snd (Prod.snd (Prod.snd s))))))) (encF rInt (Prod.fst (Prod.snd (Prod.snd (Prod.snd (Prod.snd (Prod.snd s))))))), greater (Span.hi (Prod.fst x1), Span.hi (Prod.snd x1)), List.length (bestL (decF rSpan (List.length (LoadL.holds (Prod.fst (Prod.snd (Prod.snd s))))) fun i => encF rSpan (LoadL.holds (Prod.fst (Prod.snd (Prod.snd s)))) ((0 : Nat) + i)) (decF rInt (List.length (Prod.fst (Prod.snd (Prod.snd (Prod.snd (Prod.snd (Prod.snd s))))))) fun i => encF rInt (Prod.fst (Prod.snd (Prod.snd (Prod.snd (Prod.snd (Prod.snd s)))))) ((0 : Nat) + i)) x), decF rInt (List.length (bestL (decF rSpan (List.length (LoadL.holds (Prod.fst (Prod.snd (Prod.snd s))))) fun i => encF rSpan (LoadL.holds (Prod.fst (Prod.snd (Prod.snd s)))) ((0 : Nat) + i)) (decF rInt (List.length (Prod.fst (Prod.snd (Prod.snd (Prod.snd (Prod.snd (Prod.snd s))))))) fun i => encF rInt (Prod.fst (Prod.snd (Prod.snd (Prod.snd (Prod.snd (Prod.snd s)))))) ((0 : Nat) + i)) x)) (encF rInt (bestL (decF rSpan (List.length (LoadL.holds (Prod.fst (Prod.snd (Prod.snd s))))) fun i => encF rSpan (LoadL.holds (Prod.fst (Prod.snd (Prod.snd s)))) ((0 : Nat) + i)) (decF rInt (List.length (Prod.fst (Prod.snd (Prod.snd (Prod.snd (Prod.snd (Prod.snd s))))))) fun i => encF rInt (Prod.fst (Prod.snd (Prod.snd (Prod.snd (Prod.snd (Prod.snd s)))))) ((0 : Nat) + i)) x)), true, PUnit.unit))) (
            .br (decide (greater (Span.hi (Prod.fst x1), Span.hi (Prod.snd x1)) > Prod.fst (Prod.snd (Prod.snd (Prod.snd (Prod.snd (Prod.snd (Prod.snd s)))))))) (
              .ret (Sum.inl (LoadL.mk (decF rSpan (List.length (LoadL.holds (Prod.fst s))) fun i => encF rSpan (LoadL.holds (Prod.fst s)) ((0 : Nat) + i)) (LoadL.all (Prod.fst s)), Prod.fst (Prod.snd s), LoadL.mk (decF rSpan (List.length (LoadL.holds (Prod.fst (Prod.snd (Prod.snd s))))) fun i => encF rSpan (LoadL.holds (Prod.fst (Prod.snd (Prod.snd s)))) ((0 : Nat) + i)) (LoadL.all (Prod.fst (Prod.snd (Prod.snd s)))), decF rInt (List.length (Prod.fst (Prod.snd (Prod.snd (Prod.snd s))))) fun i => encF rInt (Prod.fst (Prod.snd (Prod.snd (Prod.snd s)))) ((0 : Nat) + i), Prod.fst (Prod.snd (Prod.snd (Prod.snd (Prod.snd s)))), decF rInt (List.length (Prod.fst (Prod.snd (Prod.snd (Prod.snd (Prod.snd (Prod.snd s))))))) (encF rInt (Prod.fst (Prod.snd (Prod.snd (Prod.snd (Prod.snd (Prod.snd s))))))), greater (Span.hi (Prod.fst x1), Span.hi (Prod.snd x1)), List.length (bestL (decF rSpan (List.length (LoadL.holds (Prod.fst (Prod.snd (Prod.snd s))))) fun i => encF rSpan (LoadL.holds (Prod.fst (Prod.snd (Prod.snd s)))) ((0 : Nat) + i)) (decF rInt (List.length (Prod.fst (Prod.snd (Prod.snd (Prod.snd (Prod.snd (Prod.snd s))))))) fun i => encF rInt (Prod.fst (Prod.snd (Prod.snd (Prod.snd (Prod.snd (Prod.snd s)))))) ((0 : Nat) + i)) x), decF rInt (List.length (bestL (decF rSpan (List.length (LoadL.holds (Prod.fst (Prod.snd (Prod.snd s))))) fun i => encF rSpan (LoadL.holds (Prod.fst (Prod.snd (Prod.snd s)))) ((0 : Nat) + i)) (decF rInt (List.length (Prod.fst (Prod.snd (Prod.snd (Prod.snd (Prod.snd (Prod.snd s))))))) fun i => encF rInt (Prod.fst (Prod.snd (Prod.snd (Prod.snd (Prod.snd (Prod.snd s)))))) ((0 : Nat) + i)) x)) (encF rInt (bestL (decF rSpan (List.length (LoadL.holds (Prod.fst (Prod.snd (Prod.snd s))))) fun i => encF rSpan (LoadL.holds (Prod.fst (Prod.snd (Prod.snd s)))) ((0 : Nat) + i)) (decF rInt (List.length (Prod.fst (Prod.snd (Prod.snd (Prod.snd (Prod.snd (Prod.snd s))))))) fun i => encF rInt (Prod.fst (Prod.snd (Prod.snd (Prod.snd (Prod.snd (Prod.snd s)))))) ((0 : Nat) + i)) x)), true, PUnit.unit))) (
              .ret (Sum.inl (LoadL.mk (decF rSpan (List.length (LoadL.holds (Prod.fst s))) fun i => encF rSpan (LoadL.holds (Prod.fst s)) ((0 : Nat) + i)) (LoadL.all (Prod.fst s)), Prod.fst (Prod.snd s), LoadL.mk (decF rSpan (List.length (LoadL.holds (Prod.fst (Prod.snd (Prod.snd s))))) fun i => encF rSpan (LoadL.holds (Prod.fst (Prod.snd (Prod.snd s)))) ((0 : Nat) + i)) (LoadL.all (Prod.fst (Prod.snd (Prod.snd s)))), decF rInt (List.length (Prod.fst (Prod.snd (Prod.snd (Prod.snd s))))) fun i => encF rInt (Prod.fst (Prod.snd (Prod.snd (Prod.snd s)))) ((0 : Nat) + i), Prod.fst (Prod.snd (Prod.snd (Prod.snd (Prod.snd s)))), decF rInt (List.length (Prod.fst (Prod.snd (Prod.snd (Prod.snd (Prod.snd (Prod.snd s))))))) (encF rInt (Prod.fst (Prod.snd (Prod.snd (Prod.snd (Prod.snd (Prod.snd s))))))), Prod.fst (Prod.snd (Prod.snd (Prod.snd (Prod.snd (Prod.snd (Prod.snd s)))))), Prod.fst (Prod.snd (Prod.snd (Prod.snd (Prod.snd (Prod.snd (Prod.snd (Prod.snd s))))))), decF rInt (List.length (Prod.fst (Prod.snd (Prod.snd (Prod.snd (Prod.snd (Prod.snd (Prod.snd (Prod.snd (Prod.snd s)))))))))) (encF rInt (Prod.fst (Prod.snd (Prod.snd (Prod.snd (Prod.snd (Prod.snd (Prod.snd (Prod.snd (Prod.snd s)))))))))), Prod.fst (Prod.snd (Prod.snd (Prod.snd (Prod.snd (Prod.snd (Prod.snd (Prod.snd (Prod.snd (Prod.snd s))))))))), PUnit.unit))))))) := fun s x => by kernel_rfl
end Go.Proofs.YtjbhooodjmjdkaaGreat
/-! KU1 -/
namespace Go.Proofs.YtjbhooodjmjdkaaGreat
open Ev K
set_option maxRecDepth 100000
namespace K
theorem e_rls_is {b : Bulbs} {x : XS} (hb : CheckBulbs b = 0) {i : Nat} (hi : i < len x) : e_rls b x i = svyE b x i := by
  unfold e_rls svyE
  rw [r_check_is, find_lst1_idx, idx_lt hi (by simp)]
  have : Check (b, svy x i) = check (b, svy x i) := by unfold Check; rw [hb]; rfl
  rw [this]; rfl
theorem findSome_congr {α : Type} (e f : Nat → Option α) (n : Nat) (h : ∀ i, i < n → e i = f i) : (List.range n).findSome? e = (List.range n).findSome? f := findSome_prefix e f n (fun i hi _ => h i hi)
theorem r_listO_is {b : Bulbs} (hb : CheckBulbs b = 0) (x : XS) : r_listO b x = listO b x := by
  unfold r_listO listO
  rw [findSome_congr _ _ _ (fun i hi => e_rls_is hb hi)]
theorem r_asked_is (a : Ship × Bulbs × XS) : r_asked a = listed1 a := by
  unfold r_asked listed1
  rw [r_ship_is, r_bulbs_is]
  by_cases hb : CheckBulbs a.2.1 = 0
  · rw [r_listO_is hb]; rfl
  · have b0 : (CheckBulbs a.2.1 != 0) = true := by simpa using hb
    simp only [b0, if_true]
theorem r_massesAll {s : Ship} {b : Bulbs} {x : XS} (hs : ShipOk s) (l : ListOk b x) : ((List.range (len x)).all fun i => r_massOk s (svy x i)) = true := by
  rw [List.all_eq_true]
  intro i hi
  obtain ⟨g, d, e⟩ := svy_ok l (List.mem_range.1 hi)
  exact (massOk_is hs g e).2
theorem tog_is {s : Ship} {b : Bulbs} {x : XS} (hs : ShipOk s) (hb : CheckBulbs b = 0) (l : ListOk b x) :
    Alike (togetherOf s b x) ((List.range (len x - 1)).foldl (fun o i => r_both (o, r_mass s b (svy x (i + 1)))) (r_mass s b (svy x 0))) := by
  have hr : ∀ i, i < len x → r_mass s b (svy x i) = massOf s b (svy x i) := fun i hi => by
    obtain ⟨g, d, e⟩ := svy_ok l hi
    exact mass_is hs hb g d e
  obtain ⟨n, hn⟩ : ∃ n, len x = n + 1 := ⟨len x - 1, by have := l.pos; omega⟩
  have e1 : togetherOf s b x = ((List.range n).map fun i => massOf s b (svy x (i + 1))).foldl meet (meet ⟨s.light, rooms s⟩ (massOf s b (svy x 0))) := by
    unfold togetherOf massesL
    rw [hn, List.range_succ_eq_map, List.map_cons, List.foldl_cons, List.map_map, List.foldl_map, List.foldl_map]
    rfl
  have e2 : (List.range (len x - 1)).foldl (fun o i => r_both (o, r_mass s b (svy x (i + 1)))) (r_mass s b (svy x 0)) = ((List.range n).map fun i => massOf s b (svy x (i + 1))).foldl meet (massOf s b (svy x 0)) := by
    rw [hn, Nat.add_sub_cancel, hr 0 (by omega), List.foldl_map]
    apply foldl_same
    intro o i hi
    rw [hr (i + 1) (by have := List.mem_range.1 hi; omega)]; rfl
  rw [e1, e2]
  apply fold_alike
  rw [massOf_form]
  by_cases hv : void (ySpan s (svy x 0)) = true
  · rw [if_pos hv]
    right
    refine ⟨?_, by decide⟩
    have := hs.light; have h2 := hs.room; have h3 := hs.room0
    apply void_true.2
    unfold meet; simp only; split <;> split <;> omega
  · rw [if_neg hv]
    left
    exact meet_again _ _
end K
end Go.Proofs.YtjbhooodjmjdkaaGreat
/-! KLob -/
namespace Go.Proofs.YtjbhooodjmjdkaaGreat
open Ev K
set_option maxRecDepth 100000
noncomputable def K.F_d113 (s : LoadL × Ship × LoadL × List Int × Nat × List Int × Int × Nat × List Int × Bool × Unit) := foldS K.st_d113 (eachL s.1) s
noncomputable def BKLob1 : Tab := BKLoa4.addNode 106 113 (rangeE [42, 13, 12, 14, 2, 3, 9, 8] S_d113 DecX.no (fun s => .chk (eachB s.1) (.obs (K.F_d113 s) .ret)))
theorem tKLob1 : TabOk P BKLob1 := TabOk.addRange (d := 30) (enc := eInt) (L := (fun s => eachL s.1)) okP tKLoa4 (by kernel_rfl) (by kernel_rfl) (fun s r h => ⟨_, _, _, (by kernel_rfl : _ = some (198, [], V_each.enc s.1)), icl_each s.1 (chk_ok h).1⟩) (fun s r h => obs_ret (chk_ok h).2)
def lLoadO (j : Nat) : DecL (Nat × Int × Int) := .cons (dO j) (.cons (dI .i64) (.last (dI .i64) 0))
def O_ldp : DecB (Ship × LoadL × (Nat × Int × Int) × List Span × Unit) := .flat 27 lShip (.flat 41 lLoadL (.flat 41 (lLoadO 3) (.rows 39 rSpan .nil)))
def S_ldp := DecS.ghostF 10 0 39 2 [.int .i64, .int .i64] (DecS.mk0 (.skips 3 (.unit (dLp 0 0 0 0) (.skips 2 (.unit (dLp 1 0 0 0) (.skips 3 (.unit (dLp 2 0 0 0) (.skips 27 (.cons xHolds (.cons (dI .i64) (.last (dI .i64) 20)))))))))) O_ldp)
def X_ldp := DecX.one (.exit 0) [3, 6, 10] (DecS.mk0 (.skips 3 (.unit (dLp 0 0 0 0) (.skips 2 (.unit (dLp 1 0 0 0) (.skips 3 (.unit (dLp 2 0 0 0) (.tops 50))))))) O_ldp)
noncomputable def K.st_ldp := loopT1 P BKLob1 30 12 49 [40, 10, 38, 6, 3, 39] S_ldp X_ldp
theorem sl_ldp : ∀ s, (K.st_ldp) s = T.run (
  .br (decide (Prod.snd (Prod.snd (Prod.fst s)) < Prod.fst (Prod.snd (Prod.fst s)))) (
    .chk (decide ((0 : Int) ≤ Prod.snd (Prod.snd (Prod.fst s)) ∧ Prod.snd (Prod.snd (Prod.fst s)) < (↑(XS.len (Prod.fst (Prod.fst s))) : Int))) <|
    .chk (decide ((List.length (Prod.fst (Prod.snd (Prod.snd (Prod.snd (Prod.snd s))))) + (1 : Nat)) * (16 : Nat) ≤ (140737488355328 : Nat) ∧ List.length (Prod.fst (Prod.snd (Prod.snd (Prod.snd (Prod.snd s))))) + (1 : Nat) ≤ nat_lit 9223372036854775807)) <|
    .ret (Sum.inl ((Prod.fst (Prod.fst s), Prod.fst (Prod.snd (Prod.fst s)), IntKind.wrap IntKind.i64 (Prod.snd (Prod.snd (Prod.fst s)) + (1 : Int))), Prod.fst (Prod.snd s), LoadL.mk (decF rSpan (List.length (LoadL.holds (Prod.fst (Prod.snd (Prod.snd s))))) fun i => encF rSpan (LoadL.holds (Prod.fst (Prod.snd (Prod.snd s)))) ((0 : Nat) + i)) (LoadL.all (Prod.fst (Prod.snd (Prod.snd s)))), (List.length (Prod.fst (Prod.snd (Prod.snd (Prod.snd (Prod.snd s))))) + (1 : Nat), Prod.snd (Prod.fst (Prod.snd (Prod.snd (Prod.snd s))))), decF rSpan (List.length (Prod.fst (Prod.snd (Prod.snd (Prod.snd (Prod.snd s))))) + (1 : Nat)) (appG (List.length (Prod.fst (Prod.snd (Prod.snd (Prod.snd (Prod.snd s)))))) (encF rSpan (Prod.fst (Prod.snd (Prod.snd (Prod.snd (Prod.snd s)))))) fun i k => Option.getD [AV.int IntKind.i64 (0 : Int), AV.int IntKind.i64 (XS.g (Prod.fst (Prod.fst s)) (Int.toNat (Prod.snd (Prod.snd (Prod.fst s)))) (1 : Nat))][((0 : Nat) + i) * (2 : Nat) + k]? AV.top), PUnit.unit))) (
    .ret (Sum.inr (PUnit.unit, Prod.fst (Prod.snd s), LoadL.mk (decF rSpan (List.length (LoadL.holds (Prod.fst (Prod.snd (Prod.snd s))))) fun i => encF rSpan (LoadL.holds (Prod.fst (Prod.snd (Prod.snd s)))) ((0 : Nat) + i)) (LoadL.all (Prod.fst (Prod.snd (Prod.snd s)))), Prod.fst (Prod.snd (Prod.snd (Prod.snd s))), decF rSpan (List.length (Prod.fst (Prod.snd (Prod.snd (Prod.snd (Prod.snd s)))))) (encF rSpan (Prod.fst (Prod.snd (Prod.snd (Prod.snd (Prod.snd s)))))), PUnit.unit)))) := fun s => by kernel_rfl
noncomputable def K.L_ldp := lim K.st_ldp
noncomputable def BKLob2 : Tab := BKLob1.addNode 12 49 (nodeE [40, 10, 38, 6, 3, 39] S_ldp X_ldp (fun s => .obs (K.L_ldp s) .ret))
theorem tKLob2 : TabOk P BKLob2 := TabOk.addLoop (d := 30) okP tKLob1 (by kernel_rfl) (by kernel_rfl) (fun s r h => obs_ret h)
def R_load := dTup (.cons dLoadL (.last (dI .i64) 0))
theorem fn_sLoad : ∀ a, (callT1 P BKLob2 30 12 D_tog R_load) a = T.run (
  .br (Prod.snd (sTog a) != (0 : Int)) (
    .ret ((LoadL.mk [] (Span.mk (0 : Int) (0 : Int)), Prod.snd (sTog a)))) (
    .obs (L_ldp ((Ship.holds (Prod.fst a), (↑(len (Ship.holds (Prod.fst a))) : Int), (0 : Int)), Prod.fst a, LoadL.mk [] (Span.mk (0 : Int) (0 : Int)), ((0 : Nat), IntKind.wrap IntKind.i64 (Span.lo (Prod.fst (sTog a)) - Ship.light (Prod.fst a)), IntKind.wrap IntKind.i64 (Span.hi (Prod.fst (sTog a)) - Ship.light (Prod.fst a))), decF rSpan (0 : Nat) fun x x_1 => AV.top, PUnit.unit)) fun x0 =>
      .chk (decide (List.length (decF rSpan (List.length (Prod.fst (Prod.snd (Prod.snd (Prod.snd (Prod.snd x0)))))) fun i => encF rSpan (Prod.fst (Prod.snd (Prod.snd (Prod.snd (Prod.snd x0))))) ((0 : Nat) + i)) ≤ (1000000 : Nat))) <|
      .br (checkLoad (Prod.fst (Prod.snd x0), LoadL.mk (decF rSpan (List.length (Prod.fst (Prod.snd (Prod.snd (Prod.snd (Prod.snd x0)))))) fun i => encF rSpan (Prod.fst (Prod.snd (Prod.snd (Prod.snd (Prod.snd x0))))) ((0 : Nat) + i)) (Span.mk (Prod.fst (Prod.snd (Prod.fst (Prod.snd (Prod.snd (Prod.snd x0)))))) (Prod.snd (Prod.snd (Prod.fst (Prod.snd (Prod.snd (Prod.snd x0)))))))) != (0 : Int)) (
        .ret ((LoadL.mk [] (Span.mk (0 : Int) (0 : Int)), checkLoad (Prod.fst (Prod.snd x0), LoadL.mk (decF rSpan (List.length (Prod.fst (Prod.snd (Prod.snd (Prod.snd (Prod.snd x0)))))) fun i => encF rSpan (Prod.fst (Prod.snd (Prod.snd (Prod.snd (Prod.snd x0))))) ((0 : Nat) + i)) (Span.mk (Prod.fst (Prod.snd (Prod.fst (Prod.snd (Prod.snd (Prod.snd x0)))))) (Prod.snd (Prod.snd (Prod.fst (Prod.snd (Prod.snd (Prod.snd x0))))))))))) (
        .ret ((LoadL.mk (decF rSpan (List.length (Prod.fst (Prod.snd (Prod.snd (Prod.snd (Prod.snd x0)))))) fun i => encF rSpan (Prod.fst (Prod.snd (Prod.snd (Prod.snd (Prod.snd x0))))) ((0 : Nat) + i)) (Span.mk (Prod.fst (Prod.snd (Prod.fst (Prod.snd (Prod.snd (Prod.snd x0)))))) (Prod.snd (Prod.snd (Prod.fst (Prod.snd (Prod.snd (Prod.snd x0))))))), (0 : Int)))))) := fun a => by kernel_rfl
noncomputable def K.sLoad (a : Ship × Bulbs × XS) : Option (LoadL × Int) := T.run (
  .br (Prod.snd (sTog a) != (0 : Int)) (
    .ret ((LoadL.mk [] (Span.mk (0 : Int) (0 : Int)), Prod.snd (sTog a)))) (
    .obs (L_ldp ((Ship.holds (Prod.fst a), (↑(len (Ship.holds (Prod.fst a))) : Int), (0 : Int)), Prod.fst a, LoadL.mk [] (Span.mk (0 : Int) (0 : Int)), ((0 : Nat), IntKind.wrap IntKind.i64 (Span.lo (Prod.fst (sTog a)) - Ship.light (Prod.fst a)), IntKind.wrap IntKind.i64 (Span.hi (Prod.fst (sTog a)) - Ship.light (Prod.fst a))), decF rSpan (0 : Nat) fun x x_1 => AV.top, PUnit.unit)) fun x0 =>
      .chk (decide (List.length (decF rSpan (List.length (Prod.fst (Prod.snd (Prod.snd (Prod.snd (Prod.snd x0)))))) fun i => encF rSpan (Prod.fst (Prod.snd (Prod.snd (Prod.snd (Prod.snd x0))))) ((0 : Nat) + i)) ≤ (1000000 : Nat))) <|
      .br (checkLoad (Prod.fst (Prod.snd x0), LoadL.mk (decF rSpan (List.length (Prod.fst (Prod.snd (Prod.snd (Prod.snd (Prod.snd x0)))))) fun i => encF rSpan (Prod.fst (Prod.snd (Prod.snd (Prod.snd (Prod.snd x0))))) ((0 : Nat) + i)) (Span.mk (Prod.fst (Prod.snd (Prod.fst (Prod.snd (Prod.snd (Prod.snd x0)))))) (Prod.snd (Prod.snd (Prod.fst (Prod.snd (Prod.snd (Prod.snd x0)))))))) != (0 : Int)) (
        .ret ((LoadL.mk [] (Span.mk (0 : Int) (0 : Int)), checkLoad (Prod.fst (Prod.snd x0), LoadL.mk (decF rSpan (List.length (Prod.fst (Prod.snd (Prod.snd (Prod.snd (Prod.snd x0)))))) fun i => encF rSpan (Prod.fst (Prod.snd (Prod.snd (Prod.snd (Prod.snd x0))))) ((0 : Nat) + i)) (Span.mk (Prod.fst (Prod.snd (Prod.fst (Prod.snd (Prod.snd (Prod.snd x0)))))) (Prod.snd (Prod.snd (Prod.fst (Prod.snd (Prod.snd (Prod.snd x0))))))))))) (
        .ret ((LoadL.mk (decF rSpan (List.length (Prod.fst (Prod.snd (Prod.snd (Prod.snd (Prod.snd x0)))))) fun i => encF rSpan (Prod.fst (Prod.snd (Prod.snd (Prod.snd (Prod.snd x0))))) ((0 : Nat) + i)) (Span.mk (Prod.fst (Prod.snd (Prod.fst (Prod.snd (Prod.snd (Prod.snd x0)))))) (Prod.snd (Prod.snd (Prod.fst (Prod.snd (Prod.snd (Prod.snd x0))))))), (0 : Int))))))
theorem eq_sLoad (a : Ship × Bulbs × XS) : (callT1 P BKLob2 30 12 D_tog R_load) a = K.sLoad a := fn_sLoad a
noncomputable def BKLob3 : Tab := BKLob2.addCall 12 (callE D_tog R_load (fun a => .obs (K.sLoad a) .ret))
theorem tKLob3 : TabOk P BKLob3 := TabOk.addFn (d := 30) okP tKLob2 (fun a r h => by rw [eq_sLoad]; exact obs_ret h)
def R_deep := dTup (.cons (dI .i64) (.cons (dRows rInt) (.last (dI .i64) 0)))
theorem fn_Deepest : ∀ a, (callT1 P BKLob3 30 106 D_cl R_deep) a = T.run (
  .chk (decide (List.length (decF rSpan (List.length (LoadL.holds (Prod.snd a))) fun i => encF rSpan (LoadL.holds (Prod.snd a)) ((0 : Nat) + i)) ≤ (1000000 : Nat))) <|
  .br (checkLoad (Prod.fst a, LoadL.mk (decF rSpan (List.length (LoadL.holds (Prod.snd a))) fun i => encF rSpan (LoadL.holds (Prod.snd a)) ((0 : Nat) + i)) (LoadL.all (Prod.snd a))) != (0 : Int)) (
    .ret (((0 : Int), [], checkLoad (Prod.fst a, LoadL.mk (decF rSpan (List.length (LoadL.holds (Prod.snd a))) fun i => encF rSpan (LoadL.holds (Prod.snd a)) ((0 : Nat) + i)) (LoadL.all (Prod.snd a)))))) (
    .chk (decide (len (Ship.holds (Prod.fst a)) ≤ (1000000 : Nat))) <|
    .obs (L_d57 ((decF rInt (List.length (colH (Prod.fst a) (2 : Nat) (len (Ship.holds (Prod.fst a))))) fun i => encF rInt (colH (Prod.fst a) (2 : Nat) (len (Ship.holds (Prod.fst a)))) ((0 : Nat) + i), (↑(clampL (List.length (colH (Prod.fst a) (2 : Nat) (len (Ship.holds (Prod.fst a)))))) : Int), (0 : Int)), Prod.fst a, LoadL.mk (decF rSpan (List.length (LoadL.holds (Prod.snd a))) fun i => encF rSpan (LoadL.holds (Prod.snd a)) ((0 : Nat) + i)) (LoadL.all (Prod.snd a)), decF rInt (List.length (colH (Prod.fst a) (2 : Nat) (len (Ship.holds (Prod.fst a))))) fun i => encF rInt (colH (Prod.fst a) (2 : Nat) (len (Ship.holds (Prod.fst a)))) ((0 : Nat) + i), (0 : Nat), decF rInt (0 : Nat) fun x x_1 => AV.top, PUnit.unit)) fun x0 =>
      .chk (eachB (LoadL.mk (decF rSpan (List.length (decF rSpan (List.length (LoadL.holds (Prod.fst (Prod.snd (Prod.snd x0))))) fun i => encF rSpan (LoadL.holds (Prod.fst (Prod.snd (Prod.snd x0)))) ((0 : Nat) + i))) fun i => encF rSpan (decF rSpan (List.length (LoadL.holds (Prod.fst (Prod.snd (Prod.snd x0))))) fun i => encF rSpan (LoadL.holds (Prod.fst (Prod.snd (Prod.snd x0)))) ((0 : Nat) + i)) ((0 : Nat) + i)) (LoadL.all (Prod.fst (Prod.snd (Prod.snd x0)))))) <|
      .obs (F_d113 (LoadL.mk (decF rSpan (List.length (decF rSpan (List.length (LoadL.holds (Prod.fst (Prod.snd (Prod.snd x0))))) fun i => encF rSpan (LoadL.holds (Prod.fst (Prod.snd (Prod.snd x0)))) ((0 : Nat) + i))) fun i => encF rSpan (decF rSpan (List.length (LoadL.holds (Prod.fst (Prod.snd (Prod.snd x0))))) fun i => encF rSpan (LoadL.holds (Prod.fst (Prod.snd (Prod.snd x0)))) ((0 : Nat) + i)) ((0 : Nat) + i)) (LoadL.all (Prod.fst (Prod.snd (Prod.snd x0)))), Prod.fst (Prod.snd x0), LoadL.mk (decF rSpan (List.length (LoadL.holds (Prod.fst (Prod.snd (Prod.snd x0))))) fun i => encF rSpan (LoadL.holds (Prod.fst (Prod.snd (Prod.snd x0)))) ((0 : Nat) + i)) (LoadL.all (Prod.fst (Prod.snd (Prod.snd x0)))), decF rInt (List.length (Prod.fst (Prod.snd (Prod.snd (Prod.snd x0))))) fun i => encF rInt (Prod.fst (Prod.snd (Prod.snd (Prod.snd x0)))) ((0 : Nat) + i), Prod.fst (Prod.snd (Prod.snd (Prod.snd (Prod.snd x0)))), decF rInt (List.length (Prod.fst (Prod.snd (Prod.snd (Prod.snd (Prod.snd (Prod.snd x0))))))) (encF rInt (Prod.fst (Prod.snd (Prod.snd (Prod.snd (Prod.snd (Prod.snd x0))))))), (0 : Int), (0 : Nat), decF rInt (0 : Nat) fun x x_1 => AV.top, false, PUnit.unit)) fun x1 =>
        .sum (x1) (fun x2 =>
          .ret ((Prod.fst (Prod.snd (Prod.snd (Prod.snd (Prod.snd (Prod.snd (Prod.snd x2)))))), decF rInt (List.length (Prod.fst (Prod.snd (Prod.snd (Prod.snd (Prod.snd (Prod.snd (Prod.snd (Prod.snd (Prod.snd x2)))))))))) fun i => encF rInt (Prod.fst (Prod.snd (Prod.snd (Prod.snd (Prod.snd (Prod.snd (Prod.snd (Prod.snd (Prod.snd x2))))))))) ((0 : Nat) + i), (0 : Int)))) (fun _ =>
          .fail))) := fun a => by kernel_rfl
noncomputable def K.Deepest (a : Ship × LoadL) : Option (Int × List Int × Int) := T.run (
  .chk (decide (List.length (decF rSpan (List.length (LoadL.holds (Prod.snd a))) fun i => encF rSpan (LoadL.holds (Prod.snd a)) ((0 : Nat) + i)) ≤ (1000000 : Nat))) <|
  .br (checkLoad (Prod.fst a, LoadL.mk (decF rSpan (List.length (LoadL.holds (Prod.snd a))) fun i => encF rSpan (LoadL.holds (Prod.snd a)) ((0 : Nat) + i)) (LoadL.all (Prod.snd a))) != (0 : Int)) (
    .ret (((0 : Int), [], checkLoad (Prod.fst a, LoadL.mk (decF rSpan (List.length (LoadL.holds (Prod.snd a))) fun i => encF rSpan (LoadL.holds (Prod.snd a)) ((0 : Nat) + i)) (LoadL.all (Prod.snd a)))))) (
    .chk (decide (len (Ship.holds (Prod.fst a)) ≤ (1000000 : Nat))) <|
    .obs (L_d57 ((decF rInt (List.length (colH (Prod.fst a) (2 : Nat) (len (Ship.holds (Prod.fst a))))) fun i => encF rInt (colH (Prod.fst a) (2 : Nat) (len (Ship.holds (Prod.fst a)))) ((0 : Nat) + i), (↑(clampL (List.length (colH (Prod.fst a) (2 : Nat) (len (Ship.holds (Prod.fst a)))))) : Int), (0 : Int)), Prod.fst a, LoadL.mk (decF rSpan (List.length (LoadL.holds (Prod.snd a))) fun i => encF rSpan (LoadL.holds (Prod.snd a)) ((0 : Nat) + i)) (LoadL.all (Prod.snd a)), decF rInt (List.length (colH (Prod.fst a) (2 : Nat) (len (Ship.holds (Prod.fst a))))) fun i => encF rInt (colH (Prod.fst a) (2 : Nat) (len (Ship.holds (Prod.fst a)))) ((0 : Nat) + i), (0 : Nat), decF rInt (0 : Nat) fun x x_1 => AV.top, PUnit.unit)) fun x0 =>
      .chk (eachB (LoadL.mk (decF rSpan (List.length (decF rSpan (List.length (LoadL.holds (Prod.fst (Prod.snd (Prod.snd x0))))) fun i => encF rSpan (LoadL.holds (Prod.fst (Prod.snd (Prod.snd x0)))) ((0 : Nat) + i))) fun i => encF rSpan (decF rSpan (List.length (LoadL.holds (Prod.fst (Prod.snd (Prod.snd x0))))) fun i => encF rSpan (LoadL.holds (Prod.fst (Prod.snd (Prod.snd x0)))) ((0 : Nat) + i)) ((0 : Nat) + i)) (LoadL.all (Prod.fst (Prod.snd (Prod.snd x0)))))) <|
      .obs (F_d113 (LoadL.mk (decF rSpan (List.length (decF rSpan (List.length (LoadL.holds (Prod.fst (Prod.snd (Prod.snd x0))))) fun i => encF rSpan (LoadL.holds (Prod.fst (Prod.snd (Prod.snd x0)))) ((0 : Nat) + i))) fun i => encF rSpan (decF rSpan (List.length (LoadL.holds (Prod.fst (Prod.snd (Prod.snd x0))))) fun i => encF rSpan (LoadL.holds (Prod.fst (Prod.snd (Prod.snd x0)))) ((0 : Nat) + i)) ((0 : Nat) + i)) (LoadL.all (Prod.fst (Prod.snd (Prod.snd x0)))), Prod.fst (Prod.snd x0), LoadL.mk (decF rSpan (List.length (LoadL.holds (Prod.fst (Prod.snd (Prod.snd x0))))) fun i => encF rSpan (LoadL.holds (Prod.fst (Prod.snd (Prod.snd x0)))) ((0 : Nat) + i)) (LoadL.all (Prod.fst (Prod.snd (Prod.snd x0)))), decF rInt (List.length (Prod.fst (Prod.snd (Prod.snd (Prod.snd x0))))) fun i => encF rInt (Prod.fst (Prod.snd (Prod.snd (Prod.snd x0)))) ((0 : Nat) + i), Prod.fst (Prod.snd (Prod.snd (Prod.snd (Prod.snd x0)))), decF rInt (List.length (Prod.fst (Prod.snd (Prod.snd (Prod.snd (Prod.snd (Prod.snd x0))))))) (encF rInt (Prod.fst (Prod.snd (Prod.snd (Prod.snd (Prod.snd (Prod.snd x0))))))), (0 : Int), (0 : Nat), decF rInt (0 : Nat) fun x x_1 => AV.top, false, PUnit.unit)) fun x1 =>
        .sum (x1) (fun x2 =>
          .ret ((Prod.fst (Prod.snd (Prod.snd (Prod.snd (Prod.snd (Prod.snd (Prod.snd x2)))))), decF rInt (List.length (Prod.fst (Prod.snd (Prod.snd (Prod.snd (Prod.snd (Prod.snd (Prod.snd (Prod.snd (Prod.snd x2)))))))))) fun i => encF rInt (Prod.fst (Prod.snd (Prod.snd (Prod.snd (Prod.snd (Prod.snd (Prod.snd (Prod.snd (Prod.snd x2))))))))) ((0 : Nat) + i), (0 : Int)))) (fun _ =>
          .fail)))
theorem eq_Deepest (a : Ship × LoadL) : (callT1 P BKLob3 30 106 D_cl R_deep) a = K.Deepest a := fn_Deepest a
noncomputable def BKLob4 : Tab := BKLob3.addCall 106 (callE D_cl R_deep (fun a => .obs (K.Deepest a) .ret))
theorem tKLob4 : TabOk P BKLob4 := TabOk.addFn (d := 30) okP tKLob3 (fun a r h => by rw [eq_Deepest]; exact obs_ret h)
def D_clr := DecL.cons dShip (.cons dLoadL (.cons (dI .i64) (.last (dI .i64) 0)))
def R_bi := dTup (.cons dB (.last (dI .i64) 0))
theorem fn_Clear : ∀ a, (callT1 P BKLob4 30 45 D_clr R_bi) a = T.run (
  .obs (Deepest (Prod.fst a, LoadL.mk (decF rSpan (List.length (LoadL.holds (Prod.fst (Prod.snd a)))) fun i => encF rSpan (LoadL.holds (Prod.fst (Prod.snd a))) ((0 : Nat) + i)) (LoadL.all (Prod.fst (Prod.snd a))))) fun x0 =>
    .br (Prod.snd (Prod.snd x0) != (0 : Int)) (
      .ret ((false, Prod.snd (Prod.snd x0)))) (
      .br (!within (Prod.fst (Prod.snd (Prod.snd a))) (0 : Int) (65536 : Int)) (
        .ret ((false, (1 : Int)))) (
        .br (!within (Prod.snd (Prod.snd (Prod.snd a))) (0 : Int) (5000 : Int)) (
          .ret ((false, (1 : Int)))) (
          .ret ((decide (IntKind.wrap IntKind.i64 (Prod.fst x0 + Prod.snd (Prod.snd (Prod.snd a))) ≤ Prod.fst (Prod.snd (Prod.snd a))), (0 : Int))))))) := fun a => by kernel_rfl
noncomputable def K.Clear (a : Ship × LoadL × Int × Int) : Option (Bool × Int) := T.run (
  .obs (Deepest (Prod.fst a, LoadL.mk (decF rSpan (List.length (LoadL.holds (Prod.fst (Prod.snd a)))) fun i => encF rSpan (LoadL.holds (Prod.fst (Prod.snd a))) ((0 : Nat) + i)) (LoadL.all (Prod.fst (Prod.snd a))))) fun x0 =>
    .br (Prod.snd (Prod.snd x0) != (0 : Int)) (
      .ret ((false, Prod.snd (Prod.snd x0)))) (
      .br (!within (Prod.fst (Prod.snd (Prod.snd a))) (0 : Int) (65536 : Int)) (
        .ret ((false, (1 : Int)))) (
        .br (!within (Prod.snd (Prod.snd (Prod.snd a))) (0 : Int) (5000 : Int)) (
          .ret ((false, (1 : Int)))) (
          .ret ((decide (IntKind.wrap IntKind.i64 (Prod.fst x0 + Prod.snd (Prod.snd (Prod.snd a))) ≤ Prod.fst (Prod.snd (Prod.snd a))), (0 : Int)))))))
theorem eq_Clear (a : Ship × LoadL × Int × Int) : (callT1 P BKLob4 30 45 D_clr R_bi) a = K.Clear a := fn_Clear a
noncomputable def BKLob5 : Tab := BKLob4.addCall 45 (callE D_clr R_bi (fun a => .obs (K.Clear a) .ret))
theorem tKLob5 : TabOk P BKLob5 := TabOk.addFn (d := 30) okP tKLob4 (fun a r h => by rw [eq_Clear]; exact obs_ret h)
def D_rel := DecL.cons dShip (.cons dBulbs (.cons xSurveys (.cons (dI .i64) (.last (dI .i64) 0))))
theorem fn_Release : ∀ a, (callT1 P BKLob5 30 14 D_rel R_bi) a = T.run (
  .obs (sLoad (Prod.fst a, Prod.fst (Prod.snd a), Prod.fst (Prod.snd (Prod.snd a)))) fun x0 =>
    .br (Prod.snd x0 != (0 : Int)) (
      .ret ((false, Prod.snd x0))) (
      .obs (Steady (Prod.fst a, LoadL.mk (decF rSpan (List.length (LoadL.holds (Prod.fst x0))) fun i => encF rSpan (LoadL.holds (Prod.fst x0)) ((0 : Nat) + i)) (LoadL.all (Prod.fst x0)))) fun x1 =>
        .br (Prod.snd (Prod.snd x1) != (0 : Int)) (
          .ret ((false, Prod.snd (Prod.snd x1)))) (
          .obs (Clear (Prod.fst a, LoadL.mk (decF rSpan (List.length (LoadL.holds (Prod.fst x0))) fun i => encF rSpan (LoadL.holds (Prod.fst x0)) ((0 : Nat) + i)) (LoadL.all (Prod.fst x0)), Prod.snd (Prod.snd (Prod.snd a)))) fun x2 =>
            .br (Prod.snd x2 != (0 : Int)) (
              .ret ((false, Prod.snd x2))) (
              .br (Prod.fst (Prod.snd x1)) (
                .ret ((Prod.fst x2, (0 : Int)))) (
                .ret ((false, (0 : Int)))))))) := fun a => by kernel_rfl
noncomputable def K.Release (a : Ship × Bulbs × XS × Int × Int) : Option (Bool × Int) := T.run (
  .obs (sLoad (Prod.fst a, Prod.fst (Prod.snd a), Prod.fst (Prod.snd (Prod.snd a)))) fun x0 =>
    .br (Prod.snd x0 != (0 : Int)) (
      .ret ((false, Prod.snd x0))) (
      .obs (Steady (Prod.fst a, LoadL.mk (decF rSpan (List.length (LoadL.holds (Prod.fst x0))) fun i => encF rSpan (LoadL.holds (Prod.fst x0)) ((0 : Nat) + i)) (LoadL.all (Prod.fst x0)))) fun x1 =>
        .br (Prod.snd (Prod.snd x1) != (0 : Int)) (
          .ret ((false, Prod.snd (Prod.snd x1)))) (
          .obs (Clear (Prod.fst a, LoadL.mk (decF rSpan (List.length (LoadL.holds (Prod.fst x0))) fun i => encF rSpan (LoadL.holds (Prod.fst x0)) ((0 : Nat) + i)) (LoadL.all (Prod.fst x0)), Prod.snd (Prod.snd (Prod.snd a)))) fun x2 =>
            .br (Prod.snd x2 != (0 : Int)) (
              .ret ((false, Prod.snd x2))) (
              .br (Prod.fst (Prod.snd x1)) (
                .ret ((Prod.fst x2, (0 : Int)))) (
                .ret ((false, (0 : Int))))))))
theorem eq_Release (a : Ship × Bulbs × XS × Int × Int) : (callT1 P BKLob5 30 14 D_rel R_bi) a = K.Release a := fn_Release a
noncomputable def BKLob6 : Tab := BKLob5.addCall 14 (callE D_rel R_bi (fun a => .obs (K.Release a) .ret))
theorem tKLob6 : TabOk P BKLob6 := TabOk.addFn (d := 30) okP tKLob5 (fun a r h => by rw [eq_Release]; exact obs_ret h)
end Go.Proofs.YtjbhooodjmjdkaaGreat
/-! KLr1 -/
namespace Go.Proofs.YtjbhooodjmjdkaaGreat
open Ev K
set_option maxRecDepth 100000
def S_r3sm := DecS.mk0 (.cons (dRows rSpan) (.skip (.unit (dLp 0 0 0 0) (.unit (dLp 1 0 0 0) (.last (dI .i64) 25))))) (.flat 39 lSpan (.flat 39 lSpan .nil))
def X_r3sm := DecX.one (.exit 0) [3, 2] (DecS.mk0 (.skips 2 (.unit (dLp 0 0 0 0) (.unit (dLp 1 0 0 0) (.tops 26)))) (.flat 39 lSpan (.flat 39 lSpan .nil)))
noncomputable def K.st_r3sm := loopT1 P BKLob6 30 157 25 [4, 3, 0, 2] S_r3sm X_r3sm
theorem sl_r3sm : ∀ s, (K.st_r3sm) s = T.run (
  .br (decide (Prod.snd (Prod.fst s) < (↑(clampL (List.length (Prod.fst (Prod.fst s)))) : Int))) (
    .chk (decide ((0 : Int) ≤ Prod.snd (Prod.fst s) ∧ Prod.snd (Prod.fst s) < (↑(List.length (Prod.fst (Prod.fst s))) : Int))) <|
    .chk (decide ((0 : Int) ≤ Prod.snd (Prod.fst s) ∧ Prod.snd (Prod.fst s) < (↑(List.length (Prod.fst (Prod.fst s))) : Int))) <|
    .ret (Sum.inl ((decF rSpan (List.length (Prod.fst (Prod.fst s))) fun i => encF rSpan (Prod.fst (Prod.fst s)) ((0 : Nat) + i), IntKind.wrap IntKind.i64 (Prod.snd (Prod.fst s) + (1 : Int))), Prod.fst (Prod.snd s), Span.mk (IntKind.wrap IntKind.i64 (Span.lo (Prod.fst (Prod.snd (Prod.snd s))) + numOf (encF rSpan (Prod.fst (Prod.fst s)) ((0 : Nat) + Int.toNat (Prod.snd (Prod.fst s))) (nat_lit 0)))) (IntKind.wrap IntKind.i64 (Span.hi (Prod.fst (Prod.snd (Prod.snd s))) + numOf (encF rSpan (Prod.fst (Prod.fst s)) ((0 : Nat) + Int.toNat (Prod.snd (Prod.fst s))) (nat_lit 1)))), PUnit.unit))) (
    .ret (Sum.inr (PUnit.unit, Prod.fst (Prod.snd s), Prod.fst (Prod.snd (Prod.snd s)), PUnit.unit)))) := fun s => by kernel_rfl
noncomputable def K.L_r3sm := lim K.st_r3sm
noncomputable def BKLr11 : Tab := BKLob6.addNode 157 25 (nodeE [4, 3, 0, 2] S_r3sm X_r3sm (fun s => .obs (K.L_r3sm s) .ret))
theorem tKLr11 : TabOk P BKLr11 := TabOk.addLoop (d := 30) okP tKLob6 (by kernel_rfl) (by kernel_rfl) (fun s r h => obs_ret h)
theorem fn_r3sm : ∀ a, (callT1 P BKLr11 30 157 D_sms dSpan) a = T.run (
  .obs (L_r3sm ((decF rSpan (List.length a) fun i => encF rSpan a ((0 : Nat) + i), (0 : Int)), Span.mk (0 : Int) (0 : Int), Span.mk (0 : Int) (0 : Int), PUnit.unit)) fun x0 =>
    .ret (Prod.fst (Prod.snd (Prod.snd x0)))) := fun a => by kernel_rfl
def S_r3to := DecS.mk1 (.cons (dRows rInt) (.skips 2 (.cons (dI .i64) (.last (dI .i64) 13))))
def X_r3to := DecX.one (.exit 0) [3] (DecS.mk1 (.skips 3 (.last (dI .i64) 14)))
noncomputable def K.st_r3to := loopT1 P BKLr11 30 162 25 [4, 0, 3] S_r3to X_r3to
theorem sl_r3to : ∀ s, (K.st_r3to) s = T.run (
  .br (decide (Prod.snd (Prod.snd s) < (↑(clampL (List.length (Prod.fst s))) : Int))) (
    .chk (decide ((0 : Int) ≤ Prod.snd (Prod.snd s) ∧ Prod.snd (Prod.snd s) < (↑(List.length (Prod.fst s)) : Int))) <|
    .ret (Sum.inl (decF rInt (List.length (Prod.fst s)) fun i => encF rInt (Prod.fst s) ((0 : Nat) + i), IntKind.wrap IntKind.i64 (Prod.fst (Prod.snd s) + numOf (encF rInt (Prod.fst s) ((0 : Nat) + Int.toNat (Prod.snd (Prod.snd s))) (0 : Nat))), IntKind.wrap IntKind.i64 (Prod.snd (Prod.snd s) + (1 : Int))))) (
    .ret (Sum.inr (Prod.fst (Prod.snd s))))) := fun s => by kernel_rfl
noncomputable def K.L_r3to := lim K.st_r3to
noncomputable def BKLr12 : Tab := BKLr11.addNode 162 25 (nodeE [4, 0, 3] S_r3to X_r3to (fun s => .obs (K.L_r3to s) .ret))
theorem tKLr12 : TabOk P BKLr12 := TabOk.addLoop (d := 30) okP tKLr11 (by kernel_rfl) (by kernel_rfl) (fun s r h => obs_ret h)
theorem fn_r3to : ∀ a, (callT1 P BKLr12 30 162 D_add (dI .i64)) a = T.run (
  .obs (L_r3to (decF rInt (List.length a) fun i => encF rInt a ((0 : Nat) + i), (0 : Int), (0 : Int))) fun x0 =>
    .ret (x0)) := fun a => by kernel_rfl
def S_r3vl := DecS.mk1 (.cons (dRows rInt) (.cons (dRows rInt) (.skips 3 (.cons (dI .i64) (.last (dI .i64) 18)))))
def X_r3vl := DecX.one (.exit 0) [5] (DecS.mk1 (.skips 5 (.last (dI .i64) 19)))
noncomputable def K.st_r3vl := loopT1 P BKLr12 30 164 25 [6, 1, 0, 5] S_r3vl X_r3vl
theorem sl_r3vl : ∀ s, (K.st_r3vl) s = T.run (
  .br (decide (Prod.snd (Prod.snd (Prod.snd s)) < (↑(clampL (List.length (Prod.fst (Prod.snd s)))) : Int))) (
    .chk (decide ((0 : Int) ≤ Prod.snd (Prod.snd (Prod.snd s)) ∧ Prod.snd (Prod.snd (Prod.snd s)) < (↑(List.length (Prod.fst s)) : Int))) <|
    .chk (decide ((0 : Int) ≤ Prod.snd (Prod.snd (Prod.snd s)) ∧ Prod.snd (Prod.snd (Prod.snd s)) < (↑(List.length (Prod.fst (Prod.snd s))) : Int))) <|
    .ret (Sum.inl (decF rInt (List.length (Prod.fst s)) fun i => encF rInt (Prod.fst s) ((0 : Nat) + i), decF rInt (List.length (Prod.fst (Prod.snd s))) fun i => encF rInt (Prod.fst (Prod.snd s)) ((0 : Nat) + i), IntKind.wrap IntKind.i64 (Prod.fst (Prod.snd (Prod.snd s)) + IntKind.wrap IntKind.i64 (numOf (encF rInt (Prod.fst s) ((0 : Nat) + Int.toNat (Prod.snd (Prod.snd (Prod.snd s)))) (0 : Nat)) * numOf (encF rInt (Prod.fst (Prod.snd s)) ((0 : Nat) + Int.toNat (Prod.snd (Prod.snd (Prod.snd s)))) (0 : Nat)))), IntKind.wrap IntKind.i64 (Prod.snd (Prod.snd (Prod.snd s)) + (1 : Int))))) (
    .ret (Sum.inr (Prod.fst (Prod.snd (Prod.snd s)))))) := fun s => by kernel_rfl
noncomputable def K.L_r3vl := lim K.st_r3vl
noncomputable def BKLr13 : Tab := BKLr12.addNode 164 25 (nodeE [6, 1, 0, 5] S_r3vl X_r3vl (fun s => .obs (K.L_r3vl s) .ret))
theorem tKLr13 : TabOk P BKLr13 := TabOk.addLoop (d := 30) okP tKLr12 (by kernel_rfl) (by kernel_rfl) (fun s r h => obs_ret h)
theorem fn_r3vl : ∀ a, (callT1 P BKLr13 30 164 D_vl (dI .i64)) a = T.run (
  .obs (L_r3vl (decF rInt (List.length (Prod.fst a)) fun i => encF rInt (Prod.fst a) ((0 : Nat) + i), decF rInt (List.length (Prod.snd a)) fun i => encF rInt (Prod.snd a) ((0 : Nat) + i), (0 : Int), (0 : Int))) fun x0 =>
    .ret (x0)) := fun a => by kernel_rfl
def S_r3he := DecS.ghost 3 3 1 [.int .i64] (DecS.mk0 (.skip (.unit (dLp 0 0 0 0) (.skip (.cons (dO 1) (.last (dI .i64) 17))))) (.flat 27 lShip (.rows 3 rInt .nil)))
def X_r3he := DecX.one (.exit 0) [3] (DecS.mk0 (.skips 3 (.last (dO 0) 18)) (.rows 3 rInt .nil))
noncomputable def K.st_r3he := loopT1 P BKLr13 30 110 25 [4, 1, 3] S_r3he X_r3he
theorem sl_r3he : ∀ s, (K.st_r3he) s = T.run (
  .br (decide (Prod.snd (Prod.fst s) < (↑(len (Ship.holds (Prod.fst (Prod.snd s)))) : Int))) (
    .chk (decide ((0 : Int) ≤ Prod.snd (Prod.fst s) ∧ Prod.snd (Prod.fst s) < (↑(XS.len (Ship.holds (Prod.fst (Prod.snd s)))) : Int))) <|
    .chk (decide ((List.length (Prod.fst (Prod.snd (Prod.snd s))) + (1 : Nat)) * (8 : Nat) ≤ (140737488355328 : Nat) ∧ List.length (Prod.fst (Prod.snd (Prod.snd s))) + (1 : Nat) ≤ nat_lit 9223372036854775807)) <|
    .ret (Sum.inl ((List.length (Prod.fst (Prod.snd (Prod.snd s))) + (1 : Nat), IntKind.wrap IntKind.i64 (Prod.snd (Prod.fst s) + (1 : Int))), Prod.fst (Prod.snd s), decF rInt (List.length (Prod.fst (Prod.snd (Prod.snd s))) + (1 : Nat)) (appG (List.length (Prod.fst (Prod.snd (Prod.snd s)))) (encF rInt (Prod.fst (Prod.snd (Prod.snd s)))) fun i k => Option.getD [AV.int IntKind.i64 (XS.g (Ship.holds (Prod.fst (Prod.snd s))) (Int.toNat (Prod.snd (Prod.fst s))) (3 : Nat))][((0 : Nat) + i) * (1 : Nat) + k]? AV.top), PUnit.unit))) (
    .ret (Sum.inr (Prod.fst (Prod.fst s), decF rInt (List.length (Prod.fst (Prod.snd (Prod.snd s)))) (encF rInt (Prod.fst (Prod.snd (Prod.snd s)))), PUnit.unit)))) := fun s => by kernel_rfl
noncomputable def K.L_r3he := lim K.st_r3he
noncomputable def BKLr14 : Tab := BKLr13.addNode 110 25 (nodeE [4, 1, 3] S_r3he X_r3he (fun s => .obs (K.L_r3he s) .ret))
theorem tKLr14 : TabOk P BKLr14 := TabOk.addLoop (d := 30) okP tKLr13 (by kernel_rfl) (by kernel_rfl) (fun s r h => obs_ret h)
theorem fn_r3he : ∀ a, (callT1 P BKLr14 30 110 D_ship (dRows rInt)) a = T.run (
  .obs (L_r3he (((0 : Nat), (0 : Int)), a, decF rInt (0 : Nat) fun x x_1 => AV.top, PUnit.unit)) fun x0 =>
    .ret (decF rInt (List.length (Prod.fst (Prod.snd x0))) fun i => encF rInt (Prod.fst (Prod.snd x0)) ((0 : Nat) + i))) := fun a => by kernel_rfl
def S_r3le := DecS.ghost 5 3 1 [.int .i64] (DecS.mk0 (.skip (.cons (dI .i64) (.unit (dLp 0 0 0 0) (.skips 2 (.cons (dO 1) (.last (dI .i64) 19)))))) (.flat 27 lShip (.rows 3 rInt .nil)))
def X_r3le := DecX.one (.exit 0) [5] (DecS.mk0 (.skips 5 (.last (dO 0) 20)) (.rows 3 rInt .nil))
noncomputable def K.st_r3le := loopT1 P BKLr14 30 166 25 [6, 2, 1, 5] S_r3le X_r3le
theorem sl_r3le : ∀ s, (K.st_r3le) s = T.run (
  .br (decide (Prod.snd (Prod.snd (Prod.fst s)) < (↑(len (Ship.holds (Prod.fst (Prod.snd s)))) : Int))) (
    .chk (decide ((0 : Int) ≤ Prod.snd (Prod.snd (Prod.fst s)) ∧ Prod.snd (Prod.snd (Prod.fst s)) < (↑(XS.len (Ship.holds (Prod.fst (Prod.snd s)))) : Int))) <|
    .chk (decide ((List.length (Prod.fst (Prod.snd (Prod.snd s))) + (1 : Nat)) * (8 : Nat) ≤ (140737488355328 : Nat) ∧ List.length (Prod.fst (Prod.snd (Prod.snd s))) + (1 : Nat) ≤ nat_lit 9223372036854775807)) <|
    .ret (Sum.inl ((Prod.fst (Prod.fst s), List.length (Prod.fst (Prod.snd (Prod.snd s))) + (1 : Nat), IntKind.wrap IntKind.i64 (Prod.snd (Prod.snd (Prod.fst s)) + (1 : Int))), Prod.fst (Prod.snd s), decF rInt (List.length (Prod.fst (Prod.snd (Prod.snd s))) + (1 : Nat)) (appG (List.length (Prod.fst (Prod.snd (Prod.snd s)))) (encF rInt (Prod.fst (Prod.snd (Prod.snd s)))) fun i k => Option.getD [AV.int IntKind.i64 (IntKind.wrap IntKind.i64 (Prod.fst (Prod.fst s) * XS.g (Ship.holds (Prod.fst (Prod.snd s))) (Int.toNat (Prod.snd (Prod.snd (Prod.fst s)))) (2 : Nat)))][((0 : Nat) + i) * (1 : Nat) + k]? AV.top), PUnit.unit))) (
    .ret (Sum.inr (Prod.fst (Prod.snd (Prod.fst s)), decF rInt (List.length (Prod.fst (Prod.snd (Prod.snd s)))) (encF rInt (Prod.fst (Prod.snd (Prod.snd s)))), PUnit.unit)))) := fun s => by kernel_rfl
noncomputable def K.L_r3le := lim K.st_r3le
noncomputable def BKLr15 : Tab := BKLr14.addNode 166 25 (nodeE [6, 2, 1, 5] S_r3le X_r3le (fun s => .obs (K.L_r3le s) .ret))
theorem tKLr15 : TabOk P BKLr15 := TabOk.addLoop (d := 30) okP tKLr14 (by kernel_rfl) (by kernel_rfl) (fun s r h => obs_ret h)
theorem fn_r3le : ∀ a, (callT1 P BKLr15 30 166 D_spare (dRows rInt)) a = T.run (
  .obs (L_r3le ((Prod.snd a, (0 : Nat), (0 : Int)), Prod.fst a, decF rInt (0 : Nat) fun x x_1 => AV.top, PUnit.unit)) fun x0 =>
    .ret (decF rInt (List.length (Prod.fst (Prod.snd x0))) fun i => encF rInt (Prod.fst (Prod.snd x0)) ((0 : Nat) + i))) := fun a => by kernel_rfl
/-! what they are -/
namespace K
theorem L_r3sm_eq (l : List Span) (h : l.length ≤ 1000000) : L_r3sm ((l, 0), ⟨0, 0⟩, ⟨0, 0⟩, ()) = some ((), ⟨0, 0⟩, addS l, ()) := by
  refine lim_fold (fun i a => ((l, (i : Int)), (⟨0, 0⟩ : Span), a, ())) l.length (fun a i => (⟨IntKind.i64.wrap (a.lo + (vS l i).lo), IntKind.i64.wrap (a.hi + (vS l i).hi)⟩ : Span)) (fun a => ((), (⟨0, 0⟩ : Span), a, ())) (fun i hi a => ?_) (fun a => ?_) ⟨0, 0⟩
  · rw [sl_r3sm]
    simp only [decF_enc0]
    refine (T.run_br _ _ _).trans ?_
    rw [if_pos (decide_eq_true (by show (i : Int) < (clampL l.length : Int); rw [clampL_eq (by unfold maxL; omega)]; omega))]
    refine chk_step (decide_eq_true ⟨by omega, by show (i : Int) < (l.length : Int); omega⟩) (chk_step (decide_eq_true ⟨by omega, by show (i : Int) < (l.length : Int); omega⟩) ?_)
    rw [T.run_ret, w64_in (n := (i : Int) + 1) (by omega) (by omega), Int.toNat_natCast, Nat.zero_add]; rfl
  · rw [sl_r3sm]
    refine (T.run_br _ _ _).trans ?_
    rw [if_neg (by rw [decide_eq_true_eq]; show ¬ (l.length : Int) < (clampL l.length : Int); rw [clampL_eq (by unfold maxL; omega)]; omega)]; rfl
theorem r3sm_eq (l : List Span) (h : l.length ≤ 1000000) : callT1 P BKLr11 30 157 D_sms dSpan l = some (addS l) := by
  rw [fn_r3sm, decF_enc0, L_r3sm_eq l h]; rfl
theorem L_r3to_eq (l : List Int) (h : l.length ≤ 1000000) : L_r3to (l, 0, 0) = some (addL l) := by
  refine lim_fold (fun i a => (l, a, (i : Int))) l.length (fun a i => IntKind.i64.wrap (a + vI l i)) id (fun i hi a => ?_) (fun a => ?_) 0
  · rw [sl_r3to]
    simp only [decF_enc0]
    refine (T.run_br _ _ _).trans ?_
    rw [if_pos (decide_eq_true (by show (i : Int) < (clampL l.length : Int); rw [clampL_eq (by unfold maxL; omega)]; omega))]
    refine chk_step (decide_eq_true ⟨by omega, by show (i : Int) < (l.length : Int); omega⟩) ?_
    rw [T.run_ret, w64_in (n := (i : Int) + 1) (by omega) (by omega), Int.toNat_natCast, Nat.zero_add]; rfl
  · rw [sl_r3to]
    refine (T.run_br _ _ _).trans ?_
    rw [if_neg (by rw [decide_eq_true_eq]; show ¬ (l.length : Int) < (clampL l.length : Int); rw [clampL_eq (by unfold maxL; omega)]; omega)]; rfl
theorem r3to_eq (l : List Int) (h : l.length ≤ 1000000) : callT1 P BKLr12 30 162 D_add (dI .i64) l = some (addL l) := by
  rw [fn_r3to, decF_enc0, L_r3to_eq l h]; rfl
def valR (f x : List Int) : Int := (List.range x.length).foldl (fun a i => IntKind.i64.wrap (a + IntKind.i64.wrap (vI f i * vI x i))) 0
theorem L_r3vl_eq (f x : List Int) (h : x.length ≤ 1000000) (hf : x.length ≤ f.length) : L_r3vl (f, x, 0, 0) = some (valR f x) := by
  refine lim_fold (fun i a => (f, x, a, (i : Int))) x.length (fun a i => IntKind.i64.wrap (a + IntKind.i64.wrap (vI f i * vI x i))) id (fun i hi a => ?_) (fun a => ?_) 0
  · rw [sl_r3vl]
    simp only [decF_enc0]
    refine (T.run_br _ _ _).trans ?_
    rw [if_pos (decide_eq_true (by show (i : Int) < (clampL x.length : Int); rw [clampL_eq (by unfold maxL; omega)]; omega))]
    refine chk_step (decide_eq_true ⟨by omega, by show (i : Int) < (f.length : Int); omega⟩) (chk_step (decide_eq_true ⟨by omega, by show (i : Int) < (x.length : Int); omega⟩) ?_)
    rw [T.run_ret, w64_in (n := (i : Int) + 1) (by omega) (by omega), Int.toNat_natCast, Nat.zero_add]; rfl
  · rw [sl_r3vl]
    refine (T.run_br _ _ _).trans ?_
    rw [if_neg (by rw [decide_eq_true_eq]; show ¬ (x.length : Int) < (clampL x.length : Int); rw [clampL_eq (by unfold maxL; omega)]; omega)]; rfl
theorem r3vl_eq (a : List Int × List Int) (h : a.2.length ≤ 1000000) (hf : a.2.length ≤ a.1.length) : callT1 P BKLr13 30 164 D_vl (dI .i64) a = some (valR a.1 a.2) := by
  rw [fn_r3vl, decF_enc0, decF_enc0, L_r3vl_eq a.1 a.2 h hf]; rfl
theorem L_r3he_eq (s : Ship) (h : len s.holds ≤ 1000000) : L_r3he ((0, 0), s, [], ()) = some (len s.holds, colH s 3 (len s.holds), ()) := by
  have e1 := K.len_le s.holds; have e2 := K.len_le' s.holds
  refine lim_all (fun i => ((i, (i : Int)), s, colH s 3 i, ())) (len s.holds) (fun i hi => ?_) ?_
  · rw [sl_r3he]
    simp only [T.run_br, T.run_chk, T.run_ret, decide_eq_true_eq, Int.toNat_natCast, colH_length]
    rw [if_pos (by omega), if_pos (by omega), if_pos (by omega), w64_in (n := (i : Int) + 1) (by omega) (by omega)]
    have := decF_push rInt (colH s 3 i) (fun i_1 k => Option.getD [AV.int IntKind.i64 (XS.g s.holds i 3)][((0 : Nat) + i_1) * (1 : Nat) + k]? AV.top)
    rw [colH_length] at this
    rw [this, colH_succ]; rfl
  · rw [sl_r3he]
    simp only [T.run_br, T.run_ret, decide_eq_true_eq, colH_length]
    rw [if_neg (by omega)]
    have := decF_encF rInt (colH s 3 (len s.holds))
    rw [colH_length] at this
    rw [this]
theorem r3he_eq (s : Ship) (h : len s.holds ≤ 1000000) : callT1 P BKLr14 30 110 D_ship (dRows rInt) s = some (colH s 3 (len s.holds)) := by
  rw [fn_r3he]
  show T.run (.obs (L_r3he ((0, 0), s, [], ())) _) = _
  rw [L_r3he_eq s h, T.run_some, T.run_ret, decF_enc0]
def levR (s : Ship) (g : Int) (n : Nat) : List Int := (List.range n).map fun i => IntKind.i64.wrap (g * s.holds.g i 2)
theorem levR_length (s : Ship) (g : Int) (n : Nat) : (levR s g n).length = n := by simp [levR]
theorem levR_succ (s : Ship) (g : Int) (n : Nat) : levR s g (n + 1) = levR s g n ++ [IntKind.i64.wrap (g * s.holds.g n 2)] := by unfold levR; rw [List.range_succ, List.map_append]; rfl
theorem L_r3le_eq (s : Ship) (g : Int) (h : len s.holds ≤ 1000000) : L_r3le ((g, 0, 0), s, [], ()) = some (len s.holds, levR s g (len s.holds), ()) := by
  have e1 := K.len_le s.holds; have e2 := K.len_le' s.holds
  refine lim_all (fun i => ((g, i, (i : Int)), s, levR s g i, ())) (len s.holds) (fun i hi => ?_) ?_
  · rw [sl_r3le]
    simp only [T.run_br, T.run_chk, T.run_ret, decide_eq_true_eq, Int.toNat_natCast, levR_length]
    rw [if_pos (by omega), if_pos (by omega), if_pos (by omega), w64_in (n := (i : Int) + 1) (by omega) (by omega)]
    have := decF_push rInt (levR s g i) (fun i_1 k => Option.getD [AV.int IntKind.i64 (IntKind.wrap IntKind.i64 (g * XS.g s.holds i 2))][((0 : Nat) + i_1) * (1 : Nat) + k]? AV.top)
    rw [levR_length] at this
    rw [this, levR_succ]; rfl
  · rw [sl_r3le]
    simp only [T.run_br, T.run_ret, decide_eq_true_eq, levR_length]
    rw [if_neg (by omega)]
    have := decF_encF rInt (levR s g (len s.holds))
    rw [levR_length] at this
    rw [this]
theorem r3le_eq (a : Ship × Int) (h : len a.1.holds ≤ 1000000) : callT1 P BKLr15 30 166 D_spare (dRows rInt) a = some (levR a.1 a.2 (len a.1.holds)) := by
  rw [fn_r3le]
  show T.run (.obs (L_r3le ((a.2, 0, 0), a.1, [], ())) _) = _
  rw [L_r3le_eq a.1 a.2 h, T.run_some, T.run_ret, decF_enc0]
end K
noncomputable def BKLr16 : Tab := BKLr15.addCall 157 (callE D_sms dSpan (fun l => .chk (decide (l.length ≤ 1000000)) (.ret (K.addS l))))
theorem tKLr16 : TabOk P BKLr16 := TabOk.addPC tKLr15 (fun a r h => by obtain ⟨g, e⟩ := chk_ret h; subst e; exact call_of okP tKLr11 (K.r3sm_eq a (by simpa using g)))
noncomputable def BKLr17 : Tab := BKLr16.addCall 162 (callE D_add (dI .i64) (fun l => .chk (decide (l.length ≤ 1000000)) (.ret (K.addL l))))
theorem tKLr17 : TabOk P BKLr17 := TabOk.addPC tKLr16 (fun a r h => by obtain ⟨g, e⟩ := chk_ret h; subst e; exact call_of okP tKLr12 (K.r3to_eq a (by simpa using g)))
noncomputable def BKLr18 : Tab := BKLr17.addCall 164 (callE D_vl (dI .i64) (fun a => .chk (decide (a.2.length ≤ 1000000 ∧ a.2.length ≤ a.1.length)) (.ret (K.valR a.1 a.2))))
theorem tKLr18 : TabOk P BKLr18 := TabOk.addPC tKLr17 (fun a r h => by obtain ⟨g, e⟩ := chk_ret h; subst e; have g := of_decide_eq_true g; exact call_of okP tKLr13 (K.r3vl_eq a g.1 g.2))
noncomputable def BKLr19 : Tab := BKLr18.addCall 110 (callE D_ship (dRows rInt) (fun s => .chk (decide (len s.holds ≤ 1000000)) (.ret (K.colH s 3 (len s.holds)))))
theorem tKLr19 : TabOk P BKLr19 := TabOk.addPC tKLr18 (fun a r h => by obtain ⟨g, e⟩ := chk_ret h; subst e; exact call_of okP tKLr14 (K.r3he_eq a (by simpa using g)))
noncomputable def BKLr110 : Tab := BKLr19.addCall 166 (callE D_spare (dRows rInt) (fun a => .chk (decide (len a.1.holds ≤ 1000000)) (.ret (K.levR a.1 a.2 (len a.1.holds)))))
theorem tKLr110 : TabOk P BKLr110 := TabOk.addPC tKLr19 (fun a r h => by obtain ⟨g, e⟩ := chk_ret h; subst e; exact call_of okP tKLr15 (K.r3le_eq a (by simpa using g)))
end Go.Proofs.YtjbhooodjmjdkaaGreat
/-! KLr2 -/
namespace Go.Proofs.YtjbhooodjmjdkaaGreat
open Ev K
set_option maxRecDepth 100000
def lFr : DecL (Int × Int) := .cons (dI .i64) (.last (dI .i64) 0)
def S_rat := DecS.mk0 (.skip (.cons (dI .i64) (.unit (dLp 0 0 0 0) (.skip (.unit (dLp 1 0 0 0) (.last (dI .i64) 79)))))) (.flat 25 lCurve (.flat 59 lFr .nil))
def R_rat := DecS.mk0 (.skips 4 (.unit (dLp 0 0 0 0) (.tops 80))) (.flat 59 lFr .nil)
def X_rat := DecX.or (DecX.one .ret [4] R_rat) (DecX.one (.exit 0) [4] R_rat)
noncomputable def K.st_rat := loopT1 P BKLr110 30 204 17 [4, 1, 5, 2] S_rat X_rat
theorem sl_rat : ∀ s, (K.st_rat) s = T.run (
  .br (decide (Prod.snd (Prod.fst s) < (↑(len (Curve.knots (Prod.fst (Prod.snd s)))) : Int))) (
    .chk (decide ((0 : Int) ≤ Prod.snd (Prod.fst s) ∧ Prod.snd (Prod.fst s) < (↑(XS.len (Curve.knots (Prod.fst (Prod.snd s)))) : Int))) <|
    .br (IntKind.wrap IntKind.i64 (XS.g (Curve.knots (Prod.fst (Prod.snd s))) (Int.toNat (Prod.snd (Prod.fst s))) (0 : Nat) * (40 : Int)) == Prod.fst (Prod.fst s)) (
      .ret (Sum.inr (Sum.inl (PUnit.unit, (XS.g (Curve.knots (Prod.fst (Prod.snd s))) (Int.toNat (Prod.snd (Prod.fst s))) (1 : Nat), (1 : Int)), PUnit.unit)))) (
      .br (decide (IntKind.wrap IntKind.i64 (Prod.snd (Prod.fst s) + (1 : Int)) < (↑(len (Curve.knots (Prod.fst (Prod.snd s)))) : Int))) (
        .br (decide (IntKind.wrap IntKind.i64 (XS.g (Curve.knots (Prod.fst (Prod.snd s))) (Int.toNat (Prod.snd (Prod.fst s))) (0 : Nat) * (40 : Int)) < Prod.fst (Prod.fst s))) (
          .chk (decide ((0 : Int) ≤ IntKind.wrap IntKind.i64 (Prod.snd (Prod.fst s) + (1 : Int)) ∧ IntKind.wrap IntKind.i64 (Prod.snd (Prod.fst s) + (1 : Int)) < (↑(XS.len (Curve.knots (Prod.fst (Prod.snd s)))) : Int))) <|
          .br (decide (Prod.fst (Prod.fst s) < IntKind.wrap IntKind.i64 (XS.g (Curve.knots (Prod.fst (Prod.snd s))) (Int.toNat (IntKind.wrap IntKind.i64 (Prod.snd (Prod.fst s) + (1 : Int)))) (0 : Nat) * (40 : Int)))) (
            .chk (decide ((0 : Int) ≤ IntKind.wrap IntKind.i64 (Prod.snd (Prod.fst s) + (1 : Int)) ∧ IntKind.wrap IntKind.i64 (Prod.snd (Prod.fst s) + (1 : Int)) < (↑(XS.len (Curve.knots (Prod.fst (Prod.snd s)))) : Int))) <|
            .ret (Sum.inr (Sum.inl (PUnit.unit, (IntKind.wrap IntKind.i64 (IntKind.wrap IntKind.i64 (XS.g (Curve.knots (Prod.fst (Prod.snd s))) (Int.toNat (Prod.snd (Prod.fst s))) (1 : Nat) * IntKind.wrap IntKind.i64 ((40 : Int) * IntKind.wrap IntKind.i64 (XS.g (Curve.knots (Prod.fst (Prod.snd s))) (Int.toNat (IntKind.wrap IntKind.i64 (Prod.snd (Prod.fst s) + (1 : Int)))) (0 : Nat) - XS.g (Curve.knots (Prod.fst (Prod.snd s))) (Int.toNat (Prod.snd (Prod.fst s))) (0 : Nat)))) + IntKind.wrap IntKind.i64 (IntKind.wrap IntKind.i64 (XS.g (Curve.knots (Prod.fst (Prod.snd s))) (Int.toNat (IntKind.wrap IntKind.i64 (Prod.snd (Prod.fst s) + (1 : Int)))) (1 : Nat) - XS.g (Curve.knots (Prod.fst (Prod.snd s))) (Int.toNat (Prod.snd (Prod.fst s))) (1 : Nat)) * IntKind.wrap IntKind.i64 (Prod.fst (Prod.fst s) - IntKind.wrap IntKind.i64 ((40 : Int) * XS.g (Curve.knots (Prod.fst (Prod.snd s))) (Int.toNat (Prod.snd (Prod.fst s))) (0 : Nat))))), IntKind.wrap IntKind.i64 ((40 : Int) * IntKind.wrap IntKind.i64 (XS.g (Curve.knots (Prod.fst (Prod.snd s))) (Int.toNat (IntKind.wrap IntKind.i64 (Prod.snd (Prod.fst s) + (1 : Int)))) (0 : Nat) - XS.g (Curve.knots (Prod.fst (Prod.snd s))) (Int.toNat (Prod.snd (Prod.fst s))) (0 : Nat)))), PUnit.unit)))) (
            .ret (Sum.inl ((Prod.fst (Prod.fst s), IntKind.wrap IntKind.i64 (Prod.snd (Prod.fst s) + (1 : Int))), Prod.fst (Prod.snd s), Prod.fst (Prod.snd (Prod.snd s)), PUnit.unit)))) (
          .ret (Sum.inl ((Prod.fst (Prod.fst s), IntKind.wrap IntKind.i64 (Prod.snd (Prod.fst s) + (1 : Int))), Prod.fst (Prod.snd s), Prod.fst (Prod.snd (Prod.snd s)), PUnit.unit)))) (
        .ret (Sum.inl ((Prod.fst (Prod.fst s), IntKind.wrap IntKind.i64 (Prod.snd (Prod.fst s) + (1 : Int))), Prod.fst (Prod.snd s), Prod.fst (Prod.snd (Prod.snd s)), PUnit.unit))))) (
    .ret (Sum.inr (Sum.inr (PUnit.unit, Prod.fst (Prod.snd (Prod.snd s)), PUnit.unit))))) := fun s => by kernel_rfl
noncomputable def K.L_rat := lim K.st_rat
noncomputable def BKLr21 : Tab := BKLr110.addNode 204 17 (nodeE [4, 1, 5, 2] S_rat X_rat (fun s => .obs (K.L_rat s) .ret))
theorem tKLr21 : TabOk P BKLr21 := TabOk.addLoop (d := 30) okP tKLr110 (by kernel_rfl) (by kernel_rfl) (fun s r h => obs_ret h)
def R_fr := dAgg lFr
theorem fn_rAt : ∀ a, (callT1 P BKLr21 30 204 D_at R_fr) a = T.run (
  .obs (L_rat ((Prod.snd a, (0 : Int)), Prod.fst a, ((0 : Int), (0 : Int)), PUnit.unit)) fun x0 =>
    .sum (x0) (fun x1 =>
      .ret (Prod.fst (Prod.snd x1))) (fun _ =>
      .ret (((0 : Int), (1 : Int))))) := fun a => by kernel_rfl
noncomputable def K.rAt (a : Curve × Int) : Option (Int × Int) := T.run (
  .obs (L_rat ((Prod.snd a, (0 : Int)), Prod.fst a, ((0 : Int), (0 : Int)), PUnit.unit)) fun x0 =>
    .sum (x0) (fun x1 =>
      .ret (Prod.fst (Prod.snd x1))) (fun _ =>
      .ret (((0 : Int), (1 : Int)))))
theorem eq_rAt (a : Curve × Int) : (callT1 P BKLr21 30 204 D_at R_fr) a = K.rAt a := fn_rAt a
noncomputable def BKLr22 : Tab := BKLr21.addCall 204 (callE D_at R_fr (fun a => .obs (K.rAt a) .ret))
theorem tKLr22 : TabOk P BKLr22 := TabOk.addFn (d := 30) okP tKLr21 (fun a r h => by rw [eq_rAt]; exact obs_ret h)
theorem fn_rDisp : ∀ a, (callT1 P BKLr22 30 203 D_sl (dI .i64)) a = T.run (
  .chk (decide (List.length (decF rInt (List.length (Prod.snd a)) fun i => encF rInt (Prod.snd a) ((0 : Nat) + i)) ≤ (1000000 : Nat))) <|
  .ret (IntKind.wrap IntKind.i64 (Ship.light (Prod.fst a) + K.addL (decF rInt (List.length (Prod.snd a)) fun i => encF rInt (Prod.snd a) ((0 : Nat) + i))))) := fun a => by kernel_rfl
noncomputable def K.rDisp (a : Ship × List Int) : Option (Int) := T.run (
  .chk (decide (List.length (decF rInt (List.length (Prod.snd a)) fun i => encF rInt (Prod.snd a) ((0 : Nat) + i)) ≤ (1000000 : Nat))) <|
  .ret (IntKind.wrap IntKind.i64 (Ship.light (Prod.fst a) + K.addL (decF rInt (List.length (Prod.snd a)) fun i => encF rInt (Prod.snd a) ((0 : Nat) + i)))))
theorem eq_rDisp (a : Ship × List Int) : (callT1 P BKLr22 30 203 D_sl (dI .i64)) a = K.rDisp a := fn_rDisp a
noncomputable def BKLr23 : Tab := BKLr22.addCall 203 (callE D_sl (dI .i64) (fun a => .obs (K.rDisp a) .ret))
theorem tKLr23 : TabOk P BKLr23 := TabOk.addFn (d := 30) okP tKLr22 (fun a r h => by rw [eq_rDisp]; exact obs_ret h)
end Go.Proofs.YtjbhooodjmjdkaaGreat
