/- Parts of the proof, one behind the other: LD1, LD2, LD3, LD4, EvT, LS1, LS2, LS3, LS4, LS5. No conditions. -/
import Derived.Test.YtelpdkojdfnmiaaGreatCh9
/-! LD1 -/
namespace Go.Proofs.YtelpdkojdfnmiaaGreat
open Ev K
set_option maxRecDepth 100000
def F_bal : Dec Unit := dFn 104 (.unit (dLp 0 0 0 0) (.tops 0))
def O_sum : DecB (Int × List (Int × Int) × Unit) := .flat 3 (.last dInt 0) (.maps 75 false rPII .nil)
def O_sum1 : DecB (List (Int × Int) × Unit) := .maps 75 false rPII .nil
def S_sum := DecS.rnd (.skip (.unit F_bal (.skips 3 (.unit (dMp 1) (.skips 5 (.cons (dRows rPost) (.cons dInt (.last dInt 18)))))))) O_sum (.tops 11)
def X_sum := DecX.one (.exit 0) [5] (DecS.rnd (.skips 5 (.unit (dMp 0) (.tops 26))) O_sum1 (.tops 11))
noncomputable def K.st_sum := loopT1 P BLD03 30 103 25 [13, 5, 1, 11, 12] S_sum X_sum
theorem sl_sum : ∀ s, (K.st_sum) s = T.run (
  .br (decide (s.1.2.2 < s.1.2.1)) (
    .chk (decide ((0 : Int) ≤ s.1.2.2 ∧ s.1.2.2 < (↑(List.length s.1.1) : Int))) <|
    .br (decide (numOf (encF rPost s.1.1 ((0 : Nat) + Int.toNat s.1.2.2) (nat_lit 1)) ≤ s.2.1.1)) (
      .ret (Sum.inl ((decF rPost (List.length s.1.1) fun i => encF rPost s.1.1 ((0 : Nat) + i), s.1.2.1, IntKind.wrap IntKind.i64 (s.1.2.2 + (1 : Int))), (s.2.1.1, decF rPII (mputN (mfind (Get.mk [CK.int IntKind.i64, CK.int IntKind.i64] (encF rPII s.2.1.2.1)) (AV.int IntKind.i64 (numOf (encF rPost s.1.1 ((0 : Nat) + Int.toNat s.1.2.2) (nat_lit 2)))) (List.length s.2.1.2.1)) (List.length s.2.1.2.1)) (Get.f (mputG (Get.mk [CK.int IntKind.i64, CK.int IntKind.i64] (encF rPII s.2.1.2.1)) (mputP (mfind (Get.mk [CK.int IntKind.i64, CK.int IntKind.i64] (encF rPII s.2.1.2.1)) (AV.int IntKind.i64 (numOf (encF rPost s.1.1 ((0 : Nat) + Int.toNat s.1.2.2) (nat_lit 2)))) (List.length s.2.1.2.1)) (List.length s.2.1.2.1)) [AV.int IntKind.i64 (numOf (encF rPost s.1.1 ((0 : Nat) + Int.toNat s.1.2.2) (nat_lit 2))), AV.int IntKind.i64 (IntKind.wrap IntKind.i64 (numOf (mraw (Get.mk [CK.int IntKind.i64, CK.int IntKind.i64] (encF rPII s.2.1.2.1)) (mfind (Get.mk [CK.int IntKind.i64, CK.int IntKind.i64] (encF rPII s.2.1.2.1)) (AV.int IntKind.i64 (numOf (encF rPost s.1.1 ((0 : Nat) + Int.toNat s.1.2.2) (nat_lit 2)))) (List.length s.2.1.2.1)) (AV.int IntKind.i64 (0 : Int)) (1 : Nat)) + numOf (encF rPost s.1.1 ((0 : Nat) + Int.toNat s.1.2.2) (nat_lit 3))))])), PUnit.unit), PUnit.unit))) (
      .ret (Sum.inl ((decF rPost (List.length s.1.1) fun i => encF rPost s.1.1 ((0 : Nat) + i), s.1.2.1, IntKind.wrap IntKind.i64 (s.1.2.2 + (1 : Int))), (s.2.1.1, decF rPII (List.length s.2.1.2.1) (encF rPII s.2.1.2.1), PUnit.unit), PUnit.unit)))) (
    .ret (Sum.inr (PUnit.unit, (decF rPII (List.length s.2.1.2.1) (encF rPII s.2.1.2.1), PUnit.unit), PUnit.unit)))) := fun s => by kernel_rfl
noncomputable def K.L_sum := lim K.st_sum
noncomputable def BLD11 : Tab := BLD03.addNode 103 25 (nodeE [13, 5, 1, 11, 12] S_sum X_sum (fun s => .obs (K.L_sum s) .ret))
theorem tLD11 : TabOk P BLD11 := TabOk.addLoop (d := 30) okP tLD03 (by kernel_rfl) (by kernel_rfl) (fun s r h => obs_ret h)
theorem fn_bal : ∀ a, (callT1 P BLD11 30 66 D_bal (dXm rPII)) a = T.run (
  .obs (L_sum ((decF rPost (List.length a.1) fun i => encF rPost a.1 ((0 : Nat) + i), (↑(clampL (List.length a.1)) : Int), (0 : Int)), (a.2, decF rPII (0 : Nat) fun x x_1 => AV.top, PUnit.unit), PUnit.unit)) fun x0 =>
    .ret (decF rPII (List.length x0.2.1.1) (encF rPII x0.2.1.1))) := fun a => by kernel_rfl
end Go.Proofs.YtelpdkojdfnmiaaGreat
/-! LD2 -/
namespace Go.Proofs.YtelpdkojdfnmiaaGreat
open Ev K
set_option maxRecDepth 100000
namespace K
theorem post_at {l : List Pst} {i : Nat} {x : Pst} (h : l[i]? = some x) : encF rPost l i = rPost.wr x := encF_at h
theorem pw0 (x : Pst) : numOf (rPost.wr x 0) = x.item := rfl
theorem pw1 (x : Pst) : numOf (rPost.wr x 1) = x.day := rfl
theorem pw2 (x : Pst) : numOf (rPost.wr x 2) = x.account := rfl
theorem pw3 (x : Pst) : numOf (rPost.wr x 3) = x.amount := rfl
def addM (m : List (Int × Int)) (n v : Int) : List (Int × Int) := putM m n (lookM m n + v)
def sumStep (behind : Int) (m : List (Int × Int)) (p : Pst) : List (Int × Int) := if p.day ≤ behind then addM m p.account p.amount else m
def sumP (l : List Pst) (behind : Int) : List (Int × Int) := l.foldl (sumStep behind) []
def amtOk (v : Int) : Prop := -16777216 ≤ v ∧ v ≤ 16777216
instance (v : Int) : Decidable (amtOk v) := by unfold amtOk; infer_instance
theorem lookM_abs {m : List (Int × Int)} {N : Int} (hN : 0 ≤ N) (h : ∀ p ∈ m, -N ≤ p.2 ∧ p.2 ≤ N) (n : Int) : -N ≤ lookM m n ∧ lookM m n ≤ N := by
  unfold lookM
  split
  · rename_i i hi
    have hlt := fM_some hi
    have := h m[i] (List.getElem_mem hlt)
    rw [List.getD_eq_getElem?_getD, List.getElem?_eq_getElem hlt]; exact this
  · omega
theorem L_sum_eq {l : List Pst} (hl : l.length ≤ 1000) (ha : ∀ p ∈ l, amtOk p.amount) (behind : Int) : ∀ (d i : Nat) (m : List (Int × Int)), i + d = l.length → (∀ p ∈ m, -((i : Int) * 16777216) ≤ p.2 ∧ p.2 ≤ (i : Int) * 16777216) →
    L_sum ((l, (l.length : Int), (i : Int)), (behind, m, ()), ()) = some ((), ((l.drop i).foldl (sumStep behind) m, ()), ())
  | 0, i, m, h, hm => by
    refine lim_done ?_
    rw [sl_sum]
    simp only [decF_encF]
    refine br_f (decide_eq_false (by omega)) ?_
    rw [List.drop_of_length_le (by omega)]; rfl
  | d + 1, i, m, h, hm => by
    have hi : i < l.length := by omega
    have hx := List.getElem?_eq_getElem hi
    have hmem := List.getElem_mem hi
    have hdrop := List.drop_eq_getElem_cons hi
    generalize l[i] = x at hx hmem hdrop
    have hb := ha x hmem
    unfold amtOk at hb
    have hk := lookM_abs (N := (i : Int) * 16777216) (by omega) hm x.account
    have w : IntKind.i64.wrap ((i : Int) + 1) = ((i + 1 : Nat) : Int) := by rw [w64_in (by omega) (by omega)]; rfl
    have w2 : IntKind.i64.wrap (lookM m x.account + x.amount) = lookM m x.account + x.amount := w64_in (by omega) (by omega)
    have step : st_sum ((l, (l.length : Int), (i : Int)), (behind, m, ()), ()) = some (.inl ((l, (l.length : Int), ((i + 1 : Nat) : Int)), (behind, sumStep behind m x, ()), ())) := by
      rw [sl_sum]
      simp only [Int.toNat_natCast, Nat.zero_add, post_at hx, pw1, pw2, pw3, decF_encF, w, find_M, raw_M, put_M, w2]
      refine br_t (decide_eq_true (by omega)) (chk_step (decide_eq_true (by omega)) ?_)
      unfold sumStep
      by_cases hd : x.day ≤ behind
      · rw [if_pos hd]; exact br_t (decide_eq_true hd) rfl
      · rw [if_neg hd]; exact br_f (decide_eq_false hd) rfl
    refine (lim_step step).trans ?_
    rw [hdrop, List.foldl_cons]
    refine L_sum_eq hl ha behind d (i + 1) _ (by omega) ?_
    intro p hp
    unfold sumStep at hp
    split at hp
    · exact putM_all (Q := fun p => -(((i + 1 : Nat) : Int) * 16777216) ≤ p.2 ∧ p.2 ≤ ((i + 1 : Nat) : Int) * 16777216) (fun p h1 => by have := hm p h1; omega) (by show _ ≤ lookM m x.account + x.amount ∧ lookM m x.account + x.amount ≤ _; omega) p hp
    · have := hm p hp; omega
theorem bal_eq (l : List Pst) (behind : Int) (hl : l.length ≤ 1000) (ha : ∀ p ∈ l, amtOk p.amount) : callT1 P BLD11 30 66 D_bal (dXm rPII) (l, behind) = some (sumP l behind) := by
  rw [fn_bal]
  simp only [decF_enc0, clampL_eq (show l.length ≤ maxL by unfold maxL; omega)]
  refine obs_step (L_sum_eq hl ha behind l.length 0 [] (by omega) (fun p hp => by cases hp)) ?_
  simp only [decF_encF, List.drop_zero]; rfl
def balOk (l : List Pst) : Bool := decide (l.length ≤ 1000 ∧ ∀ p ∈ l, amtOk p.amount)
def M_bal (a : List Pst × Int) : T (List (Int × Int)) := .chk (balOk a.1) (.ret (sumP a.1 a.2))
theorem bal_pc (a : List Pst × Int) (r : List (Int × Int)) (h : (M_bal a).run = some r) : PC P 66 (D_bal.enc a) ((dXm rPII).enc r) := by
  obtain ⟨g, e⟩ := chk_ret h
  subst e
  have g := of_decide_eq_true g
  exact call_of okP tLD11 (bal_eq a.1 a.2 g.1 g.2)
end K
noncomputable def BLD21 : Tab := BLD11.addCall 66 (callE D_bal (dXm rPII) K.M_bal)
theorem tLD21 : TabOk P BLD21 := TabOk.addPC tLD11 (K.bal_pc)
def R_pe := dTup (.cons (dRows rPost) (.last dInt 0))
def R_be := dTup (.cons (dRows rBal) (.last dInt 0))
def R_ie := dTup (.cons (dRows rItem) (.last dInt 0))
def R_ne := dTup (.cons (dRows rInt) (.last dInt 0))
def R_ce := dTup (.cons (dRows rChg) (.last dInt 0))
def D_l3 := DecL.cons (dRows rItem) (.cons dInt (.last dInt 0))
def D_l4 := DecL.cons (dRows rItem) (.cons dInt (.cons dInt (.last dInt 0)))
end Go.Proofs.YtelpdkojdfnmiaaGreat
/-! LD3 -/
namespace Go.Proofs.YtelpdkojdfnmiaaGreat
open Ev K
set_option maxRecDepth 100000
theorem fn_lsorted : ∀ a, (callT1 P BLD21 30 51 D_l R_ie) a = T.run (
  .br (checkV (decF rItem (List.length a) fun i => encF rItem a ((0 : Nat) + i)) != (0 : Int)) (
    .ret (([], checkV (decF rItem (List.length a) fun i => encF rItem a ((0 : Nat) + i))))) (
    .chk (decide (List.length (decF rItem (List.length a) fun i => encF rItem a ((0 : Nat) + i)) ≤ (1000000 : Nat))) <|
    .ret ((decF rItem (List.length (srt (decF rItem (List.length a) fun i => encF rItem a ((0 : Nat) + i)))) fun i => encF rItem (srt (decF rItem (List.length a) fun i => encF rItem a ((0 : Nat) + i))) ((0 : Nat) + i), (0 : Int))))) := fun a => by kernel_rfl
theorem fn_postings : ∀ a, (callT1 P BLD21 30 20 D_ln R_pe) a = T.run (
  .chk (decide (nat_lit 1 ≤ (1000 : Nat))) <|
  .br (askedV (decF rItem (List.length a.1) fun i => encF rItem a.1 ((0 : Nat) + i)) (decF rInt (1 : Nat) fun i k => Option.getD [AV.int IntKind.i64 a.2][((0 : Nat) + i) * (1 : Nat) + k]? AV.top) != (0 : Int)) (
    .ret (([], askedV (decF rItem (List.length a.1) fun i => encF rItem a.1 ((0 : Nat) + i)) (decF rInt (1 : Nat) fun i k => Option.getD [AV.int IntKind.i64 a.2][((0 : Nat) + i) * (1 : Nat) + k]? AV.top)))) (
    .chk (rdOk (decF rItem (List.length a.1) fun i => encF rItem a.1 ((0 : Nat) + i))) <|
    .ret ((decF rPost (List.length (Bk.posts (readB (decF rItem (List.length a.1) fun i => encF rItem a.1 ((0 : Nat) + i)) a.2))) fun i => encF rPost (Bk.posts (readB (decF rItem (List.length a.1) fun i => encF rItem a.1 ((0 : Nat) + i)) a.2)) ((0 : Nat) + i), (0 : Int))))) := fun a => by kernel_rfl
theorem fn_refused : ∀ a, (callT1 P BLD21 30 26 D_ln R_ne) a = T.run (
  .chk (decide (nat_lit 1 ≤ (1000 : Nat))) <|
  .br (askedV (decF rItem (List.length a.1) fun i => encF rItem a.1 ((0 : Nat) + i)) (decF rInt (1 : Nat) fun i k => Option.getD [AV.int IntKind.i64 a.2][((0 : Nat) + i) * (1 : Nat) + k]? AV.top) != (0 : Int)) (
    .ret (([], askedV (decF rItem (List.length a.1) fun i => encF rItem a.1 ((0 : Nat) + i)) (decF rInt (1 : Nat) fun i k => Option.getD [AV.int IntKind.i64 a.2][((0 : Nat) + i) * (1 : Nat) + k]? AV.top)))) (
    .chk (rdOk (decF rItem (List.length a.1) fun i => encF rItem a.1 ((0 : Nat) + i))) <|
    .ret ((decF rInt (List.length (Bk.refused (readB (decF rItem (List.length a.1) fun i => encF rItem a.1 ((0 : Nat) + i)) a.2))) fun i => encF rInt (Bk.refused (readB (decF rItem (List.length a.1) fun i => encF rItem a.1 ((0 : Nat) + i)) a.2)) ((0 : Nat) + i), (0 : Int))))) := fun a => by kernel_rfl
theorem fn_closed : ∀ a, (callT1 P BLD21 30 27 D_ln R_ii) a = T.run (
  .chk (decide (nat_lit 1 ≤ (1000 : Nat))) <|
  .br (askedV (decF rItem (List.length a.1) fun i => encF rItem a.1 ((0 : Nat) + i)) (decF rInt (1 : Nat) fun i k => Option.getD [AV.int IntKind.i64 a.2][((0 : Nat) + i) * (1 : Nat) + k]? AV.top) != (0 : Int)) (
    .ret (((0 : Int), askedV (decF rItem (List.length a.1) fun i => encF rItem a.1 ((0 : Nat) + i)) (decF rInt (1 : Nat) fun i k => Option.getD [AV.int IntKind.i64 a.2][((0 : Nat) + i) * (1 : Nat) + k]? AV.top)))) (
    .chk (rdOk (decF rItem (List.length a.1) fun i => encF rItem a.1 ((0 : Nat) + i))) <|
    .ret ((Bk.closed (readB (decF rItem (List.length a.1) fun i => encF rItem a.1 ((0 : Nat) + i)) a.2), (0 : Int))))) := fun a => by kernel_rfl
theorem fn_hold : ∀ a, (callT1 P BLD21 30 23 D_l4 R_ii) a = T.run (
  .chk (decide (nat_lit 2 ≤ (1000 : Nat))) <|
  .br (askedV (decF rItem (List.length a.1) fun i => encF rItem a.1 ((0 : Nat) + i)) (decF rInt (2 : Nat) fun i k => Option.getD [AV.int IntKind.i64 a.2.2.1, AV.int IntKind.i64 a.2.2.2][((0 : Nat) + i) * (1 : Nat) + k]? AV.top) != (0 : Int)) (
    .br (askedV (decF rItem (List.length a.1) fun i => encF rItem a.1 ((0 : Nat) + i)) (decF rInt (2 : Nat) fun i k => Option.getD [AV.int IntKind.i64 a.2.2.1, AV.int IntKind.i64 a.2.2.2][((0 : Nat) + i) * (1 : Nat) + k]? AV.top) != (0 : Int)) (
      .ret (((0 : Int), askedV (decF rItem (List.length a.1) fun i => encF rItem a.1 ((0 : Nat) + i)) (decF rInt (2 : Nat) fun i k => Option.getD [AV.int IntKind.i64 a.2.2.1, AV.int IntKind.i64 a.2.2.2][((0 : Nat) + i) * (1 : Nat) + k]? AV.top)))) (
      .chk (rdOk (decF rItem (List.length a.1) fun i => encF rItem a.1 ((0 : Nat) + i))) <|
      .chk (balOk (decF rPost (List.length (Bk.posts (readB (decF rItem (List.length a.1) fun i => encF rItem a.1 ((0 : Nat) + i)) a.2.2.2))) fun i => encF rPost (Bk.posts (readB (decF rItem (List.length a.1) fun i => encF rItem a.1 ((0 : Nat) + i)) a.2.2.2)) ((0 : Nat) + i))) <|
      .ret ((numOf (mraw (Get.mk [CK.int IntKind.i64, CK.int IntKind.i64] (encF rPII (sumP (decF rPost (List.length (Bk.posts (readB (decF rItem (List.length a.1) fun i => encF rItem a.1 ((0 : Nat) + i)) a.2.2.2))) fun i => encF rPost (Bk.posts (readB (decF rItem (List.length a.1) fun i => encF rItem a.1 ((0 : Nat) + i)) a.2.2.2)) ((0 : Nat) + i)) a.2.2.1))) (mfind (Get.mk [CK.int IntKind.i64, CK.int IntKind.i64] (encF rPII (sumP (decF rPost (List.length (Bk.posts (readB (decF rItem (List.length a.1) fun i => encF rItem a.1 ((0 : Nat) + i)) a.2.2.2))) fun i => encF rPost (Bk.posts (readB (decF rItem (List.length a.1) fun i => encF rItem a.1 ((0 : Nat) + i)) a.2.2.2)) ((0 : Nat) + i)) a.2.2.1))) (AV.int IntKind.i64 a.2.1) (List.length (sumP (decF rPost (List.length (Bk.posts (readB (decF rItem (List.length a.1) fun i => encF rItem a.1 ((0 : Nat) + i)) a.2.2.2))) fun i => encF rPost (Bk.posts (readB (decF rItem (List.length a.1) fun i => encF rItem a.1 ((0 : Nat) + i)) a.2.2.2)) ((0 : Nat) + i)) a.2.2.1))) (AV.int IntKind.i64 (0 : Int)) (1 : Nat)), (0 : Int))))) (
    .br (l_account a.2.1 != (0 : Int)) (
      .br (l_account a.2.1 != (0 : Int)) (
        .ret (((0 : Int), l_account a.2.1))) (
        .chk (rdOk (decF rItem (List.length a.1) fun i => encF rItem a.1 ((0 : Nat) + i))) <|
        .chk (balOk (decF rPost (List.length (Bk.posts (readB (decF rItem (List.length a.1) fun i => encF rItem a.1 ((0 : Nat) + i)) a.2.2.2))) fun i => encF rPost (Bk.posts (readB (decF rItem (List.length a.1) fun i => encF rItem a.1 ((0 : Nat) + i)) a.2.2.2)) ((0 : Nat) + i))) <|
        .ret ((numOf (mraw (Get.mk [CK.int IntKind.i64, CK.int IntKind.i64] (encF rPII (sumP (decF rPost (List.length (Bk.posts (readB (decF rItem (List.length a.1) fun i => encF rItem a.1 ((0 : Nat) + i)) a.2.2.2))) fun i => encF rPost (Bk.posts (readB (decF rItem (List.length a.1) fun i => encF rItem a.1 ((0 : Nat) + i)) a.2.2.2)) ((0 : Nat) + i)) a.2.2.1))) (mfind (Get.mk [CK.int IntKind.i64, CK.int IntKind.i64] (encF rPII (sumP (decF rPost (List.length (Bk.posts (readB (decF rItem (List.length a.1) fun i => encF rItem a.1 ((0 : Nat) + i)) a.2.2.2))) fun i => encF rPost (Bk.posts (readB (decF rItem (List.length a.1) fun i => encF rItem a.1 ((0 : Nat) + i)) a.2.2.2)) ((0 : Nat) + i)) a.2.2.1))) (AV.int IntKind.i64 a.2.1) (List.length (sumP (decF rPost (List.length (Bk.posts (readB (decF rItem (List.length a.1) fun i => encF rItem a.1 ((0 : Nat) + i)) a.2.2.2))) fun i => encF rPost (Bk.posts (readB (decF rItem (List.length a.1) fun i => encF rItem a.1 ((0 : Nat) + i)) a.2.2.2)) ((0 : Nat) + i)) a.2.2.1))) (AV.int IntKind.i64 (0 : Int)) (1 : Nat)), (0 : Int))))) (
      .chk (rdOk (decF rItem (List.length a.1) fun i => encF rItem a.1 ((0 : Nat) + i))) <|
      .chk (balOk (decF rPost (List.length (Bk.posts (readB (decF rItem (List.length a.1) fun i => encF rItem a.1 ((0 : Nat) + i)) a.2.2.2))) fun i => encF rPost (Bk.posts (readB (decF rItem (List.length a.1) fun i => encF rItem a.1 ((0 : Nat) + i)) a.2.2.2)) ((0 : Nat) + i))) <|
      .ret ((numOf (mraw (Get.mk [CK.int IntKind.i64, CK.int IntKind.i64] (encF rPII (sumP (decF rPost (List.length (Bk.posts (readB (decF rItem (List.length a.1) fun i => encF rItem a.1 ((0 : Nat) + i)) a.2.2.2))) fun i => encF rPost (Bk.posts (readB (decF rItem (List.length a.1) fun i => encF rItem a.1 ((0 : Nat) + i)) a.2.2.2)) ((0 : Nat) + i)) a.2.2.1))) (mfind (Get.mk [CK.int IntKind.i64, CK.int IntKind.i64] (encF rPII (sumP (decF rPost (List.length (Bk.posts (readB (decF rItem (List.length a.1) fun i => encF rItem a.1 ((0 : Nat) + i)) a.2.2.2))) fun i => encF rPost (Bk.posts (readB (decF rItem (List.length a.1) fun i => encF rItem a.1 ((0 : Nat) + i)) a.2.2.2)) ((0 : Nat) + i)) a.2.2.1))) (AV.int IntKind.i64 a.2.1) (List.length (sumP (decF rPost (List.length (Bk.posts (readB (decF rItem (List.length a.1) fun i => encF rItem a.1 ((0 : Nat) + i)) a.2.2.2))) fun i => encF rPost (Bk.posts (readB (decF rItem (List.length a.1) fun i => encF rItem a.1 ((0 : Nat) + i)) a.2.2.2)) ((0 : Nat) + i)) a.2.2.1))) (AV.int IntKind.i64 (0 : Int)) (1 : Nat)), (0 : Int)))))) := fun a => by kernel_rfl
theorem fn_amount : ∀ a, (callT1 P BLD21 30 35 D_l3 R_ii) a = T.run (
  .chk (decide (nat_lit 1 ≤ (1000 : Nat))) <|
  .br (askedV (decF rItem (List.length a.1) fun i => encF rItem a.1 ((0 : Nat) + i)) (decF rInt (1 : Nat) fun i k => Option.getD [AV.int IntKind.i64 a.2.2][((0 : Nat) + i) * (1 : Nat) + k]? AV.top) != (0 : Int)) (
    .ret (((0 : Int), askedV (decF rItem (List.length a.1) fun i => encF rItem a.1 ((0 : Nat) + i)) (decF rInt (1 : Nat) fun i k => Option.getD [AV.int IntKind.i64 a.2.2][((0 : Nat) + i) * (1 : Nat) + k]? AV.top)))) (
    .br (!l_bill a.2.1) (
      .ret (((0 : Int), (1 : Int)))) (
      .chk (rdOk (decF rItem (List.length a.1) fun i => encF rItem a.1 ((0 : Nat) + i))) <|
      .br (match mfind (poolG (Get.mk [CK.int IntKind.i64, CK.int IntKind.i64, CK.int IntKind.i64, CK.int IntKind.i64, CK.int IntKind.i64, CK.int IntKind.i64, CK.int IntKind.i64, CK.int IntKind.i64, CK.int IntKind.i64, CK.any] (encPF pStd (Bk.bills (readB (decF rItem (List.length a.1) fun i => encF rItem a.1 ((0 : Nat) + i)) a.2.2)))) (9 : Nat) (8 : Nat) (2 : Nat) (encPL (Bk.bills (readB (decF rItem (List.length a.1) fun i => encF rItem a.1 ((0 : Nat) + i)) a.2.2))) [CK.int IntKind.i64, CK.int IntKind.i64] (encPH pStd (Bk.bills (readB (decF rItem (List.length a.1) fun i => encF rItem a.1 ((0 : Nat) + i)) a.2.2)))) (AV.int IntKind.i64 a.2.1) (List.length (Bk.bills (readB (decF rItem (List.length a.1) fun i => encF rItem a.1 ((0 : Nat) + i)) a.2.2))) with
| some val => true
| none => false) (
        .ret ((numOf (encPF pStd (Bk.bills (readB (decF rItem (List.length a.1) fun i => encF rItem a.1 ((0 : Nat) + i)) a.2.2)) (Option.getD (mfind (poolG (Get.mk [CK.int IntKind.i64, CK.int IntKind.i64, CK.int IntKind.i64, CK.int IntKind.i64, CK.int IntKind.i64, CK.int IntKind.i64, CK.int IntKind.i64, CK.int IntKind.i64, CK.int IntKind.i64, CK.any] (encPF pStd (Bk.bills (readB (decF rItem (List.length a.1) fun i => encF rItem a.1 ((0 : Nat) + i)) a.2.2)))) (9 : Nat) (8 : Nat) (2 : Nat) (encPL (Bk.bills (readB (decF rItem (List.length a.1) fun i => encF rItem a.1 ((0 : Nat) + i)) a.2.2))) [CK.int IntKind.i64, CK.int IntKind.i64] (encPH pStd (Bk.bills (readB (decF rItem (List.length a.1) fun i => encF rItem a.1 ((0 : Nat) + i)) a.2.2)))) (AV.int IntKind.i64 a.2.1) (List.length (Bk.bills (readB (decF rItem (List.length a.1) fun i => encF rItem a.1 ((0 : Nat) + i)) a.2.2)))) (0 : Nat)) (nat_lit 8)), (0 : Int)))) (
        .ret (((0 : Int), (5 : Int))))))) := fun a => by kernel_rfl
theorem fn_history : ∀ a, (callT1 P BLD21 30 46 D_ln R_ce) a = T.run (
  .br (checkV (decF rItem (List.length a.1) fun i => encF rItem a.1 ((0 : Nat) + i)) != (0 : Int)) (
    .ret (([], checkV (decF rItem (List.length a.1) fun i => encF rItem a.1 ((0 : Nat) + i))))) (
    .br (!l_bill a.2) (
      .ret (([], (1 : Int)))) (
      .chk (rdOk (decF rItem (List.length a.1) fun i => encF rItem a.1 ((0 : Nat) + i))) <|
      .br (match mfind (poolG (Get.mk [CK.int IntKind.i64, CK.int IntKind.i64, CK.int IntKind.i64, CK.int IntKind.i64, CK.int IntKind.i64, CK.int IntKind.i64, CK.int IntKind.i64, CK.int IntKind.i64, CK.int IntKind.i64, CK.any] (encPF pStd (Bk.bills (readB (decF rItem (List.length a.1) fun i => encF rItem a.1 ((0 : Nat) + i)) (728 : Int))))) (9 : Nat) (8 : Nat) (2 : Nat) (encPL (Bk.bills (readB (decF rItem (List.length a.1) fun i => encF rItem a.1 ((0 : Nat) + i)) (728 : Int)))) [CK.int IntKind.i64, CK.int IntKind.i64] (encPH pStd (Bk.bills (readB (decF rItem (List.length a.1) fun i => encF rItem a.1 ((0 : Nat) + i)) (728 : Int))))) (AV.int IntKind.i64 a.2) (List.length (Bk.bills (readB (decF rItem (List.length a.1) fun i => encF rItem a.1 ((0 : Nat) + i)) (728 : Int)))) with
| some val => true
| none => false) (
        .ret ((decF rChg (encPL (Bk.bills (readB (decF rItem (List.length a.1) fun i => encF rItem a.1 ((0 : Nat) + i)) (728 : Int))) (Option.getD (mfind (poolG (Get.mk [CK.int IntKind.i64, CK.int IntKind.i64, CK.int IntKind.i64, CK.int IntKind.i64, CK.int IntKind.i64, CK.int IntKind.i64, CK.int IntKind.i64, CK.int IntKind.i64, CK.int IntKind.i64, CK.any] (encPF pStd (Bk.bills (readB (decF rItem (List.length a.1) fun i => encF rItem a.1 ((0 : Nat) + i)) (728 : Int))))) (9 : Nat) (8 : Nat) (2 : Nat) (encPL (Bk.bills (readB (decF rItem (List.length a.1) fun i => encF rItem a.1 ((0 : Nat) + i)) (728 : Int)))) [CK.int IntKind.i64, CK.int IntKind.i64] (encPH pStd (Bk.bills (readB (decF rItem (List.length a.1) fun i => encF rItem a.1 ((0 : Nat) + i)) (728 : Int))))) (AV.int IntKind.i64 a.2) (List.length (Bk.bills (readB (decF rItem (List.length a.1) fun i => encF rItem a.1 ((0 : Nat) + i)) (728 : Int))))) (0 : Nat))) fun i => encPH pStd (Bk.bills (readB (decF rItem (List.length a.1) fun i => encF rItem a.1 ((0 : Nat) + i)) (728 : Int))) (Option.getD (mfind (poolG (Get.mk [CK.int IntKind.i64, CK.int IntKind.i64, CK.int IntKind.i64, CK.int IntKind.i64, CK.int IntKind.i64, CK.int IntKind.i64, CK.int IntKind.i64, CK.int IntKind.i64, CK.int IntKind.i64, CK.any] (encPF pStd (Bk.bills (readB (decF rItem (List.length a.1) fun i => encF rItem a.1 ((0 : Nat) + i)) (728 : Int))))) (9 : Nat) (8 : Nat) (2 : Nat) (encPL (Bk.bills (readB (decF rItem (List.length a.1) fun i => encF rItem a.1 ((0 : Nat) + i)) (728 : Int)))) [CK.int IntKind.i64, CK.int IntKind.i64] (encPH pStd (Bk.bills (readB (decF rItem (List.length a.1) fun i => encF rItem a.1 ((0 : Nat) + i)) (728 : Int))))) (AV.int IntKind.i64 a.2) (List.length (Bk.bills (readB (decF rItem (List.length a.1) fun i => encF rItem a.1 ((0 : Nat) + i)) (728 : Int))))) (0 : Nat)) ((0 : Nat) + i), (0 : Int)))) (
        .ret (([], (5 : Int))))))) := fun a => by kernel_rfl
end Go.Proofs.YtelpdkojdfnmiaaGreat
/-! LD4 -/
namespace Go.Proofs.YtelpdkojdfnmiaaGreat
open Ev K
set_option maxRecDepth 100000
namespace K
def PstOk (p : Pst) : Prop := (1 ≤ p.item ∧ p.item ≤ 1099511627776) ∧ (0 ≤ p.day ∧ p.day ≤ 728) ∧ (1 ≤ p.account ∧ p.account ≤ 1099511627776) ∧ amtOk p.amount
structure PsOk (k : Bk) : Prop where
  closed : -1 ≤ k.closed
  posts : ∀ p ∈ k.posts, PstOk p
  bills : ∀ b ∈ k.bills, (0 ≤ b.1.item.day ∧ b.1.item.day ≤ 728) ∧ (10 ≤ b.1.item.account ∧ b.1.item.account ≤ 1099511627776) ∧ (0 ≤ b.1.amount ∧ b.1.amount ≤ 16777216)
theorem PsOk.zero : PsOk bk0 := ⟨by decide, (fun p hp => by cases hp), (fun p hp => by cases hp)⟩
theorem PsOk.refuse {k : Bk} (h : PsOk k) (x : Itm) : PsOk (refuse k x) := ⟨h.closed, h.posts, h.bills⟩
theorem stand_ok {k : Bk} (h : PsOk k) {x : Itm} (hid : 1 ≤ x.id ∧ x.id ≤ 1099511627776) {d a b m : Int} (hd : 0 ≤ d) (h7 : ¬ onDay k d > 728) (ha : 1 ≤ a ∧ a ≤ 1099511627776) (hb : 1 ≤ b ∧ b ≤ 1099511627776) (hm : amtOk m) : ∀ p ∈ (stand k x (onDay k d) a b m).posts, PstOk p := by
  have hc := h.closed
  have ho : 0 ≤ onDay k d := by unfold onDay; split <;> omega
  intro p hp
  have hp : p ∈ k.posts ++ [⟨x.id, onDay k d, a, m⟩, ⟨x.id, onDay k d, b, -m⟩] := hp
  rcases List.mem_append.1 hp with hp | hp
  · exact h.posts p hp
  · unfold amtOk at hm
    simp only [List.mem_cons, List.not_mem_nil, or_false] at hp
    rcases hp with rfl | rfl
    · exact ⟨hid, ⟨ho, by show onDay k d ≤ 728; omega⟩, ha, hm⟩
    · exact ⟨hid, ⟨ho, by show onDay k d ≤ 728; omega⟩, hb, by unfold amtOk; show -16777216 ≤ -m ∧ -m ≤ 16777216; omega⟩
theorem PsOk.doItem {k : Bk} (h : PsOk k) {x : Itm} (hx : x.Fm) : PsOk (doItem k x) := by
  unfold Itm.Fm at hx
  have hm : amtOk x.amount := by unfold amtOk; omega
  have hid := hx.1
  have hd := hx.2.2.1
  unfold K.doItem
  split
  · have ha : 10 ≤ x.account ∧ x.account ≤ 1099511627776 := by omega
    unfold doBill; split
    · exact h.refuse x
    · split
      · exact h.refuse x
      · rename_i h7
        refine ⟨h.closed, stand_ok h hid hd.1 h7 (by omega) (by omega) hm, fun b hb => ?_⟩
        rcases List.mem_append.1 hb with hb | hb
        · exact h.bills b hb
        · simp at hb; subst hb; exact ⟨hd, ha, by show 0 ≤ x.amount ∧ x.amount ≤ _; omega⟩
  split
  · unfold doMend; split
    · exact h.refuse x
    · rename_i q hq
      split
      · exact h.refuse x
      · rename_i h7
        have hmem := getD_mem (d := default) (fb_some hq)
        obtain ⟨b1, b2, b3⟩ := h.bills _ hmem
        generalize k.bills.getD q default = s at b1 b2 b3 h7
        refine ⟨h.closed, stand_ok h hid b1.1 h7 (by omega) (by omega) (by unfold amtOk; omega), fun b hb => ?_⟩
        rcases List.mem_or_eq_of_mem_set hb with hb | hb
        · exact h.bills b hb
        · subst hb; exact ⟨b1, b2, by show 0 ≤ x.amount ∧ x.amount ≤ _; omega⟩
  split
  · unfold doPay; split
    · exact h.refuse x
    · rename_i h7; exact ⟨h.closed, stand_ok h hid hd.1 h7 (by omega) (by omega) hm, h.bills⟩
  split
  · unfold doRefund; split
    · exact h.refuse x
    · split
      · exact h.refuse x
      · rename_i h7; exact ⟨h.closed, stand_ok h hid hd.1 h7 (by omega) (by omega) hm, h.bills⟩
  split
  · unfold doBond; split
    · exact h.refuse x
    · rename_i h7; exact ⟨h.closed, stand_ok h hid hd.1 h7 (by omega) (by omega) hm, h.bills⟩
  split
  · unfold doFree; split
    · exact h.refuse x
    · split
      · exact h.refuse x
      · rename_i h7; exact ⟨h.closed, stand_ok h hid hd.1 h7 (by omega) (by omega) hm, h.bills⟩
  · unfold doShut; split
    · exact h.refuse x
    · exact ⟨by show -1 ≤ x.day; omega, h.posts, h.bills⟩
theorem foldl_ps : ∀ (l : List Itm) (k : Bk), (∀ x ∈ l, x.Fm) → PsOk k → PsOk (l.foldl doItem k)
  | [], k, _, hk => hk
  | x :: l, k, h, hk => foldl_ps l _ (fun y hy => h y (List.mem_cons_of_mem _ hy)) (hk.doItem (h x (List.mem_cons_self ..)))
theorem known_mem {known : Int} {x : Itm} {l : List Itm} (h : x ∈ knownOn known l) : x ∈ l := (List.takeWhile_prefix _).subset h
theorem known_len (known : Int) (l : List Itm) : (knownOn known l).length ≤ l.length := (List.takeWhile_prefix _).length_le
section
variable {l : List Itm} (hf : ∀ x ∈ l, x.Fm) (known : Int)
include hf
theorem read_ps : PsOk (readB l known) := by
  have := foldl_ps (knownOn known (srt l)) bk0 (fun x hx => hf x (srt_mem (known_mem hx))) PsOk.zero
  exact ⟨this.closed, this.posts, this.bills⟩
theorem read_ok : BkOk l.length (readB l known) := by
  have := foldl_ok (knownOn known (srt l)) 0 bk0 (fun x hx => (hf x (srt_mem (known_mem hx))).ok) BkOk.zero
  have hm : ∀ d, BkOk (0 + (knownOn known (srt l)).length + d) (foldB (knownOn known (srt l))) := fun d => by
    induction d with
    | zero => exact this
    | succ d ih => exact ih.mono
  have h := hm (l.length - (knownOn known (srt l)).length)
  rw [show 0 + (knownOn known (srt l)).length + (l.length - (knownOn known (srt l)).length) = l.length by have := known_len known (srt l); have := srt_len l; omega] at h
  exact ⟨h.closed, h.posts, h.taken, by show (sortL _).length ≤ _; rw [sortL_length]; exact h.refused, h.bills, h.bill, h.paid, h.bonds⟩
end
theorem chk_rd {l : List Itm} (h : checkV l = 0) : rdOk l = true := by
  obtain ⟨h1, h2, _⟩ := checkV_ok h
  exact decide_eq_true ⟨by omega, h2⟩
theorem chk_bal {l : List Itm} (h : checkV l = 0) (known : Int) : balOk (readB l known).posts = true := by
  obtain ⟨h1, h2, _⟩ := checkV_ok h
  have a := read_ok h2 known
  exact decide_eq_true ⟨by have := a.posts; omega, fun p hp => ((read_ps h2 known).posts p hp).2.2.2⟩
theorem ask_check {l : List Itm} {days : List Int} (h : askedV l days = 0) : checkV l = 0 ∧ ∀ n ∈ days, dayOk n := by
  unfold askedV at h
  split at h
  · rename_i h1; exact absurd h h1
  · rename_i h1
    split at h
    · rename_i h2; exact ⟨by simpa using h1, h2⟩
    · cases h
def lSortedV (l : List Itm) : List Itm × Int := (if checkV l = 0 then srt l else [], checkV l)
def postingsV (l : List Itm) (known : Int) : List Pst × Int := (if askedV l [known] = 0 then (readB l known).posts else [], askedV l [known])
def refusedV (l : List Itm) (known : Int) : List Int × Int := (if askedV l [known] = 0 then (readB l known).refused else [], askedV l [known])
def closedV (l : List Itm) (known : Int) : Int × Int := (if askedV l [known] = 0 then (readB l known).closed else 0, askedV l [known])
theorem ne_t {a : Int} (h : ¬ a = 0) : (a != 0) = true := by simpa using h
theorem ne_f {a : Int} (h : a = 0) : (a != 0) = false := by simpa using h
theorem lsorted_eq (l : List Itm) : callT1 P BLD21 30 51 D_l R_ie l = some (lSortedV l) := by
  rw [fn_lsorted]; unfold lSortedV
  simp only [decF_enc0]
  by_cases h : checkV l = 0
  · rw [if_pos h, h]; exact br_f (by decide) (chk_step (decide_eq_true (by have := (checkV_ok h).1; omega)) rfl)
  · rw [if_neg h]; exact br_t (ne_t h) rfl
theorem dInt1 (n : Int) : decF rInt 1 (fun i k => ([(.int .i64 n : AV)][i * 1 + k]?).getD .top) = [n] := rfl
theorem dInt2 (n m : Int) : decF rInt 2 (fun i k => ([(.int .i64 n : AV), .int .i64 m][i * 1 + k]?).getD .top) = [n, m] := rfl
theorem postings_eq (a : List Itm × Int) : callT1 P BLD21 30 20 D_ln R_pe a = some (postingsV a.1 a.2) := by
  obtain ⟨l, known⟩ := a
  rw [fn_postings]; unfold postingsV
  simp only [Nat.zero_add, decF_encF, dInt1]
  refine chk_step rfl ?_
  by_cases h : askedV l [known] = 0
  · rw [if_pos h, h]; exact br_f (by decide) (chk_step (chk_rd (ask_check h).1) rfl)
  · rw [if_neg h]; exact br_t (ne_t h) rfl
theorem refused_eq (a : List Itm × Int) : callT1 P BLD21 30 26 D_ln R_ne a = some (refusedV a.1 a.2) := by
  obtain ⟨l, known⟩ := a
  rw [fn_refused]; unfold refusedV
  simp only [Nat.zero_add, decF_encF, dInt1]
  refine chk_step rfl ?_
  by_cases h : askedV l [known] = 0
  · rw [if_pos h, h]; exact br_f (by decide) (chk_step (chk_rd (ask_check h).1) rfl)
  · rw [if_neg h]; exact br_t (ne_t h) rfl
theorem closed_eq (a : List Itm × Int) : callT1 P BLD21 30 27 D_ln R_ii a = some (closedV a.1 a.2) := by
  obtain ⟨l, known⟩ := a
  rw [fn_closed]; unfold closedV
  simp only [Nat.zero_add, decF_encF, dInt1]
  refine chk_step rfl ?_
  by_cases h : askedV l [known] = 0
  · rw [if_pos h, h]; exact br_f (by decide) (chk_step (chk_rd (ask_check h).1) rfl)
  · rw [if_neg h]; exact br_t (ne_t h) rfl
def orV (a b : Int) : Int := if a ≠ 0 then a else b
def acOk (n : Int) : Prop := n = 1 ∨ n = 2 ∨ n = 3 ∨ (10 ≤ n ∧ n ≤ 1099511627776)
instance (n : Int) : Decidable (acOk n) := by unfold acOk; infer_instance
def accountE (n : Int) : Int := if acOk n then 0 else 1
theorem l_other_iff (n : Int) : l_other n = true ↔ 10 ≤ n ∧ n ≤ 1099511627776 := by unfold l_other; exact l_within_iff n 10 1099511627776
theorem l_account_eq (n : Int) : l_account n = accountE n := by
  unfold l_account accountE
  by_cases h1 : n = 1
  · subst h1; decide
  by_cases h2 : n = 2
  · subst h2; decide
  by_cases h3 : n = 3
  · subst h3; decide
  have e1 : (n != 1) = true := by simpa using h1
  have e2 : (n != 2) = true := by simpa using h2
  have e3 : (n != 3) = true := by simpa using h3
  rw [if_pos e1, if_pos e2, if_pos e3]
  by_cases ho : 10 ≤ n ∧ n ≤ 1099511627776
  · have hq : acOk n := .inr (.inr (.inr ho))
    rw [if_neg (by rw [(l_other_iff n).2 ho]; simp), if_pos hq]
  · have : l_other n = false := by rw [← Bool.not_eq_true]; exact fun h => ho ((l_other_iff n).1 h)
    have hq : ¬ acOk n := by unfold acOk; omega
    rw [if_pos (by rw [this]; rfl), if_neg hq]
def billOk (n : Int) : Prop := 1 ≤ n ∧ n ≤ 1099511627776
instance (n : Int) : Decidable (billOk n) := by unfold billOk; infer_instance
theorem l_bill_iff (n : Int) : l_bill n = true ↔ billOk n := by unfold l_bill billOk; exact l_within_iff n 1 1099511627776
def holdE (l : List Itm) (days : List Int) (acc : Int) : Int := orV (askedV l days) (accountE acc)
def holdV (l : List Itm) (acc behind known : Int) : Int × Int := (if holdE l [behind, known] acc = 0 then lookM (sumP (readB l known).posts behind) acc else 0, holdE l [behind, known] acc)
theorem hold_eq (a : List Itm × Int × Int × Int) : callT1 P BLD21 30 23 D_l4 R_ii a = some (holdV a.1 a.2.1 a.2.2.1 a.2.2.2) := by
  obtain ⟨l, acc, behind, known⟩ := a
  rw [fn_hold]; unfold holdV holdE orV
  simp only [Nat.zero_add, decF_encF, dInt2, find_M, raw_M, l_account_eq]
  refine chk_step rfl ?_
  by_cases h : askedV l [behind, known] = 0
  · simp only [h, ne_eq, not_true, if_false]
    refine br_f (by decide) ?_
    by_cases h2 : accountE acc = 0
    · rw [if_pos h2]
      exact br_f (ne_f h2) (chk_step (chk_rd (ask_check h).1) (chk_step (chk_bal (ask_check h).1 known) (by rw [h2]; rfl)))
    · rw [if_neg h2]
      exact br_t (ne_t h2) (br_t (ne_t h2) rfl)
  · simp only [h, ne_eq, not_false_eq_true, if_true, if_false]
    exact br_t (ne_t h) (br_t (ne_t h) rfl)
theorem find_pool (k : List (Std × List Chg)) (n : Int) : mfind (poolG ⟨[CK.int IntKind.i64, CK.int IntKind.i64, CK.int IntKind.i64, CK.int IntKind.i64, CK.int IntKind.i64, CK.int IntKind.i64, CK.int IntKind.i64, CK.int IntKind.i64, CK.int IntKind.i64, CK.any], encPF pStd k⟩ 9 8 2 (encPL k) [CK.int IntKind.i64, CK.int IntKind.i64] (encPH pStd k)) (.int .i64 n) k.length = k.findIdx? fun a => n == a.1.no :=
  mfind_gen _ _ _ _ fun i a h => by
    simp only [Get.cell, poolG, encPF_at h]; rfl
def amountV (l : List Itm) (number known : Int) : Int × Int := if askedV l [known] = 0 then (if billOk number then match fb (readB l known) number with
    | some q => (((readB l known).bills.getD q default).1.amount, 0)
    | none => (0, 5)
  else (0, 1)) else (0, askedV l [known])
theorem amount_eq (a : List Itm × Int × Int) : callT1 P BLD21 30 35 D_l3 R_ii a = some (amountV a.1 a.2.1 a.2.2) := by
  obtain ⟨l, number, known⟩ := a
  rw [fn_amount]; unfold amountV
  simp only [Nat.zero_add, decF_encF, dInt1, find_pool]
  refine chk_step rfl ?_
  by_cases h : askedV l [known] = 0
  · rw [if_pos h, h]
    refine br_f (by decide) ?_
    by_cases hb : billOk number
    · rw [if_pos hb]
      refine br_f (by rw [(l_bill_iff number).2 hb]; rfl) (chk_step (chk_rd (ask_check h).1) ?_)
      show T.run _ = some (match fb (readB l known) number with | some q => _ | none => _)
      rw [show ((readB l known).bills.findIdx? fun a => number == a.1.no) = fb (readB l known) number from rfl]
      cases hf : fb (readB l known) number with
      | none => rfl
      | some q =>
        have hq := fb_some hf
        have hs := List.getElem?_eq_getElem hq
        refine br_t rfl ?_
        simp only [Option.getD_some, encPF_at hs, ps8]
        rw [List.getD_eq_getElem?_getD, hs]; rfl
    · rw [if_neg hb]; exact br_t (by rw [Bool.not_eq_true', ← Bool.not_eq_true]; exact fun h => hb ((l_bill_iff number).1 h)) rfl
  · rw [if_neg h]; exact br_t (ne_t h) rfl
def historyV (l : List Itm) (number : Int) : List Chg × Int := if checkV l = 0 then (if billOk number then match fb (readB l 728) number with
    | some q => (((readB l 728).bills.getD q default).2, 0)
    | none => ([], 5)
  else ([], 1)) else ([], checkV l)
theorem history_eq (a : List Itm × Int) : callT1 P BLD21 30 46 D_ln R_ce a = some (historyV a.1 a.2) := by
  obtain ⟨l, number⟩ := a
  rw [fn_history]; unfold historyV
  simp only [Nat.zero_add, decF_encF, find_pool]
  by_cases h : checkV l = 0
  · rw [if_pos h, h]
    refine br_f (by decide) ?_
    by_cases hb : billOk number
    · rw [if_pos hb]
      refine br_f (by rw [(l_bill_iff number).2 hb]; rfl) (chk_step (chk_rd h) ?_)
      rw [show ((readB l 728).bills.findIdx? fun a => number == a.1.no) = fb (readB l 728) number from rfl]
      cases hf : fb (readB l 728) number with
      | none => rfl
      | some q =>
        have hq := fb_some hf
        have hs := List.getElem?_eq_getElem hq
        refine br_t rfl ?_
        simp only [Option.getD_some, encPL_at hs, encPH_at hs]
        rw [List.getD_eq_getElem?_getD, hs]
        show some (decF rChg _ fun i => encF rChg _ i, _) = _
        rw [decF_encF]; rfl
    · rw [if_neg hb]; exact br_t (by rw [Bool.not_eq_true', ← Bool.not_eq_true]; exact fun h => hb ((l_bill_iff number).1 h)) rfl
  · rw [if_neg h]; exact br_t (ne_t h) rfl
end K
noncomputable def BLD41 : Tab := BLD21.addCall 51 (callE D_l R_ie (fun a => .ret (K.lSortedV a)))
theorem tLD41 : TabOk P BLD41 := TabOk.addPC tLD21 (fun a r h => by rw [← ret_some h]; exact call_of okP tLD21 (K.lsorted_eq a))
noncomputable def BLD42 : Tab := BLD41.addCall 20 (callE D_ln R_pe (fun a => .ret (K.postingsV a.1 a.2)))
theorem tLD42 : TabOk P BLD42 := TabOk.addPC tLD41 (fun a r h => by rw [← ret_some h]; exact call_of okP tLD21 (K.postings_eq a))
noncomputable def BLD43 : Tab := BLD42.addCall 26 (callE D_ln R_ne (fun a => .ret (K.refusedV a.1 a.2)))
theorem tLD43 : TabOk P BLD43 := TabOk.addPC tLD42 (fun a r h => by rw [← ret_some h]; exact call_of okP tLD21 (K.refused_eq a))
noncomputable def BLD44 : Tab := BLD43.addCall 27 (callE D_ln R_ii (fun a => .ret (K.closedV a.1 a.2)))
theorem tLD44 : TabOk P BLD44 := TabOk.addPC tLD43 (fun a r h => by rw [← ret_some h]; exact call_of okP tLD21 (K.closed_eq a))
noncomputable def BLD45 : Tab := BLD44.addCall 23 (callE D_l4 R_ii (fun a => .ret (K.holdV a.1 a.2.1 a.2.2.1 a.2.2.2)))
theorem tLD45 : TabOk P BLD45 := TabOk.addPC tLD44 (fun a r h => by rw [← ret_some h]; exact call_of okP tLD21 (K.hold_eq a))
noncomputable def BLD46 : Tab := BLD45.addCall 35 (callE D_l3 R_ii (fun a => .ret (K.amountV a.1 a.2.1 a.2.2)))
theorem tLD46 : TabOk P BLD46 := TabOk.addPC tLD45 (fun a r h => by rw [← ret_some h]; exact call_of okP tLD21 (K.amount_eq a))
noncomputable def BLD47 : Tab := BLD46.addCall 46 (callE D_ln R_ce (fun a => .ret (K.historyV a.1 a.2)))
theorem tLD47 : TabOk P BLD47 := TabOk.addPC tLD46 (fun a r h => by rw [← ret_some h]; exact call_of okP tLD21 (K.history_eq a))
end Go.Proofs.YtelpdkojdfnmiaaGreat
/-! EvT -/
namespace Go.Proofs.YtelpdkojdfnmiaaGreat.Ev
open Go.RowKit
def turnSt (fn : Func) (t : TypeId) (wd n : Nat) (g : Get AV) (xs : List AV) : St := { env := (.osl 0 0 n :: xs) ++ List.replicate (fn.ntmps - (xs.length + 1)) .top, loc := [.list t wd 0 n g], sav := [.osl 0 0 n] }
def turnEnd (st : St) (wd : Nat) : Option (TypeId × Get AV) := match st.sav with
  | [.osl j v _] => match st.loc[j]? with
    | some (.list t wd' v' _ g) => match Nat.beq wd' wd && Nat.beq v' v with
      | true => some (t, g)
      | false => none
    | _ => none
  | _ => none
def turnR (n e c : Nat) : Rr := fun k => match k with
  | .lo 0 0 => some e
  | .lc 0 0 => some c
  | .ln 0 0 => some n
  | _ => none
theorem turnR_lo {n e c j v b : Nat} (h : turnR n e c (.lo j v) = some b) : j = 0 ∧ v = 0 ∧ b = e := by
  unfold turnR at h
  split at h
  · rename_i h1; injection h1 with h1 h2; subst h1; subst h2; injection h with h; exact ⟨rfl, rfl, h.symm⟩
  · rename_i h1; cases h1
  · rename_i h1; cases h1
  · cases h
theorem turnR_any {n e c j v b : Nat} (h : turnR n e c (.lo j v) = some b ∨ turnR n e c (.lc j v) = some b ∨ turnR n e c (.ln j v) = some b) : j = 0 ∧ v = 0 := by
  rcases h with h | h | h
  · exact ⟨(turnR_lo h).1, (turnR_lo h).2.1⟩
  · unfold turnR at h
    split at h
    · rename_i h1; cases h1
    · rename_i h1; injection h1 with h1 h2; exact ⟨h1, h2⟩
    · rename_i h1; cases h1
    · cases h
  · unfold turnR at h
    split at h
    · rename_i h1; cases h1
    · rename_i h1; cases h1
    · rename_i h1; injection h1 with h1 h2; exact ⟨h1, h2⟩
    · cases h
theorem turnR_obj {n e c j b : Nat} (h : turnR n e c (.obj j) = some b) : False := by simp [turnR] at h
theorem turnR_own {n e c b : Nat} (h : OwnR (turnR n e c) b) : e = b + 1 := by
  rcases h with ⟨j, h⟩ | ⟨j, v, h⟩
  · exact (turnR_obj h).elim
  · exact (turnR_lo h).2.2.symm
theorem MC.of_ldN {P : Program} {f : FuncId} {fn : Func} {c : Code} {xs : List AV} {wd n : Nat} {g g' : Get AV} {S : TypeId → Exit → St → Prop} (hf : P.funcs[f]? = some fn) (hb : fn.body = some c) (hres : fn.results.toList = []) (h : ∀ t, LdN P c (turnSt fn t wd n g xs) (S t))
    (hS : ∀ t e st', S t e st' → (e = .normal ∨ e = .ret) ∧ ∃ g1, turnEnd st' wd = some (t, g1) ∧ ∀ i k, i < n → k < wd → g1.cell i k = g'.cell i k) : MC P f wd n g g' xs := by
  intro ro m A w t e c0 rows us hA hAe h0 hnc hwd hown hrows hus
  apply callsIn_round
  refine callsIn_of_wp_marks hf hb trivial ?_
  let A1 : Nat → Prop := fun b => A b ∧ e ≠ b + 1
  let r0 : Rr := turnR n e c0
  let X : Fx := fun A0 O w' => (∀ b, A b → e ≠ b + 1 → A0 b) ∧ (w.grownBy w' (obOf e) ∧ w.drawn ≤ w'.drawn) ∧ ∀ b, O b → e = b + 1 ∨ w.heap.size ≤ b
  have hob : ∀ k, some k ≠ obOf e → e ≠ k + 1 := fun k hk he => hk (by rw [he]; rfl)
  have hSt : Stands X := fun A0 O O' w1 w2 hX ht hO => ⟨hX.1, ⟨⟨ht.os.trans hX.2.1.1.os, ht.tape.trans hX.2.1.1.tape, ht.output.trans hX.2.1.1.output, Nat.le_trans hX.2.1.1.size ht.size, fun k hk hne => by
      rw [ht.block k (Nat.lt_of_lt_of_le hk hX.2.1.1.size) (fun ho => by rcases hX.2.2 k ho with h1 | h1; exact hob k hne h1; omega)]; exact hX.2.1.1.block k hk hne⟩, Nat.le_trans hX.2.1.2 ht.drawn⟩,
    fun b hb => by
      rcases hO b hb with h1 | h1
      · exact hX.2.2 b h1
      · exact .inr (Nat.le_trans hX.2.1.1.size h1)⟩
  have hown0 : ∀ b, own r0 [] b → e = b + 1 := fun b hb => by
    rcases hb with hb | hb
    · exact turnR_own hb
    · simp at hb
  have hk : Keeps A (AR A1 r0 []) w w := ⟨Nat.le_refl _, fun _ _ _ => rfl, fun b hb => by
    rcases hb with hb | hb
    · exact .inl hb.1
    · exact .inl (hAe b (hown0 b hb))⟩
  have hosl : VR w (AR A1 r0 []) r0 (.osl 0 0 n) (.slice (slBase e) n c0) := .osl rfl rfl rfl h0 hnc
  have hX0 : X A1 (own r0 []) w := ⟨fun b h1 h2 => ⟨h1, h2⟩, ⟨⟨rfl, rfl, rfl, Nat.le_refl _, fun _ _ _ => rfl⟩, Nat.le_refl _⟩, fun b hb => .inl (hown0 b hb)⟩
  have hargs : VRs w (AR A1 r0 []) r0 (.osl 0 0 n :: xs) (#[.slice (slBase e) n c0] ++ us) := by
    have := (VRs.one hosl).append (hus.mono hk (r' := r0) (fun j b h => by simp [noR] at h))
    simpa using this
  have hsz : (#[Value.slice (slBase e) n c0] ++ us).size = xs.length + 1 := by rw [← hargs.1]; rfl
  have hfr : FR X none A1 (turnSt fn t wd n g xs).sav #[.slice (slBase e) n c0] (turnSt fn t wd n g xs).env (locOf (turnSt fn t wd n g xs)) r0 [] { tmps := (#[.slice (slBase e) n c0] ++ us) ++ Array.replicate (fn.ntmps - (#[Value.slice (slBase e) n c0] ++ us).size) undef, defers := [] } w := by
    refine ⟨?_, VRs.one hosl, fun j k hj => ?_, fun j b hj => (turnR_obj hj).elim, fun j v b hj => ?_, fun i j b hi _ => (turnR_obj hi).elim, fun i j v u b hi hj => ?_, fun i j v b hi _ => (turnR_obj hi).elim, fun b hb h1 => h1.2 (turnR_own hb), fun b hb => hA b (hAe b (turnR_own hb)), fun b _ hb => by simp at hb, fun b hb => hA b hb.1, hX0, hSt, rfl, List.nodup_nil, fun q hq => by simp at hq, rfl⟩
    · rw [hsz]
      exact hargs.append (VRs.tops _ undef)
    · simp only [locOf, turnSt] at hj
      cases j with
      | succ j => simp at hj
      | zero =>
        simp only [List.getElem?_cons_zero, Option.some.injEq] at hj
        subst hj
        exact ⟨e, c0, rows, rfl, rfl, rfl, h0, hnc, hwd, hown, rows_keep hrows hk⟩
    · obtain ⟨rfl, rfl⟩ := turnR_any hj
      exact ⟨.list t wd 0 n g, rfl, Nat.le_refl _⟩
    · rw [(turnR_lo hi).1, (turnR_lo hj).1]
  have hwp := (h t).2 none [] (fun _ => X) (by simp [turnSt]) ⟨fun _ => hSt, fun i x b hi => by simp at hi⟩ none m (fun l hl => by cases hl) A1 r0 [] #[.slice (slBase e) n c0] _ w hfr
  refine wpIn_mono hwp ?_
  rintro e' a' w' ⟨st', hs, A0', r', ds', hfr'⟩
  obtain ⟨he, g1, hr, hgg⟩ := hS t _ _ hs
  have hleave : LeavesInM (WF none) m P fn a'.tmps (fun en w' => en = .returned (.tuple #[]) ∧ ∃ rows', (w.grownBy w' (obOf e) ∧ w.drawn ≤ w'.drawn) ∧ w'.ownsRow 0 t wd (.slice (slBase e) n c0) n rows' ∧ RowsR w' A g' n wd rows') a'.defers .returning w' := by
    refine leaves_marks ds' a' w' hfr' (fun a2 w2 ht h2 => ?_)
    unfold turnEnd at hr
    split at hr
    · rename_i j v n1 hsav
      split at hr
      · rename_i t1 wd1 v1 n2 g2 hloc
        split at hr
        · rename_i hbq
          simp only [Bool.and_eq_true] at hbq
          have e1 := Nat.eq_of_beq_eq_true hbq.1; have e2 := Nat.eq_of_beq_eq_true hbq.2; subst e1; subst e2
          injection hr with hr; injection hr with hr1 hr2; subst hr1; subst hr2
          obtain ⟨e3, c3, xs3, m1, m2, m3, m4, m5, m6, m7, m8⟩ := h2.mem _ _ hloc
          have hsv := h2.sav
          rw [hsav] at hsv
          have hv := hsv.2 0 _ _ rfl rfl
          have hfit : e3 = e ∧ n2 = n ∧ c3 = c0 := by
            generalize hz : Value.slice (slBase e) n c0 = z at hv
            cases hv with
            | osl b1 b2 b3 b4 b5 =>
              rw [m1] at b1; injection b1 with b1; subst b1
              rw [m2] at b2; injection b2 with b2; subst b2
              rw [m3] at b3; injection b3 with b3; subst b3
              injection hz with z1 z2 z3
              refine ⟨?_, z2.symm, z3.symm⟩
              cases e <;> cases e3 <;> simp [slBase] at z1 ⊢
              exact z1.symm
          obtain ⟨rfl, rfl, rfl⟩ := hfit
          have hA' : ∀ b, A b → AR A0' r' [] b := fun b hb => by
            by_cases hbe : e3 = b + 1
            · exact .inr (.inl (.inr ⟨_, _, by rw [m1, hbe]⟩))
            · exact .inl (h2.inv.1 b hb hbe)
          refine ⟨.tuple #[], ?_, rfl, xs3, h2.inv.2.1, ?_, fun i k hi hk' => ?_⟩
          · rw [results_eq, hres]; rfl
          · exact m7
          · obtain ⟨u, hu1, hu2⟩ := m8 i k hi hk'
            rw [hgg i k hi hk'] at hu2
            exact ⟨u, hu1, hu2.mono ⟨Nat.le_refl _, fun _ _ _ => rfl, fun b hb => .inl (hA' b hb)⟩ (fun _ _ h => h)⟩
        · cases hr
      · cases hr
    · cases hr
  rcases he with rfl | rfl
  · exact hleave
  · exact hleave
def turnBody (P : Program) (C : Cfg) (f : FuncId) (t : TypeId) (wd n : Nat) (g : Get AV) (xs : List AV) : T (TypeId × Get AV) := match P.funcs[f]? with
  | some fn => match fn.body, fn.results.toList with
    | some c, [] => (DT P C c (turnSt fn t wd n g xs)).bind fun p => match endOk p.1 && p.2.out.isEmpty with
      | true => match turnEnd p.2 wd with
        | some q => .ret q
        | none => .fail
      | false => .fail
    | _, _ => .fail
  | none => .fail
section
variable {ρ α : Type}
def turnT1 (P : Program) (B : Tab) (d : Nat) (f : FuncId) (D : DecL α) (R : RowD ρ) (a : TypeId × List ρ × α) : Option (TypeId × List ρ) := ((turnBody P (mkCfg B (lvl P B d) f) f a.1 R.wd a.2.1.length ⟨R.tags, encF R a.2.1⟩ (D.enc a.2.2)).bind fun q => match ckLEq q.2.tag R.tags with
  | true => .ret (q.1, decF R a.2.1.length q.2.f)
  | false => .fail).run
def turnE (D : DecL α) (R : RowD ρ) (M : List ρ × α → T (List ρ)) : List AV → Option (T AV)
  | .osl _ _ _ :: .xsl wd n g _ _ _ :: xs => match Nat.beq wd R.wd && ckLEq g.tag R.tags with
    | true => match D.dec xs with
      | some a => some ((M (decF R n g.f, a)).bind fun l => .ret (.xsl R.wd n ⟨R.tags, encF R l⟩ 0 n none))
      | none => none
    | false => none
  | _ => none
theorem turn_of {P : Program} {B : Tab} {f : FuncId} {d : Nat} {D : DecL α} {R : RowD ρ} (hP : okProg P = true) (h : TabOk P B) {l l' : List ρ} {a : α} (hr : ∀ t, turnT1 P B d f D R (t, l, a) = some (t, l')) : MC P f R.wd l.length ⟨R.tags, encF R l⟩ ⟨R.tags, encF R l'⟩ (D.enc a) := by
  have h0 := hr 0
  unfold turnT1 turnBody at h0
  split at h0
  case h_2 => simp [T.bind, T.run] at h0
  rename_i fn hf
  split at h0
  case h_2 => simp [T.bind, T.run] at h0
  rename_i c hb hres
  have key : ∀ t, ∃ e st g1, (DT P (mkCfg B (lvl P B d) f) c (turnSt fn t R.wd l.length ⟨R.tags, encF R l⟩ (D.enc a))).run = some (e, st) ∧ endOk e = true ∧ st.out = [] ∧ turnEnd st R.wd = some (t, g1) ∧ g1.tag = R.tags ∧ decF R l.length g1.f = l' := by
    intro t
    have ht := hr t
    unfold turnT1 turnBody at ht
    rw [hf] at ht
    simp only [hb, hres] at ht
    obtain ⟨⟨t1, g1⟩, h1, h2⟩ := T.run_bind ht
    obtain ⟨⟨e, st⟩, h3, h4⟩ := T.run_bind h1
    simp only at h4
    split at h4
    case h_2 => simp [T.run] at h4
    rename_i hc
    simp only [Bool.and_eq_true, List.isEmpty_iff] at hc
    split at h4
    case h_2 => simp [T.run] at h4
    rename_i q hq
    simp only [T.run, Option.some.injEq] at h4; subst h4
    simp only at h2
    split at h2
    case h_2 => simp [T.run] at h2
    rename_i ht1
    simp only [T.run, Option.some.injEq, Prod.mk.injEq] at h2
    obtain ⟨rfl, h2⟩ := h2
    exact ⟨e, st, g1, h3, hc.1, hc.2, hq, ckLEq_eq ht1, h2⟩
  refine MC.of_ldN (S := fun t e st => (DT P (mkCfg B (lvl P B d) f) c (turnSt fn t R.wd l.length ⟨R.tags, encF R l⟩ (D.enc a))).run = some (e, st)) hf hb hres (fun t => ?_) (fun t e st hs => ?_)
  · obtain ⟨e, st, g1, h1, h2, h3, h4, h5, h6⟩ := key t
    have hld := DT_ld (lvl_ok hP h d f) (okProg_mixed hP) c (okProg_code hP hf hb) (fun x hx => by simpa [nodesFn, hf, hb] using hx) _ _ _ h1
    have hq : (fun (e' : Exit) (s' : St) => (DT P (mkCfg B (lvl P B d) f) c (turnSt fn t R.wd l.length ⟨R.tags, encF R l⟩ (D.enc a))).run = some (e', s')) = fun e' s' => e' = e ∧ s' = st := by
      funext e' s'
      rw [h1]
      exact propext ⟨fun h => by injection h with h; injection h with h h'; exact ⟨h.symm, h'.symm⟩, fun h => by rw [h.1, h.2]⟩
    rw [hq]
    exact LdN.of hld (by rw [h3]; rfl)
  · obtain ⟨e1, st1, g1, h1, h2, h3, h4, h5, h6⟩ := key t
    rw [h1] at hs
    injection hs with hs; injection hs with hs1 hs2
    subst hs1; subst hs2
    refine ⟨endOk_or h2, g1, h4, fun i k hi hk => ?_⟩
    rw [← h6]
    simp only [Get.cell]
    rw [encF_dec hi hk, h5]
theorem turnE_cc {P : Program} {f : FuncId} {D : DecL α} {R : RowD ρ} {M : List ρ × α → T (List ρ)} (hM : ∀ l a l', (M (l, a)).run = some l' → MC P f R.wd l.length ⟨R.tags, encF R l⟩ ⟨R.tags, encF R l'⟩ (D.enc a)) (args : List AV) (u : T AV) (v : AV) (hu : turnE D R M args = some u) (hr : u.run = some v) : CC P f args v := by
  unfold turnE at hu
  split at hu
  case h_2 => cases hu
  rename_i wd n g _ _ _ xs
  split at hu
  case h_2 => cases hu
  rename_i hb
  simp only [Bool.and_eq_true] at hb
  have e1 := Nat.eq_of_beq_eq_true hb.1; have e2 := ckLEq_eq hb.2; subst e1
  split at hu
  case h_2 => cases hu
  rename_i a ha
  injection hu with hu; subst hu
  obtain ⟨l', h1, h2⟩ := T.run_bind hr
  simp [T.run] at h2; subst h2
  have hm := hM _ _ _ h1
  rw [decF_length] at hm
  intro ro m A w t e c rows us hA hAe h0 hnc hwd hown hrows hus
  refine hm ro m A w t e c rows us hA hAe h0 hnc hwd hown (fun i k hi hk => ?_) (D.ok _ _ ha _ _ _ _ hus)
  obtain ⟨z, hz1, hz2⟩ := hrows i k hi hk
  refine ⟨z, hz1, ?_⟩
  simp only [Get.cell] at hz2 ⊢
  rw [encF_dec hi hk, ← e2]; exact hz2
def DecB.rowsT (R : RowD ρ) (E : DecB α) : DecB ((TypeId × List ρ) × α) where
  enc p := .list p.1.1 R.wd 0 p.1.2.length ⟨R.tags, encF R p.1.2⟩ :: E.enc p.2
  dec x := match x with
    | .list t' wd' v n g :: ys => match Nat.beq wd' R.wd && (Nat.beq v 0 && ckLEq g.tag R.tags) with
      | true => match E.dec ys with
        | some b => some ((t', decF R n g.f), b)
        | none => none
      | false => none
    | _ => none
  len x a h := by
    split at h
    · split at h
      · split at h
        · rename_i b hb; injection h with h; subst h; simp [E.len _ _ hb]
        · simp at h
      · simp at h
    · simp at h
  ok x a h j k k' hk hk' := by
    split at h
    case h_2 => simp at h
    rename_i t' wd' v n g ys
    split at h
    case h_2 => simp at h
    rename_i hc
    simp only [Bool.and_eq_true] at hc
    have c2 := Nat.eq_of_beq_eq_true hc.1; have c3 := Nat.eq_of_beq_eq_true hc.2.1; have c4 := ckLEq_eq hc.2.2
    subst c2; subst c3
    split at h
    case h_2 => simp at h
    rename_i b hb
    injection h with h; subst h
    exact (DecB.rows t' R E).ok (.list t' R.wd 0 n g :: ys) (decF R n g.f, b) (by
      show (match (Nat.beq t' t' && Nat.beq R.wd R.wd) && (Nat.beq 0 0 && ckLEq g.tag R.tags) with
        | true => (match E.dec ys with
          | some b => some (decF R n g.f, b)
          | none => none)
        | false => none) = _
      have h1 : Nat.beq t' t' = true := by simp
      have h2 : Nat.beq R.wd R.wd = true := by simp
      rw [h1, h2, hc.2.2, hb]; rfl) j k k' hk hk'
end
end Go.Proofs.YtelpdkojdfnmiaaGreat.Ev
/-! LS1 -/
namespace Go.Proofs.YtelpdkojdfnmiaaGreat
open Ev K
set_option maxRecDepth 100000
def D_pst2 := DecL.cons dPosting (.last dPosting 0)
theorem fn_cmpD : ∀ a, (callT1 P BLD47 30 70 D_pst2 dInt) a = T.run (
  .ret (l_cmp (Pst.day a.1, Pst.day a.2))) := fun a => by kernel_rfl
noncomputable def K.cmpD (a : Pst × Pst) : Int := l_cmp (Pst.day a.1, Pst.day a.2)
theorem eq_cmpD (a : Pst × Pst) : (callT1 P BLD47 30 70 D_pst2 dInt) a = some (K.cmpD a) := (fn_cmpD a).trans rfl
noncomputable def BLS11 : Tab := BLD47.addCall 70 (callE D_pst2 dInt (fun a => .ret (K.cmpD a)))
theorem tLS11 : TabOk P BLS11 := TabOk.addFn (d := 30) okP tLD47 (fun a r h => by rw [eq_cmpD]; exact congrArg some (ret_some h))
def F_cmpD : Dec Unit := dFn 70 (.tops 0)
def V_own : DecL Nat := .last (dO 0) 0
def O_pT : DecB ((TypeId × List Pst) × Unit) := .rowsT rPost .nil
def E_in9 : DecL (Nat × Int × Int × Int) := .cons (dO 0) (.cons dInt (.cons dInt (.unit F_cmpD (.skips 4 (.last dInt 44)))))
def S_in33 := DecS.rnd (.cons (dO 0) (.cons dInt (.cons dInt (.unit F_cmpD (.skips 4 (.cons dInt (.last dInt 43))))))) O_pT V_own
def X_in33 := DecX.one (.exit 2) [0, 8, 3, 1, 2] (DecS.rnd E_in9 O_pT V_own)
noncomputable def K.st_in33 := loopT1 P BLS11 30 124 33 [9, 0, 3, 1, 2, 8] S_in33 X_in33
theorem sl_in33 : ∀ s, (K.st_in33) s = T.run (
  .br (decide (s.1.2.2.2.2 > s.1.2.1)) (
    .chk (decide ((0 : Int) ≤ s.1.2.2.2.2 ∧ s.1.2.2.2.2 < (↑s.1.1 : Int))) <|
    .chk (decide ((0 : Int) ≤ IntKind.wrap IntKind.i64 (s.1.2.2.2.2 - (1 : Int)) ∧ IntKind.wrap IntKind.i64 (s.1.2.2.2.2 - (1 : Int)) < (↑s.1.1 : Int))) <|
    .br (decide (cmpD (Pst.mk (numOf (encF rPost s.2.1.1.2 (Int.toNat s.1.2.2.2.2) (0 : Nat))) (numOf (encF rPost s.2.1.1.2 (Int.toNat s.1.2.2.2.2) (nat_lit 1))) (numOf (encF rPost s.2.1.1.2 (Int.toNat s.1.2.2.2.2) (nat_lit 2))) (numOf (encF rPost s.2.1.1.2 (Int.toNat s.1.2.2.2.2) (nat_lit 3))), Pst.mk (numOf (encF rPost s.2.1.1.2 (Int.toNat (IntKind.wrap IntKind.i64 (s.1.2.2.2.2 - (1 : Int)))) (0 : Nat))) (numOf (encF rPost s.2.1.1.2 (Int.toNat (IntKind.wrap IntKind.i64 (s.1.2.2.2.2 - (1 : Int)))) (nat_lit 1))) (numOf (encF rPost s.2.1.1.2 (Int.toNat (IntKind.wrap IntKind.i64 (s.1.2.2.2.2 - (1 : Int)))) (nat_lit 2))) (numOf (encF rPost s.2.1.1.2 (Int.toNat (IntKind.wrap IntKind.i64 (s.1.2.2.2.2 - (1 : Int)))) (nat_lit 3)))) < (0 : Int))) (
      .chk (decide ((0 : Int) ≤ IntKind.wrap IntKind.i64 (s.1.2.2.2.2 - (1 : Int)) ∧ IntKind.wrap IntKind.i64 (s.1.2.2.2.2 - (1 : Int)) < (↑s.1.1 : Int))) <|
      .chk (decide ((0 : Int) ≤ s.1.2.2.2.2 ∧ s.1.2.2.2.2 < (↑s.1.1 : Int))) <|
      .chk (decide ((0 : Int) ≤ s.1.2.2.2.2 ∧ s.1.2.2.2.2 < (↑s.1.1 : Int))) <|
      .chk (decide ((0 : Int) ≤ IntKind.wrap IntKind.i64 (s.1.2.2.2.2 - (1 : Int)) ∧ IntKind.wrap IntKind.i64 (s.1.2.2.2.2 - (1 : Int)) < (↑s.1.1 : Int))) <|
      .ret (Sum.inl ((s.1.1, s.1.2.1, s.1.2.2.1, s.1.2.2.2.1, IntKind.wrap IntKind.i64 (s.1.2.2.2.2 - (1 : Int))), ((s.2.1.1.1, decF rPost (List.length s.2.1.1.2) (setR (Int.toNat (IntKind.wrap IntKind.i64 (s.1.2.2.2.2 - (1 : Int)))) (0 : Nat) (nat_lit 4) [AV.int IntKind.i64 (numOf (encF rPost s.2.1.1.2 (Int.toNat s.1.2.2.2.2) (0 : Nat))), AV.int IntKind.i64 (numOf (encF rPost s.2.1.1.2 (Int.toNat s.1.2.2.2.2) (nat_lit 1))), AV.int IntKind.i64 (numOf (encF rPost s.2.1.1.2 (Int.toNat s.1.2.2.2.2) (nat_lit 2))), AV.int IntKind.i64 (numOf (encF rPost s.2.1.1.2 (Int.toNat s.1.2.2.2.2) (nat_lit 3)))] (setR (Int.toNat s.1.2.2.2.2) (0 : Nat) (nat_lit 4) [AV.int IntKind.i64 (numOf (encF rPost s.2.1.1.2 (Int.toNat (IntKind.wrap IntKind.i64 (s.1.2.2.2.2 - (1 : Int)))) (0 : Nat))), AV.int IntKind.i64 (numOf (encF rPost s.2.1.1.2 (Int.toNat (IntKind.wrap IntKind.i64 (s.1.2.2.2.2 - (1 : Int)))) (nat_lit 1))), AV.int IntKind.i64 (numOf (encF rPost s.2.1.1.2 (Int.toNat (IntKind.wrap IntKind.i64 (s.1.2.2.2.2 - (1 : Int)))) (nat_lit 2))), AV.int IntKind.i64 (numOf (encF rPost s.2.1.1.2 (Int.toNat (IntKind.wrap IntKind.i64 (s.1.2.2.2.2 - (1 : Int)))) (nat_lit 3)))] (encF rPost s.2.1.1.2)))), PUnit.unit), s.2.2))) (
      .ret (Sum.inr ((s.1.1, s.1.2.1, s.1.2.2.1, s.1.2.2.2.1), ((s.2.1.1.1, decF rPost (List.length s.2.1.1.2) (encF rPost s.2.1.1.2)), PUnit.unit), s.2.2)))) (
    .ret (Sum.inr ((s.1.1, s.1.2.1, s.1.2.2.1, s.1.2.2.2.1), ((s.2.1.1.1, decF rPost (List.length s.2.1.1.2) (encF rPost s.2.1.1.2)), PUnit.unit), s.2.2)))) := fun s => by kernel_rfl
noncomputable def K.L_in33 := lim K.st_in33
noncomputable def BLS12 : Tab := BLS11.addNode 124 33 (nodeE [9, 0, 3, 1, 2, 8] S_in33 X_in33 (fun s => .obs (K.L_in33 s) .ret))
theorem tLS12 : TabOk P BLS12 := TabOk.addLoop (d := 30) okP tLS11 (by kernel_rfl) (by kernel_rfl) (fun s r h => obs_ret h)
def S_in9 := DecS.rnd E_in9 O_pT V_own
def X_in9 := DecX.one (.exit 0) [] (DecS.rnd (.tops 53) O_pT V_own)
noncomputable def K.st_in9 := loopT1 P BLS12 30 124 9 [0, 8, 3, 1, 2] S_in9 X_in9
theorem sl_in9 : ∀ s, (K.st_in9) s = T.run (
  .br (decide (s.1.2.2.2 < s.1.2.2.1)) (
    .obs (L_in33 ((s.1.1, s.1.2.1, s.1.2.2.1, s.1.2.2.2, s.1.2.2.2), ((s.2.1.1.1, decF rPost (List.length s.2.1.1.2) (encF rPost s.2.1.1.2)), PUnit.unit), s.2.2)) fun x0 =>
      .ret (Sum.inl ((x0.1.1, x0.1.2.1, x0.1.2.2.1, IntKind.wrap IntKind.i64 (x0.1.2.2.2 + (1 : Int))), ((x0.2.1.1.1, decF rPost (List.length x0.2.1.1.2) (encF rPost x0.2.1.1.2)), PUnit.unit), x0.2.2))) (
    .ret (Sum.inr (PUnit.unit, ((s.2.1.1.1, decF rPost (List.length s.2.1.1.2) (encF rPost s.2.1.1.2)), PUnit.unit), s.2.2)))) := fun s => by kernel_rfl
noncomputable def K.L_in9 := lim K.st_in9
noncomputable def BLS13 : Tab := BLS12.addNode 124 9 (nodeE [0, 8, 3, 1, 2] S_in9 X_in9 (fun s => .obs (K.L_in9 s) .ret))
theorem tLS13 : TabOk P BLS13 := TabOk.addLoop (d := 30) okP tLS12 (by kernel_rfl) (by kernel_rfl) (fun s r h => obs_ret h)
def D_ins : DecL (Int × Int) := (DecL.cons dInt (.cons dInt (.unit F_cmpD (.tops 0)))).iso (fun p => (p.1, p.2.1)) (fun p => (p.1, p.2, ())) (fun _ => rfl)
theorem fn_ins : ∀ a, (turnT1 P BLS13 30 124 D_ins rPost) a = T.run (
  .obs (L_in9 ((List.length a.2.1, a.2.2.1, a.2.2.2, IntKind.wrap IntKind.i64 (a.2.2.1 + (1 : Int))), ((a.1, decF rPost (List.length a.2.1) (encF rPost a.2.1)), PUnit.unit), List.length a.2.1)) fun x0 =>
    .ret ((x0.2.1.1.1, decF rPost (List.length a.2.1) (encF rPost x0.2.1.1.2)))) := fun a => by kernel_rfl
end Go.Proofs.YtelpdkojdfnmiaaGreat
/-! LS2 -/
namespace Go.Proofs.YtelpdkojdfnmiaaGreat
open Ev K
set_option maxRecDepth 100000
namespace K
theorem decF_setP (n i : Nat) (a b c d : Int) (f : Nat → Nat → AV) : decF rPost n (setR i 0 4 [.int .i64 a, .int .i64 b, .int .i64 c, .int .i64 d] f) = (decF rPost n f).set i ⟨a, b, c, d⟩ := by
  apply List.ext_getElem?
  intro j
  by_cases hj : j < n
  · rw [List.getElem?_set]
    simp only [decF, List.getElem?_map, List.getElem?_range hj, Option.map_some, List.length_map, List.length_range]
    by_cases e : i = j
    · subst e
      rw [if_pos rfl, if_pos hj]
      have hb : Nat.beq i i = true := by simp
      simp only [rPost, setR, hb]; rfl
    · rw [if_neg e]
      have hb : Nat.beq j i = false := by rw [← Bool.not_eq_true, Nat.beq_eq]; omega
      simp only [rPost, setR, hb]; rfl
  · rw [List.getElem?_eq_none (by simp [decF]; omega), List.getElem?_eq_none (by simp [decF]; omega)]
theorem cmpD_neg (x y : Pst) : cmpD (x, y) < 0 ↔ x.day < y.day := by
  unfold cmpD; rw [l_cmp_eq]
  split
  · rename_i h; exact ⟨fun _ => h, fun _ => by decide⟩
  · rename_i h
    refine ⟨fun h2 => ?_, fun h2 => absurd h2 h⟩
    split at h2
    · exact absurd h2 (by decide)
    · exact absurd h2 (by decide)
theorem mid_swap {P Q : List Pst} {x y : Pst} : ((P ++ y :: x :: Q).set (P.length + 1) y).set P.length x = P ++ x :: y :: Q := by
  have h : P ++ y :: x :: Q = (P ++ [y]) ++ x :: Q := by simp
  rw [h, show P.length + 1 = (P ++ [y]).length by simp, set_mid, List.append_assoc]
  exact set_mid
theorem get_mid2 {P Q : List Pst} {x y : Pst} : (P ++ y :: x :: Q)[P.length + 1]? = some x := by
  have h : P ++ y :: x :: Q = (P ++ [y]) ++ x :: Q := by simp
  rw [h, show P.length + 1 = (P ++ [y]).length by simp]; exact get_mid
def insP (A : List Pst) (x : Pst) : List Pst := (A.dropWhile fun y => decide (x.day < y.day)).reverse ++ x :: (A.takeWhile fun y => decide (x.day < y.day)).reverse
theorem L_in33_eq (t : TypeId) (pre : List Pst) (b i : Int) (v : Nat) (x : Pst) : ∀ (A C : List Pst), pre.length + A.length + C.length ≤ 1000000 →
    L_in33 (((pre ++ (A.reverse ++ x :: C)).length, (pre.length : Int), b, i, ((pre.length + A.length : Nat) : Int)), ((t, pre ++ (A.reverse ++ x :: C)), ()), v) = some (((pre ++ (A.reverse ++ x :: C)).length, (pre.length : Int), b, i), ((t, pre ++ (insP A x ++ C)), ()), v)
  | [], C, _ => by
    refine lim_done ?_
    rw [sl_in33]
    simp only [decF_encF]
    exact br_f (decide_eq_false (by simp)) rfl
  | y :: A, C, hl => by
    have hlen : (pre ++ ((y :: A).reverse ++ x :: C)).length = pre.length + A.length + C.length + 2 := by simp; omega
    simp only [List.length_cons] at hl
    have e0 : pre ++ ((y :: A).reverse ++ x :: C) = (pre ++ A.reverse) ++ y :: x :: C := by simp
    have el : (pre ++ A.reverse).length = pre.length + A.length := by simp
    have gy : (pre ++ ((y :: A).reverse ++ x :: C))[pre.length + A.length]? = some y := by rw [e0, ← el]; exact get_mid
    have gx : (pre ++ ((y :: A).reverse ++ x :: C))[pre.length + A.length + 1]? = some x := by rw [e0, ← el]; exact get_mid2
    have w1 : IntKind.i64.wrap (((pre.length + (A.length + 1) : Nat) : Int) - 1) = ((pre.length + A.length : Nat) : Int) := by rw [w64_in (by omega) (by omega)]; omega
    have hsw : ((pre ++ ((y :: A).reverse ++ x :: C)).set (pre.length + A.length + 1) y).set (pre.length + A.length) x = pre ++ (A.reverse ++ x :: y :: C) := by
      rw [e0, ← el, mid_swap, List.append_assoc]
    generalize hR : pre ++ ((y :: A).reverse ++ x :: C) = R at hlen gy gx hsw ⊢
    rw [show (y :: A).length = A.length + 1 from rfl]
    have gx' : R[pre.length + (A.length + 1)]? = some x := gx
    by_cases h : x.day < y.day
    · have hs : st_in33 ((R.length, (pre.length : Int), b, i, ((pre.length + (A.length + 1) : Nat) : Int)), ((t, R), ()), v) = some (.inl ((R.length, (pre.length : Int), b, i, ((pre.length + A.length : Nat) : Int)), ((t, pre ++ (A.reverse ++ x :: y :: C)), ()), v)) := by
        rw [sl_in33]
        simp only [Int.toNat_natCast, w1, post_at gx', post_at gy, pw0, pw1, pw2, pw3, decF_setP, decF_encF]
        refine br_t (decide_eq_true (by omega)) (chk_step (decide_eq_true (by omega)) (chk_step (decide_eq_true (by omega)) (br_t (decide_eq_true ((cmpD_neg x y).2 h)) ?_)))
        refine chk_step (decide_eq_true (by omega)) (chk_step (decide_eq_true (by omega)) (chk_step (decide_eq_true (by omega)) (chk_step (decide_eq_true (by omega)) ?_)))
        rw [show pre.length + (A.length + 1) = pre.length + A.length + 1 from rfl, hsw]; rfl
      refine (lim_step hs).trans ?_
      have ih := L_in33_eq t pre b i v x A (y :: C) (by simp; omega)
      have hl2 : (pre ++ (A.reverse ++ x :: y :: C)).length = R.length := by rw [hlen]; simp; omega
      rw [hl2] at ih
      rw [show lim st_in33 = L_in33 from rfl, ih]
      have e2 : insP (y :: A) x ++ C = insP A x ++ y :: C := by
        unfold insP
        rw [List.dropWhile_cons_of_pos (by simpa using h), List.takeWhile_cons_of_pos (by simpa using h)]; simp
      rw [e2]
    · refine lim_done ?_
      rw [sl_in33]
      simp only [Int.toNat_natCast, w1, post_at gx', post_at gy, pw0, pw1, pw2, pw3, decF_encF]
      refine br_t (decide_eq_true (by omega)) (chk_step (decide_eq_true (by omega)) (chk_step (decide_eq_true (by omega)) (br_f (decide_eq_false (fun hc => h ((cmpD_neg x y).1 hc))) ?_)))
      have e2 : insP (y :: A) x ++ C = (y :: A).reverse ++ x :: C := by
        unfold insP
        rw [List.dropWhile_cons_of_neg (by simpa using h), List.takeWhile_cons_of_neg (by simpa using h)]; simp
      rw [e2, hR]; rfl
theorem L_in9_eq (t : TypeId) (pre post : List Pst) (v : Nat) : ∀ (T S : List Pst), Sd S → pre.length + S.length + T.length + post.length ≤ 1000000 → ∃ R, Sd R ∧ StEq (S ++ T) R ∧
    L_in9 (((pre ++ (S ++ (T ++ post))).length, (pre.length : Int), ((pre.length + S.length + T.length : Nat) : Int), ((pre.length + S.length : Nat) : Int)), ((t, pre ++ (S ++ (T ++ post))), ()), v) = some ((), ((t, pre ++ (R ++ post)), ()), v)
  | [], S, hs, _ => by
    refine ⟨S, hs, by rw [List.append_nil]; exact StEq.refl S, lim_done ?_⟩
    rw [sl_in9]
    simp only [decF_encF]
    exact br_f (decide_eq_false (by simp)) rfl
  | x :: T, S, hs, hl => by
    simp only [List.length_cons] at hl
    have h33 := L_in33_eq t pre ((pre.length + S.length + (T.length + 1) : Nat) : Int) ((pre.length + S.length : Nat) : Int) v x S.reverse (T ++ post) (by simp; omega)
    rw [List.reverse_reverse, List.length_reverse] at h33
    have hins := st_insert (A := S.reverse) (x := x) (by rw [List.reverse_reverse]; exact hs)
    rw [List.reverse_reverse] at hins
    change Sd (insP S.reverse x) ∧ StEq (S ++ [x]) (insP S.reverse x) at hins
    generalize hI : insP S.reverse x = I at h33 hins
    have hIl : I.length = S.length + 1 := by have := hins.2.len; simp at this; exact this.symm
    obtain ⟨R, r1, r2, r3⟩ := L_in9_eq t pre post v T I hins.1 (by omega)
    refine ⟨R, r1, ?_, ?_⟩
    · have e : S ++ x :: T = (S ++ [x]) ++ T := by simp
      rw [e]
      exact (hins.2.app (StEq.refl T)).trans r2
    · have w1 : IntKind.i64.wrap (((pre.length + S.length : Nat) : Int) + 1) = ((pre.length + I.length : Nat) : Int) := by rw [w64_in (by omega) (by omega), hIl]; omega
      have hlen : (pre ++ (S ++ (x :: T ++ post))).length = (pre ++ (I ++ (T ++ post))).length := by simp [hIl]; omega
      have hs : st_in9 (((pre ++ (S ++ (x :: T ++ post))).length, (pre.length : Int), ((pre.length + S.length + (x :: T).length : Nat) : Int), ((pre.length + S.length : Nat) : Int)), ((t, pre ++ (S ++ (x :: T ++ post))), ()), v) =
          some (.inl (((pre ++ (I ++ (T ++ post))).length, (pre.length : Int), ((pre.length + I.length + T.length : Nat) : Int), ((pre.length + I.length : Nat) : Int)), ((t, pre ++ (I ++ (T ++ post))), ()), v)) := by
        rw [sl_in9]
        simp only [decF_encF]
        refine br_t (decide_eq_true (by simp only [List.length_cons]; omega)) (obs_step h33 ?_)
        simp only [w1]
        rw [show pre.length + S.length + (T.length + 1) = pre.length + I.length + T.length by omega, show (pre ++ (S ++ x :: (T ++ post))).length = (pre ++ (I ++ (T ++ post))).length from hlen]; rfl
      refine (lim_step hs).trans ?_
      exact r3
def sortSeg (l : List Pst) (a b : Nat) : List Pst := l.take a ++ (stB ((l.drop a).take (b - a)) ++ l.drop b)
theorem seg_split {l : List Pst} {a b : Nat} (h1 : a ≤ b) (h2 : b ≤ l.length) : l = l.take a ++ ((l.drop a).take (b - a) ++ l.drop b) := by
  have e : l.drop b = (l.drop a).drop (b - a) := by rw [List.drop_drop, show a + (b - a) = b by omega]
  rw [e, List.take_append_drop, List.take_append_drop]
theorem sd_one (x : Pst) : Sd [x] := List.pairwise_singleton ..
theorem ins_turn (t : TypeId) (l : List Pst) (a b : Nat) (h1 : a ≤ b) (h2 : b ≤ l.length) (h3 : l.length ≤ 1000000) : turnT1 P BLS13 30 124 D_ins rPost (t, l, (a : Int), (b : Int)) = some (t, sortSeg l a b) := by
  rw [fn_ins]
  have hsp := seg_split h1 h2
  unfold sortSeg
  have hl1 : (l.take a).length = a := by rw [List.length_take]; omega
  have hl2 : ((l.drop a).take (b - a)).length = b - a := by rw [List.length_take, List.length_drop]; omega
  have hl3 : (l.drop b).length = l.length - b := List.length_drop
  generalize l.take a = pre at hsp hl1 ⊢
  generalize (l.drop a).take (b - a) = T at hsp hl2 ⊢
  generalize l.drop b = post at hsp hl3 ⊢
  simp only [decF_encF]
  have w1 : IntKind.i64.wrap ((a : Int) + 1) = ((a + 1 : Nat) : Int) := by rw [w64_in (by omega) (by omega)]; rfl
  rw [w1]
  cases T with
  | nil =>
    simp only [List.length_nil] at hl2
    have hs : stB [] = [] := List.mergeSort_nil
    rw [hs]
    refine obs_step (x := ((), ((t, l), ()), l.length)) (lim_done ?_) ?_
    · rw [sl_in9]
      simp only [decF_encF]
      exact br_f (decide_eq_false (by omega)) rfl
    · simp only [decF_encF]; rw [← hsp]; rfl
  | cons x T =>
    simp only [List.length_cons] at hl2
    obtain ⟨R, r1, r2, r3⟩ := L_in9_eq t pre post l.length T [x] (sd_one x) (by simp; omega)
    have hR : R = stB (x :: T) := stB_of r2 r1
    subst hR
    have e1 : pre ++ ([x] ++ (T ++ post)) = l := by rw [hsp]; simp
    rw [e1, hl1, show a + [x].length + T.length = b by simp; omega, show a + [x].length = a + 1 from rfl] at r3
    refine obs_step r3 ?_
    have hlen : (pre ++ (stB (x :: T) ++ post)).length = l.length := by rw [List.length_append, List.length_append, stB_len, hl1, hl3, List.length_cons]; omega
    simp only
    rw [← hlen, decF_encF]; rfl
def M_ins (a : List Pst × Int × Int) : T (List Pst) := .chk (decide (0 ≤ a.2.1 ∧ a.2.1 ≤ a.2.2 ∧ a.2.2 ≤ a.1.length ∧ a.1.length ≤ 1000000)) (.ret (sortSeg a.1 a.2.1.toNat a.2.2.toNat))
theorem ins_mc (l : List Pst) (a : Int × Int) (l' : List Pst) (h : (M_ins (l, a)).run = some l') : MC P 124 rPost.wd l.length ⟨rPost.tags, encF rPost l⟩ ⟨rPost.tags, encF rPost l'⟩ (D_ins.enc a) := by
  obtain ⟨x, y⟩ := a
  obtain ⟨g, e⟩ := chk_ret h
  subst e
  have g := of_decide_eq_true g
  simp only at g
  obtain ⟨a, rfl⟩ : ∃ a : Nat, x = a := ⟨x.toNat, by omega⟩
  obtain ⟨b, rfl⟩ : ∃ b : Nat, y = b := ⟨y.toNat, by omega⟩
  exact turn_of (d := 30) okP tLS13 fun t => ins_turn t l a b (by omega) (by omega) g.2.2.2
end K
noncomputable def BLS2i : Tab := BLS13.addTurn 124 (turnE D_ins rPost K.M_ins)
theorem tLS2i : TabOk P BLS2i := TabOk.addTurn tLS13 (turnE_cc K.ins_mc)
end Go.Proofs.YtelpdkojdfnmiaaGreat
/-! LS3 -/
namespace Go.Proofs.YtelpdkojdfnmiaaGreat
open Ev K
set_option maxRecDepth 100000
def S_sw := DecS.rnd (.cons (dO 0) (.cons dInt (.cons dInt (.cons dInt (.skips 6 (.last dInt 27)))))) O_pT V_own
def X_sw := DecX.one (.exit 0) [] (DecS.rnd (.tops 38) O_pT V_own)
noncomputable def K.st_sw := loopT1 P BLS2i 30 164 9 [10, 1, 0, 2, 3] S_sw X_sw
theorem sl_sw : ∀ s, (K.st_sw) s = T.run (
  .br (decide (s.1.2.2.2.2 < s.1.2.2.2.1)) (
    .chk (decide ((0 : Int) ≤ IntKind.wrap IntKind.i64 (s.1.2.2.1 + s.1.2.2.2.2) ∧ IntKind.wrap IntKind.i64 (s.1.2.2.1 + s.1.2.2.2.2) < (↑s.1.1 : Int))) <|
    .chk (decide ((0 : Int) ≤ IntKind.wrap IntKind.i64 (s.1.2.1 + s.1.2.2.2.2) ∧ IntKind.wrap IntKind.i64 (s.1.2.1 + s.1.2.2.2.2) < (↑s.1.1 : Int))) <|
    .chk (decide ((0 : Int) ≤ IntKind.wrap IntKind.i64 (s.1.2.1 + s.1.2.2.2.2) ∧ IntKind.wrap IntKind.i64 (s.1.2.1 + s.1.2.2.2.2) < (↑s.1.1 : Int))) <|
    .chk (decide ((0 : Int) ≤ IntKind.wrap IntKind.i64 (s.1.2.2.1 + s.1.2.2.2.2) ∧ IntKind.wrap IntKind.i64 (s.1.2.2.1 + s.1.2.2.2.2) < (↑s.1.1 : Int))) <|
    .ret (Sum.inl ((s.1.1, s.1.2.1, s.1.2.2.1, s.1.2.2.2.1, IntKind.wrap IntKind.i64 (s.1.2.2.2.2 + (1 : Int))), ((s.2.1.1.1, decF rPost (List.length s.2.1.1.2) (setR (Int.toNat (IntKind.wrap IntKind.i64 (s.1.2.2.1 + s.1.2.2.2.2))) (0 : Nat) (nat_lit 4) [AV.int IntKind.i64 (numOf (encF rPost s.2.1.1.2 (Int.toNat (IntKind.wrap IntKind.i64 (s.1.2.1 + s.1.2.2.2.2))) (0 : Nat))), AV.int IntKind.i64 (numOf (encF rPost s.2.1.1.2 (Int.toNat (IntKind.wrap IntKind.i64 (s.1.2.1 + s.1.2.2.2.2))) (nat_lit 1))), AV.int IntKind.i64 (numOf (encF rPost s.2.1.1.2 (Int.toNat (IntKind.wrap IntKind.i64 (s.1.2.1 + s.1.2.2.2.2))) (nat_lit 2))), AV.int IntKind.i64 (numOf (encF rPost s.2.1.1.2 (Int.toNat (IntKind.wrap IntKind.i64 (s.1.2.1 + s.1.2.2.2.2))) (nat_lit 3)))] (setR (Int.toNat (IntKind.wrap IntKind.i64 (s.1.2.1 + s.1.2.2.2.2))) (0 : Nat) (nat_lit 4) [AV.int IntKind.i64 (numOf (encF rPost s.2.1.1.2 (Int.toNat (IntKind.wrap IntKind.i64 (s.1.2.2.1 + s.1.2.2.2.2))) (0 : Nat))), AV.int IntKind.i64 (numOf (encF rPost s.2.1.1.2 (Int.toNat (IntKind.wrap IntKind.i64 (s.1.2.2.1 + s.1.2.2.2.2))) (nat_lit 1))), AV.int IntKind.i64 (numOf (encF rPost s.2.1.1.2 (Int.toNat (IntKind.wrap IntKind.i64 (s.1.2.2.1 + s.1.2.2.2.2))) (nat_lit 2))), AV.int IntKind.i64 (numOf (encF rPost s.2.1.1.2 (Int.toNat (IntKind.wrap IntKind.i64 (s.1.2.2.1 + s.1.2.2.2.2))) (nat_lit 3)))] (encF rPost s.2.1.1.2)))), PUnit.unit), s.2.2))) (
    .ret (Sum.inr (PUnit.unit, ((s.2.1.1.1, decF rPost (List.length s.2.1.1.2) (encF rPost s.2.1.1.2)), PUnit.unit), s.2.2)))) := fun s => by kernel_rfl
noncomputable def K.L_sw := lim K.st_sw
noncomputable def BLS31 : Tab := BLS2i.addNode 164 9 (nodeE [10, 1, 0, 2, 3] S_sw X_sw (fun s => .obs (K.L_sw s) .ret))
theorem tLS31 : TabOk P BLS31 := TabOk.addLoop (d := 30) okP tLS2i (by kernel_rfl) (by kernel_rfl) (fun s r h => obs_ret h)
def D_sw : DecL (Int × Int × Int) := (DecL.cons dInt (.cons dInt (.cons dInt (.unit F_cmpD (.tops 0))))).iso (fun p => (p.1, p.2.1, p.2.2.1)) (fun p => (p.1, p.2.1, p.2.2, ())) (fun _ => rfl)
theorem fn_sw : ∀ a, (turnT1 P BLS31 30 164 D_sw rPost) a = T.run (
  .obs (L_sw ((List.length a.2.1, a.2.2.1, a.2.2.2.1, a.2.2.2.2, (0 : Int)), ((a.1, decF rPost (List.length a.2.1) (encF rPost a.2.1)), PUnit.unit), List.length a.2.1)) fun x0 =>
    .ret ((x0.2.1.1.1, decF rPost (List.length a.2.1) (encF rPost x0.2.1.1.2)))) := fun a => by kernel_rfl
namespace K
def swpL (l : List Pst) (a b n : Nat) : List Pst := l.take a ++ ((l.drop b).take n ++ ((l.drop (a + n)).take (b - (a + n)) ++ ((l.drop a).take n ++ l.drop (b + n))))
def M_sw (a : List Pst × Int × Int × Int) : T (List Pst) := .chk (decide (0 ≤ a.2.1 ∧ 0 ≤ a.2.2.2 ∧ a.2.1 + a.2.2.2 ≤ a.2.2.1 ∧ a.2.2.1 + a.2.2.2 ≤ a.1.length ∧ a.1.length ≤ 1000000)) (.ret (swpL a.1 a.2.1.toNat a.2.2.1.toNat a.2.2.2.toNat))
end K
end Go.Proofs.YtelpdkojdfnmiaaGreat
/-! LS4 -/
namespace Go.Proofs.YtelpdkojdfnmiaaGreat
open Ev K
set_option maxRecDepth 100000
namespace K
theorem two_set {α : Type} {P M Q : List α} {x y : α} : ((P ++ x :: (M ++ y :: Q)).set P.length y).set (P.length + 1 + M.length) x = P ++ y :: (M ++ x :: Q) := by
  rw [set_mid]
  have e : P ++ y :: (M ++ y :: Q) = (P ++ y :: M) ++ y :: Q := by simp
  have el : P.length + 1 + M.length = (P ++ y :: M).length := by simp; omega
  rw [e, el, set_mid]; simp
theorem two_get {α : Type} {P M Q : List α} {x y : α} : (P ++ x :: (M ++ y :: Q))[P.length]? = some x ∧ (P ++ x :: (M ++ y :: Q))[P.length + 1 + M.length]? = some y := by
  refine ⟨get_mid, ?_⟩
  have e : P ++ x :: (M ++ y :: Q) = (P ++ x :: M) ++ y :: Q := by simp
  have el : P.length + 1 + M.length = (P ++ x :: M).length := by simp; omega
  rw [e, el]; exact get_mid
theorem L_sw_eq (t : TypeId) (pre mid post : List Pst) (v N a b n : Nat) (hN : N ≤ 1000000) (ha : a = pre.length) : ∀ (X2 Y2 X1 Y1 : List Pst), X2.length = Y2.length → X1.length = Y1.length → n = X1.length + X2.length → b = pre.length + n + mid.length → N = b + n + post.length →
    L_sw ((N, (a : Int), (b : Int), (n : Int), (X1.length : Int)), ((t, pre ++ (Y1 ++ (X2 ++ (mid ++ (X1 ++ (Y2 ++ post)))))), ()), v) = some ((), ((t, pre ++ ((Y1 ++ Y2) ++ (mid ++ ((X1 ++ X2) ++ post)))), ()), v)
  | [], Y2, X1, Y1, h1, h2, hn, hb, hNN => by
    have : Y2 = [] := List.eq_nil_of_length_eq_zero h1.symm
    subst this
    refine lim_done ?_
    rw [sl_sw]
    simp only [decF_encF]
    refine br_f (decide_eq_false (by simp only [List.length_nil] at hn; omega)) ?_
    simp only [List.append_nil, List.nil_append]; rfl
  | x :: X2, [], X1, Y1, h1, _, _, _, _ => by simp at h1
  | x :: X2, y :: Y2, X1, Y1, h1, h2, hn, hb, hNN => by
    simp only [List.length_cons] at h1 hn
    have e0 : pre ++ (Y1 ++ (x :: X2 ++ (mid ++ (X1 ++ (y :: Y2 ++ post))))) = (pre ++ Y1) ++ x :: ((X2 ++ (mid ++ X1)) ++ y :: (Y2 ++ post)) := by simp
    have e1 : pre ++ ((Y1 ++ [y]) ++ (X2 ++ (mid ++ ((X1 ++ [x]) ++ (Y2 ++ post))))) = (pre ++ Y1) ++ y :: ((X2 ++ (mid ++ X1)) ++ x :: (Y2 ++ post)) := by simp
    have lP : (pre ++ Y1).length = a + X1.length := by rw [List.length_append]; omega
    have lM : (pre ++ Y1).length + 1 + (X2 ++ (mid ++ X1)).length = b + X1.length := by rw [List.length_append, List.length_append, List.length_append]; omega
    obtain ⟨g1, g2⟩ := two_get (P := pre ++ Y1) (M := X2 ++ (mid ++ X1)) (Q := Y2 ++ post) (x := x) (y := y)
    have g3 := two_set (P := pre ++ Y1) (M := X2 ++ (mid ++ X1)) (Q := Y2 ++ post) (x := x) (y := y)
    rw [lM] at g2 g3
    rw [lP] at g1 g3
    rw [← e0] at g1 g2 g3
    rw [← e1] at g3
    have w1 : IntKind.i64.wrap ((a : Int) + (X1.length : Int)) = ((a + X1.length : Nat) : Int) := by rw [w64_in (by omega) (by omega)]; rfl
    have w2 : IntKind.i64.wrap ((b : Int) + (X1.length : Int)) = ((b + X1.length : Nat) : Int) := by rw [w64_in (by omega) (by omega)]; rfl
    have w3 : IntKind.i64.wrap ((X1.length : Int) + 1) = ((X1 ++ [x]).length : Int) := by rw [w64_in (by omega) (by omega)]; simp
    have ih := L_sw_eq t pre mid post v N a b n hN ha X2 Y2 (X1 ++ [x]) (Y1 ++ [y]) (by omega) (by simp [h2]) (by simp; omega) hb hNN
    generalize hR : pre ++ (Y1 ++ (x :: X2 ++ (mid ++ (X1 ++ (y :: Y2 ++ post))))) = R at g1 g2 g3 ⊢
    have hs : st_sw ((N, (a : Int), (b : Int), (n : Int), (X1.length : Int)), ((t, R), ()), v) = some (.inl ((N, (a : Int), (b : Int), (n : Int), ((X1 ++ [x]).length : Int)), ((t, pre ++ ((Y1 ++ [y]) ++ (X2 ++ (mid ++ ((X1 ++ [x]) ++ (Y2 ++ post)))))), ()), v)) := by
      rw [sl_sw]
      simp only [w1, w2, w3, Int.toNat_natCast, post_at g1, post_at g2, pw0, pw1, pw2, pw3, decF_setP, decF_encF]
      refine br_t (decide_eq_true (by omega)) (chk_step (decide_eq_true (by omega)) (chk_step (decide_eq_true (by omega)) (chk_step (decide_eq_true (by omega)) (chk_step (decide_eq_true (by omega)) ?_))))
      rw [← g3]; rfl
    refine (lim_step hs).trans (Eq.trans ih ?_)
    simp
theorem sw_turn (t : TypeId) (pre X mid Y post : List Pst) (hXY : X.length = Y.length) (hl : pre.length + X.length + mid.length + Y.length + post.length ≤ 1000000) :
    turnT1 P BLS31 30 164 D_sw rPost (t, pre ++ (X ++ (mid ++ (Y ++ post))), (pre.length : Int), ((pre.length + X.length + mid.length : Nat) : Int), (X.length : Int)) = some (t, pre ++ (Y ++ (mid ++ (X ++ post)))) := by
  rw [fn_sw]
  simp only [decF_encF]
  have hlen : (pre ++ (X ++ (mid ++ (Y ++ post)))).length = pre.length + X.length + mid.length + X.length + post.length := by simp; omega
  have key := L_sw_eq t pre mid post (pre ++ (X ++ (mid ++ (Y ++ post)))).length (pre ++ (X ++ (mid ++ (Y ++ post)))).length pre.length (pre.length + X.length + mid.length) X.length (by omega) rfl X Y [] [] hXY rfl (by simp) rfl hlen
  simp only [List.nil_append] at key
  refine obs_step key ?_
  have h2 : (pre ++ (X ++ (mid ++ (Y ++ post)))).length = (pre ++ (Y ++ (mid ++ (X ++ post)))).length := by simp; omega
  simp only
  rw [h2, decF_encF]; rfl
theorem sw_split {l : List Pst} {a b n : Nat} (h1 : a + n ≤ b) (h2 : b + n ≤ l.length) : l = l.take a ++ ((l.drop a).take n ++ ((l.drop (a + n)).take (b - (a + n)) ++ ((l.drop b).take n ++ l.drop (b + n)))) := by
  have e1 : l.drop (b + n) = (l.drop b).drop n := by rw [List.drop_drop]
  have e2 : l.drop b = (l.drop (a + n)).drop (b - (a + n)) := by rw [List.drop_drop, show a + n + (b - (a + n)) = b by omega]
  have e3 : l.drop (a + n) = (l.drop a).drop n := by rw [List.drop_drop]
  rw [e1, List.take_append_drop]
  conv => rhs; rw [show (l.drop (a + n)).take (b - (a + n)) ++ l.drop b = l.drop (a + n) by rw [e2, List.take_append_drop]]
  rw [e3, List.take_append_drop, List.take_append_drop]
theorem sw_mc (l : List Pst) (a : Int × Int × Int) (l' : List Pst) (h : (M_sw (l, a)).run = some l') : MC P 164 rPost.wd l.length ⟨rPost.tags, encF rPost l⟩ ⟨rPost.tags, encF rPost l'⟩ (D_sw.enc a) := by
  obtain ⟨x, y, z⟩ := a
  obtain ⟨g, e⟩ := chk_ret h
  subst e
  have g := of_decide_eq_true g
  simp only at g
  obtain ⟨a, rfl⟩ : ∃ a : Nat, x = a := ⟨x.toNat, by omega⟩
  obtain ⟨b, rfl⟩ : ∃ b : Nat, y = b := ⟨y.toNat, by omega⟩
  obtain ⟨n, rfl⟩ : ∃ n : Nat, z = n := ⟨z.toNat, by omega⟩
  refine turn_of (d := 30) okP tLS31 fun t => ?_
  have hsp := sw_split (l := l) (a := a) (b := b) (n := n) (by omega) (by omega)
  unfold swpL
  simp only [Int.toNat_natCast]
  have hl1 : (l.take a).length = a := by rw [List.length_take]; omega
  have hl2 : ((l.drop a).take n).length = n := by rw [List.length_take, List.length_drop]; omega
  have hl3 : ((l.drop (a + n)).take (b - (a + n))).length = b - (a + n) := by rw [List.length_take, List.length_drop]; omega
  have hl4 : ((l.drop b).take n).length = n := by rw [List.length_take, List.length_drop]; omega
  have hl5 : (l.drop (b + n)).length = l.length - (b + n) := List.length_drop
  generalize l.take a = pre at *
  generalize (l.drop a).take n = X at *
  generalize (l.drop (a + n)).take (b - (a + n)) = mid at *
  generalize (l.drop b).take n = Y at *
  generalize l.drop (b + n) = post at *
  have key := sw_turn t pre X mid Y post (by omega) (by omega)
  rw [← hsp, hl1, hl2, hl3, show a + n + (b - (a + n)) = b by omega] at key
  exact key
end K
noncomputable def BLS4s : Tab := BLS31.addTurn 164 (turnE D_sw rPost K.M_sw)
theorem tLS4s : TabOk P BLS4s := TabOk.addTurn tLS31 (turnE_cc K.sw_mc)
def E_rot : DecL (Nat × Int × Int × Int) := .cons (dO 0) (.skip (.cons dInt (.skip (.unit F_cmpD (.skips 5 (.cons dInt (.last dInt 46)))))))
def S_rot := DecS.rnd E_rot O_pT V_own
def X_rot := DecX.one (.exit 0) [10, 4, 2, 0] (DecS.rnd (.cons (dO 0) (.skip (.cons dInt (.skip (.unit F_cmpD (.skips 5 (.last dInt 47))))))) O_pT V_own)
noncomputable def K.st_rot := loopT1 P BLS4s 30 147 17 [11, 10, 4, 2, 0] S_rot X_rot
theorem sl_rot : ∀ s, (K.st_rot) s = T.run (
  .br (s.1.2.2.1 != s.1.2.2.2) (
    .br (decide (s.1.2.2.1 > s.1.2.2.2)) (
      .chk (decide ((0 : Int) ≤ IntKind.wrap IntKind.i64 (s.1.2.1 - s.1.2.2.1) ∧ (0 : Int) ≤ s.1.2.2.2 ∧ IntKind.wrap IntKind.i64 (s.1.2.1 - s.1.2.2.1) + s.1.2.2.2 ≤ s.1.2.1 ∧ s.1.2.1 + s.1.2.2.2 ≤ (↑(List.length (decF rPost (List.length s.2.1.1.2) (encF rPost s.2.1.1.2))) : Int) ∧ List.length (decF rPost (List.length s.2.1.1.2) (encF rPost s.2.1.1.2)) ≤ (1000000 : Nat))) <|
      .ret (Sum.inl ((s.1.1, s.1.2.1, IntKind.wrap IntKind.i64 (s.1.2.2.1 - s.1.2.2.2), s.1.2.2.2), ((s.2.1.1.1, decF rPost (List.length s.2.1.1.2) (encF rPost (swpL (decF rPost (List.length s.2.1.1.2) (encF rPost s.2.1.1.2)) (Int.toNat (IntKind.wrap IntKind.i64 (s.1.2.1 - s.1.2.2.1))) (Int.toNat s.1.2.1) (Int.toNat s.1.2.2.2)))), PUnit.unit), s.2.2))) (
      .chk (decide ((0 : Int) ≤ IntKind.wrap IntKind.i64 (s.1.2.1 - s.1.2.2.1) ∧ (0 : Int) ≤ s.1.2.2.1 ∧ IntKind.wrap IntKind.i64 (s.1.2.1 - s.1.2.2.1) + s.1.2.2.1 ≤ IntKind.wrap IntKind.i64 (IntKind.wrap IntKind.i64 (s.1.2.1 + s.1.2.2.2) - s.1.2.2.1) ∧ IntKind.wrap IntKind.i64 (IntKind.wrap IntKind.i64 (s.1.2.1 + s.1.2.2.2) - s.1.2.2.1) + s.1.2.2.1 ≤ (↑(List.length (decF rPost (List.length s.2.1.1.2) (encF rPost s.2.1.1.2))) : Int) ∧ List.length (decF rPost (List.length s.2.1.1.2) (encF rPost s.2.1.1.2)) ≤ (1000000 : Nat))) <|
      .ret (Sum.inl ((s.1.1, s.1.2.1, s.1.2.2.1, IntKind.wrap IntKind.i64 (s.1.2.2.2 - s.1.2.2.1)), ((s.2.1.1.1, decF rPost (List.length s.2.1.1.2) (encF rPost (swpL (decF rPost (List.length s.2.1.1.2) (encF rPost s.2.1.1.2)) (Int.toNat (IntKind.wrap IntKind.i64 (s.1.2.1 - s.1.2.2.1))) (Int.toNat (IntKind.wrap IntKind.i64 (IntKind.wrap IntKind.i64 (s.1.2.1 + s.1.2.2.2) - s.1.2.2.1))) (Int.toNat s.1.2.2.1)))), PUnit.unit), s.2.2)))) (
    .ret (Sum.inr ((s.1.1, s.1.2.1, s.1.2.2.1), ((s.2.1.1.1, decF rPost (List.length s.2.1.1.2) (encF rPost s.2.1.1.2)), PUnit.unit), s.2.2)))) := fun s => by kernel_rfl
noncomputable def K.L_rot := lim K.st_rot
noncomputable def BLS41 : Tab := BLS4s.addNode 147 17 (nodeE [11, 10, 4, 2, 0] S_rot X_rot (fun s => .obs (K.L_rot s) .ret))
theorem tLS41 : TabOk P BLS41 := TabOk.addLoop (d := 30) okP tLS4s (by kernel_rfl) (by kernel_rfl) (fun s r h => obs_ret h)
theorem fn_rot : ∀ a, (turnT1 P BLS41 30 147 D_sw rPost) a = T.run (
  .obs (L_rot ((List.length a.2.1, a.2.2.2.1, IntKind.wrap IntKind.i64 (a.2.2.2.1 - a.2.2.1), IntKind.wrap IntKind.i64 (a.2.2.2.2 - a.2.2.2.1)), ((a.1, decF rPost (List.length a.2.1) (encF rPost a.2.1)), PUnit.unit), List.length a.2.1)) fun x0 =>
    .chk (decide ((0 : Int) ≤ IntKind.wrap IntKind.i64 (x0.1.2.1 - x0.1.2.2) ∧ (0 : Int) ≤ x0.1.2.2 ∧ IntKind.wrap IntKind.i64 (x0.1.2.1 - x0.1.2.2) + x0.1.2.2 ≤ x0.1.2.1 ∧ x0.1.2.1 + x0.1.2.2 ≤ (↑(List.length (decF rPost (List.length x0.2.1.1.2) (encF rPost x0.2.1.1.2))) : Int) ∧ List.length (decF rPost (List.length x0.2.1.1.2) (encF rPost x0.2.1.1.2)) ≤ (1000000 : Nat))) <|
    .ret ((x0.2.1.1.1, decF rPost (List.length a.2.1) (encF rPost (swpL (decF rPost (List.length x0.2.1.1.2) (encF rPost x0.2.1.1.2)) (Int.toNat (IntKind.wrap IntKind.i64 (x0.1.2.1 - x0.1.2.2))) (Int.toNat x0.1.2.1) (Int.toNat x0.1.2.2)))))) := fun a => by kernel_rfl
end Go.Proofs.YtelpdkojdfnmiaaGreat
/-! LS5 -/
namespace Go.Proofs.YtelpdkojdfnmiaaGreat
open Ev K
set_option maxRecDepth 100000
namespace K
theorem swpL_eq (pre X mid Y post : List Pst) (hXY : X.length = Y.length) {a b n : Nat} (ha : a = pre.length) (hn : n = X.length) (hb : b = pre.length + X.length + mid.length) : swpL (pre ++ (X ++ (mid ++ (Y ++ post)))) a b n = pre ++ (Y ++ (mid ++ (X ++ post))) := by
  subst ha; subst hn; subst hb
  unfold swpL
  have d1 : (pre ++ (X ++ (mid ++ (Y ++ post)))).drop pre.length = X ++ (mid ++ (Y ++ post)) := List.drop_left
  have d2 : (pre ++ (X ++ (mid ++ (Y ++ post)))).drop (pre.length + X.length) = mid ++ (Y ++ post) := by rw [← List.drop_drop, d1]; exact List.drop_left
  have d3 : (pre ++ (X ++ (mid ++ (Y ++ post)))).drop (pre.length + X.length + mid.length) = Y ++ post := by rw [← List.drop_drop, d2]; exact List.drop_left
  have d4 : (pre ++ (X ++ (mid ++ (Y ++ post)))).drop (pre.length + X.length + mid.length + X.length) = post := by rw [← List.drop_drop, d3, hXY]; exact List.drop_left
  rw [d1, d2, d3, d4, List.take_left, List.take_left, show pre.length + X.length + mid.length - (pre.length + X.length) = mid.length by omega, List.take_left]
  conv => lhs; rw [hXY, List.take_left]
theorem L_rot_eq (t : TypeId) (v N m : Nat) (hN : N ≤ 1000000) : ∀ (n : Nat) (pre X Y post : List Pst), X.length + Y.length ≤ n → 1 ≤ X.length → 1 ≤ Y.length → m = pre.length + X.length → N = m + Y.length + post.length →
    ∃ pre' X' Y' post', X'.length = Y'.length ∧ m = pre'.length + X'.length ∧ N = m + Y'.length + post'.length ∧ pre' ++ (Y' ++ (X' ++ post')) = pre ++ (Y ++ (X ++ post)) ∧
      L_rot ((N, (m : Int), (X.length : Int), (Y.length : Int)), ((t, pre ++ (X ++ (Y ++ post))), ()), v) = some ((N, (m : Int), (X'.length : Int)), ((t, pre' ++ (X' ++ (Y' ++ post'))), ()), v)
  | 0, pre, X, Y, post, h, h1, _, _, _ => by omega
  | n + 1, pre, X, Y, post, h, h1, h2, hm, hNN => by
    have hlen : (pre ++ (X ++ (Y ++ post))).length = N := by simp; omega
    have w1 : IntKind.i64.wrap ((m : Int) - (X.length : Int)) = ((pre.length : Nat) : Int) := by rw [w64_in (by omega) (by omega)]; omega
    by_cases he : X.length = Y.length
    · refine ⟨pre, X, Y, post, he, hm, hNN, rfl, lim_done ?_⟩
      rw [sl_rot]
      simp only [decF_encF]
      refine br_f (by rw [bne_eq_false_iff_eq]; omega) rfl
    · by_cases hgt : X.length > Y.length
      · have hX : X = X.take Y.length ++ X.drop Y.length := (List.take_append_drop _ _).symm
        have hx1 : (X.take Y.length).length = Y.length := by rw [List.length_take]; omega
        have hx2 : (X.drop Y.length).length = X.length - Y.length := List.length_drop
        generalize X.take Y.length = X1 at hX hx1
        generalize X.drop Y.length = X2 at hX hx2
        have hsw := swpL_eq pre X1 X2 Y post hx1 (a := pre.length) (b := m) (n := Y.length) rfl hx1.symm (by omega)
        have e0 : pre ++ (X ++ (Y ++ post)) = pre ++ (X1 ++ (X2 ++ (Y ++ post))) := by rw [hX]; simp
        obtain ⟨pre', X', Y', post', a1, a2, a3, a4, a5⟩ := L_rot_eq t v N m hN n (pre ++ Y) X2 X1 post (by omega) (by omega) (by omega) (by rw [List.length_append]; omega) (by omega)
        refine ⟨pre', X', Y', post', a1, a2, a3, by rw [a4, hX]; simp, (lim_step ?_).trans a5⟩
        rw [sl_rot]
        have w2 : IntKind.i64.wrap ((X.length : Int) - (Y.length : Int)) = (X2.length : Int) := by rw [w64_in (by omega) (by omega)]; omega
        have el : (pre ++ (X ++ (Y ++ post))).length = (pre ++ (Y ++ (X2 ++ (X1 ++ post)))).length := by rw [hX]; simp; omega
        simp only [decF_encF, w1, w2, Int.toNat_natCast]
        refine br_t (by rw [bne_iff_ne]; omega) (br_t (decide_eq_true (by omega)) (chk_step (decide_eq_true (by omega)) ?_))
        rw [e0, hsw, ← e0, el, decF_encF, hx1, List.append_assoc]; rfl
      · have hlt : X.length < Y.length := by omega
        have hY : Y = Y.take (Y.length - X.length) ++ Y.drop (Y.length - X.length) := (List.take_append_drop _ _).symm
        have hy1 : (Y.take (Y.length - X.length)).length = Y.length - X.length := by rw [List.length_take]; omega
        have hy2 : (Y.drop (Y.length - X.length)).length = X.length := by rw [List.length_drop]; omega
        generalize Y.take (Y.length - X.length) = Y1 at hY hy1
        generalize Y.drop (Y.length - X.length) = Y2 at hY hy2
        have hsw := swpL_eq pre X Y1 Y2 post hy2.symm (a := pre.length) (b := m + (Y.length - X.length)) (n := X.length) rfl rfl (by omega)
        have e0 : pre ++ (X ++ (Y ++ post)) = pre ++ (X ++ (Y1 ++ (Y2 ++ post))) := by rw [hY]; simp
        obtain ⟨pre', X', Y', post', a1, a2, a3, a4, a5⟩ := L_rot_eq t v N m hN n pre Y2 Y1 (X ++ post) (by omega) (by omega) (by omega) (by omega) (by rw [List.length_append]; omega)
        refine ⟨pre', X', Y', post', a1, a2, a3, by rw [a4, hY]; simp, (lim_step ?_).trans a5⟩
        rw [sl_rot]
        have w2 : IntKind.i64.wrap ((m : Int) + (Y.length : Int)) = ((m + Y.length : Nat) : Int) := by rw [w64_in (by omega) (by omega)]; rfl
        have w3 : IntKind.i64.wrap (((m + Y.length : Nat) : Int) - (X.length : Int)) = ((m + (Y.length - X.length) : Nat) : Int) := by rw [w64_in (by omega) (by omega)]; omega
        have w4 : IntKind.i64.wrap ((Y.length : Int) - (X.length : Int)) = (Y1.length : Int) := by rw [w64_in (by omega) (by omega)]; omega
        have el : (pre ++ (X ++ (Y ++ post))).length = (pre ++ (Y2 ++ (Y1 ++ (X ++ post)))).length := by rw [hY]; simp; omega
        simp only [decF_encF, w1, w2, w3, w4, Int.toNat_natCast]
        refine br_t (by rw [bne_iff_ne]; omega) (br_f (decide_eq_false (by omega)) (chk_step (decide_eq_true (by omega)) ?_))
        rw [e0, hsw, ← e0, el, decF_encF, hy2]; rfl
theorem rot_turn (t : TypeId) (pre X Y post : List Pst) (h1 : 1 ≤ X.length) (h2 : 1 ≤ Y.length) (hl : pre.length + X.length + Y.length + post.length ≤ 1000000) :
    turnT1 P BLS41 30 147 D_sw rPost (t, pre ++ (X ++ (Y ++ post)), (pre.length : Int), ((pre.length + X.length : Nat) : Int), ((pre.length + X.length + Y.length : Nat) : Int)) = some (t, pre ++ (Y ++ (X ++ post))) := by
  rw [fn_rot]
  simp only [decF_encF]
  have w1 : IntKind.i64.wrap (((pre.length + X.length : Nat) : Int) - (pre.length : Int)) = (X.length : Int) := by rw [w64_in (by omega) (by omega)]; omega
  have w2 : IntKind.i64.wrap (((pre.length + X.length + Y.length : Nat) : Int) - ((pre.length + X.length : Nat) : Int)) = (Y.length : Int) := by rw [w64_in (by omega) (by omega)]; omega
  rw [w1, w2]
  have hlen : (pre ++ (X ++ (Y ++ post))).length = pre.length + X.length + Y.length + post.length := by simp; omega
  obtain ⟨pre', X', Y', post', a1, a2, a3, a4, a5⟩ := L_rot_eq t (pre ++ (X ++ (Y ++ post))).length (pre ++ (X ++ (Y ++ post))).length (pre.length + X.length) (by omega) (X.length + Y.length) pre X Y post (Nat.le_refl _) h1 h2 rfl hlen
  refine obs_step a5 ?_
  have hsw := swpL_eq pre' X' [] Y' post' a1 (a := pre'.length) (b := pre.length + X.length) (n := X'.length) rfl rfl (by simp; omega)
  simp only [List.nil_append] at hsw
  have w3 : IntKind.i64.wrap (((pre.length + X.length : Nat) : Int) - (X'.length : Int)) = (pre'.length : Int) := by rw [w64_in (by omega) (by omega)]; omega
  have hl2 : (pre' ++ (X' ++ (Y' ++ post'))).length = pre.length + X.length + Y.length + post.length := by simp; omega
  simp only [decF_encF, w3, Int.toNat_natCast, hsw]
  refine chk_step (decide_eq_true (by omega)) ?_
  have hl3 : (pre ++ (X ++ (Y ++ post))).length = (pre' ++ (Y' ++ (X' ++ post'))).length := by rw [a4]; simp; omega
  rw [hl3, decF_encF, a4]; rfl
def rotL (l : List Pst) (a m b : Nat) : List Pst := l.take a ++ ((l.drop m).take (b - m) ++ ((l.drop a).take (m - a) ++ l.drop b))
def M_rot (a : List Pst × Int × Int × Int) : T (List Pst) := .chk (decide (0 ≤ a.2.1 ∧ a.2.1 < a.2.2.1 ∧ a.2.2.1 < a.2.2.2 ∧ a.2.2.2 ≤ a.1.length ∧ a.1.length ≤ 1000000)) (.ret (rotL a.1 a.2.1.toNat a.2.2.1.toNat a.2.2.2.toNat))
theorem two_split {l : List Pst} {a m b : Nat} (h1 : a ≤ m) (h2 : m ≤ b) (h3 : b ≤ l.length) : l = l.take a ++ ((l.drop a).take (m - a) ++ ((l.drop m).take (b - m) ++ l.drop b)) := by
  have e1 : l.drop b = (l.drop m).drop (b - m) := by rw [List.drop_drop, show m + (b - m) = b by omega]
  have e2 : l.drop m = (l.drop a).drop (m - a) := by rw [List.drop_drop, show a + (m - a) = m by omega]
  rw [e1, List.take_append_drop, e2, List.take_append_drop, List.take_append_drop]
theorem rot_mc (l : List Pst) (a : Int × Int × Int) (l' : List Pst) (h : (M_rot (l, a)).run = some l') : MC P 147 rPost.wd l.length ⟨rPost.tags, encF rPost l⟩ ⟨rPost.tags, encF rPost l'⟩ (D_sw.enc a) := by
  obtain ⟨x, y, z⟩ := a
  obtain ⟨g, e⟩ := chk_ret h
  subst e
  have g := of_decide_eq_true g
  simp only at g
  obtain ⟨a, rfl⟩ : ∃ a : Nat, x = a := ⟨x.toNat, by omega⟩
  obtain ⟨m, rfl⟩ : ∃ m : Nat, y = m := ⟨y.toNat, by omega⟩
  obtain ⟨b, rfl⟩ : ∃ b : Nat, z = b := ⟨z.toNat, by omega⟩
  refine turn_of (d := 30) okP tLS41 fun t => ?_
  have hsp := two_split (l := l) (a := a) (m := m) (b := b) (by omega) (by omega) (by omega)
  unfold rotL
  simp only [Int.toNat_natCast]
  have hl1 : (l.take a).length = a := by rw [List.length_take]; omega
  have hl2 : ((l.drop a).take (m - a)).length = m - a := by rw [List.length_take, List.length_drop]; omega
  have hl3 : ((l.drop m).take (b - m)).length = b - m := by rw [List.length_take, List.length_drop]; omega
  have hl5 : (l.drop b).length = l.length - b := List.length_drop
  generalize l.take a = pre at *
  generalize (l.drop a).take (m - a) = X at *
  generalize (l.drop m).take (b - m) = Y at *
  generalize l.drop b = post at *
  have key := rot_turn t pre X Y post (by omega) (by omega) (by omega)
  rw [← hsp, hl1, hl2, hl3, show a + (m - a) = m by omega, show m + (b - m) = b by omega] at key
  exact key
end K
noncomputable def BLS5r : Tab := BLS41.addTurn 147 (turnE D_sw rPost K.M_rot)
theorem tLS5r : TabOk P BLS5r := TabOk.addTurn tLS41 (turnE_cc K.rot_mc)
end Go.Proofs.YtelpdkojdfnmiaaGreat
