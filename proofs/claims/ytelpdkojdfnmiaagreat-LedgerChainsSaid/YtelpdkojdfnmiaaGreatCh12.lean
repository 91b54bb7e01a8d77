/- LedgerChains: for every input the law returns true, and the input reads as it did. No conditions. -/
import Derived.Test.YtelpdkojdfnmiaaGreatCh11
import Derived.Test.YtelpdkojdfnmiaaGreatRows
/-! LT1 -/
namespace Go.Proofs.YtelpdkojdfnmiaaGreat
open Ev K
set_option maxRecDepth 100000
def lStmO (j : Nat) : DecL (Int × Int × Nat) := .cons dInt (.cons dInt (.last (dO j) 0))
def E_sta : DecL (Int × List Pst × Int × Int) := .skip (.cons dInt (.skips 4 (.unit (dLp 0 0 0 0) (.skip (.unit (dLp 1 0 0 0) (.skips 3 (.unit (dLp 2 0 0 0) (.skips 52 (.cons (dRows rPost) (.cons dInt (.last dInt 27)))))))))))
def O_sta : DecB (Span × (Unit × ((Int × Int × Nat) × List Pst × Unit))) := .flat 45 lSpan (.flat 41 (.tops 3) (.flat 41 (lStmO 3) (.rows 23 rPost .nil)))
def S_sta := DecS.ghostF 12 2 23 4 [.int .i64, .int .i64, .int .i64, .int .i64] (DecS.mk0 E_sta O_sta)
def X_sta := DecX.one (.exit 0) [12, 8] (DecS.mk0 (.skips 8 (.unit (dLp 0 0 0 0) (.skips 3 (.unit (dLp 1 0 0 0) (.tops 82))))) (.flat 41 (.tops 3) (.flat 41 (lStmO 2) (.rows 23 rPost .nil))))
noncomputable def K.st_sta := loopT1 P BLT01 30 22 73 [67, 12, 6, 1, 65, 8, 66] S_sta X_sta
theorem sl_sta : ∀ s, (K.st_sta) s = T.run (
  .br (decide (s.1.2.2.2 < s.1.2.2.1)) (
    .chk (decide ((0 : Int) ≤ s.1.2.2.2 ∧ s.1.2.2.2 < (↑(List.length s.1.2.1) : Int))) <|
    .br (numOf (encF rPost s.1.2.1 ((0 : Nat) + Int.toNat s.1.2.2.2) (nat_lit 2)) == s.1.1) (
      .br (l_within (numOf (encF rPost s.1.2.1 ((0 : Nat) + Int.toNat s.1.2.2.2) (nat_lit 1)), Span.lo s.2.1, Span.hi s.2.1)) (
        .chk (decide ((List.length s.2.2.2.2.1 + (1 : Nat)) * (32 : Nat) ≤ (140737488355328 : Nat) ∧ List.length s.2.2.2.2.1 + (1 : Nat) ≤ nat_lit 9223372036854775807)) <|
        .ret (Sum.inl ((s.1.1, decF rPost (List.length s.1.2.1) fun i => encF rPost s.1.2.1 ((0 : Nat) + i), s.1.2.2.1, IntKind.wrap IntKind.i64 (s.1.2.2.2 + (1 : Int))), s.2.1, PUnit.unit, (s.2.2.2.1.1, s.2.2.2.1.2.1, List.length s.2.2.2.2.1 + (1 : Nat)), decF rPost (List.length s.2.2.2.2.1 + (1 : Nat)) (appG (List.length s.2.2.2.2.1) (encF rPost s.2.2.2.2.1) fun i k => Option.getD [AV.int IntKind.i64 (numOf (encF rPost s.1.2.1 ((0 : Nat) + Int.toNat s.1.2.2.2) (0 : Nat))), AV.int IntKind.i64 (numOf (encF rPost s.1.2.1 ((0 : Nat) + Int.toNat s.1.2.2.2) (nat_lit 1))), AV.int IntKind.i64 (numOf (encF rPost s.1.2.1 ((0 : Nat) + Int.toNat s.1.2.2.2) (nat_lit 2))), AV.int IntKind.i64 (numOf (encF rPost s.1.2.1 ((0 : Nat) + Int.toNat s.1.2.2.2) (nat_lit 3)))][((0 : Nat) + i) * (4 : Nat) + k]? AV.top), PUnit.unit))) (
        .ret (Sum.inl ((s.1.1, decF rPost (List.length s.1.2.1) fun i => encF rPost s.1.2.1 ((0 : Nat) + i), s.1.2.2.1, IntKind.wrap IntKind.i64 (s.1.2.2.2 + (1 : Int))), s.2.1, PUnit.unit, s.2.2.2.1, decF rPost (List.length s.2.2.2.2.1) (encF rPost s.2.2.2.2.1), PUnit.unit)))) (
      .ret (Sum.inl ((s.1.1, decF rPost (List.length s.1.2.1) fun i => encF rPost s.1.2.1 ((0 : Nat) + i), s.1.2.2.1, IntKind.wrap IntKind.i64 (s.1.2.2.2 + (1 : Int))), s.2.1, PUnit.unit, s.2.2.2.1, decF rPost (List.length s.2.2.2.2.1) (encF rPost s.2.2.2.2.1), PUnit.unit)))) (
    .ret (Sum.inr (PUnit.unit, PUnit.unit, s.2.2.2.1, decF rPost (List.length s.2.2.2.2.1) (encF rPost s.2.2.2.2.1), PUnit.unit)))) := fun s => by kernel_rfl
noncomputable def K.L_sta := lim K.st_sta
noncomputable def BLT11 : Tab := BLT01.addNode 22 73 (nodeE [67, 12, 6, 1, 65, 8, 66] S_sta X_sta (fun s => .obs (K.L_sta s) .ret))
theorem tLT11 : TabOk P BLT11 := TabOk.addLoop (d := 30) okP tLT01 (by kernel_rfl) (by kernel_rfl) (fun s r h => obs_ret h)
theorem fn_state : ∀ a, (callT1 P BLT11 30 22 D_state R_state) a = T.run (
  .chk (decide (nat_lit 1 ≤ (1000 : Nat))) <|
  .br (askedV (decF rItem (List.length a.1) fun i => encF rItem a.1 ((0 : Nat) + i)) (decF rInt (1 : Nat) fun i k => Option.getD [AV.int IntKind.i64 a.2.2.2][((0 : Nat) + i) * (1 : Nat) + k]? AV.top) != (0 : Int)) (
    .br (askedV (decF rItem (List.length a.1) fun i => encF rItem a.1 ((0 : Nat) + i)) (decF rInt (1 : Nat) fun i k => Option.getD [AV.int IntKind.i64 a.2.2.2][((0 : Nat) + i) * (1 : Nat) + k]? AV.top) != (0 : Int)) (
      .ret ((Stm.mk (0 : Int) (0 : Int) [], askedV (decF rItem (List.length a.1) fun i => encF rItem a.1 ((0 : Nat) + i)) (decF rInt (1 : Nat) fun i k => Option.getD [AV.int IntKind.i64 a.2.2.2][((0 : Nat) + i) * (1 : Nat) + k]? AV.top)))) (
      .br (!l_day (Span.lo a.2.2.1)) (
        .ret ((Stm.mk (0 : Int) (0 : Int) [], (1 : Int)))) (
        .br (!l_day (Span.hi a.2.2.1)) (
          .ret ((Stm.mk (0 : Int) (0 : Int) [], (1 : Int)))) (
          .br (decide (Span.lo a.2.2.1 > Span.hi a.2.2.1)) (
            .ret ((Stm.mk (0 : Int) (0 : Int) [], (1 : Int)))) (
            .chk (rdOk (decF rItem (List.length a.1) fun i => encF rItem a.1 ((0 : Nat) + i))) <|
            .chk (balOk (decF rPost (List.length (Bk.posts (readB (decF rItem (List.length a.1) fun i => encF rItem a.1 ((0 : Nat) + i)) a.2.2.2))) fun i => encF rPost (Bk.posts (readB (decF rItem (List.length a.1) fun i => encF rItem a.1 ((0 : Nat) + i)) a.2.2.2)) ((0 : Nat) + i))) <|
            .chk (balOk (decF rPost (List.length (Bk.posts (readB (decF rItem (List.length a.1) fun i => encF rItem a.1 ((0 : Nat) + i)) a.2.2.2))) fun i => encF rPost (Bk.posts (readB (decF rItem (List.length a.1) fun i => encF rItem a.1 ((0 : Nat) + i)) a.2.2.2)) ((0 : Nat) + i))) <|
            .obs (L_sta ((a.2.1, decF rPost (List.length (Bk.posts (readB (decF rItem (List.length a.1) fun i => encF rItem a.1 ((0 : Nat) + i)) a.2.2.2))) fun i => encF rPost (Bk.posts (readB (decF rItem (List.length a.1) fun i => encF rItem a.1 ((0 : Nat) + i)) a.2.2.2)) ((0 : Nat) + i), (↑(clampL (List.length (Bk.posts (readB (decF rItem (List.length a.1) fun i => encF rItem a.1 ((0 : Nat) + i)) a.2.2.2)))) : Int), (0 : Int)), a.2.2.1, PUnit.unit, (numOf (mraw (Get.mk [CK.int IntKind.i64, CK.int IntKind.i64] (encF rPII (sumP (decF rPost (List.length (Bk.posts (readB (decF rItem (List.length a.1) fun i => encF rItem a.1 ((0 : Nat) + i)) a.2.2.2))) fun i => encF rPost (Bk.posts (readB (decF rItem (List.length a.1) fun i => encF rItem a.1 ((0 : Nat) + i)) a.2.2.2)) ((0 : Nat) + i)) (IntKind.wrap IntKind.i64 (Span.lo a.2.2.1 - (1 : Int)))))) (mfind (Get.mk [CK.int IntKind.i64, CK.int IntKind.i64] (encF rPII (sumP (decF rPost (List.length (Bk.posts (readB (decF rItem (List.length a.1) fun i => encF rItem a.1 ((0 : Nat) + i)) a.2.2.2))) fun i => encF rPost (Bk.posts (readB (decF rItem (List.length a.1) fun i => encF rItem a.1 ((0 : Nat) + i)) a.2.2.2)) ((0 : Nat) + i)) (IntKind.wrap IntKind.i64 (Span.lo a.2.2.1 - (1 : Int)))))) (AV.int IntKind.i64 a.2.1) (List.length (sumP (decF rPost (List.length (Bk.posts (readB (decF rItem (List.length a.1) fun i => encF rItem a.1 ((0 : Nat) + i)) a.2.2.2))) fun i => encF rPost (Bk.posts (readB (decF rItem (List.length a.1) fun i => encF rItem a.1 ((0 : Nat) + i)) a.2.2.2)) ((0 : Nat) + i)) (IntKind.wrap IntKind.i64 (Span.lo a.2.2.1 - (1 : Int)))))) (AV.int IntKind.i64 (0 : Int)) (1 : Nat)), numOf (mraw (Get.mk [CK.int IntKind.i64, CK.int IntKind.i64] (encF rPII (sumP (decF rPost (List.length (Bk.posts (readB (decF rItem (List.length a.1) fun i => encF rItem a.1 ((0 : Nat) + i)) a.2.2.2))) fun i => encF rPost (Bk.posts (readB (decF rItem (List.length a.1) fun i => encF rItem a.1 ((0 : Nat) + i)) a.2.2.2)) ((0 : Nat) + i)) (Span.hi a.2.2.1)))) (mfind (Get.mk [CK.int IntKind.i64, CK.int IntKind.i64] (encF rPII (sumP (decF rPost (List.length (Bk.posts (readB (decF rItem (List.length a.1) fun i => encF rItem a.1 ((0 : Nat) + i)) a.2.2.2))) fun i => encF rPost (Bk.posts (readB (decF rItem (List.length a.1) fun i => encF rItem a.1 ((0 : Nat) + i)) a.2.2.2)) ((0 : Nat) + i)) (Span.hi a.2.2.1)))) (AV.int IntKind.i64 a.2.1) (List.length (sumP (decF rPost (List.length (Bk.posts (readB (decF rItem (List.length a.1) fun i => encF rItem a.1 ((0 : Nat) + i)) a.2.2.2))) fun i => encF rPost (Bk.posts (readB (decF rItem (List.length a.1) fun i => encF rItem a.1 ((0 : Nat) + i)) a.2.2.2)) ((0 : Nat) + i)) (Span.hi a.2.2.1)))) (AV.int IntKind.i64 (0 : Int)) (1 : Nat)), (0 : Nat)), decF rPost (0 : Nat) fun x x_1 => AV.top, PUnit.unit)) fun x0 =>
              .chk (decide (List.length (decF rPost (List.length x0.2.2.2.1) (encF rPost x0.2.2.2.1)) ≤ (100000 : Nat))) <|
              .ret ((Stm.mk x0.2.2.1.1 x0.2.2.1.2.1 (decF rPost (List.length x0.2.2.2.1) fun i => encF rPost (stB (decF rPost (List.length x0.2.2.2.1) (encF rPost x0.2.2.2.1))) ((0 : Nat) + i)), (0 : Int)))))))) (
    .br (l_account a.2.1 != (0 : Int)) (
      .br (l_account a.2.1 != (0 : Int)) (
        .ret ((Stm.mk (0 : Int) (0 : Int) [], l_account a.2.1))) (
        .br (!l_day (Span.lo a.2.2.1)) (
          .ret ((Stm.mk (0 : Int) (0 : Int) [], (1 : Int)))) (
          .br (!l_day (Span.hi a.2.2.1)) (
            .ret ((Stm.mk (0 : Int) (0 : Int) [], (1 : Int)))) (
            .br (decide (Span.lo a.2.2.1 > Span.hi a.2.2.1)) (
              .ret ((Stm.mk (0 : Int) (0 : Int) [], (1 : Int)))) (
              .chk (rdOk (decF rItem (List.length a.1) fun i => encF rItem a.1 ((0 : Nat) + i))) <|
              .chk (balOk (decF rPost (List.length (Bk.posts (readB (decF rItem (List.length a.1) fun i => encF rItem a.1 ((0 : Nat) + i)) a.2.2.2))) fun i => encF rPost (Bk.posts (readB (decF rItem (List.length a.1) fun i => encF rItem a.1 ((0 : Nat) + i)) a.2.2.2)) ((0 : Nat) + i))) <|
              .chk (balOk (decF rPost (List.length (Bk.posts (readB (decF rItem (List.length a.1) fun i => encF rItem a.1 ((0 : Nat) + i)) a.2.2.2))) fun i => encF rPost (Bk.posts (readB (decF rItem (List.length a.1) fun i => encF rItem a.1 ((0 : Nat) + i)) a.2.2.2)) ((0 : Nat) + i))) <|
              .obs (L_sta ((a.2.1, decF rPost (List.length (Bk.posts (readB (decF rItem (List.length a.1) fun i => encF rItem a.1 ((0 : Nat) + i)) a.2.2.2))) fun i => encF rPost (Bk.posts (readB (decF rItem (List.length a.1) fun i => encF rItem a.1 ((0 : Nat) + i)) a.2.2.2)) ((0 : Nat) + i), (↑(clampL (List.length (Bk.posts (readB (decF rItem (List.length a.1) fun i => encF rItem a.1 ((0 : Nat) + i)) a.2.2.2)))) : Int), (0 : Int)), a.2.2.1, PUnit.unit, (numOf (mraw (Get.mk [CK.int IntKind.i64, CK.int IntKind.i64] (encF rPII (sumP (decF rPost (List.length (Bk.posts (readB (decF rItem (List.length a.1) fun i => encF rItem a.1 ((0 : Nat) + i)) a.2.2.2))) fun i => encF rPost (Bk.posts (readB (decF rItem (List.length a.1) fun i => encF rItem a.1 ((0 : Nat) + i)) a.2.2.2)) ((0 : Nat) + i)) (IntKind.wrap IntKind.i64 (Span.lo a.2.2.1 - (1 : Int)))))) (mfind (Get.mk [CK.int IntKind.i64, CK.int IntKind.i64] (encF rPII (sumP (decF rPost (List.length (Bk.posts (readB (decF rItem (List.length a.1) fun i => encF rItem a.1 ((0 : Nat) + i)) a.2.2.2))) fun i => encF rPost (Bk.posts (readB (decF rItem (List.length a.1) fun i => encF rItem a.1 ((0 : Nat) + i)) a.2.2.2)) ((0 : Nat) + i)) (IntKind.wrap IntKind.i64 (Span.lo a.2.2.1 - (1 : Int)))))) (AV.int IntKind.i64 a.2.1) (List.length (sumP (decF rPost (List.length (Bk.posts (readB (decF rItem (List.length a.1) fun i => encF rItem a.1 ((0 : Nat) + i)) a.2.2.2))) fun i => encF rPost (Bk.posts (readB (decF rItem (List.length a.1) fun i => encF rItem a.1 ((0 : Nat) + i)) a.2.2.2)) ((0 : Nat) + i)) (IntKind.wrap IntKind.i64 (Span.lo a.2.2.1 - (1 : Int)))))) (AV.int IntKind.i64 (0 : Int)) (1 : Nat)), numOf (mraw (Get.mk [CK.int IntKind.i64, CK.int IntKind.i64] (encF rPII (sumP (decF rPost (List.length (Bk.posts (readB (decF rItem (List.length a.1) fun i => encF rItem a.1 ((0 : Nat) + i)) a.2.2.2))) fun i => encF rPost (Bk.posts (readB (decF rItem (List.length a.1) fun i => encF rItem a.1 ((0 : Nat) + i)) a.2.2.2)) ((0 : Nat) + i)) (Span.hi a.2.2.1)))) (mfind (Get.mk [CK.int IntKind.i64, CK.int IntKind.i64] (encF rPII (sumP (decF rPost (List.length (Bk.posts (readB (decF rItem (List.length a.1) fun i => encF rItem a.1 ((0 : Nat) + i)) a.2.2.2))) fun i => encF rPost (Bk.posts (readB (decF rItem (List.length a.1) fun i => encF rItem a.1 ((0 : Nat) + i)) a.2.2.2)) ((0 : Nat) + i)) (Span.hi a.2.2.1)))) (AV.int IntKind.i64 a.2.1) (List.length (sumP (decF rPost (List.length (Bk.posts (readB (decF rItem (List.length a.1) fun i => encF rItem a.1 ((0 : Nat) + i)) a.2.2.2))) fun i => encF rPost (Bk.posts (readB (decF rItem (List.length a.1) fun i => encF rItem a.1 ((0 : Nat) + i)) a.2.2.2)) ((0 : Nat) + i)) (Span.hi a.2.2.1)))) (AV.int IntKind.i64 (0 : Int)) (1 : Nat)), (0 : Nat)), decF rPost (0 : Nat) fun x x_1 => AV.top, PUnit.unit)) fun x0 =>
                .chk (decide (List.length (decF rPost (List.length x0.2.2.2.1) (encF rPost x0.2.2.2.1)) ≤ (100000 : Nat))) <|
                .ret ((Stm.mk x0.2.2.1.1 x0.2.2.1.2.1 (decF rPost (List.length x0.2.2.2.1) fun i => encF rPost (stB (decF rPost (List.length x0.2.2.2.1) (encF rPost x0.2.2.2.1))) ((0 : Nat) + i)), (0 : Int)))))))) (
      .br (!l_day (Span.lo a.2.2.1)) (
        .ret ((Stm.mk (0 : Int) (0 : Int) [], (1 : Int)))) (
        .br (!l_day (Span.hi a.2.2.1)) (
          .ret ((Stm.mk (0 : Int) (0 : Int) [], (1 : Int)))) (
          .br (decide (Span.lo a.2.2.1 > Span.hi a.2.2.1)) (
            .ret ((Stm.mk (0 : Int) (0 : Int) [], (1 : Int)))) (
            .chk (rdOk (decF rItem (List.length a.1) fun i => encF rItem a.1 ((0 : Nat) + i))) <|
            .chk (balOk (decF rPost (List.length (Bk.posts (readB (decF rItem (List.length a.1) fun i => encF rItem a.1 ((0 : Nat) + i)) a.2.2.2))) fun i => encF rPost (Bk.posts (readB (decF rItem (List.length a.1) fun i => encF rItem a.1 ((0 : Nat) + i)) a.2.2.2)) ((0 : Nat) + i))) <|
            .chk (balOk (decF rPost (List.length (Bk.posts (readB (decF rItem (List.length a.1) fun i => encF rItem a.1 ((0 : Nat) + i)) a.2.2.2))) fun i => encF rPost (Bk.posts (readB (decF rItem (List.length a.1) fun i => encF rItem a.1 ((0 : Nat) + i)) a.2.2.2)) ((0 : Nat) + i))) <|
            .obs (L_sta ((a.2.1, decF rPost (List.length (Bk.posts (readB (decF rItem (List.length a.1) fun i => encF rItem a.1 ((0 : Nat) + i)) a.2.2.2))) fun i => encF rPost (Bk.posts (readB (decF rItem (List.length a.1) fun i => encF rItem a.1 ((0 : Nat) + i)) a.2.2.2)) ((0 : Nat) + i), (↑(clampL (List.length (Bk.posts (readB (decF rItem (List.length a.1) fun i => encF rItem a.1 ((0 : Nat) + i)) a.2.2.2)))) : Int), (0 : Int)), a.2.2.1, PUnit.unit, (numOf (mraw (Get.mk [CK.int IntKind.i64, CK.int IntKind.i64] (encF rPII (sumP (decF rPost (List.length (Bk.posts (readB (decF rItem (List.length a.1) fun i => encF rItem a.1 ((0 : Nat) + i)) a.2.2.2))) fun i => encF rPost (Bk.posts (readB (decF rItem (List.length a.1) fun i => encF rItem a.1 ((0 : Nat) + i)) a.2.2.2)) ((0 : Nat) + i)) (IntKind.wrap IntKind.i64 (Span.lo a.2.2.1 - (1 : Int)))))) (mfind (Get.mk [CK.int IntKind.i64, CK.int IntKind.i64] (encF rPII (sumP (decF rPost (List.length (Bk.posts (readB (decF rItem (List.length a.1) fun i => encF rItem a.1 ((0 : Nat) + i)) a.2.2.2))) fun i => encF rPost (Bk.posts (readB (decF rItem (List.length a.1) fun i => encF rItem a.1 ((0 : Nat) + i)) a.2.2.2)) ((0 : Nat) + i)) (IntKind.wrap IntKind.i64 (Span.lo a.2.2.1 - (1 : Int)))))) (AV.int IntKind.i64 a.2.1) (List.length (sumP (decF rPost (List.length (Bk.posts (readB (decF rItem (List.length a.1) fun i => encF rItem a.1 ((0 : Nat) + i)) a.2.2.2))) fun i => encF rPost (Bk.posts (readB (decF rItem (List.length a.1) fun i => encF rItem a.1 ((0 : Nat) + i)) a.2.2.2)) ((0 : Nat) + i)) (IntKind.wrap IntKind.i64 (Span.lo a.2.2.1 - (1 : Int)))))) (AV.int IntKind.i64 (0 : Int)) (1 : Nat)), numOf (mraw (Get.mk [CK.int IntKind.i64, CK.int IntKind.i64] (encF rPII (sumP (decF rPost (List.length (Bk.posts (readB (decF rItem (List.length a.1) fun i => encF rItem a.1 ((0 : Nat) + i)) a.2.2.2))) fun i => encF rPost (Bk.posts (readB (decF rItem (List.length a.1) fun i => encF rItem a.1 ((0 : Nat) + i)) a.2.2.2)) ((0 : Nat) + i)) (Span.hi a.2.2.1)))) (mfind (Get.mk [CK.int IntKind.i64, CK.int IntKind.i64] (encF rPII (sumP (decF rPost (List.length (Bk.posts (readB (decF rItem (List.length a.1) fun i => encF rItem a.1 ((0 : Nat) + i)) a.2.2.2))) fun i => encF rPost (Bk.posts (readB (decF rItem (List.length a.1) fun i => encF rItem a.1 ((0 : Nat) + i)) a.2.2.2)) ((0 : Nat) + i)) (Span.hi a.2.2.1)))) (AV.int IntKind.i64 a.2.1) (List.length (sumP (decF rPost (List.length (Bk.posts (readB (decF rItem (List.length a.1) fun i => encF rItem a.1 ((0 : Nat) + i)) a.2.2.2))) fun i => encF rPost (Bk.posts (readB (decF rItem (List.length a.1) fun i => encF rItem a.1 ((0 : Nat) + i)) a.2.2.2)) ((0 : Nat) + i)) (Span.hi a.2.2.1)))) (AV.int IntKind.i64 (0 : Int)) (1 : Nat)), (0 : Nat)), decF rPost (0 : Nat) fun x x_1 => AV.top, PUnit.unit)) fun x0 =>
              .chk (decide (List.length (decF rPost (List.length x0.2.2.2.1) (encF rPost x0.2.2.2.1)) ≤ (100000 : Nat))) <|
              .ret ((Stm.mk x0.2.2.1.1 x0.2.2.1.2.1 (decF rPost (List.length x0.2.2.2.1) fun i => encF rPost (stB (decF rPost (List.length x0.2.2.2.1) (encF rPost x0.2.2.2.1))) ((0 : Nat) + i)), (0 : Int))))))))) := fun a => by kernel_rfl
def S_fin := DecS.ghost 8 73 7 [.int .i64, .int .i64, .int .i64, .int .i64, .int .i64, .int .i64, .int .i64] (DecS.mk0 (.skips 7 (.cons dBk (.cons (dO 0) (.skips 15 (.cons (dRows rItem) (.cons dInt (.last dInt 26))))))) (.rows 73 rItem .nil))
def X_fin := DecX.one (.exit 0) [8] (DecS.mk0 (.skips 8 (.last (dO 0) 44)) (.rows 73 rItem .nil))
noncomputable def K.st_fin := loopT1 P BLT11 30 31 57 [26, 8, 7, 24, 25] S_fin X_fin
theorem sl_fin : ∀ s, (K.st_fin) s = T.run (
  .br (decide (s.1.2.2.2.2 < s.1.2.2.2.1)) (
    .chk (decide ((0 : Int) ≤ s.1.2.2.2.2 ∧ s.1.2.2.2.2 < (↑(List.length s.1.2.2.1) : Int))) <|
    .br (numOf (encF rItem s.1.2.2.1 ((0 : Nat) + Int.toNat s.1.2.2.2.2) (nat_lit 2)) == (2 : Int)) (
      .ret (Sum.inl ((Bk.mk (Bk.closed s.1.1) (decF rPost (List.length (Bk.posts s.1.1)) fun i => encF rPost (Bk.posts s.1.1) ((0 : Nat) + i)) (decF rItem (List.length (Bk.taken s.1.1)) fun i => encF rItem (Bk.taken s.1.1) ((0 : Nat) + i)) (decF rInt (List.length (Bk.refused s.1.1)) fun i => encF rInt (Bk.refused s.1.1) ((0 : Nat) + i)) (decP pStd (List.length (Bk.bills s.1.1)) (encPF pStd (Bk.bills s.1.1)) (encPL (Bk.bills s.1.1)) (encPH pStd (Bk.bills s.1.1))) (decF rPII (List.length (Bk.paid s.1.1)) (encF rPII (Bk.paid s.1.1))) (decF rPII (List.length (Bk.bonds s.1.1)) (encF rPII (Bk.bonds s.1.1))), s.1.2.1, decF rItem (List.length s.1.2.2.1) fun i => encF rItem s.1.2.2.1 ((0 : Nat) + i), s.1.2.2.2.1, IntKind.wrap IntKind.i64 (s.1.2.2.2.2 + (1 : Int))), decF rItem (List.length s.2.1) (encF rItem s.2.1), PUnit.unit))) (
      .br (numOf (encF rItem s.1.2.2.1 ((0 : Nat) + Int.toNat s.1.2.2.2.2) (nat_lit 2)) == (1 : Int)) (
        .br (match mfind (poolG (Get.mk [CK.int IntKind.i64, CK.int IntKind.i64, CK.int IntKind.i64, CK.int IntKind.i64, CK.int IntKind.i64, CK.int IntKind.i64, CK.int IntKind.i64, CK.int IntKind.i64, CK.int IntKind.i64, CK.any] (encPF pStd (Bk.bills s.1.1))) (9 : Nat) (8 : Nat) (2 : Nat) (encPL (Bk.bills s.1.1)) [CK.int IntKind.i64, CK.int IntKind.i64] (encPH pStd (Bk.bills s.1.1))) (AV.int IntKind.i64 (numOf (encF rItem s.1.2.2.1 ((0 : Nat) + Int.toNat s.1.2.2.2.2) (nat_lit 4)))) (List.length (Bk.bills s.1.1)) with
| some val => true
| none => false) (
          .chk (decide ((List.length s.2.1 + (1 : Nat)) * (56 : Nat) ≤ (140737488355328 : Nat) ∧ List.length s.2.1 + (1 : Nat) ≤ nat_lit 9223372036854775807)) <|
          .ret (Sum.inl ((Bk.mk (Bk.closed s.1.1) (decF rPost (List.length (Bk.posts s.1.1)) fun i => encF rPost (Bk.posts s.1.1) ((0 : Nat) + i)) (decF rItem (List.length (Bk.taken s.1.1)) fun i => encF rItem (Bk.taken s.1.1) ((0 : Nat) + i)) (decF rInt (List.length (Bk.refused s.1.1)) fun i => encF rInt (Bk.refused s.1.1) ((0 : Nat) + i)) (decP pStd (List.length (Bk.bills s.1.1)) (encPF pStd (Bk.bills s.1.1)) (encPL (Bk.bills s.1.1)) (encPH pStd (Bk.bills s.1.1))) (decF rPII (List.length (Bk.paid s.1.1)) (encF rPII (Bk.paid s.1.1))) (decF rPII (List.length (Bk.bonds s.1.1)) (encF rPII (Bk.bonds s.1.1))), List.length s.2.1 + (1 : Nat), decF rItem (List.length s.1.2.2.1) fun i => encF rItem s.1.2.2.1 ((0 : Nat) + i), s.1.2.2.2.1, IntKind.wrap IntKind.i64 (s.1.2.2.2.2 + (1 : Int))), decF rItem (List.length s.2.1 + (1 : Nat)) (appG (List.length s.2.1) (encF rItem s.2.1) fun i k => Option.getD [AV.int IntKind.i64 (numOf (encF rItem s.1.2.2.1 ((0 : Nat) + Int.toNat s.1.2.2.2.2) (0 : Nat))), AV.int IntKind.i64 (numOf (encF rItem s.1.2.2.1 ((0 : Nat) + Int.toNat s.1.2.2.2.2) (nat_lit 1))), AV.int IntKind.i64 (numOf (encF rItem s.1.2.2.1 ((0 : Nat) + Int.toNat s.1.2.2.2.2) (nat_lit 2))), AV.int IntKind.i64 (numOf (encF rItem s.1.2.2.1 ((0 : Nat) + Int.toNat s.1.2.2.2.2) (nat_lit 3))), AV.int IntKind.i64 (numOf (encF rItem s.1.2.2.1 ((0 : Nat) + Int.toNat s.1.2.2.2.2) (nat_lit 4))), AV.int IntKind.i64 (numOf (encF rItem s.1.2.2.1 ((0 : Nat) + Int.toNat s.1.2.2.2.2) (nat_lit 5))), AV.int IntKind.i64 (numOf (encPF pStd (Bk.bills s.1.1) (Option.getD (mfind (poolG (Get.mk [CK.int IntKind.i64, CK.int IntKind.i64, CK.int IntKind.i64, CK.int IntKind.i64, CK.int IntKind.i64, CK.int IntKind.i64, CK.int IntKind.i64, CK.int IntKind.i64, CK.int IntKind.i64, CK.any] (encPF pStd (Bk.bills s.1.1))) (9 : Nat) (8 : Nat) (2 : Nat) (encPL (Bk.bills s.1.1)) [CK.int IntKind.i64, CK.int IntKind.i64] (encPH pStd (Bk.bills s.1.1))) (AV.int IntKind.i64 (numOf (encF rItem s.1.2.2.1 ((0 : Nat) + Int.toNat s.1.2.2.2.2) (nat_lit 4)))) (List.length (Bk.bills s.1.1))) (0 : Nat)) (nat_lit 8)))][((0 : Nat) + i) * (7 : Nat) + k]? AV.top), PUnit.unit))) (
          .fail)) (
        .chk (decide ((List.length s.2.1 + (1 : Nat)) * (56 : Nat) ≤ (140737488355328 : Nat) ∧ List.length s.2.1 + (1 : Nat) ≤ nat_lit 9223372036854775807)) <|
        .ret (Sum.inl ((Bk.mk (Bk.closed s.1.1) (decF rPost (List.length (Bk.posts s.1.1)) fun i => encF rPost (Bk.posts s.1.1) ((0 : Nat) + i)) (decF rItem (List.length (Bk.taken s.1.1)) fun i => encF rItem (Bk.taken s.1.1) ((0 : Nat) + i)) (decF rInt (List.length (Bk.refused s.1.1)) fun i => encF rInt (Bk.refused s.1.1) ((0 : Nat) + i)) (decP pStd (List.length (Bk.bills s.1.1)) (encPF pStd (Bk.bills s.1.1)) (encPL (Bk.bills s.1.1)) (encPH pStd (Bk.bills s.1.1))) (decF rPII (List.length (Bk.paid s.1.1)) (encF rPII (Bk.paid s.1.1))) (decF rPII (List.length (Bk.bonds s.1.1)) (encF rPII (Bk.bonds s.1.1))), List.length s.2.1 + (1 : Nat), decF rItem (List.length s.1.2.2.1) fun i => encF rItem s.1.2.2.1 ((0 : Nat) + i), s.1.2.2.2.1, IntKind.wrap IntKind.i64 (s.1.2.2.2.2 + (1 : Int))), decF rItem (List.length s.2.1 + (1 : Nat)) (appG (List.length s.2.1) (encF rItem s.2.1) fun i k => Option.getD [AV.int IntKind.i64 (numOf (encF rItem s.1.2.2.1 ((0 : Nat) + Int.toNat s.1.2.2.2.2) (0 : Nat))), AV.int IntKind.i64 (numOf (encF rItem s.1.2.2.1 ((0 : Nat) + Int.toNat s.1.2.2.2.2) (nat_lit 1))), AV.int IntKind.i64 (numOf (encF rItem s.1.2.2.1 ((0 : Nat) + Int.toNat s.1.2.2.2.2) (nat_lit 2))), AV.int IntKind.i64 (numOf (encF rItem s.1.2.2.1 ((0 : Nat) + Int.toNat s.1.2.2.2.2) (nat_lit 3))), AV.int IntKind.i64 (numOf (encF rItem s.1.2.2.1 ((0 : Nat) + Int.toNat s.1.2.2.2.2) (nat_lit 4))), AV.int IntKind.i64 (numOf (encF rItem s.1.2.2.1 ((0 : Nat) + Int.toNat s.1.2.2.2.2) (nat_lit 5))), AV.int IntKind.i64 (numOf (encF rItem s.1.2.2.1 ((0 : Nat) + Int.toNat s.1.2.2.2.2) (nat_lit 6)))][((0 : Nat) + i) * (7 : Nat) + k]? AV.top), PUnit.unit))))) (
    .ret (Sum.inr (s.1.2.1, decF rItem (List.length s.2.1) (encF rItem s.2.1), PUnit.unit)))) := fun s => by kernel_rfl
noncomputable def K.L_fin := lim K.st_fin
noncomputable def BLT12 : Tab := BLT11.addNode 31 57 (nodeE [26, 8, 7, 24, 25] S_fin X_fin (fun s => .obs (K.L_fin s) .ret))
theorem tLT12 : TabOk P BLT12 := TabOk.addLoop (d := 30) okP tLT11 (by kernel_rfl) (by kernel_rfl) (fun s r h => obs_ret h)
theorem fn_final : ∀ a, (callT1 P BLT12 30 31 D_ln R_ie) a = T.run (
  .chk (decide (nat_lit 1 ≤ (1000 : Nat))) <|
  .br (askedV (decF rItem (List.length a.1) fun i => encF rItem a.1 ((0 : Nat) + i)) (decF rInt (1 : Nat) fun i k => Option.getD [AV.int IntKind.i64 a.2][((0 : Nat) + i) * (1 : Nat) + k]? AV.top) != (0 : Int)) (
    .ret (([], askedV (decF rItem (List.length a.1) fun i => encF rItem a.1 ((0 : Nat) + i)) (decF rInt (1 : Nat) fun i k => Option.getD [AV.int IntKind.i64 a.2][((0 : Nat) + i) * (1 : Nat) + k]? AV.top)))) (
    .chk (rdOk (decF rItem (List.length a.1) fun i => encF rItem a.1 ((0 : Nat) + i))) <|
    .obs (L_fin ((Bk.mk (Bk.closed (readB (decF rItem (List.length a.1) fun i => encF rItem a.1 ((0 : Nat) + i)) a.2)) (decF rPost (List.length (Bk.posts (readB (decF rItem (List.length a.1) fun i => encF rItem a.1 ((0 : Nat) + i)) a.2))) fun i => encF rPost (Bk.posts (readB (decF rItem (List.length a.1) fun i => encF rItem a.1 ((0 : Nat) + i)) a.2)) ((0 : Nat) + i)) (decF rItem (List.length (Bk.taken (readB (decF rItem (List.length a.1) fun i => encF rItem a.1 ((0 : Nat) + i)) a.2))) fun i => encF rItem (Bk.taken (readB (decF rItem (List.length a.1) fun i => encF rItem a.1 ((0 : Nat) + i)) a.2)) ((0 : Nat) + i)) (decF rInt (List.length (Bk.refused (readB (decF rItem (List.length a.1) fun i => encF rItem a.1 ((0 : Nat) + i)) a.2))) fun i => encF rInt (Bk.refused (readB (decF rItem (List.length a.1) fun i => encF rItem a.1 ((0 : Nat) + i)) a.2)) ((0 : Nat) + i)) (decP pStd (List.length (Bk.bills (readB (decF rItem (List.length a.1) fun i => encF rItem a.1 ((0 : Nat) + i)) a.2))) (encPF pStd (Bk.bills (readB (decF rItem (List.length a.1) fun i => encF rItem a.1 ((0 : Nat) + i)) a.2))) (encPL (Bk.bills (readB (decF rItem (List.length a.1) fun i => encF rItem a.1 ((0 : Nat) + i)) a.2))) (encPH pStd (Bk.bills (readB (decF rItem (List.length a.1) fun i => encF rItem a.1 ((0 : Nat) + i)) a.2)))) (decF rPII (List.length (Bk.paid (readB (decF rItem (List.length a.1) fun i => encF rItem a.1 ((0 : Nat) + i)) a.2))) (encF rPII (Bk.paid (readB (decF rItem (List.length a.1) fun i => encF rItem a.1 ((0 : Nat) + i)) a.2)))) (decF rPII (List.length (Bk.bonds (readB (decF rItem (List.length a.1) fun i => encF rItem a.1 ((0 : Nat) + i)) a.2))) (encF rPII (Bk.bonds (readB (decF rItem (List.length a.1) fun i => encF rItem a.1 ((0 : Nat) + i)) a.2)))), (0 : Nat), decF rItem (List.length (Bk.taken (readB (decF rItem (List.length a.1) fun i => encF rItem a.1 ((0 : Nat) + i)) a.2))) fun i => encF rItem (Bk.taken (readB (decF rItem (List.length a.1) fun i => encF rItem a.1 ((0 : Nat) + i)) a.2)) ((0 : Nat) + i), (↑(clampL (List.length (Bk.taken (readB (decF rItem (List.length a.1) fun i => encF rItem a.1 ((0 : Nat) + i)) a.2)))) : Int), (0 : Int)), decF rItem (0 : Nat) fun x x_1 => AV.top, PUnit.unit)) fun x0 =>
      .ret ((decF rItem (List.length x0.2.1) fun i => encF rItem x0.2.1 ((0 : Nat) + i), (0 : Int))))) := fun a => by kernel_rfl
end Go.Proofs.YtelpdkojdfnmiaaGreat
/-! LT2 -/
namespace Go.Proofs.YtelpdkojdfnmiaaGreat
open Ev K
set_option maxRecDepth 100000
namespace K
theorem pushP (l : List Pst) (a b c d : Int) : decF rPost (l.length + 1) (appG l.length (encF rPost l) fun i k => ([(.int .i64 a : AV), .int .i64 b, .int .i64 c, .int .i64 d][i * 4 + k]?).getD .top) = l ++ [⟨a, b, c, d⟩] := decF_push' (decF_encF rPost l) _
def onLine (acc : Int) (sp : Span) (p : Pst) : Bool := decide (p.account = acc ∧ sp.lo ≤ p.day ∧ p.day ≤ sp.hi)
theorem L_sta_eq (acc : Int) (l : List Pst) (sp : Span) (b a : Int) (hl : l.length ≤ 1000) : ∀ (d i : Nat) (out : List Pst), i + d = l.length → out.length ≤ i →
    L_sta ((acc, l, (l.length : Int), (i : Int)), sp, (), (b, a, out.length), out, ()) = some ((), (), (b, a, (out ++ (l.drop i).filter (onLine acc sp)).length), out ++ (l.drop i).filter (onLine acc sp), ())
  | 0, i, out, h, ho => by
    refine lim_done ?_
    rw [sl_sta]
    simp only [decF_encF]
    refine br_f (decide_eq_false (by omega)) ?_
    rw [List.drop_of_length_le (by omega)]; simp; rfl
  | d + 1, i, out, h, ho => by
    have hi : i < l.length := by omega
    have hx := List.getElem?_eq_getElem hi
    have hdrop := List.drop_eq_getElem_cons hi
    generalize l[i] = x at hx hdrop
    have w : IntKind.i64.wrap ((i : Int) + 1) = ((i + 1 : Nat) : Int) := by rw [w64_in (by omega) (by omega)]; rfl
    have hid : (⟨x.item, x.day, x.account, x.amount⟩ : Pst) = x := rfl
    by_cases hf : onLine acc sp x = true
    · have hf' := of_decide_eq_true hf
      have e : out ++ (l.drop i).filter (onLine acc sp) = (out ++ [x]) ++ (l.drop (i + 1)).filter (onLine acc sp) := by rw [hdrop, List.filter_cons_of_pos hf]; simp
      rw [e]
      refine (lim_step ?_).trans (L_sta_eq acc l sp b a hl d (i + 1) (out ++ [x]) (by omega) (by simp; omega))
      rw [sl_sta]
      simp only [Int.toNat_natCast, Nat.zero_add, post_at hx, pw0, pw1, pw2, pw3, decF_encF, w, pushP, hid]
      refine br_t (decide_eq_true (by omega)) (chk_step (decide_eq_true (by omega)) (br_t (beq_iff_eq.2 hf'.1) (br_t ((l_within_iff _ _ _).2 hf'.2) (chk_step (decide_eq_true (by omega)) ?_))))
      rw [List.length_append]; rfl
    · have hf' : ¬ (x.account = acc ∧ sp.lo ≤ x.day ∧ x.day ≤ sp.hi) := fun h => hf (decide_eq_true h)
      have e : (l.drop i).filter (onLine acc sp) = (l.drop (i + 1)).filter (onLine acc sp) := by rw [hdrop, List.filter_cons_of_neg hf]
      rw [e]
      refine (lim_step ?_).trans (L_sta_eq acc l sp b a hl d (i + 1) out (by omega) (by omega))
      rw [sl_sta]
      simp only [Int.toNat_natCast, Nat.zero_add, post_at hx, pw0, pw1, pw2, pw3, decF_encF, w, pushP, hid]
      refine br_t (decide_eq_true (by omega)) (chk_step (decide_eq_true (by omega)) ?_)
      by_cases ha : x.account = acc
      · exact br_t (beq_iff_eq.2 ha) (br_f (by rw [← Bool.not_eq_true]; exact fun h => hf' ⟨ha, (l_within_iff _ _ _).1 h⟩) rfl)
      · exact br_f (by rw [beq_eq_false_iff_ne]; exact ha) rfl
def spanOk (sp : Span) : Prop := dayOk sp.lo ∧ dayOk sp.hi ∧ sp.lo ≤ sp.hi
instance (sp : Span) : Decidable (spanOk sp) := by unfold spanOk; infer_instance
def stateE (l : List Itm) (acc : Int) (sp : Span) (known : Int) : Int := orV (orV (askedV l [known]) (accountE acc)) (if spanOk sp then 0 else 1)
def stm (ps : List Pst) (acc : Int) (sp : Span) : Stm := ⟨lookM (sumP ps (sp.lo - 1)) acc, lookM (sumP ps sp.hi) acc, stB (ps.filter (onLine acc sp))⟩
def stateV (l : List Itm) (acc : Int) (sp : Span) (known : Int) : Stm × Int := (if stateE l acc sp known = 0 then stm (readB l known).posts acc sp else ⟨0, 0, []⟩, stateE l acc sp known)
theorem state_eq (a : List Itm × Int × Span × Int) : callT1 P BLT11 30 22 D_state R_state a = some (stateV a.1 a.2.1 a.2.2.1 a.2.2.2) := by
  obtain ⟨l, acc, sp, known⟩ := a
  rw [fn_state]; unfold stateV stateE orV
  simp only [Nat.zero_add, decF_encF, dInt1, find_M, raw_M, l_account_eq]
  refine chk_step rfl ?_
  by_cases h : askedV l [known] = 0
  · simp only [h, ne_eq, not_true, if_false]
    refine br_f (by decide) ?_
    by_cases h2 : accountE acc = 0
    · simp only [h2, ne_eq, not_true, if_false]
      refine br_f (by decide) ?_
      by_cases h3 : dayOk sp.lo
      · refine br_f (by rw [(l_day_iff _).2 h3]; rfl) ?_
        by_cases h4 : dayOk sp.hi
        · refine br_f (by rw [(l_day_iff _).2 h4]; rfl) ?_
          by_cases h5 : sp.lo ≤ sp.hi
          · have hsp : spanOk sp := ⟨h3, h4, h5⟩
            have hb := chk_bal (ask_check h).1 known
            have hpl : (readB l known).posts.length ≤ 1000 := (of_decide_eq_true hb).1
            have w : IntKind.i64.wrap (sp.lo - 1) = sp.lo - 1 := by unfold dayOk at h3; exact w64_in (by omega) (by omega)
            simp only [hsp, if_true, w]
            refine br_f (decide_eq_false (by omega)) (chk_step (chk_rd (ask_check h).1) (chk_step hb (chk_step hb ?_)))
            rw [clampL_eq (show (readB l known).posts.length ≤ maxL by unfold maxL; omega)]
            have key := L_sta_eq acc (readB l known).posts sp (lookM (sumP (readB l known).posts (sp.lo - 1)) acc) (lookM (sumP (readB l known).posts sp.hi) acc) hpl (readB l known).posts.length 0 [] (by omega) (by simp)
            simp only [List.drop_zero, List.nil_append] at key
            refine obs_step key ?_
            have hfl := List.length_filter_le (onLine acc sp) (readB l known).posts
            simp only [decF_encF]
            refine chk_step (decide_eq_true (by omega)) ?_
            rw [hdec (stB_len _)]; rfl
          · have hsp : ¬ spanOk sp := fun h => h5 h.2.2
            simp only [hsp, if_false]
            exact br_t (decide_eq_true (by omega)) rfl
        · have hsp : ¬ spanOk sp := fun h => h4 h.2.1
          simp only [hsp, if_false]
          exact br_t (by rw [Bool.not_eq_true', ← Bool.not_eq_true]; exact fun h => h4 ((l_day_iff _).1 h)) rfl
      · have hsp : ¬ spanOk sp := fun h => h3 h.1
        simp only [hsp, if_false]
        exact br_t (by rw [Bool.not_eq_true', ← Bool.not_eq_true]; exact fun h => h3 ((l_day_iff _).1 h)) rfl
    · simp only [h2, ne_eq, not_false_eq_true, if_true, if_false]
      exact br_t (ne_t h2) (br_t (ne_t h2) rfl)
  · simp only [h, ne_eq, not_false_eq_true, if_true, if_false]
    exact br_t (ne_t h) (br_t (ne_t h) rfl)
def finItem (k : Bk) (x : Itm) : Option Itm := if x.kind = 2 then none else if x.kind = 1 then (match fb k x.bill with
  | some q => some { x with amount := (k.bills.getD q default).1.amount }
  | none => none) else some x
def finL (k : Bk) : List Itm := k.taken.filterMap (finItem k)
def TkOk (k : Bk) : Prop := ∀ x ∈ k.taken, x.kind = 1 → ∃ q, fb k x.bill = some q
theorem fb_app {k : Bk} {n : Int} {q : Nat} (h : fb k n = some q) (b : Std × List Chg) (k' : Bk) (hk : k'.bills = k.bills ++ [b]) : fb k' n = some q := by
  unfold fb at h ⊢
  rw [hk, List.findIdx?_append, h]; rfl
theorem fb_new {k : Bk} {n : Int} (b : Std × List Chg) (hb : b.1.no = n) (k' : Bk) (hk : k'.bills = k.bills ++ [b]) : ∃ q, fb k' n = some q := by
  unfold fb
  rw [hk, List.findIdx?_append]
  cases k.bills.findIdx? fun a => n == a.1.no with
  | some q => exact ⟨q, rfl⟩
  | none => exact ⟨0 + k.bills.length, by simp [List.findIdx?_cons, hb]⟩
theorem fb_set {k : Bk} {n : Int} {i : Nat} (hi : i < k.bills.length) (b : Std × List Chg) (hb : b.1.no = (k.bills[i]).1.no) (k' : Bk) (hk : k'.bills = k.bills.set i b) : fb k' n = fb k n := by
  unfold fb
  rw [hk]
  have e : ∀ (L : List (Std × List Chg)), (L.findIdx? fun a => n == a.1.no) = (L.map (·.1.no)).findIdx? (n == ·) := fun L => by rw [List.findIdx?_map]; rfl
  rw [e, e, List.map_set, hb]
  congr 1
  exact set_same (by rw [List.getElem?_map, List.getElem?_eq_getElem hi]; rfl)
theorem TkOk.same {k k' : Bk} (h : TkOk k) {x : Itm} (hx : x.kind ≠ 1) (hb : k'.bills = k.bills) (ht : k'.taken = k.taken ++ [x]) : TkOk k' := by
  intro y hy h1
  rw [ht] at hy
  have e : fb k' y.bill = fb k y.bill := by unfold fb; rw [hb]
  rw [e]
  rcases List.mem_append.1 hy with hy | hy
  · exact h y hy h1
  · simp only [List.mem_singleton] at hy; subst hy; exact absurd h1 hx
theorem TkOk.doItem {k : Bk} (h : TkOk k) (x : Itm) : TkOk (doItem k x) := by
  unfold K.doItem
  by_cases k1 : x.kind = 1
  · rw [if_pos k1]
    unfold doBill; split
    · exact h
    · split
      · exact h
      · intro y hy h1
        have hy : y ∈ k.taken ++ [x] := hy
        rcases List.mem_append.1 hy with hy | hy
        · obtain ⟨q, hq⟩ := h y hy h1
          exact ⟨q, fb_app hq _ _ rfl⟩
        · simp only [List.mem_singleton] at hy; subst hy
          exact fb_new (k := k) (⟨y.bill, y, y.amount⟩, [⟨y.known, y.amount⟩]) rfl _ rfl
  rw [if_neg k1]
  split
  · unfold doMend; split
    · exact h
    · rename_i q hq
      split
      · exact h
      · intro y hy h1
        have hy : y ∈ k.taken ++ [x] := hy
        have hql := fb_some hq
        have hg : k.bills.getD q default = k.bills[q] := by rw [List.getD_eq_getElem?_getD, List.getElem?_eq_getElem hql]; rfl
        rw [fb_set (k := k) hql _ (by rw [← hg]) _ rfl]
        rcases List.mem_append.1 hy with hy | hy
        · exact h y hy h1
        · simp only [List.mem_singleton] at hy; subst hy; exact absurd h1 k1
  split
  · unfold doPay; split
    · exact h
    · exact h.same k1 rfl rfl
  split
  · unfold doRefund; split
    · exact h
    · split
      · exact h
      · exact h.same k1 rfl rfl
  split
  · unfold doBond; split
    · exact h
    · exact h.same k1 rfl rfl
  split
  · unfold doFree; split
    · exact h
    · split
      · exact h
      · exact h.same k1 rfl rfl
  · unfold doShut; split
    · exact h
    · exact h.same k1 rfl rfl
theorem foldl_tk : ∀ (l : List Itm) (k : Bk), TkOk k → TkOk (l.foldl K.doItem k)
  | [], _, h => h
  | x :: l, _, h => foldl_tk l _ (h.doItem x)
theorem read_tk (l : List Itm) (known : Int) : TkOk (readB l known) := foldl_tk (knownOn known (srt l)) bk0 (fun x hx => by cases hx)
theorem pushT' (l : List Itm) (a b c d e f g : Int) : decF rItem (l.length + 1) (appG l.length (encF rItem l) fun i k => ([(.int .i64 a : AV), .int .i64 b, .int .i64 c, .int .i64 d, .int .i64 e, .int .i64 f, .int .i64 g][i * 7 + k]?).getD .top) = l ++ [⟨a, b, c, d, e, f, g⟩] := pushT l a b c d e f g
theorem L_fin_eq (k : Bk) (htk : TkOk k) (hl : k.taken.length ≤ 1000) : ∀ (d i : Nat) (out : List Itm), i + d = k.taken.length → out.length ≤ i →
    L_fin ((k, out.length, k.taken, (k.taken.length : Int), (i : Int)), out, ()) = some ((out ++ (k.taken.drop i).filterMap (finItem k)).length, out ++ (k.taken.drop i).filterMap (finItem k), ())
  | 0, i, out, h, ho => by
    refine lim_done ?_
    rw [sl_fin]
    simp only [decF_encF]
    refine br_f (decide_eq_false (by omega)) ?_
    rw [List.drop_of_length_le (by omega)]; simp; rfl
  | d + 1, i, out, h, ho => by
    have hi : i < k.taken.length := by omega
    have hx := List.getElem?_eq_getElem hi
    have hm := List.getElem_mem hi
    have hdrop := List.drop_eq_getElem_cons hi
    generalize k.taken[i] = x at hx hdrop hm
    have w : IntKind.i64.wrap ((i : Int) + 1) = ((i + 1 : Nat) : Int) := by rw [w64_in (by omega) (by omega)]; rfl
    have hid : (⟨x.id, x.known, x.kind, x.day, x.bill, x.account, x.amount⟩ : Itm) = x := rfl
    rw [hdrop, List.filterMap_cons]
    by_cases k2 : x.kind = 2
    · have e : finItem k x = none := by unfold finItem; rw [if_pos k2]
      rw [e]
      refine (lim_step ?_).trans (L_fin_eq k htk hl d (i + 1) out (by omega) (by omega))
      rw [sl_fin]
      simp only [Int.toNat_natCast, Nat.zero_add, item_at hx, wr0, wr1, wr2, wr3, wr4, wr5, wr6, decF_encF, decP_encP, w]
      exact br_t (decide_eq_true (by omega)) (chk_step (decide_eq_true (by omega)) (br_t (beq_iff_eq.2 k2) rfl))
    · by_cases k1 : x.kind = 1
      · obtain ⟨q, hq⟩ := htk x hm k1
        have hql := fb_some hq
        have hs := List.getElem?_eq_getElem hql
        have e : finItem k x = some { x with amount := (k.bills.getD q default).1.amount } := by unfold finItem; rw [if_neg k2, if_pos k1, hq]
        have hg : k.bills.getD q default = k.bills[q] := by rw [List.getD_eq_getElem?_getD, hs]; rfl
        rw [e, hg]
        generalize k.bills[q] = s at hs
        have e2 : ∀ t : List Itm, out ++ { x with amount := s.1.amount } :: t = (out ++ [{ x with amount := s.1.amount }]) ++ t := fun t => by simp
        rw [e2]
        refine (lim_step ?_).trans (L_fin_eq k htk hl d (i + 1) (out ++ [(⟨x.id, x.known, x.kind, x.day, x.bill, x.account, s.1.amount⟩ : Itm)]) (by omega) (by simp; omega))
        rw [sl_fin]
        have hfb : (k.bills.findIdx? fun a => x.bill == a.1.no) = some q := hq
        simp only [Int.toNat_natCast, Nat.zero_add, item_at hx, wr0, wr1, wr2, wr3, wr4, wr5, wr6, decF_encF, decP_encP, w, find_pool, hfb, Option.getD_some, encPF_at hs, ps8, pushT']
        refine br_t (decide_eq_true (by omega)) (chk_step (decide_eq_true (by omega)) (br_f (by rw [beq_eq_false_iff_ne]; exact k2) (br_t (beq_iff_eq.2 k1) (br_t rfl (chk_step (decide_eq_true (by omega)) ?_)))))
        rw [List.length_append]; rfl
      · have e : finItem k x = some x := by unfold finItem; rw [if_neg k2, if_neg k1]
        rw [e]
        have e2 : ∀ t : List Itm, out ++ x :: t = (out ++ [x]) ++ t := fun t => by simp
        rw [e2]
        refine (lim_step ?_).trans (L_fin_eq k htk hl d (i + 1) (out ++ [x]) (by omega) (by simp; omega))
        rw [sl_fin]
        simp only [Int.toNat_natCast, Nat.zero_add, item_at hx, wr0, wr1, wr2, wr3, wr4, wr5, wr6, decF_encF, decP_encP, w, pushT', hid]
        refine br_t (decide_eq_true (by omega)) (chk_step (decide_eq_true (by omega)) (br_f (by rw [beq_eq_false_iff_ne]; exact k2) (br_f (by rw [beq_eq_false_iff_ne]; exact k1) (chk_step (decide_eq_true (by omega)) ?_))))
        rw [List.length_append]; rfl
def finalV (l : List Itm) (known : Int) : List Itm × Int := (if askedV l [known] = 0 then finL (readB l known) else [], askedV l [known])
theorem final_eq (a : List Itm × Int) : callT1 P BLT12 30 31 D_ln R_ie a = some (finalV a.1 a.2) := by
  obtain ⟨l, known⟩ := a
  rw [fn_final]; unfold finalV
  simp only [Nat.zero_add, decF_encF, decP_encP, dInt1]
  refine chk_step rfl ?_
  by_cases h : askedV l [known] = 0
  · rw [if_pos h, h]
    obtain ⟨h1, h2, _⟩ := checkV_ok (ask_check h).1
    have htl : (readB l known).taken.length ≤ 1000 := by have := (read_ok h2 known).taken; omega
    refine br_f (by decide) (chk_step (chk_rd (ask_check h).1) ?_)
    rw [clampL_eq (show (readB l known).taken.length ≤ maxL by unfold maxL; omega)]
    have key := L_fin_eq (readB l known) (read_tk l known) htl (readB l known).taken.length 0 [] (by omega) (by simp)
    simp only [List.drop_zero, List.nil_append] at key
    exact obs_step key (by simp only [decF_encF]; rfl)
  · rw [if_neg h]; exact br_t (ne_t h) rfl
end K
noncomputable def BLT21 : Tab := BLT12.addCall 22 (callE D_state R_state (fun a => .ret (K.stateV a.1 a.2.1 a.2.2.1 a.2.2.2)))
theorem tLT21 : TabOk P BLT21 := TabOk.addPC tLT12 (fun a r h => by rw [← ret_some h]; exact call_of okP tLT11 (K.state_eq a))
noncomputable def BLT22 : Tab := BLT21.addCall 31 (callE D_ln R_ie (fun a => .ret (K.finalV a.1 a.2)))
theorem tLT22 : TabOk P BLT22 := TabOk.addPC tLT21 (fun a r h => by rw [← ret_some h]; exact call_of okP tLT12 (K.final_eq a))
end Go.Proofs.YtelpdkojdfnmiaaGreat
/-! LM0 -/
namespace Go.Proofs.YtelpdkojdfnmiaaGreat
open Ev K
set_option maxRecDepth 100000
noncomputable def BLM01 : Tab := BLT22
theorem tLM01 : TabOk P BLM01 := tLT22
section
noncomputable abbrev fMv : FuncId := 48
theorem hcMv : nodeC P fMv 64 = .seq (.seq (pcA P fMv 64) (.block (pcB P fMv 64) (.loop (.seq (.region (pcId P fMv 64) (pcOps P fMv 64) false) (pcRest P fMv 64))))) (pcR P fMv 64) := by kernel_rfl
theorem opsMv : (pcOps P fMv 64).toList = opAt (seqL (pcL P fMv 64)) 0 :: (pcOps P fMv 64).toList.tail := by kernel_rfl
theorem nextMv : (opAt (seqL (pcL P fMv 64)) 0).op = .next (pcX P fMv 64) false := by kernel_rfl
abbrev Bls := List (Std × List Chg)
def S0_mv : DecS ((List Itm × Int × Bls × Nat) × List Int × Unit) := DecS.ghost 10 3 1 [.int .i64] (DecS.mk0 (.cons (dRows rItem) (.cons dInt (.skips 7 (.cons (dXp pStd) (.last (dO 0) 49))))) (.rows 3 rInt .nil))
def O_mv : DecB (List Int × (Bls × List Nat) × Unit) := .rows 3 rInt (.iter (dXp pStd) (dXp_len pStd) .nil)
def S_mv : DecS ((Bls × Nat × Unit) × List Int × (Bls × List Nat) × Unit) := DecS.mk0 (.skips 9 (.cons (dXp pStd) (.cons (dO 0) (.skips 25 (.unit (dLp 1 0 0 0) (.tops 23)))))) O_mv
def X_mv : DecX (Nat × List Int × Unit) := DecX.one (.exit 0) [10] (DecS.mk0 (.skips 10 (.last (dO 0) 49)) (.rows 3 rInt .nil))
def XE_mv : DecX ((Nat × Int) × List Int × Unit) := DecX.one .ret [6, 7] (DecS.mk0 (.skips 6 (.cons (dO 0) (.last dInt 52))) (.rows 3 rInt .nil))
noncomputable def C_mv : Cfg := mkCfg BLM01 (lvl P BLM01 30) fMv
noncomputable def K.stt_mv (s0 : (List Itm × Int × Bls × Nat) × List Int × Unit) : Option ((Bls × Nat × Unit) × List Int × (Bls × List Nat) × Unit) := (startT P C_mv (pcA P fMv 64) [10, 9, 36] S0_mv S_mv s0).run
noncomputable def K.sto_mv (a : Nat × (Bls × Nat × Unit) × List Int × (Bls × List Nat) × Unit) : Option (((Bls × Nat × Unit) × List Int × (Bls × List Nat) × Unit) ⊕ (Nat × List Int × Unit)) := (stepO P C_mv (pcOps P fMv 64) (pcRest P fMv 64) (pcX P fMv 64) (pcD P fMv 64) [10, 9, 36] S_mv X_mv (some a.1) a.2).run
noncomputable def K.stn_mv (s : (Bls × Nat × Unit) × List Int × (Bls × List Nat) × Unit) : Option (((Bls × Nat × Unit) × List Int × (Bls × List Nat) × Unit) ⊕ (Nat × List Int × Unit)) := (stepO P C_mv (pcOps P fMv 64) (pcRest P fMv 64) (pcX P fMv 64) (pcD P fMv 64) [10, 9, 36] S_mv X_mv none s).run
noncomputable def K.stf_mv (q : Nat × List Int × Unit) : Option ((Nat × Int) × List Int × Unit) := (finT P C_mv (pcB P fMv 64) (pcR P fMv 64) X_mv XE_mv q).run
theorem tr_mtt : ∀ s0, (K.stt_mv) s0 = T.run (
  .chk (rdOk (decF rItem (List.length s0.1.1) fun i => encF rItem s0.1.1 ((0 : Nat) + i))) <|
  .ret (((decP pStd (List.length s0.1.2.2.1) (encPF pStd s0.1.2.2.1) (encPL s0.1.2.2.1) (encPH pStd s0.1.2.2.1), s0.1.2.2.2, PUnit.unit), decF rInt (List.length s0.2.1) (encF rInt s0.2.1), (decP pStd (List.length (Bk.bills (readB (decF rItem (List.length s0.1.1) fun i => encF rItem s0.1.1 ((0 : Nat) + i)) s0.1.2.1))) (encPF pStd (Bk.bills (readB (decF rItem (List.length s0.1.1) fun i => encF rItem s0.1.1 ((0 : Nat) + i)) s0.1.2.1))) (encPL (Bk.bills (readB (decF rItem (List.length s0.1.1) fun i => encF rItem s0.1.1 ((0 : Nat) + i)) s0.1.2.1))) (encPH pStd (Bk.bills (readB (decF rItem (List.length s0.1.1) fun i => encF rItem s0.1.1 ((0 : Nat) + i)) s0.1.2.1))), []), PUnit.unit))) := fun s0 => by kernel_rfl
theorem tr_mto : ∀ a, (K.sto_mv) a = T.run (
  .chk (decide (a.1 < List.length a.2.2.2.1.1)) <|
  .br (match mfind (poolG (Get.mk [CK.int IntKind.i64, CK.int IntKind.i64, CK.int IntKind.i64, CK.int IntKind.i64, CK.int IntKind.i64, CK.int IntKind.i64, CK.int IntKind.i64, CK.int IntKind.i64, CK.int IntKind.i64, CK.any] (encPF pStd a.2.1.1)) (9 : Nat) (8 : Nat) (2 : Nat) (encPL a.2.1.1) [CK.int IntKind.i64, CK.int IntKind.i64] (encPH pStd a.2.1.1)) (AV.int IntKind.i64 (numOf (encPF pStd a.2.2.2.1.1 a.1 (0 : Nat)))) (List.length a.2.1.1) with
| some val => true
| none => false) (
    .br (numOf (encPF pStd a.2.1.1 (Option.getD (mfind (poolG (Get.mk [CK.int IntKind.i64, CK.int IntKind.i64, CK.int IntKind.i64, CK.int IntKind.i64, CK.int IntKind.i64, CK.int IntKind.i64, CK.int IntKind.i64, CK.int IntKind.i64, CK.int IntKind.i64, CK.any] (encPF pStd a.2.1.1)) (9 : Nat) (8 : Nat) (2 : Nat) (encPL a.2.1.1) [CK.int IntKind.i64, CK.int IntKind.i64] (encPH pStd a.2.1.1)) (AV.int IntKind.i64 (numOf (encPF pStd a.2.2.2.1.1 a.1 (0 : Nat)))) (List.length a.2.1.1)) (0 : Nat)) (nat_lit 8)) != numOf (encPF pStd a.2.2.2.1.1 a.1 (nat_lit 8))) (
      .chk (decide ((List.length a.2.2.1 + (1 : Nat)) * (8 : Nat) ≤ (140737488355328 : Nat) ∧ List.length a.2.2.1 + (1 : Nat) ≤ nat_lit 9223372036854775807)) <|
      .ret (Sum.inl ((decP pStd (List.length a.2.1.1) (encPF pStd a.2.1.1) (encPL a.2.1.1) (encPH pStd a.2.1.1), List.length a.2.2.1 + (1 : Nat), PUnit.unit), decF rInt (List.length a.2.2.1 + (1 : Nat)) (appG (List.length a.2.2.1) (encF rInt a.2.2.1) fun i k => Option.getD [AV.int IntKind.i64 (numOf (encPF pStd a.2.2.2.1.1 a.1 (0 : Nat)))][((0 : Nat) + i) * (1 : Nat) + k]? AV.top), (decP pStd (List.length a.2.2.2.1.1) (encPF pStd a.2.2.2.1.1) (encPL a.2.2.2.1.1) (encPH pStd a.2.2.2.1.1), a.1 :: a.2.2.2.1.2), PUnit.unit))) (
      .ret (Sum.inl ((decP pStd (List.length a.2.1.1) (encPF pStd a.2.1.1) (encPL a.2.1.1) (encPH pStd a.2.1.1), a.2.1.2.1, PUnit.unit), decF rInt (List.length a.2.2.1) (encF rInt a.2.2.1), (decP pStd (List.length a.2.2.2.1.1) (encPF pStd a.2.2.2.1.1) (encPL a.2.2.2.1.1) (encPH pStd a.2.2.2.1.1), a.1 :: a.2.2.2.1.2), PUnit.unit)))) (
    .fail)) := fun a => by kernel_rfl
theorem tr_mtn : ∀ s, (K.stn_mv) s = T.run (
  .ret (Sum.inr (s.1.2.1, decF rInt (List.length s.2.1) (encF rInt s.2.1), PUnit.unit))) := fun s => by kernel_rfl
theorem tr_mtf : ∀ q, (K.stf_mv) q = T.run (
  .chk (decide (List.length q.2.1 < (4611686018427387904 : Nat))) <|
  .ret (((q.1, (0 : Int)), decF rInt (List.length q.2.1) (encF rInt (sortL (decF rInt (List.length q.2.1) (encF rInt q.2.1)))), PUnit.unit))) := fun q => by kernel_rfl
end
end Go.Proofs.YtelpdkojdfnmiaaGreat
/-! LM1 -/
namespace Go.Proofs.YtelpdkojdfnmiaaGreat
open Ev K
set_option maxRecDepth 100000
namespace K
abbrev MvS := (Bls × Nat × Unit) × List Int × (Bls × List Nat) × Unit
def fbL (m : Bls) (n : Int) : Option Nat := m.findIdx? fun a => n == a.1.no
def amtL (m : Bls) (n : Int) : Int := match fbL m n with
  | some q => (m.getD q default).1.amount
  | none => 0
def mvd (now : Bls) (s : Std × List Chg) : Bool := amtL now s.1.no != s.1.amount
def movedF (now m : Bls) : List Int := sortL ((m.filter (mvd now)).map (·.1.no))
def foundIn (now m : Bls) : Bool := m.all fun s => (fbL now s.1.no).isSome
def M_mv (s0 : (List Itm × Int × Bls × Nat) × List Int × Unit) : T ((Nat × Int) × List Int × Unit) :=
  .chk (rdOk s0.1.1 && (decide (s0.2.1 = [] ∧ s0.1.2.2.2 = 0 ∧ (readB s0.1.1 s0.1.2.1).bills.length ≤ 1000) && foundIn s0.1.2.2.1 (readB s0.1.1 s0.1.2.1).bills)) (.ret (((movedF s0.1.2.2.1 (readB s0.1.1 s0.1.2.1).bills).length, 0), movedF s0.1.2.2.1 (readB s0.1.1 s0.1.2.1).bills, ()))
theorem sortL_perm {l l' : List Int} (h : l.Perm l') : sortL l = sortL l' := by
  have hs : ∀ l : List Int, (sortL l).Pairwise (· ≤ ·) := fun l => by
    have := List.pairwise_mergeSort (le := fun x y : Int => decide (x ≤ y)) (fun a b c h1 h2 => by simp only [decide_eq_true_eq] at *; omega) (fun a b => by simp only [Bool.or_eq_true, decide_eq_true_eq]; omega) l
    exact this.imp (fun h => by simpa using h)
  exact List.Perm.eq_of_pairwise (le := fun x y : Int => x ≤ y) (fun a b _ _ h3 h4 => by omega) (hs l) (hs l') (((List.mergeSort_perm l _).trans h).trans (List.mergeSort_perm l' _).symm)
theorem ps0 (x : Std) : numOf (pStd.wr x 0) = x.no := rfl
def noAt (m : Bls) (i : Nat) : Int := (m.getD i default).1.no
theorem ord_mv {now m : Bls} (hm : m.length ≤ 1000) (hf : foundIn now m = true) : ∀ (π : List Nat) (l : List Int) (seen : List Nat), (∀ i ∈ π, i < m.length) → l.length + π.length ≤ m.length →
    ordLoop (fun p s => (stepO P C_mv (pcOps P fMv 64) (pcRest P fMv 64) (pcX P fMv 64) (pcD P fMv 64) [10, 9, 36] S_mv X_mv p s).run) π ((now, l.length, ()), l, (m, seen), ()) = some ((l ++ (π.filter fun i => mvd now (m.getD i default)).map (noAt m)).length, l ++ (π.filter fun i => mvd now (m.getD i default)).map (noAt m), ())
  | [], l, seen, _, _ => by
    simp only [ordLoop]
    have e : (stepO P C_mv (pcOps P fMv 64) (pcRest P fMv 64) (pcX P fMv 64) (pcD P fMv 64) [10, 9, 36] S_mv X_mv none ((now, l.length, ()), l, (m, seen), ())).run = some (.inr (l.length, decF rInt l.length (encF rInt l), ())) := tr_mtn ((now, l.length, ()), l, (m, seen), ())
    rw [e, decF_encF]; simp
  | i :: π, l, seen, h, hl => by
    simp only [ordLoop]
    have hi := h i (List.mem_cons_self ..)
    have hx := List.getElem?_eq_getElem hi
    have hg : m.getD i default = m[i] := by rw [List.getD_eq_getElem?_getD, hx]; rfl
    have hs := List.getElem_mem hi
    have hfi := (List.all_eq_true.1 hf) _ hs
    simp only [List.length_cons] at hl
    rw [List.filter_cons, hg]
    have hno : noAt m i = (m[i]).1.no := by unfold noAt; rw [hg]
    generalize m[i] = s at hx hg hs hfi hno
    cases hq : fbL now s.1.no with
    | none => rw [hq] at hfi; cases hfi
    | some q =>
      have hql : q < now.length := by unfold fbL at hq; rw [List.findIdx?_eq_some_iff_getElem] at hq; exact hq.1
      have hb := List.getElem?_eq_getElem hql
      have hma : amtL now s.1.no = (now[q]).1.amount := by unfold amtL; rw [hq]; simp only; rw [List.getD_eq_getElem?_getD, hb]; rfl
      generalize now[q] = b at hb hma
      have hq' : (now.findIdx? fun a => s.1.no == a.1.no) = some q := hq
      by_cases hd : mvd now s = true
      · have e : (stepO P C_mv (pcOps P fMv 64) (pcRest P fMv 64) (pcX P fMv 64) (pcD P fMv 64) [10, 9, 36] S_mv X_mv (some i) ((now, l.length, ()), l, (m, seen), ())).run = some (.inl ((now, (l ++ [s.1.no]).length, ()), l ++ [s.1.no], (m, i :: seen), ())) := by
          refine (tr_mto (i, (now, l.length, ()), l, (m, seen), ())).trans ?_
          simp only [Nat.zero_add, decF_encF, decP_encP, encPF_at hx, ps0, ps8, find_pool, hq', Option.getD_some, encPF_at hb, pushI]
          refine chk_step (decide_eq_true hi) (br_t rfl (br_t ?_ (chk_step (decide_eq_true (by omega)) ?_)))
          · unfold mvd at hd; rw [hma] at hd; exact hd
          · rw [List.length_append]; rfl
        rw [e, if_pos hd]
        refine (ord_mv hm hf π (l ++ [s.1.no]) (i :: seen) (fun j hj => h j (List.mem_cons_of_mem _ hj)) (by simp; omega)).trans ?_
        rw [List.map_cons, hno]; simp
      · have e : (stepO P C_mv (pcOps P fMv 64) (pcRest P fMv 64) (pcX P fMv 64) (pcD P fMv 64) [10, 9, 36] S_mv X_mv (some i) ((now, l.length, ()), l, (m, seen), ())).run = some (.inl ((now, l.length, ()), l, (m, i :: seen), ())) := by
          refine (tr_mto (i, (now, l.length, ()), l, (m, seen), ())).trans ?_
          simp only [Nat.zero_add, decF_encF, decP_encP, encPF_at hx, ps0, ps8, find_pool, hq', Option.getD_some, encPF_at hb, pushI]
          refine chk_step (decide_eq_true hi) (br_t rfl (br_f ?_ rfl))
          unfold mvd at hd; rw [hma, Bool.not_eq_true] at hd; exact hd
        rw [e, if_neg hd]
        exact ord_mv hm hf π l (i :: seen) (fun j hj => h j (List.mem_cons_of_mem _ hj)) (by omega)
theorem mv_hM (s0 : (List Itm × Int × Bls × Nat) × List Int × Unit) (r : (Nat × Int) × List Int × Unit) (h : (M_mv s0).run = some r) : ∃ s : MvS, (startT P C_mv (pcA P fMv 64) [10, 9, 36] S0_mv S_mv s0).run = some s ∧ s.2.2.1.2 = [] ∧ ∀ π, π.Perm (List.range s.2.2.1.1.length) →
      ∃ q, ordLoop (fun p s => (stepO P C_mv (pcOps P fMv 64) (pcRest P fMv 64) (pcX P fMv 64) (pcD P fMv 64) [10, 9, 36] S_mv X_mv p s).run) π s = some q ∧ (finT P C_mv (pcB P fMv 64) (pcR P fMv 64) X_mv XE_mv q).run = some r := by
  obtain ⟨⟨l, from', now, n⟩, out, u⟩ := s0
  obtain ⟨g, e⟩ := chk_ret h
  subst e
  simp only [Bool.and_eq_true] at g
  obtain ⟨g1, g2, g3⟩ := g
  obtain ⟨e1, e2, hm⟩ := of_decide_eq_true g2
  subst e1; subst e2
  refine ⟨((now, 0, ()), [], ((readB l from').bills, []), ()), ?_, rfl, fun π hπ => ?_⟩
  · refine (tr_mtt ((l, from', now, 0), [], u)).trans ?_
    simp only [Nat.zero_add, decF_encF, decP_encP]
    exact chk_step g1 rfl
  · simp only at hπ
    generalize hM : (readB l from').bills = m at hπ hm g3
    have hlen : π.length = m.length := by rw [hπ.length_eq, List.length_range]
    have ho := ord_mv hm g3 π [] [] (fun i hi => List.mem_range.1 (hπ.mem_iff.1 hi)) (by simp; omega)
    simp only [List.nil_append, List.length_nil] at ho
    refine ⟨_, ho, ?_⟩
    have hp : ((π.filter fun i => mvd now (m.getD i default)).map (noAt m)).Perm ((m.filter (mvd now)).map (·.1.no)) := by
      have a := (hπ.filter fun i => mvd now (m.getD i default)).map (noAt m)
      refine a.trans (List.Perm.of_eq ?_)
      have hmm : m = (List.range m.length).map fun i => m.getD i default := by
        apply List.ext_getElem?
        intro j
        by_cases hj : j < m.length
        · simp [hj]
        · rw [List.getElem?_eq_none (by omega), List.getElem?_eq_none (by simp; omega)]
      conv => rhs; rw [hmm]
      rw [List.filter_map, List.map_map]; rfl
    have hs : sortL ((π.filter fun i => mvd now (m.getD i default)).map (noAt m)) = movedF now m := sortL_perm hp
    refine (tr_mtf _).trans ?_
    simp only [decF_encF, hs]
    have hl : ((π.filter fun i => mvd now (m.getD i default)).map (noAt m)).length = (movedF now m).length := by rw [← hs, sortL_length]
    have hb : ((π.filter fun i => mvd now (m.getD i default)).map (noAt m)).length ≤ 1000 := by rw [List.length_map]; exact Nat.le_trans (List.length_filter_le _ _) (by omega)
    refine chk_step (decide_eq_true (by omega)) ?_
    rw [hl, decF_encF]; rfl
end K
theorem pcMv : (nodesAt P fMv 64).length = 1 := by kernel_rfl
noncomputable def BLM1c : Tab := (BLM01.addNode fMv 64 (nodeE [0, 1, 9, 10] S0_mv XE_mv K.M_mv)).addCut fMv 64
theorem tLM1c : TabOk P BLM1c := TabOk.addOrd (dp := 30) (live := [10, 9, 36]) (D := S_mv) (X := X_mv) (jj := 1) (MM := fun s => (dXp pStd).enc s.2.2.1.1) (N := fun s => s.2.2.1.1.length) (G := fun s => poolG ⟨pStd.tags, encPF pStd s.2.2.1.1⟩ 9 8 2 (encPL s.2.2.1.1) rChg.tags (encPH pStd s.2.2.1.1)) (sn := fun s => s.2.2.1.2)
  okP tLM01 pcMv hcMv opsMv nextMv rfl (by kernel_rfl) (fun s => by kernel_rfl)
  (fun i s s' h => by
    have e : K.sto_mv (i, s) = some (.inl s') := h
    rw [tr_mto] at e
    simp only [T.run] at e
    split at e
    · split at e
      · split at e
        · split at e
          · injection e with e; injection e with e; subst e
            exact ⟨decP_length .., rfl⟩
          · cases e
        · injection e with e; injection e with e; subst e
          exact ⟨decP_length .., rfl⟩
      · cases e
    · cases e)
  (fun _ => rfl) (fun _ => rfl) (fun r e st' h => by injection h with h; injection h with h1 h2; subst h2; rfl) (fun r e st' h => by injection h with h; injection h with h1 h2; subst h2; rfl) (fun s0 r h => K.mv_hM s0 r h)
theorem fn_moved : ∀ a, (callT1 P BLM1c 30 48 D_l3 R_ne) a = T.run (
  .chk (decide (nat_lit 2 ≤ (1000 : Nat))) <|
  .br (askedV (decF rItem (List.length a.1) fun i => encF rItem a.1 ((0 : Nat) + i)) (decF rInt (2 : Nat) fun i k => Option.getD [AV.int IntKind.i64 a.2.1, AV.int IntKind.i64 a.2.2][((0 : Nat) + i) * (1 : Nat) + k]? AV.top) != (0 : Int)) (
    .ret (([], askedV (decF rItem (List.length a.1) fun i => encF rItem a.1 ((0 : Nat) + i)) (decF rInt (2 : Nat) fun i k => Option.getD [AV.int IntKind.i64 a.2.1, AV.int IntKind.i64 a.2.2][((0 : Nat) + i) * (1 : Nat) + k]? AV.top)))) (
    .br (decide (a.2.1 > a.2.2)) (
      .ret (([], (1 : Int)))) (
      .chk (rdOk (decF rItem (List.length a.1) fun i => encF rItem a.1 ((0 : Nat) + i))) <|
      .chk (rdOk (decF rItem (List.length a.1) fun i => encF rItem a.1 ((0 : Nat) + i)) && (decide ((decF rInt (0 : Nat) fun x x_1 => AV.top) = [] ∧ (0 : Nat) = (0 : Nat) ∧ List.length (Bk.bills (readB (decF rItem (List.length a.1) fun i => encF rItem a.1 ((0 : Nat) + i)) a.2.1)) ≤ (1000 : Nat)) && foundIn (decP pStd (List.length (Bk.bills (readB (decF rItem (List.length a.1) fun i => encF rItem a.1 ((0 : Nat) + i)) a.2.2))) (encPF pStd (Bk.bills (readB (decF rItem (List.length a.1) fun i => encF rItem a.1 ((0 : Nat) + i)) a.2.2))) (encPL (Bk.bills (readB (decF rItem (List.length a.1) fun i => encF rItem a.1 ((0 : Nat) + i)) a.2.2))) (encPH pStd (Bk.bills (readB (decF rItem (List.length a.1) fun i => encF rItem a.1 ((0 : Nat) + i)) a.2.2)))) (Bk.bills (readB (decF rItem (List.length a.1) fun i => encF rItem a.1 ((0 : Nat) + i)) a.2.1)))) <|
      .ret ((decF rInt (List.length (movedF (decP pStd (List.length (Bk.bills (readB (decF rItem (List.length a.1) fun i => encF rItem a.1 ((0 : Nat) + i)) a.2.2))) (encPF pStd (Bk.bills (readB (decF rItem (List.length a.1) fun i => encF rItem a.1 ((0 : Nat) + i)) a.2.2))) (encPL (Bk.bills (readB (decF rItem (List.length a.1) fun i => encF rItem a.1 ((0 : Nat) + i)) a.2.2))) (encPH pStd (Bk.bills (readB (decF rItem (List.length a.1) fun i => encF rItem a.1 ((0 : Nat) + i)) a.2.2)))) (Bk.bills (readB (decF rItem (List.length a.1) fun i => encF rItem a.1 ((0 : Nat) + i)) a.2.1)))) fun i => encF rInt (movedF (decP pStd (List.length (Bk.bills (readB (decF rItem (List.length a.1) fun i => encF rItem a.1 ((0 : Nat) + i)) a.2.2))) (encPF pStd (Bk.bills (readB (decF rItem (List.length a.1) fun i => encF rItem a.1 ((0 : Nat) + i)) a.2.2))) (encPL (Bk.bills (readB (decF rItem (List.length a.1) fun i => encF rItem a.1 ((0 : Nat) + i)) a.2.2))) (encPH pStd (Bk.bills (readB (decF rItem (List.length a.1) fun i => encF rItem a.1 ((0 : Nat) + i)) a.2.2)))) (Bk.bills (readB (decF rItem (List.length a.1) fun i => encF rItem a.1 ((0 : Nat) + i)) a.2.1))) ((0 : Nat) + i), (0 : Int)))))) := fun a => by kernel_rfl
end Go.Proofs.YtelpdkojdfnmiaaGreat
/-! LM2 -/
namespace Go.Proofs.YtelpdkojdfnmiaaGreat
open Ev K
set_option maxRecDepth 100000
namespace K
theorem fb_mono {k : Bk} {n : Int} (h : (fb k n).isSome = true) (x : Itm) : (fb (doItem k x) n).isSome = true := by
  obtain ⟨q0, hq0⟩ := Option.isSome_iff_exists.1 h
  unfold K.doItem
  split
  · unfold doBill; split
    · exact h
    · split
      · exact h
      · rw [fb_app hq0 _ _ rfl]; rfl
  split
  · unfold doMend; split
    · exact h
    · rename_i q hq
      split
      · exact h
      · have hql := fb_some hq
        have hg : k.bills.getD q default = k.bills[q] := by rw [List.getD_eq_getElem?_getD, List.getElem?_eq_getElem hql]; rfl
        rw [fb_set (k := k) hql _ (by rw [← hg]) _ rfl]; exact h
  split
  · unfold doPay; split <;> exact h
  split
  · unfold doRefund; split
    · exact h
    · split <;> exact h
  split
  · unfold doBond; split <;> exact h
  split
  · unfold doFree; split
    · exact h
    · split <;> exact h
  · unfold doShut; split <;> exact h
theorem foldl_fb {n : Int} : ∀ (l : List Itm) (k : Bk), (fb k n).isSome = true → (fb (l.foldl doItem k) n).isSome = true
  | [], _, h => h
  | x :: l, _, h => foldl_fb l _ (fb_mono h x)
theorem known_pre {a b : Int} (h : a ≤ b) : ∀ (l : List Itm), ∃ t, knownOn b l = knownOn a l ++ t
  | [] => ⟨[], rfl⟩
  | x :: l => by
    obtain ⟨t, ht⟩ := known_pre h l
    unfold knownOn at *
    by_cases hx : x.known ≤ a
    · rw [List.takeWhile_cons_of_pos (p := fun x : Itm => decide (x.known ≤ b)) (by simp; omega), List.takeWhile_cons_of_pos (p := fun x : Itm => decide (x.known ≤ a)) (by simpa using hx), ht]
      exact ⟨t, rfl⟩
    · rw [List.takeWhile_cons_of_neg (p := fun x : Itm => decide (x.known ≤ a)) (by simpa using hx)]
      exact ⟨_, rfl⟩
theorem fold_app (l t : List Itm) : foldB (l ++ t) = t.foldl doItem (foldB l) := by unfold foldB; rw [List.foldl_append]
theorem found_in (l : List Itm) {a b : Int} (h : a ≤ b) : foundIn (readB l b).bills (readB l a).bills = true := by
  obtain ⟨t, ht⟩ := known_pre h (srt l)
  unfold foundIn
  rw [List.all_eq_true]
  intro s hs
  have hb : (readB l b).bills = (t.foldl doItem (foldB (knownOn a (srt l)))).bills := by
    show (foldB (knownOn b (srt l))).bills = _
    rw [ht, fold_app]
  show (fbL (readB l b).bills s.1.no).isSome = true
  rw [hb]
  refine foldl_fb (n := s.1.no) t _ ?_
  unfold fb
  rw [List.findIdx?_isSome, List.any_eq_true]
  exact ⟨s, hs, by simp⟩
def movedV (l : List Itm) (a b : Int) : List Int × Int := if askedV l [a, b] ≠ 0 then ([], askedV l [a, b]) else if a > b then ([], 1) else (movedF (readB l b).bills (readB l a).bills, 0)
theorem moved_eq (a : List Itm × Int × Int) : callT1 P BLM1c 30 48 D_l3 R_ne a = some (movedV a.1 a.2.1 a.2.2) := by
  obtain ⟨l, a, b⟩ := a
  rw [fn_moved]; unfold movedV
  simp only [Nat.zero_add, decF_encF, decP_encP, dInt2]
  refine chk_step rfl ?_
  by_cases h : askedV l [a, b] = 0
  · rw [if_neg (by simpa using h)]
    refine br_f (ne_f h) ?_
    by_cases hab : a > b
    · rw [if_pos hab]; exact br_t (decide_eq_true hab) rfl
    · rw [if_neg hab]
      obtain ⟨h1, h2, _⟩ := checkV_ok (ask_check h).1
      have hbl := (read_ok h2 a).bills
      refine br_f (decide_eq_false hab) (chk_step (chk_rd (ask_check h).1) (chk_step ?_ rfl))
      rw [chk_rd (ask_check h).1, found_in l (by omega)]
      rw [Bool.true_and, Bool.and_true]
      exact decide_eq_true (by refine ⟨?_, trivial, by omega⟩; rfl)
  · rw [if_pos h]; exact br_t (ne_t h) rfl
end K
noncomputable def BLM21 : Tab := BLM1c.addCall 48 (callE D_l3 R_ne (fun a => .ret (K.movedV a.1 a.2.1 a.2.2)))
theorem tLM21 : TabOk P BLM21 := TabOk.addPC tLM1c (fun a r h => by rw [← ret_some h]; exact call_of okP tLM1c (K.moved_eq a))
end Go.Proofs.YtelpdkojdfnmiaaGreat
/-! LN0 -/
namespace Go.Proofs.YtelpdkojdfnmiaaGreat
open Ev K
set_option maxRecDepth 100000
def D_smPostings := DecL.cons (dRows rPost) (.last (dRows rPost) 0)
def S_smPostings := DecS.mk0 (.cons (dRows rPost) (.cons (dRows rPost) (.skips 3 (.last dInt 20)))) .nil
def X_smPostings := DecX.or (DecX.one (.exit 0) [] (DecS.mk0 (.tops 26) .nil)) (DecX.one .ret [4] (DecS.mk0 (.skips 4 (.last dB 21)) .nil))
noncomputable def K.st_smPostings := loopT1 P BLM21 30 24 33 [5, 1, 0] S_smPostings X_smPostings
theorem sl_smPostings : ∀ s, (K.st_smPostings) s = T.run (
  .br (decide (s.1.2.2 < (↑(clampL (List.length s.1.1)) : Int))) (
    .chk (decide ((0 : Int) ≤ s.1.2.2 ∧ s.1.2.2 < (↑(List.length s.1.1) : Int))) <|
    .chk (decide ((0 : Int) ≤ s.1.2.2 ∧ s.1.2.2 < (↑(List.length s.1.2.1) : Int))) <|
    .br (!(numOf (encF rPost s.1.1 ((0 : Nat) + Int.toNat s.1.2.2) (0 : Nat)) == numOf (encF rPost s.1.2.1 ((0 : Nat) + Int.toNat s.1.2.2) (0 : Nat)) && (numOf (encF rPost s.1.1 ((0 : Nat) + Int.toNat s.1.2.2) (nat_lit 1)) == numOf (encF rPost s.1.2.1 ((0 : Nat) + Int.toNat s.1.2.2) (nat_lit 1)) && (numOf (encF rPost s.1.1 ((0 : Nat) + Int.toNat s.1.2.2) (nat_lit 2)) == numOf (encF rPost s.1.2.1 ((0 : Nat) + Int.toNat s.1.2.2) (nat_lit 2)) && numOf (encF rPost s.1.1 ((0 : Nat) + Int.toNat s.1.2.2) (nat_lit 3)) == numOf (encF rPost s.1.2.1 ((0 : Nat) + Int.toNat s.1.2.2) (nat_lit 3)))))) (
      .ret (Sum.inr (Sum.inr (false, PUnit.unit)))) (
      .ret (Sum.inl ((decF rPost (List.length s.1.1) fun i => encF rPost s.1.1 ((0 : Nat) + i), decF rPost (List.length s.1.2.1) fun i => encF rPost s.1.2.1 ((0 : Nat) + i), IntKind.wrap IntKind.i64 (s.1.2.2 + (1 : Int))), PUnit.unit)))) (
    .ret (Sum.inr (Sum.inl (PUnit.unit, PUnit.unit))))) := fun s => by kernel_rfl
noncomputable def K.L_smPostings := lim K.st_smPostings
noncomputable def BLN01 : Tab := BLM21.addNode 24 33 (nodeE [5, 1, 0] S_smPostings X_smPostings (fun s => .obs (K.L_smPostings s) .ret))
theorem tLN01 : TabOk P BLN01 := TabOk.addLoop (d := 30) okP tLM21 (by kernel_rfl) (by kernel_rfl) (fun s r h => obs_ret h)
theorem fn_smPostings : ∀ a, (callT1 P BLN01 30 24 D_smPostings dB) a = T.run (
  .br ((↑(clampL (List.length a.1)) : Int) != (↑(clampL (List.length a.2)) : Int)) (
    .ret (false)) (
    .obs (L_smPostings ((decF rPost (List.length a.1) fun i => encF rPost a.1 ((0 : Nat) + i), decF rPost (List.length a.2) fun i => encF rPost a.2 ((0 : Nat) + i), (0 : Int)), PUnit.unit)) fun x0 =>
      .sum (x0) (fun _ =>
        .ret (true)) (fun x1 =>
        .ret x1.1))) := fun a => by kernel_rfl
def D_smItems := DecL.cons (dRows rItem) (.last (dRows rItem) 0)
def S_smItems := DecS.mk0 (.cons (dRows rItem) (.cons (dRows rItem) (.skips 3 (.last dInt 20)))) .nil
def X_smItems := DecX.or (DecX.one (.exit 0) [] (DecS.mk0 (.tops 26) .nil)) (DecX.one .ret [4] (DecS.mk0 (.skips 4 (.last dB 21)) .nil))
noncomputable def K.st_smItems := loopT1 P BLN01 30 34 33 [5, 1, 0] S_smItems X_smItems
theorem sl_smItems : ∀ s, (K.st_smItems) s = T.run (
  .br (decide (s.1.2.2 < (↑(clampL (List.length s.1.1)) : Int))) (
    .chk (decide ((0 : Int) ≤ s.1.2.2 ∧ s.1.2.2 < (↑(List.length s.1.1) : Int))) <|
    .chk (decide ((0 : Int) ≤ s.1.2.2 ∧ s.1.2.2 < (↑(List.length s.1.2.1) : Int))) <|
    .br (!(numOf (encF rItem s.1.1 ((0 : Nat) + Int.toNat s.1.2.2) (0 : Nat)) == numOf (encF rItem s.1.2.1 ((0 : Nat) + Int.toNat s.1.2.2) (0 : Nat)) && (numOf (encF rItem s.1.1 ((0 : Nat) + Int.toNat s.1.2.2) (nat_lit 1)) == numOf (encF rItem s.1.2.1 ((0 : Nat) + Int.toNat s.1.2.2) (nat_lit 1)) && (numOf (encF rItem s.1.1 ((0 : Nat) + Int.toNat s.1.2.2) (nat_lit 2)) == numOf (encF rItem s.1.2.1 ((0 : Nat) + Int.toNat s.1.2.2) (nat_lit 2)) && (numOf (encF rItem s.1.1 ((0 : Nat) + Int.toNat s.1.2.2) (nat_lit 3)) == numOf (encF rItem s.1.2.1 ((0 : Nat) + Int.toNat s.1.2.2) (nat_lit 3)) && (numOf (encF rItem s.1.1 ((0 : Nat) + Int.toNat s.1.2.2) (nat_lit 4)) == numOf (encF rItem s.1.2.1 ((0 : Nat) + Int.toNat s.1.2.2) (nat_lit 4)) && (numOf (encF rItem s.1.1 ((0 : Nat) + Int.toNat s.1.2.2) (nat_lit 5)) == numOf (encF rItem s.1.2.1 ((0 : Nat) + Int.toNat s.1.2.2) (nat_lit 5)) && numOf (encF rItem s.1.1 ((0 : Nat) + Int.toNat s.1.2.2) (nat_lit 6)) == numOf (encF rItem s.1.2.1 ((0 : Nat) + Int.toNat s.1.2.2) (nat_lit 6))))))))) (
      .ret (Sum.inr (Sum.inr (false, PUnit.unit)))) (
      .ret (Sum.inl ((decF rItem (List.length s.1.1) fun i => encF rItem s.1.1 ((0 : Nat) + i), decF rItem (List.length s.1.2.1) fun i => encF rItem s.1.2.1 ((0 : Nat) + i), IntKind.wrap IntKind.i64 (s.1.2.2 + (1 : Int))), PUnit.unit)))) (
    .ret (Sum.inr (Sum.inl (PUnit.unit, PUnit.unit))))) := fun s => by kernel_rfl
noncomputable def K.L_smItems := lim K.st_smItems
noncomputable def BLN02 : Tab := BLN01.addNode 34 33 (nodeE [5, 1, 0] S_smItems X_smItems (fun s => .obs (K.L_smItems s) .ret))
theorem tLN02 : TabOk P BLN02 := TabOk.addLoop (d := 30) okP tLN01 (by kernel_rfl) (by kernel_rfl) (fun s r h => obs_ret h)
theorem fn_smItems : ∀ a, (callT1 P BLN02 30 34 D_smItems dB) a = T.run (
  .br ((↑(clampL (List.length a.1)) : Int) != (↑(clampL (List.length a.2)) : Int)) (
    .ret (false)) (
    .obs (L_smItems ((decF rItem (List.length a.1) fun i => encF rItem a.1 ((0 : Nat) + i), decF rItem (List.length a.2) fun i => encF rItem a.2 ((0 : Nat) + i), (0 : Int)), PUnit.unit)) fun x0 =>
      .sum (x0) (fun _ =>
        .ret (true)) (fun x1 =>
        .ret x1.1))) := fun a => by kernel_rfl
def D_smHeld := DecL.cons (dRows rBal) (.last (dRows rBal) 0)
def S_smHeld := DecS.mk0 (.cons (dRows rBal) (.cons (dRows rBal) (.skips 3 (.last dInt 20)))) .nil
def X_smHeld := DecX.or (DecX.one (.exit 0) [] (DecS.mk0 (.tops 26) .nil)) (DecX.one .ret [4] (DecS.mk0 (.skips 4 (.last dB 21)) .nil))
noncomputable def K.st_smHeld := loopT1 P BLN02 30 33 33 [5, 1, 0] S_smHeld X_smHeld
theorem sl_smHeld : ∀ s, (K.st_smHeld) s = T.run (
  .br (decide (s.1.2.2 < (↑(clampL (List.length s.1.1)) : Int))) (
    .chk (decide ((0 : Int) ≤ s.1.2.2 ∧ s.1.2.2 < (↑(List.length s.1.1) : Int))) <|
    .chk (decide ((0 : Int) ≤ s.1.2.2 ∧ s.1.2.2 < (↑(List.length s.1.2.1) : Int))) <|
    .br (!(numOf (encF rBal s.1.1 ((0 : Nat) + Int.toNat s.1.2.2) (0 : Nat)) == numOf (encF rBal s.1.2.1 ((0 : Nat) + Int.toNat s.1.2.2) (0 : Nat)) && numOf (encF rBal s.1.1 ((0 : Nat) + Int.toNat s.1.2.2) (nat_lit 1)) == numOf (encF rBal s.1.2.1 ((0 : Nat) + Int.toNat s.1.2.2) (nat_lit 1)))) (
      .ret (Sum.inr (Sum.inr (false, PUnit.unit)))) (
      .ret (Sum.inl ((decF rBal (List.length s.1.1) fun i => encF rBal s.1.1 ((0 : Nat) + i), decF rBal (List.length s.1.2.1) fun i => encF rBal s.1.2.1 ((0 : Nat) + i), IntKind.wrap IntKind.i64 (s.1.2.2 + (1 : Int))), PUnit.unit)))) (
    .ret (Sum.inr (Sum.inl (PUnit.unit, PUnit.unit))))) := fun s => by kernel_rfl
noncomputable def K.L_smHeld := lim K.st_smHeld
noncomputable def BLN03 : Tab := BLN02.addNode 33 33 (nodeE [5, 1, 0] S_smHeld X_smHeld (fun s => .obs (K.L_smHeld s) .ret))
theorem tLN03 : TabOk P BLN03 := TabOk.addLoop (d := 30) okP tLN02 (by kernel_rfl) (by kernel_rfl) (fun s r h => obs_ret h)
theorem fn_smHeld : ∀ a, (callT1 P BLN03 30 33 D_smHeld dB) a = T.run (
  .br ((↑(clampL (List.length a.1)) : Int) != (↑(clampL (List.length a.2)) : Int)) (
    .ret (false)) (
    .obs (L_smHeld ((decF rBal (List.length a.1) fun i => encF rBal a.1 ((0 : Nat) + i), decF rBal (List.length a.2) fun i => encF rBal a.2 ((0 : Nat) + i), (0 : Int)), PUnit.unit)) fun x0 =>
      .sum (x0) (fun _ =>
        .ret (true)) (fun x1 =>
        .ret x1.1))) := fun a => by kernel_rfl
def D_smChanges := DecL.cons (dRows rChg) (.last (dRows rChg) 0)
def S_smChanges := DecS.mk0 (.cons (dRows rChg) (.cons (dRows rChg) (.skips 3 (.last dInt 20)))) .nil
def X_smChanges := DecX.or (DecX.one (.exit 0) [] (DecS.mk0 (.tops 26) .nil)) (DecX.one .ret [4] (DecS.mk0 (.skips 4 (.last dB 21)) .nil))
noncomputable def K.st_smChanges := loopT1 P BLN03 30 50 33 [5, 1, 0] S_smChanges X_smChanges
theorem sl_smChanges : ∀ s, (K.st_smChanges) s = T.run (
  .br (decide (s.1.2.2 < (↑(clampL (List.length s.1.1)) : Int))) (
    .chk (decide ((0 : Int) ≤ s.1.2.2 ∧ s.1.2.2 < (↑(List.length s.1.1) : Int))) <|
    .chk (decide ((0 : Int) ≤ s.1.2.2 ∧ s.1.2.2 < (↑(List.length s.1.2.1) : Int))) <|
    .br (!(numOf (encF rChg s.1.1 ((0 : Nat) + Int.toNat s.1.2.2) (0 : Nat)) == numOf (encF rChg s.1.2.1 ((0 : Nat) + Int.toNat s.1.2.2) (0 : Nat)) && numOf (encF rChg s.1.1 ((0 : Nat) + Int.toNat s.1.2.2) (nat_lit 1)) == numOf (encF rChg s.1.2.1 ((0 : Nat) + Int.toNat s.1.2.2) (nat_lit 1)))) (
      .ret (Sum.inr (Sum.inr (false, PUnit.unit)))) (
      .ret (Sum.inl ((decF rChg (List.length s.1.1) fun i => encF rChg s.1.1 ((0 : Nat) + i), decF rChg (List.length s.1.2.1) fun i => encF rChg s.1.2.1 ((0 : Nat) + i), IntKind.wrap IntKind.i64 (s.1.2.2 + (1 : Int))), PUnit.unit)))) (
    .ret (Sum.inr (Sum.inl (PUnit.unit, PUnit.unit))))) := fun s => by kernel_rfl
noncomputable def K.L_smChanges := lim K.st_smChanges
noncomputable def BLN04 : Tab := BLN03.addNode 50 33 (nodeE [5, 1, 0] S_smChanges X_smChanges (fun s => .obs (K.L_smChanges s) .ret))
theorem tLN04 : TabOk P BLN04 := TabOk.addLoop (d := 30) okP tLN03 (by kernel_rfl) (by kernel_rfl) (fun s r h => obs_ret h)
theorem fn_smChanges : ∀ a, (callT1 P BLN04 30 50 D_smChanges dB) a = T.run (
  .br ((↑(clampL (List.length a.1)) : Int) != (↑(clampL (List.length a.2)) : Int)) (
    .ret (false)) (
    .obs (L_smChanges ((decF rChg (List.length a.1) fun i => encF rChg a.1 ((0 : Nat) + i), decF rChg (List.length a.2) fun i => encF rChg a.2 ((0 : Nat) + i), (0 : Int)), PUnit.unit)) fun x0 =>
      .sum (x0) (fun _ =>
        .ret (true)) (fun x1 =>
        .ret x1.1))) := fun a => by kernel_rfl
def D_smInts := DecL.cons (dRows rInt) (.last (dRows rInt) 0)
def S_smInts := DecS.mk0 (.cons (dRows rInt) (.cons (dRows rInt) (.skips 3 (.last dInt 20)))) .nil
def X_smInts := DecX.or (DecX.one (.exit 0) [] (DecS.mk0 (.tops 26) .nil)) (DecX.one .ret [4] (DecS.mk0 (.skips 4 (.last dB 21)) .nil))
noncomputable def K.st_smInts := loopT1 P BLN04 30 28 33 [5, 1, 0] S_smInts X_smInts
theorem sl_smInts : ∀ s, (K.st_smInts) s = T.run (
  .br (decide (s.1.2.2 < (↑(clampL (List.length s.1.1)) : Int))) (
    .chk (decide ((0 : Int) ≤ s.1.2.2 ∧ s.1.2.2 < (↑(List.length s.1.1) : Int))) <|
    .chk (decide ((0 : Int) ≤ s.1.2.2 ∧ s.1.2.2 < (↑(List.length s.1.2.1) : Int))) <|
    .br (numOf (encF rInt s.1.1 ((0 : Nat) + Int.toNat s.1.2.2) (0 : Nat)) != numOf (encF rInt s.1.2.1 ((0 : Nat) + Int.toNat s.1.2.2) (0 : Nat))) (
      .ret (Sum.inr (Sum.inr (false, PUnit.unit)))) (
      .ret (Sum.inl ((decF rInt (List.length s.1.1) fun i => encF rInt s.1.1 ((0 : Nat) + i), decF rInt (List.length s.1.2.1) fun i => encF rInt s.1.2.1 ((0 : Nat) + i), IntKind.wrap IntKind.i64 (s.1.2.2 + (1 : Int))), PUnit.unit)))) (
    .ret (Sum.inr (Sum.inl (PUnit.unit, PUnit.unit))))) := fun s => by kernel_rfl
noncomputable def K.L_smInts := lim K.st_smInts
noncomputable def BLN05 : Tab := BLN04.addNode 28 33 (nodeE [5, 1, 0] S_smInts X_smInts (fun s => .obs (K.L_smInts s) .ret))
theorem tLN05 : TabOk P BLN05 := TabOk.addLoop (d := 30) okP tLN04 (by kernel_rfl) (by kernel_rfl) (fun s r h => obs_ret h)
theorem fn_smInts : ∀ a, (callT1 P BLN05 30 28 D_smInts dB) a = T.run (
  .br ((↑(clampL (List.length a.1)) : Int) != (↑(clampL (List.length a.2)) : Int)) (
    .ret (false)) (
    .obs (L_smInts ((decF rInt (List.length a.1) fun i => encF rInt a.1 ((0 : Nat) + i), decF rInt (List.length a.2) fun i => encF rInt a.2 ((0 : Nat) + i), (0 : Int)), PUnit.unit)) fun x0 =>
      .sum (x0) (fun _ =>
        .ret (true)) (fun x1 =>
        .ret x1.1))) := fun a => by kernel_rfl
end Go.Proofs.YtelpdkojdfnmiaaGreat
/-! LN1 -/
namespace Go.Proofs.YtelpdkojdfnmiaaGreat
open Ev K
set_option maxRecDepth 100000
namespace K
theorem chg_at {l : List Chg} {i : Nat} {x : Chg} (h : l[i]? = some x) : encF rChg l i = rChg.wr x := encF_at h
theorem cw0 (x : Chg) : numOf (rChg.wr x 0) = x.known := rfl
theorem cw1 (x : Chg) : numOf (rChg.wr x 1) = x.amount := rfl
theorem balr_at {l : List Bal} {i : Nat} {x : Bal} (h : l[i]? = some x) : encF rBal l i = rBal.wr x := encF_at h
theorem bw0 (x : Bal) : numOf (rBal.wr x 0) = x.account := rfl
theorem bw1 (x : Bal) : numOf (rBal.wr x 1) = x.amount := rfl
theorem iw0 (x : Int) : numOf (rInt.wr x 0) = x := rfl
theorem samP (x y : Pst) : (x.item == y.item && (x.day == y.day && (x.account == y.account && x.amount == y.amount))) = true ↔ x = y := by
  obtain ⟨a, b, c, d⟩ := x; obtain ⟨a', b', c', d'⟩ := y
  simp only [Bool.and_eq_true, beq_iff_eq, Pst.mk.injEq]
theorem samB (x y : Bal) : (x.account == y.account && x.amount == y.amount) = true ↔ x = y := by
  obtain ⟨a, b⟩ := x; obtain ⟨a', b'⟩ := y
  simp only [Bool.and_eq_true, beq_iff_eq, Bal.mk.injEq]
theorem samC (x y : Chg) : (x.known == y.known && x.amount == y.amount) = true ↔ x = y := by
  obtain ⟨a, b⟩ := x; obtain ⟨a', b'⟩ := y
  simp only [Bool.and_eq_true, beq_iff_eq, Chg.mk.injEq]
theorem clamp_ne {a b : Nat} (ha : a ≤ 1000000) (hb : b ≤ 1000000) : ((clampL a : Int) != (clampL b : Int)) = decide (a ≠ b) := by
  rw [clampL_eq (show a ≤ maxL by unfold maxL; omega), clampL_eq (show b ≤ maxL by unfold maxL; omega)]
  apply Bool.eq_iff_iff.2
  rw [bne_iff_ne, decide_eq_true_eq]; omega
theorem L_smPostings_eq (a b : List Pst) (hl : a.length = b.length) (hm : a.length ≤ 1000000) : ∀ (d i : Nat), i + d = a.length → L_smPostings ((a, b, (i : Int)), ()) = some (if a.drop i = b.drop i then .inl ((), ()) else .inr (false, ()))
  | 0, i, h => by
    rw [List.drop_of_length_le (by omega), List.drop_of_length_le (by omega), if_pos rfl]
    refine lim_done ?_
    rw [sl_smPostings]
    simp only [clampL_eq (show a.length ≤ maxL by unfold maxL; omega)]
    exact br_f (decide_eq_false (by omega)) rfl
  | d + 1, i, h => by
    have hi : i < a.length := by omega
    have hj : i < b.length := by omega
    have hx := List.getElem?_eq_getElem hi
    have hy := List.getElem?_eq_getElem hj
    rw [List.drop_eq_getElem_cons hi, List.drop_eq_getElem_cons hj]
    generalize a[i] = x at hx
    generalize b[i] = y at hy
    have w : IntKind.i64.wrap ((i : Int) + 1) = ((i + 1 : Nat) : Int) := by rw [w64_in (by omega) (by omega)]; rfl
    by_cases hxy : x = y
    · have e : (x :: a.drop (i + 1) = y :: b.drop (i + 1)) ↔ (a.drop (i + 1) = b.drop (i + 1)) := ⟨fun h => by injection h, fun h => by rw [hxy, h]⟩
      have ih := L_smPostings_eq a b hl hm d (i + 1) (by omega)
      refine Eq.trans (lim_step ?_) (ih.trans (by by_cases h2 : a.drop (i + 1) = b.drop (i + 1); rw [if_pos h2, if_pos (e.2 h2)]; rw [if_neg h2, if_neg (fun h3 => h2 (e.1 h3))]))
      rw [sl_smPostings]
      simp only [clampL_eq (show a.length ≤ maxL by unfold maxL; omega), Int.toNat_natCast, Nat.zero_add, post_at hx, post_at hy, pw0, pw1, pw2, pw3, decF_encF, w]
      exact br_t (decide_eq_true (by omega)) (chk_step (decide_eq_true (by omega)) (chk_step (decide_eq_true (by omega)) (br_f (by rw [Bool.not_eq_false']; exact (samP x y).2 hxy) rfl)))
    · rw [if_neg (fun h => hxy (by injection h))]
      refine lim_done ?_
      rw [sl_smPostings]
      simp only [clampL_eq (show a.length ≤ maxL by unfold maxL; omega), Int.toNat_natCast, Nat.zero_add, post_at hx, post_at hy, pw0, pw1, pw2, pw3, decF_encF, w]
      exact br_t (decide_eq_true (by omega)) (chk_step (decide_eq_true (by omega)) (chk_step (decide_eq_true (by omega)) (br_t (by rw [Bool.not_eq_true', ← Bool.not_eq_true]; exact fun h => hxy ((samP x y).1 h)) rfl)))
def M_smPostings (a : List Pst × List Pst) : T Bool := .chk (decide (a.1.length ≤ 1000000 ∧ a.2.length ≤ 1000000)) (.ret (decide (a.1 = a.2)))
theorem smPostings_pc (a : List Pst × List Pst) (r : Bool) (h : (M_smPostings a).run = some r) : PC P 24 (D_smPostings.enc a) (dB.enc r) := by
  obtain ⟨g, e⟩ := chk_ret h
  subst e
  obtain ⟨g1, g2⟩ := of_decide_eq_true g
  refine call_of okP tLN01 ((fn_smPostings a).trans ?_)
  rw [clamp_ne g1 g2]
  by_cases hl : a.1.length = a.2.length
  · refine br_f (by simpa using hl) ?_
    simp only [Nat.zero_add, decF_encF]
    have key := L_smPostings_eq a.1 a.2 hl g1 a.1.length 0 (by omega)
    rw [List.drop_zero, List.drop_zero] at key
    refine obs_step key ?_
    by_cases he : a.1 = a.2
    · rw [if_pos he, decide_eq_true he]; rfl
    · rw [if_neg he, decide_eq_false he]; rfl
  · refine br_t (by simpa using hl) ?_
    rw [decide_eq_false (fun h => hl (by rw [h]))]; rfl
theorem L_smItems_eq (a b : List Itm) (hl : a.length = b.length) (hm : a.length ≤ 1000000) : ∀ (d i : Nat), i + d = a.length → L_smItems ((a, b, (i : Int)), ()) = some (if a.drop i = b.drop i then .inl ((), ()) else .inr (false, ()))
  | 0, i, h => by
    rw [List.drop_of_length_le (by omega), List.drop_of_length_le (by omega), if_pos rfl]
    refine lim_done ?_
    rw [sl_smItems]
    simp only [clampL_eq (show a.length ≤ maxL by unfold maxL; omega)]
    exact br_f (decide_eq_false (by omega)) rfl
  | d + 1, i, h => by
    have hi : i < a.length := by omega
    have hj : i < b.length := by omega
    have hx := List.getElem?_eq_getElem hi
    have hy := List.getElem?_eq_getElem hj
    rw [List.drop_eq_getElem_cons hi, List.drop_eq_getElem_cons hj]
    generalize a[i] = x at hx
    generalize b[i] = y at hy
    have w : IntKind.i64.wrap ((i : Int) + 1) = ((i + 1 : Nat) : Int) := by rw [w64_in (by omega) (by omega)]; rfl
    by_cases hxy : x = y
    · have e : (x :: a.drop (i + 1) = y :: b.drop (i + 1)) ↔ (a.drop (i + 1) = b.drop (i + 1)) := ⟨fun h => by injection h, fun h => by rw [hxy, h]⟩
      have ih := L_smItems_eq a b hl hm d (i + 1) (by omega)
      refine Eq.trans (lim_step ?_) (ih.trans (by by_cases h2 : a.drop (i + 1) = b.drop (i + 1); rw [if_pos h2, if_pos (e.2 h2)]; rw [if_neg h2, if_neg (fun h3 => h2 (e.1 h3))]))
      rw [sl_smItems]
      simp only [clampL_eq (show a.length ≤ maxL by unfold maxL; omega), Int.toNat_natCast, Nat.zero_add, item_at hx, item_at hy, wr0, wr1, wr2, wr3, wr4, wr5, wr6, decF_encF, w]
      exact br_t (decide_eq_true (by omega)) (chk_step (decide_eq_true (by omega)) (chk_step (decide_eq_true (by omega)) (br_f (by rw [Bool.not_eq_false']; exact (sameI_iff x y).2 hxy) rfl)))
    · rw [if_neg (fun h => hxy (by injection h))]
      refine lim_done ?_
      rw [sl_smItems]
      simp only [clampL_eq (show a.length ≤ maxL by unfold maxL; omega), Int.toNat_natCast, Nat.zero_add, item_at hx, item_at hy, wr0, wr1, wr2, wr3, wr4, wr5, wr6, decF_encF, w]
      exact br_t (decide_eq_true (by omega)) (chk_step (decide_eq_true (by omega)) (chk_step (decide_eq_true (by omega)) (br_t (by rw [Bool.not_eq_true', ← Bool.not_eq_true]; exact fun h => hxy ((sameI_iff x y).1 h)) rfl)))
def M_smItems (a : List Itm × List Itm) : T Bool := .chk (decide (a.1.length ≤ 1000000 ∧ a.2.length ≤ 1000000)) (.ret (decide (a.1 = a.2)))
theorem smItems_pc (a : List Itm × List Itm) (r : Bool) (h : (M_smItems a).run = some r) : PC P 34 (D_smItems.enc a) (dB.enc r) := by
  obtain ⟨g, e⟩ := chk_ret h
  subst e
  obtain ⟨g1, g2⟩ := of_decide_eq_true g
  refine call_of okP tLN02 ((fn_smItems a).trans ?_)
  rw [clamp_ne g1 g2]
  by_cases hl : a.1.length = a.2.length
  · refine br_f (by simpa using hl) ?_
    simp only [Nat.zero_add, decF_encF]
    have key := L_smItems_eq a.1 a.2 hl g1 a.1.length 0 (by omega)
    rw [List.drop_zero, List.drop_zero] at key
    refine obs_step key ?_
    by_cases he : a.1 = a.2
    · rw [if_pos he, decide_eq_true he]; rfl
    · rw [if_neg he, decide_eq_false he]; rfl
  · refine br_t (by simpa using hl) ?_
    rw [decide_eq_false (fun h => hl (by rw [h]))]; rfl
theorem L_smHeld_eq (a b : List Bal) (hl : a.length = b.length) (hm : a.length ≤ 1000000) : ∀ (d i : Nat), i + d = a.length → L_smHeld ((a, b, (i : Int)), ()) = some (if a.drop i = b.drop i then .inl ((), ()) else .inr (false, ()))
  | 0, i, h => by
    rw [List.drop_of_length_le (by omega), List.drop_of_length_le (by omega), if_pos rfl]
    refine lim_done ?_
    rw [sl_smHeld]
    simp only [clampL_eq (show a.length ≤ maxL by unfold maxL; omega)]
    exact br_f (decide_eq_false (by omega)) rfl
  | d + 1, i, h => by
    have hi : i < a.length := by omega
    have hj : i < b.length := by omega
    have hx := List.getElem?_eq_getElem hi
    have hy := List.getElem?_eq_getElem hj
    rw [List.drop_eq_getElem_cons hi, List.drop_eq_getElem_cons hj]
    generalize a[i] = x at hx
    generalize b[i] = y at hy
    have w : IntKind.i64.wrap ((i : Int) + 1) = ((i + 1 : Nat) : Int) := by rw [w64_in (by omega) (by omega)]; rfl
    by_cases hxy : x = y
    · have e : (x :: a.drop (i + 1) = y :: b.drop (i + 1)) ↔ (a.drop (i + 1) = b.drop (i + 1)) := ⟨fun h => by injection h, fun h => by rw [hxy, h]⟩
      have ih := L_smHeld_eq a b hl hm d (i + 1) (by omega)
      refine Eq.trans (lim_step ?_) (ih.trans (by by_cases h2 : a.drop (i + 1) = b.drop (i + 1); rw [if_pos h2, if_pos (e.2 h2)]; rw [if_neg h2, if_neg (fun h3 => h2 (e.1 h3))]))
      rw [sl_smHeld]
      simp only [clampL_eq (show a.length ≤ maxL by unfold maxL; omega), Int.toNat_natCast, Nat.zero_add, balr_at hx, balr_at hy, bw0, bw1, decF_encF, w]
      exact br_t (decide_eq_true (by omega)) (chk_step (decide_eq_true (by omega)) (chk_step (decide_eq_true (by omega)) (br_f (by rw [Bool.not_eq_false']; exact (samB x y).2 hxy) rfl)))
    · rw [if_neg (fun h => hxy (by injection h))]
      refine lim_done ?_
      rw [sl_smHeld]
      simp only [clampL_eq (show a.length ≤ maxL by unfold maxL; omega), Int.toNat_natCast, Nat.zero_add, balr_at hx, balr_at hy, bw0, bw1, decF_encF, w]
      exact br_t (decide_eq_true (by omega)) (chk_step (decide_eq_true (by omega)) (chk_step (decide_eq_true (by omega)) (br_t (by rw [Bool.not_eq_true', ← Bool.not_eq_true]; exact fun h => hxy ((samB x y).1 h)) rfl)))
def M_smHeld (a : List Bal × List Bal) : T Bool := .chk (decide (a.1.length ≤ 1000000 ∧ a.2.length ≤ 1000000)) (.ret (decide (a.1 = a.2)))
theorem smHeld_pc (a : List Bal × List Bal) (r : Bool) (h : (M_smHeld a).run = some r) : PC P 33 (D_smHeld.enc a) (dB.enc r) := by
  obtain ⟨g, e⟩ := chk_ret h
  subst e
  obtain ⟨g1, g2⟩ := of_decide_eq_true g
  refine call_of okP tLN03 ((fn_smHeld a).trans ?_)
  rw [clamp_ne g1 g2]
  by_cases hl : a.1.length = a.2.length
  · refine br_f (by simpa using hl) ?_
    simp only [Nat.zero_add, decF_encF]
    have key := L_smHeld_eq a.1 a.2 hl g1 a.1.length 0 (by omega)
    rw [List.drop_zero, List.drop_zero] at key
    refine obs_step key ?_
    by_cases he : a.1 = a.2
    · rw [if_pos he, decide_eq_true he]; rfl
    · rw [if_neg he, decide_eq_false he]; rfl
  · refine br_t (by simpa using hl) ?_
    rw [decide_eq_false (fun h => hl (by rw [h]))]; rfl
theorem L_smChanges_eq (a b : List Chg) (hl : a.length = b.length) (hm : a.length ≤ 1000000) : ∀ (d i : Nat), i + d = a.length → L_smChanges ((a, b, (i : Int)), ()) = some (if a.drop i = b.drop i then .inl ((), ()) else .inr (false, ()))
  | 0, i, h => by
    rw [List.drop_of_length_le (by omega), List.drop_of_length_le (by omega), if_pos rfl]
    refine lim_done ?_
    rw [sl_smChanges]
    simp only [clampL_eq (show a.length ≤ maxL by unfold maxL; omega)]
    exact br_f (decide_eq_false (by omega)) rfl
  | d + 1, i, h => by
    have hi : i < a.length := by omega
    have hj : i < b.length := by omega
    have hx := List.getElem?_eq_getElem hi
    have hy := List.getElem?_eq_getElem hj
    rw [List.drop_eq_getElem_cons hi, List.drop_eq_getElem_cons hj]
    generalize a[i] = x at hx
    generalize b[i] = y at hy
    have w : IntKind.i64.wrap ((i : Int) + 1) = ((i + 1 : Nat) : Int) := by rw [w64_in (by omega) (by omega)]; rfl
    by_cases hxy : x = y
    · have e : (x :: a.drop (i + 1) = y :: b.drop (i + 1)) ↔ (a.drop (i + 1) = b.drop (i + 1)) := ⟨fun h => by injection h, fun h => by rw [hxy, h]⟩
      have ih := L_smChanges_eq a b hl hm d (i + 1) (by omega)
      refine Eq.trans (lim_step ?_) (ih.trans (by by_cases h2 : a.drop (i + 1) = b.drop (i + 1); rw [if_pos h2, if_pos (e.2 h2)]; rw [if_neg h2, if_neg (fun h3 => h2 (e.1 h3))]))
      rw [sl_smChanges]
      simp only [clampL_eq (show a.length ≤ maxL by unfold maxL; omega), Int.toNat_natCast, Nat.zero_add, chg_at hx, chg_at hy, cw0, cw1, decF_encF, w]
      exact br_t (decide_eq_true (by omega)) (chk_step (decide_eq_true (by omega)) (chk_step (decide_eq_true (by omega)) (br_f (by rw [Bool.not_eq_false']; exact (samC x y).2 hxy) rfl)))
    · rw [if_neg (fun h => hxy (by injection h))]
      refine lim_done ?_
      rw [sl_smChanges]
      simp only [clampL_eq (show a.length ≤ maxL by unfold maxL; omega), Int.toNat_natCast, Nat.zero_add, chg_at hx, chg_at hy, cw0, cw1, decF_encF, w]
      exact br_t (decide_eq_true (by omega)) (chk_step (decide_eq_true (by omega)) (chk_step (decide_eq_true (by omega)) (br_t (by rw [Bool.not_eq_true', ← Bool.not_eq_true]; exact fun h => hxy ((samC x y).1 h)) rfl)))
def M_smChanges (a : List Chg × List Chg) : T Bool := .chk (decide (a.1.length ≤ 1000000 ∧ a.2.length ≤ 1000000)) (.ret (decide (a.1 = a.2)))
theorem smChanges_pc (a : List Chg × List Chg) (r : Bool) (h : (M_smChanges a).run = some r) : PC P 50 (D_smChanges.enc a) (dB.enc r) := by
  obtain ⟨g, e⟩ := chk_ret h
  subst e
  obtain ⟨g1, g2⟩ := of_decide_eq_true g
  refine call_of okP tLN04 ((fn_smChanges a).trans ?_)
  rw [clamp_ne g1 g2]
  by_cases hl : a.1.length = a.2.length
  · refine br_f (by simpa using hl) ?_
    simp only [Nat.zero_add, decF_encF]
    have key := L_smChanges_eq a.1 a.2 hl g1 a.1.length 0 (by omega)
    rw [List.drop_zero, List.drop_zero] at key
    refine obs_step key ?_
    by_cases he : a.1 = a.2
    · rw [if_pos he, decide_eq_true he]; rfl
    · rw [if_neg he, decide_eq_false he]; rfl
  · refine br_t (by simpa using hl) ?_
    rw [decide_eq_false (fun h => hl (by rw [h]))]; rfl
theorem L_smInts_eq (a b : List Int) (hl : a.length = b.length) (hm : a.length ≤ 1000000) : ∀ (d i : Nat), i + d = a.length → L_smInts ((a, b, (i : Int)), ()) = some (if a.drop i = b.drop i then .inl ((), ()) else .inr (false, ()))
  | 0, i, h => by
    rw [List.drop_of_length_le (by omega), List.drop_of_length_le (by omega), if_pos rfl]
    refine lim_done ?_
    rw [sl_smInts]
    simp only [clampL_eq (show a.length ≤ maxL by unfold maxL; omega)]
    exact br_f (decide_eq_false (by omega)) rfl
  | d + 1, i, h => by
    have hi : i < a.length := by omega
    have hj : i < b.length := by omega
    have hx := List.getElem?_eq_getElem hi
    have hy := List.getElem?_eq_getElem hj
    rw [List.drop_eq_getElem_cons hi, List.drop_eq_getElem_cons hj]
    generalize a[i] = x at hx
    generalize b[i] = y at hy
    have w : IntKind.i64.wrap ((i : Int) + 1) = ((i + 1 : Nat) : Int) := by rw [w64_in (by omega) (by omega)]; rfl
    by_cases hxy : x = y
    · have e : (x :: a.drop (i + 1) = y :: b.drop (i + 1)) ↔ (a.drop (i + 1) = b.drop (i + 1)) := ⟨fun h => by injection h, fun h => by rw [hxy, h]⟩
      have ih := L_smInts_eq a b hl hm d (i + 1) (by omega)
      refine Eq.trans (lim_step ?_) (ih.trans (by by_cases h2 : a.drop (i + 1) = b.drop (i + 1); rw [if_pos h2, if_pos (e.2 h2)]; rw [if_neg h2, if_neg (fun h3 => h2 (e.1 h3))]))
      rw [sl_smInts]
      simp only [clampL_eq (show a.length ≤ maxL by unfold maxL; omega), Int.toNat_natCast, Nat.zero_add, int_at hx, int_at hy, iw0, decF_encF, w]
      exact br_t (decide_eq_true (by omega)) (chk_step (decide_eq_true (by omega)) (chk_step (decide_eq_true (by omega)) (br_f (by rw [bne_eq_false_iff_eq]; exact hxy) rfl)))
    · rw [if_neg (fun h => hxy (by injection h))]
      refine lim_done ?_
      rw [sl_smInts]
      simp only [clampL_eq (show a.length ≤ maxL by unfold maxL; omega), Int.toNat_natCast, Nat.zero_add, int_at hx, int_at hy, iw0, decF_encF, w]
      exact br_t (decide_eq_true (by omega)) (chk_step (decide_eq_true (by omega)) (chk_step (decide_eq_true (by omega)) (br_t (by rw [bne_iff_ne]; exact hxy) rfl)))
def M_smInts (a : List Int × List Int) : T Bool := .chk (decide (a.1.length ≤ 1000000 ∧ a.2.length ≤ 1000000)) (.ret (decide (a.1 = a.2)))
theorem smInts_pc (a : List Int × List Int) (r : Bool) (h : (M_smInts a).run = some r) : PC P 28 (D_smInts.enc a) (dB.enc r) := by
  obtain ⟨g, e⟩ := chk_ret h
  subst e
  obtain ⟨g1, g2⟩ := of_decide_eq_true g
  refine call_of okP tLN05 ((fn_smInts a).trans ?_)
  rw [clamp_ne g1 g2]
  by_cases hl : a.1.length = a.2.length
  · refine br_f (by simpa using hl) ?_
    simp only [Nat.zero_add, decF_encF]
    have key := L_smInts_eq a.1 a.2 hl g1 a.1.length 0 (by omega)
    rw [List.drop_zero, List.drop_zero] at key
    refine obs_step key ?_
    by_cases he : a.1 = a.2
    · rw [if_pos he, decide_eq_true he]; rfl
    · rw [if_neg he, decide_eq_false he]; rfl
  · refine br_t (by simpa using hl) ?_
    rw [decide_eq_false (fun h => hl (by rw [h]))]; rfl
end K
noncomputable def BLN11 : Tab := BLN05.addCall 24 (callE D_smPostings dB K.M_smPostings)
theorem tLN11 : TabOk P BLN11 := TabOk.addPC tLN05 (K.smPostings_pc)
noncomputable def BLN12 : Tab := BLN11.addCall 34 (callE D_smItems dB K.M_smItems)
theorem tLN12 : TabOk P BLN12 := TabOk.addPC tLN11 (K.smItems_pc)
noncomputable def BLN13 : Tab := BLN12.addCall 33 (callE D_smHeld dB K.M_smHeld)
theorem tLN13 : TabOk P BLN13 := TabOk.addPC tLN12 (K.smHeld_pc)
noncomputable def BLN14 : Tab := BLN13.addCall 50 (callE D_smChanges dB K.M_smChanges)
theorem tLN14 : TabOk P BLN14 := TabOk.addPC tLN13 (K.smChanges_pc)
noncomputable def BLN15 : Tab := BLN14.addCall 28 (callE D_smInts dB K.M_smInts)
theorem tLN15 : TabOk P BLN15 := TabOk.addPC tLN14 (K.smInts_pc)
theorem fn_example : ∀ a, (callT1 P BLN15 30 62 (DecL.tops 0) (dRows rItem)) a = T.run (
  .ret (decF rItem (6 : Nat) fun i k => Option.getD [AV.int IntKind.i64 (1 : Int), AV.int IntKind.i64 (5 : Int), AV.int IntKind.i64 (1 : Int), AV.int IntKind.i64 (4 : Int), AV.int IntKind.i64 (7 : Int), AV.int IntKind.i64 (20 : Int), AV.int IntKind.i64 (100 : Int), AV.int IntKind.i64 (2 : Int), AV.int IntKind.i64 (6 : Int), AV.int IntKind.i64 (3 : Int), AV.int IntKind.i64 (6 : Int), AV.int IntKind.i64 (0 : Int), AV.int IntKind.i64 (20 : Int), AV.int IntKind.i64 (60 : Int), AV.int IntKind.i64 (3 : Int), AV.int IntKind.i64 (8 : Int), AV.int IntKind.i64 (7 : Int), AV.int IntKind.i64 (7 : Int), AV.int IntKind.i64 (0 : Int), AV.int IntKind.i64 (0 : Int), AV.int IntKind.i64 (0 : Int), AV.int IntKind.i64 (4 : Int), AV.int IntKind.i64 (9 : Int), AV.int IntKind.i64 (2 : Int), AV.int IntKind.i64 (0 : Int), AV.int IntKind.i64 (7 : Int), AV.int IntKind.i64 (0 : Int), AV.int IntKind.i64 (130 : Int), AV.int IntKind.i64 (5 : Int), AV.int IntKind.i64 (9 : Int), AV.int IntKind.i64 (4 : Int), AV.int IntKind.i64 (9 : Int), AV.int IntKind.i64 (0 : Int), AV.int IntKind.i64 (20 : Int), AV.int IntKind.i64 (70 : Int), AV.int IntKind.i64 (6 : Int), AV.int IntKind.i64 (9 : Int), AV.int IntKind.i64 (5 : Int), AV.int IntKind.i64 (3 : Int), AV.int IntKind.i64 (0 : Int), AV.int IntKind.i64 (21 : Int), AV.int IntKind.i64 (40 : Int)][((0 : Nat) + i) * (7 : Nat) + k]? AV.top)) := fun a => by kernel_rfl
namespace K
def exL : List Itm := [⟨1, 5, 1, 4, 7, 20, 100⟩, ⟨2, 6, 3, 6, 0, 20, 60⟩, ⟨3, 8, 7, 7, 0, 0, 0⟩, ⟨4, 9, 2, 0, 7, 0, 130⟩, ⟨5, 9, 4, 9, 0, 20, 70⟩, ⟨6, 9, 5, 3, 0, 21, 40⟩]
theorem example_eq (a : Unit) : callT1 P BLN15 30 62 (DecL.tops 0) (dRows rItem) a = some exL := by
  rw [fn_example]; rfl
end K
noncomputable def BLN16 : Tab := BLN15.addCall 62 (callE (DecL.tops 0) (dRows rItem) (fun a => .ret (K.exL)))
theorem tLN16 : TabOk P BLN16 := TabOk.addPC tLN15 (fun a r h => by rw [← ret_some h]; exact call_of okP tLN15 (K.example_eq a))
end Go.Proofs.YtelpdkojdfnmiaaGreat
/-! LQ0 -/
namespace Go.Proofs.YtelpdkojdfnmiaaGreat
open Ev K
set_option maxRecDepth 100000
theorem fn_san : ∀ a, (callT1 P BLN16 30 18 (DecL.tops 0) dB) a = T.run (
  .br ((↑(clampL (List.length (stB (List.filter (onLine (20 : Int) (Span.mk (5 : Int) (8 : Int))) (Bk.posts (readB (decF rItem (nat_lit 6) fun i => encF rItem exL ((0 : Nat) + i)) (9 : Int))))))) : Int) != (2 : Int)) (
    .ret (false)) (
    .ret (true))) := fun a => by kernel_rfl
namespace K
theorem lines_two : ((readB exL 9).posts.filter (onLine 20 ⟨5, 8⟩)).length = 2 := by kernel_rfl
theorem san_eq (a : Unit) : callT1 P BLN16 30 18 (DecL.tops 0) dB a = some true := by
  rw [fn_san]
  have e : decF rItem 6 (fun i => encF rItem exL (0 + i)) = exL := by have := decF_enc0 rItem exL; exact this
  rw [e, stB_len, lines_two]; rfl
end K
noncomputable def BLQ01 : Tab := BLN16.addCall 18 (callE (DecL.tops 0) dB (fun a => .ret (true)))
theorem tLQ01 : TabOk P BLQ01 := TabOk.addPC tLN16 (fun a r h => by rw [← ret_some h]; exact call_of okP tLN16 (K.san_eq a))
end Go.Proofs.YtelpdkojdfnmiaaGreat
/-! LZ1 -/
namespace Go.Proofs.YtelpdkojdfnmiaaGreat
open Ev K
open Go.ChangeShapes Go.WideShapes Go.RowKit
set_option maxRecDepth 100000
theorem fn_lwChains : ∀ a, (callT1 P BLQ01 30 3 D_chn dB) a = T.run (
  .br (Prod.fst (l_Chain a) == Prod.fst (r_Chain a)) (
    .ret (Prod.snd (l_Chain a) == Prod.snd (r_Chain a))) (
    .ret (false))) := fun a => by kernel_rfl
namespace K
theorem tm_fix (X : Int) : Int.tmod (IntKind.wrap IntKind.i64 (Int.tmod X 2147483647 + 2147483647)) 2147483647 = if decide (Int.tmod X 2147483647 < 0) = true then IntKind.wrap IntKind.i64 (Int.tmod X 2147483647 + 2147483647) else Int.tmod X 2147483647 := by
  have h1 : Int.tmod X 2147483647 < 2147483647 := Int.tmod_lt_of_pos X (by decide)
  have h2 : -2147483647 < Int.tmod X 2147483647 := Int.lt_tmod_of_pos X (by decide)
  generalize Int.tmod X 2147483647 = t at h1 h2
  rw [w64_in (by omega) (by omega)]
  by_cases h : t < 0
  · rw [if_pos (decide_eq_true h)]
    exact Int.tmod_eq_of_lt (by omega) (by omega)
  · rw [if_neg (by simpa using h), Int.tmod_eq_emod_of_nonneg (by omega), Int.add_emod_right]
    exact Int.emod_eq_of_lt (by omega) (by omega)
theorem within_eq (a b c : Int) : r_within (a, b, c) = l_within (a, b, c) := by
  apply Bool.eq_iff_iff.2; rw [l_within_iff, r_within_iff]
theorem day_eq (n : Int) : r_day n = l_day n := by
  apply Bool.eq_iff_iff.2; rw [l_day_iff, r_day_iff]
theorem chain_eq (a : Int × Pst) : r_Chain a = l_Chain a := by
  unfold r_Chain l_Chain l_chain
  simp only [within_eq, day_eq, tm_fix, show IntKind.wrap IntKind.i64 ((2147483647 : Int) - (1 : Int)) = 2147483646 by decide]
  split
  · rfl
  split
  · rfl
  split
  · rfl
  split
  · rfl
  split
  · rfl
  split <;> rfl
noncomputable def lawCh (a : Int × Pst) : Bool := (l_Chain a).1 == (r_Chain a).1 && (l_Chain a).2 == (r_Chain a).2
theorem lawCh_eq (a : Int × Pst) : callT1 P BLQ01 30 3 D_chn dB a = some (lawCh a) := by
  rw [fn_lwChains]; unfold lawCh
  cases h : (l_Chain a).1 == (r_Chain a).1
  · exact br_f rfl rfl
  · exact br_t rfl rfl
theorem lawCh_true (a : Int × Pst) : lawCh a = true := by
  unfold lawCh; rw [chain_eq]; simp
end K
theorem law_pc (a) : PC P 3 (D_chn.enc a) (.bool true) := by
  have h := lawCh_eq a
  rw [lawCh_true] at h
  exact call_of okP tLQ01 h
theorem ownP : ownKnob P.godebug = none := by kernel_rfl
theorem laidP : laidOutB P = true := by kernel_rfl
theorem ub : P.underlying 4 = some .bool := by kernel_rfl
theorem ledgerChains_lifted (os : Os) (started : os.Started) (H : Type) (enc : TypeId × Value → H) :
    ReturnsInHanded {} Tryz.checked os 3 .any (Rows.ledgerChainsSpec.pre6 enc Tryz.prog Tryz.f3 Rows.ledgerChainsRow.domain false) (Rows.ledgerChainsSpec.post enc Tryz.prog Tryz.f3 false true false false) := by
  refine returnsInHanded_of_change (C := Tryz.checked) ownP started (by kernel_rfl) Tryz.func3
    (ChangeSpec.witness6 (enc := enc) (C := Tryz.checked) false ⟨#[], #[.int .i64 0, .agg (Array.replicate 4 (.int .i64 0))], []⟩ 8 (by kernel_rfl) (by kernel_rfl) (by kernel_rfl) (by kernel_rfl)) ?_
  intro W base args ds gs before hval hW _ _
  refine law_contract (P := Tryz.prog) D_chn laidP (by kernel_rfl) rfl (fun ds hd => ?_) (fun W' b sp hd => trodAll_mk1 (shut_bool ub true)) (fun W' => ok_one (by kernel_rfl) rfl (okWide_bool_mk ub true)) (fun W base args ds p hval hA => ?_) law_pc W base args ds gs before hval hW
  · rw [Tryz.params3] at hd
    match ds, hd with
    | [a, b], _ => rfl
  · rw [Tryz.params3] at hA hval
    obtain ⟨v0, vs0, d0, ds0, p0, q0, e0, _, _, h0, r0⟩ := trodAll_cons hA
    obtain ⟨v1, vs1, d1, ds1, p1, q1, e1, _, _, h1, r1⟩ := trodAll_cons r0
    obtain ⟨e2, _, _⟩ := trodAll_nil r1
    subst e2; subst e1
    have ha : args = #[v0, v1] := by apply Array.ext'; exact e0
    subst ha
    exact rdL_cons (rp_int (hval 0 _ v0 rfl rfl) h0) (rdL_last (rp_posting (hval 1 _ v1 rfl rfl) h1))
theorem ledgerChains_holds : Rows.LedgerChainsSaid :=
  OpenClaim.holds_of_wide 3 Tryz.f3 rfl rfl rfl rfl rfl rfl rfl ⟨rfl, rfl, rfl, rfl, rfl⟩ rfl rfl rfl rfl rfl (by kernel_rfl) Tryz.func3 (by kernel_rfl)
    (of_decide_eq_true (by kernel_rfl)) (by unfold Func.isWrapper; rw [if_neg (of_decide_eq_false (by kernel_rfl))]; exact ⟨rfl, rfl⟩)
    (fun os started H enc _ => ledgerChains_lifted os started H enc)
#print axioms ledgerChains_holds
end Go.Proofs.YtelpdkojdfnmiaaGreat
