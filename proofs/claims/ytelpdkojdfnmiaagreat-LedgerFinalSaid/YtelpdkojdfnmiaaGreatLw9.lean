/- Parts of the proof, one behind the other: LH2, LH3, LH4, LH5, LH6, LH7, LC0, LC1, LC2, LC3, LD0. No conditions. -/
import Derived.Test.YtelpdkojdfnmiaaGreatLw8
/-! LH2 -/
namespace Go.Proofs.YtelpdkojdfnmiaaGreat
open Ev K
set_option maxRecDepth 100000
set_option maxHeartbeats 0
theorem sl_rd : ∀ s, (K.st_rd) s = T.run (
  .br (decide (s.1.2.2.2 < s.1.2.2.1)) (
    .chk (decide ((0 : Int) ≤ s.1.2.2.2 ∧ s.1.2.2.2 < (↑(List.length s.1.2.1) : Int))) <|
    .br (decide (numOf (encF rItem s.1.2.1 ((0 : Nat) + Int.toNat s.1.2.2.2) (nat_lit 1)) > s.1.1)) (
      .ret (Sum.inr (PUnit.unit, s.2.1, decF rPost (List.length s.2.2.1) (encF rPost s.2.2.1), decF rItem (List.length s.2.2.2.1) (encF rItem s.2.2.2.1), decF rInt (List.length s.2.2.2.2.1) (encF rInt s.2.2.2.2.1), decP pStd (List.length s.2.2.2.2.2.1) (encPF pStd s.2.2.2.2.2.1) (encPL s.2.2.2.2.2.1) (encPH pStd s.2.2.2.2.2.1), decF rPII (List.length s.2.2.2.2.2.2.1) (encF rPII s.2.2.2.2.2.2.1), decF rPII (List.length s.2.2.2.2.2.2.2.1) (encF rPII s.2.2.2.2.2.2.2.1), PUnit.unit))) (
      .br (numOf (encF rItem s.1.2.1 ((0 : Nat) + Int.toNat s.1.2.2.2) (nat_lit 2)) == (1 : Int)) (
        .br (match mfind (Get.mk [CK.int IntKind.i64, CK.int IntKind.i64, CK.int IntKind.i64, CK.int IntKind.i64, CK.int IntKind.i64, CK.int IntKind.i64, CK.int IntKind.i64, CK.int IntKind.i64, CK.int IntKind.i64, CK.any] (encPF pStd s.2.2.2.2.2.1)) (AV.int IntKind.i64 (numOf (encF rItem s.1.2.1 ((0 : Nat) + Int.toNat s.1.2.2.2) (nat_lit 4)))) (List.length s.2.2.2.2.2.1) with
| some _val => true
| none => false) (
          .chk (decide ((List.length s.2.2.2.2.1 + (1 : Nat)) * (8 : Nat) ≤ (140737488355328 : Nat) ∧ List.length s.2.2.2.2.1 + (1 : Nat) ≤ nat_lit 9223372036854775807)) <|
          .ret (Sum.inl ((s.1.1, decF rItem (List.length s.1.2.1) fun i => encF rItem s.1.2.1 ((0 : Nat) + i), s.1.2.2.1, IntKind.wrap IntKind.i64 (s.1.2.2.2 + (1 : Int))), (s.2.1.1, s.2.1.2.1, s.2.1.2.2.1, List.length s.2.2.2.2.1 + (1 : Nat)), decF rPost (List.length s.2.2.1) (encF rPost s.2.2.1), decF rItem (List.length s.2.2.2.1) (encF rItem s.2.2.2.1), decF rInt (List.length s.2.2.2.2.1 + (1 : Nat)) (appG (List.length s.2.2.2.2.1) (encF rInt s.2.2.2.2.1) fun i k => Option.getD [AV.int IntKind.i64 (numOf (encF rItem s.1.2.1 ((0 : Nat) + Int.toNat s.1.2.2.2) (0 : Nat)))][((0 : Nat) + i) * (1 : Nat) + k]? AV.top), decP pStd (List.length s.2.2.2.2.2.1) (Get.f (setRowG (Get.mk [CK.int IntKind.i64, CK.int IntKind.i64, CK.int IntKind.i64, CK.int IntKind.i64, CK.int IntKind.i64, CK.int IntKind.i64, CK.int IntKind.i64, CK.int IntKind.i64, CK.int IntKind.i64, CK.any] (encPF pStd s.2.2.2.2.2.1)) (Option.getD (mfind (Get.mk [CK.int IntKind.i64, CK.int IntKind.i64, CK.int IntKind.i64, CK.int IntKind.i64, CK.int IntKind.i64, CK.int IntKind.i64, CK.int IntKind.i64, CK.int IntKind.i64, CK.int IntKind.i64, CK.any] (encPF pStd s.2.2.2.2.2.1)) (AV.int IntKind.i64 (numOf (encF rItem s.1.2.1 ((0 : Nat) + Int.toNat s.1.2.2.2) (nat_lit 4)))) (List.length s.2.2.2.2.2.1)) (0 : Nat)) [AV.int IntKind.i64 (numOf (encPF pStd s.2.2.2.2.2.1 (Option.getD (mfind (Get.mk [CK.int IntKind.i64, CK.int IntKind.i64, CK.int IntKind.i64, CK.int IntKind.i64, CK.int IntKind.i64, CK.int IntKind.i64, CK.int IntKind.i64, CK.int IntKind.i64, CK.int IntKind.i64, CK.any] (encPF pStd s.2.2.2.2.2.1)) (AV.int IntKind.i64 (numOf (encF rItem s.1.2.1 ((0 : Nat) + Int.toNat s.1.2.2.2) (nat_lit 4)))) (List.length s.2.2.2.2.2.1)) (0 : Nat)) (nat_lit 1))), AV.int IntKind.i64 (numOf (encPF pStd s.2.2.2.2.2.1 (Option.getD (mfind (Get.mk [CK.int IntKind.i64, CK.int IntKind.i64, CK.int IntKind.i64, CK.int IntKind.i64, CK.int IntKind.i64, CK.int IntKind.i64, CK.int IntKind.i64, CK.int IntKind.i64, CK.int IntKind.i64, CK.any] (encPF pStd s.2.2.2.2.2.1)) (AV.int IntKind.i64 (numOf (encF rItem s.1.2.1 ((0 : Nat) + Int.toNat s.1.2.2.2) (nat_lit 4)))) (List.length s.2.2.2.2.2.1)) (0 : Nat)) (nat_lit 2))), AV.int IntKind.i64 (numOf (encPF pStd s.2.2.2.2.2.1 (Option.getD (mfind (Get.mk [CK.int IntKind.i64, CK.int IntKind.i64, CK.int IntKind.i64, CK.int IntKind.i64, CK.int IntKind.i64, CK.int IntKind.i64, CK.int IntKind.i64, CK.int IntKind.i64, CK.int IntKind.i64, CK.any] (encPF pStd s.2.2.2.2.2.1)) (AV.int IntKind.i64 (numOf (encF rItem s.1.2.1 ((0 : Nat) + Int.toNat s.1.2.2.2) (nat_lit 4)))) (List.length s.2.2.2.2.2.1)) (0 : Nat)) (nat_lit 3))), AV.int IntKind.i64 (numOf (encPF pStd s.2.2.2.2.2.1 (Option.getD (mfind (Get.mk [CK.int IntKind.i64, CK.int IntKind.i64, CK.int IntKind.i64, CK.int IntKind.i64, CK.int IntKind.i64, CK.int IntKind.i64, CK.int IntKind.i64, CK.int IntKind.i64, CK.int IntKind.i64, CK.any] (encPF pStd s.2.2.2.2.2.1)) (AV.int IntKind.i64 (numOf (encF rItem s.1.2.1 ((0 : Nat) + Int.toNat s.1.2.2.2) (nat_lit 4)))) (List.length s.2.2.2.2.2.1)) (0 : Nat)) (nat_lit 4))), AV.int IntKind.i64 (numOf (encPF pStd s.2.2.2.2.2.1 (Option.getD (mfind (Get.mk [CK.int IntKind.i64, CK.int IntKind.i64, CK.int IntKind.i64, CK.int IntKind.i64, CK.int IntKind.i64, CK.int IntKind.i64, CK.int IntKind.i64, CK.int IntKind.i64, CK.int IntKind.i64, CK.any] (encPF pStd s.2.2.2.2.2.1)) (AV.int IntKind.i64 (numOf (encF rItem s.1.2.1 ((0 : Nat) + Int.toNat s.1.2.2.2) (nat_lit 4)))) (List.length s.2.2.2.2.2.1)) (0 : Nat)) (nat_lit 5))), AV.int IntKind.i64 (numOf (encPF pStd s.2.2.2.2.2.1 (Option.getD (mfind (Get.mk [CK.int IntKind.i64, CK.int IntKind.i64, CK.int IntKind.i64, CK.int IntKind.i64, CK.int IntKind.i64, CK.int IntKind.i64, CK.int IntKind.i64, CK.int IntKind.i64, CK.int IntKind.i64, CK.any] (encPF pStd s.2.2.2.2.2.1)) (AV.int IntKind.i64 (numOf (encF rItem s.1.2.1 ((0 : Nat) + Int.toNat s.1.2.2.2) (nat_lit 4)))) (List.length s.2.2.2.2.2.1)) (0 : Nat)) (nat_lit 6))), AV.int IntKind.i64 (numOf (encPF pStd s.2.2.2.2.2.1 (Option.getD (mfind (Get.mk [CK.int IntKind.i64, CK.int IntKind.i64, CK.int IntKind.i64, CK.int IntKind.i64, CK.int IntKind.i64, CK.int IntKind.i64, CK.int IntKind.i64, CK.int IntKind.i64, CK.int IntKind.i64, CK.any] (encPF pStd s.2.2.2.2.2.1)) (AV.int IntKind.i64 (numOf (encF rItem s.1.2.1 ((0 : Nat) + Int.toNat s.1.2.2.2) (nat_lit 4)))) (List.length s.2.2.2.2.2.1)) (0 : Nat)) (nat_lit 7))), AV.int IntKind.i64 (numOf (encPF pStd s.2.2.2.2.2.1 (Option.getD (mfind (Get.mk [CK.int IntKind.i64, CK.int IntKind.i64, CK.int IntKind.i64, CK.int IntKind.i64, CK.int IntKind.i64, CK.int IntKind.i64, CK.int IntKind.i64, CK.int IntKind.i64, CK.int IntKind.i64, CK.any] (encPF pStd s.2.2.2.2.2.1)) (AV.int IntKind.i64 (numOf (encF rItem s.1.2.1 ((0 : Nat) + Int.toNat s.1.2.2.2) (nat_lit 4)))) (List.length s.2.2.2.2.2.1)) (0 : Nat)) (nat_lit 8))), AV.osl (nat_lit 6) (0 : Nat) (encPL s.2.2.2.2.2.1 (Option.getD (mfind (Get.mk [CK.int IntKind.i64, CK.int IntKind.i64, CK.int IntKind.i64, CK.int IntKind.i64, CK.int IntKind.i64, CK.int IntKind.i64, CK.int IntKind.i64, CK.int IntKind.i64, CK.int IntKind.i64, CK.any] (encPF pStd s.2.2.2.2.2.1)) (AV.int IntKind.i64 (numOf (encF rItem s.1.2.1 ((0 : Nat) + Int.toNat s.1.2.2.2) (nat_lit 4)))) (List.length s.2.2.2.2.2.1)) (0 : Nat)))])) (setAt (encPL s.2.2.2.2.2.1) (Option.getD (mfind (Get.mk [CK.int IntKind.i64, CK.int IntKind.i64, CK.int IntKind.i64, CK.int IntKind.i64, CK.int IntKind.i64, CK.int IntKind.i64, CK.int IntKind.i64, CK.int IntKind.i64, CK.int IntKind.i64, CK.any] (encPF pStd s.2.2.2.2.2.1)) (AV.int IntKind.i64 (numOf (encF rItem s.1.2.1 ((0 : Nat) + Int.toNat s.1.2.2.2) (nat_lit 4)))) (List.length s.2.2.2.2.2.1)) (0 : Nat)) (encPL s.2.2.2.2.2.1 (Option.getD (mfind (Get.mk [CK.int IntKind.i64, CK.int IntKind.i64, CK.int IntKind.i64, CK.int IntKind.i64, CK.int IntKind.i64, CK.int IntKind.i64, CK.int IntKind.i64, CK.int IntKind.i64, CK.int IntKind.i64, CK.any] (encPF pStd s.2.2.2.2.2.1)) (AV.int IntKind.i64 (numOf (encF rItem s.1.2.1 ((0 : Nat) + Int.toNat s.1.2.2.2) (nat_lit 4)))) (List.length s.2.2.2.2.2.1)) (0 : Nat)))) (HG.f (HG.set (HG.mk [CK.int IntKind.i64, CK.int IntKind.i64] (encPH pStd s.2.2.2.2.2.1)) (Option.getD (mfind (Get.mk [CK.int IntKind.i64, CK.int IntKind.i64, CK.int IntKind.i64, CK.int IntKind.i64, CK.int IntKind.i64, CK.int IntKind.i64, CK.int IntKind.i64, CK.int IntKind.i64, CK.int IntKind.i64, CK.any] (encPF pStd s.2.2.2.2.2.1)) (AV.int IntKind.i64 (numOf (encF rItem s.1.2.1 ((0 : Nat) + Int.toNat s.1.2.2.2) (nat_lit 4)))) (List.length s.2.2.2.2.2.1)) (0 : Nat)) (Get.mk [CK.int IntKind.i64, CK.int IntKind.i64] (encPH pStd s.2.2.2.2.2.1 (Option.getD (mfind (Get.mk [CK.int IntKind.i64, CK.int IntKind.i64, CK.int IntKind.i64, CK.int IntKind.i64, CK.int IntKind.i64, CK.int IntKind.i64, CK.int IntKind.i64, CK.int IntKind.i64, CK.int IntKind.i64, CK.any] (encPF pStd s.2.2.2.2.2.1)) (AV.int IntKind.i64 (numOf (encF rItem s.1.2.1 ((0 : Nat) + Int.toNat s.1.2.2.2) (nat_lit 4)))) (List.length s.2.2.2.2.2.1)) (0 : Nat)))))), decF rPII (List.length s.2.2.2.2.2.2.1) (encF rPII s.2.2.2.2.2.2.1), decF rPII (List.length s.2.2.2.2.2.2.2.1) (encF rPII s.2.2.2.2.2.2.2.1), PUnit.unit))) (
          .br (decide ((if IntKind.wrap IntKind.i64 (s.2.1.1 + (1 : Int)) > numOf (encF rItem s.1.2.1 ((0 : Nat) + Int.toNat s.1.2.2.2) (nat_lit 3)) then IntKind.wrap IntKind.i64 (s.2.1.1 + (1 : Int)) else numOf (encF rItem s.1.2.1 ((0 : Nat) + Int.toNat s.1.2.2.2) (nat_lit 3))) > (728 : Int))) (
            .chk (decide ((List.length s.2.2.2.2.1 + (1 : Nat)) * (8 : Nat) ≤ (140737488355328 : Nat) ∧ List.length s.2.2.2.2.1 + (1 : Nat) ≤ nat_lit 9223372036854775807)) <|
            .ret (Sum.inl ((s.1.1, decF rItem (List.length s.1.2.1) fun i => encF rItem s.1.2.1 ((0 : Nat) + i), s.1.2.2.1, IntKind.wrap IntKind.i64 (s.1.2.2.2 + (1 : Int))), (s.2.1.1, s.2.1.2.1, s.2.1.2.2.1, List.length s.2.2.2.2.1 + (1 : Nat)), decF rPost (List.length s.2.2.1) (encF rPost s.2.2.1), decF rItem (List.length s.2.2.2.1) (encF rItem s.2.2.2.1), decF rInt (List.length s.2.2.2.2.1 + (1 : Nat)) (appG (List.length s.2.2.2.2.1) (encF rInt s.2.2.2.2.1) fun i k => Option.getD [AV.int IntKind.i64 (numOf (encF rItem s.1.2.1 ((0 : Nat) + Int.toNat s.1.2.2.2) (0 : Nat)))][((0 : Nat) + i) * (1 : Nat) + k]? AV.top), decP pStd (List.length s.2.2.2.2.2.1) (encPF pStd s.2.2.2.2.2.1) (encPL s.2.2.2.2.2.1) (encPH pStd s.2.2.2.2.2.1), decF rPII (List.length s.2.2.2.2.2.2.1) (encF rPII s.2.2.2.2.2.2.1), decF rPII (List.length s.2.2.2.2.2.2.2.1) (encF rPII s.2.2.2.2.2.2.2.1), PUnit.unit))) (
            .chk (decide ((List.length s.2.2.1 + (1 : Nat)) * (32 : Nat) ≤ (140737488355328 : Nat) ∧ List.length s.2.2.1 + (1 : Nat) ≤ nat_lit 9223372036854775807)) <|
            .chk (decide ((List.length s.2.2.1 + (1 : Nat) + (1 : Nat)) * (32 : Nat) ≤ (140737488355328 : Nat) ∧ List.length s.2.2.1 + (1 : Nat) + (1 : Nat) ≤ nat_lit 9223372036854775807)) <|
            .chk (match mfind (Get.mk [CK.int IntKind.i64, CK.int IntKind.i64, CK.int IntKind.i64, CK.int IntKind.i64, CK.int IntKind.i64, CK.int IntKind.i64, CK.int IntKind.i64, CK.int IntKind.i64, CK.int IntKind.i64, CK.any] (encPF pStd s.2.2.2.2.2.1)) (AV.int IntKind.i64 (numOf (encF rItem s.1.2.1 ((0 : Nat) + Int.toNat s.1.2.2.2) (nat_lit 4)))) (List.length s.2.2.2.2.2.1) with
| some _val => false
| none => true) <|
            .chk (decide ((List.length s.2.2.2.1 + (1 : Nat)) * (56 : Nat) ≤ (140737488355328 : Nat) ∧ List.length s.2.2.2.1 + (1 : Nat) ≤ nat_lit 9223372036854775807)) <|
            .ret (Sum.inl ((s.1.1, decF rItem (List.length s.1.2.1) fun i => encF rItem s.1.2.1 ((0 : Nat) + i), s.1.2.2.1, IntKind.wrap IntKind.i64 (s.1.2.2.2 + (1 : Int))), (s.2.1.1, List.length s.2.2.1 + (1 : Nat) + (1 : Nat), List.length s.2.2.2.1 + (1 : Nat), s.2.1.2.2.2), decF rPost (List.length s.2.2.1 + (1 : Nat) + (1 : Nat)) (appG (List.length s.2.2.1 + (1 : Nat)) (appG (List.length s.2.2.1) (encF rPost s.2.2.1) fun i k => Option.getD [AV.int IntKind.i64 (numOf (encF rItem s.1.2.1 ((0 : Nat) + Int.toNat s.1.2.2.2) (0 : Nat))), AV.int IntKind.i64 (if IntKind.wrap IntKind.i64 (s.2.1.1 + (1 : Int)) > numOf (encF rItem s.1.2.1 ((0 : Nat) + Int.toNat s.1.2.2.2) (nat_lit 3)) then IntKind.wrap IntKind.i64 (s.2.1.1 + (1 : Int)) else numOf (encF rItem s.1.2.1 ((0 : Nat) + Int.toNat s.1.2.2.2) (nat_lit 3))), AV.int IntKind.i64 (numOf (encF rItem s.1.2.1 ((0 : Nat) + Int.toNat s.1.2.2.2) (nat_lit 5))), AV.int IntKind.i64 (numOf (encF rItem s.1.2.1 ((0 : Nat) + Int.toNat s.1.2.2.2) (nat_lit 6)))][((0 : Nat) + i) * (4 : Nat) + k]? AV.top) fun i k => Option.getD [AV.int IntKind.i64 (numOf (encF rItem s.1.2.1 ((0 : Nat) + Int.toNat s.1.2.2.2) (0 : Nat))), AV.int IntKind.i64 (if IntKind.wrap IntKind.i64 (s.2.1.1 + (1 : Int)) > numOf (encF rItem s.1.2.1 ((0 : Nat) + Int.toNat s.1.2.2.2) (nat_lit 3)) then IntKind.wrap IntKind.i64 (s.2.1.1 + (1 : Int)) else numOf (encF rItem s.1.2.1 ((0 : Nat) + Int.toNat s.1.2.2.2) (nat_lit 3))), AV.int IntKind.i64 (2 : Int), AV.int IntKind.i64 (IntKind.wrap IntKind.i64 ((0 : Int) - numOf (encF rItem s.1.2.1 ((0 : Nat) + Int.toNat s.1.2.2.2) (nat_lit 6))))][((0 : Nat) + i) * (4 : Nat) + k]? AV.top), decF rItem (List.length s.2.2.2.1 + (1 : Nat)) (appG (List.length s.2.2.2.1) (encF rItem s.2.2.2.1) fun i k => Option.getD [AV.int IntKind.i64 (numOf (encF rItem s.1.2.1 ((0 : Nat) + Int.toNat s.1.2.2.2) (0 : Nat))), AV.int IntKind.i64 (numOf (encF rItem s.1.2.1 ((0 : Nat) + Int.toNat s.1.2.2.2) (nat_lit 1))), AV.int IntKind.i64 (numOf (encF rItem s.1.2.1 ((0 : Nat) + Int.toNat s.1.2.2.2) (nat_lit 2))), AV.int IntKind.i64 (numOf (encF rItem s.1.2.1 ((0 : Nat) + Int.toNat s.1.2.2.2) (nat_lit 3))), AV.int IntKind.i64 (numOf (encF rItem s.1.2.1 ((0 : Nat) + Int.toNat s.1.2.2.2) (nat_lit 4))), AV.int IntKind.i64 (numOf (encF rItem s.1.2.1 ((0 : Nat) + Int.toNat s.1.2.2.2) (nat_lit 5))), AV.int IntKind.i64 (numOf (encF rItem s.1.2.1 ((0 : Nat) + Int.toNat s.1.2.2.2) (nat_lit 6)))][((0 : Nat) + i) * (7 : Nat) + k]? AV.top), decF rInt (List.length s.2.2.2.2.1) (encF rInt s.2.2.2.2.1), decP pStd (List.length s.2.2.2.2.2.1 + (1 : Nat)) (Get.f (setRowG (mputG (Get.mk [CK.int IntKind.i64, CK.int IntKind.i64, CK.int IntKind.i64, CK.int IntKind.i64, CK.int IntKind.i64, CK.int IntKind.i64, CK.int IntKind.i64, CK.int IntKind.i64, CK.int IntKind.i64, CK.any] (encPF pStd s.2.2.2.2.2.1)) (List.length s.2.2.2.2.2.1) [AV.int IntKind.i64 (numOf (encF rItem s.1.2.1 ((0 : Nat) + Int.toNat s.1.2.2.2) (nat_lit 4)))]) (List.length s.2.2.2.2.2.1) [AV.int IntKind.i64 (numOf (encF rItem s.1.2.1 ((0 : Nat) + Int.toNat s.1.2.2.2) (0 : Nat))), AV.int IntKind.i64 (numOf (encF rItem s.1.2.1 ((0 : Nat) + Int.toNat s.1.2.2.2) (nat_lit 1))), AV.int IntKind.i64 (numOf (encF rItem s.1.2.1 ((0 : Nat) + Int.toNat s.1.2.2.2) (nat_lit 2))), AV.int IntKind.i64 (numOf (encF rItem s.1.2.1 ((0 : Nat) + Int.toNat s.1.2.2.2) (nat_lit 3))), AV.int IntKind.i64 (numOf (encF rItem s.1.2.1 ((0 : Nat) + Int.toNat s.1.2.2.2) (nat_lit 4))), AV.int IntKind.i64 (numOf (encF rItem s.1.2.1 ((0 : Nat) + Int.toNat s.1.2.2.2) (nat_lit 5))), AV.int IntKind.i64 (numOf (encF rItem s.1.2.1 ((0 : Nat) + Int.toNat s.1.2.2.2) (nat_lit 6))), AV.int IntKind.i64 (numOf (encF rItem s.1.2.1 ((0 : Nat) + Int.toNat s.1.2.2.2) (nat_lit 6))), AV.lsl (nat_lit 6) (2 : Nat) (0 : Nat) (0 : Nat) (1 : Nat) (some (1 : Nat))])) (setAt (encPL s.2.2.2.2.2.1) (List.length s.2.2.2.2.2.1) (1 : Nat)) (HG.f (HG.set (HG.mk [CK.int IntKind.i64, CK.int IntKind.i64] (encPH pStd s.2.2.2.2.2.1)) (List.length s.2.2.2.2.2.1) (Get.mk [CK.int IntKind.i64, CK.int IntKind.i64] fun i k => Option.getD [AV.int IntKind.i64 (numOf (encF rItem s.1.2.1 ((0 : Nat) + Int.toNat s.1.2.2.2) (nat_lit 1))), AV.int IntKind.i64 (numOf (encF rItem s.1.2.1 ((0 : Nat) + Int.toNat s.1.2.2.2) (nat_lit 6)))][i * (2 : Nat) + k]? AV.top))), decF rPII (List.length s.2.2.2.2.2.2.1) (encF rPII s.2.2.2.2.2.2.1), decF rPII (List.length s.2.2.2.2.2.2.2.1) (encF rPII s.2.2.2.2.2.2.2.1), PUnit.unit))))) (
        .br (numOf (encF rItem s.1.2.1 ((0 : Nat) + Int.toNat s.1.2.2.2) (nat_lit 2)) == (2 : Int)) (
          .br (match mfind (Get.mk [CK.int IntKind.i64, CK.int IntKind.i64, CK.int IntKind.i64, CK.int IntKind.i64, CK.int IntKind.i64, CK.int IntKind.i64, CK.int IntKind.i64, CK.int IntKind.i64, CK.int IntKind.i64, CK.any] (encPF pStd s.2.2.2.2.2.1)) (AV.int IntKind.i64 (numOf (encF rItem s.1.2.1 ((0 : Nat) + Int.toNat s.1.2.2.2) (nat_lit 4)))) (List.length s.2.2.2.2.2.1) with
| some _val => true
| none => false) (
            .br (decide ((if IntKind.wrap IntKind.i64 (s.2.1.1 + (1 : Int)) > numOf (encPF pStd s.2.2.2.2.2.1 (Option.getD (mfind (Get.mk [CK.int IntKind.i64, CK.int IntKind.i64, CK.int IntKind.i64, CK.int IntKind.i64, CK.int IntKind.i64, CK.int IntKind.i64, CK.int IntKind.i64, CK.int IntKind.i64, CK.int IntKind.i64, CK.any] (encPF pStd s.2.2.2.2.2.1)) (AV.int IntKind.i64 (numOf (encF rItem s.1.2.1 ((0 : Nat) + Int.toNat s.1.2.2.2) (nat_lit 4)))) (List.length s.2.2.2.2.2.1)) (0 : Nat)) (nat_lit 4)) then IntKind.wrap IntKind.i64 (s.2.1.1 + (1 : Int)) else numOf (encPF pStd s.2.2.2.2.2.1 (Option.getD (mfind (Get.mk [CK.int IntKind.i64, CK.int IntKind.i64, CK.int IntKind.i64, CK.int IntKind.i64, CK.int IntKind.i64, CK.int IntKind.i64, CK.int IntKind.i64, CK.int IntKind.i64, CK.int IntKind.i64, CK.any] (encPF pStd s.2.2.2.2.2.1)) (AV.int IntKind.i64 (numOf (encF rItem s.1.2.1 ((0 : Nat) + Int.toNat s.1.2.2.2) (nat_lit 4)))) (List.length s.2.2.2.2.2.1)) (0 : Nat)) (nat_lit 4))) > (728 : Int))) (
              .chk (decide ((List.length s.2.2.2.2.1 + (1 : Nat)) * (8 : Nat) ≤ (140737488355328 : Nat) ∧ List.length s.2.2.2.2.1 + (1 : Nat) ≤ nat_lit 9223372036854775807)) <|
              .ret (Sum.inl ((s.1.1, decF rItem (List.length s.1.2.1) fun i => encF rItem s.1.2.1 ((0 : Nat) + i), s.1.2.2.1, IntKind.wrap IntKind.i64 (s.1.2.2.2 + (1 : Int))), (s.2.1.1, s.2.1.2.1, s.2.1.2.2.1, List.length s.2.2.2.2.1 + (1 : Nat)), decF rPost (List.length s.2.2.1) (encF rPost s.2.2.1), decF rItem (List.length s.2.2.2.1) (encF rItem s.2.2.2.1), decF rInt (List.length s.2.2.2.2.1 + (1 : Nat)) (appG (List.length s.2.2.2.2.1) (encF rInt s.2.2.2.2.1) fun i k => Option.getD [AV.int IntKind.i64 (numOf (encF rItem s.1.2.1 ((0 : Nat) + Int.toNat s.1.2.2.2) (0 : Nat)))][((0 : Nat) + i) * (1 : Nat) + k]? AV.top), decP pStd (List.length s.2.2.2.2.2.1) (Get.f (setRowG (Get.mk [CK.int IntKind.i64, CK.int IntKind.i64, CK.int IntKind.i64, CK.int IntKind.i64, CK.int IntKind.i64, CK.int IntKind.i64, CK.int IntKind.i64, CK.int IntKind.i64, CK.int IntKind.i64, CK.any] (encPF pStd s.2.2.2.2.2.1)) (Option.getD (mfind (Get.mk [CK.int IntKind.i64, CK.int IntKind.i64, CK.int IntKind.i64, CK.int IntKind.i64, CK.int IntKind.i64, CK.int IntKind.i64, CK.int IntKind.i64, CK.int IntKind.i64, CK.int IntKind.i64, CK.any] (encPF pStd s.2.2.2.2.2.1)) (AV.int IntKind.i64 (numOf (encF rItem s.1.2.1 ((0 : Nat) + Int.toNat s.1.2.2.2) (nat_lit 4)))) (List.length s.2.2.2.2.2.1)) (0 : Nat)) [AV.int IntKind.i64 (numOf (encPF pStd s.2.2.2.2.2.1 (Option.getD (mfind (Get.mk [CK.int IntKind.i64, CK.int IntKind.i64, CK.int IntKind.i64, CK.int IntKind.i64, CK.int IntKind.i64, CK.int IntKind.i64, CK.int IntKind.i64, CK.int IntKind.i64, CK.int IntKind.i64, CK.any] (encPF pStd s.2.2.2.2.2.1)) (AV.int IntKind.i64 (numOf (encF rItem s.1.2.1 ((0 : Nat) + Int.toNat s.1.2.2.2) (nat_lit 4)))) (List.length s.2.2.2.2.2.1)) (0 : Nat)) (nat_lit 1))), AV.int IntKind.i64 (numOf (encPF pStd s.2.2.2.2.2.1 (Option.getD (mfind (Get.mk [CK.int IntKind.i64, CK.int IntKind.i64, CK.int IntKind.i64, CK.int IntKind.i64, CK.int IntKind.i64, CK.int IntKind.i64, CK.int IntKind.i64, CK.int IntKind.i64, CK.int IntKind.i64, CK.any] (encPF pStd s.2.2.2.2.2.1)) (AV.int IntKind.i64 (numOf (encF rItem s.1.2.1 ((0 : Nat) + Int.toNat s.1.2.2.2) (nat_lit 4)))) (List.length s.2.2.2.2.2.1)) (0 : Nat)) (nat_lit 2))), AV.int IntKind.i64 (numOf (encPF pStd s.2.2.2.2.2.1 (Option.getD (mfind (Get.mk [CK.int IntKind.i64, CK.int IntKind.i64, CK.int IntKind.i64, CK.int IntKind.i64, CK.int IntKind.i64, CK.int IntKind.i64, CK.int IntKind.i64, CK.int IntKind.i64, CK.int IntKind.i64, CK.any] (encPF pStd s.2.2.2.2.2.1)) (AV.int IntKind.i64 (numOf (encF rItem s.1.2.1 ((0 : Nat) + Int.toNat s.1.2.2.2) (nat_lit 4)))) (List.length s.2.2.2.2.2.1)) (0 : Nat)) (nat_lit 3))), AV.int IntKind.i64 (numOf (encPF pStd s.2.2.2.2.2.1 (Option.getD (mfind (Get.mk [CK.int IntKind.i64, CK.int IntKind.i64, CK.int IntKind.i64, CK.int IntKind.i64, CK.int IntKind.i64, CK.int IntKind.i64, CK.int IntKind.i64, CK.int IntKind.i64, CK.int IntKind.i64, CK.any] (encPF pStd s.2.2.2.2.2.1)) (AV.int IntKind.i64 (numOf (encF rItem s.1.2.1 ((0 : Nat) + Int.toNat s.1.2.2.2) (nat_lit 4)))) (List.length s.2.2.2.2.2.1)) (0 : Nat)) (nat_lit 4))), AV.int IntKind.i64 (numOf (encPF pStd s.2.2.2.2.2.1 (Option.getD (mfind (Get.mk [CK.int IntKind.i64, CK.int IntKind.i64, CK.int IntKind.i64, CK.int IntKind.i64, CK.int IntKind.i64, CK.int IntKind.i64, CK.int IntKind.i64, CK.int IntKind.i64, CK.int IntKind.i64, CK.any] (encPF pStd s.2.2.2.2.2.1)) (AV.int IntKind.i64 (numOf (encF rItem s.1.2.1 ((0 : Nat) + Int.toNat s.1.2.2.2) (nat_lit 4)))) (List.length s.2.2.2.2.2.1)) (0 : Nat)) (nat_lit 5))), AV.int IntKind.i64 (numOf (encPF pStd s.2.2.2.2.2.1 (Option.getD (mfind (Get.mk [CK.int IntKind.i64, CK.int IntKind.i64, CK.int IntKind.i64, CK.int IntKind.i64, CK.int IntKind.i64, CK.int IntKind.i64, CK.int IntKind.i64, CK.int IntKind.i64, CK.int IntKind.i64, CK.any] (encPF pStd s.2.2.2.2.2.1)) (AV.int IntKind.i64 (numOf (encF rItem s.1.2.1 ((0 : Nat) + Int.toNat s.1.2.2.2) (nat_lit 4)))) (List.length s.2.2.2.2.2.1)) (0 : Nat)) (nat_lit 6))), AV.int IntKind.i64 (numOf (encPF pStd s.2.2.2.2.2.1 (Option.getD (mfind (Get.mk [CK.int IntKind.i64, CK.int IntKind.i64, CK.int IntKind.i64, CK.int IntKind.i64, CK.int IntKind.i64, CK.int IntKind.i64, CK.int IntKind.i64, CK.int IntKind.i64, CK.int IntKind.i64, CK.any] (encPF pStd s.2.2.2.2.2.1)) (AV.int IntKind.i64 (numOf (encF rItem s.1.2.1 ((0 : Nat) + Int.toNat s.1.2.2.2) (nat_lit 4)))) (List.length s.2.2.2.2.2.1)) (0 : Nat)) (nat_lit 7))), AV.int IntKind.i64 (numOf (encPF pStd s.2.2.2.2.2.1 (Option.getD (mfind (Get.mk [CK.int IntKind.i64, CK.int IntKind.i64, CK.int IntKind.i64, CK.int IntKind.i64, CK.int IntKind.i64, CK.int IntKind.i64, CK.int IntKind.i64, CK.int IntKind.i64, CK.int IntKind.i64, CK.any] (encPF pStd s.2.2.2.2.2.1)) (AV.int IntKind.i64 (numOf (encF rItem s.1.2.1 ((0 : Nat) + Int.toNat s.1.2.2.2) (nat_lit 4)))) (List.length s.2.2.2.2.2.1)) (0 : Nat)) (nat_lit 8))), AV.osl (nat_lit 6) (0 : Nat) (encPL s.2.2.2.2.2.1 (Option.getD (mfind (Get.mk [CK.int IntKind.i64, CK.int IntKind.i64, CK.int IntKind.i64, CK.int IntKind.i64, CK.int IntKind.i64, CK.int IntKind.i64, CK.int IntKind.i64, CK.int IntKind.i64, CK.int IntKind.i64, CK.any] (encPF pStd s.2.2.2.2.2.1)) (AV.int IntKind.i64 (numOf (encF rItem s.1.2.1 ((0 : Nat) + Int.toNat s.1.2.2.2) (nat_lit 4)))) (List.length s.2.2.2.2.2.1)) (0 : Nat)))])) (setAt (encPL s.2.2.2.2.2.1) (Option.getD (mfind (Get.mk [CK.int IntKind.i64, CK.int IntKind.i64, CK.int IntKind.i64, CK.int IntKind.i64, CK.int IntKind.i64, CK.int IntKind.i64, CK.int IntKind.i64, CK.int IntKind.i64, CK.int IntKind.i64, CK.any] (encPF pStd s.2.2.2.2.2.1)) (AV.int IntKind.i64 (numOf (encF rItem s.1.2.1 ((0 : Nat) + Int.toNat s.1.2.2.2) (nat_lit 4)))) (List.length s.2.2.2.2.2.1)) (0 : Nat)) (encPL s.2.2.2.2.2.1 (Option.getD (mfind (Get.mk [CK.int IntKind.i64, CK.int IntKind.i64, CK.int IntKind.i64, CK.int IntKind.i64, CK.int IntKind.i64, CK.int IntKind.i64, CK.int IntKind.i64, CK.int IntKind.i64, CK.int IntKind.i64, CK.any] (encPF pStd s.2.2.2.2.2.1)) (AV.int IntKind.i64 (numOf (encF rItem s.1.2.1 ((0 : Nat) + Int.toNat s.1.2.2.2) (nat_lit 4)))) (List.length s.2.2.2.2.2.1)) (0 : Nat)))) (HG.f (HG.set (HG.mk [CK.int IntKind.i64, CK.int IntKind.i64] (encPH pStd s.2.2.2.2.2.1)) (Option.getD (mfind (Get.mk [CK.int IntKind.i64, CK.int IntKind.i64, CK.int IntKind.i64, CK.int IntKind.i64, CK.int IntKind.i64, CK.int IntKind.i64, CK.int IntKind.i64, CK.int IntKind.i64, CK.int IntKind.i64, CK.any] (encPF pStd s.2.2.2.2.2.1)) (AV.int IntKind.i64 (numOf (encF rItem s.1.2.1 ((0 : Nat) + Int.toNat s.1.2.2.2) (nat_lit 4)))) (List.length s.2.2.2.2.2.1)) (0 : Nat)) (Get.mk [CK.int IntKind.i64, CK.int IntKind.i64] (encPH pStd s.2.2.2.2.2.1 (Option.getD (mfind (Get.mk [CK.int IntKind.i64, CK.int IntKind.i64, CK.int IntKind.i64, CK.int IntKind.i64, CK.int IntKind.i64, CK.int IntKind.i64, CK.int IntKind.i64, CK.int IntKind.i64, CK.int IntKind.i64, CK.any] (encPF pStd s.2.2.2.2.2.1)) (AV.int IntKind.i64 (numOf (encF rItem s.1.2.1 ((0 : Nat) + Int.toNat s.1.2.2.2) (nat_lit 4)))) (List.length s.2.2.2.2.2.1)) (0 : Nat)))))), decF rPII (List.length s.2.2.2.2.2.2.1) (encF rPII s.2.2.2.2.2.2.1), decF rPII (List.length s.2.2.2.2.2.2.2.1) (encF rPII s.2.2.2.2.2.2.2.1), PUnit.unit))) (
              .chk (decide ((List.length s.2.2.1 + (1 : Nat)) * (32 : Nat) ≤ (140737488355328 : Nat) ∧ List.length s.2.2.1 + (1 : Nat) ≤ nat_lit 9223372036854775807)) <|
              .chk (decide ((List.length s.2.2.1 + (1 : Nat) + (1 : Nat)) * (32 : Nat) ≤ (140737488355328 : Nat) ∧ List.length s.2.2.1 + (1 : Nat) + (1 : Nat) ≤ nat_lit 9223372036854775807)) <|
              .chk (decide ((encPL s.2.2.2.2.2.1 (Option.getD (mfind (Get.mk [CK.int IntKind.i64, CK.int IntKind.i64, CK.int IntKind.i64, CK.int IntKind.i64, CK.int IntKind.i64, CK.int IntKind.i64, CK.int IntKind.i64, CK.int IntKind.i64, CK.int IntKind.i64, CK.any] (encPF pStd s.2.2.2.2.2.1)) (AV.int IntKind.i64 (numOf (encF rItem s.1.2.1 ((0 : Nat) + Int.toNat s.1.2.2.2) (nat_lit 4)))) (List.length s.2.2.2.2.2.1)) (0 : Nat)) + (1 : Nat)) * (16 : Nat) ≤ (140737488355328 : Nat) ∧ encPL s.2.2.2.2.2.1 (Option.getD (mfind (Get.mk [CK.int IntKind.i64, CK.int IntKind.i64, CK.int IntKind.i64, CK.int IntKind.i64, CK.int IntKind.i64, CK.int IntKind.i64, CK.int IntKind.i64, CK.int IntKind.i64, CK.int IntKind.i64, CK.any] (encPF pStd s.2.2.2.2.2.1)) (AV.int IntKind.i64 (numOf (encF rItem s.1.2.1 ((0 : Nat) + Int.toNat s.1.2.2.2) (nat_lit 4)))) (List.length s.2.2.2.2.2.1)) (0 : Nat)) + (1 : Nat) ≤ nat_lit 9223372036854775807)) <|
              .chk (decide ((List.length s.2.2.2.1 + (1 : Nat)) * (56 : Nat) ≤ (140737488355328 : Nat) ∧ List.length s.2.2.2.1 + (1 : Nat) ≤ nat_lit 9223372036854775807)) <|
              .ret (Sum.inl ((s.1.1, decF rItem (List.length s.1.2.1) fun i => encF rItem s.1.2.1 ((0 : Nat) + i), s.1.2.2.1, IntKind.wrap IntKind.i64 (s.1.2.2.2 + (1 : Int))), (s.2.1.1, List.length s.2.2.1 + (1 : Nat) + (1 : Nat), List.length s.2.2.2.1 + (1 : Nat), s.2.1.2.2.2), decF rPost (List.length s.2.2.1 + (1 : Nat) + (1 : Nat)) (appG (List.length s.2.2.1 + (1 : Nat)) (appG (List.length s.2.2.1) (encF rPost s.2.2.1) fun i k => Option.getD [AV.int IntKind.i64 (numOf (encF rItem s.1.2.1 ((0 : Nat) + Int.toNat s.1.2.2.2) (0 : Nat))), AV.int IntKind.i64 (if IntKind.wrap IntKind.i64 (s.2.1.1 + (1 : Int)) > numOf (encPF pStd s.2.2.2.2.2.1 (Option.getD (mfind (Get.mk [CK.int IntKind.i64, CK.int IntKind.i64, CK.int IntKind.i64, CK.int IntKind.i64, CK.int IntKind.i64, CK.int IntKind.i64, CK.int IntKind.i64, CK.int IntKind.i64, CK.int IntKind.i64, CK.any] (encPF pStd s.2.2.2.2.2.1)) (AV.int IntKind.i64 (numOf (encF rItem s.1.2.1 ((0 : Nat) + Int.toNat s.1.2.2.2) (nat_lit 4)))) (List.length s.2.2.2.2.2.1)) (0 : Nat)) (nat_lit 4)) then IntKind.wrap IntKind.i64 (s.2.1.1 + (1 : Int)) else numOf (encPF pStd s.2.2.2.2.2.1 (Option.getD (mfind (Get.mk [CK.int IntKind.i64, CK.int IntKind.i64, CK.int IntKind.i64, CK.int IntKind.i64, CK.int IntKind.i64, CK.int IntKind.i64, CK.int IntKind.i64, CK.int IntKind.i64, CK.int IntKind.i64, CK.any] (encPF pStd s.2.2.2.2.2.1)) (AV.int IntKind.i64 (numOf (encF rItem s.1.2.1 ((0 : Nat) + Int.toNat s.1.2.2.2) (nat_lit 4)))) (List.length s.2.2.2.2.2.1)) (0 : Nat)) (nat_lit 4))), AV.int IntKind.i64 (numOf (encPF pStd s.2.2.2.2.2.1 (Option.getD (mfind (Get.mk [CK.int IntKind.i64, CK.int IntKind.i64, CK.int IntKind.i64, CK.int IntKind.i64, CK.int IntKind.i64, CK.int IntKind.i64, CK.int IntKind.i64, CK.int IntKind.i64, CK.int IntKind.i64, CK.any] (encPF pStd s.2.2.2.2.2.1)) (AV.int IntKind.i64 (numOf (encF rItem s.1.2.1 ((0 : Nat) + Int.toNat s.1.2.2.2) (nat_lit 4)))) (List.length s.2.2.2.2.2.1)) (0 : Nat)) (nat_lit 6))), AV.int IntKind.i64 (IntKind.wrap IntKind.i64 (numOf (encF rItem s.1.2.1 ((0 : Nat) + Int.toNat s.1.2.2.2) (nat_lit 6)) - numOf (encPF pStd s.2.2.2.2.2.1 (Option.getD (mfind (Get.mk [CK.int IntKind.i64, CK.int IntKind.i64, CK.int IntKind.i64, CK.int IntKind.i64, CK.int IntKind.i64, CK.int IntKind.i64, CK.int IntKind.i64, CK.int IntKind.i64, CK.int IntKind.i64, CK.any] (encPF pStd s.2.2.2.2.2.1)) (AV.int IntKind.i64 (numOf (encF rItem s.1.2.1 ((0 : Nat) + Int.toNat s.1.2.2.2) (nat_lit 4)))) (List.length s.2.2.2.2.2.1)) (0 : Nat)) (nat_lit 8))))][((0 : Nat) + i) * (4 : Nat) + k]? AV.top) fun i k => Option.getD [AV.int IntKind.i64 (numOf (encF rItem s.1.2.1 ((0 : Nat) + Int.toNat s.1.2.2.2) (0 : Nat))), AV.int IntKind.i64 (if IntKind.wrap IntKind.i64 (s.2.1.1 + (1 : Int)) > numOf (encPF pStd s.2.2.2.2.2.1 (Option.getD (mfind (Get.mk [CK.int IntKind.i64, CK.int IntKind.i64, CK.int IntKind.i64, CK.int IntKind.i64, CK.int IntKind.i64, CK.int IntKind.i64, CK.int IntKind.i64, CK.int IntKind.i64, CK.int IntKind.i64, CK.any] (encPF pStd s.2.2.2.2.2.1)) (AV.int IntKind.i64 (numOf (encF rItem s.1.2.1 ((0 : Nat) + Int.toNat s.1.2.2.2) (nat_lit 4)))) (List.length s.2.2.2.2.2.1)) (0 : Nat)) (nat_lit 4)) then IntKind.wrap IntKind.i64 (s.2.1.1 + (1 : Int)) else numOf (encPF pStd s.2.2.2.2.2.1 (Option.getD (mfind (Get.mk [CK.int IntKind.i64, CK.int IntKind.i64, CK.int IntKind.i64, CK.int IntKind.i64, CK.int IntKind.i64, CK.int IntKind.i64, CK.int IntKind.i64, CK.int IntKind.i64, CK.int IntKind.i64, CK.any] (encPF pStd s.2.2.2.2.2.1)) (AV.int IntKind.i64 (numOf (encF rItem s.1.2.1 ((0 : Nat) + Int.toNat s.1.2.2.2) (nat_lit 4)))) (List.length s.2.2.2.2.2.1)) (0 : Nat)) (nat_lit 4))), AV.int IntKind.i64 (2 : Int), AV.int IntKind.i64 (IntKind.wrap IntKind.i64 ((0 : Int) - IntKind.wrap IntKind.i64 (numOf (encF rItem s.1.2.1 ((0 : Nat) + Int.toNat s.1.2.2.2) (nat_lit 6)) - numOf (encPF pStd s.2.2.2.2.2.1 (Option.getD (mfind (Get.mk [CK.int IntKind.i64, CK.int IntKind.i64, CK.int IntKind.i64, CK.int IntKind.i64, CK.int IntKind.i64, CK.int IntKind.i64, CK.int IntKind.i64, CK.int IntKind.i64, CK.int IntKind.i64, CK.any] (encPF pStd s.2.2.2.2.2.1)) (AV.int IntKind.i64 (numOf (encF rItem s.1.2.1 ((0 : Nat) + Int.toNat s.1.2.2.2) (nat_lit 4)))) (List.length s.2.2.2.2.2.1)) (0 : Nat)) (nat_lit 8)))))][((0 : Nat) + i) * (4 : Nat) + k]? AV.top), decF rItem (List.length s.2.2.2.1 + (1 : Nat)) (appG (List.length s.2.2.2.1) (encF rItem s.2.2.2.1) fun i k => Option.getD [AV.int IntKind.i64 (numOf (encF rItem s.1.2.1 ((0 : Nat) + Int.toNat s.1.2.2.2) (0 : Nat))), AV.int IntKind.i64 (numOf (encF rItem s.1.2.1 ((0 : Nat) + Int.toNat s.1.2.2.2) (nat_lit 1))), AV.int IntKind.i64 (numOf (encF rItem s.1.2.1 ((0 : Nat) + Int.toNat s.1.2.2.2) (nat_lit 2))), AV.int IntKind.i64 (numOf (encF rItem s.1.2.1 ((0 : Nat) + Int.toNat s.1.2.2.2) (nat_lit 3))), AV.int IntKind.i64 (numOf (encF rItem s.1.2.1 ((0 : Nat) + Int.toNat s.1.2.2.2) (nat_lit 4))), AV.int IntKind.i64 (numOf (encF rItem s.1.2.1 ((0 : Nat) + Int.toNat s.1.2.2.2) (nat_lit 5))), AV.int IntKind.i64 (numOf (encF rItem s.1.2.1 ((0 : Nat) + Int.toNat s.1.2.2.2) (nat_lit 6)))][((0 : Nat) + i) * (7 : Nat) + k]? AV.top), decF rInt (List.length s.2.2.2.2.1) (encF rInt s.2.2.2.2.1), decP pStd (List.length s.2.2.2.2.2.1) (Get.f (setRowG (Get.mk [CK.int IntKind.i64, CK.int IntKind.i64, CK.int IntKind.i64, CK.int IntKind.i64, CK.int IntKind.i64, CK.int IntKind.i64, CK.int IntKind.i64, CK.int IntKind.i64, CK.int IntKind.i64, CK.any] (encPF pStd s.2.2.2.2.2.1)) (Option.getD (mfind (Get.mk [CK.int IntKind.i64, CK.int IntKind.i64, CK.int IntKind.i64, CK.int IntKind.i64, CK.int IntKind.i64, CK.int IntKind.i64, CK.int IntKind.i64, CK.int IntKind.i64, CK.int IntKind.i64, CK.any] (encPF pStd s.2.2.2.2.2.1)) (AV.int IntKind.i64 (numOf (encF rItem s.1.2.1 ((0 : Nat) + Int.toNat s.1.2.2.2) (nat_lit 4)))) (List.length s.2.2.2.2.2.1)) (0 : Nat)) [AV.int IntKind.i64 (numOf (encPF pStd s.2.2.2.2.2.1 (Option.getD (mfind (Get.mk [CK.int IntKind.i64, CK.int IntKind.i64, CK.int IntKind.i64, CK.int IntKind.i64, CK.int IntKind.i64, CK.int IntKind.i64, CK.int IntKind.i64, CK.int IntKind.i64, CK.int IntKind.i64, CK.any] (encPF pStd s.2.2.2.2.2.1)) (AV.int IntKind.i64 (numOf (encF rItem s.1.2.1 ((0 : Nat) + Int.toNat s.1.2.2.2) (nat_lit 4)))) (List.length s.2.2.2.2.2.1)) (0 : Nat)) (nat_lit 1))), AV.int IntKind.i64 (numOf (encPF pStd s.2.2.2.2.2.1 (Option.getD (mfind (Get.mk [CK.int IntKind.i64, CK.int IntKind.i64, CK.int IntKind.i64, CK.int IntKind.i64, CK.int IntKind.i64, CK.int IntKind.i64, CK.int IntKind.i64, CK.int IntKind.i64, CK.int IntKind.i64, CK.any] (encPF pStd s.2.2.2.2.2.1)) (AV.int IntKind.i64 (numOf (encF rItem s.1.2.1 ((0 : Nat) + Int.toNat s.1.2.2.2) (nat_lit 4)))) (List.length s.2.2.2.2.2.1)) (0 : Nat)) (nat_lit 2))), AV.int IntKind.i64 (numOf (encPF pStd s.2.2.2.2.2.1 (Option.getD (mfind (Get.mk [CK.int IntKind.i64, CK.int IntKind.i64, CK.int IntKind.i64, CK.int IntKind.i64, CK.int IntKind.i64, CK.int IntKind.i64, CK.int IntKind.i64, CK.int IntKind.i64, CK.int IntKind.i64, CK.any] (encPF pStd s.2.2.2.2.2.1)) (AV.int IntKind.i64 (numOf (encF rItem s.1.2.1 ((0 : Nat) + Int.toNat s.1.2.2.2) (nat_lit 4)))) (List.length s.2.2.2.2.2.1)) (0 : Nat)) (nat_lit 3))), AV.int IntKind.i64 (numOf (encPF pStd s.2.2.2.2.2.1 (Option.getD (mfind (Get.mk [CK.int IntKind.i64, CK.int IntKind.i64, CK.int IntKind.i64, CK.int IntKind.i64, CK.int IntKind.i64, CK.int IntKind.i64, CK.int IntKind.i64, CK.int IntKind.i64, CK.int IntKind.i64, CK.any] (encPF pStd s.2.2.2.2.2.1)) (AV.int IntKind.i64 (numOf (encF rItem s.1.2.1 ((0 : Nat) + Int.toNat s.1.2.2.2) (nat_lit 4)))) (List.length s.2.2.2.2.2.1)) (0 : Nat)) (nat_lit 4))), AV.int IntKind.i64 (numOf (encPF pStd s.2.2.2.2.2.1 (Option.getD (mfind (Get.mk [CK.int IntKind.i64, CK.int IntKind.i64, CK.int IntKind.i64, CK.int IntKind.i64, CK.int IntKind.i64, CK.int IntKind.i64, CK.int IntKind.i64, CK.int IntKind.i64, CK.int IntKind.i64, CK.any] (encPF pStd s.2.2.2.2.2.1)) (AV.int IntKind.i64 (numOf (encF rItem s.1.2.1 ((0 : Nat) + Int.toNat s.1.2.2.2) (nat_lit 4)))) (List.length s.2.2.2.2.2.1)) (0 : Nat)) (nat_lit 5))), AV.int IntKind.i64 (numOf (encPF pStd s.2.2.2.2.2.1 (Option.getD (mfind (Get.mk [CK.int IntKind.i64, CK.int IntKind.i64, CK.int IntKind.i64, CK.int IntKind.i64, CK.int IntKind.i64, CK.int IntKind.i64, CK.int IntKind.i64, CK.int IntKind.i64, CK.int IntKind.i64, CK.any] (encPF pStd s.2.2.2.2.2.1)) (AV.int IntKind.i64 (numOf (encF rItem s.1.2.1 ((0 : Nat) + Int.toNat s.1.2.2.2) (nat_lit 4)))) (List.length s.2.2.2.2.2.1)) (0 : Nat)) (nat_lit 6))), AV.int IntKind.i64 (numOf (encPF pStd s.2.2.2.2.2.1 (Option.getD (mfind (Get.mk [CK.int IntKind.i64, CK.int IntKind.i64, CK.int IntKind.i64, CK.int IntKind.i64, CK.int IntKind.i64, CK.int IntKind.i64, CK.int IntKind.i64, CK.int IntKind.i64, CK.int IntKind.i64, CK.any] (encPF pStd s.2.2.2.2.2.1)) (AV.int IntKind.i64 (numOf (encF rItem s.1.2.1 ((0 : Nat) + Int.toNat s.1.2.2.2) (nat_lit 4)))) (List.length s.2.2.2.2.2.1)) (0 : Nat)) (nat_lit 7))), AV.int IntKind.i64 (numOf (encF rItem s.1.2.1 ((0 : Nat) + Int.toNat s.1.2.2.2) (nat_lit 6))), AV.osl (nat_lit 6) (0 : Nat) (encPL s.2.2.2.2.2.1 (Option.getD (mfind (Get.mk [CK.int IntKind.i64, CK.int IntKind.i64, CK.int IntKind.i64, CK.int IntKind.i64, CK.int IntKind.i64, CK.int IntKind.i64, CK.int IntKind.i64, CK.int IntKind.i64, CK.int IntKind.i64, CK.any] (encPF pStd s.2.2.2.2.2.1)) (AV.int IntKind.i64 (numOf (encF rItem s.1.2.1 ((0 : Nat) + Int.toNat s.1.2.2.2) (nat_lit 4)))) (List.length s.2.2.2.2.2.1)) (0 : Nat)) + (1 : Nat))])) (setAt (encPL s.2.2.2.2.2.1) (Option.getD (mfind (Get.mk [CK.int IntKind.i64, CK.int IntKind.i64, CK.int IntKind.i64, CK.int IntKind.i64, CK.int IntKind.i64, CK.int IntKind.i64, CK.int IntKind.i64, CK.int IntKind.i64, CK.int IntKind.i64, CK.any] (encPF pStd s.2.2.2.2.2.1)) (AV.int IntKind.i64 (numOf (encF rItem s.1.2.1 ((0 : Nat) + Int.toNat s.1.2.2.2) (nat_lit 4)))) (List.length s.2.2.2.2.2.1)) (0 : Nat)) (encPL s.2.2.2.2.2.1 (Option.getD (mfind (Get.mk [CK.int IntKind.i64, CK.int IntKind.i64, CK.int IntKind.i64, CK.int IntKind.i64, CK.int IntKind.i64, CK.int IntKind.i64, CK.int IntKind.i64, CK.int IntKind.i64, CK.int IntKind.i64, CK.any] (encPF pStd s.2.2.2.2.2.1)) (AV.int IntKind.i64 (numOf (encF rItem s.1.2.1 ((0 : Nat) + Int.toNat s.1.2.2.2) (nat_lit 4)))) (List.length s.2.2.2.2.2.1)) (0 : Nat)) + (1 : Nat))) (HG.f (HG.set (HG.mk [CK.int IntKind.i64, CK.int IntKind.i64] (encPH pStd s.2.2.2.2.2.1)) (Option.getD (mfind (Get.mk [CK.int IntKind.i64, CK.int IntKind.i64, CK.int IntKind.i64, CK.int IntKind.i64, CK.int IntKind.i64, CK.int IntKind.i64, CK.int IntKind.i64, CK.int IntKind.i64, CK.int IntKind.i64, CK.any] (encPF pStd s.2.2.2.2.2.1)) (AV.int IntKind.i64 (numOf (encF rItem s.1.2.1 ((0 : Nat) + Int.toNat s.1.2.2.2) (nat_lit 4)))) (List.length s.2.2.2.2.2.1)) (0 : Nat)) (Get.mk [CK.int IntKind.i64, CK.int IntKind.i64] (appG (encPL s.2.2.2.2.2.1 (Option.getD (mfind (Get.mk [CK.int IntKind.i64, CK.int IntKind.i64, CK.int IntKind.i64, CK.int IntKind.i64, CK.int IntKind.i64, CK.int IntKind.i64, CK.int IntKind.i64, CK.int IntKind.i64, CK.int IntKind.i64, CK.any] (encPF pStd s.2.2.2.2.2.1)) (AV.int IntKind.i64 (numOf (encF rItem s.1.2.1 ((0 : Nat) + Int.toNat s.1.2.2.2) (nat_lit 4)))) (List.length s.2.2.2.2.2.1)) (0 : Nat))) (encPH pStd s.2.2.2.2.2.1 (Option.getD (mfind (Get.mk [CK.int IntKind.i64, CK.int IntKind.i64, CK.int IntKind.i64, CK.int IntKind.i64, CK.int IntKind.i64, CK.int IntKind.i64, CK.int IntKind.i64, CK.int IntKind.i64, CK.int IntKind.i64, CK.any] (encPF pStd s.2.2.2.2.2.1)) (AV.int IntKind.i64 (numOf (encF rItem s.1.2.1 ((0 : Nat) + Int.toNat s.1.2.2.2) (nat_lit 4)))) (List.length s.2.2.2.2.2.1)) (0 : Nat))) fun i k => Option.getD [AV.int IntKind.i64 (numOf (encF rItem s.1.2.1 ((0 : Nat) + Int.toNat s.1.2.2.2) (nat_lit 1))), AV.int IntKind.i64 (numOf (encF rItem s.1.2.1 ((0 : Nat) + Int.toNat s.1.2.2.2) (nat_lit 6)))][((0 : Nat) + i) * (2 : Nat) + k]? AV.top)))), decF rPII (List.length s.2.2.2.2.2.2.1) (encF rPII s.2.2.2.2.2.2.1), decF rPII (List.length s.2.2.2.2.2.2.2.1) (encF rPII s.2.2.2.2.2.2.2.1), PUnit.unit)))) (
            .chk (decide ((List.length s.2.2.2.2.1 + (1 : Nat)) * (8 : Nat) ≤ (140737488355328 : Nat) ∧ List.length s.2.2.2.2.1 + (1 : Nat) ≤ nat_lit 9223372036854775807)) <|
            .ret (Sum.inl ((s.1.1, decF rItem (List.length s.1.2.1) fun i => encF rItem s.1.2.1 ((0 : Nat) + i), s.1.2.2.1, IntKind.wrap IntKind.i64 (s.1.2.2.2 + (1 : Int))), (s.2.1.1, s.2.1.2.1, s.2.1.2.2.1, List.length s.2.2.2.2.1 + (1 : Nat)), decF rPost (List.length s.2.2.1) (encF rPost s.2.2.1), decF rItem (List.length s.2.2.2.1) (encF rItem s.2.2.2.1), decF rInt (List.length s.2.2.2.2.1 + (1 : Nat)) (appG (List.length s.2.2.2.2.1) (encF rInt s.2.2.2.2.1) fun i k => Option.getD [AV.int IntKind.i64 (numOf (encF rItem s.1.2.1 ((0 : Nat) + Int.toNat s.1.2.2.2) (0 : Nat)))][((0 : Nat) + i) * (1 : Nat) + k]? AV.top), decP pStd (List.length s.2.2.2.2.2.1) (encPF pStd s.2.2.2.2.2.1) (encPL s.2.2.2.2.2.1) (encPH pStd s.2.2.2.2.2.1), decF rPII (List.length s.2.2.2.2.2.2.1) (encF rPII s.2.2.2.2.2.2.1), decF rPII (List.length s.2.2.2.2.2.2.2.1) (encF rPII s.2.2.2.2.2.2.2.1), PUnit.unit)))) (
          .br (numOf (encF rItem s.1.2.1 ((0 : Nat) + Int.toNat s.1.2.2.2) (nat_lit 2)) == (3 : Int)) (
            .br (decide ((if IntKind.wrap IntKind.i64 (s.2.1.1 + (1 : Int)) > numOf (encF rItem s.1.2.1 ((0 : Nat) + Int.toNat s.1.2.2.2) (nat_lit 3)) then IntKind.wrap IntKind.i64 (s.2.1.1 + (1 : Int)) else numOf (encF rItem s.1.2.1 ((0 : Nat) + Int.toNat s.1.2.2.2) (nat_lit 3))) > (728 : Int))) (
              .chk (decide ((List.length s.2.2.2.2.1 + (1 : Nat)) * (8 : Nat) ≤ (140737488355328 : Nat) ∧ List.length s.2.2.2.2.1 + (1 : Nat) ≤ nat_lit 9223372036854775807)) <|
              .ret (Sum.inl ((s.1.1, decF rItem (List.length s.1.2.1) fun i => encF rItem s.1.2.1 ((0 : Nat) + i), s.1.2.2.1, IntKind.wrap IntKind.i64 (s.1.2.2.2 + (1 : Int))), (s.2.1.1, s.2.1.2.1, s.2.1.2.2.1, List.length s.2.2.2.2.1 + (1 : Nat)), decF rPost (List.length s.2.2.1) (encF rPost s.2.2.1), decF rItem (List.length s.2.2.2.1) (encF rItem s.2.2.2.1), decF rInt (List.length s.2.2.2.2.1 + (1 : Nat)) (appG (List.length s.2.2.2.2.1) (encF rInt s.2.2.2.2.1) fun i k => Option.getD [AV.int IntKind.i64 (numOf (encF rItem s.1.2.1 ((0 : Nat) + Int.toNat s.1.2.2.2) (0 : Nat)))][((0 : Nat) + i) * (1 : Nat) + k]? AV.top), decP pStd (List.length s.2.2.2.2.2.1) (encPF pStd s.2.2.2.2.2.1) (encPL s.2.2.2.2.2.1) (encPH pStd s.2.2.2.2.2.1), decF rPII (List.length s.2.2.2.2.2.2.1) (encF rPII s.2.2.2.2.2.2.1), decF rPII (List.length s.2.2.2.2.2.2.2.1) (encF rPII s.2.2.2.2.2.2.2.1), PUnit.unit))) (
              .chk (decide ((List.length s.2.2.1 + (1 : Nat)) * (32 : Nat) ≤ (140737488355328 : Nat) ∧ List.length s.2.2.1 + (1 : Nat) ≤ nat_lit 9223372036854775807)) <|
              .chk (decide ((List.length s.2.2.1 + (1 : Nat) + (1 : Nat)) * (32 : Nat) ≤ (140737488355328 : Nat) ∧ List.length s.2.2.1 + (1 : Nat) + (1 : Nat) ≤ nat_lit 9223372036854775807)) <|
              .chk (decide ((List.length s.2.2.2.1 + (1 : Nat)) * (56 : Nat) ≤ (140737488355328 : Nat) ∧ List.length s.2.2.2.1 + (1 : Nat) ≤ nat_lit 9223372036854775807)) <|
              .ret (Sum.inl ((s.1.1, decF rItem (List.length s.1.2.1) fun i => encF rItem s.1.2.1 ((0 : Nat) + i), s.1.2.2.1, IntKind.wrap IntKind.i64 (s.1.2.2.2 + (1 : Int))), (s.2.1.1, List.length s.2.2.1 + (1 : Nat) + (1 : Nat), List.length s.2.2.2.1 + (1 : Nat), s.2.1.2.2.2), decF rPost (List.length s.2.2.1 + (1 : Nat) + (1 : Nat)) (appG (List.length s.2.2.1 + (1 : Nat)) (appG (List.length s.2.2.1) (encF rPost s.2.2.1) fun i k => Option.getD [AV.int IntKind.i64 (numOf (encF rItem s.1.2.1 ((0 : Nat) + Int.toNat s.1.2.2.2) (0 : Nat))), AV.int IntKind.i64 (if IntKind.wrap IntKind.i64 (s.2.1.1 + (1 : Int)) > numOf (encF rItem s.1.2.1 ((0 : Nat) + Int.toNat s.1.2.2.2) (nat_lit 3)) then IntKind.wrap IntKind.i64 (s.2.1.1 + (1 : Int)) else numOf (encF rItem s.1.2.1 ((0 : Nat) + Int.toNat s.1.2.2.2) (nat_lit 3))), AV.int IntKind.i64 (1 : Int), AV.int IntKind.i64 (numOf (encF rItem s.1.2.1 ((0 : Nat) + Int.toNat s.1.2.2.2) (nat_lit 6)))][((0 : Nat) + i) * (4 : Nat) + k]? AV.top) fun i k => Option.getD [AV.int IntKind.i64 (numOf (encF rItem s.1.2.1 ((0 : Nat) + Int.toNat s.1.2.2.2) (0 : Nat))), AV.int IntKind.i64 (if IntKind.wrap IntKind.i64 (s.2.1.1 + (1 : Int)) > numOf (encF rItem s.1.2.1 ((0 : Nat) + Int.toNat s.1.2.2.2) (nat_lit 3)) then IntKind.wrap IntKind.i64 (s.2.1.1 + (1 : Int)) else numOf (encF rItem s.1.2.1 ((0 : Nat) + Int.toNat s.1.2.2.2) (nat_lit 3))), AV.int IntKind.i64 (numOf (encF rItem s.1.2.1 ((0 : Nat) + Int.toNat s.1.2.2.2) (nat_lit 5))), AV.int IntKind.i64 (IntKind.wrap IntKind.i64 ((0 : Int) - numOf (encF rItem s.1.2.1 ((0 : Nat) + Int.toNat s.1.2.2.2) (nat_lit 6))))][((0 : Nat) + i) * (4 : Nat) + k]? AV.top), decF rItem (List.length s.2.2.2.1 + (1 : Nat)) (appG (List.length s.2.2.2.1) (encF rItem s.2.2.2.1) fun i k => Option.getD [AV.int IntKind.i64 (numOf (encF rItem s.1.2.1 ((0 : Nat) + Int.toNat s.1.2.2.2) (0 : Nat))), AV.int IntKind.i64 (numOf (encF rItem s.1.2.1 ((0 : Nat) + Int.toNat s.1.2.2.2) (nat_lit 1))), AV.int IntKind.i64 (numOf (encF rItem s.1.2.1 ((0 : Nat) + Int.toNat s.1.2.2.2) (nat_lit 2))), AV.int IntKind.i64 (numOf (encF rItem s.1.2.1 ((0 : Nat) + Int.toNat s.1.2.2.2) (nat_lit 3))), AV.int IntKind.i64 (numOf (encF rItem s.1.2.1 ((0 : Nat) + Int.toNat s.1.2.2.2) (nat_lit 4))), AV.int IntKind.i64 (numOf (encF rItem s.1.2.1 ((0 : Nat) + Int.toNat s.1.2.2.2) (nat_lit 5))), AV.int IntKind.i64 (numOf (encF rItem s.1.2.1 ((0 : Nat) + Int.toNat s.1.2.2.2) (nat_lit 6)))][((0 : Nat) + i) * (7 : Nat) + k]? AV.top), decF rInt (List.length s.2.2.2.2.1) (encF rInt s.2.2.2.2.1), decP pStd (List.length s.2.2.2.2.2.1) (encPF pStd s.2.2.2.2.2.1) (encPL s.2.2.2.2.2.1) (encPH pStd s.2.2.2.2.2.1), decF rPII (mputN (mfind (Get.mk [CK.int IntKind.i64, CK.int IntKind.i64] (encF rPII s.2.2.2.2.2.2.1)) (AV.int IntKind.i64 (numOf (encF rItem s.1.2.1 ((0 : Nat) + Int.toNat s.1.2.2.2) (nat_lit 5)))) (List.length s.2.2.2.2.2.2.1)) (List.length s.2.2.2.2.2.2.1)) (Get.f (mputG (Get.mk [CK.int IntKind.i64, CK.int IntKind.i64] (encF rPII s.2.2.2.2.2.2.1)) (mputP (mfind (Get.mk [CK.int IntKind.i64, CK.int IntKind.i64] (encF rPII s.2.2.2.2.2.2.1)) (AV.int IntKind.i64 (numOf (encF rItem s.1.2.1 ((0 : Nat) + Int.toNat s.1.2.2.2) (nat_lit 5)))) (List.length s.2.2.2.2.2.2.1)) (List.length s.2.2.2.2.2.2.1)) [AV.int IntKind.i64 (numOf (encF rItem s.1.2.1 ((0 : Nat) + Int.toNat s.1.2.2.2) (nat_lit 5))), AV.int IntKind.i64 (IntKind.wrap IntKind.i64 (numOf (mraw (Get.mk [CK.int IntKind.i64, CK.int IntKind.i64] (encF rPII s.2.2.2.2.2.2.1)) (mfind (Get.mk [CK.int IntKind.i64, CK.int IntKind.i64] (encF rPII s.2.2.2.2.2.2.1)) (AV.int IntKind.i64 (numOf (encF rItem s.1.2.1 ((0 : Nat) + Int.toNat s.1.2.2.2) (nat_lit 5)))) (List.length s.2.2.2.2.2.2.1)) (AV.int IntKind.i64 (0 : Int)) (1 : Nat)) + numOf (encF rItem s.1.2.1 ((0 : Nat) + Int.toNat s.1.2.2.2) (nat_lit 6))))])), decF rPII (List.length s.2.2.2.2.2.2.2.1) (encF rPII s.2.2.2.2.2.2.2.1), PUnit.unit)))) (
            .br (numOf (encF rItem s.1.2.1 ((0 : Nat) + Int.toNat s.1.2.2.2) (nat_lit 2)) == (4 : Int)) (
              .br (decide (numOf (mraw (Get.mk [CK.int IntKind.i64, CK.int IntKind.i64] (encF rPII s.2.2.2.2.2.2.1)) (mfind (Get.mk [CK.int IntKind.i64, CK.int IntKind.i64] (encF rPII s.2.2.2.2.2.2.1)) (AV.int IntKind.i64 (numOf (encF rItem s.1.2.1 ((0 : Nat) + Int.toNat s.1.2.2.2) (nat_lit 5)))) (List.length s.2.2.2.2.2.2.1)) (AV.int IntKind.i64 (0 : Int)) (1 : Nat)) < numOf (encF rItem s.1.2.1 ((0 : Nat) + Int.toNat s.1.2.2.2) (nat_lit 6)))) (
                .chk (decide ((List.length s.2.2.2.2.1 + (1 : Nat)) * (8 : Nat) ≤ (140737488355328 : Nat) ∧ List.length s.2.2.2.2.1 + (1 : Nat) ≤ nat_lit 9223372036854775807)) <|
                .ret (Sum.inl ((s.1.1, decF rItem (List.length s.1.2.1) fun i => encF rItem s.1.2.1 ((0 : Nat) + i), s.1.2.2.1, IntKind.wrap IntKind.i64 (s.1.2.2.2 + (1 : Int))), (s.2.1.1, s.2.1.2.1, s.2.1.2.2.1, List.length s.2.2.2.2.1 + (1 : Nat)), decF rPost (List.length s.2.2.1) (encF rPost s.2.2.1), decF rItem (List.length s.2.2.2.1) (encF rItem s.2.2.2.1), decF rInt (List.length s.2.2.2.2.1 + (1 : Nat)) (appG (List.length s.2.2.2.2.1) (encF rInt s.2.2.2.2.1) fun i k => Option.getD [AV.int IntKind.i64 (numOf (encF rItem s.1.2.1 ((0 : Nat) + Int.toNat s.1.2.2.2) (0 : Nat)))][((0 : Nat) + i) * (1 : Nat) + k]? AV.top), decP pStd (List.length s.2.2.2.2.2.1) (encPF pStd s.2.2.2.2.2.1) (encPL s.2.2.2.2.2.1) (encPH pStd s.2.2.2.2.2.1), decF rPII (List.length s.2.2.2.2.2.2.1) (encF rPII s.2.2.2.2.2.2.1), decF rPII (List.length s.2.2.2.2.2.2.2.1) (encF rPII s.2.2.2.2.2.2.2.1), PUnit.unit))) (
                .br (decide ((if IntKind.wrap IntKind.i64 (s.2.1.1 + (1 : Int)) > numOf (encF rItem s.1.2.1 ((0 : Nat) + Int.toNat s.1.2.2.2) (nat_lit 3)) then IntKind.wrap IntKind.i64 (s.2.1.1 + (1 : Int)) else numOf (encF rItem s.1.2.1 ((0 : Nat) + Int.toNat s.1.2.2.2) (nat_lit 3))) > (728 : Int))) (
                  .chk (decide ((List.length s.2.2.2.2.1 + (1 : Nat)) * (8 : Nat) ≤ (140737488355328 : Nat) ∧ List.length s.2.2.2.2.1 + (1 : Nat) ≤ nat_lit 9223372036854775807)) <|
                  .ret (Sum.inl ((s.1.1, decF rItem (List.length s.1.2.1) fun i => encF rItem s.1.2.1 ((0 : Nat) + i), s.1.2.2.1, IntKind.wrap IntKind.i64 (s.1.2.2.2 + (1 : Int))), (s.2.1.1, s.2.1.2.1, s.2.1.2.2.1, List.length s.2.2.2.2.1 + (1 : Nat)), decF rPost (List.length s.2.2.1) (encF rPost s.2.2.1), decF rItem (List.length s.2.2.2.1) (encF rItem s.2.2.2.1), decF rInt (List.length s.2.2.2.2.1 + (1 : Nat)) (appG (List.length s.2.2.2.2.1) (encF rInt s.2.2.2.2.1) fun i k => Option.getD [AV.int IntKind.i64 (numOf (encF rItem s.1.2.1 ((0 : Nat) + Int.toNat s.1.2.2.2) (0 : Nat)))][((0 : Nat) + i) * (1 : Nat) + k]? AV.top), decP pStd (List.length s.2.2.2.2.2.1) (encPF pStd s.2.2.2.2.2.1) (encPL s.2.2.2.2.2.1) (encPH pStd s.2.2.2.2.2.1), decF rPII (List.length s.2.2.2.2.2.2.1) (encF rPII s.2.2.2.2.2.2.1), decF rPII (List.length s.2.2.2.2.2.2.2.1) (encF rPII s.2.2.2.2.2.2.2.1), PUnit.unit))) (
                  .chk (decide ((List.length s.2.2.1 + (1 : Nat)) * (32 : Nat) ≤ (140737488355328 : Nat) ∧ List.length s.2.2.1 + (1 : Nat) ≤ nat_lit 9223372036854775807)) <|
                  .chk (decide ((List.length s.2.2.1 + (1 : Nat) + (1 : Nat)) * (32 : Nat) ≤ (140737488355328 : Nat) ∧ List.length s.2.2.1 + (1 : Nat) + (1 : Nat) ≤ nat_lit 9223372036854775807)) <|
                  .chk (decide ((List.length s.2.2.2.1 + (1 : Nat)) * (56 : Nat) ≤ (140737488355328 : Nat) ∧ List.length s.2.2.2.1 + (1 : Nat) ≤ nat_lit 9223372036854775807)) <|
                  .ret (Sum.inl ((s.1.1, decF rItem (List.length s.1.2.1) fun i => encF rItem s.1.2.1 ((0 : Nat) + i), s.1.2.2.1, IntKind.wrap IntKind.i64 (s.1.2.2.2 + (1 : Int))), (s.2.1.1, List.length s.2.2.1 + (1 : Nat) + (1 : Nat), List.length s.2.2.2.1 + (1 : Nat), s.2.1.2.2.2), decF rPost (List.length s.2.2.1 + (1 : Nat) + (1 : Nat)) (appG (List.length s.2.2.1 + (1 : Nat)) (appG (List.length s.2.2.1) (encF rPost s.2.2.1) fun i k => Option.getD [AV.int IntKind.i64 (numOf (encF rItem s.1.2.1 ((0 : Nat) + Int.toNat s.1.2.2.2) (0 : Nat))), AV.int IntKind.i64 (if IntKind.wrap IntKind.i64 (s.2.1.1 + (1 : Int)) > numOf (encF rItem s.1.2.1 ((0 : Nat) + Int.toNat s.1.2.2.2) (nat_lit 3)) then IntKind.wrap IntKind.i64 (s.2.1.1 + (1 : Int)) else numOf (encF rItem s.1.2.1 ((0 : Nat) + Int.toNat s.1.2.2.2) (nat_lit 3))), AV.int IntKind.i64 (numOf (encF rItem s.1.2.1 ((0 : Nat) + Int.toNat s.1.2.2.2) (nat_lit 5))), AV.int IntKind.i64 (numOf (encF rItem s.1.2.1 ((0 : Nat) + Int.toNat s.1.2.2.2) (nat_lit 6)))][((0 : Nat) + i) * (4 : Nat) + k]? AV.top) fun i k => Option.getD [AV.int IntKind.i64 (numOf (encF rItem s.1.2.1 ((0 : Nat) + Int.toNat s.1.2.2.2) (0 : Nat))), AV.int IntKind.i64 (if IntKind.wrap IntKind.i64 (s.2.1.1 + (1 : Int)) > numOf (encF rItem s.1.2.1 ((0 : Nat) + Int.toNat s.1.2.2.2) (nat_lit 3)) then IntKind.wrap IntKind.i64 (s.2.1.1 + (1 : Int)) else numOf (encF rItem s.1.2.1 ((0 : Nat) + Int.toNat s.1.2.2.2) (nat_lit 3))), AV.int IntKind.i64 (1 : Int), AV.int IntKind.i64 (IntKind.wrap IntKind.i64 ((0 : Int) - numOf (encF rItem s.1.2.1 ((0 : Nat) + Int.toNat s.1.2.2.2) (nat_lit 6))))][((0 : Nat) + i) * (4 : Nat) + k]? AV.top), decF rItem (List.length s.2.2.2.1 + (1 : Nat)) (appG (List.length s.2.2.2.1) (encF rItem s.2.2.2.1) fun i k => Option.getD [AV.int IntKind.i64 (numOf (encF rItem s.1.2.1 ((0 : Nat) + Int.toNat s.1.2.2.2) (0 : Nat))), AV.int IntKind.i64 (numOf (encF rItem s.1.2.1 ((0 : Nat) + Int.toNat s.1.2.2.2) (nat_lit 1))), AV.int IntKind.i64 (numOf (encF rItem s.1.2.1 ((0 : Nat) + Int.toNat s.1.2.2.2) (nat_lit 2))), AV.int IntKind.i64 (numOf (encF rItem s.1.2.1 ((0 : Nat) + Int.toNat s.1.2.2.2) (nat_lit 3))), AV.int IntKind.i64 (numOf (encF rItem s.1.2.1 ((0 : Nat) + Int.toNat s.1.2.2.2) (nat_lit 4))), AV.int IntKind.i64 (numOf (encF rItem s.1.2.1 ((0 : Nat) + Int.toNat s.1.2.2.2) (nat_lit 5))), AV.int IntKind.i64 (numOf (encF rItem s.1.2.1 ((0 : Nat) + Int.toNat s.1.2.2.2) (nat_lit 6)))][((0 : Nat) + i) * (7 : Nat) + k]? AV.top), decF rInt (List.length s.2.2.2.2.1) (encF rInt s.2.2.2.2.1), decP pStd (List.length s.2.2.2.2.2.1) (encPF pStd s.2.2.2.2.2.1) (encPL s.2.2.2.2.2.1) (encPH pStd s.2.2.2.2.2.1), decF rPII (mputN (mfind (Get.mk [CK.int IntKind.i64, CK.int IntKind.i64] (encF rPII s.2.2.2.2.2.2.1)) (AV.int IntKind.i64 (numOf (encF rItem s.1.2.1 ((0 : Nat) + Int.toNat s.1.2.2.2) (nat_lit 5)))) (List.length s.2.2.2.2.2.2.1)) (List.length s.2.2.2.2.2.2.1)) (Get.f (mputG (Get.mk [CK.int IntKind.i64, CK.int IntKind.i64] (encF rPII s.2.2.2.2.2.2.1)) (mputP (mfind (Get.mk [CK.int IntKind.i64, CK.int IntKind.i64] (encF rPII s.2.2.2.2.2.2.1)) (AV.int IntKind.i64 (numOf (encF rItem s.1.2.1 ((0 : Nat) + Int.toNat s.1.2.2.2) (nat_lit 5)))) (List.length s.2.2.2.2.2.2.1)) (List.length s.2.2.2.2.2.2.1)) [AV.int IntKind.i64 (numOf (encF rItem s.1.2.1 ((0 : Nat) + Int.toNat s.1.2.2.2) (nat_lit 5))), AV.int IntKind.i64 (IntKind.wrap IntKind.i64 (numOf (mraw (Get.mk [CK.int IntKind.i64, CK.int IntKind.i64] (encF rPII s.2.2.2.2.2.2.1)) (mfind (Get.mk [CK.int IntKind.i64, CK.int IntKind.i64] (encF rPII s.2.2.2.2.2.2.1)) (AV.int IntKind.i64 (numOf (encF rItem s.1.2.1 ((0 : Nat) + Int.toNat s.1.2.2.2) (nat_lit 5)))) (List.length s.2.2.2.2.2.2.1)) (AV.int IntKind.i64 (0 : Int)) (1 : Nat)) - numOf (encF rItem s.1.2.1 ((0 : Nat) + Int.toNat s.1.2.2.2) (nat_lit 6))))])), decF rPII (List.length s.2.2.2.2.2.2.2.1) (encF rPII s.2.2.2.2.2.2.2.1), PUnit.unit))))) (
              .br (numOf (encF rItem s.1.2.1 ((0 : Nat) + Int.toNat s.1.2.2.2) (nat_lit 2)) == (5 : Int)) (
                .br (decide ((if IntKind.wrap IntKind.i64 (s.2.1.1 + (1 : Int)) > numOf (encF rItem s.1.2.1 ((0 : Nat) + Int.toNat s.1.2.2.2) (nat_lit 3)) then IntKind.wrap IntKind.i64 (s.2.1.1 + (1 : Int)) else numOf (encF rItem s.1.2.1 ((0 : Nat) + Int.toNat s.1.2.2.2) (nat_lit 3))) > (728 : Int))) (
                  .chk (decide ((List.length s.2.2.2.2.1 + (1 : Nat)) * (8 : Nat) ≤ (140737488355328 : Nat) ∧ List.length s.2.2.2.2.1 + (1 : Nat) ≤ nat_lit 9223372036854775807)) <|
                  .ret (Sum.inl ((s.1.1, decF rItem (List.length s.1.2.1) fun i => encF rItem s.1.2.1 ((0 : Nat) + i), s.1.2.2.1, IntKind.wrap IntKind.i64 (s.1.2.2.2 + (1 : Int))), (s.2.1.1, s.2.1.2.1, s.2.1.2.2.1, List.length s.2.2.2.2.1 + (1 : Nat)), decF rPost (List.length s.2.2.1) (encF rPost s.2.2.1), decF rItem (List.length s.2.2.2.1) (encF rItem s.2.2.2.1), decF rInt (List.length s.2.2.2.2.1 + (1 : Nat)) (appG (List.length s.2.2.2.2.1) (encF rInt s.2.2.2.2.1) fun i k => Option.getD [AV.int IntKind.i64 (numOf (encF rItem s.1.2.1 ((0 : Nat) + Int.toNat s.1.2.2.2) (0 : Nat)))][((0 : Nat) + i) * (1 : Nat) + k]? AV.top), decP pStd (List.length s.2.2.2.2.2.1) (encPF pStd s.2.2.2.2.2.1) (encPL s.2.2.2.2.2.1) (encPH pStd s.2.2.2.2.2.1), decF rPII (List.length s.2.2.2.2.2.2.1) (encF rPII s.2.2.2.2.2.2.1), decF rPII (List.length s.2.2.2.2.2.2.2.1) (encF rPII s.2.2.2.2.2.2.2.1), PUnit.unit))) (
                  .chk (decide ((List.length s.2.2.1 + (1 : Nat)) * (32 : Nat) ≤ (140737488355328 : Nat) ∧ List.length s.2.2.1 + (1 : Nat) ≤ nat_lit 9223372036854775807)) <|
                  .chk (decide ((List.length s.2.2.1 + (1 : Nat) + (1 : Nat)) * (32 : Nat) ≤ (140737488355328 : Nat) ∧ List.length s.2.2.1 + (1 : Nat) + (1 : Nat) ≤ nat_lit 9223372036854775807)) <|
                  .chk (decide ((List.length s.2.2.2.1 + (1 : Nat)) * (56 : Nat) ≤ (140737488355328 : Nat) ∧ List.length s.2.2.2.1 + (1 : Nat) ≤ nat_lit 9223372036854775807)) <|
                  .ret (Sum.inl ((s.1.1, decF rItem (List.length s.1.2.1) fun i => encF rItem s.1.2.1 ((0 : Nat) + i), s.1.2.2.1, IntKind.wrap IntKind.i64 (s.1.2.2.2 + (1 : Int))), (s.2.1.1, List.length s.2.2.1 + (1 : Nat) + (1 : Nat), List.length s.2.2.2.1 + (1 : Nat), s.2.1.2.2.2), decF rPost (List.length s.2.2.1 + (1 : Nat) + (1 : Nat)) (appG (List.length s.2.2.1 + (1 : Nat)) (appG (List.length s.2.2.1) (encF rPost s.2.2.1) fun i k => Option.getD [AV.int IntKind.i64 (numOf (encF rItem s.1.2.1 ((0 : Nat) + Int.toNat s.1.2.2.2) (0 : Nat))), AV.int IntKind.i64 (if IntKind.wrap IntKind.i64 (s.2.1.1 + (1 : Int)) > numOf (encF rItem s.1.2.1 ((0 : Nat) + Int.toNat s.1.2.2.2) (nat_lit 3)) then IntKind.wrap IntKind.i64 (s.2.1.1 + (1 : Int)) else numOf (encF rItem s.1.2.1 ((0 : Nat) + Int.toNat s.1.2.2.2) (nat_lit 3))), AV.int IntKind.i64 (1 : Int), AV.int IntKind.i64 (numOf (encF rItem s.1.2.1 ((0 : Nat) + Int.toNat s.1.2.2.2) (nat_lit 6)))][((0 : Nat) + i) * (4 : Nat) + k]? AV.top) fun i k => Option.getD [AV.int IntKind.i64 (numOf (encF rItem s.1.2.1 ((0 : Nat) + Int.toNat s.1.2.2.2) (0 : Nat))), AV.int IntKind.i64 (if IntKind.wrap IntKind.i64 (s.2.1.1 + (1 : Int)) > numOf (encF rItem s.1.2.1 ((0 : Nat) + Int.toNat s.1.2.2.2) (nat_lit 3)) then IntKind.wrap IntKind.i64 (s.2.1.1 + (1 : Int)) else numOf (encF rItem s.1.2.1 ((0 : Nat) + Int.toNat s.1.2.2.2) (nat_lit 3))), AV.int IntKind.i64 (3 : Int), AV.int IntKind.i64 (IntKind.wrap IntKind.i64 ((0 : Int) - numOf (encF rItem s.1.2.1 ((0 : Nat) + Int.toNat s.1.2.2.2) (nat_lit 6))))][((0 : Nat) + i) * (4 : Nat) + k]? AV.top), decF rItem (List.length s.2.2.2.1 + (1 : Nat)) (appG (List.length s.2.2.2.1) (encF rItem s.2.2.2.1) fun i k => Option.getD [AV.int IntKind.i64 (numOf (encF rItem s.1.2.1 ((0 : Nat) + Int.toNat s.1.2.2.2) (0 : Nat))), AV.int IntKind.i64 (numOf (encF rItem s.1.2.1 ((0 : Nat) + Int.toNat s.1.2.2.2) (nat_lit 1))), AV.int IntKind.i64 (numOf (encF rItem s.1.2.1 ((0 : Nat) + Int.toNat s.1.2.2.2) (nat_lit 2))), AV.int IntKind.i64 (numOf (encF rItem s.1.2.1 ((0 : Nat) + Int.toNat s.1.2.2.2) (nat_lit 3))), AV.int IntKind.i64 (numOf (encF rItem s.1.2.1 ((0 : Nat) + Int.toNat s.1.2.2.2) (nat_lit 4))), AV.int IntKind.i64 (numOf (encF rItem s.1.2.1 ((0 : Nat) + Int.toNat s.1.2.2.2) (nat_lit 5))), AV.int IntKind.i64 (numOf (encF rItem s.1.2.1 ((0 : Nat) + Int.toNat s.1.2.2.2) (nat_lit 6)))][((0 : Nat) + i) * (7 : Nat) + k]? AV.top), decF rInt (List.length s.2.2.2.2.1) (encF rInt s.2.2.2.2.1), decP pStd (List.length s.2.2.2.2.2.1) (encPF pStd s.2.2.2.2.2.1) (encPL s.2.2.2.2.2.1) (encPH pStd s.2.2.2.2.2.1), decF rPII (List.length s.2.2.2.2.2.2.1) (encF rPII s.2.2.2.2.2.2.1), decF rPII (mputN (mfind (Get.mk [CK.int IntKind.i64, CK.int IntKind.i64] (encF rPII s.2.2.2.2.2.2.2.1)) (AV.int IntKind.i64 (numOf (encF rItem s.1.2.1 ((0 : Nat) + Int.toNat s.1.2.2.2) (nat_lit 5)))) (List.length s.2.2.2.2.2.2.2.1)) (List.length s.2.2.2.2.2.2.2.1)) (Get.f (mputG (Get.mk [CK.int IntKind.i64, CK.int IntKind.i64] (encF rPII s.2.2.2.2.2.2.2.1)) (mputP (mfind (Get.mk [CK.int IntKind.i64, CK.int IntKind.i64] (encF rPII s.2.2.2.2.2.2.2.1)) (AV.int IntKind.i64 (numOf (encF rItem s.1.2.1 ((0 : Nat) + Int.toNat s.1.2.2.2) (nat_lit 5)))) (List.length s.2.2.2.2.2.2.2.1)) (List.length s.2.2.2.2.2.2.2.1)) [AV.int IntKind.i64 (numOf (encF rItem s.1.2.1 ((0 : Nat) + Int.toNat s.1.2.2.2) (nat_lit 5))), AV.int IntKind.i64 (IntKind.wrap IntKind.i64 (numOf (mraw (Get.mk [CK.int IntKind.i64, CK.int IntKind.i64] (encF rPII s.2.2.2.2.2.2.2.1)) (mfind (Get.mk [CK.int IntKind.i64, CK.int IntKind.i64] (encF rPII s.2.2.2.2.2.2.2.1)) (AV.int IntKind.i64 (numOf (encF rItem s.1.2.1 ((0 : Nat) + Int.toNat s.1.2.2.2) (nat_lit 5)))) (List.length s.2.2.2.2.2.2.2.1)) (AV.int IntKind.i64 (0 : Int)) (1 : Nat)) + numOf (encF rItem s.1.2.1 ((0 : Nat) + Int.toNat s.1.2.2.2) (nat_lit 6))))])), PUnit.unit)))) (
                .br (numOf (encF rItem s.1.2.1 ((0 : Nat) + Int.toNat s.1.2.2.2) (nat_lit 2)) == (6 : Int)) (
                  .br (decide (numOf (mraw (Get.mk [CK.int IntKind.i64, CK.int IntKind.i64] (encF rPII s.2.2.2.2.2.2.2.1)) (mfind (Get.mk [CK.int IntKind.i64, CK.int IntKind.i64] (encF rPII s.2.2.2.2.2.2.2.1)) (AV.int IntKind.i64 (numOf (encF rItem s.1.2.1 ((0 : Nat) + Int.toNat s.1.2.2.2) (nat_lit 5)))) (List.length s.2.2.2.2.2.2.2.1)) (AV.int IntKind.i64 (0 : Int)) (1 : Nat)) < numOf (encF rItem s.1.2.1 ((0 : Nat) + Int.toNat s.1.2.2.2) (nat_lit 6)))) (
                    .chk (decide ((List.length s.2.2.2.2.1 + (1 : Nat)) * (8 : Nat) ≤ (140737488355328 : Nat) ∧ List.length s.2.2.2.2.1 + (1 : Nat) ≤ nat_lit 9223372036854775807)) <|
                    .ret (Sum.inl ((s.1.1, decF rItem (List.length s.1.2.1) fun i => encF rItem s.1.2.1 ((0 : Nat) + i), s.1.2.2.1, IntKind.wrap IntKind.i64 (s.1.2.2.2 + (1 : Int))), (s.2.1.1, s.2.1.2.1, s.2.1.2.2.1, List.length s.2.2.2.2.1 + (1 : Nat)), decF rPost (List.length s.2.2.1) (encF rPost s.2.2.1), decF rItem (List.length s.2.2.2.1) (encF rItem s.2.2.2.1), decF rInt (List.length s.2.2.2.2.1 + (1 : Nat)) (appG (List.length s.2.2.2.2.1) (encF rInt s.2.2.2.2.1) fun i k => Option.getD [AV.int IntKind.i64 (numOf (encF rItem s.1.2.1 ((0 : Nat) + Int.toNat s.1.2.2.2) (0 : Nat)))][((0 : Nat) + i) * (1 : Nat) + k]? AV.top), decP pStd (List.length s.2.2.2.2.2.1) (encPF pStd s.2.2.2.2.2.1) (encPL s.2.2.2.2.2.1) (encPH pStd s.2.2.2.2.2.1), decF rPII (List.length s.2.2.2.2.2.2.1) (encF rPII s.2.2.2.2.2.2.1), decF rPII (List.length s.2.2.2.2.2.2.2.1) (encF rPII s.2.2.2.2.2.2.2.1), PUnit.unit))) (
                    .br (decide ((if IntKind.wrap IntKind.i64 (s.2.1.1 + (1 : Int)) > numOf (encF rItem s.1.2.1 ((0 : Nat) + Int.toNat s.1.2.2.2) (nat_lit 3)) then IntKind.wrap IntKind.i64 (s.2.1.1 + (1 : Int)) else numOf (encF rItem s.1.2.1 ((0 : Nat) + Int.toNat s.1.2.2.2) (nat_lit 3))) > (728 : Int))) (
                      .chk (decide ((List.length s.2.2.2.2.1 + (1 : Nat)) * (8 : Nat) ≤ (140737488355328 : Nat) ∧ List.length s.2.2.2.2.1 + (1 : Nat) ≤ nat_lit 9223372036854775807)) <|
                      .ret (Sum.inl ((s.1.1, decF rItem (List.length s.1.2.1) fun i => encF rItem s.1.2.1 ((0 : Nat) + i), s.1.2.2.1, IntKind.wrap IntKind.i64 (s.1.2.2.2 + (1 : Int))), (s.2.1.1, s.2.1.2.1, s.2.1.2.2.1, List.length s.2.2.2.2.1 + (1 : Nat)), decF rPost (List.length s.2.2.1) (encF rPost s.2.2.1), decF rItem (List.length s.2.2.2.1) (encF rItem s.2.2.2.1), decF rInt (List.length s.2.2.2.2.1 + (1 : Nat)) (appG (List.length s.2.2.2.2.1) (encF rInt s.2.2.2.2.1) fun i k => Option.getD [AV.int IntKind.i64 (numOf (encF rItem s.1.2.1 ((0 : Nat) + Int.toNat s.1.2.2.2) (0 : Nat)))][((0 : Nat) + i) * (1 : Nat) + k]? AV.top), decP pStd (List.length s.2.2.2.2.2.1) (encPF pStd s.2.2.2.2.2.1) (encPL s.2.2.2.2.2.1) (encPH pStd s.2.2.2.2.2.1), decF rPII (List.length s.2.2.2.2.2.2.1) (encF rPII s.2.2.2.2.2.2.1), decF rPII (List.length s.2.2.2.2.2.2.2.1) (encF rPII s.2.2.2.2.2.2.2.1), PUnit.unit))) (
                      .chk (decide ((List.length s.2.2.1 + (1 : Nat)) * (32 : Nat) ≤ (140737488355328 : Nat) ∧ List.length s.2.2.1 + (1 : Nat) ≤ nat_lit 9223372036854775807)) <|
                      .chk (decide ((List.length s.2.2.1 + (1 : Nat) + (1 : Nat)) * (32 : Nat) ≤ (140737488355328 : Nat) ∧ List.length s.2.2.1 + (1 : Nat) + (1 : Nat) ≤ nat_lit 9223372036854775807)) <|
                      .chk (decide ((List.length s.2.2.2.1 + (1 : Nat)) * (56 : Nat) ≤ (140737488355328 : Nat) ∧ List.length s.2.2.2.1 + (1 : Nat) ≤ nat_lit 9223372036854775807)) <|
                      .ret (Sum.inl ((s.1.1, decF rItem (List.length s.1.2.1) fun i => encF rItem s.1.2.1 ((0 : Nat) + i), s.1.2.2.1, IntKind.wrap IntKind.i64 (s.1.2.2.2 + (1 : Int))), (s.2.1.1, List.length s.2.2.1 + (1 : Nat) + (1 : Nat), List.length s.2.2.2.1 + (1 : Nat), s.2.1.2.2.2), decF rPost (List.length s.2.2.1 + (1 : Nat) + (1 : Nat)) (appG (List.length s.2.2.1 + (1 : Nat)) (appG (List.length s.2.2.1) (encF rPost s.2.2.1) fun i k => Option.getD [AV.int IntKind.i64 (numOf (encF rItem s.1.2.1 ((0 : Nat) + Int.toNat s.1.2.2.2) (0 : Nat))), AV.int IntKind.i64 (if IntKind.wrap IntKind.i64 (s.2.1.1 + (1 : Int)) > numOf (encF rItem s.1.2.1 ((0 : Nat) + Int.toNat s.1.2.2.2) (nat_lit 3)) then IntKind.wrap IntKind.i64 (s.2.1.1 + (1 : Int)) else numOf (encF rItem s.1.2.1 ((0 : Nat) + Int.toNat s.1.2.2.2) (nat_lit 3))), AV.int IntKind.i64 (3 : Int), AV.int IntKind.i64 (numOf (encF rItem s.1.2.1 ((0 : Nat) + Int.toNat s.1.2.2.2) (nat_lit 6)))][((0 : Nat) + i) * (4 : Nat) + k]? AV.top) fun i k => Option.getD [AV.int IntKind.i64 (numOf (encF rItem s.1.2.1 ((0 : Nat) + Int.toNat s.1.2.2.2) (0 : Nat))), AV.int IntKind.i64 (if IntKind.wrap IntKind.i64 (s.2.1.1 + (1 : Int)) > numOf (encF rItem s.1.2.1 ((0 : Nat) + Int.toNat s.1.2.2.2) (nat_lit 3)) then IntKind.wrap IntKind.i64 (s.2.1.1 + (1 : Int)) else numOf (encF rItem s.1.2.1 ((0 : Nat) + Int.toNat s.1.2.2.2) (nat_lit 3))), AV.int IntKind.i64 (1 : Int), AV.int IntKind.i64 (IntKind.wrap IntKind.i64 ((0 : Int) - numOf (encF rItem s.1.2.1 ((0 : Nat) + Int.toNat s.1.2.2.2) (nat_lit 6))))][((0 : Nat) + i) * (4 : Nat) + k]? AV.top), decF rItem (List.length s.2.2.2.1 + (1 : Nat)) (appG (List.length s.2.2.2.1) (encF rItem s.2.2.2.1) fun i k => Option.getD [AV.int IntKind.i64 (numOf (encF rItem s.1.2.1 ((0 : Nat) + Int.toNat s.1.2.2.2) (0 : Nat))), AV.int IntKind.i64 (numOf (encF rItem s.1.2.1 ((0 : Nat) + Int.toNat s.1.2.2.2) (nat_lit 1))), AV.int IntKind.i64 (numOf (encF rItem s.1.2.1 ((0 : Nat) + Int.toNat s.1.2.2.2) (nat_lit 2))), AV.int IntKind.i64 (numOf (encF rItem s.1.2.1 ((0 : Nat) + Int.toNat s.1.2.2.2) (nat_lit 3))), AV.int IntKind.i64 (numOf (encF rItem s.1.2.1 ((0 : Nat) + Int.toNat s.1.2.2.2) (nat_lit 4))), AV.int IntKind.i64 (numOf (encF rItem s.1.2.1 ((0 : Nat) + Int.toNat s.1.2.2.2) (nat_lit 5))), AV.int IntKind.i64 (numOf (encF rItem s.1.2.1 ((0 : Nat) + Int.toNat s.1.2.2.2) (nat_lit 6)))][((0 : Nat) + i) * (7 : Nat) + k]? AV.top), decF rInt (List.length s.2.2.2.2.1) (encF rInt s.2.2.2.2.1), decP pStd (List.length s.2.2.2.2.2.1) (encPF pStd s.2.2.2.2.2.1) (encPL s.2.2.2.2.2.1) (encPH pStd s.2.2.2.2.2.1), decF rPII (List.length s.2.2.2.2.2.2.1) (encF rPII s.2.2.2.2.2.2.1), decF rPII (mputN (mfind (Get.mk [CK.int IntKind.i64, CK.int IntKind.i64] (encF rPII s.2.2.2.2.2.2.2.1)) (AV.int IntKind.i64 (numOf (encF rItem s.1.2.1 ((0 : Nat) + Int.toNat s.1.2.2.2) (nat_lit 5)))) (List.length s.2.2.2.2.2.2.2.1)) (List.length s.2.2.2.2.2.2.2.1)) (Get.f (mputG (Get.mk [CK.int IntKind.i64, CK.int IntKind.i64] (encF rPII s.2.2.2.2.2.2.2.1)) (mputP (mfind (Get.mk [CK.int IntKind.i64, CK.int IntKind.i64] (encF rPII s.2.2.2.2.2.2.2.1)) (AV.int IntKind.i64 (numOf (encF rItem s.1.2.1 ((0 : Nat) + Int.toNat s.1.2.2.2) (nat_lit 5)))) (List.length s.2.2.2.2.2.2.2.1)) (List.length s.2.2.2.2.2.2.2.1)) [AV.int IntKind.i64 (numOf (encF rItem s.1.2.1 ((0 : Nat) + Int.toNat s.1.2.2.2) (nat_lit 5))), AV.int IntKind.i64 (IntKind.wrap IntKind.i64 (numOf (mraw (Get.mk [CK.int IntKind.i64, CK.int IntKind.i64] (encF rPII s.2.2.2.2.2.2.2.1)) (mfind (Get.mk [CK.int IntKind.i64, CK.int IntKind.i64] (encF rPII s.2.2.2.2.2.2.2.1)) (AV.int IntKind.i64 (numOf (encF rItem s.1.2.1 ((0 : Nat) + Int.toNat s.1.2.2.2) (nat_lit 5)))) (List.length s.2.2.2.2.2.2.2.1)) (AV.int IntKind.i64 (0 : Int)) (1 : Nat)) - numOf (encF rItem s.1.2.1 ((0 : Nat) + Int.toNat s.1.2.2.2) (nat_lit 6))))])), PUnit.unit))))) (
                  .br (numOf (encF rItem s.1.2.1 ((0 : Nat) + Int.toNat s.1.2.2.2) (nat_lit 2)) == (7 : Int)) (
                    .br (decide (numOf (encF rItem s.1.2.1 ((0 : Nat) + Int.toNat s.1.2.2.2) (nat_lit 3)) ≤ s.2.1.1)) (
                      .chk (decide ((List.length s.2.2.2.2.1 + (1 : Nat)) * (8 : Nat) ≤ (140737488355328 : Nat) ∧ List.length s.2.2.2.2.1 + (1 : Nat) ≤ nat_lit 9223372036854775807)) <|
                      .ret (Sum.inl ((s.1.1, decF rItem (List.length s.1.2.1) fun i => encF rItem s.1.2.1 ((0 : Nat) + i), s.1.2.2.1, IntKind.wrap IntKind.i64 (s.1.2.2.2 + (1 : Int))), (s.2.1.1, s.2.1.2.1, s.2.1.2.2.1, List.length s.2.2.2.2.1 + (1 : Nat)), decF rPost (List.length s.2.2.1) (encF rPost s.2.2.1), decF rItem (List.length s.2.2.2.1) (encF rItem s.2.2.2.1), decF rInt (List.length s.2.2.2.2.1 + (1 : Nat)) (appG (List.length s.2.2.2.2.1) (encF rInt s.2.2.2.2.1) fun i k => Option.getD [AV.int IntKind.i64 (numOf (encF rItem s.1.2.1 ((0 : Nat) + Int.toNat s.1.2.2.2) (0 : Nat)))][((0 : Nat) + i) * (1 : Nat) + k]? AV.top), decP pStd (List.length s.2.2.2.2.2.1) (encPF pStd s.2.2.2.2.2.1) (encPL s.2.2.2.2.2.1) (encPH pStd s.2.2.2.2.2.1), decF rPII (List.length s.2.2.2.2.2.2.1) (encF rPII s.2.2.2.2.2.2.1), decF rPII (List.length s.2.2.2.2.2.2.2.1) (encF rPII s.2.2.2.2.2.2.2.1), PUnit.unit))) (
                      .chk (decide ((List.length s.2.2.2.1 + (1 : Nat)) * (56 : Nat) ≤ (140737488355328 : Nat) ∧ List.length s.2.2.2.1 + (1 : Nat) ≤ nat_lit 9223372036854775807)) <|
                      .ret (Sum.inl ((s.1.1, decF rItem (List.length s.1.2.1) fun i => encF rItem s.1.2.1 ((0 : Nat) + i), s.1.2.2.1, IntKind.wrap IntKind.i64 (s.1.2.2.2 + (1 : Int))), (numOf (encF rItem s.1.2.1 ((0 : Nat) + Int.toNat s.1.2.2.2) (nat_lit 3)), s.2.1.2.1, List.length s.2.2.2.1 + (1 : Nat), s.2.1.2.2.2), decF rPost (List.length s.2.2.1) (encF rPost s.2.2.1), decF rItem (List.length s.2.2.2.1 + (1 : Nat)) (appG (List.length s.2.2.2.1) (encF rItem s.2.2.2.1) fun i k => Option.getD [AV.int IntKind.i64 (numOf (encF rItem s.1.2.1 ((0 : Nat) + Int.toNat s.1.2.2.2) (0 : Nat))), AV.int IntKind.i64 (numOf (encF rItem s.1.2.1 ((0 : Nat) + Int.toNat s.1.2.2.2) (nat_lit 1))), AV.int IntKind.i64 (numOf (encF rItem s.1.2.1 ((0 : Nat) + Int.toNat s.1.2.2.2) (nat_lit 2))), AV.int IntKind.i64 (numOf (encF rItem s.1.2.1 ((0 : Nat) + Int.toNat s.1.2.2.2) (nat_lit 3))), AV.int IntKind.i64 (numOf (encF rItem s.1.2.1 ((0 : Nat) + Int.toNat s.1.2.2.2) (nat_lit 4))), AV.int IntKind.i64 (numOf (encF rItem s.1.2.1 ((0 : Nat) + Int.toNat s.1.2.2.2) (nat_lit 5))), AV.int IntKind.i64 (numOf (encF rItem s.1.2.1 ((0 : Nat) + Int.toNat s.1.2.2.2) (nat_lit 6)))][((0 : Nat) + i) * (7 : Nat) + k]? AV.top), decF rInt (List.length s.2.2.2.2.1) (encF rInt s.2.2.2.2.1), decP pStd (List.length s.2.2.2.2.2.1) (encPF pStd s.2.2.2.2.2.1) (encPL s.2.2.2.2.2.1) (encPH pStd s.2.2.2.2.2.1), decF rPII (List.length s.2.2.2.2.2.2.1) (encF rPII s.2.2.2.2.2.2.1), decF rPII (List.length s.2.2.2.2.2.2.2.1) (encF rPII s.2.2.2.2.2.2.2.1), PUnit.unit)))) (
                    .fail))))))))) (
    .ret (Sum.inr (PUnit.unit, s.2.1, decF rPost (List.length s.2.2.1) (encF rPost s.2.2.1), decF rItem (List.length s.2.2.2.1) (encF rItem s.2.2.2.1), decF rInt (List.length s.2.2.2.2.1) (encF rInt s.2.2.2.2.1), decP pStd (List.length s.2.2.2.2.2.1) (encPF pStd s.2.2.2.2.2.1) (encPL s.2.2.2.2.2.1) (encPH pStd s.2.2.2.2.2.1), decF rPII (List.length s.2.2.2.2.2.2.1) (encF rPII s.2.2.2.2.2.2.1), decF rPII (List.length s.2.2.2.2.2.2.2.1) (encF rPII s.2.2.2.2.2.2.2.1), PUnit.unit)))) := fun s => by kernel_rfl
end Go.Proofs.YtelpdkojdfnmiaaGreat
/-! LH3 -/
namespace Go.Proofs.YtelpdkojdfnmiaaGreat
open Ev K
set_option maxRecDepth 100000
namespace K
@[ext] structure Bk where
  closed : Int
  posts : List Pst
  taken : List Itm
  refused : List Int
  bills : List (Std × List Chg)
  paid : List (Int × Int)
  bonds : List (Int × Int)
  deriving DecidableEq, Inhabited
def fM (m : List (Int × Int)) (n : Int) : Option Nat := m.findIdx? fun a => n == a.1
def lookM (m : List (Int × Int)) (n : Int) : Int := match fM m n with
  | some i => (m.getD i (0, 0)).2
  | none => 0
def putM (m : List (Int × Int)) (n v : Int) : List (Int × Int) := match fM m n with
  | some i => m.set i (n, v)
  | none => m ++ [(n, v)]
def onDay (k : Bk) (d : Int) : Int := if k.closed + 1 > d then k.closed + 1 else d
def refuse (k : Bk) (x : Itm) : Bk := { k with refused := k.refused ++ [x.id] }
def stand (k : Bk) (x : Itm) (on a b amt : Int) : Bk := { k with posts := k.posts ++ [⟨x.id, on, a, amt⟩, ⟨x.id, on, b, -amt⟩], taken := k.taken ++ [x] }
def fb (k : Bk) (n : Int) : Option Nat := k.bills.findIdx? fun a => n == a.1.no
def doBill (k : Bk) (x : Itm) : Bk := match fb k x.bill with
  | some _ => refuse k x
  | none => if onDay k x.day > 728 then refuse k x else { stand k x (onDay k x.day) x.account 2 x.amount with bills := k.bills ++ [(⟨x.bill, x, x.amount⟩, [⟨x.known, x.amount⟩])] }
def doMend (k : Bk) (x : Itm) : Bk := match fb k x.bill with
  | none => refuse k x
  | some q => if onDay k (k.bills.getD q default).1.item.day > 728 then refuse k x else
      { stand k x (onDay k (k.bills.getD q default).1.item.day) (k.bills.getD q default).1.item.account 2 (x.amount - (k.bills.getD q default).1.amount) with bills := k.bills.set q ({ (k.bills.getD q default).1 with amount := x.amount }, (k.bills.getD q default).2 ++ [⟨x.known, x.amount⟩]) }
def doPay (k : Bk) (x : Itm) : Bk := if onDay k x.day > 728 then refuse k x else { stand k x (onDay k x.day) 1 x.account x.amount with paid := putM k.paid x.account (lookM k.paid x.account + x.amount) }
def doRefund (k : Bk) (x : Itm) : Bk := if lookM k.paid x.account < x.amount then refuse k x else if onDay k x.day > 728 then refuse k x else { stand k x (onDay k x.day) x.account 1 x.amount with paid := putM k.paid x.account (lookM k.paid x.account - x.amount) }
def doBond (k : Bk) (x : Itm) : Bk := if onDay k x.day > 728 then refuse k x else { stand k x (onDay k x.day) 1 3 x.amount with bonds := putM k.bonds x.account (lookM k.bonds x.account + x.amount) }
def doFree (k : Bk) (x : Itm) : Bk := if lookM k.bonds x.account < x.amount then refuse k x else if onDay k x.day > 728 then refuse k x else { stand k x (onDay k x.day) 3 1 x.amount with bonds := putM k.bonds x.account (lookM k.bonds x.account - x.amount) }
def doShut (k : Bk) (x : Itm) : Bk := if x.day ≤ k.closed then refuse k x else { k with closed := x.day, taken := k.taken ++ [x] }
def doItem (k : Bk) (x : Itm) : Bk :=
  if x.kind = 1 then doBill k x else if x.kind = 2 then doMend k x else if x.kind = 3 then doPay k x else if x.kind = 4 then doRefund k x
  else if x.kind = 5 then doBond k x else if x.kind = 6 then doFree k x else doShut k x
def bk0 : Bk := ⟨-1, [], [], [], [], [], []⟩
structure Itm.Ok (x : Itm) : Prop where
  id : 1 ≤ x.id ∧ x.id ≤ 1099511627776
  known : 0 ≤ x.known ∧ x.known ≤ 728
  kind : 1 ≤ x.kind ∧ x.kind ≤ 7
  day : 0 ≤ x.day ∧ x.day ≤ 728
  bill : 0 ≤ x.bill ∧ x.bill ≤ 1099511627776
  account : 0 ≤ x.account ∧ x.account ≤ 1099511627776
  amount : 0 ≤ x.amount ∧ x.amount ≤ 16777216
structure BkOk (n : Nat) (k : Bk) : Prop where
  closed : -1 ≤ k.closed ∧ k.closed ≤ 728
  posts : k.posts.length ≤ 2 * n
  taken : k.taken.length ≤ n
  refused : k.refused.length ≤ n
  bills : k.bills.length ≤ n
  bill : ∀ b ∈ k.bills, (0 ≤ b.1.item.day ∧ b.1.item.day ≤ 728) ∧ (0 ≤ b.1.amount ∧ b.1.amount ≤ 16777216) ∧ b.2.length ≤ n
  paid : ∀ p ∈ k.paid, 0 ≤ p.2 ∧ p.2 ≤ n * 16777216
  bonds : ∀ p ∈ k.bonds, 0 ≤ p.2 ∧ p.2 ≤ n * 16777216
theorem BkOk.zero : BkOk 0 bk0 := ⟨by decide, by decide, by decide, by decide, by decide, (fun b hb => by cases hb), (fun b hb => by cases hb), (fun b hb => by cases hb)⟩
theorem BkOk.mono {n : Nat} {k : Bk} (h : BkOk n k) : BkOk (n + 1) k := by
  obtain ⟨h1, h2, h3, h4, h5, h6, h7, h8⟩ := h
  refine ⟨h1, by omega, by omega, by omega, by omega, fun b hb => ?_, fun p hp => ?_, fun p hp => ?_⟩
  · obtain ⟨a, b1, c⟩ := h6 b hb; exact ⟨a, b1, by omega⟩
  · have := h7 p hp; omega
  · have := h8 p hp; omega
theorem BkOk.refuse {n : Nat} {k : Bk} (h : BkOk n k) (x : Itm) : BkOk (n + 1) (refuse k x) := by
  have := h.mono
  obtain ⟨h1, h2, h3, h4, h5, h6, h7, h8⟩ := this
  exact ⟨h1, h2, h3, by have := h.refused; simp [K.refuse]; exact this, h5, h6, h7, h8⟩
theorem BkOk.stand {n : Nat} {k : Bk} (h : BkOk n k) (x : Itm) (on a b amt : Int) : BkOk (n + 1) (stand k x on a b amt) := by
  obtain ⟨h1, h2, h3, h4, h5, h6, h7, h8⟩ := h.mono
  have a1 := h.posts; have a2 := h.taken
  exact ⟨h1, by simp [K.stand]; omega, by simp [K.stand]; omega, h4, h5, h6, h7, h8⟩
theorem fM_some {m : List (Int × Int)} {n : Int} {i : Nat} (h : fM m n = some i) : i < m.length := by
  unfold fM at h
  rw [List.findIdx?_eq_some_iff_getElem] at h
  exact h.1
theorem lookM_bound {m : List (Int × Int)} {N : Int} (hN : 0 ≤ N) (h : ∀ p ∈ m, 0 ≤ p.2 ∧ p.2 ≤ N) (n : Int) : 0 ≤ lookM m n ∧ lookM m n ≤ N := by
  unfold lookM
  split
  · rename_i i hi
    have hlt := fM_some hi
    have := h m[i] (List.getElem_mem hlt)
    rw [List.getD_eq_getElem?_getD, List.getElem?_eq_getElem hlt]; exact this
  · omega
theorem putM_all {m : List (Int × Int)} {n v : Int} {Q : Int × Int → Prop} (h : ∀ p ∈ m, Q p) (hv : Q (n, v)) : ∀ p ∈ putM m n v, Q p := by
  intro p hp
  unfold putM at hp
  split at hp
  · rcases List.mem_or_eq_of_mem_set hp with h1 | h1
    · exact h p h1
    · subst h1; exact hv
  · rcases List.mem_append.1 hp with h1 | h1
    · exact h p h1
    · simp at h1; subst h1; exact hv
theorem fb_some {k : Bk} {n : Int} {i : Nat} (h : fb k n = some i) : i < k.bills.length := by
  unfold fb at h
  rw [List.findIdx?_eq_some_iff_getElem] at h
  exact h.1
theorem getD_mem {α : Type} {l : List α} {i : Nat} {d : α} (h : i < l.length) : l.getD i d ∈ l := by
  rw [List.getD_eq_getElem?_getD, List.getElem?_eq_getElem h]; exact List.getElem_mem h
theorem BkOk.doItem {n : Nat} {k : Bk} (h : BkOk n k) {x : Itm} (hx : x.Ok) : BkOk (n + 1) (doItem k x) := by
  unfold K.doItem
  have hp := h.paid; have hb := h.bonds
  have ha := hx.amount
  have keyP : ∀ v, 0 ≤ v ∧ v ≤ lookM k.paid x.account + x.amount → ∀ p ∈ putM k.paid x.account v, 0 ≤ p.2 ∧ p.2 ≤ (((n + 1 : Nat)) : Int) * 16777216 := fun v hv => by
    have := lookM_bound (N := n * 16777216) (by omega) hp x.account
    exact putM_all (fun p h1 => by have := hp p h1; omega) (by show 0 ≤ v ∧ v ≤ _; omega)
  have keyB : ∀ v, 0 ≤ v ∧ v ≤ lookM k.bonds x.account + x.amount → ∀ p ∈ putM k.bonds x.account v, 0 ≤ p.2 ∧ p.2 ≤ (((n + 1 : Nat)) : Int) * 16777216 := fun v hv => by
    have := lookM_bound (N := n * 16777216) (by omega) hb x.account
    exact putM_all (fun p h1 => by have := hb p h1; omega) (by show 0 ≤ v ∧ v ≤ _; omega)
  have lp := lookM_bound (N := n * 16777216) (by omega) hp x.account
  have lb := lookM_bound (N := n * 16777216) (by omega) hb x.account
  split
  · unfold doBill; split
    · exact h.refuse x
    · split
      · exact h.refuse x
      · obtain ⟨h1, h2, h3, h4, h5, h6, h7, h8⟩ := h.stand x (onDay k x.day) x.account 2 x.amount
        refine ⟨h1, h2, h3, h4, by have := h.bills; simp; omega, fun b hb => ?_, h7, h8⟩
        rcases List.mem_append.1 hb with hb | hb
        · exact h6 b hb
        · simp at hb; subst hb; exact ⟨hx.day, hx.amount, by simp⟩
  split
  · unfold doMend; split
    · exact h.refuse x
    · rename_i q hq
      split
      · exact h.refuse x
      · have hm := getD_mem (d := default) (fb_some hq)
        obtain ⟨b1, b2, b3⟩ := h.bill _ hm
        generalize k.bills.getD q default = s at b1 b2 b3
        obtain ⟨h1, h2, h3, h4, h5, h6, h7, h8⟩ := h.stand x (onDay k s.1.item.day) s.1.item.account 2 (x.amount - s.1.amount)
        refine ⟨h1, h2, h3, h4, by simp; have := h.bills; omega, fun b hb => ?_, h7, h8⟩
        rcases List.mem_or_eq_of_mem_set hb with hb | hb
        · exact h6 b hb
        · subst hb; exact ⟨b1, hx.amount, by simp; exact b3⟩
  split
  · unfold doPay; split
    · exact h.refuse x
    · obtain ⟨h1, h2, h3, h4, h5, h6, h7, h8⟩ := h.stand x (onDay k x.day) 1 x.account x.amount
      exact ⟨h1, h2, h3, h4, h5, h6, keyP _ ⟨by omega, Int.le_refl _⟩, h8⟩
  split
  · unfold doRefund; split
    · exact h.refuse x
    · split
      · exact h.refuse x
      · obtain ⟨h1, h2, h3, h4, h5, h6, h7, h8⟩ := h.stand x (onDay k x.day) x.account 1 x.amount
        exact ⟨h1, h2, h3, h4, h5, h6, keyP _ ⟨by omega, by omega⟩, h8⟩
  split
  · unfold doBond; split
    · exact h.refuse x
    · obtain ⟨h1, h2, h3, h4, h5, h6, h7, h8⟩ := h.stand x (onDay k x.day) 1 3 x.amount
      exact ⟨h1, h2, h3, h4, h5, h6, h7, keyB _ ⟨by omega, Int.le_refl _⟩⟩
  split
  · unfold doFree; split
    · exact h.refuse x
    · split
      · exact h.refuse x
      · obtain ⟨h1, h2, h3, h4, h5, h6, h7, h8⟩ := h.stand x (onDay k x.day) 3 1 x.amount
        exact ⟨h1, h2, h3, h4, h5, h6, h7, keyB _ ⟨by omega, by omega⟩⟩
  · unfold doShut; split
    · exact h.refuse x
    · obtain ⟨h1, h2, h3, h4, h5, h6, h7, h8⟩ := h.mono
      exact ⟨by have := hx.day; exact ⟨by show -1 ≤ x.day; omega, this.2⟩, h2, by have := h.taken; simp; exact this, h4, h5, h6, h7, h8⟩
theorem decF_push' {ρ : Type} {R : RowD ρ} {n : Nat} {f : Nat → Nat → AV} {l : List ρ} (h : decF R n f = l) (g : Nat → Nat → AV) : decF R (n + 1) (appG n f g) = l ++ [R.rd (g 0)] := by
  subst h
  unfold decF
  rw [List.range_succ, List.map_append]
  congr 1
  · refine List.map_congr_left fun i hi => ?_
    have : appG n f g i = f i := by
      funext k; unfold appG
      rw [show Nat.ble n i = false by rw [← Bool.not_eq_true, Nat.ble_eq]; have := List.mem_range.1 hi; omega]
    rw [this]
  · have : appG n f g n = g 0 := by
      funext k; unfold appG
      rw [show Nat.ble n n = true by simp, Nat.sub_self]
    simp [this]
theorem mfind_gen {α : Type} (g : Get AV) (x : AV) (M : List α) (q : α → Bool) (h : ∀ i a, M[i]? = some a → keyIs x (g.cell i 0) = q a) : mfind g x M.length = M.findIdx? q := by
  have key : ∀ (L : List α) (i0 : Nat) (p : Nat → Bool), (∀ i a, L[i]? = some a → p (i0 + i) = q a) → (List.range' i0 L.length).find? p = (L.findIdx? q).map (i0 + ·) := by
    intro L
    induction L with
    | nil => intro i0 p _; rfl
    | cons a L ih =>
      intro i0 p h
      have h0 := h 0 a rfl
      rw [Nat.add_zero] at h0
      rw [List.length_cons, List.range'_succ, List.findIdx?_cons]
      cases hq : q a with
      | true => rw [List.find?_cons_of_pos (by rw [h0, hq])]; simp
      | false =>
        rw [List.find?_cons_of_neg (by rw [h0, hq]; decide), ih (i0 + 1) p (fun i b hb => by rw [show i0 + 1 + i = i0 + (i + 1) by omega]; exact h (i + 1) b (by simpa using hb))]
        simp only [Bool.false_eq_true, if_false, Option.map_map]
        congr 1
        funext i
        simp only [Function.comp]; omega
  unfold mfind
  rw [List.range_eq_range', key M 0 _ (fun i a ha => by rw [Nat.zero_add]; exact h i a ha)]
  cases M.findIdx? q <;> simp
theorem encPF_at {ρ σ : Type} {D : PoolD ρ σ} {l : List (ρ × List σ)} {i : Nat} {a : ρ × List σ} (h : l[i]? = some a) : encPF D l i = D.wr a.1 := by unfold encPF; rw [h]
theorem encPL_at {ρ σ : Type} {l : List (ρ × List σ)} {i : Nat} {a : ρ × List σ} (h : l[i]? = some a) : encPL l i = a.2.length := by unfold encPL; rw [h]
theorem encPH_at {ρ σ : Type} {D : PoolD ρ σ} {l : List (ρ × List σ)} {i : Nat} {a : ρ × List σ} (h : l[i]? = some a) : encPH D l i = encF D.H a.2 := by unfold encPH; rw [h]
theorem decP_encP {ρ σ : Type} (D : PoolD ρ σ) (l : List (ρ × List σ)) : decP D l.length (encPF D l) (encPL l) (encPH D l) = l := by
  apply List.ext_getElem?
  intro i
  by_cases hi : i < l.length
  · have h := List.getElem?_eq_getElem hi
    rw [decP_at hi, encPF_at h, encPL_at h, encPH_at h, D.good, decF_encF, h]
  · rw [List.getElem?_eq_none (by rw [decP_length]; omega), List.getElem?_eq_none (by omega)]
def rowK (x : AV) (cs : List AV) : Nat → AV
  | 0 => x
  | k + 1 => (cs[k]?).getD .top
theorem decP_set {ρ σ : Type} (D : PoolD ρ σ) (l : List (ρ × List σ)) {q : Nat} (cs : List AV) (m : Nat) (g : Get AV) (T T' : List CK) {a : ρ × List σ} (ha : l[q]? = some a) :
    decP D l.length (setRowG ⟨T, encPF D l⟩ q cs).f (setAt (encPL l) q m) (HG.set ⟨T', encPH D l⟩ q g).f = l.set q (D.rd (rowK (D.wr a.1 0) cs), decF D.H m g.f) := by
  apply List.ext_getElem?
  intro i
  by_cases hi : i < l.length
  · have h := List.getElem?_eq_getElem hi
    rw [decP_at hi]
    by_cases e : i = q
    · subst e
      rw [List.getElem?_set_self hi]
      have hb : Nat.beq i i = true := by simp
      simp only [setRowG, setAt, HG.set, hb, encPF_at ha]
      congr 3
    · rw [List.getElem?_set_ne (Ne.symm e)]
      have hb : Nat.beq i q = false := by rw [← Bool.not_eq_true, Nat.beq_eq]; exact e
      simp only [setRowG, setAt, HG.set, hb]
      rw [show (fun k => encPF D l i k) = encPF D l i from rfl, encPF_at h, encPL_at h, encPH_at h, D.good, decF_encF, h]
  · rw [List.getElem?_eq_none (by rw [decP_length]; omega), List.getElem?_eq_none (by simp; omega)]
theorem decP_new {ρ σ : Type} (D : PoolD ρ σ) (l : List (ρ × List σ)) (key : AV) (cs : List AV) (m : Nat) (g : Get AV) (T T' : List CK) :
    decP D (l.length + 1) (setRowG (mputG ⟨T, encPF D l⟩ l.length [key]) l.length cs).f (setAt (encPL l) l.length m) (HG.set ⟨T', encPH D l⟩ l.length g).f = l ++ [(D.rd (rowK key cs), decF D.H m g.f)] := by
  apply List.ext_getElem?
  intro i
  by_cases hi : i < l.length
  · have h := List.getElem?_eq_getElem hi
    rw [decP_at (by omega), List.getElem?_append_left hi]
    have hb : Nat.beq i l.length = false := by rw [← Bool.not_eq_true, Nat.beq_eq]; omega
    simp only [setRowG, setAt, HG.set, hb, mputG]
    rw [show (fun k => encPF D l i k) = encPF D l i from rfl, encPF_at h, encPL_at h, encPH_at h, D.good, decF_encF, h]
  · by_cases e : i = l.length
    · subst e
      rw [decP_at (by omega), List.getElem?_append_right (Nat.le_refl _), Nat.sub_self]
      have hb : Nat.beq l.length l.length = true := by simp
      simp only [setRowG, setAt, HG.set, hb, mputG]
      congr 3
    · rw [List.getElem?_eq_none (by rw [decP_length]; omega), List.getElem?_eq_none (by simp; omega)]
end K
end Go.Proofs.YtelpdkojdfnmiaaGreat
/-! LH4 -/
namespace Go.Proofs.YtelpdkojdfnmiaaGreat
open Ev K
set_option maxRecDepth 100000
namespace K
theorem wr0 (x : Itm) : numOf (rItem.wr x 0) = x.id := rfl
theorem wr1 (x : Itm) : numOf (rItem.wr x 1) = x.known := rfl
theorem wr2 (x : Itm) : numOf (rItem.wr x 2) = x.kind := rfl
theorem wr3 (x : Itm) : numOf (rItem.wr x 3) = x.day := rfl
theorem wr4 (x : Itm) : numOf (rItem.wr x 4) = x.bill := rfl
theorem wr5 (x : Itm) : numOf (rItem.wr x 5) = x.account := rfl
theorem wr6 (x : Itm) : numOf (rItem.wr x 6) = x.amount := rfl
theorem ps1 (x : Std) : numOf (pStd.wr x 1) = x.item.id := rfl
theorem ps2 (x : Std) : numOf (pStd.wr x 2) = x.item.known := rfl
theorem ps3 (x : Std) : numOf (pStd.wr x 3) = x.item.kind := rfl
theorem ps4 (x : Std) : numOf (pStd.wr x 4) = x.item.day := rfl
theorem ps5 (x : Std) : numOf (pStd.wr x 5) = x.item.bill := rfl
theorem ps6 (x : Std) : numOf (pStd.wr x 6) = x.item.account := rfl
theorem ps7 (x : Std) : numOf (pStd.wr x 7) = x.item.amount := rfl
theorem ps8 (x : Std) : numOf (pStd.wr x 8) = x.amount := rfl
theorem find_bill (k : Bk) (n : Int) : mfind ⟨[CK.int IntKind.i64, CK.int IntKind.i64, CK.int IntKind.i64, CK.int IntKind.i64, CK.int IntKind.i64, CK.int IntKind.i64, CK.int IntKind.i64, CK.int IntKind.i64, CK.int IntKind.i64, CK.any], encPF pStd k.bills⟩ (.int .i64 n) k.bills.length = fb k n :=
  mfind_gen _ _ _ _ fun i a h => by
    simp only [Get.cell, encPF_at h]; rfl
theorem find_M (m : List (Int × Int)) (n : Int) : mfind ⟨[.int .i64, .int .i64], encF rPII m⟩ (.int .i64 n) m.length = fM m n := mfind_enc rPII m (.int .i64 n)
theorem raw_M (m : List (Int × Int)) (n : Int) : numOf (mraw ⟨[.int .i64, .int .i64], encF rPII m⟩ (fM m n) (.int .i64 0) 1) = lookM m n := by
  unfold lookM mraw
  cases h : fM m n with
  | none => rfl
  | some i =>
    have hi := fM_some h
    simp only
    rw [encF_at (List.getElem?_eq_getElem hi), List.getD_eq_getElem?_getD, List.getElem?_eq_getElem hi]; rfl
theorem put_M (m : List (Int × Int)) (n v : Int) : decF rPII (mputN (fM m n) m.length) (mputG ⟨[.int .i64, .int .i64], encF rPII m⟩ (mputP (fM m n) m.length) [.int .i64 n, .int .i64 v]).f = putM m n v := by
  unfold putM
  cases h : fM m n with
  | none => exact decF_put rPII m none (fun i h => by cases h) _ _
  | some i => exact decF_put rPII m (some i) (fun j e => by injection e with e; subst e; exact fM_some h) _ _
theorem set_same {α : Type} {l : List α} {q : Nat} {a : α} (h : l[q]? = some a) : l.set q a = l := by
  apply List.ext_getElem?
  intro i
  obtain ⟨hq, _⟩ := List.getElem?_eq_some_iff.1 h
  by_cases e : q = i
  · subst e; rw [List.getElem?_set_self hq, h]
  · rw [List.getElem?_set_ne e]
abbrev RdS := (Int × List Itm × Int × Int) × BkObj
def objOf (k : Bk) : BkObj := ((k.closed, k.posts.length, k.taken.length, k.refused.length), k.posts, k.taken, k.refused, k.bills, k.paid, k.bonds, ())
def rdS (known : Int) (l : List Itm) (i : Int) (k : Bk) : RdS := ((known, l, (l.length : Int), i), objOf k)
theorem bb {b : Bool} {p : Prop} (h : p) (e : b = true ↔ p) : b = true := e.2 h
theorem pool_same (l : List (Std × List Chg)) {q : Nat} {a : Std × List Chg} (h : l[q]? = some a) (j : Nat) : decP pStd l.length (setRowG ⟨[CK.int IntKind.i64, CK.int IntKind.i64, CK.int IntKind.i64, CK.int IntKind.i64, CK.int IntKind.i64, CK.int IntKind.i64, CK.int IntKind.i64, CK.int IntKind.i64, CK.int IntKind.i64, CK.any], encPF pStd l⟩ q
    [.int .i64 a.1.item.id, .int .i64 a.1.item.known, .int .i64 a.1.item.kind, .int .i64 a.1.item.day, .int .i64 a.1.item.bill, .int .i64 a.1.item.account, .int .i64 a.1.item.amount, .int .i64 a.1.amount, .osl j 0 a.2.length]).f
    (setAt (encPL l) q a.2.length) (HG.set ⟨[CK.int IntKind.i64, CK.int IntKind.i64], encPH pStd l⟩ q ⟨[CK.int IntKind.i64, CK.int IntKind.i64], encF rChg a.2⟩).f = l := by
  rw [decP_set pStd l _ _ _ _ _ h]
  have e1 : pStd.rd (rowK (pStd.wr a.1 0) [.int .i64 a.1.item.id, .int .i64 a.1.item.known, .int .i64 a.1.item.kind, .int .i64 a.1.item.day, .int .i64 a.1.item.bill, .int .i64 a.1.item.account, .int .i64 a.1.item.amount, .int .i64 a.1.amount, .osl j 0 a.2.length]) = a.1 := rfl
  rw [e1]
  have e2 : decF pStd.H a.2.length (encF rChg a.2) = a.2 := decF_encF rChg a.2
  show l.set q (a.1, decF pStd.H a.2.length (encF rChg a.2)) = l
  rw [e2]
  exact set_same h
end K
end Go.Proofs.YtelpdkojdfnmiaaGreat
/-! LH5 -/
namespace Go.Proofs.YtelpdkojdfnmiaaGreat
open Ev K
set_option maxRecDepth 100000
namespace K
theorem br_t {ρ : Type} {b : Bool} {t e : T ρ} {r : Option ρ} (h : b = true) (h2 : t.run = r) : (T.br b t e).run = r := by subst h; exact h2
theorem br_f {ρ : Type} {b : Bool} {t e : T ρ} {r : Option ρ} (h : b = false) (h2 : e.run = r) : (T.br b t e).run = r := by subst h; exact h2
theorem pushI (l : List Int) (v : Int) : decF rInt (l.length + 1) (appG l.length (encF rInt l) fun i k => ([(.int .i64 v : AV)][i * 1 + k]?).getD .top) = l ++ [v] := decF_push' (decF_encF rInt l) _
theorem pushT (l : List Itm) (a b c d e f g : Int) : decF rItem (l.length + 1) (appG l.length (encF rItem l) fun i k => ([(.int .i64 a : AV), .int .i64 b, .int .i64 c, .int .i64 d, .int .i64 e, .int .i64 f, .int .i64 g][i * 7 + k]?).getD .top) = l ++ [⟨a, b, c, d, e, f, g⟩] := decF_push' (decF_encF rItem l) _
theorem push2 (l : List Pst) (a b c d a' b' c' d' : Int) : decF rPost (l.length + 1 + 1) (appG (l.length + 1) (appG l.length (encF rPost l) fun i k => ([(.int .i64 a : AV), .int .i64 b, .int .i64 c, .int .i64 d][i * 4 + k]?).getD .top) fun i k => ([(.int .i64 a' : AV), .int .i64 b', .int .i64 c', .int .i64 d'][i * 4 + k]?).getD .top) = l ++ [⟨a, b, c, d⟩, ⟨a', b', c', d'⟩] := by
  refine (decF_push' (decF_push' (decF_encF rPost l) _) _).trans ?_
  rw [List.append_assoc]; rfl
theorem pool_new (l : List (Std × List Chg)) (key a b c d e f g h u v : Int) (j : Nat) : decP pStd (l.length + 1) (setRowG (mputG ⟨[CK.int IntKind.i64, CK.int IntKind.i64, CK.int IntKind.i64, CK.int IntKind.i64, CK.int IntKind.i64, CK.int IntKind.i64, CK.int IntKind.i64, CK.int IntKind.i64, CK.int IntKind.i64, CK.any], encPF pStd l⟩ l.length [.int .i64 key]) l.length
    [.int .i64 a, .int .i64 b, .int .i64 c, .int .i64 d, .int .i64 e, .int .i64 f, .int .i64 g, .int .i64 h, .lsl j 2 0 0 1 (some 1)]).f (setAt (encPL l) l.length 1) (HG.set ⟨[CK.int IntKind.i64, CK.int IntKind.i64], encPH pStd l⟩ l.length ⟨[CK.int IntKind.i64, CK.int IntKind.i64], fun i k => ([(.int .i64 u : AV), .int .i64 v][i * 2 + k]?).getD .top⟩).f =
    l ++ [(⟨key, ⟨a, b, c, d, e, f, g⟩, h⟩, [⟨u, v⟩])] := by
  rw [decP_new pStd l _ _ _ _ _ _]; rfl
theorem pool_mend (l : List (Std × List Chg)) {q : Nat} {s : Std × List Chg} (hs : l[q]? = some s) (h u v : Int) (j m : Nat) : decP pStd l.length (setRowG ⟨[CK.int IntKind.i64, CK.int IntKind.i64, CK.int IntKind.i64, CK.int IntKind.i64, CK.int IntKind.i64, CK.int IntKind.i64, CK.int IntKind.i64, CK.int IntKind.i64, CK.int IntKind.i64, CK.any], encPF pStd l⟩ q
    [.int .i64 s.1.item.id, .int .i64 s.1.item.known, .int .i64 s.1.item.kind, .int .i64 s.1.item.day, .int .i64 s.1.item.bill, .int .i64 s.1.item.account, .int .i64 s.1.item.amount, .int .i64 h, .osl j 0 m]).f (setAt (encPL l) q (s.2.length + 1)) (HG.set ⟨[CK.int IntKind.i64, CK.int IntKind.i64], encPH pStd l⟩ q ⟨[CK.int IntKind.i64, CK.int IntKind.i64], appG s.2.length (encF pStd.H s.2) fun i k => ([(.int .i64 u : AV), .int .i64 v][i * 2 + k]?).getD .top⟩).f =
    l.set q ({ s.1 with amount := h }, s.2 ++ [⟨u, v⟩]) := by
  rw [decP_set pStd l _ _ _ _ _ hs]
  have e1 : decF pStd.H (s.2.length + 1) (appG s.2.length (encF pStd.H s.2) fun i k => ([(.int .i64 u : AV), .int .i64 v][i * 2 + k]?).getD .top) = s.2 ++ [⟨u, v⟩] := decF_push' (decF_encF rChg s.2) _
  simp only
  rw [e1]; rfl
theorem obj_refuse (k : Bk) (x : Itm) : ((k.closed, k.posts.length, k.taken.length, k.refused.length + 1), k.posts, k.taken, k.refused ++ [x.id], k.bills, k.paid, k.bonds, ()) = objOf (refuse k x) := by
  simp [objOf, refuse]
theorem obj_stand (k k' : Bk) (x : Itm) (on a b m : Int) (h1 : k'.closed = k.closed) (h2 : k'.posts = k.posts ++ [⟨x.id, on, a, m⟩, ⟨x.id, on, b, -m⟩]) (h3 : k'.taken = k.taken ++ [x]) (h4 : k'.refused = k.refused) :
    ((k.closed, k.posts.length + 1 + 1, k.taken.length + 1, k.refused.length), k.posts ++ [⟨x.id, on, a, m⟩, ⟨x.id, on, b, -m⟩], k.taken ++ [x], k.refused, k'.bills, k'.paid, k'.bonds, ()) = objOf k' := by
  unfold objOf
  rw [h1, h2, h3, h4, List.length_append, List.length_append]; rfl
set_option maxHeartbeats 0 in
theorem rd_step {known : Int} {l : List Itm} {i : Nat} {k : Bk} {x : Itm} {n : Nat} (hx : l[i]? = some x) (hok : x.Ok) (hk : BkOk n k) (hn : n ≤ 1000) (hl : l.length ≤ 1000000) (hkn : x.known ≤ known) :
    st_rd (rdS known l (i : Int) k) = some (.inl (rdS known l ((i + 1 : Nat) : Int) (doItem k x))) := by
  rw [sl_rd]
  obtain ⟨hi, _⟩ := List.getElem?_eq_some_iff.1 hx
  obtain ⟨c1, c2, c3, c4, c5, c6, c7, c8⟩ := hk
  obtain ⟨x1, x2, x3, x4, x5, x6, x7⟩ := hok
  have p1 := lookM_bound (N := n * 16777216) (by omega) c7 x.account
  have p2 := lookM_bound (N := n * 16777216) (by omega) c8 x.account
  have w1 : IntKind.i64.wrap (k.closed + 1) = k.closed + 1 := w64_in (by omega) (by omega)
  have w2 : IntKind.i64.wrap (0 - x.amount) = -x.amount := by rw [w64_in (by omega) (by omega)]; omega
  have w3 : IntKind.i64.wrap ((i : Int) + 1) = ((i + 1 : Nat) : Int) := by rw [w64_in (by omega) (by omega)]; rfl
  have w4 : IntKind.i64.wrap (lookM k.paid x.account + x.amount) = lookM k.paid x.account + x.amount := w64_in (by omega) (by omega)
  have w5 : IntKind.i64.wrap (lookM k.paid x.account - x.amount) = lookM k.paid x.account - x.amount := w64_in (by omega) (by omega)
  have w6 : IntKind.i64.wrap (lookM k.bonds x.account + x.amount) = lookM k.bonds x.account + x.amount := w64_in (by omega) (by omega)
  have w7 : IntKind.i64.wrap (lookM k.bonds x.account - x.amount) = lookM k.bonds x.account - x.amount := w64_in (by omega) (by omega)
  unfold rdS
  have hid : (⟨x.id, x.known, x.kind, x.day, x.bill, x.account, x.amount⟩ : Itm) = x := rfl
  generalize ho : objOf (doItem k x) = o
  simp only [objOf, Int.toNat_natCast, Nat.zero_add, item_at hx, wr0, wr1, wr2, wr3, wr4, wr5, wr6, decF_encF, decP_encP, find_bill, find_M, raw_M, put_M, w1, w2, w3, w4, w5, w6, w7, pushI, pushT, push2, pool_new, hid]
  have leaf : ∀ o' : BkObj, o' = o → (T.ret (Sum.inl ((known, l, (l.length : Int), ((i + 1 : Nat) : Int)), o')) : T (RdS ⊕ (Unit × BkObj))).run = some (Sum.inl ((known, l, (l.length : Int), ((i + 1 : Nat) : Int)), o)) := fun o' e => by rw [e]; rfl
  refine br_t (decide_eq_true (by omega)) (chk_step (decide_eq_true (by omega)) (br_f (decide_eq_false (by omega)) ?_))
  have g1 : decide ((k.refused.length + 1) * 8 ≤ 140737488355328 ∧ k.refused.length + 1 ≤ 9223372036854775807) = true := decide_eq_true (by omega)
  have g2 : decide ((k.posts.length + 1) * 32 ≤ 140737488355328 ∧ k.posts.length + 1 ≤ 9223372036854775807) = true := decide_eq_true (by omega)
  have g3 : decide ((k.posts.length + 1 + 1) * 32 ≤ 140737488355328 ∧ k.posts.length + 1 + 1 ≤ 9223372036854775807) = true := decide_eq_true (by omega)
  have g4 : decide ((k.taken.length + 1) * 56 ≤ 140737488355328 ∧ k.taken.length + 1 ≤ 9223372036854775807) = true := decide_eq_true (by omega)
  have lR : doItem k x = refuse k x → (T.ret (Sum.inl ((known, l, (l.length : Int), ((i + 1 : Nat) : Int)), (k.closed, k.posts.length, k.taken.length, k.refused.length + 1), k.posts, k.taken, k.refused ++ [x.id], k.bills, k.paid, k.bonds, ())) : T (RdS ⊕ (Unit × BkObj))).run = some (Sum.inl ((known, l, (l.length : Int), ((i + 1 : Nat) : Int)), o)) := fun e => leaf _ (by rw [← ho, e]; exact obj_refuse k x)
  by_cases k1 : x.kind = 1
  · refine br_t (by rw [beq_iff_eq]; exact k1) ?_
    have hd : doItem k x = doBill k x := by unfold doItem; rw [if_pos k1]
    cases hf : fb k x.bill with
    | some q =>
      have hq := fb_some hf
      have hs := List.getElem?_eq_getElem hq
      refine br_t rfl (chk_step g1 ?_)
      simp only [Option.getD_some, encPF_at hs, encPL_at hs, encPH_at hs, ps1, ps2, ps3, ps4, ps5, ps6, ps7, ps8]
      rw [show pStd.H = rChg from rfl, pool_same k.bills hs 6]
      exact lR (by rw [hd]; unfold doBill; rw [hf])
    | none =>
      refine br_f rfl ?_
      by_cases h7 : onDay k x.day > 728
      · exact br_t (decide_eq_true h7) (chk_step g1 (lR (by rw [hd]; unfold doBill; rw [hf]; exact if_pos h7)))
      · refine br_f (decide_eq_false h7) (chk_step g2 (chk_step g3 (chk_step rfl (chk_step g4 (leaf _ ?_)))))
        rw [← ho, hd]; unfold doBill; rw [hf]; simp only [if_neg h7]
        exact obj_stand k { stand k x (onDay k x.day) x.account 2 x.amount with bills := k.bills ++ [(⟨x.bill, x, x.amount⟩, [⟨x.known, x.amount⟩])] } x (onDay k x.day) x.account 2 x.amount rfl rfl rfl rfl
  refine br_f (by rw [beq_eq_false_iff_ne]; exact k1) ?_
  by_cases k2 : x.kind = 2
  · refine br_t (by rw [beq_iff_eq]; exact k2) ?_
    have hd : doItem k x = doMend k x := by unfold doItem; rw [if_neg k1, if_pos k2]
    cases hf : fb k x.bill with
    | none => exact br_f rfl (chk_step g1 (lR (by rw [hd]; unfold doMend; rw [hf])))
    | some q =>
      refine br_t rfl ?_
      have hq := fb_some hf
      have hs := List.getElem?_eq_getElem hq
      obtain ⟨b1, b2, b3⟩ := c6 _ (List.getElem_mem hq)
      have hg : k.bills.getD q default = k.bills[q] := by rw [List.getD_eq_getElem?_getD, hs]; rfl
      generalize k.bills[q] = s at hs b1 b2 b3 hg
      have v1 : IntKind.i64.wrap (x.amount - s.1.amount) = x.amount - s.1.amount := w64_in (by omega) (by omega)
      have v2 : IntKind.i64.wrap (0 - (x.amount - s.1.amount)) = -(x.amount - s.1.amount) := by rw [w64_in (by omega) (by omega)]; omega
      simp only [Option.getD_some, encPF_at hs, encPL_at hs, encPH_at hs, ps1, ps2, ps3, ps4, ps5, ps6, ps7, ps8, v1, v2, pool_mend k.bills hs]
      by_cases h7 : onDay k s.1.item.day > 728
      · refine br_t (decide_eq_true h7) (chk_step g1 ?_)
        rw [show pStd.H = rChg from rfl, pool_same k.bills hs 6]
        exact lR (by rw [hd]; unfold doMend; rw [hf]; simp only [hg]; exact if_pos h7)
      · refine br_f (decide_eq_false h7) (chk_step g2 (chk_step g3 (chk_step (decide_eq_true (by omega)) (chk_step g4 (leaf _ ?_)))))
        rw [← ho, hd]; unfold doMend; rw [hf]; simp only [hg, if_neg h7]
        exact obj_stand k { stand k x (onDay k s.1.item.day) s.1.item.account 2 (x.amount - s.1.amount) with bills := k.bills.set q ({ s.1 with amount := x.amount }, s.2 ++ [⟨x.known, x.amount⟩]) } x (onDay k s.1.item.day) s.1.item.account 2 (x.amount - s.1.amount) rfl rfl rfl rfl
  refine br_f (by rw [beq_eq_false_iff_ne]; exact k2) ?_
  by_cases k3 : x.kind = 3
  · refine br_t (by rw [beq_iff_eq]; exact k3) ?_
    have hd : doItem k x = doPay k x := by unfold doItem; rw [if_neg k1, if_neg k2, if_pos k3]
    by_cases h7 : onDay k x.day > 728
    · exact br_t (decide_eq_true h7) (chk_step g1 (lR (by rw [hd]; exact if_pos h7)))
    · refine br_f (decide_eq_false h7) (chk_step g2 (chk_step g3 (chk_step g4 (leaf _ ?_))))
      rw [← ho, hd]; unfold doPay; simp only [if_neg h7]
      exact obj_stand k { stand k x (onDay k x.day) 1 x.account x.amount with paid := putM k.paid x.account (lookM k.paid x.account + x.amount) } x (onDay k x.day) 1 x.account x.amount rfl rfl rfl rfl
  refine br_f (by rw [beq_eq_false_iff_ne]; exact k3) ?_
  by_cases k4 : x.kind = 4
  · refine br_t (by rw [beq_iff_eq]; exact k4) ?_
    have hd : doItem k x = doRefund k x := by unfold doItem; rw [if_neg k1, if_neg k2, if_neg k3, if_pos k4]
    by_cases h6 : lookM k.paid x.account < x.amount
    · exact br_t (decide_eq_true h6) (chk_step g1 (lR (by rw [hd]; exact if_pos h6)))
    refine br_f (decide_eq_false h6) ?_
    by_cases h7 : onDay k x.day > 728
    · exact br_t (decide_eq_true h7) (chk_step g1 (lR (by rw [hd]; unfold doRefund; rw [if_neg h6]; exact if_pos h7)))
    · refine br_f (decide_eq_false h7) (chk_step g2 (chk_step g3 (chk_step g4 (leaf _ ?_))))
      rw [← ho, hd]; unfold doRefund; simp only [if_neg h6, if_neg h7]
      exact obj_stand k { stand k x (onDay k x.day) x.account 1 x.amount with paid := putM k.paid x.account (lookM k.paid x.account - x.amount) } x (onDay k x.day) x.account 1 x.amount rfl rfl rfl rfl
  refine br_f (by rw [beq_eq_false_iff_ne]; exact k4) ?_
  by_cases k5 : x.kind = 5
  · refine br_t (by rw [beq_iff_eq]; exact k5) ?_
    have hd : doItem k x = doBond k x := by unfold doItem; rw [if_neg k1, if_neg k2, if_neg k3, if_neg k4, if_pos k5]
    by_cases h7 : onDay k x.day > 728
    · exact br_t (decide_eq_true h7) (chk_step g1 (lR (by rw [hd]; exact if_pos h7)))
    · refine br_f (decide_eq_false h7) (chk_step g2 (chk_step g3 (chk_step g4 (leaf _ ?_))))
      rw [← ho, hd]; unfold doBond; simp only [if_neg h7]
      exact obj_stand k { stand k x (onDay k x.day) 1 3 x.amount with bonds := putM k.bonds x.account (lookM k.bonds x.account + x.amount) } x (onDay k x.day) 1 3 x.amount rfl rfl rfl rfl
  refine br_f (by rw [beq_eq_false_iff_ne]; exact k5) ?_
  by_cases k6 : x.kind = 6
  · refine br_t (by rw [beq_iff_eq]; exact k6) ?_
    have hd : doItem k x = doFree k x := by unfold doItem; rw [if_neg k1, if_neg k2, if_neg k3, if_neg k4, if_neg k5, if_pos k6]
    by_cases h6 : lookM k.bonds x.account < x.amount
    · exact br_t (decide_eq_true h6) (chk_step g1 (lR (by rw [hd]; exact if_pos h6)))
    refine br_f (decide_eq_false h6) ?_
    by_cases h7 : onDay k x.day > 728
    · exact br_t (decide_eq_true h7) (chk_step g1 (lR (by rw [hd]; unfold doFree; rw [if_neg h6]; exact if_pos h7)))
    · refine br_f (decide_eq_false h7) (chk_step g2 (chk_step g3 (chk_step g4 (leaf _ ?_))))
      rw [← ho, hd]; unfold doFree; simp only [if_neg h6, if_neg h7]
      exact obj_stand k { stand k x (onDay k x.day) 3 1 x.amount with bonds := putM k.bonds x.account (lookM k.bonds x.account - x.amount) } x (onDay k x.day) 3 1 x.amount rfl rfl rfl rfl
  refine br_f (by rw [beq_eq_false_iff_ne]; exact k6) ?_
  refine br_t (by rw [beq_iff_eq]; omega) ?_
  have hd : doItem k x = doShut k x := by unfold doItem; rw [if_neg k1, if_neg k2, if_neg k3, if_neg k4, if_neg k5, if_neg k6]
  by_cases h7 : x.day ≤ k.closed
  · exact br_t (decide_eq_true h7) (chk_step g1 (lR (by rw [hd]; exact if_pos h7)))
  · refine br_f (decide_eq_false h7) (chk_step g4 (leaf _ ?_))
    rw [← ho, hd]; unfold doShut; simp only [if_neg h7]
    unfold objOf; simp
end K
end Go.Proofs.YtelpdkojdfnmiaaGreat
/-! LH6 -/
namespace Go.Proofs.YtelpdkojdfnmiaaGreat
open Ev K
set_option maxRecDepth 100000
noncomputable def K.L_rd := lim K.st_rd
noncomputable def BLH61 : Tab := BLH114.addNode 64 33 (nodeE [5, 33, 6, 1, 31, 32] S_rd X_rd (fun s => .obs (K.L_rd s) .ret))
theorem tLH61 : TabOk P BLH61 := TabOk.addLoop (d := 30) okP tLH114 (by kernel_rfl) (by kernel_rfl) (fun s r h => obs_ret h)
def lBk : DecL Bk := (DecL.cons dInt (.cons (dRows rPost) (.cons (dRows rItem) (.cons (dRows rInt) (.cons (dXp pStd) (.cons (dXm rPII) (.last (dXm rPII) 0))))))).iso (fun p => ⟨p.1, p.2.1, p.2.2.1, p.2.2.2.1, p.2.2.2.2.1, p.2.2.2.2.2.1, p.2.2.2.2.2.2⟩) (fun k => (k.closed, k.posts, k.taken, k.refused, k.bills, k.paid, k.bonds)) (fun _ => rfl)
def dBk : Dec Bk := dP 7 lBk 0
theorem fn_read : ∀ a, (callT1 P BLH61 30 64 D_ln dBk) a = T.run (
  .chk (decide (List.length (decF rItem (List.length a.1) fun i => encF rItem a.1 ((0 : Nat) + i)) ≤ (1000000 : Nat))) <|
  .obs (L_rd ((a.2, decF rItem (List.length (srt (decF rItem (List.length a.1) fun i => encF rItem a.1 ((0 : Nat) + i)))) fun i => encF rItem (srt (decF rItem (List.length a.1) fun i => encF rItem a.1 ((0 : Nat) + i))) ((0 : Nat) + i), (↑(clampL (List.length (srt (decF rItem (List.length a.1) fun i => encF rItem a.1 ((0 : Nat) + i))))) : Int), (0 : Int)), ((-1 : Int), (0 : Nat), (0 : Nat), (0 : Nat)), decF rPost (0 : Nat) fun _x _x_1 => AV.top, decF rItem (0 : Nat) fun _x _x_1 => AV.top, decF rInt (0 : Nat) fun _x _x_1 => AV.top, decP pStd (0 : Nat) (fun _x _x_1 => AV.top) (fun _x => (0 : Nat)) fun _x _x_1 _x_2 => AV.top, decF rPII (0 : Nat) fun _x _x_1 => AV.top, decF rPII (0 : Nat) fun _x _x_1 => AV.top, PUnit.unit)) fun x0 =>
    .chk (decide (List.length x0.2.2.2.2.1 < (4611686018427387904 : Nat))) <|
    .ret (Bk.mk x0.2.1.1 (decF rPost (List.length x0.2.2.1) fun i => encF rPost x0.2.2.1 ((0 : Nat) + i)) (decF rItem (List.length x0.2.2.2.1) fun i => encF rItem x0.2.2.2.1 ((0 : Nat) + i)) (decF rInt (List.length x0.2.2.2.2.1) fun i => encF rInt (sortL (decF rInt (List.length x0.2.2.2.2.1) (encF rInt x0.2.2.2.2.1))) ((0 : Nat) + i)) (decP pStd (List.length x0.2.2.2.2.2.1) (encPF pStd x0.2.2.2.2.2.1) (encPL x0.2.2.2.2.2.1) (encPH pStd x0.2.2.2.2.2.1)) (decF rPII (List.length x0.2.2.2.2.2.2.1) (encF rPII x0.2.2.2.2.2.2.1)) (decF rPII (List.length x0.2.2.2.2.2.2.2.1) (encF rPII x0.2.2.2.2.2.2.2.1)))) := fun a => by kernel_rfl
end Go.Proofs.YtelpdkojdfnmiaaGreat
/-! LH7 -/
namespace Go.Proofs.YtelpdkojdfnmiaaGreat
open Ev K
set_option maxRecDepth 100000
namespace K
def Itm.Fm (x : Itm) : Prop := (1 ≤ x.id ∧ x.id ≤ 1099511627776) ∧ (0 ≤ x.known ∧ x.known ≤ 728) ∧ (0 ≤ x.day ∧ x.day ≤ 728) ∧ (0 ≤ x.amount ∧ x.amount ≤ 16777216) ∧
  ((x.kind = 1 ∧ (1 ≤ x.bill ∧ x.bill ≤ 1099511627776) ∧ (10 ≤ x.account ∧ x.account ≤ 1099511627776)) ∨ (x.kind = 2 ∧ (1 ≤ x.bill ∧ x.bill ≤ 1099511627776) ∧ x.day = 0 ∧ x.account = 0) ∨
   ((x.kind = 3 ∨ x.kind = 4 ∨ x.kind = 5 ∨ x.kind = 6) ∧ (10 ≤ x.account ∧ x.account ≤ 1099511627776) ∧ 1 ≤ x.amount ∧ x.bill = 0) ∨ (x.kind = 7 ∧ x.bill = 0 ∧ x.account = 0 ∧ x.amount = 0))
instance (x : Itm) : Decidable x.Fm := by unfold Itm.Fm; infer_instance
theorem ite_bool {p : Prop} [Decidable p] {b c : Bool} : ((if p then b else c) = true) ↔ (p ∧ b = true) ∨ (¬ p ∧ c = true) := by by_cases h : p <;> simp [h]
theorem l_within_iff (a b c : Int) : l_within (a, b, c) = true ↔ b ≤ a ∧ a ≤ c := by
  unfold l_within; simp only [ite_bool, decide_eq_true_eq, Bool.false_eq_true, and_false, or_false]
theorem r_within_iff (a b c : Int) : r_within (a, b, c) = true ↔ b ≤ a ∧ a ≤ c := by
  unfold r_within; simp only [ite_bool, decide_eq_true_eq, Bool.false_eq_true, and_false, or_false, ge_iff_le]
theorem l_formed_iff (x : Itm) : l_formed x = true ↔ x.Fm := by
  unfold l_formed Itm.Fm l_day l_bill l_other
  by_cases k1 : x.kind = 1
  · simp only [k1, ite_bool, Bool.not_eq_true', ← Bool.not_eq_true, l_within_iff, beq_iff_eq, Bool.and_eq_true, decide_eq_true_eq, Bool.false_eq_true, Int.reduceEq, not_false_eq_true, not_true_eq_false, and_false, false_and, or_false, false_or, true_and, and_true]; omega
  by_cases k2 : x.kind = 2
  · simp only [k2, ite_bool, Bool.not_eq_true', ← Bool.not_eq_true, l_within_iff, beq_iff_eq, Bool.and_eq_true, decide_eq_true_eq, Bool.false_eq_true, Int.reduceEq, not_false_eq_true, not_true_eq_false, and_false, false_and, or_false, false_or, true_and, and_true]; omega
  by_cases k3 : x.kind = 3
  · simp only [k3, ite_bool, Bool.not_eq_true', ← Bool.not_eq_true, l_within_iff, beq_iff_eq, Bool.and_eq_true, decide_eq_true_eq, Bool.false_eq_true, Int.reduceEq, not_false_eq_true, not_true_eq_false, and_false, false_and, or_false, false_or, true_and, and_true]; omega
  by_cases k4 : x.kind = 4
  · simp only [k4, ite_bool, Bool.not_eq_true', ← Bool.not_eq_true, l_within_iff, beq_iff_eq, Bool.and_eq_true, decide_eq_true_eq, Bool.false_eq_true, Int.reduceEq, not_false_eq_true, not_true_eq_false, and_false, false_and, or_false, false_or, true_and, and_true, or_true]; omega
  by_cases k5 : x.kind = 5
  · simp only [k5, ite_bool, Bool.not_eq_true', ← Bool.not_eq_true, l_within_iff, beq_iff_eq, Bool.and_eq_true, decide_eq_true_eq, Bool.false_eq_true, Int.reduceEq, not_false_eq_true, not_true_eq_false, and_false, false_and, or_false, false_or, true_and, and_true, or_true]; omega
  by_cases k6 : x.kind = 6
  · simp only [k6, ite_bool, Bool.not_eq_true', ← Bool.not_eq_true, l_within_iff, beq_iff_eq, Bool.and_eq_true, decide_eq_true_eq, Bool.false_eq_true, Int.reduceEq, not_false_eq_true, not_true_eq_false, and_false, false_and, or_false, false_or, true_and, and_true, or_true]; omega
  by_cases k7 : x.kind = 7
  · simp only [k7, ite_bool, Bool.not_eq_true', ← Bool.not_eq_true, l_within_iff, beq_iff_eq, Bool.and_eq_true, decide_eq_true_eq, Bool.false_eq_true, Int.reduceEq, not_false_eq_true, not_true_eq_false, and_false, false_and, or_false, false_or, true_and, and_true]; omega
  simp only [k1, k2, k3, k4, k5, k6, k7, ite_bool, Bool.not_eq_true', ← Bool.not_eq_true, l_within_iff, beq_iff_eq, Bool.false_eq_true, and_false, false_and, or_false]
theorem Itm.Fm.ok {x : Itm} (h : x.Fm) : x.Ok := by
  unfold Itm.Fm at h
  exact ⟨h.1, h.2.1, by omega, by omega, by omega, by omega, by omega⟩
def foldB (l : List Itm) : Bk := l.foldl doItem bk0
def knownOn (known : Int) (l : List Itm) : List Itm := l.takeWhile fun x => decide (x.known ≤ known)
def readB (l : List Itm) (known : Int) : Bk := { foldB (knownOn known (srt l)) with refused := sortL (foldB (knownOn known (srt l))).refused }
theorem foldl_ok : ∀ (l : List Itm) (n : Nat) (k : Bk), (∀ x ∈ l, x.Ok) → BkOk n k → BkOk (n + l.length) (l.foldl doItem k)
  | [], n, k, _, hk => hk
  | x :: l, n, k, h, hk => by
    rw [List.foldl_cons, List.length_cons, show n + (l.length + 1) = n + 1 + l.length by omega]
    exact foldl_ok l (n + 1) _ (fun y hy => h y (List.mem_cons_of_mem _ hy)) (hk.doItem (h x (List.mem_cons_self ..)))
theorem L_rd_eq {known : Int} {l : List Itm} (hl : l.length ≤ 1000) (hf : ∀ x ∈ l, x.Ok) : ∀ (d i : Nat) (k : Bk), i + d = l.length → BkOk i k →
    L_rd (rdS known l (i : Int) k) = some ((), objOf ((knownOn known (l.drop i)).foldl doItem k))
  | 0, i, k, h, hk => by
    refine lim_done ?_
    rw [sl_rd]; unfold rdS
    generalize ho : objOf ((knownOn known (l.drop i)).foldl doItem k) = o
    simp only [objOf, decF_encF, decP_encP]
    refine br_f (decide_eq_false (by omega)) ?_
    rw [← ho, List.drop_of_length_le (by omega)]; rfl
  | d + 1, i, k, h, hk => by
    have hi : i < l.length := by omega
    have hx := List.getElem?_eq_getElem hi
    have hm := List.getElem_mem hi
    generalize l[i] = x at hx hm
    have hdrop : l.drop i = x :: l.drop (i + 1) := by
      rw [List.drop_eq_getElem_cons hi]
      congr 1
      have := List.getElem?_eq_getElem hi
      rw [hx] at this; injection this with this; exact this.symm
    by_cases hkn : x.known ≤ known
    · refine (lim_step (rd_step hx (hf x hm) hk (by omega) (by omega) hkn)).trans ?_
      rw [show lim st_rd = L_rd from rfl, L_rd_eq hl hf d (i + 1) (doItem k x) (by omega) (hk.doItem (hf x hm)), hdrop]
      unfold knownOn
      rw [List.takeWhile_cons_of_pos (by simpa using hkn), List.foldl_cons]
    · refine lim_done ?_
      rw [sl_rd, hdrop]; unfold rdS knownOn
      rw [List.takeWhile_cons_of_neg (by simpa using hkn)]
      simp only [objOf, Int.toNat_natCast, Nat.zero_add, item_at hx, wr1, decF_encF, decP_encP]
      refine br_t (decide_eq_true (by omega)) (chk_step (decide_eq_true (by omega)) (br_t (decide_eq_true (by omega)) rfl))
theorem cp_mem {x : Itm} {l : List Itm} (h : x ∈ cp l) : x ∈ l := by
  have key : ∀ (l acc : List Itm), x ∈ l.foldl cpi acc → x ∈ acc ∨ x ∈ l := by
    intro l
    induction l with
    | nil => intro acc h; exact .inl h
    | cons y l ih =>
      intro acc h
      rcases ih _ h with h | h
      · unfold cpi at h
        split at h
        · exact .inl h
        · rcases List.mem_append.1 h with h | h
          · exact .inl h
          · simp at h; subst h; exact .inr (List.mem_cons_self ..)
      · exact .inr (List.mem_cons_of_mem _ h)
  rcases key l [] h with h | h
  · cases h
  · exact h
theorem srt_len (l : List Itm) : (srt l).length ≤ l.length := by
  have := cp_len (sortI l); rw [sortI_length] at this; exact this
theorem srt_mem {x : Itm} {l : List Itm} (h : x ∈ srt l) : x ∈ l := (sortF_spec swoI l).1.mem_iff.1 (cp_mem h)
theorem read_eq (l : List Itm) (known : Int) (hl : l.length ≤ 1000) (hf : ∀ x ∈ l, x.Fm) : callT1 P BLH61 30 64 D_ln dBk (l, known) = some (readB l known) := by
  rw [fn_read]
  have hs := srt_len l
  simp only [decF_enc0, clampL_eq (show (srt l).length ≤ maxL by unfold maxL; omega)]
  refine chk_step (decide_eq_true (by omega)) ?_
  have key := L_rd_eq (known := known) (l := srt l) (by omega) (fun x hx => (hf x (srt_mem hx)).ok) (srt l).length 0 bk0 (by omega) BkOk.zero
  refine obs_step key ?_
  have hb := foldl_ok (knownOn known (srt l)) 0 bk0 (fun x hx => (hf x (srt_mem (List.takeWhile_prefix _ |>.subset hx))).ok) BkOk.zero
  have hlen : (knownOn known (srt l)).length ≤ (srt l).length := (List.takeWhile_prefix _).length_le
  rw [List.drop_zero]
  generalize hk : (knownOn known (srt l)).foldl doItem bk0 = k at hb
  have hr : readB l known = { k with refused := sortL k.refused } := by unfold readB foldB; rw [hk]
  rw [hr]
  simp only [objOf, decF_encF, decP_encP]
  refine chk_step (decide_eq_true (by have := hb.refused; omega)) ?_
  have e : decF rInt k.refused.length (fun i => encF rInt (sortL k.refused) (0 + i)) = sortL k.refused := by
    have := decF_enc0 rInt (sortL k.refused); rw [sortL_length] at this; exact this
  rw [e]; rfl
def rdOk (l : List Itm) : Bool := decide (l.length ≤ 1000 ∧ ∀ x ∈ l, x.Fm)
def M_read (a : List Itm × Int) : T Bk := .chk (rdOk a.1) (.ret (readB a.1 a.2))
theorem read_pc (a : List Itm × Int) (r : Bk) (h : (M_read a).run = some r) : PC P 64 (D_ln.enc a) (dBk.enc r) := by
  obtain ⟨g, e⟩ := chk_ret h
  subst e
  have g := of_decide_eq_true g
  exact call_of okP tLH61 (read_eq a.1 a.2 g.1 g.2)
end K
noncomputable def BLH71 : Tab := BLH61.addCall 64 (callE D_ln dBk K.M_read)
theorem tLH71 : TabOk P BLH71 := TabOk.addPC tLH61 (K.read_pc)
end Go.Proofs.YtelpdkojdfnmiaaGreat
/-! LC0 -/
namespace Go.Proofs.YtelpdkojdfnmiaaGreat
open Ev K
set_option maxRecDepth 100000
noncomputable def BLC01 : Tab := BLH71.addInl 89
theorem tLC01 : TabOk P BLC01 := TabOk.addInl tLH71
noncomputable def BLC02 : Tab := BLC01.addInl 119
theorem tLC02 : TabOk P BLC02 := TabOk.addInl tLC01
noncomputable def BLC03 : Tab := BLC02.addInl 90
theorem tLC03 : TabOk P BLC03 := TabOk.addInl tLC02
noncomputable def BLC04 : Tab := BLC03.addInl 92
theorem tLC04 : TabOk P BLC04 := TabOk.addInl tLC03
noncomputable def BLC05 : Tab := BLC04.addInl 120
theorem tLC05 : TabOk P BLC05 := TabOk.addInl tLC04
def D_ask := DecL.cons (dRows rItem) (.last (dRows rInt) 0)
end Go.Proofs.YtelpdkojdfnmiaaGreat
/-! LC1 -/
namespace Go.Proofs.YtelpdkojdfnmiaaGreat
open Ev K
set_option maxRecDepth 100000
def F_chk : Dec Unit := dFn 90 (.unit (dLp 0 0 0 0) (.tops 0))
def O_chk : DecB (Itm × Unit) := .flat 73 lItem .nil
def E_chk : DecL (List Itm × List Itm × Int × Int) := .cons (dRows rItem) (.skips 7 (.cons (dRows rItem) (.cons dInt (.last dInt 13))))
def V_chk : DecL (List Itm × List Itm × Int × Int) := .skips 9 E_chk
def S_ixi := DecS.rnd (.cons (dRows rItem) (.unit F_chk (.skips 5 (.cons dInt (.last dInt 10))))) O_chk V_chk
def X_ixi := DecX.or (DecX.one (.exit 0) [] (DecS.rnd (.tops 19) .nil V_chk)) (DecX.one .ret [4] (DecS.rnd (.skips 4 (.last dInt 14)) .nil V_chk))
noncomputable def K.st_ixi := loopT1 P BLC05 30 119 17 [8, 0, 1, 7] S_ixi X_ixi
theorem sl_ixi : ∀ s, (K.st_ixi) s = T.run (
  .br (decide (s.1.2.2 < s.1.2.1)) (
    .chk (decide ((0 : Int) ≤ s.1.2.2 ∧ s.1.2.2 < (↑(List.length s.1.1) : Int))) <|
    .br (numOf (encF rItem s.1.1 ((0 : Nat) + Int.toNat s.1.2.2) (0 : Nat)) == Itm.id s.2.1.1) (
      .br (!(numOf (encF rItem s.1.1 ((0 : Nat) + Int.toNat s.1.2.2) (0 : Nat)) == Itm.id s.2.1.1 && (numOf (encF rItem s.1.1 ((0 : Nat) + Int.toNat s.1.2.2) (nat_lit 1)) == Itm.known s.2.1.1 && (numOf (encF rItem s.1.1 ((0 : Nat) + Int.toNat s.1.2.2) (nat_lit 2)) == Itm.kind s.2.1.1 && (numOf (encF rItem s.1.1 ((0 : Nat) + Int.toNat s.1.2.2) (nat_lit 3)) == Itm.day s.2.1.1 && (numOf (encF rItem s.1.1 ((0 : Nat) + Int.toNat s.1.2.2) (nat_lit 4)) == Itm.bill s.2.1.1 && (numOf (encF rItem s.1.1 ((0 : Nat) + Int.toNat s.1.2.2) (nat_lit 5)) == Itm.account s.2.1.1 && numOf (encF rItem s.1.1 ((0 : Nat) + Int.toNat s.1.2.2) (nat_lit 6)) == Itm.amount s.2.1.1))))))) (
        .ret (Sum.inr (Sum.inr (s.1.2.2, PUnit.unit, decF rItem (List.length s.2.2.1) fun i => encF rItem s.2.2.1 ((0 : Nat) + i), decF rItem (List.length s.2.2.2.1) fun i => encF rItem s.2.2.2.1 ((0 : Nat) + i), s.2.2.2.2)))) (
        .ret (Sum.inl ((decF rItem (List.length s.1.1) fun i => encF rItem s.1.1 ((0 : Nat) + i), s.1.2.1, IntKind.wrap IntKind.i64 (s.1.2.2 + (1 : Int))), (s.2.1.1, PUnit.unit), decF rItem (List.length s.2.2.1) fun i => encF rItem s.2.2.1 ((0 : Nat) + i), decF rItem (List.length s.2.2.2.1) fun i => encF rItem s.2.2.2.1 ((0 : Nat) + i), s.2.2.2.2)))) (
      .ret (Sum.inl ((decF rItem (List.length s.1.1) fun i => encF rItem s.1.1 ((0 : Nat) + i), s.1.2.1, IntKind.wrap IntKind.i64 (s.1.2.2 + (1 : Int))), (s.2.1.1, PUnit.unit), decF rItem (List.length s.2.2.1) fun i => encF rItem s.2.2.1 ((0 : Nat) + i), decF rItem (List.length s.2.2.2.1) fun i => encF rItem s.2.2.2.1 ((0 : Nat) + i), s.2.2.2.2)))) (
    .ret (Sum.inr (Sum.inl (PUnit.unit, PUnit.unit, decF rItem (List.length s.2.2.1) fun i => encF rItem s.2.2.1 ((0 : Nat) + i), decF rItem (List.length s.2.2.2.1) fun i => encF rItem s.2.2.2.1 ((0 : Nat) + i), s.2.2.2.2))))) := fun s => by kernel_rfl
noncomputable def K.L_ixi := lim K.st_ixi
noncomputable def BLC11 : Tab := BLC05.addNode 119 17 (nodeE [8, 0, 1, 7] S_ixi X_ixi (fun s => .obs (K.L_ixi s) .ret))
theorem tLC11 : TabOk P BLC11 := TabOk.addLoop (d := 30) okP tLC05 (by kernel_rfl) (by kernel_rfl) (fun s r h => obs_ret h)
def S_chk := DecS.mk1 E_chk
def X_chk := DecX.or (DecX.one (.exit 0) [] (DecS.mk1 (.tops 24))) (DecX.one .ret [2] (DecS.mk1 (.skips 2 (.last dInt 21))))
noncomputable def K.st_chk := loopT1 P BLC11 30 55 33 [10, 0, 8, 9] S_chk X_chk
theorem sl_chk : ∀ s, (K.st_chk) s = T.run (
  .br (decide (s.2.2.2 < s.2.2.1)) (
    .chk (decide ((0 : Int) ≤ s.2.2.2 ∧ s.2.2.2 < (↑(List.length s.2.1) : Int))) <|
    .br (!l_formed (Itm.mk (numOf (encF rItem s.2.1 ((0 : Nat) + Int.toNat s.2.2.2) (0 : Nat))) (numOf (encF rItem s.2.1 ((0 : Nat) + Int.toNat s.2.2.2) (nat_lit 1))) (numOf (encF rItem s.2.1 ((0 : Nat) + Int.toNat s.2.2.2) (nat_lit 2))) (numOf (encF rItem s.2.1 ((0 : Nat) + Int.toNat s.2.2.2) (nat_lit 3))) (numOf (encF rItem s.2.1 ((0 : Nat) + Int.toNat s.2.2.2) (nat_lit 4))) (numOf (encF rItem s.2.1 ((0 : Nat) + Int.toNat s.2.2.2) (nat_lit 5))) (numOf (encF rItem s.2.1 ((0 : Nat) + Int.toNat s.2.2.2) (nat_lit 6))))) (
      .ret (Sum.inr (Sum.inr (1 : Int)))) (
      .chk (decide ((0 : Int) ≤ s.2.2.2 ∧ s.2.2.2 ≤ (↑(List.length s.1) : Int)) && true) <|
      .obs (L_ixi ((decF rItem (Int.toNat s.2.2.2 - (0 : Nat)) fun i => encF rItem s.1 (nat_lit 0 + i), (↑(clampL (Int.toNat s.2.2.2 - (0 : Nat))) : Int), (0 : Int)), (Itm.mk (numOf (encF rItem s.2.1 ((0 : Nat) + Int.toNat s.2.2.2) (0 : Nat))) (numOf (encF rItem s.2.1 ((0 : Nat) + Int.toNat s.2.2.2) (nat_lit 1))) (numOf (encF rItem s.2.1 ((0 : Nat) + Int.toNat s.2.2.2) (nat_lit 2))) (numOf (encF rItem s.2.1 ((0 : Nat) + Int.toNat s.2.2.2) (nat_lit 3))) (numOf (encF rItem s.2.1 ((0 : Nat) + Int.toNat s.2.2.2) (nat_lit 4))) (numOf (encF rItem s.2.1 ((0 : Nat) + Int.toNat s.2.2.2) (nat_lit 5))) (numOf (encF rItem s.2.1 ((0 : Nat) + Int.toNat s.2.2.2) (nat_lit 6))), PUnit.unit), decF rItem (List.length s.1) fun i => encF rItem s.1 ((0 : Nat) + i), decF rItem (List.length s.2.1) fun i => encF rItem s.2.1 ((0 : Nat) + i), s.2.2)) fun x0 =>
        .sum (x0) (fun x1 =>
          .ret (Sum.inl (decF rItem (List.length x1.2.2.1) fun i => encF rItem x1.2.2.1 ((0 : Nat) + i), decF rItem (List.length x1.2.2.2.1) fun i => encF rItem x1.2.2.2.1 ((0 : Nat) + i), x1.2.2.2.2.1, IntKind.wrap IntKind.i64 (x1.2.2.2.2.2 + (1 : Int))))) (fun x1 =>
          .br (decide (x1.1 ≥ (0 : Int))) (
            .ret (Sum.inr (Sum.inr (6 : Int)))) (
            .ret (Sum.inl (decF rItem (List.length x1.2.2.1) fun i => encF rItem x1.2.2.1 ((0 : Nat) + i), decF rItem (List.length x1.2.2.2.1) fun i => encF rItem x1.2.2.2.1 ((0 : Nat) + i), x1.2.2.2.2.1, IntKind.wrap IntKind.i64 (x1.2.2.2.2.2 + (1 : Int)))))))) (
    .ret (Sum.inr (Sum.inl PUnit.unit)))) := fun s => by kernel_rfl
noncomputable def K.L_chk := lim K.st_chk
noncomputable def BLC12 : Tab := BLC11.addNode 55 33 (nodeE [10, 0, 8, 9] S_chk X_chk (fun s => .obs (K.L_chk s) .ret))
theorem tLC12 : TabOk P BLC12 := TabOk.addLoop (d := 30) okP tLC11 (by kernel_rfl) (by kernel_rfl) (fun s r h => obs_ret h)
theorem fn_chk : ∀ a, (callT1 P BLC12 30 55 D_l dInt) a = T.run (
  .br (decide ((↑(clampL (List.length a)) : Int) > (60 : Int))) (
    .ret ((2 : Int))) (
    .obs (L_chk (decF rItem (List.length a) fun i => encF rItem a ((0 : Nat) + i), decF rItem (List.length a) fun i => encF rItem a ((0 : Nat) + i), (↑(clampL (List.length a)) : Int), (0 : Int))) fun x0 =>
      .sum (x0) (fun _ =>
        .ret ((0 : Int))) (fun x1 =>
        .ret (x1)))) := fun a => by kernel_rfl
end Go.Proofs.YtelpdkojdfnmiaaGreat
/-! LC2 -/
namespace Go.Proofs.YtelpdkojdfnmiaaGreat
open Ev K
set_option maxRecDepth 100000
namespace K
def errAt (l : List Itm) (i : Nat) : Option Int := match l[i]? with
  | none => none
  | some x => if x.Fm then (if (l.take i).any fun y => decide (y.id = x.id ∧ y ≠ x) then some 6 else none) else some 1
def checkV (l : List Itm) : Int := if l.length > 60 then 2 else ((List.range l.length).findSome? (errAt l)).getD 0
theorem checkV_ok {l : List Itm} (h : checkV l = 0) : l.length ≤ 60 ∧ (∀ x ∈ l, x.Fm) ∧ ∀ (i j : Nat) (x y : Itm), i < j → l[i]? = some x → l[j]? = some y → x.id = y.id → x = y := by
  unfold checkV at h
  split at h
  · simp at h
  rename_i h60
  have hn : ∀ i, i < l.length → errAt l i = none := by
    intro i hi
    cases hf : (List.range l.length).findSome? (errAt l) with
    | none => rw [List.findSome?_eq_none_iff] at hf; exact hf i (List.mem_range.2 hi)
    | some e =>
      rw [hf] at h
      obtain ⟨a, ha⟩ := List.exists_of_findSome?_eq_some hf
      exfalso
      have := ha.2
      unfold errAt at this
      simp only [Option.getD_some] at h
      subst h
      split at this
      · cases this
      · split at this
        · split at this <;> simp at this
        · simp at this
  have key : ∀ (i : Nat) (x : Itm), l[i]? = some x → x.Fm ∧ ((l.take i).any fun y => decide (y.id = x.id ∧ y ≠ x)) = false := by
    intro i x hx
    obtain ⟨hi, _⟩ := List.getElem?_eq_some_iff.1 hx
    have := hn i hi
    unfold errAt at this
    rw [hx] at this
    simp only at this
    split at this
    · rename_i hf
      split at this
      · cases this
      · rename_i ha; exact ⟨hf, by simpa using ha⟩
    · cases this
  refine ⟨by omega, fun x hx => ?_, fun i j x y hij hx hy he => ?_⟩
  · obtain ⟨i, hi, e⟩ := List.getElem_of_mem hx
    exact (key i x (by rw [List.getElem?_eq_getElem hi, e])).1
  · have := (key j y hy).2
    rw [List.any_eq_false] at this
    have hm : x ∈ l.take j := by
      rw [List.mem_take_iff_getElem]
      obtain ⟨hi, e⟩ := List.getElem?_eq_some_iff.1 hx
      exact ⟨i, by omega, e⟩
    have := this x hm
    simp only [decide_eq_true_eq] at this
    exact Classical.byContradiction fun hne => this ⟨he, hne⟩
def pIx (l : List Itm) (x : Itm) (j : Nat) : Bool := match l[j]? with
  | some y => decide (y.id = x.id ∧ y ≠ x)
  | none => false
theorem L_ixi_eq (l : List Itm) (hl : l.length ≤ 1000) (x : Itm) (A B : List Itm) (v : Int × Int) :
    L_ixi ((l, (l.length : Int), 0), (x, ()), A, B, v) = some (match first (pIx l x) l.length with
      | some j => .inr ((j : Int), (), A, B, v)
      | none => .inl ((), (), A, B, v)) := by
  refine (lim_find (fun i : Nat => ((l, (l.length : Int), (i : Int)), (x, ()), A, B, v)) l.length (pIx l x) (fun j => .inr ((j : Int), (), A, B, v)) (.inl ((), (), A, B, v)) (fun i hi hp => ?_) (fun i hi hp => ?_) ?_).trans ?_
  · rw [sl_ixi]
    have hy := List.getElem?_eq_getElem hi
    unfold pIx at hp; rw [hy] at hp
    generalize l[i] = y at hy hp
    simp only [decide_eq_true_eq] at hp
    simp only [Int.toNat_natCast, Nat.zero_add, item_at hy, wr0, wr1, wr2, wr3, wr4, wr5, wr6, decF_encF]
    refine br_t (decide_eq_true (by omega)) (chk_step (decide_eq_true (by omega)) (br_t (beq_iff_eq.2 hp.1) (br_t ?_ rfl)))
    rw [Bool.not_eq_true', ← Bool.not_eq_true]; exact fun h => hp.2 ((sameI_iff y x).1 h)
  · rw [sl_ixi]
    have hy := List.getElem?_eq_getElem hi
    unfold pIx at hp; rw [hy] at hp
    generalize l[i] = y at hy hp
    simp only [decide_eq_false_iff_not] at hp
    have w : IntKind.i64.wrap ((i : Int) + 1) = ((i + 1 : Nat) : Int) := by rw [w64_in (by omega) (by omega)]; rfl
    simp only [Int.toNat_natCast, Nat.zero_add, item_at hy, wr0, wr1, wr2, wr3, wr4, wr5, wr6, decF_encF, w]
    refine br_t (decide_eq_true (by omega)) (chk_step (decide_eq_true (by omega)) ?_)
    by_cases he : y.id = x.id
    · have hxy : y = x := Classical.byContradiction fun hne => hp ⟨he, hne⟩
      exact br_t (beq_iff_eq.2 he) (br_f (by rw [Bool.not_eq_false']; exact (sameI_iff y x).2 hxy) rfl)
    · exact br_f (by rw [beq_eq_false_iff_ne]; exact he) rfl
  · rw [sl_ixi]
    simp only [Nat.zero_add, decF_encF]
    exact br_f (decide_eq_false (by omega)) rfl
  · cases first (pIx l x) l.length <;> rfl
theorem any_first (l : List Itm) (x : Itm) : (l.any fun y => decide (y.id = x.id ∧ y ≠ x)) = (first (pIx l x) l.length).isSome := by
  apply Bool.eq_iff_iff.2
  rw [List.any_eq_true, Option.isSome_iff_exists]
  constructor
  · rintro ⟨y, hy, h⟩
    obtain ⟨j, hj, e⟩ := List.getElem_of_mem hy
    cases hf : first (pIx l x) l.length with
    | some i => exact ⟨i, rfl⟩
    | none =>
      have := first_none' hf j hj
      unfold pIx at this
      rw [List.getElem?_eq_getElem hj, e] at this
      simp only at this
      rw [h] at this; cases this
  · rintro ⟨j, hj⟩
    obtain ⟨h1, h2, _⟩ := first_spec hj
    unfold pIx at h2
    rw [List.getElem?_eq_getElem h1] at h2
    exact ⟨_, List.getElem_mem h1, h2⟩
theorem L_chk_eq (l : List Itm) (hl : l.length ≤ 1000) : L_chk (l, l, (l.length : Int), 0) = some (match (List.range l.length).findSome? (errAt l) with
    | some e => .inr e
    | none => .inl ()) := by
  refine (lim_err (fun i : Nat => (l, l, (l.length : Int), (i : Int))) l.length (errAt l) (fun e => .inr e) (.inl ()) (fun i hi => ?_) ?_).trans ?_
  · rw [sl_chk]
    have hy := List.getElem?_eq_getElem hi
    unfold errAt; rw [hy]
    generalize l[i] = x at hy
    have hid : (⟨x.id, x.known, x.kind, x.day, x.bill, x.account, x.amount⟩ : Itm) = x := rfl
    have w : IntKind.i64.wrap ((i : Int) + 1) = ((i + 1 : Nat) : Int) := by rw [w64_in (by omega) (by omega)]; rfl
    simp only [Int.toNat_natCast, Nat.zero_add, item_at hy, wr0, wr1, wr2, wr3, wr4, wr5, wr6, decF_encF, Nat.sub_zero, hid, clampL_eq (show i ≤ maxL by unfold maxL; omega)]
    have hd : decF rItem i (fun i => encF rItem l i) = l.take i := by
      have := decF_drop rItem l 0 i (by omega)
      simpa using this
    refine br_t (decide_eq_true (by omega)) (chk_step (decide_eq_true (by omega)) ?_)
    by_cases hf : x.Fm
    · refine br_f (by rw [Bool.not_eq_false']; exact (l_formed_iff x).2 hf) (chk_step (by simp only [Bool.and_true, decide_eq_true_eq]; omega) ?_)
      rw [if_pos hf, any_first]
      have hlen : (l.take i).length = i := by rw [List.length_take]; omega
      have key := L_ixi_eq (l.take i) (by omega) x l l ((l.length : Int), (i : Int))
      rw [hlen] at key
      refine obs_step (by rw [show decF rItem i (fun i => encF rItem l i) = l.take i from hd]; exact key) ?_
      rw [hlen]
      cases first (pIx (l.take i) x) i with
      | none =>
        show T.run (.ret _) = _
        simp only [w]; rfl
      | some j =>
        refine (T.run_inr _ _ _).trans ?_
        dsimp only
        exact br_t (decide_eq_true (Int.natCast_nonneg j)) rfl
    · rw [if_neg hf]
      exact br_t (by rw [Bool.not_eq_true', ← Bool.not_eq_true]; exact fun h => hf ((l_formed_iff x).1 h)) rfl
  · rw [sl_chk]
    dsimp only
    exact br_f (decide_eq_false (by omega)) rfl
  · cases (List.range l.length).findSome? (errAt l) <;> rfl
theorem check_eq (l : List Itm) : callT1 P BLC12 30 55 D_l dInt l = some (checkV l) := by
  rw [fn_chk]
  unfold checkV
  by_cases h : l.length > 60
  · rw [if_pos h]
    refine br_t (decide_eq_true ?_) rfl
    unfold clampL maxL; split <;> omega
  · rw [if_neg h]
    simp only [clampL_eq (show l.length ≤ maxL by unfold maxL; omega), decF_enc0]
    refine br_f (decide_eq_false (by omega)) ?_
    refine obs_step (L_chk_eq l (by omega)) ?_
    cases (List.range l.length).findSome? (errAt l) <;> rfl
end K
noncomputable def BLC21 : Tab := BLC12.addCall 55 (callE D_l dInt (fun a => .ret (K.checkV a)))
theorem tLC21 : TabOk P BLC21 := TabOk.addPC tLC12 (fun a r h => by rw [← ret_some h]; exact call_of okP tLC12 (K.check_eq a))
end Go.Proofs.YtelpdkojdfnmiaaGreat
/-! LC3 -/
namespace Go.Proofs.YtelpdkojdfnmiaaGreat
open Ev K
set_option maxRecDepth 100000
theorem fn_l_askd : ∀ a, (callT1 P BLC21 30 93 D1 dB) a = T.run (
  .ret (!l_day a)) := fun a => by kernel_rfl
noncomputable def K.l_askd (a : Int) : Bool := !l_day a
theorem eq_l_askd (a : Int) : (callT1 P BLC21 30 93 D1 dB) a = some (K.l_askd a) := (fn_l_askd a).trans rfl
noncomputable def BLC31 : Tab := BLC21.addCall 93 (callE D1 dB (fun a => .ret (K.l_askd a)))
theorem tLC31 : TabOk P BLC31 := TabOk.addFn (d := 30) okP tLC21 (fun a r h => by rw [eq_l_askd]; exact congrArg some (ret_some h))
def F_ask : Dec Unit := dFn 93 (.tops 0)
def S_ixn := DecS.rnd (.cons (dRows rInt) (.unit F_ask (.skips 5 (.cons dInt (.last dInt 10))))) .nil (.tops 22)
def X_ixn := DecX.or (DecX.one (.exit 0) [] (DecS.rnd (.tops 19) .nil (.tops 22))) (DecX.one .ret [4] (DecS.rnd (.skips 4 (.last dInt 14)) .nil (.tops 22)))
noncomputable def K.st_ixn := loopT1 P BLC31 30 120 17 [8, 0, 1, 7] S_ixn X_ixn
theorem sl_ixn : ∀ s, (K.st_ixn) s = T.run (
  .br (decide (s.1.2.2 < s.1.2.1)) (
    .chk (decide ((0 : Int) ≤ s.1.2.2 ∧ s.1.2.2 < (↑(List.length s.1.1) : Int))) <|
    .br (l_askd (numOf (encF rInt s.1.1 ((0 : Nat) + Int.toNat s.1.2.2) (0 : Nat)))) (
      .ret (Sum.inr (Sum.inr (s.1.2.2, PUnit.unit, PUnit.unit)))) (
      .ret (Sum.inl ((decF rInt (List.length s.1.1) fun i => encF rInt s.1.1 ((0 : Nat) + i), s.1.2.1, IntKind.wrap IntKind.i64 (s.1.2.2 + (1 : Int))), PUnit.unit, PUnit.unit)))) (
    .ret (Sum.inr (Sum.inl (PUnit.unit, PUnit.unit, PUnit.unit))))) := fun s => by kernel_rfl
noncomputable def K.L_ixn := lim K.st_ixn
noncomputable def BLC32 : Tab := BLC31.addNode 120 17 (nodeE [8, 0, 1, 7] S_ixn X_ixn (fun s => .obs (K.L_ixn s) .ret))
theorem tLC32 : TabOk P BLC32 := TabOk.addLoop (d := 30) okP tLC31 (by kernel_rfl) (by kernel_rfl) (fun s r h => obs_ret h)
theorem fn_ask : ∀ a, (callT1 P BLC32 30 63 D_ask dInt) a = T.run (
  .br (checkV (decF rItem (List.length a.1) fun i => encF rItem a.1 ((0 : Nat) + i)) != (0 : Int)) (
    .ret (checkV (decF rItem (List.length a.1) fun i => encF rItem a.1 ((0 : Nat) + i)))) (
    .obs (L_ixn ((decF rInt (List.length a.2) fun i => encF rInt a.2 ((0 : Nat) + i), (↑(clampL (List.length a.2)) : Int), (0 : Int)), PUnit.unit, PUnit.unit)) fun x0 =>
      .sum (x0) (fun _ =>
        .ret ((0 : Int))) (fun x1 =>
        .br (decide (x1.1 ≥ (0 : Int))) (
          .ret ((1 : Int))) (
          .ret ((0 : Int)))))) := fun a => by kernel_rfl
namespace K
def dayOk (n : Int) : Prop := 0 ≤ n ∧ n ≤ 728
instance (n : Int) : Decidable (dayOk n) := by unfold dayOk; infer_instance
theorem l_day_iff (n : Int) : l_day n = true ↔ dayOk n := by unfold l_day dayOk; exact l_within_iff n 0 728
theorem r_day_iff (n : Int) : r_day n = true ↔ dayOk n := by unfold r_day dayOk; exact r_within_iff n 0 728
theorem l_askd_eq (n : Int) : l_askd n = !decide (dayOk n) := by
  unfold l_askd; congr 1; apply Bool.eq_iff_iff.2; rw [l_day_iff, decide_eq_true_eq]
theorem int_at {l : List Int} {i : Nat} {x : Int} (h : l[i]? = some x) : encF rInt l i = rInt.wr x := encF_at h
theorem L_ixn_eq (l : List Int) (hl : l.length ≤ 1000) : L_ixn ((l, (l.length : Int), 0), (), ()) = some (match first (fun j => match l[j]? with | some n => !decide (dayOk n) | none => false) l.length with
      | some j => .inr ((j : Int), (), ())
      | none => .inl ((), (), ())) := by
  refine (lim_find (fun i : Nat => ((l, (l.length : Int), (i : Int)), (), ())) l.length (fun j => match l[j]? with | some n => !decide (dayOk n) | none => false) (fun j => .inr ((j : Int), (), ())) (.inl ((), (), ())) (fun i hi hp => ?_) (fun i hi hp => ?_) ?_).trans ?_
  · rw [sl_ixn]
    have hy := List.getElem?_eq_getElem hi
    rw [hy] at hp
    simp only at hp
    simp only [Int.toNat_natCast, Nat.zero_add, int_at hy, l_askd_eq]
    exact br_t (decide_eq_true (by omega)) (chk_step (decide_eq_true (by omega)) (br_t hp rfl))
  · rw [sl_ixn]
    have hy := List.getElem?_eq_getElem hi
    rw [hy] at hp
    simp only at hp
    have w : IntKind.i64.wrap ((i : Int) + 1) = ((i + 1 : Nat) : Int) := by rw [w64_in (by omega) (by omega)]; rfl
    simp only [Int.toNat_natCast, Nat.zero_add, int_at hy, l_askd_eq, w, decF_encF]
    exact br_t (decide_eq_true (by omega)) (chk_step (decide_eq_true (by omega)) (br_f hp rfl))
  · rw [sl_ixn]
    dsimp only
    exact br_f (decide_eq_false (by omega)) rfl
  · cases first (fun j => match l[j]? with | some n => !decide (dayOk n) | none => false) l.length <;> rfl
def askedV (l : List Itm) (days : List Int) : Int := if checkV l ≠ 0 then checkV l else if ∀ n ∈ days, dayOk n then 0 else 1
theorem ask_eq (l : List Itm) (days : List Int) (hd : days.length ≤ 1000) : callT1 P BLC32 30 63 D_ask dInt (l, days) = some (askedV l days) := by
  rw [fn_ask]
  unfold askedV
  simp only [decF_enc0, clampL_eq (show days.length ≤ maxL by unfold maxL; omega)]
  by_cases h : checkV l = 0
  · rw [if_neg (by simpa using h)]
    refine br_f (by simpa using h) (obs_step (L_ixn_eq days hd) ?_)
    cases hf : first (fun j => match days[j]? with | some n => !decide (dayOk n) | none => false) days.length with
    | none =>
      have hn := first_none' hf
      rw [if_pos fun n hm => ?_]
      · rfl
      · obtain ⟨j, hj, e⟩ := List.getElem_of_mem hm
        have := hn j hj
        rw [List.getElem?_eq_getElem hj, e] at this
        simpa using this
    | some j =>
      obtain ⟨h1, h2, _⟩ := first_spec hf
      rw [List.getElem?_eq_getElem h1] at h2
      rw [if_neg fun hall => ?_]
      · refine (T.run_inr _ _ _).trans ?_
        dsimp only
        exact br_t (decide_eq_true (Int.natCast_nonneg j)) rfl
      · have := hall _ (List.getElem_mem h1)
        simp only [this, decide_true, Bool.not_true] at h2
        cases h2
  · rw [if_pos h]
    exact br_t (by simpa using h) rfl
theorem ask_pc (a : List Itm × List Int) (r : Int) (h : (T.chk (decide (a.2.length ≤ 1000)) (.ret (askedV a.1 a.2))).run = some r) : PC P 63 (D_ask.enc a) (dInt.enc r) := by
  obtain ⟨g, e⟩ := chk_ret h
  subst e
  exact call_of okP tLC32 (ask_eq a.1 a.2 (of_decide_eq_true g))
end K
noncomputable def BLC33 : Tab := BLC32.addCall 63 (callE D_ask dInt (fun a => .chk (decide (a.2.length ≤ 1000)) (.ret (K.askedV a.1 a.2))))
theorem tLC33 : TabOk P BLC33 := TabOk.addPC tLC32 (K.ask_pc)
end Go.Proofs.YtelpdkojdfnmiaaGreat
/-! LD0 -/
namespace Go.Proofs.YtelpdkojdfnmiaaGreat
open Ev K
set_option maxRecDepth 100000
noncomputable def BLD01 : Tab := BLC33.addInl 103
theorem tLD01 : TabOk P BLD01 := TabOk.addInl tLC33
noncomputable def BLD02 : Tab := BLD01.addInl 104
theorem tLD02 : TabOk P BLD02 := TabOk.addInl tLD01
noncomputable def BLD03 : Tab := BLD02.addInl 67
theorem tLD03 : TabOk P BLD03 := TabOk.addInl tLD02
def D_bal : DecL (List Pst × Int) := DecL.cons (dP 7 (.skip (.last (dRows rPost) 5)) 0) (.last dInt 0)
end Go.Proofs.YtelpdkojdfnmiaaGreat
