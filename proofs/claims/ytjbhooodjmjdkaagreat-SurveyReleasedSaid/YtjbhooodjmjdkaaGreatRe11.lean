/- Parts of the proof, one behind the other: KLr3, KLot, KLr4, KLs1, KLs2, KLs3, KLs4, KLs5, KLs6, KLs7. No conditions. -/
import Derived.Test.YtjbhooodjmjdkaaGreatRe10
/-! KLr3 -/
namespace Go.Proofs.YtjbhooodjmjdkaaGreat
open Ev K
set_option maxRecDepth 100000
def S_rf1 := DecS.ghost 7 3 1 [.int .i64] (DecS.mk0 (.cons (dRows rSpan) (.cons (dRows rInt) (.cons (dI .i64) (.skips 4 (.cons (dO 0) (.last (dI .i64) 84)))))) (.rows 3 rInt .nil))
def X_rf1 := DecX.one (.exit 0) [0, 1, 2, 7] (DecS.mk0 (.cons (dRows rSpan) (.cons (dRows rInt) (.cons (dI .i64) (.skips 4 (.last (dO 0) 85))))) (.rows 3 rInt .nil))
noncomputable def K.st_rf1 := loopT1 P BKLr23 30 109 25 [8, 0, 7, 1, 2] S_rf1 X_rf1
theorem sl_rf1 : ∀ s, (K.st_rf1) s = T.run (
  .br (decide (Prod.snd (Prod.snd (Prod.snd (Prod.snd (Prod.fst s)))) < (↑(clampL (List.length (Prod.fst (Prod.fst s)))) : Int))) (
    .chk (decide ((0 : Int) ≤ Prod.snd (Prod.snd (Prod.snd (Prod.snd (Prod.fst s)))) ∧ Prod.snd (Prod.snd (Prod.snd (Prod.snd (Prod.fst s)))) < (↑(List.length (Prod.fst (Prod.fst s))) : Int))) <|
    .chk (decide ((List.length (Prod.fst (Prod.snd s)) + (1 : Nat)) * (8 : Nat) ≤ (140737488355328 : Nat) ∧ List.length (Prod.fst (Prod.snd s)) + (1 : Nat) ≤ nat_lit 9223372036854775807)) <|
    .ret (Sum.inl ((decF rSpan (List.length (Prod.fst (Prod.fst s))) fun i => encF rSpan (Prod.fst (Prod.fst s)) ((0 : Nat) + i), decF rInt (List.length (Prod.fst (Prod.snd (Prod.fst s)))) fun i => encF rInt (Prod.fst (Prod.snd (Prod.fst s))) ((0 : Nat) + i), Prod.fst (Prod.snd (Prod.snd (Prod.fst s))), List.length (Prod.fst (Prod.snd s)) + (1 : Nat), IntKind.wrap IntKind.i64 (Prod.snd (Prod.snd (Prod.snd (Prod.snd (Prod.fst s)))) + (1 : Int))), decF rInt (List.length (Prod.fst (Prod.snd s)) + (1 : Nat)) (appG (List.length (Prod.fst (Prod.snd s))) (encF rInt (Prod.fst (Prod.snd s))) fun i k => Option.getD [AV.int IntKind.i64 (numOf (encF rSpan (Prod.fst (Prod.fst s)) ((0 : Nat) + Int.toNat (Prod.snd (Prod.snd (Prod.snd (Prod.snd (Prod.fst s)))))) (nat_lit 0)))][((0 : Nat) + i) * (1 : Nat) + k]? AV.top), PUnit.unit))) (
    .ret (Sum.inr ((decF rSpan (List.length (Prod.fst (Prod.fst s))) fun i => encF rSpan (Prod.fst (Prod.fst s)) ((0 : Nat) + i), decF rInt (List.length (Prod.fst (Prod.snd (Prod.fst s)))) fun i => encF rInt (Prod.fst (Prod.snd (Prod.fst s))) ((0 : Nat) + i), Prod.fst (Prod.snd (Prod.snd (Prod.fst s))), Prod.fst (Prod.snd (Prod.snd (Prod.snd (Prod.fst s))))), decF rInt (List.length (Prod.fst (Prod.snd s))) (encF rInt (Prod.fst (Prod.snd s))), PUnit.unit)))) := fun s => by kernel_rfl
noncomputable def K.L_rf1 := lim K.st_rf1
noncomputable def BKLr31 : Tab := BKLr23.addNode 109 25 (nodeE [8, 0, 7, 1, 2] S_rf1 X_rf1 (fun s => .obs (K.L_rf1 s) .ret))
theorem tKLr31 : TabOk P BKLr31 := TabOk.addLoop (d := 30) okP tKLr23 (by kernel_rfl) (by kernel_rfl) (fun s r h => obs_ret h)
def S_rf3 := DecS.mk0 (.cons (dRows rSpan) (.cons (dRows rInt) (.skips 5 (.cons (dO 0) (.skip (.cons (dI .i64) (.cons (dI .i64) (.last (dI .i64) 81)))))))) (.rows 3 rInt .nil)
def X_rf3 := DecX.one (.exit 4) [0, 1, 7, 9, 10] (DecS.mk0 (.cons (dRows rSpan) (.cons (dRows rInt) (.skips 5 (.cons (dO 0) (.skip (.cons (dI .i64) (.last (dI .i64) 82))))))) (.rows 3 rInt .nil))
noncomputable def K.st_rf3 := loopT1 P BKLr31 30 109 81 [11, 10, 1, 0, 7, 9] S_rf3 X_rf3
theorem sl_rf3 : ∀ s, (K.st_rf3) s = T.run (
  .br (decide (Prod.snd (Prod.snd (Prod.snd (Prod.snd (Prod.snd (Prod.fst s))))) < (↑(clampL (List.length (Prod.fst (Prod.fst s)))) : Int))) (
    .chk (decide ((0 : Int) ≤ Prod.snd (Prod.snd (Prod.snd (Prod.snd (Prod.snd (Prod.fst s))))) ∧ Prod.snd (Prod.snd (Prod.snd (Prod.snd (Prod.snd (Prod.fst s))))) < (↑(Prod.fst (Prod.snd (Prod.snd (Prod.fst s)))) : Int))) <|
    .chk (decide ((0 : Int) ≤ Prod.snd (Prod.snd (Prod.snd (Prod.snd (Prod.snd (Prod.fst s))))) ∧ Prod.snd (Prod.snd (Prod.snd (Prod.snd (Prod.snd (Prod.fst s))))) < (↑(List.length (Prod.fst (Prod.fst s))) : Int))) <|
    .br (decide (numOf (encF rInt (Prod.fst (Prod.snd s)) (Int.toNat (Prod.snd (Prod.snd (Prod.snd (Prod.snd (Prod.snd (Prod.fst s))))))) (0 : Nat)) < numOf (encF rSpan (Prod.fst (Prod.fst s)) ((0 : Nat) + Int.toNat (Prod.snd (Prod.snd (Prod.snd (Prod.snd (Prod.snd (Prod.fst s))))))) (nat_lit 1)))) (
      .br (decide (Prod.fst (Prod.snd (Prod.snd (Prod.snd (Prod.snd (Prod.fst s))))) < (0 : Int))) (
        .ret (Sum.inl ((decF rSpan (List.length (Prod.fst (Prod.fst s))) fun i => encF rSpan (Prod.fst (Prod.fst s)) ((0 : Nat) + i), decF rInt (List.length (Prod.fst (Prod.snd (Prod.fst s)))) fun i => encF rInt (Prod.fst (Prod.snd (Prod.fst s))) ((0 : Nat) + i), Prod.fst (Prod.snd (Prod.snd (Prod.fst s))), Prod.fst (Prod.snd (Prod.snd (Prod.snd (Prod.fst s)))), Prod.snd (Prod.snd (Prod.snd (Prod.snd (Prod.snd (Prod.fst s))))), IntKind.wrap IntKind.i64 (Prod.snd (Prod.snd (Prod.snd (Prod.snd (Prod.snd (Prod.fst s))))) + (1 : Int))), decF rInt (List.length (Prod.fst (Prod.snd s))) (encF rInt (Prod.fst (Prod.snd s))), PUnit.unit))) (
        .chk (decide ((0 : Int) ≤ Prod.snd (Prod.snd (Prod.snd (Prod.snd (Prod.snd (Prod.fst s))))) ∧ Prod.snd (Prod.snd (Prod.snd (Prod.snd (Prod.snd (Prod.fst s))))) < (↑(List.length (Prod.fst (Prod.snd (Prod.fst s)))) : Int))) <|
        .chk (decide ((0 : Int) ≤ Prod.fst (Prod.snd (Prod.snd (Prod.snd (Prod.snd (Prod.fst s))))) ∧ Prod.fst (Prod.snd (Prod.snd (Prod.snd (Prod.snd (Prod.fst s))))) < (↑(List.length (Prod.fst (Prod.snd (Prod.fst s)))) : Int))) <|
        .br (decide (numOf (encF rInt (Prod.fst (Prod.snd (Prod.fst s))) ((0 : Nat) + Int.toNat (Prod.snd (Prod.snd (Prod.snd (Prod.snd (Prod.snd (Prod.fst s))))))) (0 : Nat)) > numOf (encF rInt (Prod.fst (Prod.snd (Prod.fst s))) ((0 : Nat) + Int.toNat (Prod.fst (Prod.snd (Prod.snd (Prod.snd (Prod.snd (Prod.fst s))))))) (0 : Nat)))) (
          .ret (Sum.inl ((decF rSpan (List.length (Prod.fst (Prod.fst s))) fun i => encF rSpan (Prod.fst (Prod.fst s)) ((0 : Nat) + i), decF rInt (List.length (Prod.fst (Prod.snd (Prod.fst s)))) fun i => encF rInt (Prod.fst (Prod.snd (Prod.fst s))) ((0 : Nat) + i), Prod.fst (Prod.snd (Prod.snd (Prod.fst s))), Prod.fst (Prod.snd (Prod.snd (Prod.snd (Prod.fst s)))), Prod.snd (Prod.snd (Prod.snd (Prod.snd (Prod.snd (Prod.fst s))))), IntKind.wrap IntKind.i64 (Prod.snd (Prod.snd (Prod.snd (Prod.snd (Prod.snd (Prod.fst s))))) + (1 : Int))), decF rInt (List.length (Prod.fst (Prod.snd s))) (encF rInt (Prod.fst (Prod.snd s))), PUnit.unit))) (
          .ret (Sum.inl ((decF rSpan (List.length (Prod.fst (Prod.fst s))) fun i => encF rSpan (Prod.fst (Prod.fst s)) ((0 : Nat) + i), decF rInt (List.length (Prod.fst (Prod.snd (Prod.fst s)))) fun i => encF rInt (Prod.fst (Prod.snd (Prod.fst s))) ((0 : Nat) + i), Prod.fst (Prod.snd (Prod.snd (Prod.fst s))), Prod.fst (Prod.snd (Prod.snd (Prod.snd (Prod.fst s)))), Prod.fst (Prod.snd (Prod.snd (Prod.snd (Prod.snd (Prod.fst s))))), IntKind.wrap IntKind.i64 (Prod.snd (Prod.snd (Prod.snd (Prod.snd (Prod.snd (Prod.fst s))))) + (1 : Int))), decF rInt (List.length (Prod.fst (Prod.snd s))) (encF rInt (Prod.fst (Prod.snd s))), PUnit.unit))))) (
      .ret (Sum.inl ((decF rSpan (List.length (Prod.fst (Prod.fst s))) fun i => encF rSpan (Prod.fst (Prod.fst s)) ((0 : Nat) + i), decF rInt (List.length (Prod.fst (Prod.snd (Prod.fst s)))) fun i => encF rInt (Prod.fst (Prod.snd (Prod.fst s))) ((0 : Nat) + i), Prod.fst (Prod.snd (Prod.snd (Prod.fst s))), Prod.fst (Prod.snd (Prod.snd (Prod.snd (Prod.fst s)))), Prod.fst (Prod.snd (Prod.snd (Prod.snd (Prod.snd (Prod.fst s))))), IntKind.wrap IntKind.i64 (Prod.snd (Prod.snd (Prod.snd (Prod.snd (Prod.snd (Prod.fst s))))) + (1 : Int))), decF rInt (List.length (Prod.fst (Prod.snd s))) (encF rInt (Prod.fst (Prod.snd s))), PUnit.unit)))) (
    .ret (Sum.inr ((decF rSpan (List.length (Prod.fst (Prod.fst s))) fun i => encF rSpan (Prod.fst (Prod.fst s)) ((0 : Nat) + i), decF rInt (List.length (Prod.fst (Prod.snd (Prod.fst s)))) fun i => encF rInt (Prod.fst (Prod.snd (Prod.fst s))) ((0 : Nat) + i), Prod.fst (Prod.snd (Prod.snd (Prod.fst s))), Prod.fst (Prod.snd (Prod.snd (Prod.snd (Prod.fst s)))), Prod.fst (Prod.snd (Prod.snd (Prod.snd (Prod.snd (Prod.fst s)))))), decF rInt (List.length (Prod.fst (Prod.snd s))) (encF rInt (Prod.fst (Prod.snd s))), PUnit.unit)))) := fun s => by kernel_rfl
noncomputable def K.L_rf3 := lim K.st_rf3
noncomputable def BKLr32 : Tab := BKLr31.addNode 109 81 (nodeE [11, 10, 1, 0, 7, 9] S_rf3 X_rf3 (fun s => .obs (K.L_rf3 s) .ret))
theorem tKLr32 : TabOk P BKLr32 := TabOk.addLoop (d := 30) okP tKLr31 (by kernel_rfl) (by kernel_rfl) (fun s r h => obs_ret h)
def S_rf2 := DecS.mk0 (.cons (dRows rSpan) (.cons (dRows rInt) (.skips 5 (.cons (dO 0) (.skip (.last (dI .i64) 83)))))) (.rows 3 rInt .nil)
def X_rf2 := DecX.or (DecX.one .ret [6] (DecS.mk0 (.skips 6 (.last (dO 0) 86)) (.rows 3 rInt .nil))) (DecX.one (.exit 2) [7] (DecS.mk0 (.skips 7 (.last (dO 0) 85)) (.rows 3 rInt .nil)))
noncomputable def K.st_rf2 := loopT1 P BKLr32 30 109 57 [1, 0, 7, 9] S_rf2 X_rf2
theorem sl_rf2 : ∀ s, (K.st_rf2) s = T.run (
  .br (decide (Prod.snd (Prod.snd (Prod.snd (Prod.fst s))) > (0 : Int))) (
    .obs (L_rf3 ((decF rSpan (List.length (Prod.fst (Prod.fst s))) fun i => encF rSpan (Prod.fst (Prod.fst s)) ((0 : Nat) + i), decF rInt (List.length (Prod.fst (Prod.snd (Prod.fst s)))) fun i => encF rInt (Prod.fst (Prod.snd (Prod.fst s))) ((0 : Nat) + i), Prod.fst (Prod.snd (Prod.snd (Prod.fst s))), Prod.snd (Prod.snd (Prod.snd (Prod.fst s))), (-1 : Int), (0 : Int)), decF rInt (List.length (Prod.fst (Prod.snd s))) (encF rInt (Prod.fst (Prod.snd s))), PUnit.unit)) fun x0 =>
      .br (decide (Prod.snd (Prod.snd (Prod.snd (Prod.snd (Prod.fst x0)))) < (0 : Int))) (
        .ret (Sum.inr (Sum.inl (Prod.fst (Prod.snd (Prod.snd (Prod.fst x0))), decF rInt (List.length (Prod.fst (Prod.snd x0))) (encF rInt (Prod.fst (Prod.snd x0))), PUnit.unit)))) (
        .chk (decide ((0 : Int) ≤ Prod.snd (Prod.snd (Prod.snd (Prod.snd (Prod.fst x0)))) ∧ Prod.snd (Prod.snd (Prod.snd (Prod.snd (Prod.fst x0)))) < (↑(List.length (Prod.fst (Prod.fst x0))) : Int))) <|
        .chk (decide ((0 : Int) ≤ Prod.snd (Prod.snd (Prod.snd (Prod.snd (Prod.fst x0)))) ∧ Prod.snd (Prod.snd (Prod.snd (Prod.snd (Prod.fst x0)))) < (↑(Prod.fst (Prod.snd (Prod.snd (Prod.fst x0)))) : Int))) <|
        .chk (decide ((0 : Int) ≤ Prod.snd (Prod.snd (Prod.snd (Prod.snd (Prod.fst x0)))) ∧ Prod.snd (Prod.snd (Prod.snd (Prod.snd (Prod.fst x0)))) < (↑(Prod.fst (Prod.snd (Prod.snd (Prod.fst x0)))) : Int))) <|
        .chk (decide ((0 : Int) ≤ Prod.snd (Prod.snd (Prod.snd (Prod.snd (Prod.fst x0)))) ∧ Prod.snd (Prod.snd (Prod.snd (Prod.snd (Prod.fst x0)))) < (↑(Prod.fst (Prod.snd (Prod.snd (Prod.fst x0)))) : Int))) <|
        .ret (Sum.inl ((decF rSpan (List.length (Prod.fst (Prod.fst x0))) fun i => encF rSpan (Prod.fst (Prod.fst x0)) ((0 : Nat) + i), decF rInt (List.length (Prod.fst (Prod.snd (Prod.fst x0)))) fun i => encF rInt (Prod.fst (Prod.snd (Prod.fst x0))) ((0 : Nat) + i), Prod.fst (Prod.snd (Prod.snd (Prod.fst x0))), IntKind.wrap IntKind.i64 (Prod.fst (Prod.snd (Prod.snd (Prod.snd (Prod.fst x0)))) - if IntKind.wrap IntKind.i64 (numOf (encF rSpan (Prod.fst (Prod.fst x0)) ((0 : Nat) + Int.toNat (Prod.snd (Prod.snd (Prod.snd (Prod.snd (Prod.fst x0)))))) (nat_lit 1)) - numOf (encF rInt (Prod.fst (Prod.snd x0)) (Int.toNat (Prod.snd (Prod.snd (Prod.snd (Prod.snd (Prod.fst x0)))))) (0 : Nat))) < Prod.fst (Prod.snd (Prod.snd (Prod.snd (Prod.fst x0)))) then IntKind.wrap IntKind.i64 (numOf (encF rSpan (Prod.fst (Prod.fst x0)) ((0 : Nat) + Int.toNat (Prod.snd (Prod.snd (Prod.snd (Prod.snd (Prod.fst x0)))))) (nat_lit 1)) - numOf (encF rInt (Prod.fst (Prod.snd x0)) (Int.toNat (Prod.snd (Prod.snd (Prod.snd (Prod.snd (Prod.fst x0)))))) (0 : Nat))) else Prod.fst (Prod.snd (Prod.snd (Prod.snd (Prod.fst x0)))))), decF rInt (List.length (Prod.fst (Prod.snd x0))) (setR (Int.toNat (Prod.snd (Prod.snd (Prod.snd (Prod.snd (Prod.fst x0)))))) (0 : Nat) (nat_lit 1) [AV.int IntKind.i64 (IntKind.wrap IntKind.i64 (numOf (encF rInt (Prod.fst (Prod.snd x0)) (Int.toNat (Prod.snd (Prod.snd (Prod.snd (Prod.snd (Prod.fst x0)))))) (0 : Nat)) + if IntKind.wrap IntKind.i64 (numOf (encF rSpan (Prod.fst (Prod.fst x0)) ((0 : Nat) + Int.toNat (Prod.snd (Prod.snd (Prod.snd (Prod.snd (Prod.fst x0)))))) (nat_lit 1)) - numOf (encF rInt (Prod.fst (Prod.snd x0)) (Int.toNat (Prod.snd (Prod.snd (Prod.snd (Prod.snd (Prod.fst x0)))))) (0 : Nat))) < Prod.fst (Prod.snd (Prod.snd (Prod.snd (Prod.fst x0)))) then IntKind.wrap IntKind.i64 (numOf (encF rSpan (Prod.fst (Prod.fst x0)) ((0 : Nat) + Int.toNat (Prod.snd (Prod.snd (Prod.snd (Prod.snd (Prod.fst x0)))))) (nat_lit 1)) - numOf (encF rInt (Prod.fst (Prod.snd x0)) (Int.toNat (Prod.snd (Prod.snd (Prod.snd (Prod.snd (Prod.fst x0)))))) (0 : Nat))) else Prod.fst (Prod.snd (Prod.snd (Prod.snd (Prod.fst x0))))))] (encF rInt (Prod.fst (Prod.snd x0)))), PUnit.unit)))) (
    .ret (Sum.inr (Sum.inr (Prod.fst (Prod.snd (Prod.snd (Prod.fst s))), decF rInt (List.length (Prod.fst (Prod.snd s))) (encF rInt (Prod.fst (Prod.snd s))), PUnit.unit))))) := fun s => by kernel_rfl
noncomputable def K.L_rf2 := lim K.st_rf2
noncomputable def BKLr33 : Tab := BKLr32.addNode 109 57 (nodeE [1, 0, 7, 9] S_rf2 X_rf2 (fun s => .obs (K.L_rf2 s) .ret))
theorem tKLr33 : TabOk P BKLr33 := TabOk.addLoop (d := 30) okP tKLr32 (by kernel_rfl) (by kernel_rfl) (fun s r h => obs_ret h)
def D_fill := DecL.cons (dRows rSpan) (.cons (dRows rInt) (.last (dI .i64) 0))
theorem fn_rFill : ∀ a, (callT1 P BKLr33 30 109 D_fill (dRows rInt)) a = T.run (
  .obs (L_rf1 ((decF rSpan (List.length (Prod.fst a)) fun i => encF rSpan (Prod.fst a) ((0 : Nat) + i), decF rInt (List.length (Prod.fst (Prod.snd a))) fun i => encF rInt (Prod.fst (Prod.snd a)) ((0 : Nat) + i), Prod.snd (Prod.snd a), (0 : Nat), (0 : Int)), decF rInt (0 : Nat) fun x x_1 => AV.top, PUnit.unit)) fun x0 =>
    .chk (decide (List.length (decF rInt (List.length (Prod.fst (Prod.snd x0))) fun i => encF rInt (Prod.fst (Prod.snd x0)) ((0 : Nat) + i)) ≤ (1000000 : Nat))) <|
    .obs (L_rf2 ((decF rSpan (List.length (Prod.fst (Prod.fst x0))) fun i => encF rSpan (Prod.fst (Prod.fst x0)) ((0 : Nat) + i), decF rInt (List.length (Prod.fst (Prod.snd (Prod.fst x0)))) fun i => encF rInt (Prod.fst (Prod.snd (Prod.fst x0))) ((0 : Nat) + i), Prod.snd (Prod.snd (Prod.snd (Prod.fst x0))), IntKind.wrap IntKind.i64 (Prod.fst (Prod.snd (Prod.snd (Prod.fst x0))) - K.addL (decF rInt (List.length (Prod.fst (Prod.snd x0))) fun i => encF rInt (Prod.fst (Prod.snd x0)) ((0 : Nat) + i)))), decF rInt (List.length (Prod.fst (Prod.snd x0))) (encF rInt (Prod.fst (Prod.snd x0))), PUnit.unit)) fun x1 =>
      .sum (x1) (fun x2 =>
        .ret (decF rInt (List.length (Prod.fst (Prod.snd x2))) fun i => encF rInt (Prod.fst (Prod.snd x2)) ((0 : Nat) + i))) (fun x2 =>
        .ret (decF rInt (List.length (Prod.fst (Prod.snd x2))) fun i => encF rInt (Prod.fst (Prod.snd x2)) ((0 : Nat) + i)))) := fun a => by kernel_rfl
noncomputable def K.rFill (a : List Span × List Int × Int) : Option (List Int) := T.run (
  .obs (L_rf1 ((decF rSpan (List.length (Prod.fst a)) fun i => encF rSpan (Prod.fst a) ((0 : Nat) + i), decF rInt (List.length (Prod.fst (Prod.snd a))) fun i => encF rInt (Prod.fst (Prod.snd a)) ((0 : Nat) + i), Prod.snd (Prod.snd a), (0 : Nat), (0 : Int)), decF rInt (0 : Nat) fun x x_1 => AV.top, PUnit.unit)) fun x0 =>
    .chk (decide (List.length (decF rInt (List.length (Prod.fst (Prod.snd x0))) fun i => encF rInt (Prod.fst (Prod.snd x0)) ((0 : Nat) + i)) ≤ (1000000 : Nat))) <|
    .obs (L_rf2 ((decF rSpan (List.length (Prod.fst (Prod.fst x0))) fun i => encF rSpan (Prod.fst (Prod.fst x0)) ((0 : Nat) + i), decF rInt (List.length (Prod.fst (Prod.snd (Prod.fst x0)))) fun i => encF rInt (Prod.fst (Prod.snd (Prod.fst x0))) ((0 : Nat) + i), Prod.snd (Prod.snd (Prod.snd (Prod.fst x0))), IntKind.wrap IntKind.i64 (Prod.fst (Prod.snd (Prod.snd (Prod.fst x0))) - K.addL (decF rInt (List.length (Prod.fst (Prod.snd x0))) fun i => encF rInt (Prod.fst (Prod.snd x0)) ((0 : Nat) + i)))), decF rInt (List.length (Prod.fst (Prod.snd x0))) (encF rInt (Prod.fst (Prod.snd x0))), PUnit.unit)) fun x1 =>
      .sum (x1) (fun x2 =>
        .ret (decF rInt (List.length (Prod.fst (Prod.snd x2))) fun i => encF rInt (Prod.fst (Prod.snd x2)) ((0 : Nat) + i))) (fun x2 =>
        .ret (decF rInt (List.length (Prod.fst (Prod.snd x2))) fun i => encF rInt (Prod.fst (Prod.snd x2)) ((0 : Nat) + i))))
theorem eq_rFill (a : List Span × List Int × Int) : (callT1 P BKLr33 30 109 D_fill (dRows rInt)) a = K.rFill a := fn_rFill a
noncomputable def BKLr34 : Tab := BKLr33.addCall 109 (callE D_fill (dRows rInt) (fun a => .obs (K.rFill a) .ret))
theorem tKLr34 : TabOk P BKLr34 := TabOk.addFn (d := 30) okP tKLr33 (fun a r h => by rw [eq_rFill]; exact obs_ret h)
end Go.Proofs.YtjbhooodjmjdkaaGreat
/-! KLot -/
namespace Go.Proofs.YtjbhooodjmjdkaaGreat
open Ev K
set_option maxRecDepth 100000
namespace K
theorem r_massesOk_is {s : Ship} {b : Bulbs} {x : XS} (hs : ShipOk s) (l : ListOk b x) : r_massesOk s x = true := by
  unfold r_massesOk; rw [r_massesAll hs l, decide_eq_true l.pos]; rfl
end K
noncomputable def K.rTog (a : Ship × Bulbs × XS) : Span × Int := if (r_asked a != 0) = true then (⟨0, 0⟩, r_asked a) else if r_none (r_tog a.1 a.2.1 a.2.2) = true then (⟨0, 0⟩, 9) else (r_tog a.1 a.2.1 a.2.2, 0)
theorem K.rTog_eq (a : Ship × Bulbs × XS) : callT1 P BKY51 30 42 D_mss R_off a = some (rTog a) := by
  obtain ⟨s, b, x⟩ := a
  rw [fn_rTog]; unfold rTog
  refine br_step (fun _ => rfl) (fun h => ?_)
  rw [r_asked_is] at h
  obtain ⟨hs, hb, l⟩ := list_ok (bne_zero h)
  exact chk_step (r_massesOk_is hs l) (br_step (fun _ => rfl) (fun _ => rfl))
theorem K.rTog_is (a : Ship × Bulbs × XS) : rTog a = sTog a := by
  obtain ⟨s, b, x⟩ := a
  unfold rTog sTog
  rw [r_asked_is]
  by_cases h : (listed1 (s, b, x) != 0) = true
  · rw [if_pos h, if_pos h]
  rw [if_neg h, if_neg h]
  obtain ⟨hs, hb, l⟩ := list_ok (bne_zero h)
  rcases tog_is hs hb l with e | ⟨e1, e2⟩
  · show (if void (r_tog s b x) = true then _ else (r_tog s b x, _)) = _
    rw [show r_tog s b x = togetherOf s b x from e.symm]
  · show (if void (r_tog s b x) = true then _ else (r_tog s b x, _)) = (if void (togetherOf s b x) = true then _ else _)
    rw [show void (r_tog s b x) = true from e2, e1]; rfl
end Go.Proofs.YtjbhooodjmjdkaaGreat
/-! KLr4 -/
namespace Go.Proofs.YtjbhooodjmjdkaaGreat
open Ev K
set_option maxRecDepth 100000
theorem fn_rRise : ∀ a, (callT1 P BKLr34 30 112 D_sl (dI .i64)) a = T.run (
  .chk (decide (len (Ship.holds (Prod.fst a)) ≤ (1000000 : Nat))) <|
  .chk (decide (List.length (decF rInt (List.length (Prod.snd a)) fun i => encF rInt (Prod.snd a) ((0 : Nat) + i)) ≤ (1000000 : Nat) ∧ List.length (decF rInt (List.length (Prod.snd a)) fun i => encF rInt (Prod.snd a) ((0 : Nat) + i)) ≤ List.length (decF rInt (List.length (colH (Prod.fst a) (3 : Nat) (len (Ship.holds (Prod.fst a))))) fun i => encF rInt (colH (Prod.fst a) (3 : Nat) (len (Ship.holds (Prod.fst a)))) ((0 : Nat) + i)))) <|
  .ret (IntKind.wrap IntKind.i64 (IntKind.wrap IntKind.i64 (Ship.light (Prod.fst a) * Ship.height (Prod.fst a)) + valR (decF rInt (List.length (colH (Prod.fst a) (3 : Nat) (len (Ship.holds (Prod.fst a))))) fun i => encF rInt (colH (Prod.fst a) (3 : Nat) (len (Ship.holds (Prod.fst a)))) ((0 : Nat) + i)) (decF rInt (List.length (Prod.snd a)) fun i => encF rInt (Prod.snd a) ((0 : Nat) + i))))) := fun a => by kernel_rfl
noncomputable def K.rRise (a : Ship × List Int) : Option (Int) := T.run (
  .chk (decide (len (Ship.holds (Prod.fst a)) ≤ (1000000 : Nat))) <|
  .chk (decide (List.length (decF rInt (List.length (Prod.snd a)) fun i => encF rInt (Prod.snd a) ((0 : Nat) + i)) ≤ (1000000 : Nat) ∧ List.length (decF rInt (List.length (Prod.snd a)) fun i => encF rInt (Prod.snd a) ((0 : Nat) + i)) ≤ List.length (decF rInt (List.length (colH (Prod.fst a) (3 : Nat) (len (Ship.holds (Prod.fst a))))) fun i => encF rInt (colH (Prod.fst a) (3 : Nat) (len (Ship.holds (Prod.fst a)))) ((0 : Nat) + i)))) <|
  .ret (IntKind.wrap IntKind.i64 (IntKind.wrap IntKind.i64 (Ship.light (Prod.fst a) * Ship.height (Prod.fst a)) + valR (decF rInt (List.length (colH (Prod.fst a) (3 : Nat) (len (Ship.holds (Prod.fst a))))) fun i => encF rInt (colH (Prod.fst a) (3 : Nat) (len (Ship.holds (Prod.fst a)))) ((0 : Nat) + i)) (decF rInt (List.length (Prod.snd a)) fun i => encF rInt (Prod.snd a) ((0 : Nat) + i)))))
theorem eq_rRise (a : Ship × List Int) : (callT1 P BKLr34 30 112 D_sl (dI .i64)) a = K.rRise a := fn_rRise a
noncomputable def BKLr41 : Tab := BKLr34.addCall 112 (callE D_sl (dI .i64) (fun a => .obs (K.rRise a) .ret))
theorem tKLr41 : TabOk P BKLr41 := TabOk.addFn (d := 30) okP tKLr34 (fun a r h => by rw [eq_rRise]; exact obs_ret h)
theorem fn_rMoment : ∀ a, (callT1 P BKLr41 30 219 D_sl (dI .i64)) a = T.run (
  .chk (decide (len (Ship.holds (Prod.fst a)) ≤ (1000000 : Nat))) <|
  .chk (decide (List.length (decF rInt (List.length (Prod.snd a)) fun i => encF rInt (Prod.snd a) ((0 : Nat) + i)) ≤ (1000000 : Nat) ∧ List.length (decF rInt (List.length (Prod.snd a)) fun i => encF rInt (Prod.snd a) ((0 : Nat) + i)) ≤ List.length (decF rInt (List.length (levR (Prod.fst a) (1 : Int) (len (Ship.holds (Prod.fst a))))) fun i => encF rInt (levR (Prod.fst a) (1 : Int) (len (Ship.holds (Prod.fst a)))) ((0 : Nat) + i)))) <|
  .ret (IntKind.wrap IntKind.i64 (IntKind.wrap IntKind.i64 (Ship.light (Prod.fst a) * Ship.lever (Prod.fst a)) + valR (decF rInt (List.length (levR (Prod.fst a) (1 : Int) (len (Ship.holds (Prod.fst a))))) fun i => encF rInt (levR (Prod.fst a) (1 : Int) (len (Ship.holds (Prod.fst a)))) ((0 : Nat) + i)) (decF rInt (List.length (Prod.snd a)) fun i => encF rInt (Prod.snd a) ((0 : Nat) + i))))) := fun a => by kernel_rfl
noncomputable def K.rMoment (a : Ship × List Int) : Option (Int) := T.run (
  .chk (decide (len (Ship.holds (Prod.fst a)) ≤ (1000000 : Nat))) <|
  .chk (decide (List.length (decF rInt (List.length (Prod.snd a)) fun i => encF rInt (Prod.snd a) ((0 : Nat) + i)) ≤ (1000000 : Nat) ∧ List.length (decF rInt (List.length (Prod.snd a)) fun i => encF rInt (Prod.snd a) ((0 : Nat) + i)) ≤ List.length (decF rInt (List.length (levR (Prod.fst a) (1 : Int) (len (Ship.holds (Prod.fst a))))) fun i => encF rInt (levR (Prod.fst a) (1 : Int) (len (Ship.holds (Prod.fst a)))) ((0 : Nat) + i)))) <|
  .ret (IntKind.wrap IntKind.i64 (IntKind.wrap IntKind.i64 (Ship.light (Prod.fst a) * Ship.lever (Prod.fst a)) + valR (decF rInt (List.length (levR (Prod.fst a) (1 : Int) (len (Ship.holds (Prod.fst a))))) fun i => encF rInt (levR (Prod.fst a) (1 : Int) (len (Ship.holds (Prod.fst a)))) ((0 : Nat) + i)) (decF rInt (List.length (Prod.snd a)) fun i => encF rInt (Prod.snd a) ((0 : Nat) + i)))))
theorem eq_rMoment (a : Ship × List Int) : (callT1 P BKLr41 30 219 D_sl (dI .i64)) a = K.rMoment a := fn_rMoment a
noncomputable def BKLr42 : Tab := BKLr41.addCall 219 (callE D_sl (dI .i64) (fun a => .obs (K.rMoment a) .ret))
theorem tKLr42 : TabOk P BKLr42 := TabOk.addFn (d := 30) okP tKLr41 (fun a r h => by rw [eq_rMoment]; exact obs_ret h)
theorem fn_rStiff : ∀ a, (callT1 P BKLr42 30 163 D_sl R_fr) a = T.run (
  .obs (rDisp (Prod.fst a, decF rInt (List.length (Prod.snd a)) fun i => encF rInt (Prod.snd a) ((0 : Nat) + i))) fun x0 =>
    .obs (rAt (Ship.mc (Prod.fst a), x0)) fun x1 =>
      .obs (rRise (Prod.fst a, decF rInt (List.length (Prod.snd a)) fun i => encF rInt (Prod.snd a) ((0 : Nat) + i))) fun x2 =>
        .ret ((IntKind.wrap IntKind.i64 (IntKind.wrap IntKind.i64 (IntKind.wrap IntKind.i64 (Prod.fst x1 - IntKind.wrap IntKind.i64 (Curve.err (Ship.mc (Prod.fst a)) * Prod.snd x1)) * x0) - IntKind.wrap IntKind.i64 (x2 * Prod.snd x1)), IntKind.wrap IntKind.i64 (Prod.snd x1 * x0)))) := fun a => by kernel_rfl
noncomputable def K.rStiff (a : Ship × List Int) : Option (Int × Int) := T.run (
  .obs (rDisp (Prod.fst a, decF rInt (List.length (Prod.snd a)) fun i => encF rInt (Prod.snd a) ((0 : Nat) + i))) fun x0 =>
    .obs (rAt (Ship.mc (Prod.fst a), x0)) fun x1 =>
      .obs (rRise (Prod.fst a, decF rInt (List.length (Prod.snd a)) fun i => encF rInt (Prod.snd a) ((0 : Nat) + i))) fun x2 =>
        .ret ((IntKind.wrap IntKind.i64 (IntKind.wrap IntKind.i64 (IntKind.wrap IntKind.i64 (Prod.fst x1 - IntKind.wrap IntKind.i64 (Curve.err (Ship.mc (Prod.fst a)) * Prod.snd x1)) * x0) - IntKind.wrap IntKind.i64 (x2 * Prod.snd x1)), IntKind.wrap IntKind.i64 (Prod.snd x1 * x0))))
theorem eq_rStiff (a : Ship × List Int) : (callT1 P BKLr42 30 163 D_sl R_fr) a = K.rStiff a := fn_rStiff a
noncomputable def BKLr43 : Tab := BKLr42.addCall 163 (callE D_sl R_fr (fun a => .obs (K.rStiff a) .ret))
theorem tKLr43 : TabOk P BKLr43 := TabOk.addFn (d := 30) okP tKLr42 (fun a r h => by rw [eq_rStiff]; exact obs_ret h)
theorem fn_rSteadyX : ∀ a, (callT1 P BKLr43 30 111 D_sl dB) a = T.run (
  .obs (rStiff (Prod.fst a, decF rInt (List.length (Prod.snd a)) fun i => encF rInt (Prod.snd a) ((0 : Nat) + i))) fun x0 =>
    .ret (decide (Prod.fst x0 ≥ IntKind.wrap IntKind.i64 (Ship.least (Prod.fst a) * Prod.snd x0)))) := fun a => by kernel_rfl
noncomputable def K.rSteadyX (a : Ship × List Int) : Option (Bool) := T.run (
  .obs (rStiff (Prod.fst a, decF rInt (List.length (Prod.snd a)) fun i => encF rInt (Prod.snd a) ((0 : Nat) + i))) fun x0 =>
    .ret (decide (Prod.fst x0 ≥ IntKind.wrap IntKind.i64 (Ship.least (Prod.fst a) * Prod.snd x0))))
theorem eq_rSteadyX (a : Ship × List Int) : (callT1 P BKLr43 30 111 D_sl dB) a = K.rSteadyX a := fn_rSteadyX a
noncomputable def BKLr44 : Tab := BKLr43.addCall 111 (callE D_sl dB (fun a => .obs (K.rSteadyX a) .ret))
theorem tKLr44 : TabOk P BKLr44 := TabOk.addFn (d := 30) okP tKLr43 (fun a r h => by rw [eq_rSteadyX]; exact obs_ret h)
theorem fn_rFloor : ∀ a, (callT1 P BKLr44 30 229 D_int2 (dI .i64)) a = T.run (
  .chk (!decide (Prod.snd a = (0 : Int))) <|
  .chk (!decide (Prod.snd a = (0 : Int))) <|
  .br (decide (Int.tmod (Prod.fst a) (Prod.snd a) < (0 : Int))) (
    .ret (IntKind.wrap IntKind.i64 (IntKind.wrap IntKind.i64 (Int.tdiv (Prod.fst a) (Prod.snd a)) - (1 : Int)))) (
    .ret (IntKind.wrap IntKind.i64 (Int.tdiv (Prod.fst a) (Prod.snd a))))) := fun a => by kernel_rfl
noncomputable def K.rFloor (a : Int × Int) : Option (Int) := T.run (
  .chk (!decide (Prod.snd a = (0 : Int))) <|
  .chk (!decide (Prod.snd a = (0 : Int))) <|
  .br (decide (Int.tmod (Prod.fst a) (Prod.snd a) < (0 : Int))) (
    .ret (IntKind.wrap IntKind.i64 (IntKind.wrap IntKind.i64 (Int.tdiv (Prod.fst a) (Prod.snd a)) - (1 : Int)))) (
    .ret (IntKind.wrap IntKind.i64 (Int.tdiv (Prod.fst a) (Prod.snd a)))))
theorem eq_rFloor (a : Int × Int) : (callT1 P BKLr44 30 229 D_int2 (dI .i64)) a = K.rFloor a := fn_rFloor a
noncomputable def BKLr45 : Tab := BKLr44.addCall 229 (callE D_int2 (dI .i64) (fun a => .obs (K.rFloor a) .ret))
theorem tKLr45 : TabOk P BKLr45 := TabOk.addFn (d := 30) okP tKLr44 (fun a r h => by rw [eq_rFloor]; exact obs_ret h)
def D_int3 := DecL.cons (dI .i64) (.cons (dI .i64) (.last (dI .i64) 0))
theorem fn_rEnds : ∀ a, (callT1 P BKLr45 30 220 D_int3 dSpan) a = T.run (
  .obs (rFloor (IntKind.wrap IntKind.i64 (Prod.fst a - IntKind.wrap IntKind.i64 (Prod.snd (Prod.snd a) * Prod.fst (Prod.snd a))), Prod.fst (Prod.snd a))) fun x0 =>
    .obs (rFloor (IntKind.wrap IntKind.i64 (IntKind.wrap IntKind.i64 ((0 : Int) - Prod.fst a) - IntKind.wrap IntKind.i64 (Prod.snd (Prod.snd a) * Prod.fst (Prod.snd a))), Prod.fst (Prod.snd a))) fun x1 =>
      .ret (Span.mk x0 (IntKind.wrap IntKind.i64 ((0 : Int) - x1)))) := fun a => by kernel_rfl
noncomputable def K.rEnds (a : Int × Int × Int) : Option (Span) := T.run (
  .obs (rFloor (IntKind.wrap IntKind.i64 (Prod.fst a - IntKind.wrap IntKind.i64 (Prod.snd (Prod.snd a) * Prod.fst (Prod.snd a))), Prod.fst (Prod.snd a))) fun x0 =>
    .obs (rFloor (IntKind.wrap IntKind.i64 (IntKind.wrap IntKind.i64 ((0 : Int) - Prod.fst a) - IntKind.wrap IntKind.i64 (Prod.snd (Prod.snd a) * Prod.fst (Prod.snd a))), Prod.fst (Prod.snd a))) fun x1 =>
      .ret (Span.mk x0 (IntKind.wrap IntKind.i64 ((0 : Int) - x1))))
theorem eq_rEnds (a : Int × Int × Int) : (callT1 P BKLr45 30 220 D_int3 dSpan) a = K.rEnds a := fn_rEnds a
noncomputable def BKLr46 : Tab := BKLr45.addCall 220 (callE D_int3 dSpan (fun a => .obs (K.rEnds a) .ret))
theorem tKLr46 : TabOk P BKLr46 := TabOk.addFn (d := 30) okP tKLr45 (fun a r h => by rw [eq_rEnds]; exact obs_ret h)
theorem fn_rAfloat : ∀ a, (callT1 P BKLr46 30 205 D_sl dDraughts) a = T.run (
  .obs (rDisp (Prod.fst a, decF rInt (List.length (Prod.snd a)) fun i => encF rInt (Prod.snd a) ((0 : Nat) + i))) fun x0 =>
    .obs (rAt (Ship.mean (Prod.fst a), x0)) fun x1 =>
      .obs (rMoment (Prod.fst a, decF rInt (List.length (Prod.snd a)) fun i => encF rInt (Prod.snd a) ((0 : Nat) + i))) fun x2 =>
        .obs (rEnds (IntKind.wrap IntKind.i64 (IntKind.wrap IntKind.i64 (IntKind.wrap IntKind.i64 (Prod.fst x1 * (2 : Int)) * Ship.turn (Prod.fst a)) + IntKind.wrap IntKind.i64 (x2 * Prod.snd x1)), IntKind.wrap IntKind.i64 (IntKind.wrap IntKind.i64 (Prod.snd x1 * (2 : Int)) * Ship.turn (Prod.fst a)), Curve.err (Ship.mean (Prod.fst a)))) fun x3 =>
          .obs (rEnds (IntKind.wrap IntKind.i64 (IntKind.wrap IntKind.i64 (IntKind.wrap IntKind.i64 (Prod.fst x1 * (2 : Int)) * Ship.turn (Prod.fst a)) - IntKind.wrap IntKind.i64 (x2 * Prod.snd x1)), IntKind.wrap IntKind.i64 (IntKind.wrap IntKind.i64 (Prod.snd x1 * (2 : Int)) * Ship.turn (Prod.fst a)), Curve.err (Ship.mean (Prod.fst a)))) fun x4 =>
            .ret ((x3, x4))) := fun a => by kernel_rfl
noncomputable def K.rAfloat (a : Ship × List Int) : Option (Span × Span) := T.run (
  .obs (rDisp (Prod.fst a, decF rInt (List.length (Prod.snd a)) fun i => encF rInt (Prod.snd a) ((0 : Nat) + i))) fun x0 =>
    .obs (rAt (Ship.mean (Prod.fst a), x0)) fun x1 =>
      .obs (rMoment (Prod.fst a, decF rInt (List.length (Prod.snd a)) fun i => encF rInt (Prod.snd a) ((0 : Nat) + i))) fun x2 =>
        .obs (rEnds (IntKind.wrap IntKind.i64 (IntKind.wrap IntKind.i64 (IntKind.wrap IntKind.i64 (Prod.fst x1 * (2 : Int)) * Ship.turn (Prod.fst a)) + IntKind.wrap IntKind.i64 (x2 * Prod.snd x1)), IntKind.wrap IntKind.i64 (IntKind.wrap IntKind.i64 (Prod.snd x1 * (2 : Int)) * Ship.turn (Prod.fst a)), Curve.err (Ship.mean (Prod.fst a)))) fun x3 =>
          .obs (rEnds (IntKind.wrap IntKind.i64 (IntKind.wrap IntKind.i64 (IntKind.wrap IntKind.i64 (Prod.fst x1 * (2 : Int)) * Ship.turn (Prod.fst a)) - IntKind.wrap IntKind.i64 (x2 * Prod.snd x1)), IntKind.wrap IntKind.i64 (IntKind.wrap IntKind.i64 (Prod.snd x1 * (2 : Int)) * Ship.turn (Prod.fst a)), Curve.err (Ship.mean (Prod.fst a)))) fun x4 =>
            .ret ((x3, x4)))
theorem eq_rAfloat (a : Ship × List Int) : (callT1 P BKLr46 30 205 D_sl dDraughts) a = K.rAfloat a := fn_rAfloat a
noncomputable def BKLr47 : Tab := BKLr46.addCall 205 (callE D_sl dDraughts (fun a => .obs (K.rAfloat a) .ret))
theorem tKLr47 : TabOk P BKLr47 := TabOk.addFn (d := 30) okP tKLr46 (fun a r h => by rw [eq_rAfloat]; exact obs_ret h)
theorem fn_rDeep : ∀ a, (callT1 P BKLr47 30 165 D_sl (dI .i64)) a = T.run (
  .obs (rAfloat (Prod.fst a, decF rInt (List.length (Prod.snd a)) fun i => encF rInt (Prod.snd a) ((0 : Nat) + i))) fun x0 =>
    .ret (if Span.hi (Prod.snd x0) > Span.hi (Prod.fst x0) then Span.hi (Prod.snd x0) else Span.hi (Prod.fst x0))) := fun a => by kernel_rfl
noncomputable def K.rDeep (a : Ship × List Int) : Option (Int) := T.run (
  .obs (rAfloat (Prod.fst a, decF rInt (List.length (Prod.snd a)) fun i => encF rInt (Prod.snd a) ((0 : Nat) + i))) fun x0 =>
    .ret (if Span.hi (Prod.snd x0) > Span.hi (Prod.fst x0) then Span.hi (Prod.snd x0) else Span.hi (Prod.fst x0)))
theorem eq_rDeep (a : Ship × List Int) : (callT1 P BKLr47 30 165 D_sl (dI .i64)) a = K.rDeep a := fn_rDeep a
noncomputable def BKLr48 : Tab := BKLr47.addCall 165 (callE D_sl (dI .i64) (fun a => .obs (K.rDeep a) .ret))
theorem tKLr48 : TabOk P BKLr48 := TabOk.addFn (d := 30) okP tKLr47 (fun a r h => by rw [eq_rDeep]; exact obs_ret h)
theorem fn_rTotals : ∀ a, (callT1 P BKLr48 30 108 D_ld dSpan) a = T.run (
  .chk (decide (List.length (decF rSpan (List.length (LoadL.holds a)) fun i => encF rSpan (LoadL.holds a) ((0 : Nat) + i)) ≤ (1000000 : Nat))) <|
  .ret (Span.mk (if Span.lo (LoadL.all a) > Span.lo (addS (decF rSpan (List.length (LoadL.holds a)) fun i => encF rSpan (LoadL.holds a) ((0 : Nat) + i))) then Span.lo (LoadL.all a) else Span.lo (addS (decF rSpan (List.length (LoadL.holds a)) fun i => encF rSpan (LoadL.holds a) ((0 : Nat) + i)))) (if Span.hi (LoadL.all a) < Span.hi (addS (decF rSpan (List.length (LoadL.holds a)) fun i => encF rSpan (LoadL.holds a) ((0 : Nat) + i))) then Span.hi (LoadL.all a) else Span.hi (addS (decF rSpan (List.length (LoadL.holds a)) fun i => encF rSpan (LoadL.holds a) ((0 : Nat) + i)))))) := fun a => by kernel_rfl
noncomputable def K.rTotals (a : LoadL) : Option (Span) := T.run (
  .chk (decide (List.length (decF rSpan (List.length (LoadL.holds a)) fun i => encF rSpan (LoadL.holds a) ((0 : Nat) + i)) ≤ (1000000 : Nat))) <|
  .ret (Span.mk (if Span.lo (LoadL.all a) > Span.lo (addS (decF rSpan (List.length (LoadL.holds a)) fun i => encF rSpan (LoadL.holds a) ((0 : Nat) + i))) then Span.lo (LoadL.all a) else Span.lo (addS (decF rSpan (List.length (LoadL.holds a)) fun i => encF rSpan (LoadL.holds a) ((0 : Nat) + i)))) (if Span.hi (LoadL.all a) < Span.hi (addS (decF rSpan (List.length (LoadL.holds a)) fun i => encF rSpan (LoadL.holds a) ((0 : Nat) + i))) then Span.hi (LoadL.all a) else Span.hi (addS (decF rSpan (List.length (LoadL.holds a)) fun i => encF rSpan (LoadL.holds a) ((0 : Nat) + i))))))
theorem eq_rTotals (a : LoadL) : (callT1 P BKLr48 30 108 D_ld dSpan) a = K.rTotals a := fn_rTotals a
noncomputable def BKLr49 : Tab := BKLr48.addCall 108 (callE D_ld dSpan (fun a => .obs (K.rTotals a) .ret))
theorem tKLr49 : TabOk P BKLr49 := TabOk.addFn (d := 30) okP tKLr48 (fun a r h => by rw [eq_rTotals]; exact obs_ret h)
def D_span3 := DecL.cons dSpan (.cons (dI .i64) (.last (dI .i64) 0))
theorem fn_rSpan3 : ∀ a, (callT1 P BKLr49 30 156 D_span3 dB) a = T.run (
  .br (decide (Span.lo (Prod.fst a) ≥ Prod.fst (Prod.snd a))) (
    .br (decide (Span.lo (Prod.fst a) ≤ Span.hi (Prod.fst a))) (
      .ret (decide (Span.hi (Prod.fst a) ≤ Prod.snd (Prod.snd a)))) (
      .ret (false))) (
    .ret (false))) := fun a => by kernel_rfl
noncomputable def K.rSpan3 (a : Span × Int × Int) : Bool := (if (decide (Span.lo (Prod.fst a) ≥ Prod.fst (Prod.snd a))) = true then (if (decide (Span.lo (Prod.fst a) ≤ Span.hi (Prod.fst a))) = true then decide (Span.hi (Prod.fst a) ≤ Prod.snd (Prod.snd a)) else false) else false)
theorem eq_rSpan3 (a : Span × Int × Int) : (callT1 P BKLr49 30 156 D_span3 dB) a = some (K.rSpan3 a) := (fn_rSpan3 a).trans (T.br_some (T.br_some rfl rfl) rfl)
noncomputable def BKLr410 : Tab := BKLr49.addCall 156 (callE D_span3 dB (fun a => .ret (K.rSpan3 a)))
theorem tKLr410 : TabOk P BKLr410 := TabOk.addFn (d := 30) okP tKLr49 (fun a r h => by rw [eq_rSpan3]; exact congrArg some (ret_some h))
def S_rld := DecS.mk0 (.skips 2 (.unit (dLp 0 0 0 0) (.unit (dLp 1 0 0 0) (.skip (.last (dI .i64) 61))))) (.flat 27 lShip (.flat 41 lLoadL .nil))
def X_rld := DecX.or (DecX.one .ret [4] (DecS.mk1 (.skips 4 (.last (dI .i64) 62)))) (DecX.one (.exit 0) [3] (DecS.mk0 (.skips 3 (.unit (dLp 0 0 0 0) (.tops 63))) (.flat 41 lLoadL .nil)))
noncomputable def K.st_rld := loopT1 P BKLr410 30 104 33 [5, 2, 3] S_rld X_rld
theorem sl_rld : ∀ s, (K.st_rld) s = T.run (
  .br (decide (Prod.fst s < (↑(clampL (List.length (LoadL.holds (Prod.fst (Prod.snd (Prod.snd s)))))) : Int))) (
    .chk (decide ((0 : Int) ≤ Prod.fst s ∧ Prod.fst s < (↑(List.length (LoadL.holds (Prod.fst (Prod.snd (Prod.snd s))))) : Int))) <|
    .chk (decide ((0 : Int) ≤ Prod.fst s ∧ Prod.fst s < (↑(XS.len (Ship.holds (Prod.fst (Prod.snd s)))) : Int))) <|
    .br (!rSpan3 (Span.mk (numOf (encF rSpan (LoadL.holds (Prod.fst (Prod.snd (Prod.snd s)))) ((0 : Nat) + Int.toNat (Prod.fst s)) (0 : Nat))) (numOf (encF rSpan (LoadL.holds (Prod.fst (Prod.snd (Prod.snd s)))) ((0 : Nat) + Int.toNat (Prod.fst s)) (nat_lit 1))), (0 : Int), XS.g (Ship.holds (Prod.fst (Prod.snd s))) (Int.toNat (Prod.fst s)) (1 : Nat))) (
      .ret (Sum.inr (Sum.inl (1 : Int)))) (
      .ret (Sum.inl (IntKind.wrap IntKind.i64 (Prod.fst s + (1 : Int)), Prod.fst (Prod.snd s), LoadL.mk (decF rSpan (List.length (LoadL.holds (Prod.fst (Prod.snd (Prod.snd s))))) fun i => encF rSpan (LoadL.holds (Prod.fst (Prod.snd (Prod.snd s)))) ((0 : Nat) + i)) (LoadL.all (Prod.fst (Prod.snd (Prod.snd s)))), PUnit.unit)))) (
    .ret (Sum.inr (Sum.inr (PUnit.unit, LoadL.mk (decF rSpan (List.length (LoadL.holds (Prod.fst (Prod.snd (Prod.snd s))))) fun i => encF rSpan (LoadL.holds (Prod.fst (Prod.snd (Prod.snd s)))) ((0 : Nat) + i)) (LoadL.all (Prod.fst (Prod.snd (Prod.snd s)))), PUnit.unit))))) := fun s => by kernel_rfl
noncomputable def K.L_rld := lim K.st_rld
noncomputable def BKLr411 : Tab := BKLr410.addNode 104 33 (nodeE [5, 2, 3] S_rld X_rld (fun s => .obs (K.L_rld s) .ret))
theorem tKLr411 : TabOk P BKLr411 := TabOk.addLoop (d := 30) okP tKLr410 (by kernel_rfl) (by kernel_rfl) (fun s r h => obs_ret h)
theorem fn_rLoadE : ∀ a, (callT1 P BKLr411 30 104 D_cl (dI .i64)) a = T.run (
  .br ((↑(clampL (List.length (LoadL.holds (Prod.snd a)))) : Int) != (↑(len (Ship.holds (Prod.fst a))) : Int)) (
    .ret ((1 : Int))) (
    .obs (L_rld ((0 : Int), Prod.fst a, LoadL.mk (decF rSpan (List.length (LoadL.holds (Prod.snd a))) fun i => encF rSpan (LoadL.holds (Prod.snd a)) ((0 : Nat) + i)) (LoadL.all (Prod.snd a)), PUnit.unit)) fun x0 =>
      .sum (x0) (fun x1 =>
        .ret (x1)) (fun x1 =>
        .br (!rSpan3 (LoadL.all (Prod.fst (Prod.snd x1)), (0 : Int), (65536 : Int))) (
          .ret ((1 : Int))) (
          .br (decide (IntKind.wrap IntKind.i64 (Span.hi (LoadL.all (Prod.fst (Prod.snd x1))) - Span.lo (LoadL.all (Prod.fst (Prod.snd x1)))) ≥ (4000 : Int))) (
            .ret ((2 : Int))) (
            .chk (decide (List.length (decF rSpan (List.length (LoadL.holds (Prod.fst (Prod.snd x1)))) fun i => encF rSpan (LoadL.holds (Prod.fst (Prod.snd x1))) ((0 : Nat) + i)) ≤ (1000000 : Nat))) <|
            .br (decide (Span.lo (addS (decF rSpan (List.length (LoadL.holds (Prod.fst (Prod.snd x1)))) fun i => encF rSpan (LoadL.holds (Prod.fst (Prod.snd x1))) ((0 : Nat) + i))) > Span.hi (LoadL.all (Prod.fst (Prod.snd x1))))) (
              .ret ((9 : Int))) (
              .br (decide (Span.hi (addS (decF rSpan (List.length (LoadL.holds (Prod.fst (Prod.snd x1)))) fun i => encF rSpan (LoadL.holds (Prod.fst (Prod.snd x1))) ((0 : Nat) + i))) < Span.lo (LoadL.all (Prod.fst (Prod.snd x1))))) (
                .ret ((9 : Int))) (
                .ret ((0 : Int))))))))) := fun a => by kernel_rfl
noncomputable def K.rLoadE (a : Ship × LoadL) : Option (Int) := T.run (
  .br ((↑(clampL (List.length (LoadL.holds (Prod.snd a)))) : Int) != (↑(len (Ship.holds (Prod.fst a))) : Int)) (
    .ret ((1 : Int))) (
    .obs (L_rld ((0 : Int), Prod.fst a, LoadL.mk (decF rSpan (List.length (LoadL.holds (Prod.snd a))) fun i => encF rSpan (LoadL.holds (Prod.snd a)) ((0 : Nat) + i)) (LoadL.all (Prod.snd a)), PUnit.unit)) fun x0 =>
      .sum (x0) (fun x1 =>
        .ret (x1)) (fun x1 =>
        .br (!rSpan3 (LoadL.all (Prod.fst (Prod.snd x1)), (0 : Int), (65536 : Int))) (
          .ret ((1 : Int))) (
          .br (decide (IntKind.wrap IntKind.i64 (Span.hi (LoadL.all (Prod.fst (Prod.snd x1))) - Span.lo (LoadL.all (Prod.fst (Prod.snd x1)))) ≥ (4000 : Int))) (
            .ret ((2 : Int))) (
            .chk (decide (List.length (decF rSpan (List.length (LoadL.holds (Prod.fst (Prod.snd x1)))) fun i => encF rSpan (LoadL.holds (Prod.fst (Prod.snd x1))) ((0 : Nat) + i)) ≤ (1000000 : Nat))) <|
            .br (decide (Span.lo (addS (decF rSpan (List.length (LoadL.holds (Prod.fst (Prod.snd x1)))) fun i => encF rSpan (LoadL.holds (Prod.fst (Prod.snd x1))) ((0 : Nat) + i))) > Span.hi (LoadL.all (Prod.fst (Prod.snd x1))))) (
              .ret ((9 : Int))) (
              .br (decide (Span.hi (addS (decF rSpan (List.length (LoadL.holds (Prod.fst (Prod.snd x1)))) fun i => encF rSpan (LoadL.holds (Prod.fst (Prod.snd x1))) ((0 : Nat) + i))) < Span.lo (LoadL.all (Prod.fst (Prod.snd x1))))) (
                .ret ((9 : Int))) (
                .ret ((0 : Int)))))))))
theorem eq_rLoadE (a : Ship × LoadL) : (callT1 P BKLr411 30 104 D_cl (dI .i64)) a = K.rLoadE a := fn_rLoadE a
noncomputable def BKLr412 : Tab := BKLr411.addCall 104 (callE D_cl (dI .i64) (fun a => .obs (K.rLoadE a) .ret))
theorem tKLr412 : TabOk P BKLr412 := TabOk.addFn (d := 30) okP tKLr411 (fun a r h => by rw [eq_rLoadE]; exact obs_ret h)
theorem fn_rCheckLoad : ∀ a, (callT1 P BKLr412 30 43 D_cl (dI .i64)) a = T.run (
  .br (r_ship (Prod.fst a) != (0 : Int)) (
    .ret (r_ship (Prod.fst a))) (
    .obs (rLoadE (Prod.fst a, LoadL.mk (decF rSpan (List.length (LoadL.holds (Prod.snd a))) fun i => encF rSpan (LoadL.holds (Prod.snd a)) ((0 : Nat) + i)) (LoadL.all (Prod.snd a)))) fun x0 =>
      .ret (x0))) := fun a => by kernel_rfl
noncomputable def K.rCheckLoad (a : Ship × LoadL) : Option (Int) := T.run (
  .br (r_ship (Prod.fst a) != (0 : Int)) (
    .ret (r_ship (Prod.fst a))) (
    .obs (rLoadE (Prod.fst a, LoadL.mk (decF rSpan (List.length (LoadL.holds (Prod.snd a))) fun i => encF rSpan (LoadL.holds (Prod.snd a)) ((0 : Nat) + i)) (LoadL.all (Prod.snd a)))) fun x0 =>
      .ret (x0)))
theorem eq_rCheckLoad (a : Ship × LoadL) : (callT1 P BKLr412 30 43 D_cl (dI .i64)) a = K.rCheckLoad a := fn_rCheckLoad a
noncomputable def BKLr413 : Tab := BKLr412.addCall 43 (callE D_cl (dI .i64) (fun a => .obs (K.rCheckLoad a) .ret))
theorem tKLr413 : TabOk P BKLr413 := TabOk.addFn (d := 30) okP tKLr412 (fun a r h => by rw [eq_rCheckLoad]; exact obs_ret h)
def lTip : DecL (Bool × Int × Int × Int) := .cons dB (.cons (dI .i64) (.cons (dI .i64) (.last (dI .i64) 0)))
def S_rst3 := DecS.mk0 (.skips 2 (.unit (dLp 0 0 0 0) (.unit (dLp 1 0 0 0) (.unit (dLp 2 0 0 0) (.skip (.unit (dLp 3 0 0 0) (.last (dI .i64) 36))))))) (.flat 27 lShip (.flat 41 lLoadL (.flat 101 lTip (.flat 39 lSpan .nil))))
def R_rst3 := DecS.mk0 (.skips 4 (.unit (dLp 0 0 0 0) (.tops 39))) (.flat 101 lTip .nil)
def X_rst3 := DecX.or (DecX.one .ret [4] R_rst3) (DecX.one (.exit 0) [4] R_rst3)
noncomputable def K.st_rst3 := loopT1 P BKLr413 30 46 49 [4, 2, 7, 3, 6] S_rst3 X_rst3
theorem sl_rst3 : ∀ s, (K.st_rst3) s = T.run (
  .br (decide (Prod.fst s ≤ Span.hi (Prod.fst (Prod.snd (Prod.snd (Prod.snd (Prod.snd s))))))) (
    .chk (decide (len (Ship.holds (Prod.fst (Prod.snd s))) ≤ (1000000 : Nat))) <|
    .obs (rFill (decF rSpan (List.length (LoadL.holds (Prod.fst (Prod.snd (Prod.snd s))))) fun i => encF rSpan (LoadL.holds (Prod.fst (Prod.snd (Prod.snd s)))) ((0 : Nat) + i), decF rInt (List.length (colH (Prod.fst (Prod.snd s)) (3 : Nat) (len (Ship.holds (Prod.fst (Prod.snd s)))))) fun i => encF rInt (colH (Prod.fst (Prod.snd s)) (3 : Nat) (len (Ship.holds (Prod.fst (Prod.snd s))))) ((0 : Nat) + i), Prod.fst s)) fun x0 =>
      .obs (rSteadyX (Prod.fst (Prod.snd s), decF rInt (List.length x0) fun i => encF rInt x0 ((0 : Nat) + i))) fun x1 =>
        .br (!x1) (
          .obs (rRise (Prod.fst (Prod.snd s), decF rInt (List.length x0) fun i => encF rInt x0 ((0 : Nat) + i))) fun x2 =>
            .ret (Sum.inr (Sum.inl (PUnit.unit, (true, Prod.fst s, x2, (0 : Int)), PUnit.unit)))) (
          .ret (Sum.inl (IntKind.wrap IntKind.i64 (Prod.fst s + (1 : Int)), Prod.fst (Prod.snd s), LoadL.mk (decF rSpan (List.length (LoadL.holds (Prod.fst (Prod.snd (Prod.snd s))))) fun i => encF rSpan (LoadL.holds (Prod.fst (Prod.snd (Prod.snd s)))) ((0 : Nat) + i)) (LoadL.all (Prod.fst (Prod.snd (Prod.snd s)))), Prod.fst (Prod.snd (Prod.snd (Prod.snd s))), Prod.fst (Prod.snd (Prod.snd (Prod.snd (Prod.snd s)))), PUnit.unit)))) (
    .ret (Sum.inr (Sum.inr (PUnit.unit, Prod.fst (Prod.snd (Prod.snd (Prod.snd s))), PUnit.unit))))) := fun s => by kernel_rfl
noncomputable def K.L_rst3 := lim K.st_rst3
noncomputable def BKLr414 : Tab := BKLr413.addNode 46 49 (nodeE [4, 2, 7, 3, 6] S_rst3 X_rst3 (fun s => .obs (K.L_rst3 s) .ret))
theorem tKLr414 : TabOk P BKLr414 := TabOk.addLoop (d := 30) okP tKLr413 (by kernel_rfl) (by kernel_rfl) (fun s r h => obs_ret h)
theorem fn_rSteady : ∀ a, (callT1 P BKLr414 30 46 D_cl (dAgg lTip)) a = T.run (
  .obs (rCheckLoad (Prod.fst a, LoadL.mk (decF rSpan (List.length (LoadL.holds (Prod.snd a))) fun i => encF rSpan (LoadL.holds (Prod.snd a)) ((0 : Nat) + i)) (LoadL.all (Prod.snd a)))) fun x0 =>
    .br (x0 != (0 : Int)) (
      .ret ((false, (0 : Int), (0 : Int), x0))) (
      .obs (rTotals (LoadL.mk (decF rSpan (List.length (LoadL.holds (Prod.snd a))) fun i => encF rSpan (LoadL.holds (Prod.snd a)) ((0 : Nat) + i)) (LoadL.all (Prod.snd a)))) fun x1 =>
        .obs (L_rst3 (Span.lo x1, Prod.fst a, LoadL.mk (decF rSpan (List.length (LoadL.holds (Prod.snd a))) fun i => encF rSpan (LoadL.holds (Prod.snd a)) ((0 : Nat) + i)) (LoadL.all (Prod.snd a)), (false, (0 : Int), (0 : Int), (0 : Int)), x1, PUnit.unit)) fun x2 =>
          .sum (x2) (fun x3 =>
            .ret (Prod.fst (Prod.snd x3))) (fun _ =>
            .ret ((false, (0 : Int), (0 : Int), (0 : Int)))))) := fun a => by kernel_rfl
noncomputable def K.rSteady (a : Ship × LoadL) : Option (Bool × Int × Int × Int) := T.run (
  .obs (rCheckLoad (Prod.fst a, LoadL.mk (decF rSpan (List.length (LoadL.holds (Prod.snd a))) fun i => encF rSpan (LoadL.holds (Prod.snd a)) ((0 : Nat) + i)) (LoadL.all (Prod.snd a)))) fun x0 =>
    .br (x0 != (0 : Int)) (
      .ret ((false, (0 : Int), (0 : Int), x0))) (
      .obs (rTotals (LoadL.mk (decF rSpan (List.length (LoadL.holds (Prod.snd a))) fun i => encF rSpan (LoadL.holds (Prod.snd a)) ((0 : Nat) + i)) (LoadL.all (Prod.snd a)))) fun x1 =>
        .obs (L_rst3 (Span.lo x1, Prod.fst a, LoadL.mk (decF rSpan (List.length (LoadL.holds (Prod.snd a))) fun i => encF rSpan (LoadL.holds (Prod.snd a)) ((0 : Nat) + i)) (LoadL.all (Prod.snd a)), (false, (0 : Int), (0 : Int), (0 : Int)), x1, PUnit.unit)) fun x2 =>
          .sum (x2) (fun x3 =>
            .ret (Prod.fst (Prod.snd x3))) (fun _ =>
            .ret ((false, (0 : Int), (0 : Int), (0 : Int))))))
theorem eq_rSteady (a : Ship × LoadL) : (callT1 P BKLr414 30 46 D_cl (dAgg lTip)) a = K.rSteady a := fn_rSteady a
noncomputable def BKLr415 : Tab := BKLr414.addCall 46 (callE D_cl (dAgg lTip) (fun a => .obs (K.rSteady a) .ret))
theorem tKLr415 : TabOk P BKLr415 := TabOk.addFn (d := 30) okP tKLr414 (fun a r h => by rw [eq_rSteady]; exact obs_ret h)
def lNum : DecL (Int × Int) := .cons (dI .i64) (.last (dI .i64) 0)
def S_rdp := DecS.mk0 (.skips 2 (.unit (dLp 0 0 0 0) (.unit (dLp 1 0 0 0) (.unit (dLp 2 0 0 0) (.skip (.unit (dLp 3 0 0 0) (.cons (dI .i64) (.last (dI .i64) 46)))))))) (.flat 27 lShip (.flat 41 lLoadL (.flat 177 lNum (.flat 39 lSpan .nil))))
def X_rdp := DecX.one (.exit 0) [7, 4] (DecS.mk0 (.skips 4 (.unit (dLp 0 0 0 0) (.skips 2 (.last (dI .i64) 47)))) (.flat 177 lNum .nil))
noncomputable def K.st_rdp := loopT1 P BKLr415 30 113 57 [8, 2, 3, 7, 4, 6] S_rdp X_rdp
theorem sl_rdp : ∀ s, (K.st_rdp) s = T.run (
  .br (decide (Prod.snd (Prod.fst s) ≤ Span.hi (Prod.fst (Prod.snd (Prod.snd (Prod.snd (Prod.snd s))))))) (
    .chk (decide (len (Ship.holds (Prod.fst (Prod.snd s))) ≤ (1000000 : Nat))) <|
    .obs (rFill (decF rSpan (List.length (LoadL.holds (Prod.fst (Prod.snd (Prod.snd s))))) fun i => encF rSpan (LoadL.holds (Prod.fst (Prod.snd (Prod.snd s)))) ((0 : Nat) + i), decF rInt (List.length (levR (Prod.fst (Prod.snd s)) (1 : Int) (len (Ship.holds (Prod.fst (Prod.snd s)))))) fun i => encF rInt (levR (Prod.fst (Prod.snd s)) (1 : Int) (len (Ship.holds (Prod.fst (Prod.snd s))))) ((0 : Nat) + i), Prod.snd (Prod.fst s))) fun x0 =>
      .obs (rDeep (Prod.fst (Prod.snd s), decF rInt (List.length x0) fun i => encF rInt x0 ((0 : Nat) + i))) fun x1 =>
        .chk (decide (len (Ship.holds (Prod.fst (Prod.snd s))) ≤ (1000000 : Nat))) <|
        .obs (rFill (decF rSpan (List.length (LoadL.holds (Prod.fst (Prod.snd (Prod.snd s))))) fun i => encF rSpan (LoadL.holds (Prod.fst (Prod.snd (Prod.snd s)))) ((0 : Nat) + i), decF rInt (List.length (levR (Prod.fst (Prod.snd s)) (-1 : Int) (len (Ship.holds (Prod.fst (Prod.snd s)))))) fun i => encF rInt (levR (Prod.fst (Prod.snd s)) (-1 : Int) (len (Ship.holds (Prod.fst (Prod.snd s))))) ((0 : Nat) + i), Prod.snd (Prod.fst s))) fun x2 =>
          .obs (rDeep (Prod.fst (Prod.snd s), decF rInt (List.length x2) fun i => encF rInt x2 ((0 : Nat) + i))) fun x3 =>
            .ret (Sum.inl ((if x3 > if x1 > Prod.fst (Prod.fst s) then x1 else Prod.fst (Prod.fst s) then x3 else if x1 > Prod.fst (Prod.fst s) then x1 else Prod.fst (Prod.fst s), IntKind.wrap IntKind.i64 (Prod.snd (Prod.fst s) + (1 : Int))), Prod.fst (Prod.snd s), LoadL.mk (decF rSpan (List.length (LoadL.holds (Prod.fst (Prod.snd (Prod.snd s))))) fun i => encF rSpan (LoadL.holds (Prod.fst (Prod.snd (Prod.snd s)))) ((0 : Nat) + i)) (LoadL.all (Prod.fst (Prod.snd (Prod.snd s)))), Prod.fst (Prod.snd (Prod.snd (Prod.snd s))), Prod.fst (Prod.snd (Prod.snd (Prod.snd (Prod.snd s)))), PUnit.unit))) (
    .ret (Sum.inr (Prod.fst (Prod.fst s), Prod.fst (Prod.snd (Prod.snd (Prod.snd s))), PUnit.unit)))) := fun s => by kernel_rfl
noncomputable def K.L_rdp := lim K.st_rdp
noncomputable def BKLr416 : Tab := BKLr415.addNode 113 57 (nodeE [8, 2, 3, 7, 4, 6] S_rdp X_rdp (fun s => .obs (K.L_rdp s) .ret))
theorem tKLr416 : TabOk P BKLr416 := TabOk.addLoop (d := 30) okP tKLr415 (by kernel_rfl) (by kernel_rfl) (fun s r h => obs_ret h)
theorem fn_rDeepest : ∀ a, (callT1 P BKLr416 30 113 D_cl (dAgg lNum)) a = T.run (
  .obs (rCheckLoad (Prod.fst a, LoadL.mk (decF rSpan (List.length (LoadL.holds (Prod.snd a))) fun i => encF rSpan (LoadL.holds (Prod.snd a)) ((0 : Nat) + i)) (LoadL.all (Prod.snd a)))) fun x0 =>
    .br (x0 != (0 : Int)) (
      .ret (((0 : Int), x0))) (
      .obs (rTotals (LoadL.mk (decF rSpan (List.length (LoadL.holds (Prod.snd a))) fun i => encF rSpan (LoadL.holds (Prod.snd a)) ((0 : Nat) + i)) (LoadL.all (Prod.snd a)))) fun x1 =>
        .chk (decide (len (Ship.holds (Prod.fst a)) ≤ (1000000 : Nat))) <|
        .obs (rFill (decF rSpan (List.length (LoadL.holds (Prod.snd a))) fun i => encF rSpan (LoadL.holds (Prod.snd a)) ((0 : Nat) + i), decF rInt (List.length (levR (Prod.fst a) (1 : Int) (len (Ship.holds (Prod.fst a))))) fun i => encF rInt (levR (Prod.fst a) (1 : Int) (len (Ship.holds (Prod.fst a)))) ((0 : Nat) + i), Span.lo x1)) fun x2 =>
          .obs (rDeep (Prod.fst a, decF rInt (List.length x2) fun i => encF rInt x2 ((0 : Nat) + i))) fun x3 =>
            .obs (L_rdp ((x3, Span.lo x1), Prod.fst a, LoadL.mk (decF rSpan (List.length (LoadL.holds (Prod.snd a))) fun i => encF rSpan (LoadL.holds (Prod.snd a)) ((0 : Nat) + i)) (LoadL.all (Prod.snd a)), ((0 : Int), (0 : Int)), x1, PUnit.unit)) fun x4 =>
              .ret ((Prod.fst x4, (0 : Int))))) := fun a => by kernel_rfl
noncomputable def K.rDeepest (a : Ship × LoadL) : Option (Int × Int) := T.run (
  .obs (rCheckLoad (Prod.fst a, LoadL.mk (decF rSpan (List.length (LoadL.holds (Prod.snd a))) fun i => encF rSpan (LoadL.holds (Prod.snd a)) ((0 : Nat) + i)) (LoadL.all (Prod.snd a)))) fun x0 =>
    .br (x0 != (0 : Int)) (
      .ret (((0 : Int), x0))) (
      .obs (rTotals (LoadL.mk (decF rSpan (List.length (LoadL.holds (Prod.snd a))) fun i => encF rSpan (LoadL.holds (Prod.snd a)) ((0 : Nat) + i)) (LoadL.all (Prod.snd a)))) fun x1 =>
        .chk (decide (len (Ship.holds (Prod.fst a)) ≤ (1000000 : Nat))) <|
        .obs (rFill (decF rSpan (List.length (LoadL.holds (Prod.snd a))) fun i => encF rSpan (LoadL.holds (Prod.snd a)) ((0 : Nat) + i), decF rInt (List.length (levR (Prod.fst a) (1 : Int) (len (Ship.holds (Prod.fst a))))) fun i => encF rInt (levR (Prod.fst a) (1 : Int) (len (Ship.holds (Prod.fst a)))) ((0 : Nat) + i), Span.lo x1)) fun x2 =>
          .obs (rDeep (Prod.fst a, decF rInt (List.length x2) fun i => encF rInt x2 ((0 : Nat) + i))) fun x3 =>
            .obs (L_rdp ((x3, Span.lo x1), Prod.fst a, LoadL.mk (decF rSpan (List.length (LoadL.holds (Prod.snd a))) fun i => encF rSpan (LoadL.holds (Prod.snd a)) ((0 : Nat) + i)) (LoadL.all (Prod.snd a)), ((0 : Int), (0 : Int)), x1, PUnit.unit)) fun x4 =>
              .ret ((Prod.fst x4, (0 : Int)))))
theorem eq_rDeepest (a : Ship × LoadL) : (callT1 P BKLr416 30 113 D_cl (dAgg lNum)) a = K.rDeepest a := fn_rDeepest a
noncomputable def BKLr417 : Tab := BKLr416.addCall 113 (callE D_cl (dAgg lNum) (fun a => .obs (K.rDeepest a) .ret))
theorem tKLr417 : TabOk P BKLr417 := TabOk.addFn (d := 30) okP tKLr416 (fun a r h => by rw [eq_rDeepest]; exact obs_ret h)
theorem fn_rClear : ∀ a, (callT1 P BKLr417 30 47 D_clr R_bi) a = T.run (
  .obs (rDeepest (Prod.fst a, LoadL.mk (decF rSpan (List.length (LoadL.holds (Prod.fst (Prod.snd a)))) fun i => encF rSpan (LoadL.holds (Prod.fst (Prod.snd a))) ((0 : Nat) + i)) (LoadL.all (Prod.fst (Prod.snd a))))) fun x0 =>
    .br (Prod.snd x0 != (0 : Int)) (
      .ret ((false, Prod.snd x0))) (
      .br (!r_in (Prod.fst (Prod.snd (Prod.snd a)), (0 : Int), (65536 : Int))) (
        .ret ((false, (1 : Int)))) (
        .br (!r_in (Prod.snd (Prod.snd (Prod.snd a)), (0 : Int), (5000 : Int))) (
          .ret ((false, (1 : Int)))) (
          .ret ((decide (IntKind.wrap IntKind.i64 (Prod.fst x0 + Prod.snd (Prod.snd (Prod.snd a))) ≤ Prod.fst (Prod.snd (Prod.snd a))), (0 : Int))))))) := fun a => by kernel_rfl
noncomputable def K.rClear (a : Ship × LoadL × Int × Int) : Option (Bool × Int) := T.run (
  .obs (rDeepest (Prod.fst a, LoadL.mk (decF rSpan (List.length (LoadL.holds (Prod.fst (Prod.snd a)))) fun i => encF rSpan (LoadL.holds (Prod.fst (Prod.snd a))) ((0 : Nat) + i)) (LoadL.all (Prod.fst (Prod.snd a))))) fun x0 =>
    .br (Prod.snd x0 != (0 : Int)) (
      .ret ((false, Prod.snd x0))) (
      .br (!r_in (Prod.fst (Prod.snd (Prod.snd a)), (0 : Int), (65536 : Int))) (
        .ret ((false, (1 : Int)))) (
        .br (!r_in (Prod.snd (Prod.snd (Prod.snd a)), (0 : Int), (5000 : Int))) (
          .ret ((false, (1 : Int)))) (
          .ret ((decide (IntKind.wrap IntKind.i64 (Prod.fst x0 + Prod.snd (Prod.snd (Prod.snd a))) ≤ Prod.fst (Prod.snd (Prod.snd a))), (0 : Int)))))))
theorem eq_rClear (a : Ship × LoadL × Int × Int) : (callT1 P BKLr417 30 47 D_clr R_bi) a = K.rClear a := fn_rClear a
noncomputable def BKLr418 : Tab := BKLr417.addCall 47 (callE D_clr R_bi (fun a => .obs (K.rClear a) .ret))
theorem tKLr418 : TabOk P BKLr418 := TabOk.addFn (d := 30) okP tKLr417 (fun a r h => by rw [eq_rClear]; exact obs_ret h)
noncomputable def BKLr419 : Tab := BKLr418.addCall 42 (callE D_mss R_off (fun a => .ret (rTog a)))
theorem tKLr419 : TabOk P BKLr419 := TabOk.addPC tKLr418 (fun a r h => by rw [← ret_some h]; exact call_of okP tKY51 (rTog_eq a))
def S_rlp := DecS.ghostF 10 0 39 2 [.int .i64, .int .i64] (DecS.mk0 (.skips 3 (.unit (dLp 0 0 0 0) (.skips 2 (.unit (dLp 1 0 0 0) (.skips 3 (.unit (dLp 2 0 0 0) (.last (dI .i64) 50))))))) O_ldp)
def X_rlp := DecX.one (.exit 0) [3, 6, 10] (DecS.mk0 (.skips 3 (.unit (dLp 0 0 0 0) (.skips 2 (.unit (dLp 1 0 0 0) (.skips 3 (.unit (dLp 2 0 0 0) (.tops 51))))))) O_ldp)
noncomputable def K.st_rlp := loopT1 P BKLr419 30 13 49 [11, 10, 3, 6] S_rlp X_rlp
theorem sl_rlp : ∀ s, (K.st_rlp) s = T.run (
  .br (decide (Prod.fst s < (↑(len (Ship.holds (Prod.fst (Prod.snd s)))) : Int))) (
    .chk (decide ((0 : Int) ≤ Prod.fst s ∧ Prod.fst s < (↑(XS.len (Ship.holds (Prod.fst (Prod.snd s)))) : Int))) <|
    .chk (decide ((List.length (Prod.fst (Prod.snd (Prod.snd (Prod.snd (Prod.snd s))))) + (1 : Nat)) * (16 : Nat) ≤ (140737488355328 : Nat) ∧ List.length (Prod.fst (Prod.snd (Prod.snd (Prod.snd (Prod.snd s))))) + (1 : Nat) ≤ nat_lit 9223372036854775807)) <|
    .ret (Sum.inl (IntKind.wrap IntKind.i64 (Prod.fst s + (1 : Int)), Prod.fst (Prod.snd s), LoadL.mk (decF rSpan (List.length (LoadL.holds (Prod.fst (Prod.snd (Prod.snd s))))) fun i => encF rSpan (LoadL.holds (Prod.fst (Prod.snd (Prod.snd s)))) ((0 : Nat) + i)) (LoadL.all (Prod.fst (Prod.snd (Prod.snd s)))), (List.length (Prod.fst (Prod.snd (Prod.snd (Prod.snd (Prod.snd s))))) + (1 : Nat), Prod.snd (Prod.fst (Prod.snd (Prod.snd (Prod.snd s))))), decF rSpan (List.length (Prod.fst (Prod.snd (Prod.snd (Prod.snd (Prod.snd s))))) + (1 : Nat)) (appG (List.length (Prod.fst (Prod.snd (Prod.snd (Prod.snd (Prod.snd s)))))) (encF rSpan (Prod.fst (Prod.snd (Prod.snd (Prod.snd (Prod.snd s)))))) fun i k => Option.getD [AV.int IntKind.i64 (0 : Int), AV.int IntKind.i64 (XS.g (Ship.holds (Prod.fst (Prod.snd s))) (Int.toNat (Prod.fst s)) (1 : Nat))][((0 : Nat) + i) * (2 : Nat) + k]? AV.top), PUnit.unit))) (
    .ret (Sum.inr (PUnit.unit, Prod.fst (Prod.snd s), LoadL.mk (decF rSpan (List.length (LoadL.holds (Prod.fst (Prod.snd (Prod.snd s))))) fun i => encF rSpan (LoadL.holds (Prod.fst (Prod.snd (Prod.snd s)))) ((0 : Nat) + i)) (LoadL.all (Prod.fst (Prod.snd (Prod.snd s)))), Prod.fst (Prod.snd (Prod.snd (Prod.snd s))), decF rSpan (List.length (Prod.fst (Prod.snd (Prod.snd (Prod.snd (Prod.snd s)))))) (encF rSpan (Prod.fst (Prod.snd (Prod.snd (Prod.snd (Prod.snd s)))))), PUnit.unit)))) := fun s => by kernel_rfl
noncomputable def K.L_rlp := lim K.st_rlp
noncomputable def BKLr420 : Tab := BKLr419.addNode 13 49 (nodeE [11, 10, 3, 6] S_rlp X_rlp (fun s => .obs (K.L_rlp s) .ret))
theorem tKLr420 : TabOk P BKLr420 := TabOk.addLoop (d := 30) okP tKLr419 (by kernel_rfl) (by kernel_rfl) (fun s r h => obs_ret h)
theorem fn_rLoad : ∀ a, (callT1 P BKLr420 30 13 D_mss R_load) a = T.run (
  .br (Prod.snd (rTog a) != (0 : Int)) (
    .ret ((LoadL.mk [] (Span.mk (0 : Int) (0 : Int)), Prod.snd (rTog a)))) (
    .obs (L_rlp ((0 : Int), Prod.fst a, LoadL.mk [] (Span.mk (0 : Int) (0 : Int)), ((0 : Nat), IntKind.wrap IntKind.i64 (Span.lo (Prod.fst (rTog a)) - Ship.light (Prod.fst a)), IntKind.wrap IntKind.i64 (Span.hi (Prod.fst (rTog a)) - Ship.light (Prod.fst a))), decF rSpan (0 : Nat) fun x x_1 => AV.top, PUnit.unit)) fun x0 =>
      .obs (rCheckLoad (Prod.fst (Prod.snd x0), LoadL.mk (decF rSpan (List.length (Prod.fst (Prod.snd (Prod.snd (Prod.snd (Prod.snd x0)))))) fun i => encF rSpan (Prod.fst (Prod.snd (Prod.snd (Prod.snd (Prod.snd x0))))) ((0 : Nat) + i)) (Span.mk (Prod.fst (Prod.snd (Prod.fst (Prod.snd (Prod.snd (Prod.snd x0)))))) (Prod.snd (Prod.snd (Prod.fst (Prod.snd (Prod.snd (Prod.snd x0))))))))) fun x1 =>
        .br (x1 != (0 : Int)) (
          .ret ((LoadL.mk [] (Span.mk (0 : Int) (0 : Int)), x1))) (
          .ret ((LoadL.mk (decF rSpan (List.length (Prod.fst (Prod.snd (Prod.snd (Prod.snd (Prod.snd x0)))))) fun i => encF rSpan (Prod.fst (Prod.snd (Prod.snd (Prod.snd (Prod.snd x0))))) ((0 : Nat) + i)) (Span.mk (Prod.fst (Prod.snd (Prod.fst (Prod.snd (Prod.snd (Prod.snd x0)))))) (Prod.snd (Prod.snd (Prod.fst (Prod.snd (Prod.snd (Prod.snd x0))))))), (0 : Int)))))) := fun a => by kernel_rfl
noncomputable def K.rLoad (a : Ship × Bulbs × XS) : Option (LoadL × Int) := T.run (
  .br (Prod.snd (rTog a) != (0 : Int)) (
    .ret ((LoadL.mk [] (Span.mk (0 : Int) (0 : Int)), Prod.snd (rTog a)))) (
    .obs (L_rlp ((0 : Int), Prod.fst a, LoadL.mk [] (Span.mk (0 : Int) (0 : Int)), ((0 : Nat), IntKind.wrap IntKind.i64 (Span.lo (Prod.fst (rTog a)) - Ship.light (Prod.fst a)), IntKind.wrap IntKind.i64 (Span.hi (Prod.fst (rTog a)) - Ship.light (Prod.fst a))), decF rSpan (0 : Nat) fun x x_1 => AV.top, PUnit.unit)) fun x0 =>
      .obs (rCheckLoad (Prod.fst (Prod.snd x0), LoadL.mk (decF rSpan (List.length (Prod.fst (Prod.snd (Prod.snd (Prod.snd (Prod.snd x0)))))) fun i => encF rSpan (Prod.fst (Prod.snd (Prod.snd (Prod.snd (Prod.snd x0))))) ((0 : Nat) + i)) (Span.mk (Prod.fst (Prod.snd (Prod.fst (Prod.snd (Prod.snd (Prod.snd x0)))))) (Prod.snd (Prod.snd (Prod.fst (Prod.snd (Prod.snd (Prod.snd x0))))))))) fun x1 =>
        .br (x1 != (0 : Int)) (
          .ret ((LoadL.mk [] (Span.mk (0 : Int) (0 : Int)), x1))) (
          .ret ((LoadL.mk (decF rSpan (List.length (Prod.fst (Prod.snd (Prod.snd (Prod.snd (Prod.snd x0)))))) fun i => encF rSpan (Prod.fst (Prod.snd (Prod.snd (Prod.snd (Prod.snd x0))))) ((0 : Nat) + i)) (Span.mk (Prod.fst (Prod.snd (Prod.fst (Prod.snd (Prod.snd (Prod.snd x0)))))) (Prod.snd (Prod.snd (Prod.fst (Prod.snd (Prod.snd (Prod.snd x0))))))), (0 : Int))))))
theorem eq_rLoad (a : Ship × Bulbs × XS) : (callT1 P BKLr420 30 13 D_mss R_load) a = K.rLoad a := fn_rLoad a
noncomputable def BKLr421 : Tab := BKLr420.addCall 13 (callE D_mss R_load (fun a => .obs (K.rLoad a) .ret))
theorem tKLr421 : TabOk P BKLr421 := TabOk.addFn (d := 30) okP tKLr420 (fun a r h => by rw [eq_rLoad]; exact obs_ret h)
theorem fn_rRelease : ∀ a, (callT1 P BKLr421 30 15 D_rel R_bi) a = T.run (
  .obs (rLoad (Prod.fst a, Prod.fst (Prod.snd a), Prod.fst (Prod.snd (Prod.snd a)))) fun x0 =>
    .br (Prod.snd x0 != (0 : Int)) (
      .ret ((false, Prod.snd x0))) (
      .obs (rSteady (Prod.fst a, LoadL.mk (decF rSpan (List.length (LoadL.holds (Prod.fst x0))) fun i => encF rSpan (LoadL.holds (Prod.fst x0)) ((0 : Nat) + i)) (LoadL.all (Prod.fst x0)))) fun x1 =>
        .br (Prod.snd (Prod.snd (Prod.snd x1)) != (0 : Int)) (
          .ret ((false, Prod.snd (Prod.snd (Prod.snd x1))))) (
          .obs (rClear (Prod.fst a, LoadL.mk (decF rSpan (List.length (LoadL.holds (Prod.fst x0))) fun i => encF rSpan (LoadL.holds (Prod.fst x0)) ((0 : Nat) + i)) (LoadL.all (Prod.fst x0)), Prod.snd (Prod.snd (Prod.snd a)))) fun x2 =>
            .br (Prod.snd x2 != (0 : Int)) (
              .ret ((false, Prod.snd x2))) (
              .br (!Prod.fst x1) (
                .ret ((Prod.fst x2, (0 : Int)))) (
                .ret ((false, (0 : Int)))))))) := fun a => by kernel_rfl
noncomputable def K.rRelease (a : Ship × Bulbs × XS × Int × Int) : Option (Bool × Int) := T.run (
  .obs (rLoad (Prod.fst a, Prod.fst (Prod.snd a), Prod.fst (Prod.snd (Prod.snd a)))) fun x0 =>
    .br (Prod.snd x0 != (0 : Int)) (
      .ret ((false, Prod.snd x0))) (
      .obs (rSteady (Prod.fst a, LoadL.mk (decF rSpan (List.length (LoadL.holds (Prod.fst x0))) fun i => encF rSpan (LoadL.holds (Prod.fst x0)) ((0 : Nat) + i)) (LoadL.all (Prod.fst x0)))) fun x1 =>
        .br (Prod.snd (Prod.snd (Prod.snd x1)) != (0 : Int)) (
          .ret ((false, Prod.snd (Prod.snd (Prod.snd x1))))) (
          .obs (rClear (Prod.fst a, LoadL.mk (decF rSpan (List.length (LoadL.holds (Prod.fst x0))) fun i => encF rSpan (LoadL.holds (Prod.fst x0)) ((0 : Nat) + i)) (LoadL.all (Prod.fst x0)), Prod.snd (Prod.snd (Prod.snd a)))) fun x2 =>
            .br (Prod.snd x2 != (0 : Int)) (
              .ret ((false, Prod.snd x2))) (
              .br (!Prod.fst x1) (
                .ret ((Prod.fst x2, (0 : Int)))) (
                .ret ((false, (0 : Int))))))))
theorem eq_rRelease (a : Ship × Bulbs × XS × Int × Int) : (callT1 P BKLr421 30 15 D_rel R_bi) a = K.rRelease a := fn_rRelease a
noncomputable def BKLr422 : Tab := BKLr421.addCall 15 (callE D_rel R_bi (fun a => .obs (K.rRelease a) .ret))
theorem tKLr422 : TabOk P BKLr422 := TabOk.addFn (d := 30) okP tKLr421 (fun a r h => by rw [eq_rRelease]; exact obs_ret h)
def D_sld := DecL.cons dLoadL (.last dLoadL 0)
def S_sld := DecS.mk0 (.skips 2 (.unit (dLp 0 0 0 0) (.unit (dLp 1 0 0 0) (.skip (.last (dI .i64) 32))))) (.flat 41 lLoadL (.flat 41 lLoadL .nil))
def X_sld := DecX.or (DecX.one .ret [4] (DecS.mk1 (.skips 4 (.last dB 33)))) (DecX.one (.exit 0) [] (DecS.mk1 (.tops 38)))
noncomputable def K.st_sld := loopT1 P BKLr422 30 16 33 [5, 3, 2] S_sld X_sld
theorem sl_sld : ∀ s, (K.st_sld) s = T.run (
  .br (decide (Prod.fst s < (↑(clampL (List.length (LoadL.holds (Prod.fst (Prod.snd s))))) : Int))) (
    .chk (decide ((0 : Int) ≤ Prod.fst s ∧ Prod.fst s < (↑(List.length (LoadL.holds (Prod.fst (Prod.snd s)))) : Int))) <|
    .chk (decide ((0 : Int) ≤ Prod.fst s ∧ Prod.fst s < (↑(List.length (LoadL.holds (Prod.fst (Prod.snd (Prod.snd s))))) : Int))) <|
    .br (!(numOf (encF rSpan (LoadL.holds (Prod.fst (Prod.snd s))) ((0 : Nat) + Int.toNat (Prod.fst s)) (0 : Nat)) == numOf (encF rSpan (LoadL.holds (Prod.fst (Prod.snd (Prod.snd s)))) ((0 : Nat) + Int.toNat (Prod.fst s)) (0 : Nat)) && numOf (encF rSpan (LoadL.holds (Prod.fst (Prod.snd s))) ((0 : Nat) + Int.toNat (Prod.fst s)) (nat_lit 1)) == numOf (encF rSpan (LoadL.holds (Prod.fst (Prod.snd (Prod.snd s)))) ((0 : Nat) + Int.toNat (Prod.fst s)) (nat_lit 1)))) (
      .ret (Sum.inr (Sum.inl false))) (
      .ret (Sum.inl (IntKind.wrap IntKind.i64 (Prod.fst s + (1 : Int)), LoadL.mk (decF rSpan (List.length (LoadL.holds (Prod.fst (Prod.snd s)))) fun i => encF rSpan (LoadL.holds (Prod.fst (Prod.snd s))) ((0 : Nat) + i)) (LoadL.all (Prod.fst (Prod.snd s))), LoadL.mk (decF rSpan (List.length (LoadL.holds (Prod.fst (Prod.snd (Prod.snd s))))) fun i => encF rSpan (LoadL.holds (Prod.fst (Prod.snd (Prod.snd s)))) ((0 : Nat) + i)) (LoadL.all (Prod.fst (Prod.snd (Prod.snd s)))), PUnit.unit)))) (
    .ret (Sum.inr (Sum.inr PUnit.unit)))) := fun s => by kernel_rfl
noncomputable def K.L_sld := lim K.st_sld
noncomputable def BKLr423 : Tab := BKLr422.addNode 16 33 (nodeE [5, 3, 2] S_sld X_sld (fun s => .obs (K.L_sld s) .ret))
theorem tKLr423 : TabOk P BKLr423 := TabOk.addLoop (d := 30) okP tKLr422 (by kernel_rfl) (by kernel_rfl) (fun s r h => obs_ret h)
theorem fn_sameLoads : ∀ a, (callT1 P BKLr423 30 16 D_sld dB) a = T.run (
  .br (!(Span.lo (LoadL.all (Prod.fst a)) == Span.lo (LoadL.all (Prod.snd a)) && Span.hi (LoadL.all (Prod.fst a)) == Span.hi (LoadL.all (Prod.snd a)))) (
    .ret (false)) (
    .br ((↑(clampL (List.length (LoadL.holds (Prod.fst a)))) : Int) != (↑(clampL (List.length (LoadL.holds (Prod.snd a)))) : Int)) (
      .ret (false)) (
      .obs (L_sld ((0 : Int), LoadL.mk (decF rSpan (List.length (LoadL.holds (Prod.fst a))) fun i => encF rSpan (LoadL.holds (Prod.fst a)) ((0 : Nat) + i)) (LoadL.all (Prod.fst a)), LoadL.mk (decF rSpan (List.length (LoadL.holds (Prod.snd a))) fun i => encF rSpan (LoadL.holds (Prod.snd a)) ((0 : Nat) + i)) (LoadL.all (Prod.snd a)), PUnit.unit)) fun x0 =>
        .sum (x0) (fun x1 =>
          .ret (x1)) (fun _ =>
          .ret (true))))) := fun a => by kernel_rfl
noncomputable def K.sameLoads (a : LoadL × LoadL) : Option (Bool) := T.run (
  .br (!(Span.lo (LoadL.all (Prod.fst a)) == Span.lo (LoadL.all (Prod.snd a)) && Span.hi (LoadL.all (Prod.fst a)) == Span.hi (LoadL.all (Prod.snd a)))) (
    .ret (false)) (
    .br ((↑(clampL (List.length (LoadL.holds (Prod.fst a)))) : Int) != (↑(clampL (List.length (LoadL.holds (Prod.snd a)))) : Int)) (
      .ret (false)) (
      .obs (L_sld ((0 : Int), LoadL.mk (decF rSpan (List.length (LoadL.holds (Prod.fst a))) fun i => encF rSpan (LoadL.holds (Prod.fst a)) ((0 : Nat) + i)) (LoadL.all (Prod.fst a)), LoadL.mk (decF rSpan (List.length (LoadL.holds (Prod.snd a))) fun i => encF rSpan (LoadL.holds (Prod.snd a)) ((0 : Nat) + i)) (LoadL.all (Prod.snd a)), PUnit.unit)) fun x0 =>
        .sum (x0) (fun x1 =>
          .ret (x1)) (fun _ =>
          .ret (true)))))
theorem eq_sameLoads (a : LoadL × LoadL) : (callT1 P BKLr423 30 16 D_sld dB) a = K.sameLoads a := fn_sameLoads a
noncomputable def BKLr424 : Tab := BKLr423.addCall 16 (callE D_sld dB (fun a => .obs (K.sameLoads a) .ret))
theorem tKLr424 : TabOk P BKLr424 := TabOk.addFn (d := 30) okP tKLr423 (fun a r h => by rw [eq_sameLoads]; exact obs_ret h)
theorem fn_lawLo : ∀ a, (callT1 P BKLr424 30 3 D_rel dB) a = T.run (
  .br (!ship (Prod.fst a)) (
    .ret (true)) (
    .br (!few (Prod.fst (Prod.snd a))) (
      .ret (true)) (
      .br (!list (Prod.fst (Prod.snd (Prod.snd a)))) (
        .ret (true)) (
        .obs (sLoad (Prod.fst a, Prod.fst (Prod.snd a), Prod.fst (Prod.snd (Prod.snd a)))) fun x0 =>
          .obs (rLoad (Prod.fst a, Prod.fst (Prod.snd a), Prod.fst (Prod.snd (Prod.snd a)))) fun x1 =>
            .obs (Release a) fun x2 =>
              .obs (rRelease a) fun x3 =>
                .obs (sameLoads (LoadL.mk (decF rSpan (List.length (LoadL.holds (Prod.fst x0))) fun i => encF rSpan (LoadL.holds (Prod.fst x0)) ((0 : Nat) + i)) (LoadL.all (Prod.fst x0)), LoadL.mk (decF rSpan (List.length (LoadL.holds (Prod.fst x1))) fun i => encF rSpan (LoadL.holds (Prod.fst x1)) ((0 : Nat) + i)) (LoadL.all (Prod.fst x1)))) fun x4 =>
                  .br (x4) (
                    .br (Prod.snd x0 == Prod.snd x1) (
                      .br (Prod.fst x2 == Prod.fst x3) (
                        .ret (Prod.snd x2 == Prod.snd x3)) (
                        .ret (false))) (
                      .ret (false))) (
                    .ret (false)))))) := fun a => by kernel_rfl
end Go.Proofs.YtjbhooodjmjdkaaGreat
/-! KLs1 -/
namespace Go.Proofs.YtjbhooodjmjdkaaGreat
open Ev K
set_option maxRecDepth 100000
namespace K
def sm (g : Nat → Int) : Nat → Int
  | 0 => 0
  | n + 1 => sm g n + g n
theorem sm_le {g h : Nat → Int} : ∀ {n : Nat}, (∀ i, i < n → g i ≤ h i) → sm g n ≤ sm h n
  | 0, _ => Int.le_refl _
  | n + 1, hh => by
    have := sm_le (n := n) (fun i hi => hh i (by omega)); have := hh n (by omega)
    simp only [sm]; omega
theorem sm_congr {g h : Nat → Int} : ∀ {n : Nat}, (∀ i, i < n → g i = h i) → sm g n = sm h n
  | 0, _ => rfl
  | n + 1, hh => by simp only [sm]; rw [sm_congr (fun i hi => hh i (by omega)), hh n (by omega)]
theorem sm_nonneg {g : Nat → Int} : ∀ {n : Nat}, (∀ i, i < n → 0 ≤ g i) → 0 ≤ sm g n
  | 0, _ => Int.le_refl _
  | n + 1, h => by
    have := sm_nonneg (n := n) (fun i hi => h i (by omega)); have := h n (by omega)
    simp only [sm]; omega
theorem fold_w {g : Nat → Int} {B : Int} (hB : 0 ≤ B ∧ B ≤ 1000000000000) : ∀ n : Nat, n ≤ 1000 → (∀ i, i < n → -B ≤ g i ∧ g i ≤ B) →
    (List.range n).foldl (fun a i => IntKind.i64.wrap (a + g i)) 0 = sm g n ∧ -(n * B) ≤ sm g n ∧ sm g n ≤ n * B
  | 0, _, _ => by simp [sm]
  | n + 1, hn, h => by
    obtain ⟨i1, i2, i3⟩ := fold_w hB n (by omega) (fun i hi => h i (by omega))
    have hk := h n (by omega)
    have hm : (n : Int) * B ≤ 1000 * 1000000000000 := Int.mul_le_mul (by omega) hB.2 hB.1 (by omega)
    have hs : ((n + 1 : Nat) : Int) * B = n * B + B := by rw [show ((n + 1 : Nat) : Int) = (n : Int) + 1 by omega, Int.add_mul, Int.one_mul]
    rw [List.range_succ, List.foldl_append, i1, hs]
    simp only [List.foldl_cons, List.foldl_nil, sm]
    exact ⟨w64_in (by omega) (by omega), by omega, by omega⟩
theorem mul_bound {a b A B : Int} (ha : -A ≤ a ∧ a ≤ A) (hb : 0 ≤ b ∧ b ≤ B) (hA : 0 ≤ A) : -(A * B) ≤ a * b ∧ a * b ≤ A * B := by
  have h1 : a * b ≤ A * b := Int.mul_le_mul_of_nonneg_right ha.2 hb.1
  have h2 : A * b ≤ A * B := Int.mul_le_mul_of_nonneg_left hb.2 hA
  have h3 : -A * b ≤ a * b := Int.mul_le_mul_of_nonneg_right ha.1 hb.1
  rw [Int.neg_mul] at h3
  omega
structure LoadgOk (s : Ship) (x : List Int) : Prop where
  len : x.length = K.len s.holds
  each : ∀ i, i < x.length → 0 ≤ vI x i ∧ vI x i ≤ s.holds.g i 1
theorem sumI_sm (x : XS) : ∀ n, sumI x n = sm (fun i => x.g i 1) n
  | 0 => rfl
  | n + 1 => by rw [sumI_succ, sumI_sm x n]; rfl
theorem placed_ok {a b : Int} (h : placed (a, b) = true) : (-20000 ≤ a ∧ a ≤ 20000) ∧ 0 ≤ b ∧ b ≤ 5000 := by
  unfold placed at h
  simp only at h
  split at h
  · rename_i h1
    exact ⟨within_iff.1 h1, within_iff.1 h⟩
  · cases h
section
variable {s : Ship} (hs : ShipOk s) {x : List Int} (hx : LoadgOk s x)
include hs
theorem hold_ok {i : Nat} (hi : i < K.len s.holds) : 0 ≤ s.holds.g i 1 ∧ s.holds.g i 1 ≤ 65536 ∧ (-20000 ≤ s.holds.g i 2 ∧ s.holds.g i 2 ≤ 20000) ∧ 0 ≤ s.holds.g i 3 ∧ s.holds.g i 3 ≤ 5000 := by
  obtain ⟨_, a, b, _⟩ := hldE_ok (hs.hold i hi)
  have c := placed_ok b
  exact ⟨a.1, a.2, c.1, c.2⟩
include hx
theorem ldg_bound {i : Nat} (hi : i < x.length) : 0 ≤ vI x i ∧ vI x i ≤ 65536 := by
  have h1 := hx.each i hi
  have h2 := hold_ok hs (by rw [← hx.len]; exact hi)
  omega
theorem ldg_sum : addL x = sm (vI x) x.length ∧ 0 ≤ addL x ∧ s.light + addL x ≤ rooms s := by
  have h8 := hs.holds; have hl := hx.len
  obtain ⟨e, _, _⟩ := fold_w (g := vI x) (B := 65536) (by omega) x.length (by omega) (fun i hi => by have := ldg_bound hs hx hi; omega)
  have e1 : addL x = sm (vI x) x.length := e
  refine ⟨e1, ?_, ?_⟩
  · rw [e1]; exact sm_nonneg (fun i hi => (hx.each i hi).1)
  · have := sm_le (n := x.length) (fun i hi => (hx.each i hi).2)
    rw [hs.room, sumI_sm, e1, ← hl]; omega
theorem ldg_val {f : List Int} (hf : f.length = x.length) {A : Int} (hA : 0 ≤ A ∧ A ≤ 1000000) (hb : ∀ i, i < f.length → -A ≤ vI f i ∧ vI f i ≤ A) :
    valL f x = sm (fun i => vI f i * vI x i) x.length ∧ valR f x = sm (fun i => vI f i * vI x i) x.length ∧ -(8 * (A * 65536)) ≤ valL f x ∧ valL f x ≤ 8 * (A * 65536) := by
  have h8 := hs.holds; have hl := hx.len
  have hp : ∀ i, i < x.length → -(A * 65536) ≤ vI f i * vI x i ∧ vI f i * vI x i ≤ A * 65536 := fun i hi => mul_bound (hb i (by omega)) (ldg_bound hs hx hi) hA.1
  have hw : ∀ i, i < x.length → IntKind.i64.wrap (vI f i * vI x i) = vI f i * vI x i := fun i hi => by
    have := hp i hi; exact w64_in (by omega) (by omega)
  obtain ⟨e, e2, e3⟩ := fold_w (g := fun i => IntKind.i64.wrap (vI f i * vI x i)) (B := A * 65536) (by omega) x.length (by omega) (fun i hi => by rw [hw i hi]; exact hp i hi)
  have hc : sm (fun i => IntKind.i64.wrap (vI f i * vI x i)) x.length = sm (fun i => vI f i * vI x i) x.length := sm_congr hw
  rw [hc] at e e2 e3
  have e1 : valL f x = sm (fun i => vI f i * vI x i) x.length := by unfold valL; rw [hf]; exact e
  have hmul : (x.length : Int) * (A * 65536) ≤ 8 * (A * 65536) := Int.mul_le_mul_of_nonneg_right (by omega) (by omega)
  exact ⟨e1, e, by rw [e1]; omega, by rw [e1]; omega⟩
end
end K
end Go.Proofs.YtjbhooodjmjdkaaGreat
/-! KLs2 -/
namespace Go.Proofs.YtjbhooodjmjdkaaGreat
open Ev K
set_option maxRecDepth 100000
namespace K
def tB (c : Curve) (m : Int) (i : Nat) : Int × Int := (c.knots.g i 1 * ((c.knots.g (i + 1) 0 - c.knots.g i 0) * 40) + (c.knots.g (i + 1) 1 - c.knots.g i 1) * (m - c.knots.g i 0 * 40), (c.knots.g (i + 1) 0 - c.knots.g i 0) * 40)
noncomputable def tA (c : Curve) (m : Int) : Int × Int := match first (p_tat m c.knots) (len c.knots) with
  | some i => if c.knots.g i 0 * 40 = m then (c.knots.g i 1, 1) else tB c m (i - 1)
  | none => (0, 1)
section
variable {c : Curve} (o : CurveOk c) {m : Int} (h1 : c.knots.g 0 0 * 40 ≤ m) (h2 : m ≤ c.knots.g (len c.knots - 1) 0 * 40)
include o h1 h2
theorem tA_first : ∃ i, first (p_tat m c.knots) (len c.knots) = some i ∧ i < len c.knots ∧ m ≤ c.knots.g i 0 * 40 ∧ (∀ j, j < i → c.knots.g j 0 * 40 < m) ∧ (c.knots.g i 0 * 40 ≠ m → 0 < i) := by
  have hp : ∀ i, i < len c.knots → (p_tat m c.knots i = true ↔ m ≤ c.knots.g i 0 * 40) := fun i hi => by
    have hx := o.x i hi
    unfold p_tat
    rw [w64_in (by omega) (by omega), decide_eq_true_eq]
  have hpos := o.pos
  cases hf : first (p_tat m c.knots) (len c.knots) with
  | none =>
    have := first_none' hf (len c.knots - 1) (by omega)
    have h3 := (hp (len c.knots - 1) (by omega)).2 h2
    rw [this] at h3; cases h3
  | some i =>
    obtain ⟨g1, g2, g3⟩ := first_spec hf
    refine ⟨i, rfl, g1, (hp i g1).1 g2, fun j hj => ?_, fun hne => ?_⟩
    · have := g3 j hj
      have h4 : ¬ m ≤ c.knots.g j 0 * 40 := fun h => by have := (hp j (by omega)).2 h; simp_all
      omega
    · rcases Nat.eq_zero_or_pos i with h0 | h0
      · subst h0
        have := (hp 0 g1).1 g2
        omega
      · exact h0
theorem tabAt_is : tabAt (c, m) = some (tA c m) := by
  obtain ⟨i, hf, hi, g1, g2, g3⟩ := tA_first o h1 h2
  have e1 := K.len_le c.knots; have e2 := K.len_le' c.knots
  have hidx : idx (p_tat m c.knots) (len c.knots) = (i : Int) := by unfold idx; rw [hf]
  have hle := o.le
  unfold tabAt tA
  simp only [hidx, hf, Int.toNat_natCast]
  refine chk_step (decide_eq_true (by omega)) ?_
  have hx := o.x i hi
  have hy := o.y i hi
  rw [w64_in (n := c.knots.g i 0 * 40) (by omega) (by omega)]
  rw [T.run_br]
  by_cases he : c.knots.g i 0 * 40 = m
  · rw [if_pos (by simpa using he), if_pos he]; rfl
  · rw [if_neg (by simpa using he), if_neg he]
    have hpos := g3 he
    have hw : IntKind.wrap IntKind.i64 ((i : Int) - 1) = ((i - 1 : Nat) : Int) := by rw [w64_in (by omega) (by omega)]; omega
    simp only [hw, Int.toNat_natCast]
    refine chk_step (decide_eq_true (by omega)) ?_
    have hx' := o.x (i - 1) (by omega)
    have hy' := o.y (i - 1) (by omega)
    have hinc := o.inc (i - 1) (by omega)
    rw [show i - 1 + 1 = i by omega] at hinc
    have hlt := g2 (i - 1) (by omega)
    rw [T.run_ret]
    have d1 : IntKind.wrap IntKind.i64 (c.knots.g i 0 - c.knots.g (i - 1) 0) = c.knots.g i 0 - c.knots.g (i - 1) 0 := w64_in (by omega) (by omega)
    have d2 : IntKind.wrap IntKind.i64 ((c.knots.g i 0 - c.knots.g (i - 1) 0) * 40) = (c.knots.g i 0 - c.knots.g (i - 1) 0) * 40 := w64_in (by omega) (by omega)
    have d3 : IntKind.wrap IntKind.i64 (c.knots.g (i - 1) 0 * 40) = c.knots.g (i - 1) 0 * 40 := w64_in (by omega) (by omega)
    have d4 : IntKind.wrap IntKind.i64 (m - c.knots.g (i - 1) 0 * 40) = m - c.knots.g (i - 1) 0 * 40 := w64_in (by omega) (by omega)
    have d5 : IntKind.wrap IntKind.i64 (c.knots.g i 1 - c.knots.g (i - 1) 1) = c.knots.g i 1 - c.knots.g (i - 1) 1 := w64_in (by omega) (by omega)
    have m1 := mul_bound (a := c.knots.g (i - 1) 1) (b := (c.knots.g i 0 - c.knots.g (i - 1) 0) * 40) (A := 65536) (B := 80000) (by omega) (by omega) (by omega)
    have m2 := mul_bound (a := c.knots.g i 1 - c.knots.g (i - 1) 1) (b := m - c.knots.g (i - 1) 0 * 40) (A := 131072) (B := 80000) (by omega) (by omega) (by omega)
    have d6 : IntKind.wrap IntKind.i64 (c.knots.g (i - 1) 1 * ((c.knots.g i 0 - c.knots.g (i - 1) 0) * 40)) = c.knots.g (i - 1) 1 * ((c.knots.g i 0 - c.knots.g (i - 1) 0) * 40) := w64_in (by omega) (by omega)
    have d7 : IntKind.wrap IntKind.i64 ((c.knots.g i 1 - c.knots.g (i - 1) 1) * (m - c.knots.g (i - 1) 0 * 40)) = (c.knots.g i 1 - c.knots.g (i - 1) 1) * (m - c.knots.g (i - 1) 0 * 40) := w64_in (by omega) (by omega)
    simp only [d1, d2, d3, d4, d5, d6, d7]
    rw [w64_in (by omega) (by omega)]
    unfold tB
    rw [show i - 1 + 1 = i by omega]
theorem rAt_is : rAt (c, m) = some (tA c m) := by
  obtain ⟨i, hf, hi, g1, g2, g3⟩ := tA_first o h1 h2
  have e1 := K.len_le c.knots; have e2 := K.len_le' c.knots
  have hle := o.le
  have hmul : ∀ j, j < len c.knots → IntKind.wrap IntKind.i64 (c.knots.g j 0 * 40) = c.knots.g j 0 * 40 := fun j hj => by have := o.x j hj; exact w64_in (by omega) (by omega)
  have hw : ∀ j, j < len c.knots → IntKind.wrap IntKind.i64 ((j : Int) + 1) = ((j + 1 : Nat) : Int) := fun j hj => by rw [w64_in (by omega) (by omega)]; omega
  -- one round
  have hgo : ∀ j, j < len c.knots → c.knots.g j 0 * 40 ≠ m → ¬ (j + 1 < len c.knots ∧ c.knots.g j 0 * 40 < m ∧ m < c.knots.g (j + 1) 0 * 40) →
      st_rat ((m, (j : Int)), c, (0, 0), ()) = some (.inl ((m, ((j + 1 : Nat) : Int)), c, (0, 0), ())) := fun j hj hne hno => by
    rw [sl_rat]
    simp only [Int.toNat_natCast, hw j hj, hmul j hj]
    refine (T.run_br _ _ _).trans ?_
    rw [if_pos (decide_eq_true (by omega))]
    refine chk_step (decide_eq_true (by omega)) ?_
    rw [T.run_br, if_neg (by simpa using hne), T.run_br]
    by_cases c1 : j + 1 < len c.knots
    · rw [if_pos (decide_eq_true (by omega)), T.run_br]
      by_cases c2 : c.knots.g j 0 * 40 < m
      · rw [if_pos (decide_eq_true c2)]
        refine chk_step (decide_eq_true (by omega)) ?_
        rw [hmul (j + 1) c1, T.run_br, if_neg (by rw [decide_eq_true_eq]; exact fun h => hno ⟨c1, c2, h⟩)]; rfl
      · rw [if_neg (by simpa using c2)]; rfl
    · rw [if_neg (by rw [decide_eq_true_eq]; omega)]; rfl
  unfold rAt
  show T.run (.obs (L_rat ((m, ((0 : Nat) : Int)), c, (0, 0), ())) _) = _
  unfold tA
  simp only [hf]
  by_cases he : c.knots.g i 0 * 40 = m
  · rw [if_pos he]
    have key := lim_until (step := st_rat) (fun j => ((m, (j : Int)), c, ((0 : Int), (0 : Int)), ())) i 0 (fun j _ hj => hgo j (by omega) (by have := g2 j (by omega); omega) (fun hh => by
      have := hh.2.2
      by_cases e : j + 1 = i
      · rw [e] at this; omega
      · have := g2 (j + 1) (by omega); omega))
    rw [show L_rat = lim st_rat from rfl, key, Nat.zero_add]
    have hd : st_rat ((m, (i : Int)), c, (0, 0), ()) = some (.inr (.inl ((), (c.knots.g i 1, 1), ()))) := by
      rw [sl_rat]
      simp only [Int.toNat_natCast, hmul i hi]
      refine (T.run_br _ _ _).trans ?_
      rw [if_pos (decide_eq_true (by omega))]
      refine chk_step (decide_eq_true (by omega)) ?_
      rw [T.run_br, if_pos (by simpa using he)]; rfl
    rw [lim_done hd]; rfl
  · rw [if_neg he]
    have hpos := g3 he
    have key := lim_until (step := st_rat) (fun j => ((m, (j : Int)), c, ((0 : Int), (0 : Int)), ())) (i - 1) 0 (fun j _ hj => hgo j (by omega) (by have := g2 j (by omega); omega) (fun hh => by
      have := hh.2.2; have := g2 (j + 1) (by omega); omega))
    rw [show L_rat = lim st_rat from rfl, key, Nat.zero_add]
    have hlt := g2 (i - 1) (by omega)
    have hx := o.x i hi; have hy := o.y i hi
    have hx' := o.x (i - 1) (by omega)
    have hy' := o.y (i - 1) (by omega)
    have hinc := o.inc (i - 1) (by omega)
    rw [show i - 1 + 1 = i by omega] at hinc
    have d1 : IntKind.wrap IntKind.i64 (c.knots.g i 0 - c.knots.g (i - 1) 0) = c.knots.g i 0 - c.knots.g (i - 1) 0 := w64_in (by omega) (by omega)
    have d2 : IntKind.wrap IntKind.i64 (40 * (c.knots.g i 0 - c.knots.g (i - 1) 0)) = (c.knots.g i 0 - c.knots.g (i - 1) 0) * 40 := by rw [w64_in (by omega) (by omega)]; omega
    have d3 : IntKind.wrap IntKind.i64 (40 * c.knots.g (i - 1) 0) = c.knots.g (i - 1) 0 * 40 := by rw [w64_in (by omega) (by omega)]; omega
    have d4 : IntKind.wrap IntKind.i64 (m - c.knots.g (i - 1) 0 * 40) = m - c.knots.g (i - 1) 0 * 40 := w64_in (by omega) (by omega)
    have d5 : IntKind.wrap IntKind.i64 (c.knots.g i 1 - c.knots.g (i - 1) 1) = c.knots.g i 1 - c.knots.g (i - 1) 1 := w64_in (by omega) (by omega)
    have m1 := mul_bound (a := c.knots.g (i - 1) 1) (b := (c.knots.g i 0 - c.knots.g (i - 1) 0) * 40) (A := 65536) (B := 80000) (by omega) (by omega) (by omega)
    have m2 := mul_bound (a := c.knots.g i 1 - c.knots.g (i - 1) 1) (b := m - c.knots.g (i - 1) 0 * 40) (A := 131072) (B := 80000) (by omega) (by omega) (by omega)
    have d6 : IntKind.wrap IntKind.i64 (c.knots.g (i - 1) 1 * ((c.knots.g i 0 - c.knots.g (i - 1) 0) * 40)) = c.knots.g (i - 1) 1 * ((c.knots.g i 0 - c.knots.g (i - 1) 0) * 40) := w64_in (by omega) (by omega)
    have d7 : IntKind.wrap IntKind.i64 ((c.knots.g i 1 - c.knots.g (i - 1) 1) * (m - c.knots.g (i - 1) 0 * 40)) = (c.knots.g i 1 - c.knots.g (i - 1) 1) * (m - c.knots.g (i - 1) 0 * 40) := w64_in (by omega) (by omega)
    have d8 : IntKind.wrap IntKind.i64 (c.knots.g (i - 1) 1 * ((c.knots.g i 0 - c.knots.g (i - 1) 0) * 40) + (c.knots.g i 1 - c.knots.g (i - 1) 1) * (m - c.knots.g (i - 1) 0 * 40)) = c.knots.g (i - 1) 1 * ((c.knots.g i 0 - c.knots.g (i - 1) 0) * 40) + (c.knots.g i 1 - c.knots.g (i - 1) 1) * (m - c.knots.g (i - 1) 0 * 40) := w64_in (by omega) (by omega)
    have hd : st_rat ((m, ((i - 1 : Nat) : Int)), c, (0, 0), ()) = some (.inr (.inl ((), tB c m (i - 1), ()))) := by
      have hwi := hw (i - 1) (by omega)
      rw [show i - 1 + 1 = i by omega] at hwi
      rw [sl_rat]
      simp only [Int.toNat_natCast, hwi, hmul (i - 1) (by omega), hmul i hi]
      refine (T.run_br _ _ _).trans ?_
      rw [if_pos (decide_eq_true (by omega))]
      refine chk_step (decide_eq_true (by omega)) ?_
      rw [T.run_br, if_neg (by simpa using (show ¬ c.knots.g (i - 1) 0 * 40 = m by omega)), T.run_br, if_pos (decide_eq_true (by omega)), T.run_br, if_pos (decide_eq_true hlt)]
      refine chk_step (decide_eq_true (by omega)) ?_
      rw [T.run_br, if_pos (decide_eq_true (by omega))]
      refine chk_step (decide_eq_true (by omega)) ?_
      simp only [d1, d2, d3, d4, d5, d6, d7, d8, T.run_ret]
      unfold tB
      rw [show i - 1 + 1 = i by omega]
    rw [lim_done hd]; rfl
theorem tA_bound : (1 ≤ (tA c m).2 ∧ (tA c m).2 ≤ 80000) ∧ -16000000000 ≤ (tA c m).1 ∧ (tA c m).1 ≤ 16000000000 := by
  obtain ⟨i, hf, hi, g1, g2, g3⟩ := tA_first o h1 h2
  have hy := o.y i hi
  unfold tA
  simp only [hf]
  by_cases he : c.knots.g i 0 * 40 = m
  · rw [if_pos he]; omega
  · rw [if_neg he]
    have hpos := g3 he
    have hlt := g2 (i - 1) (by omega)
    have hx := o.x i hi
    have hx' := o.x (i - 1) (by omega)
    have hy' := o.y (i - 1) (by omega)
    have hinc := o.inc (i - 1) (by omega)
    rw [show i - 1 + 1 = i by omega] at hinc
    have m1 := mul_bound (a := c.knots.g (i - 1) 1) (b := (c.knots.g i 0 - c.knots.g (i - 1) 0) * 40) (A := 65536) (B := 80000) (by omega) (by omega) (by omega)
    have m2 := mul_bound (a := c.knots.g i 1 - c.knots.g (i - 1) 1) (b := m - c.knots.g (i - 1) 0 * 40) (A := 131072) (B := 80000) (by omega) (by omega) (by omega)
    unfold tB
    rw [show i - 1 + 1 = i by omega]
    exact ⟨⟨by omega, by omega⟩, by omega, by omega⟩
end
end K
end Go.Proofs.YtjbhooodjmjdkaaGreat
/-! KLs3 -/
namespace Go.Proofs.YtjbhooodjmjdkaaGreat
open Ev K
set_option maxRecDepth 100000
namespace K
theorem colH_vI (s : Ship) (k n i : Nat) (h : i < n) : vI (colH s k n) i = s.holds.g i k := by
  rw [vI_get (by rw [colH_length]; exact h)]; simp [colH]
theorem levR_vI (s : Ship) (g : Int) (n i : Nat) (h : i < n) : vI (levR s g n) i = IntKind.i64.wrap (g * s.holds.g i 2) := by
  rw [vI_get (by rw [levR_length]; exact h)]; simp [levR]
section
variable {s : Ship} (hs : ShipOk s) {x : List Int} (hx : LoadgOk s x)
include hs
theorem levR_one : levR s 1 (K.len s.holds) = colH s 2 (K.len s.holds) := by
  unfold levR colH
  refine List.map_congr_left (fun i hi => ?_)
  have := hold_ok hs (List.mem_range.1 hi)
  rw [Int.one_mul, w64_in (by omega) (by omega)]
include hx
noncomputable def riseC (s : Ship) (x : List Int) : Int := s.light * s.height + sm (fun i => s.holds.g i 3 * vI x i) x.length
noncomputable def momC (s : Ship) (x : List Int) : Int := s.light * s.lever + sm (fun i => s.holds.g i 2 * vI x i) x.length
theorem rise_is : riseL (s, x) = some (riseC s x) ∧ rRise (s, x) = some (riseC s x) ∧ -3000000000 ≤ riseC s x ∧ riseC s x ≤ 3000000000 := by
  have h8 := hs.holds; have hl := hx.len
  have hp := placed_ok hs.place
  have hlt := hs.light
  have hb : ∀ i, i < (colH s 3 (K.len s.holds)).length → -5000 ≤ vI (colH s 3 (K.len s.holds)) i ∧ vI (colH s 3 (K.len s.holds)) i ≤ 5000 := fun i hi => by
    rw [colH_length] at hi
    rw [colH_vI _ _ _ _ hi]; have := hold_ok hs hi; omega
  obtain ⟨e1, e2, e3, e4⟩ := ldg_val hs hx (f := colH s 3 (K.len s.holds)) (by rw [colH_length, hl]) (A := 5000) (by omega) hb
  have hc : sm (fun i => vI (colH s 3 (K.len s.holds)) i * vI x i) x.length = sm (fun i => s.holds.g i 3 * vI x i) x.length := sm_congr (fun i hi => by rw [colH_vI _ _ _ _ (by omega)])
  have m1 := mul_bound (a := s.height) (b := s.light) (A := 5000) (B := 65536) (by omega) (by omega) (by omega)
  rw [Int.mul_comm s.height s.light] at m1
  have hb2 : -3000000000 ≤ riseC s x ∧ riseC s x ≤ 3000000000 := by
    unfold riseC
    rw [← hc, ← e1]; omega
  have hw : IntKind.wrap IntKind.i64 (s.light * s.height) = s.light * s.height := w64_in (by omega) (by omega)
  refine ⟨?_, ?_, hb2⟩
  · unfold riseL
    simp only [decF_enc0]
    simp only [colH_length, hw]
    refine chk_step (decide_eq_true (by omega)) (chk_step (decide_eq_true (by omega)) ?_)
    rw [e1, hc, T.run_ret]
    have : s.light * s.height + sm (fun i => s.holds.g i 3 * vI x i) x.length = riseC s x := rfl
    rw [this, w64_in (by omega) (by omega)]
  · unfold rRise
    simp only [decF_enc0]
    simp only [colH_length, hw]
    refine chk_step (decide_eq_true (by omega)) (chk_step (decide_eq_true (by omega)) ?_)
    rw [e2, hc, T.run_ret]
    have : s.light * s.height + sm (fun i => s.holds.g i 3 * vI x i) x.length = riseC s x := rfl
    rw [this, w64_in (by omega) (by omega)]
theorem mom_is : momentL (s, x) = some (momC s x) ∧ rMoment (s, x) = some (momC s x) ∧ -12000000000 ≤ momC s x ∧ momC s x ≤ 12000000000 := by
  have h8 := hs.holds; have hl := hx.len
  have hp := placed_ok hs.place
  have hlt := hs.light
  have hb : ∀ i, i < (colH s 2 (K.len s.holds)).length → -20000 ≤ vI (colH s 2 (K.len s.holds)) i ∧ vI (colH s 2 (K.len s.holds)) i ≤ 20000 := fun i hi => by
    rw [colH_length] at hi
    rw [colH_vI _ _ _ _ hi]; have := hold_ok hs hi; omega
  obtain ⟨e1, e2, e3, e4⟩ := ldg_val hs hx (f := colH s 2 (K.len s.holds)) (by rw [colH_length, hl]) (A := 20000) (by omega) hb
  have hc : sm (fun i => vI (colH s 2 (K.len s.holds)) i * vI x i) x.length = sm (fun i => s.holds.g i 2 * vI x i) x.length := sm_congr (fun i hi => by rw [colH_vI _ _ _ _ (by omega)])
  have m1 := mul_bound (a := s.lever) (b := s.light) (A := 20000) (B := 65536) (by omega) (by omega) (by omega)
  rw [Int.mul_comm s.lever s.light] at m1
  have hb2 : -12000000000 ≤ momC s x ∧ momC s x ≤ 12000000000 := by
    unfold momC
    rw [← hc, ← e1]; omega
  have hw : IntKind.wrap IntKind.i64 (s.light * s.lever) = s.light * s.lever := w64_in (by omega) (by omega)
  refine ⟨?_, ?_, hb2⟩
  · unfold momentL
    simp only [decF_enc0]
    simp only [colH_length, hw]
    refine chk_step (decide_eq_true (by omega)) (chk_step (decide_eq_true (by omega)) ?_)
    rw [e1, hc, T.run_ret]
    have : s.light * s.lever + sm (fun i => s.holds.g i 2 * vI x i) x.length = momC s x := rfl
    rw [this, w64_in (by omega) (by omega)]
  · unfold rMoment
    simp only [decF_enc0, levR_one hs]
    simp only [colH_length, hw]
    refine chk_step (decide_eq_true (by omega)) (chk_step (decide_eq_true (by omega)) ?_)
    rw [e2, hc, T.run_ret]
    have : s.light * s.lever + sm (fun i => s.holds.g i 2 * vI x i) x.length = momC s x := rfl
    rw [this, w64_in (by omega) (by omega)]
noncomputable def dispC (s : Ship) (x : List Int) : Int := s.light + addL x
theorem disp_bound : s.light ≤ dispC s x ∧ dispC s x ≤ rooms s ∧ 1 ≤ dispC s x ∧ dispC s x ≤ 65536 := by
  have h := ldg_sum hs hx
  have := hs.light; have := hs.most
  unfold dispC; omega
noncomputable def steadyC (s : Ship) (x : List Int) : Bool := decide (((tA s.mc (dispC s x)).1 - (s.mc.err + s.least) * (tA s.mc (dispC s x)).2) * dispC s x ≥ riseC s x * (tA s.mc (dispC s x)).2)
theorem steady_is : steadyL (s, x) = some (steadyC s x) ∧ rSteadyX (s, x) = some (steadyC s x) := by
  have h8 := hs.holds; have hl := hx.len
  have hd := disp_bound hs hx
  have g1 : s.mc.knots.g 0 0 * 40 ≤ dispC s x := Int.le_trans hs.mlow hd.1
  have g2 : dispC s x ≤ s.mc.knots.g (K.len s.mc.knots - 1) 0 * 40 := Int.le_trans hd.2.1 hs.mhigh
  have t1 := tabAt_is hs.mc g1 g2; have t2 := rAt_is hs.mc g1 g2; have t3 := tA_bound hs.mc g1 g2
  obtain ⟨r1, r2, r3⟩ := rise_is hs hx
  have herr := hs.mc.err; have hle := hs.least
  have hsum := ldg_sum hs hx
  have hmost := hs.most
  have hlt := hs.light
  have hD : IntKind.wrap IntKind.i64 (s.light + addL x) = dispC s x := by unfold dispC; rw [w64_in (by omega) (by omega)]
  unfold steadyC
  generalize tA s.mc (dispC s x) = p at *
  generalize riseC s x = R at *
  obtain ⟨N, D⟩ := p
  simp only at t3
  have m1 := mul_bound (a := s.mc.err + s.least) (b := D) (A := 9000) (B := 80000) (by omega) (by omega) (by omega)
  have m2 := mul_bound (a := N - (s.mc.err + s.least) * D) (b := dispC s x) (A := 17000000000) (B := 65536) (by omega) (by omega) (by omega)
  have m3 := mul_bound (a := R) (b := D) (A := 3000000000) (B := 80000) (by omega) (by omega) (by omega)
  have m4 := mul_bound (a := s.mc.err) (b := D) (A := 9000) (B := 80000) (by omega) (by omega) (by omega)
  have m5 := mul_bound (a := N - s.mc.err * D) (b := dispC s x) (A := 17000000000) (B := 65536) (by omega) (by omega) (by omega)
  have m6 := mul_bound (a := D) (b := dispC s x) (A := 80000) (B := 65536) (by omega) (by omega) (by omega)
  have m7 := mul_bound (a := s.least) (b := D * dispC s x) (A := 5000) (B := 80000 * 65536) (by omega) ⟨Int.mul_nonneg (by omega) (by omega), by omega⟩ (by omega)
  have w1 : IntKind.wrap IntKind.i64 (s.mc.err + s.least) = s.mc.err + s.least := w64_in (by omega) (by omega)
  have w2 : IntKind.wrap IntKind.i64 ((s.mc.err + s.least) * D) = (s.mc.err + s.least) * D := w64_in (by omega) (by omega)
  have w3 : IntKind.wrap IntKind.i64 (N - (s.mc.err + s.least) * D) = N - (s.mc.err + s.least) * D := w64_in (by omega) (by omega)
  have w4 : IntKind.wrap IntKind.i64 ((N - (s.mc.err + s.least) * D) * dispC s x) = (N - (s.mc.err + s.least) * D) * dispC s x := w64_in (by omega) (by omega)
  have w5 : IntKind.wrap IntKind.i64 (R * D) = R * D := w64_in (by omega) (by omega)
  have w6 : IntKind.wrap IntKind.i64 (s.mc.err * D) = s.mc.err * D := w64_in (by omega) (by omega)
  have w7 : IntKind.wrap IntKind.i64 (N - s.mc.err * D) = N - s.mc.err * D := w64_in (by omega) (by omega)
  have w8 : IntKind.wrap IntKind.i64 ((N - s.mc.err * D) * dispC s x) = (N - s.mc.err * D) * dispC s x := w64_in (by omega) (by omega)
  have w9 : IntKind.wrap IntKind.i64 ((N - s.mc.err * D) * dispC s x - R * D) = (N - s.mc.err * D) * dispC s x - R * D := w64_in (by omega) (by omega)
  have w10 : IntKind.wrap IntKind.i64 (D * dispC s x) = D * dispC s x := w64_in (by omega) (by omega)
  have w11 : IntKind.wrap IntKind.i64 (s.least * (D * dispC s x)) = s.least * (D * dispC s x) := w64_in (by omega) (by omega)
  constructor
  · have hsp : spare (s, addL x) = some ((N - (s.mc.err + s.least) * D) * dispC s x, D) := by
      unfold spare
      simp only [hD, t1, T.run_some, T.run_ret, w1, w2, w3, w4]
    unfold steadyL
    simp only [decF_enc0]
    refine chk_step (decide_eq_true (by omega)) ?_
    rw [hsp, T.run_some, r1, T.run_some, T.run_ret]
    simp only [w5]
  · have hdsp : rDisp (s, x) = some (dispC s x) := by
      unfold rDisp
      simp only [decF_enc0, hD]
      exact chk_step (decide_eq_true (by omega)) rfl
    have hst : rStiff (s, x) = some ((N - s.mc.err * D) * dispC s x - R * D, D * dispC s x) := by
      unfold rStiff
      simp only [decF_enc0, hdsp, T.run_some, t2, r2, T.run_ret, w6, w7, w8, w5, w9, w10]
    unfold rSteadyX
    simp only [decF_enc0, hst, T.run_some, T.run_ret, w11]
    congr 1
    apply decide_eq_decide.2
    have e : (N - (s.mc.err + s.least) * D) * dispC s x = (N - s.mc.err * D) * dispC s x - s.least * (D * dispC s x) := by
      rw [Int.add_mul, ← Int.mul_assoc s.least, ← Int.sub_mul]
      congr 1; omega
    rw [e]; omega
end
end K
end Go.Proofs.YtjbhooodjmjdkaaGreat
/-! KLs4 -/
namespace Go.Proofs.YtjbhooodjmjdkaaGreat
open Ev K
set_option maxRecDepth 100000
namespace K
theorem tmod_bound {a b : Int} (hb : 0 < b) : -b < Int.tmod a b ∧ Int.tmod a b < b := by
  have h1 := Int.tmod_lt_of_pos a hb
  have h2 : -b < Int.tmod a b := by
    have := Int.tmod_lt_of_pos (-a) hb
    rw [Int.neg_tmod] at this; omega
  exact ⟨h2, h1⟩
theorem emod_tmod {a b : Int} : a % b = Int.tmod a b % b := by
  conv => lhs; rw [← Int.mul_tdiv_add_tmod a b]
  rw [Int.add_comm, Int.add_mul_emod_self_left]
theorem tdiv_bound {a b : Int} (hb : 0 < b) {B : Int} (ha : -B ≤ a ∧ a ≤ B) : -B ≤ Int.tdiv a b ∧ Int.tdiv a b ≤ B := by
  have h := Int.natAbs_tdiv_le_natAbs a b
  omega
theorem below_is {a b : Int} (hb : 0 < b ∧ b ≤ 1000000000000000000) (ha : -1000000000000000000 ≤ a ∧ a ≤ 1000000000000000000) : below (a, b) = some (a / b) := by
  have ⟨t1, t2⟩ := tmod_bound (a := a) hb.1
  have hne : (!decide (b = 0)) = true := by simp; omega
  unfold below
  refine chk_step hne (chk_step hne (chk_step hne ?_))
  rw [T.run_ret]
  simp only
  have w1 : IntKind.wrap IntKind.i64 (Int.tmod a b + b) = Int.tmod a b + b := w64_in (by omega) (by omega)
  have e1 : Int.tmod (Int.tmod a b + b) b = a % b := by
    rw [Int.tmod_eq_emod_of_nonneg (by omega), Int.add_emod_right, ← emod_tmod]
  have h0 := Int.emod_nonneg a (show b ≠ 0 by omega)
  have h1 := Int.emod_lt_of_pos a hb.1
  have e2 : a - a % b = b * (a / b) := by have := Int.mul_ediv_add_emod a b; omega
  rw [w1, e1, w64_in (n := a - a % b) (by omega) (by omega), e2, Int.mul_tdiv_cancel_left _ (by omega)]
  have q := Int.natAbs_ediv_le_natAbs a b
  rw [w64_in (by omega) (by omega)]
theorem floor_is {a b : Int} (hb : 0 < b ∧ b ≤ 1000000000000000000) (ha : -1000000000000000000 ≤ a ∧ a ≤ 1000000000000000000) : rFloor (a, b) = some (a / b) := by
  have ⟨t1, t2⟩ := tmod_bound (a := a) hb.1
  have hne : (!decide (b = 0)) = true := by simp; omega
  have q := Int.natAbs_tdiv_le_natAbs a b
  have e : a / b = Int.tdiv a b + Int.tmod a b / b := by
    conv => lhs; rw [← Int.mul_tdiv_add_tmod a b]
    rw [Int.add_comm, Int.add_mul_ediv_left _ _ (by omega), Int.add_comm]
  unfold rFloor
  refine chk_step hne (chk_step hne ?_)
  rw [T.run_br]
  simp only
  have w1 : IntKind.wrap IntKind.i64 (Int.tdiv a b) = Int.tdiv a b := w64_in (by omega) (by omega)
  by_cases h : Int.tmod a b < 0
  · rw [if_pos (decide_eq_true h), T.run_ret, w1, w64_in (by omega) (by omega), e]
    have : Int.tmod a b / b = -1 := by
      have h1 : (Int.tmod a b + b) / b = 0 := Int.ediv_eq_zero_of_lt (by omega) (by omega)
      have h2 : (Int.tmod a b + b * 1) / b = Int.tmod a b / b + 1 := Int.add_mul_ediv_left _ _ (by omega)
      rw [Int.mul_one] at h2; omega
    rw [this]; rfl
  · rw [if_neg (by simpa using h), T.run_ret, w1, e, Int.ediv_eq_zero_of_lt (by omega) t2, Int.add_zero]
def endC (n d e : Int) : Span := ⟨n / d - e, -(-n / d) + e⟩
theorem ends_is {n d e : Int} (hd : 0 < d ∧ d ≤ 1000000000000) (hn : -100000000000000000 ≤ n ∧ n ≤ 100000000000000000) (he : 0 ≤ e ∧ e ≤ 4000) : rEnds (n, d, e) = some (endC n d e) := by
  have m1 := mul_bound (a := e) (b := d) (A := 4000) (B := 1000000000000) (by omega) (by omega) (by omega)
  have w1 : IntKind.wrap IntKind.i64 (e * d) = e * d := w64_in (by omega) (by omega)
  have w2 : IntKind.wrap IntKind.i64 (n - e * d) = n - e * d := w64_in (by omega) (by omega)
  have w3 : IntKind.wrap IntKind.i64 (0 - n) = -n := by rw [w64_in (by omega) (by omega)]; omega
  have w4 : IntKind.wrap IntKind.i64 (-n - e * d) = -n - e * d := w64_in (by omega) (by omega)
  have f1 := floor_is (a := n - e * d) (b := d) (by omega) (by omega)
  have f2 := floor_is (a := -n - e * d) (b := d) (by omega) (by omega)
  have e1 : (n - e * d) / d = n / d - e := by
    rw [Int.sub_eq_add_neg, ← Int.neg_mul, Int.add_mul_ediv_right _ _ (by omega)]; omega
  have e2 : (-n - e * d) / d = -n / d - e := by
    rw [Int.sub_eq_add_neg, ← Int.neg_mul, Int.add_mul_ediv_right _ _ (by omega)]; omega
  have q := Int.natAbs_ediv_le_natAbs (-n) d
  unfold rEnds
  simp only [w1, w2, w3, w4, f1, f2, T.run_some, T.run_ret, e1, e2]
  rw [w64_in (by omega) (by omega)]
  unfold endC
  congr 2; omega
theorem end_w {n d e : Int} (hn : -100000000000000000 ≤ n ∧ n ≤ 100000000000000000) (he : 0 ≤ e ∧ e ≤ 4000) : (⟨IntKind.wrap IntKind.i64 (n / d - e), IntKind.wrap IntKind.i64 (IntKind.wrap IntKind.i64 (0 - -n / d) + e)⟩ : Span) = endC n d e := by
  have q1 := Int.natAbs_ediv_le_natAbs n d
  have q2 := Int.natAbs_ediv_le_natAbs (-n) d
  unfold endC
  rw [w64_in (n := n / d - e) (by omega) (by omega), w64_in (n := 0 - -n / d) (by omega) (by omega), Int.zero_sub, w64_in (by omega) (by omega)]
section
variable {s : Ship} (hs : ShipOk s) {x : List Int} (hx : LoadgOk s x)
noncomputable def denC (s : Ship) (x : List Int) : Int := (tA s.mean (dispC s x)).2 * 2 * s.turn
noncomputable def foreC (s : Ship) (x : List Int) : Int := (tA s.mean (dispC s x)).1 * 2 * s.turn + momC s x * (tA s.mean (dispC s x)).2
noncomputable def aftC (s : Ship) (x : List Int) : Int := (tA s.mean (dispC s x)).1 * 2 * s.turn - momC s x * (tA s.mean (dispC s x)).2
noncomputable def afloatC (s : Ship) (x : List Int) : Span × Span := (endC (foreC s x) (denC s x) s.mean.err, endC (aftC s x) (denC s x) s.mean.err)
include hs hx
theorem afloat_is : afloat (s, x) = some (afloatC s x) ∧ rAfloat (s, x) = some (afloatC s x) := by
  have h8 := hs.holds; have hl := hx.len
  have hd := disp_bound hs hx
  have g1 : s.mean.knots.g 0 0 * 40 ≤ dispC s x := Int.le_trans hs.low hd.1
  have g2 : dispC s x ≤ s.mean.knots.g (K.len s.mean.knots - 1) 0 * 40 := Int.le_trans hd.2.1 hs.high
  have t1 := tabAt_is hs.mean g1 g2; have t2 := rAt_is hs.mean g1 g2; have t3 := tA_bound hs.mean g1 g2
  obtain ⟨r1, r2, r3⟩ := mom_is hs hx
  have herr := hs.mean.err; have hturn := hs.turn
  have hsum := ldg_sum hs hx
  have hmost := hs.most
  have hlt := hs.light
  have hD : IntKind.wrap IntKind.i64 (s.light + addL x) = dispC s x := by unfold dispC; rw [w64_in (by omega) (by omega)]
  unfold afloatC foreC aftC denC
  generalize tA s.mean (dispC s x) = p at *
  generalize momC s x = M at *
  obtain ⟨N, D⟩ := p
  simp only at t3
  have m1 := mul_bound (a := N * 2) (b := s.turn) (A := 32000000000) (B := 1048576) (by omega) (by omega) (by omega)
  have m2 := mul_bound (a := D * 2) (b := s.turn) (A := 160000) (B := 1048576) (by omega) (by omega) (by omega)
  have m3 := mul_bound (a := M) (b := D) (A := 12000000000) (B := 80000) (by omega) (by omega) (by omega)
  have hpos : 0 < D * 2 * s.turn := Int.mul_pos (by omega) (by omega)
  have w1 : IntKind.wrap IntKind.i64 (N * 2) = N * 2 := w64_in (by omega) (by omega)
  have w2 : IntKind.wrap IntKind.i64 (N * 2 * s.turn) = N * 2 * s.turn := w64_in (by omega) (by omega)
  have w3 : IntKind.wrap IntKind.i64 (D * 2) = D * 2 := w64_in (by omega) (by omega)
  have w4 : IntKind.wrap IntKind.i64 (D * 2 * s.turn) = D * 2 * s.turn := w64_in (by omega) (by omega)
  have w5 : IntKind.wrap IntKind.i64 (1 * M) = M := by rw [w64_in (by omega) (by omega)]; omega
  have w6 : IntKind.wrap IntKind.i64 (-1 * M) = -M := by rw [w64_in (by omega) (by omega)]; omega
  have w7 : IntKind.wrap IntKind.i64 (M * D) = M * D := w64_in (by omega) (by omega)
  have w8 : IntKind.wrap IntKind.i64 (-M * D) = -(M * D) := by rw [Int.neg_mul, w64_in (by omega) (by omega)]
  have w9 : IntKind.wrap IntKind.i64 (N * 2 * s.turn + M * D) = N * 2 * s.turn + M * D := w64_in (by omega) (by omega)
  have w10 : IntKind.wrap IntKind.i64 (N * 2 * s.turn + -(M * D)) = N * 2 * s.turn - M * D := by rw [w64_in (by omega) (by omega)]; omega
  have w11 : IntKind.wrap IntKind.i64 (N * 2 * s.turn - M * D) = N * 2 * s.turn - M * D := w64_in (by omega) (by omega)
  have w12 : IntKind.wrap IntKind.i64 (0 - (N * 2 * s.turn + M * D)) = -(N * 2 * s.turn + M * D) := by rw [w64_in (by omega) (by omega)]; omega
  have w13 : IntKind.wrap IntKind.i64 (0 - (N * 2 * s.turn - M * D)) = -(N * 2 * s.turn - M * D) := by rw [w64_in (by omega) (by omega)]; omega
  constructor
  · have b1 := below_is (a := N * 2 * s.turn + M * D) (b := D * 2 * s.turn) (by omega) (by omega)
    have b2 := below_is (a := -(N * 2 * s.turn + M * D)) (b := D * 2 * s.turn) (by omega) (by omega)
    have b3 := below_is (a := N * 2 * s.turn - M * D) (b := D * 2 * s.turn) (by omega) (by omega)
    have b4 := below_is (a := -(N * 2 * s.turn - M * D)) (b := D * 2 * s.turn) (by omega) (by omega)
    have z1 := end_w (n := N * 2 * s.turn + M * D) (d := D * 2 * s.turn) (e := s.mean.err) (by omega) (by omega)
    have z2 := end_w (n := N * 2 * s.turn - M * D) (d := D * 2 * s.turn) (e := s.mean.err) (by omega) (by omega)
    unfold afloat
    simp only [decF_enc0]
    refine chk_step (decide_eq_true (by omega)) ?_
    simp only [hD, t1, r1, T.run_some, w1, w2, w3, w4, w5, w6, w7, w8, w9, w10, w12, w13, b1, b2, b3, b4, T.run_ret]
    rw [z1, z2]
  · have hdsp : rDisp (s, x) = some (dispC s x) := by
      unfold rDisp
      simp only [decF_enc0, hD]
      exact chk_step (decide_eq_true (by omega)) rfl
    have e1 := ends_is (n := N * 2 * s.turn + M * D) (d := D * 2 * s.turn) (e := s.mean.err) (by omega) (by omega) (by omega)
    have e2 := ends_is (n := N * 2 * s.turn - M * D) (d := D * 2 * s.turn) (e := s.mean.err) (by omega) (by omega) (by omega)
    unfold rAfloat
    simp only [decF_enc0, hdsp, T.run_some, t2, r2, w1, w2, w3, w4, w7, w9, w11, e1, e2, T.run_ret]
noncomputable def deepC (s : Ship) (x : List Int) : Int := if (afloatC s x).2.hi > (afloatC s x).1.hi then (afloatC s x).2.hi else (afloatC s x).1.hi
theorem deep_is : rDeep (s, x) = some (deepC s x) := by
  unfold rDeep
  simp only [decF_enc0, (afloat_is hs hx).2, T.run_some, T.run_ret]
  rfl
end
end K
end Go.Proofs.YtjbhooodjmjdkaaGreat
/-! KLs5 -/
namespace Go.Proofs.YtjbhooodjmjdkaaGreat
open Ev K
set_option maxRecDepth 100000
namespace K
structure LoadOk (s : Ship) (l : LoadL) : Prop where
  len : l.holds.length = K.len s.holds
  each : ∀ i, i < l.holds.length → 0 ≤ (vS l.holds i).lo ∧ (vS l.holds i).lo ≤ (vS l.holds i).hi ∧ (vS l.holds i).hi ≤ s.holds.g i 1
  all : 0 ≤ l.all.lo ∧ l.all.lo ≤ l.all.hi ∧ l.all.hi ≤ 65536
  wide : l.all.hi - l.all.lo < 4000
  tot : (totS l).lo ≤ (totS l).hi
noncomputable def tailC (s : Ship) (l : LoadL) : Int := if ((l.holds.length : Int) != (K.len s.holds : Int)) = true then 1 else K.orr id (allE l) ((List.range l.holds.length).findSome? (loadE s l.holds))
theorem checkLoad_tail (s : Ship) (l : LoadL) : checkLoad (s, l) = if (hullCheck s != 0) = true then hullCheck s else tailC s l := rfl
theorem loadE_none {s : Ship} {l : List Span} {i : Nat} : loadE s l i = none ↔ 0 ≤ (vS l i).lo ∧ (vS l i).lo ≤ (vS l i).hi ∧ (vS l i).hi ≤ s.holds.g i 1 := by
  unfold loadE
  simp only [decide_eq_true_eq]
  constructor
  · intro h
    split at h
    · cases h
    split at h
    · cases h
    split at h
    · cases h
    omega
  · rintro ⟨h1, h2, h3⟩
    rw [if_neg (by omega), if_neg (by omega), if_neg (by omega)]
theorem loadE_some {s : Ship} {l : List Span} {i : Nat} {e : Int} (h : loadE s l i = some e) : e = 1 := by
  unfold loadE at h
  split at h
  · injection h with h; exact h.symm
  split at h
  · injection h with h; exact h.symm
  split at h
  · injection h with h; exact h.symm
  · cases h
theorem addS_pair (l : List Span) : addS l = ⟨(List.range l.length).foldl (fun a i => IntKind.i64.wrap (a + (vS l i).lo)) 0, (List.range l.length).foldl (fun a i => IntKind.i64.wrap (a + (vS l i).hi)) 0⟩ := by
  unfold addS
  have key : ∀ (L : List Nat) (a b : Int), L.foldl (fun (a : Span) i => (⟨IntKind.i64.wrap (a.lo + (vS l i).lo), IntKind.i64.wrap (a.hi + (vS l i).hi)⟩ : Span)) ⟨a, b⟩ = ⟨L.foldl (fun a i => IntKind.i64.wrap (a + (vS l i).lo)) a, L.foldl (fun a i => IntKind.i64.wrap (a + (vS l i).hi)) b⟩ := by
    intro L
    induction L with
    | nil => intro a b; rfl
    | cons i L ih => intro a b; simp only [List.foldl_cons]; exact ih _ _
  exact key _ 0 0
theorem addS_is {s : Ship} (hs : ShipOk s) {l : List Span} (hl : l.length = K.len s.holds) (he : ∀ i, i < l.length → 0 ≤ (vS l i).lo ∧ (vS l i).lo ≤ (vS l i).hi ∧ (vS l i).hi ≤ s.holds.g i 1) :
    addS l = ⟨sm (fun i => (vS l i).lo) l.length, sm (fun i => (vS l i).hi) l.length⟩ ∧ 0 ≤ sm (fun i => (vS l i).lo) l.length ∧ sm (fun i => (vS l i).lo) l.length ≤ sm (fun i => (vS l i).hi) l.length ∧ sm (fun i => (vS l i).hi) l.length ≤ 524288 := by
  have h8 := hs.holds
  have hb : ∀ i, i < l.length → (vS l i).hi ≤ 65536 := fun i hi => by have := he i hi; have := hold_ok hs (show i < K.len s.holds by omega); omega
  obtain ⟨a1, a2, a3⟩ := fold_w (g := fun i => (vS l i).lo) (B := 65536) (by omega) l.length (by omega) (fun i hi => by have := he i hi; have := hb i hi; omega)
  obtain ⟨b1, b2, b3⟩ := fold_w (g := fun i => (vS l i).hi) (B := 65536) (by omega) l.length (by omega) (fun i hi => by have := he i hi; have := hb i hi; omega)
  refine ⟨by rw [addS_pair, a1, b1], sm_nonneg (fun i hi => (he i hi).1), sm_le (fun i hi => (he i hi).2.1), by omega⟩
theorem rSpan3_iff {a : Span} {lo hi : Int} : rSpan3 (a, lo, hi) = true ↔ lo ≤ a.lo ∧ a.lo ≤ a.hi ∧ a.hi ≤ hi := by
  unfold rSpan3
  simp only [decide_eq_true_eq]
  constructor
  · intro h
    split at h
    · split at h
      · exact ⟨by omega, by omega, by simpa using h⟩
      · cases h
    · cases h
  · rintro ⟨h1, h2, h3⟩
    rw [if_pos h1, if_pos h2]; simpa using h3
theorem L_rld_eq (s : Ship) (a : LoadL) (h : a.holds.length ≤ 1000000) (hl : a.holds.length ≤ K.len s.holds) :
    L_rld (0, s, a, ()) = some (K.orr Sum.inl (.inr ((), a, ())) ((List.range a.holds.length).findSome? (loadE s a.holds))) := by
  have e2 := K.len_le' s.holds
  refine lim_err (fun i => ((i : Int), s, a, ())) a.holds.length (loadE s a.holds) Sum.inl (.inr ((), a, ())) (fun i hi => ?_) ?_
  · rw [sl_rld]
    simp only [Int.toNat_natCast, Nat.zero_add, decF_encF]
    refine (T.run_br _ _ _).trans ?_
    rw [clampL_eq (by unfold maxL; omega), if_pos (decide_eq_true (by omega))]
    refine chk_step (decide_eq_true (by omega)) (chk_step (decide_eq_true (by omega)) ?_)
    rw [w64_in (n := (i : Int) + 1) (by omega) (by omega)]
    show T.run (.br (!rSpan3 (vS a.holds i, 0, s.holds.g i 1)) _ _) = _
    rw [T.run_br]
    cases hq : loadE s a.holds i with
    | none =>
      rw [rSpan3_iff.2 (loadE_none.1 hq), if_neg (by simp)]; rfl
    | some e =>
      have he := loadE_some hq; subst he
      have : ¬ rSpan3 (vS a.holds i, 0, s.holds.g i 1) = true := fun hr => by rw [loadE_none.2 (rSpan3_iff.1 hr)] at hq; cases hq
      rw [if_pos (by simpa using this)]; rfl
  · rw [sl_rld]
    simp only [decF_enc0]
    refine (T.run_br _ _ _).trans ?_
    rw [clampL_eq (by unfold maxL; omega), if_neg (by simp)]; rfl
theorem rLoadE_is {s : Ship} (hs : ShipOk s) {a : LoadL} (h : a.holds.length ≤ 1000000) : rLoadE (s, a) = some (tailC s a) := by
  unfold rLoadE tailC
  simp only [decF_enc0]
  rw [clampL_eq (by unfold maxL; omega)]
  refine br_step (fun _ => rfl) (fun hn => ?_)
  have hn : a.holds.length = K.len s.holds := by
    have hn : ¬ ((a.holds.length : Int) != (K.len s.holds : Int)) = true := hn
    simp only [bne_iff_ne, ne_eq, Classical.not_not] at hn; omega
  show T.run (.obs (L_rld (0, s, a, ())) _) = _
  rw [L_rld_eq s a h (by omega), T.run_some]
  cases hf : (List.range a.holds.length).findSome? (loadE s a.holds) with
  | some e => rfl
  | none =>
    have he : ∀ i, i < a.holds.length → _ := fun i hi => loadE_none.1 (List.findSome?_eq_none_iff.1 hf i (List.mem_range.2 hi))
    obtain ⟨p1, p2, p3, p4⟩ := addS_is hs hn he
    show T.run (.br (!rSpan3 (a.all, 0, 65536)) _ _) = some (allE a)
    unfold allE totS
    simp only [p1, greater, decide_eq_true_eq]
    rw [T.run_br]
    by_cases hr : rSpan3 (a.all, 0, 65536) = true
    · have ⟨q1, q2, q3⟩ := rSpan3_iff.1 hr
      rw [hr, if_neg (by simp), if_neg (by omega), if_neg (by omega), if_neg (by omega), T.run_br]
      by_cases hw : IntKind.wrap IntKind.i64 (a.all.hi - a.all.lo) ≥ 4000
      · rw [if_pos (decide_eq_true hw), if_pos hw]; rfl
      · rw [if_neg (by simpa using hw), if_neg hw]
        refine chk_step (decide_eq_true h) ?_
        rw [T.run_br]
        by_cases c1 : sm (fun i => (vS a.holds i).lo) a.holds.length > a.all.hi
        · rw [if_pos (decide_eq_true c1), if_pos (by split <;> split <;> omega)]; rfl
        · rw [if_neg (by simpa using c1), T.run_br]
          by_cases c2 : sm (fun i => (vS a.holds i).hi) a.holds.length < a.all.lo
          · rw [if_pos (decide_eq_true c2), if_pos (by split <;> split <;> omega)]; rfl
          · rw [if_neg (by simpa using c2), if_neg (by split <;> split <;> omega)]; rfl
    · have hr2 := fun hh => hr (rSpan3_iff.2 hh)
      rw [if_pos (by simpa using hr)]
      by_cases c1 : a.all.lo < 0
      · rw [if_pos c1]; rfl
      · rw [if_neg c1]
        by_cases c2 : a.all.lo > a.all.hi
        · rw [if_pos c2]; rfl
        · rw [if_neg c2, if_pos (by
            have : ¬ (0 ≤ a.all.lo ∧ a.all.lo ≤ a.all.hi ∧ a.all.hi ≤ 65536) := hr2
            omega)]; rfl
theorem rCheckLoad_is (s : Ship) {a : LoadL} (h : a.holds.length ≤ 1000000) : rCheckLoad (s, a) = some (checkLoad (s, a)) := by
  unfold rCheckLoad
  rw [checkLoad_tail, r_ship_is]
  simp only [decF_enc0]
  refine br_step (fun _ => rfl) (fun hn => ?_)
  have hs := ship_ok (show hullCheck s = 0 by
    have hn : ¬ (hullCheck s != 0) = true := hn
    simpa using hn)
  rw [rLoadE_is hs h]; rfl
theorem checkLoad_ok {s : Ship} {l : LoadL} (h : checkLoad (s, l) = 0) : ShipOk s ∧ LoadOk s l := by
  rw [checkLoad_tail] at h
  by_cases h1 : (hullCheck s != 0) = true
  · rw [if_pos h1] at h; rw [h] at h1; exact absurd h1 (by decide)
  rw [if_neg h1] at h
  have hs := ship_ok (show hullCheck s = 0 by simpa using h1)
  refine ⟨hs, ?_⟩
  unfold tailC at h
  by_cases h2 : ((l.holds.length : Int) != (K.len s.holds : Int)) = true
  · rw [if_pos h2] at h; cases h
  rw [if_neg h2] at h
  have hn : l.holds.length = K.len s.holds := by simp only [bne_iff_ne, ne_eq, Classical.not_not] at h2; omega
  cases hf : (List.range l.holds.length).findSome? (loadE s l.holds) with
  | some e =>
    obtain ⟨i, _, hi⟩ := List.exists_of_findSome?_eq_some hf
    have := loadE_some hi; subst this
    rw [hf] at h; cases h
  | none =>
    rw [hf] at h
    have h : allE l = 0 := h
    unfold allE at h
    simp only [decide_eq_true_eq] at h
    have hi : ∀ i, i < l.holds.length → _ := fun i hi => loadE_none.1 (List.findSome?_eq_none_iff.1 hf i (List.mem_range.2 hi))
    split at h
    · cases h
    split at h
    · cases h
    split at h
    · cases h
    split at h
    · cases h
    rename_i hw
    split at h
    · cases h
    rw [w64_in (by omega) (by omega)] at hw
    exact ⟨hn, hi, by omega, by omega, by omega⟩
def loadOf (s : Ship) (m : Span) : LoadL := ⟨(List.range (K.len s.holds)).map fun i => ⟨0, s.holds.g i 1⟩, ⟨IntKind.i64.wrap (m.lo - s.light), IntKind.i64.wrap (m.hi - s.light)⟩⟩
def roomL (s : Ship) (n : Nat) : List Span := (List.range n).map fun i => ⟨0, s.holds.g i 1⟩
theorem roomL_length (s : Ship) (n : Nat) : (roomL s n).length = n := by simp [roomL]
theorem roomL_succ (s : Ship) (n : Nat) : roomL s (n + 1) = roomL s n ++ [⟨0, s.holds.g n 1⟩] := by unfold roomL; rw [List.range_succ, List.map_append]; rfl
theorem L_ldp_eq (s : Ship) (l0 : LoadL) (z : Int × Int) (h : K.len s.holds ≤ 1000000) : L_ldp ((s.holds, (K.len s.holds : Int), 0), s, l0, (0, z), [], ()) = some ((), s, l0, (K.len s.holds, z), roomL s (K.len s.holds), ()) := by
  have e1 := K.len_le s.holds; have e2 := K.len_le' s.holds
  refine lim_all (fun i => ((s.holds, (K.len s.holds : Int), (i : Int)), s, l0, (i, z), roomL s i, ())) (K.len s.holds) (fun i hi => ?_) ?_
  · rw [sl_ldp]
    simp only [Int.toNat_natCast, roomL_length, decF_enc0]
    refine (T.run_br _ _ _).trans ?_
    rw [if_pos (decide_eq_true (by omega))]
    refine chk_step (decide_eq_true (by omega)) (chk_step (decide_eq_true (by omega)) ?_)
    have := decF_push rSpan (roomL s i) (fun i_1 k => Option.getD [AV.int IntKind.i64 0, AV.int IntKind.i64 (XS.g s.holds i 1)][((0 : Nat) + i_1) * 2 + k]? AV.top)
    rw [roomL_length] at this
    rw [this, w64_in (n := (i : Int) + 1) (by omega) (by omega), roomL_succ, T.run_ret]; rfl
  · rw [sl_ldp]
    simp only [roomL_length, decF_enc0]
    refine (T.run_br _ _ _).trans ?_
    rw [if_neg (by simp)]
    have := decF_encF rSpan (roomL s (K.len s.holds))
    rw [roomL_length] at this
    rw [this]; rfl
theorem L_rlp_eq (s : Ship) (l0 : LoadL) (z : Int × Int) (h : K.len s.holds ≤ 1000000) : L_rlp (0, s, l0, (0, z), [], ()) = some ((), s, l0, (K.len s.holds, z), roomL s (K.len s.holds), ()) := by
  have e1 := K.len_le s.holds; have e2 := K.len_le' s.holds
  refine lim_all (fun i => ((i : Int), s, l0, (i, z), roomL s i, ())) (K.len s.holds) (fun i hi => ?_) ?_
  · rw [sl_rlp]
    simp only [Int.toNat_natCast, roomL_length, decF_enc0]
    refine (T.run_br _ _ _).trans ?_
    rw [if_pos (decide_eq_true (by omega))]
    refine chk_step (decide_eq_true (by omega)) (chk_step (decide_eq_true (by omega)) ?_)
    have := decF_push rSpan (roomL s i) (fun i_1 k => Option.getD [AV.int IntKind.i64 0, AV.int IntKind.i64 (XS.g s.holds i 1)][((0 : Nat) + i_1) * 2 + k]? AV.top)
    rw [roomL_length] at this
    rw [this, w64_in (n := (i : Int) + 1) (by omega) (by omega), roomL_succ, T.run_ret]; rfl
  · rw [sl_rlp]
    simp only [roomL_length, decF_enc0]
    refine (T.run_br _ _ _).trans ?_
    rw [if_neg (by simp)]
    have := decF_encF rSpan (roomL s (K.len s.holds))
    rw [roomL_length] at this
    rw [this]; rfl
noncomputable def loadC (a : Ship × Bulbs × XS) : LoadL × Int := if ((sTog a).2 != 0) = true then (⟨[], ⟨0, 0⟩⟩, (sTog a).2) else
  if (checkLoad (a.1, loadOf a.1 (sTog a).1) != 0) = true then (⟨[], ⟨0, 0⟩⟩, checkLoad (a.1, loadOf a.1 (sTog a).1)) else (loadOf a.1 (sTog a).1, 0)
theorem sLoad_is (a : Ship × Bulbs × XS) : sLoad a = some (loadC a) := by
  obtain ⟨s, b, x⟩ := a
  unfold sLoad loadC
  refine br_step (fun _ => rfl) (fun h => ?_)
  obtain ⟨hs, _⟩ := sTog_ok (bne_zero h)
  have h8 := hs.holds
  show T.run (.obs (L_ldp ((s.holds, (K.len s.holds : Int), 0), s, ⟨[], ⟨0, 0⟩⟩, (0, _, _), [], ())) _) = _
  rw [L_ldp_eq s _ _ (by omega), T.run_some]
  simp only [decF_enc0]
  refine chk_step (decide_eq_true (by rw [roomL_length]; omega)) ?_
  exact br_step (fun _ => rfl) (fun _ => rfl)
theorem rLoad_is (a : Ship × Bulbs × XS) : rLoad a = some (loadC a) := by
  obtain ⟨s, b, x⟩ := a
  unfold rLoad loadC
  rw [rTog_is]
  refine br_step (fun _ => rfl) (fun h => ?_)
  obtain ⟨hs, _⟩ := sTog_ok (bne_zero h)
  have h8 := hs.holds
  show T.run (.obs (L_rlp (0, s, ⟨[], ⟨0, 0⟩⟩, (0, _, _), [], ())) _) = _
  rw [L_rlp_eq s _ _ (by omega), T.run_some]
  simp only [decF_enc0]
  rw [rCheckLoad_is s (by show (roomL s _).length ≤ _; rw [roomL_length]; omega), T.run_some]
  exact br_step (fun _ => rfl) (fun _ => rfl)
end K
end Go.Proofs.YtjbhooodjmjdkaaGreat
/-! KLs6 -/
namespace Go.Proofs.YtjbhooodjmjdkaaGreat
open Ev K
set_option maxRecDepth 100000
namespace K
theorem L_rf1_eq (l : List Span) (f : List Int) (t : Int) (h : l.length ≤ 1000) : L_rf1 ((l, f, t, 0, 0), [], ()) = some ((l, f, t, l.length), losU l l.length, ()) := by
  refine lim_all (fun i => ((l, f, t, i, (i : Int)), losU l i, ())) l.length (fun i hi => ?_) ?_
  · rw [sl_rf1]
    simp only [Int.toNat_natCast, losU_length, decF_enc0]
    refine (T.run_br _ _ _).trans ?_
    rw [clampL_eq (by unfold maxL; omega), if_pos (decide_eq_true (by omega))]
    refine chk_step (decide_eq_true (by omega)) (chk_step (decide_eq_true (by omega)) ?_)
    have h1 := decF_push rInt (losU l i) (fun i_1 k => Option.getD [AV.int IntKind.i64 (numOf (encF rSpan l (0 + i) 0))][((0 : Nat) + i_1) * (1 : Nat) + k]? AV.top)
    rw [losU_length] at h1
    rw [h1, w64_in (n := (i : Int) + 1) (by omega) (by omega), losU_succ, T.run_ret]
    rw [Nat.zero_add]; rfl
  · rw [sl_rf1]
    simp only [decF_encF, decF_enc0]
    refine (T.run_br _ _ _).trans ?_
    rw [clampL_eq (by unfold maxL; omega), if_neg (by simp)]; rfl
def hiF (l : List Span) (k : Int) : Int := (vS l k.toNat).hi
theorem getD_vI {x : List Int} {i : Nat} (h : i < x.length) : x.getD i 0 = vI x i := by
  rw [vI_get h, List.getD_eq_getElem?_getD, List.getElem?_eq_getElem h]; rfl
theorem pickL_le (f hi : Int → Int) (x : List Int) (n : Nat) : -1 ≤ Pl.pickL f hi x n ∧ Pl.pickL f hi x n < n := by
  rcases Pl.pickL_spec f hi x n with ⟨h, _⟩ | ⟨b, h, h2, _⟩ <;> omega
theorem L_rf3_eq {l : List Span} {f x : List Int} (left : Int) (hf : f.length = l.length) (hx : x.length = l.length) (h : l.length ≤ 1000) :
    L_rf3 ((l, f, l.length, left, -1, 0), x, ()) = some ((l, f, l.length, left, Pl.pickL (formF f) (hiF l) x l.length), x, ()) := by
  refine lim_all (fun i => ((l, f, l.length, left, Pl.pickL (formF f) (hiF l) x i, (i : Int)), x, ())) l.length (fun i hi => ?_) ?_
  · have hp := pickL_le (formF f) (hiF l) x i
    rw [sl_rf3]
    simp only [Int.toNat_natCast, decF_enc0, decF_encF, Nat.zero_add]
    refine (T.run_br _ _ _).trans ?_
    rw [clampL_eq (by unfold maxL; omega), if_pos (decide_eq_true (by omega))]
    refine chk_step (decide_eq_true (by omega)) (chk_step (decide_eq_true (by omega)) ?_)
    rw [w64_in (n := (i : Int) + 1) (by omega) (by omega)]
    have e1 : numOf (encF rInt x i 0) = x.getD i 0 := (getD_vI (by omega)).symm
    have e2 : numOf (encF rSpan l i 1) = hiF l i := by unfold hiF; rw [Int.toNat_natCast]; rfl
    have e3 : numOf (encF rInt f i 0) = formF f i := by unfold formF; rw [Int.toNat_natCast]; rfl
    have e4 : numOf (encF rInt f (Pl.pickL (formF f) (hiF l) x i).toNat 0) = formF f (Pl.pickL (formF f) (hiF l) x i) := rfl
    rw [e1, e2, e3, e4, T.run_br]
    simp only [Pl.pickL]
    by_cases c1 : x.getD i 0 < hiF l i
    · rw [if_pos (decide_eq_true c1), T.run_br]
      by_cases c2 : Pl.pickL (formF f) (hiF l) x i < 0
      · rw [if_pos (decide_eq_true c2), if_pos ⟨c1, .inl c2⟩]; rfl
      · rw [if_neg (by simpa using c2)]
        refine chk_step (decide_eq_true (by omega)) (chk_step (decide_eq_true (by omega)) ?_)
        rw [T.run_br]
        by_cases c3 : formF f i > formF f (Pl.pickL (formF f) (hiF l) x i)
        · rw [if_pos (decide_eq_true c3), if_pos ⟨c1, .inr c3⟩]; rfl
        · rw [if_neg (by simpa using c3), if_neg (fun h => h.2.elim c2 c3)]; rfl
    · rw [if_neg (by simpa using c1), if_neg (fun h => c1 h.1)]; rfl
  · rw [sl_rf3]
    simp only [decF_encF, decF_enc0]
    refine (T.run_br _ _ _).trans ?_
    rw [clampL_eq (by unfold maxL; omega), if_neg (by simp)]; rfl
theorem run_rf2 {l : List Span} (hl : HoldsOk l) {f : List Int} (hf : f.length = l.length) {x r : List Int} {left : Int} (hr : Pl.Run (formF f) (hiF l) l.length x left r) (hx : x.length = l.length) (hb : ∀ k, k < l.length → 0 ≤ x.getD k 0 ∧ x.getD k 0 ≤ 65536)
    (hleft : left ≤ 1000000000000) : L_rf2 ((l, f, l.length, left), x, ()) = some (.inl (l.length, r, ())) ∨ L_rf2 ((l, f, l.length, left), x, ()) = some (.inr (l.length, r, ())) := by
  have h8 := hl.le
  induction hr with
  | done h =>
    right
    refine lim_done ?_
    rw [sl_rf2]
    refine (T.run_br _ _ _).trans ?_
    rw [if_neg (by simpa using h), decF_encF]; rfl
  | full h hp =>
    left
    refine lim_done ?_
    rw [sl_rf2]
    refine (T.run_br _ _ _).trans ?_
    rw [if_pos (decide_eq_true h)]
    simp only [decF_enc0, decF_encF]
    rw [L_rf3_eq _ hf hx (by omega), T.run_some, T.run_br, if_pos (decide_eq_true hp)]
    simp only [decF_encF]; rfl
  | @step x r left b h hbn hp _ ih =>
    have hbb := hb b hbn
    have hh := hl.each b hbn
    have e2 : hiF l b = (vS l b).hi := by unfold hiF; rw [Int.toNat_natCast]
    have ⟨q1, q2, q3⟩ := @Pl.mn_le left (hiF l b - x.getD b 0)
    have hspec : x.getD b 0 < hiF l b := by
      rcases Pl.pickL_spec (formF f) (hiF l) x l.length with ⟨h1, _⟩ | ⟨b', h1, _, h3, _⟩
      · omega
      · have : b' = b := by omega
        subst this; exact h3
    have hstep : st_rf2 ((l, f, l.length, left), x, ()) = some (.inl ((l, f, l.length, left - Pl.mn left (hiF l b - x.getD b 0)), x.set b (x.getD b 0 + Pl.mn left (hiF l b - x.getD b 0)), ())) := by
      rw [sl_rf2]
      refine (T.run_br _ _ _).trans ?_
      rw [if_pos (decide_eq_true h)]
      simp only [decF_enc0, decF_encF]
      rw [L_rf3_eq _ hf hx (by omega), T.run_some, T.run_br, if_neg (by rw [hp, decide_eq_true_eq]; show ¬ (b : Int) < 0; omega)]
      simp only [hp, Int.toNat_natCast, decF_enc0, Nat.zero_add]
      have g : decide ((0 : Int) ≤ (b : Int) ∧ (b : Int) < (l.length : Int)) = true := decide_eq_true (by omega)
      refine chk_step g (chk_step g (chk_step g (chk_step g ?_)))
      have e1 : numOf (encF rInt x b 0) = x.getD b 0 := (getD_vI (by omega)).symm
      have e3 : numOf (encF rSpan l b 1) = hiF l b := e2.symm
      rw [T.run_ret, e1, e3, w64_in (n := hiF l b - x.getD b 0) (by omega) (by omega), decF_set1, decF_encF]
      show some (Sum.inl ((l, f, l.length, IntKind.wrap IntKind.i64 (left - Pl.mn left (hiF l b - x.getD b 0))), x.set b (IntKind.wrap IntKind.i64 (x.getD b 0 + Pl.mn left (hiF l b - x.getD b 0))), ())) = _
      rw [w64_in (by omega) (by omega), w64_in (by omega) (by omega)]
    rw [show L_rf2 = lim st_rf2 from rfl, lim_step hstep]
    refine ih (by rw [List.length_set]; exact hx) (fun k hk => ?_) (by omega)
    rw [Pl.getD_set (by omega)]
    split
    · omega
    · exact hb k hk
theorem rFill_is {l : List Span} (hl : HoldsOk l) {f : List Int} (hf : f.length = l.length) {t : Int} (ht : addL (losU l l.length) ≤ t ∧ t ≤ 100000000000) : rFill (l, f, t) = some (bestL l f t) := by
  have h8 := hl.le
  have hb := los_bound hl
  unfold rFill
  simp only [decF_enc0]
  show T.run (.obs (L_rf1 ((l, f, t, 0, 0), [], ())) _) = _
  rw [L_rf1_eq l f t (by omega), T.run_some]
  simp only [decF_enc0, decF_encF]
  refine chk_step (decide_eq_true (by rw [losU_length]; omega)) ?_
  rw [w64_in (n := t - addL (losU l l.length)) (by omega) (by omega)]
  have hrun := Pl.run_fill (f := formF f) (hi := hiF l) (c := capF l) (n := l.length) (ordL (formF f) l.length) (losU l l.length) (t - addL (losU l l.length)) (losU_length _ _) (ordL_sorted _ _) (fun i hi => by
    have hm := ordL_mem hi
    have hh := hl.each i.toNat (by omega)
    refine ⟨hm.1, hm.2, ?_, ?_⟩
    · unfold capF; omega
    · rw [losU_at (by omega)]; unfold hiF capF; omega) (fun k hk hn => absurd (ordL_has (by omega)) hn) (by omega)
  have hxb : ∀ k, k < l.length → 0 ≤ (losU l l.length).getD k 0 ∧ (losU l l.length).getD k 0 ≤ 65536 := fun k hk => by
    rw [losU_at hk]; have := hl.each k hk; omega
  rcases run_rf2 hl hf hrun (losU_length _ _) hxb (by omega) with e | e
  · rw [e, T.run_some]
    simp only [T.run_inl, T.run_ret, decF_enc0]; rfl
  · rw [e, T.run_some]
    simp only [T.run_inr, T.run_ret, decF_enc0]; rfl
end K
end Go.Proofs.YtjbhooodjmjdkaaGreat
/-! KLs7 -/
namespace Go.Proofs.YtjbhooodjmjdkaaGreat
open Ev K
set_option maxRecDepth 100000
namespace K
section
variable {s : Ship} (hs : ShipOk s) {l : LoadL} (hl : LoadOk s l)
include hs hl
theorem lo_holds : HoldsOk l.holds := by
  have h8 := hs.holds; have h := hl.len
  refine ⟨by omega, fun k hk => ?_⟩
  have h1 := hl.each k hk; have h2 := hold_ok hs (show k < K.len s.holds by omega)
  omega
theorem lo_tot : 0 ≤ addL (losU l.holds l.holds.length) ∧ addL (losU l.holds l.holds.length) ≤ (totS l).lo ∧ (totS l).hi ≤ 65536 := by
  have h8 := hs.holds; have h := hl.len
  obtain ⟨p1, p2, p3, p4⟩ := addS_is hs hl.len hl.each
  have hlos : addL (losU l.holds l.holds.length) = sm (fun i => (vS l.holds i).lo) l.holds.length := by
    unfold addL
    rw [losU_length]
    have hh := lo_holds hs hl
    rw [(fold_w (g := vI (losU l.holds l.holds.length)) (B := 65536) (by omega) l.holds.length (by omega) (fun i hi => by rw [losU_vI hi]; have := hh.each i hi; omega)).1]
    exact sm_congr (fun i hi => losU_vI hi)
  have ha := hl.all
  have ht := hl.tot
  rw [hlos]
  unfold totS at ht ⊢
  simp only [p1, greater, decide_eq_true_eq] at ht ⊢
  refine ⟨p2, ?_, ?_⟩
  · split <;> omega
  · split <;> omega
theorem lo_each : eachB l = true := by
  have h8 := hs.holds; have h := hl.len
  have := lo_tot hs hl; have := hl.tot
  unfold eachB
  exact decide_eq_true ⟨by omega, by omega, by omega, by omega⟩
omit hs hl in
theorem each_mem {t : Int} (h : t ∈ eachL l) : (totS l).lo ≤ t ∧ t ≤ (totS l).hi := by
  unfold eachL at h
  obtain ⟨i, hi, rfl⟩ := List.mem_map.1 h
  have := List.mem_range.1 hi
  omega
theorem best_ok {f : List Int} {t : Int} (ht : (totS l).lo ≤ t ∧ t ≤ (totS l).hi) : LoadgOk s (bestL l.holds f t) := by
  have hh := lo_holds hs hl
  have hb := lo_tot hs hl
  have h := hl.len
  refine ⟨by rw [bestL_length, h], fun i hi => ?_⟩
  rw [bestL_length] at hi
  have he := hl.each i hi
  have hnd : (ordL (formF f) l.holds.length).Nodup := (ordL_sorted _ _).imp (fun h e => by subst e; exact h.irr)
  have hat := Pl.fillL_at (c := capF l.holds) (left := t - addL (losU l.holds l.holds.length)) (x := losU l.holds l.holds.length) (k := i) hnd (fun j hj => by rw [losU_length]; exact ordL_mem hj)
  have hv : vI (bestL l.holds f t) i = (vS l.holds i).lo + Pl.amt (capF l.holds) (ordL (formF f) l.holds.length) (t - addL (losU l.holds l.holds.length)) i := by
    rw [← getD_vI (by rw [bestL_length]; exact hi)]
    unfold bestL
    rw [hat, losU_at hi]
  have hbd := Pl.amt_bound (c := capF l.holds) (os := ordL (formF f) l.holds.length) (left := t - addL (losU l.holds l.holds.length)) (k := (i : Int)) (by omega) (fun j hj => by
    have hm := ordL_mem hj
    have := hh.each j.toNat (by omega)
    unfold capF; omega) (ordL_has (by omega))
  have hc : capF l.holds (i : Int) = (vS l.holds i).hi - (vS l.holds i).lo := by unfold capF; rw [Int.toNat_natCast]
  rw [hv]; omega
noncomputable def stT (s : Ship) (l : LoadL) (t : Int) : Bool := steadyC s (bestL l.holds (colH s 3 (K.len s.holds)) t)
theorem best_chk {f : List Int} (hf : f.length = K.len s.holds) {t : Int} (ht : (totS l).lo ≤ t ∧ t ≤ (totS l).hi) : (holdsB l.holds && decide (f.length = l.holds.length ∧ -100000000000 ≤ t ∧ t ≤ 100000000000)) = true := by
  have hb := lo_tot hs hl
  rw [holdsB_iff.2 (lo_holds hs hl), Bool.true_and]
  exact decide_eq_true ⟨by rw [hf, hl.len], by omega, by omega⟩
theorem st_shk_eq (xs : List Int) (b : Bool) {t : Int} (ht : (totS l).lo ≤ t ∧ t ≤ (totS l).hi) :
    st_shk (l, s, l, xs, b, ()) t = some (if (!stT s l t) = true then .inr ((), (bestL l.holds (colH s 3 (K.len s.holds)) t).length, bestL l.holds (colH s 3 (K.len s.holds)) t, true, ()) else .inl (l, s, l, xs, b, ())) := by
  have h8 := hs.holds
  rw [rg_shk]
  simp only [decF_enc0]
  refine chk_step (decide_eq_true (by omega)) (chk_step (best_chk hs hl (colH_length _ _ _) ht) ?_)
  simp only [decF_encF]
  rw [(steady_is hs (best_ok hs hl ht)).1, T.run_some, T.run_br]
  show (if (!stT s l t) = true then _ else _) = _
  split <;> rfl
theorem F_shk_eq (xs : List Int) (b : Bool) : F_shk (l, s, l, xs, b, ()) = some (match (eachL l).find? (fun t => !stT s l t) with
    | some t => .inr ((), (bestL l.holds (colH s 3 (K.len s.holds)) t).length, bestL l.holds (colH s 3 (K.len s.holds)) t, true, ())
    | none => .inl (l, s, l, xs, b, ())) := by
  have key : ∀ L : List Int, (∀ t ∈ L, (totS l).lo ≤ t ∧ t ≤ (totS l).hi) → foldS st_shk L (l, s, l, xs, b, ()) = some (match L.find? (fun t => !stT s l t) with
    | some t => .inr ((), (bestL l.holds (colH s 3 (K.len s.holds)) t).length, bestL l.holds (colH s 3 (K.len s.holds)) t, true, ())
    | none => .inl (l, s, l, xs, b, ())) := by
    intro L
    induction L with
    | nil => intro _; rfl
    | cons t L ih =>
      intro h
      unfold foldS
      rw [st_shk_eq hs hl xs b (h t (List.mem_cons_self ..))]
      cases hq : (!stT s l t) with
      | true => rw [List.find?_cons_of_pos (by simpa using hq)]; rfl
      | false =>
        rw [List.find?_cons_of_neg (by simpa using hq)]
        exact ih (fun t ht => h t (List.mem_cons_of_mem _ ht))
  exact key _ (fun t ht => each_mem ht)
noncomputable def shk (s : Ship) (l : LoadL) : Option Int := (eachL l).find? (fun t => !stT s l t)
theorem shaky_is : ∃ xs, shaky (s, l) = some (xs, (shk s l).isSome) := by
  unfold shaky shk
  simp only [decF_enc0]
  rw [show (LoadL.mk l.holds l.all) = l from rfl, F_shk_eq hs hl]
  cases (eachL l).find? (fun t => !stT s l t) with
  | some t => exact ⟨_, chk_step (lo_each hs hl) (by rw [T.run_some]; rfl)⟩
  | none => exact ⟨_, chk_step (lo_each hs hl) (by rw [T.run_some]; rfl)⟩
theorem Steady_is (hc : checkLoad (s, l) = 0) : ∃ xs, Steady (s, l) = some (xs, !(shk s l).isSome, 0) := by
  have h8 := hs.holds; have h := hl.len
  obtain ⟨xs, hx⟩ := shaky_is hs hl
  unfold Steady
  simp only [decF_enc0]
  rw [show (LoadL.mk l.holds l.all) = l from rfl, hx]
  refine ⟨xs, chk_step (decide_eq_true (by omega)) ?_⟩
  rw [T.run_br, hc, if_neg (by simp), T.run_some]
  rw [T.run_ret]
/-! the reference's -/
omit hs hl in
theorem first_find {n : Nat} {g : Nat → Int} {p : Int → Bool} : ((List.range n).map g).find? p = ((List.range n).find? (fun i => p (g i))).map g := by
  rw [List.find?_map]; rfl
theorem rTotals_is : rTotals l = some (totS l) := by
  have h8 := hs.holds; have h := hl.len
  unfold rTotals
  simp only [decF_enc0]
  refine chk_step (decide_eq_true (by omega)) ?_
  unfold totS greater
  simp only [decide_eq_true_eq]; rfl
theorem L_rst3_eq (z : Bool × Int × Int × Int) : ∃ n r, L_rst3 ((totS l).lo, s, l, z, totS l, ()) = some (if (shk s l).isSome = true then .inl ((), (true, n, r, 0), ()) else .inr ((), z, ())) := by
  have h8 := hs.holds; have hlen := hl.len
  have hb := lo_tot hs hl; have htt := hl.tot
  have hstep : ∀ i : Nat, i < ((totS l).hi + 1 - (totS l).lo).toNat → ∃ r, st_rst3 ((totS l).lo + (i : Int), s, l, z, totS l, ()) = some (if (!stT s l ((totS l).lo + (i : Int))) = true then .inr (.inl ((), (true, (totS l).lo + (i : Int), r, 0), ())) else .inl ((totS l).lo + ((i + 1 : Nat) : Int), s, l, z, totS l, ())) := fun i hi => by
    have ht : (totS l).lo ≤ (totS l).lo + (i : Int) ∧ (totS l).lo + (i : Int) ≤ (totS l).hi := by omega
    have hbo := best_ok hs hl (f := colH s 3 (K.len s.holds)) ht
    refine ⟨riseC s (bestL l.holds (colH s 3 (K.len s.holds)) ((totS l).lo + (i : Int))), ?_⟩
    rw [sl_rst3]
    simp only [decF_enc0]
    refine (T.run_br _ _ _).trans ?_
    rw [if_pos (decide_eq_true ht.2)]
    refine chk_step (decide_eq_true (by omega)) ?_
    rw [rFill_is (lo_holds hs hl) (by rw [colH_length, hlen]) (by omega), T.run_some, (steady_is hs hbo).2, T.run_some, T.run_br]
    show (if (!stT s l _) = true then _ else _) = _
    split
    · rw [(rise_is hs hbo).2.1]; rfl
    · rw [w64_in (by omega) (by omega)]
      show some (Sum.inl ((totS l).lo + (i : Int) + 1, _)) = _
      rw [show (totS l).lo + (i : Int) + 1 = (totS l).lo + ((i + 1 : Nat) : Int) by omega]
  have e0 : ((totS l).lo, s, l, z, totS l, ()) = (fun i : Nat => ((totS l).lo + (i : Int), s, l, z, totS l, ())) 0 := by simp
  have hfind : (shk s l) = (first (fun i => !stT s l ((totS l).lo + (i : Int))) ((totS l).hi + 1 - (totS l).lo).toNat).map (fun i : Nat => (totS l).lo + (i : Int)) := by
    unfold shk eachL; exact first_find
  rw [e0, show L_rst3 = lim st_rst3 from rfl]
  cases hf : first (fun i => !stT s l ((totS l).lo + (i : Int))) ((totS l).hi + 1 - (totS l).lo).toNat with
  | some i =>
    obtain ⟨g1, g2, g3⟩ := first_spec hf
    have key := lim_until (step := st_rst3) (fun i : Nat => ((totS l).lo + (i : Int), s, l, z, totS l, ())) i 0 (fun j _ hj => by
      obtain ⟨r, hr⟩ := hstep j (by omega)
      have := g3 j (by omega)
      rw [this, if_neg (by simp)] at hr; exact hr)
    obtain ⟨r, hr⟩ := hstep i g1
    rw [g2, if_pos rfl] at hr
    refine ⟨(totS l).lo + (i : Int), r, ?_⟩
    rw [key, Nat.zero_add, lim_done hr, hfind, hf]; rfl
  | none =>
    have hn := first_none' hf
    have key := lim_until (step := st_rst3) (fun i : Nat => ((totS l).lo + (i : Int), s, l, z, totS l, ())) ((totS l).hi + 1 - (totS l).lo).toNat 0 (fun j _ hj => by
      obtain ⟨r, hr⟩ := hstep j (by omega)
      have := hn j (by omega)
      rw [this, if_neg (by simp)] at hr; exact hr)
    refine ⟨0, 0, ?_⟩
    have hd : st_rst3 ((totS l).lo + (((totS l).hi + 1 - (totS l).lo).toNat : Int), s, l, z, totS l, ()) = some (.inr (.inr ((), z, ()))) := by
      rw [sl_rst3]
      refine (T.run_br _ _ _).trans ?_
      rw [if_neg (by rw [decide_eq_true_eq]; show ¬ (totS l).lo + _ ≤ (totS l).hi; omega)]; rfl
    rw [key, Nat.zero_add, lim_done hd, hfind, hf]; rfl
theorem rSteady_is (hc : checkLoad (s, l) = 0) : ∃ n r, rSteady (s, l) = some ((shk s l).isSome, n, r, 0) := by
  have h8 := hs.holds; have h := hl.len
  obtain ⟨n, r, hq⟩ := L_rst3_eq hs hl (false, 0, 0, 0)
  unfold rSteady
  simp only [decF_enc0]
  rw [show (LoadL.mk l.holds l.all) = l from rfl, rCheckLoad_is s (by omega), hc, T.run_some, rTotals_is hs hl]
  cases hk : (shk s l).isSome with
  | true =>
    rw [hk, if_pos rfl] at hq
    refine ⟨n, r, ?_⟩
    rw [T.run_br, if_neg (by simp), T.run_some, hq, T.run_some]; rfl
  | false =>
    rw [hk, if_neg (by simp)] at hq
    refine ⟨0, 0, ?_⟩
    rw [T.run_br, if_neg (by simp), T.run_some, hq, T.run_some]; rfl
end
end K
end Go.Proofs.YtjbhooodjmjdkaaGreat
