/- Parts of the proof, one behind the other: LS6, LS7, LS8, LS9, LSa, LSb, LSc, LSd, LT2, LAk, LAl, LW0, LAm, LLf. No conditions. -/
import Derived.Test.YtelpdkojdfnmiaaGreatLw11
/-! LS6 -/
namespace Go.Proofs.YtelpdkojdfnmiaaGreat
open Ev K
set_option maxRecDepth 100000
namespace K
noncomputable abbrev fSym : FuncId := 125
instance (l : List Pst) : Decidable (Sd l) := by unfold Sd; infer_instance
def symOk (n : Nat) (l : List Pst) (a m b : Int) : Bool := decide ((0 ≤ a ∧ a < m ∧ m < b ∧ b ≤ l.length ∧ l.length ≤ 1000000 ∧ b - a < n) ∧ Sd ((l.drop a.toNat).take (m.toNat - a.toNat)) ∧ Sd ((l.drop m.toNat).take (b.toNat - m.toNat)))
def M_sym (n : Nat) (a : List Pst × Int × Int × Int) : T (List Pst) := .chk (symOk n a.1 a.2.1 a.2.2.1 a.2.2.2) (.ret (sortSeg a.1 a.2.1.toNat a.2.2.2.toNat))
end K
def S_y25 := DecS.rnd (.cons (dO 0) (.cons dInt (.skips 2 (.unit F_cmpD (.skips 5 (.cons dInt (.last dInt 208))))))) O_pT V_own
def X_y25 := DecX.one (.exit 0) [1, 0, 10] (DecS.rnd (.cons (dO 0) (.cons dInt (.skips 8 (.last dInt 209)))) O_pT V_own)
noncomputable def K.st_y25 := loopT1 P BLS5r 30 fSym 25 [1, 0, 4, 11, 10] S_y25 X_y25
theorem sl_y25 : ∀ s, (K.st_y25) s = T.run (
 let q1 := Int.fdiv (IntKind.wrap IntKind.u64 (IntKind.wrap IntKind.i64 (s.1.2.2.1 + s.1.2.2.2))) (Int.ofNat (nat_lit 2));
 let q4 := s.2.1.1.2;
 let q2 := ((s.2.1.1.1, decF rPost (List.length q4) (encF rPost q4)), PUnit.unit);
 let q3 := Int.toNat (IntKind.wrap IntKind.i64 q1);
 let q5 := Int.toNat s.1.2.1;
 .br (decide (s.1.2.2.1 < s.1.2.2.2)) (
  .chk (decide ((0 : Int) ≤ IntKind.wrap IntKind.i64 q1 ∧ IntKind.wrap IntKind.i64 q1 < (↑s.1.1 : Int))) <|
  .chk (decide ((0 : Int) ≤ s.1.2.1 ∧ s.1.2.1 < (↑s.1.1 : Int))) <|
  .br (decide (cmpD (Pst.mk (numOf (encF rPost q4 q3 (0 : Nat))) (numOf (encF rPost q4 q3 (nat_lit 1))) (numOf (encF rPost q4 q3 (nat_lit 2))) (numOf (encF rPost q4 q3 (nat_lit 3))), Pst.mk (numOf (encF rPost q4 q5 (0 : Nat))) (numOf (encF rPost q4 q5 (nat_lit 1))) (numOf (encF rPost q4 q5 (nat_lit 2))) (numOf (encF rPost q4 q5 (nat_lit 3)))) < (0 : Int))) (
   .ret (Sum.inl ((s.1.1, s.1.2.1, IntKind.wrap IntKind.i64 (IntKind.wrap IntKind.i64 q1 + (1 : Int)), s.1.2.2.2), q2, s.2.2))) (
   .ret (Sum.inl ((s.1.1, s.1.2.1, s.1.2.2.1, IntKind.wrap IntKind.i64 q1), q2, s.2.2)))) (
  .ret (Sum.inr ((s.1.1, s.1.2.1, s.1.2.2.1), q2, s.2.2)))) := fun s => by kernel_rfl
noncomputable def K.L_y25 := lim K.st_y25
noncomputable def BLS61 : Tab := BLS5r.addNode 125 25 (nodeE [1, 0, 4, 11, 10] S_y25 X_y25 (fun s => .obs (K.L_y25 s) .ret))
theorem tLS61 : TabOk P BLS61 := TabOk.addLoop (d := 30) okP tLS5r (by kernel_rfl) (by kernel_rfl) (fun s r h => obs_ret h)
def S_y73 := DecS.rnd (.cons (dO 0) (.skips 9 (.cons dInt (.skips 2 (.last dInt 206))))) O_pT V_own
def X_y73 := DecX.one (.exit 2) [] (DecS.rnd (.tops 220) O_pT V_own)
noncomputable def K.st_y73 := loopT1 P BLS61 30 fSym 73 [13, 0, 10] S_y73 X_y73
theorem sl_y73 : ∀ s, (K.st_y73) s = T.run (
 let q6 := s.1.2.2 + (1 : Int);
 let q1 := Int.toNat (IntKind.wrap IntKind.i64 q6);
 let q2 := decide ((0 : Int) ≤ IntKind.wrap IntKind.i64 q6 ∧ IntKind.wrap IntKind.i64 q6 < (↑s.1.1 : Int));
 let q3 := s.2.1.1.2;
 let q4 := Int.toNat s.1.2.2;
 let q5 := decide ((0 : Int) ≤ s.1.2.2 ∧ s.1.2.2 < (↑s.1.1 : Int));
 .br (decide (s.1.2.2 < IntKind.wrap IntKind.i64 (s.1.2.1 - (1 : Int)))) (
  .chk q2 <|
  .chk q5 <|
  .chk q5 <|
  .chk q2 <|
  .ret (Sum.inl ((s.1.1, s.1.2.1, IntKind.wrap IntKind.i64 q6), ((s.2.1.1.1, decF rPost (List.length q3) (setR q1 (0 : Nat) (nat_lit 4) [AV.int IntKind.i64 (numOf (encF rPost q3 q4 (0 : Nat))), AV.int IntKind.i64 (numOf (encF rPost q3 q4 (nat_lit 1))), AV.int IntKind.i64 (numOf (encF rPost q3 q4 (nat_lit 2))), AV.int IntKind.i64 (numOf (encF rPost q3 q4 (nat_lit 3)))] (setR q4 (0 : Nat) (nat_lit 4) [AV.int IntKind.i64 (numOf (encF rPost q3 q1 (0 : Nat))), AV.int IntKind.i64 (numOf (encF rPost q3 q1 (nat_lit 1))), AV.int IntKind.i64 (numOf (encF rPost q3 q1 (nat_lit 2))), AV.int IntKind.i64 (numOf (encF rPost q3 q1 (nat_lit 3)))] (encF rPost q3)))), PUnit.unit), s.2.2))) (
  .ret (Sum.inr (PUnit.unit, ((s.2.1.1.1, decF rPost (List.length q3) (encF rPost q3)), PUnit.unit), s.2.2)))) := fun s => by kernel_rfl
noncomputable def K.L_y73 := lim K.st_y73
noncomputable def BLS62 : Tab := BLS61.addNode 125 73 (nodeE [13, 0, 10] S_y73 X_y73 (fun s => .obs (K.L_y73 s) .ret))
theorem tLS62 : TabOk P BLS62 := TabOk.addLoop (d := 30) okP tLS61 (by kernel_rfl) (by kernel_rfl) (fun s r h => obs_ret h)
def S_y121 := DecS.rnd (.cons (dO 0) (.skip (.cons dInt (.skip (.unit F_cmpD (.skips 9 (.cons dInt (.last dInt 204)))))))) O_pT V_own
def X_y121 := DecX.one (.exit 4) [0, 2, 14] (DecS.rnd (.cons (dO 0) (.skip (.cons dInt (.skips 11 (.last dInt 205))))) O_pT V_own)
noncomputable def K.st_y121 := loopT1 P BLS62 30 fSym 121 [0, 2, 4, 15, 14] S_y121 X_y121
theorem sl_y121 : ∀ s, (K.st_y121) s = T.run (
 let q1 := Int.fdiv (IntKind.wrap IntKind.u64 (IntKind.wrap IntKind.i64 (s.1.2.2.1 + s.1.2.2.2))) (Int.ofNat (nat_lit 2));
 let q4 := s.2.1.1.2;
 let q2 := ((s.2.1.1.1, decF rPost (List.length q4) (encF rPost q4)), PUnit.unit);
 let q3 := Int.toNat (IntKind.wrap IntKind.i64 q1);
 let q5 := Int.toNat s.1.2.1;
 .br (decide (s.1.2.2.1 < s.1.2.2.2)) (
  .chk (decide ((0 : Int) ≤ s.1.2.1 ∧ s.1.2.1 < (↑s.1.1 : Int))) <|
  .chk (decide ((0 : Int) ≤ IntKind.wrap IntKind.i64 q1 ∧ IntKind.wrap IntKind.i64 q1 < (↑s.1.1 : Int))) <|
  .br (!decide (cmpD (Pst.mk (numOf (encF rPost q4 q5 (0 : Nat))) (numOf (encF rPost q4 q5 (nat_lit 1))) (numOf (encF rPost q4 q5 (nat_lit 2))) (numOf (encF rPost q4 q5 (nat_lit 3))), Pst.mk (numOf (encF rPost q4 q3 (0 : Nat))) (numOf (encF rPost q4 q3 (nat_lit 1))) (numOf (encF rPost q4 q3 (nat_lit 2))) (numOf (encF rPost q4 q3 (nat_lit 3)))) < (0 : Int))) (
   .ret (Sum.inl ((s.1.1, s.1.2.1, IntKind.wrap IntKind.i64 (IntKind.wrap IntKind.i64 q1 + (1 : Int)), s.1.2.2.2), q2, s.2.2))) (
   .ret (Sum.inl ((s.1.1, s.1.2.1, s.1.2.2.1, IntKind.wrap IntKind.i64 q1), q2, s.2.2)))) (
  .ret (Sum.inr ((s.1.1, s.1.2.1, s.1.2.2.1), q2, s.2.2)))) := fun s => by kernel_rfl
noncomputable def K.L_y121 := lim K.st_y121
noncomputable def BLS63 : Tab := BLS62.addNode 125 121 (nodeE [0, 2, 4, 15, 14] S_y121 X_y121 (fun s => .obs (K.L_y121 s) .ret))
theorem tLS63 : TabOk P BLS63 := TabOk.addLoop (d := 30) okP tLS62 (by kernel_rfl) (by kernel_rfl) (fun s r h => obs_ret h)
def S_y169 := DecS.rnd (.cons (dO 0) (.skips 13 (.cons dInt (.skips 2 (.last dInt 202))))) O_pT V_own
def X_y169 := DecX.one (.exit 6) [] (DecS.rnd (.tops 220) O_pT V_own)
noncomputable def K.st_y169 := loopT1 P BLS63 30 fSym 169 [17, 0, 14] S_y169 X_y169
theorem sl_y169 : ∀ s, (K.st_y169) s = T.run (
 let q6 := s.1.2.2 - (1 : Int);
 let q1 := Int.toNat (IntKind.wrap IntKind.i64 q6);
 let q2 := decide ((0 : Int) ≤ IntKind.wrap IntKind.i64 q6 ∧ IntKind.wrap IntKind.i64 q6 < (↑s.1.1 : Int));
 let q3 := s.2.1.1.2;
 let q4 := Int.toNat s.1.2.2;
 let q5 := decide ((0 : Int) ≤ s.1.2.2 ∧ s.1.2.2 < (↑s.1.1 : Int));
 .br (decide (s.1.2.2 > s.1.2.1)) (
  .chk q2 <|
  .chk q5 <|
  .chk q5 <|
  .chk q2 <|
  .ret (Sum.inl ((s.1.1, s.1.2.1, IntKind.wrap IntKind.i64 q6), ((s.2.1.1.1, decF rPost (List.length q3) (setR q1 (0 : Nat) (nat_lit 4) [AV.int IntKind.i64 (numOf (encF rPost q3 q4 (0 : Nat))), AV.int IntKind.i64 (numOf (encF rPost q3 q4 (nat_lit 1))), AV.int IntKind.i64 (numOf (encF rPost q3 q4 (nat_lit 2))), AV.int IntKind.i64 (numOf (encF rPost q3 q4 (nat_lit 3)))] (setR q4 (0 : Nat) (nat_lit 4) [AV.int IntKind.i64 (numOf (encF rPost q3 q1 (0 : Nat))), AV.int IntKind.i64 (numOf (encF rPost q3 q1 (nat_lit 1))), AV.int IntKind.i64 (numOf (encF rPost q3 q1 (nat_lit 2))), AV.int IntKind.i64 (numOf (encF rPost q3 q1 (nat_lit 3)))] (encF rPost q3)))), PUnit.unit), s.2.2))) (
  .ret (Sum.inr (PUnit.unit, ((s.2.1.1.1, decF rPost (List.length q3) (encF rPost q3)), PUnit.unit), s.2.2)))) := fun s => by kernel_rfl
noncomputable def K.L_y169 := lim K.st_y169
noncomputable def BLS64 : Tab := BLS63.addNode 125 169 (nodeE [17, 0, 14] S_y169 X_y169 (fun s => .obs (K.L_y169 s) .ret))
theorem tLS64 : TabOk P BLS64 := TabOk.addLoop (d := 30) okP tLS63 (by kernel_rfl) (by kernel_rfl) (fun s r h => obs_ret h)
def S_y265 := DecS.rnd (.cons (dO 0) (.cons dInt (.cons dInt (.cons dInt (.unit F_cmpD (.skips 13 (.cons dInt (.cons dInt (.cons dInt (.cons dInt (.last dInt 197))))))))))) O_pT V_own
def X_y265 := DecX.one (.exit 8) [0, 4, 20, 3, 18, 1, 2, 19] (DecS.rnd (.cons (dO 0) (.cons dInt (.cons dInt (.cons dInt (.unit F_cmpD (.skips 13 (.cons dInt (.cons dInt (.last dInt 199))))))))) O_pT V_own)
noncomputable def K.st_y265 := loopT1 P BLS64 30 fSym 265 [0, 22, 4, 21, 20, 3, 18, 1, 2, 19] S_y265 X_y265
theorem sl_y265 : ∀ s, (K.st_y265) s = T.run (
 let q7 := s.1.2.2.2.2.2.2.1;
 let q1 := Int.fdiv (IntKind.wrap IntKind.u64 (IntKind.wrap IntKind.i64 (q7 + s.1.2.2.2.2.2.2.2.1))) (Int.ofNat (nat_lit 2));
 let q5 := s.1.2.2.2.2.2.2.2.2 - IntKind.wrap IntKind.i64 q1;
 let q2 := Int.toNat (IntKind.wrap IntKind.i64 q5);
 let q6 := s.2.1.1.2;
 let q3 := ((s.2.1.1.1, decF rPost (List.length q6) (encF rPost q6)), PUnit.unit);
 let q4 := Int.toNat (IntKind.wrap IntKind.i64 q1);
 .br (decide (q7 < s.1.2.2.2.2.2.2.2.1)) (
  .chk (decide ((0 : Int) ≤ IntKind.wrap IntKind.i64 q5 ∧ IntKind.wrap IntKind.i64 q5 < (↑s.1.1 : Int))) <|
  .chk (decide ((0 : Int) ≤ IntKind.wrap IntKind.i64 q1 ∧ IntKind.wrap IntKind.i64 q1 < (↑s.1.1 : Int))) <|
  .br (!decide (cmpD (Pst.mk (numOf (encF rPost q6 q2 (0 : Nat))) (numOf (encF rPost q6 q2 (nat_lit 1))) (numOf (encF rPost q6 q2 (nat_lit 2))) (numOf (encF rPost q6 q2 (nat_lit 3))), Pst.mk (numOf (encF rPost q6 q4 (0 : Nat))) (numOf (encF rPost q6 q4 (nat_lit 1))) (numOf (encF rPost q6 q4 (nat_lit 2))) (numOf (encF rPost q6 q4 (nat_lit 3)))) < (0 : Int))) (
   .ret (Sum.inl ((s.1.1, s.1.2.1, s.1.2.2.1, s.1.2.2.2.1, s.1.2.2.2.2.1, s.1.2.2.2.2.2.1, IntKind.wrap IntKind.i64 (IntKind.wrap IntKind.i64 q1 + (1 : Int)), s.1.2.2.2.2.2.2.2), q3, s.2.2))) (
   .ret (Sum.inl ((s.1.1, s.1.2.1, s.1.2.2.1, s.1.2.2.2.1, s.1.2.2.2.2.1, s.1.2.2.2.2.2.1, q7, IntKind.wrap IntKind.i64 q1, s.1.2.2.2.2.2.2.2.2), q3, s.2.2)))) (
  .ret (Sum.inr ((s.1.1, s.1.2.1, s.1.2.2.1, s.1.2.2.2.1, s.1.2.2.2.2.1, s.1.2.2.2.2.2.1, q7), q3, s.2.2)))) := fun s => by kernel_rfl
noncomputable def K.L_y265 := lim K.st_y265
noncomputable def BLS65 : Tab := BLS64.addNode 125 265 (nodeE [0, 22, 4, 21, 20, 3, 18, 1, 2, 19] S_y265 X_y265 (fun s => .obs (K.L_y265 s) .ret))
theorem tLS65 : TabOk P BLS65 := TabOk.addLoop (d := 30) okP tLS64 (by kernel_rfl) (by kernel_rfl) (fun s r h => obs_ret h)
noncomputable def BSy (n : Nat) : Tab := BLS65.addTurn fSym (turnE D_sw rPost (K.M_sym n))
noncomputable def K.t_sym (a : Nat × TypeId × List Pst × Int × Int × Int) := turnT1 P (BSy a.1) 30 fSym D_sw rPost a.2
theorem fn_sym : ∀ a, (K.t_sym) a = T.run (
 let q7 := a.2.2.1;
 let q1 := List.length q7;
 let q9 := a.2.2.2.1;
 let q8 := a.2.2.2.2.2;
 let q2 := Int.fdiv (IntKind.wrap IntKind.u64 (IntKind.wrap IntKind.i64 (q9 + q8))) (Int.ofNat (nat_lit 2));
 let q3 := ((a.2.1, decF rPost q1 (encF rPost q7)), PUnit.unit);
 let q5 := a.2.2.2.2.1;
 let q4 := IntKind.wrap IntKind.i64 q2 + q5;
 let q6 := IntKind.wrap IntKind.i64 q4 - (1 : Int);
 .br (IntKind.wrap IntKind.i64 (q5 - q9) == (1 : Int)) (
  .obs (L_y25 ((List.length q7, a.2.2.2), q3, List.length q7)) fun x0 =>
   .obs (L_y73 ((x0.1.1, x0.1.2.2, x0.1.2.1), ((x0.2.1.1.1, decF rPost (List.length x0.2.1.1.2) (encF rPost x0.2.1.1.2)), PUnit.unit), x0.2.2)) fun x1 =>
    .ret ((x1.2.1.1.1, decF rPost q1 (encF rPost x1.2.1.1.2)))) (
  .br (IntKind.wrap IntKind.i64 (q8 - q5) == (1 : Int)) (
   .obs (L_y121 ((List.length q7, q5, q9, q5), q3, List.length q7)) fun x0 =>
    .obs (L_y169 ((x0.1.1, x0.1.2.2, x0.1.2.1), ((x0.2.1.1.1, decF rPost (List.length x0.2.1.1.2) (encF rPost x0.2.1.1.2)), PUnit.unit), x0.2.2)) fun x1 =>
     .ret ((x1.2.1.1.1, decF rPost q1 (encF rPost x1.2.1.1.2)))) (
   .br (decide (q5 > IntKind.wrap IntKind.i64 q2)) (
    .obs (L_y265 ((List.length q7, q9, q5, q8, IntKind.wrap IntKind.i64 q2, IntKind.wrap IntKind.i64 q4, IntKind.wrap IntKind.i64 (IntKind.wrap IntKind.i64 q4 - q8), IntKind.wrap IntKind.i64 q2, IntKind.wrap IntKind.i64 q6), q3, List.length q7)) fun x0 =>
 let q17 := List.length x0.2.1.1.2;
 let q11 := decF rPost q17 (encF rPost x0.2.1.1.2);
 let q23 := x0.1.2.2.2.2.2.2;
 let q38 := x0.1.2.2.1;
 let q12 := x0.1.2.2.2.2.2.1 - q23;
 let q21 := IntKind.wrap IntKind.i64 q12;
 let q10 := encF rPost (rotL q11 (Int.toNat q23) (Int.toNat q38) (Int.toNat q21));
 let q15 := x0.1.2.2.2.2.1;
 let q18 := decide (q15 < IntKind.wrap IntKind.i64 q12);
 let q24 := x0.1.2.2.2.1;
 let q16 := decide (IntKind.wrap IntKind.i64 q12 < q24);
 let q32 := symOk a.1 q11 q15 q21 q24;
 let q25 := x0.2.1.1.1;
 let q31 := Int.toNat q15;
 let q35 := Int.toNat q24;
 let q22 := (q25, decF rPost q1 (encF rPost (sortSeg q11 q31 q35)));
 let q19 := (q25, decF rPost q1 (encF rPost x0.2.1.1.2));
 let q13 : T _ := .br q18 (
         .br q16 (
          .chk q32 <|
          .ret q22) (
          .ret q19)) (
         .ret q19);
 let q14 := encF rPost (sortSeg q11 (Int.toNat x0.1.2.1) q31);
 let q30 := decF rPost q17 q10;
 let q20 := encF rPost (sortSeg q30 (Int.toNat x0.1.2.1) q31);
 let q26 := (q25, decF rPost q1 (encF rPost (sortSeg q30 q31 q35)));
 let q27 := (q25, decF rPost q1 (encF rPost (sortSeg (decF rPost q17 q14) q31 q35)));
 let q28 := (q25, decF rPost q1 q10);
 let q29 := (q25, decF rPost q1 q14);
 let q33 := decide (x0.1.2.1 < q23);
 let q34 := symOk a.1 (decF rPost q17 q14) q15 q21 q24;
 let q36 := decide (q23 < q15);
 let q37 := symOk a.1 q11 x0.1.2.1 q23 q15;
     .br (decide (q23 < q38)) (
      .br (decide (q38 < IntKind.wrap IntKind.i64 q12)) (
       .chk (decide ((0 : Int) ≤ q23 ∧ q23 < q38 ∧ q38 < IntKind.wrap IntKind.i64 q12 ∧ IntKind.wrap IntKind.i64 q12 ≤ (↑(List.length q11) : Int) ∧ List.length q11 ≤ (1000000 : Nat))) <|
       .br q33 (
        .br q36 (
         .chk (symOk a.1 q30 x0.1.2.1 q23 q15) <|
         .br q18 (
          .br q16 (
           .chk (symOk a.1 (decF rPost q17 q20) q15 q21 q24) <|
           .ret ((q25, decF rPost q1 (encF rPost (sortSeg (decF rPost q17 q20) q31 q35))))) (
           .ret ((q25, decF rPost q1 q20)))) (
          .ret ((q25, decF rPost q1 q20)))) (
         .br q18 (
          .br q16 (
           .chk (symOk a.1 q30 q15 q21 q24) <|
           .ret q26) (
           .ret q28)) (
          .ret q28))) (
        .br q18 (
         .br q16 (
          .chk (symOk a.1 q30 q15 q21 q24) <|
          .ret q26) (
          .ret q28)) (
         .ret q28))) (
       .br q33 (
        .br q36 (
         .chk q37 <|
         .br q18 (
          .br q16 (
           .chk q34 <|
           .ret q27) (
           .ret q29)) (
          .ret q29)) (
         .br q18 (
          .br q16 (
           .chk q32 <|
           .ret q22) (
           .ret q19)) (
          .ret q19))) q13)) (
      .br q33 (
       .br q36 (
        .chk q37 <|
        .br q18 (
         .br q16 (
          .chk q34 <|
          .ret q27) (
          .ret q29)) (
         .ret q29)) q13) (
       .br q18 (
        .br q16 (
         .chk q32 <|
         .ret q22) (
         .ret q19)) (
        .ret q19)))) (
    .obs (L_y265 ((List.length q7, q9, q5, q8, IntKind.wrap IntKind.i64 q2, IntKind.wrap IntKind.i64 q4, q9, q5, IntKind.wrap IntKind.i64 q6), q3, List.length q7)) fun x0 =>
 let q46 := List.length x0.2.1.1.2;
 let q40 := decF rPost q46 (encF rPost x0.2.1.1.2);
 let q52 := x0.1.2.2.2.2.2.2;
 let q67 := x0.1.2.2.1;
 let q41 := x0.1.2.2.2.2.2.1 - q52;
 let q50 := IntKind.wrap IntKind.i64 q41;
 let q39 := encF rPost (rotL q40 (Int.toNat q52) (Int.toNat q67) (Int.toNat q50));
 let q44 := x0.1.2.2.2.2.1;
 let q47 := decide (q44 < IntKind.wrap IntKind.i64 q41);
 let q53 := x0.1.2.2.2.1;
 let q45 := decide (IntKind.wrap IntKind.i64 q41 < q53);
 let q61 := symOk a.1 q40 q44 q50 q53;
 let q54 := x0.2.1.1.1;
 let q60 := Int.toNat q44;
 let q64 := Int.toNat q53;
 let q51 := (q54, decF rPost q1 (encF rPost (sortSeg q40 q60 q64)));
 let q48 := (q54, decF rPost q1 (encF rPost x0.2.1.1.2));
 let q42 : T _ := .br q47 (
         .br q45 (
          .chk q61 <|
          .ret q51) (
          .ret q48)) (
         .ret q48);
 let q43 := encF rPost (sortSeg q40 (Int.toNat x0.1.2.1) q60);
 let q59 := decF rPost q46 q39;
 let q49 := encF rPost (sortSeg q59 (Int.toNat x0.1.2.1) q60);
 let q55 := (q54, decF rPost q1 (encF rPost (sortSeg q59 q60 q64)));
 let q56 := (q54, decF rPost q1 (encF rPost (sortSeg (decF rPost q46 q43) q60 q64)));
 let q57 := (q54, decF rPost q1 q39);
 let q58 := (q54, decF rPost q1 q43);
 let q62 := decide (x0.1.2.1 < q52);
 let q63 := symOk a.1 (decF rPost q46 q43) q44 q50 q53;
 let q65 := decide (q52 < q44);
 let q66 := symOk a.1 q40 x0.1.2.1 q52 q44;
     .br (decide (q52 < q67)) (
      .br (decide (q67 < IntKind.wrap IntKind.i64 q41)) (
       .chk (decide ((0 : Int) ≤ q52 ∧ q52 < q67 ∧ q67 < IntKind.wrap IntKind.i64 q41 ∧ IntKind.wrap IntKind.i64 q41 ≤ (↑(List.length q40) : Int) ∧ List.length q40 ≤ (1000000 : Nat))) <|
       .br q62 (
        .br q65 (
         .chk (symOk a.1 q59 x0.1.2.1 q52 q44) <|
         .br q47 (
          .br q45 (
           .chk (symOk a.1 (decF rPost q46 q49) q44 q50 q53) <|
           .ret ((q54, decF rPost q1 (encF rPost (sortSeg (decF rPost q46 q49) q60 q64))))) (
           .ret ((q54, decF rPost q1 q49)))) (
          .ret ((q54, decF rPost q1 q49)))) (
         .br q47 (
          .br q45 (
           .chk (symOk a.1 q59 q44 q50 q53) <|
           .ret q55) (
           .ret q57)) (
          .ret q57))) (
        .br q47 (
         .br q45 (
          .chk (symOk a.1 q59 q44 q50 q53) <|
          .ret q55) (
          .ret q57)) (
         .ret q57))) (
       .br q62 (
        .br q65 (
         .chk q66 <|
         .br q47 (
          .br q45 (
           .chk q63 <|
           .ret q56) (
           .ret q58)) (
          .ret q58)) (
         .br q47 (
          .br q45 (
           .chk q61 <|
           .ret q51) (
           .ret q48)) (
          .ret q48))) q42)) (
      .br q62 (
       .br q65 (
        .chk q66 <|
        .br q47 (
         .br q45 (
          .chk q63 <|
          .ret q56) (
          .ret q58)) (
         .ret q58)) q42) (
       .br q47 (
        .br q45 (
         .chk q61 <|
         .ret q51) (
         .ret q48)) (
        .ret q48))))))) := fun a => by kernel_rfl
end Go.Proofs.YtelpdkojdfnmiaaGreat
/-! LS7 -/
namespace Go.Proofs.YtelpdkojdfnmiaaGreat
open Ev K
set_option maxRecDepth 100000
namespace K
theorem cut_exists {Q : Nat → Prop} (s : Nat) : ∀ (n : Nat), (∀ c, s ≤ c → c + 1 < s + n → Q (c + 1) → Q c) → ∃ k, s ≤ k ∧ k ≤ s + n ∧ (∀ c, s ≤ c → c < k → Q c) ∧ ∀ c, k ≤ c → c < s + n → ¬ Q c
 | 0, _ => ⟨s, Nat.le_refl _, Nat.le_refl _, fun c h1 h2 => by omega, fun c h1 h2 => by omega⟩
 | n + 1, h => by
  obtain ⟨k, k1, k2, k3, k4⟩ := cut_exists s n (fun c h1 h2 => h c h1 (by omega))
  by_cases hq : Q (s + n)
  ·by_cases hk : k = s + n
   ·exact ⟨s + n + 1, by omega, by omega, fun c h1 h2 => by
     by_cases hc : c = s + n
     ·subst hc; exact hq
     ·exact k3 c h1 (by omega), fun c h1 h2 => by omega⟩
   ·exfalso
    have : ∀ d c, c + d = s + n → k ≤ c → Q c := by
     intro d
     induction d with
     | zero => intro c hc _; rw [show c = s + n by omega]; exact hq
     | succ d ih => intro c hc hk'; exact h c (by omega) (by omega) (ih (c + 1) (by omega) (by omega))
    exact k4 k (Nat.le_refl _) (by omega) (this (s + n - k) k (by omega) (Nat.le_refl _))
  ·exact ⟨k, k1, by omega, k3, fun c h1 h2 => by
    by_cases hc : c = s + n
    ·subst hc; exact hq
    ·exact k4 c h1 (by omega)⟩
theorem lim_bin {σ ρ : Type} {step : σ → Option (σ ⊕ ρ)} (S : Nat → Nat → σ) (fin : Nat → ρ) (k s e : Nat) (h1 : ∀ i j, s ≤ i → j ≤ e → i ≤ k → k ≤ j → i < j → step (S i j) = some (.inl (if (i + j) / 2 < k then S ((i + j) / 2 + 1) j else S i ((i + j) / 2)))) (h2 : step (S k k) = some (.inr (fin k))) :
  ∀ (n i j : Nat), j - i ≤ n → s ≤ i → j ≤ e → i ≤ k → k ≤ j → lim step (S i j) = some (fin k)
 | 0, i, j, hn, hs, he, hi, hj => by
  have e1 : i = k := by omega
  have e2 : j = k := by omega
  rw [e1, e2]; exact lim_done h2
 | n + 1, i, j, hn, hs, he, hi, hj => by
  by_cases hij : i < j
  ·rw [lim_step (h1 i j hs he hi hj hij)]
   split
   ·exact lim_bin S fin k s e h1 h2 n _ _ (by omega) (by omega) he (by omega) hj
   ·exact lim_bin S fin k s e h1 h2 n _ _ (by omega) hs (by omega) hi (by omega)
  ·have e1 : i = k := by omega
   have e2 : j = k := by omega
   rw [e1, e2]; exact lim_done h2
theorem half_eq {i j : Nat} (h : i + j ≤ 4000000) : IntKind.i64.wrap (Int.fdiv (IntKind.wrap IntKind.u64 (IntKind.i64.wrap ((i : Int) + (j : Int)))) (Int.ofNat 2)) = (((i + j) / 2 : Nat) : Int) := by
 have e1 : IntKind.i64.wrap ((i : Int) + (j : Int)) = ((i + j : Nat) : Int) := by rw [w64_in (by omega) (by omega)]; rfl
 have e2 : IntKind.wrap IntKind.u64 ((i + j : Nat) : Int) = ((i + j : Nat) : Int) := by
  show ((i + j : Nat) : Int) % (2 ^ 64 : Int) = _
  rw [Int.emod_eq_of_lt (by omega) (by omega)]
 rw [e1, e2]
 have e3 : Int.fdiv ((i + j : Nat) : Int) (Int.ofNat 2) = (((i + j) / 2 : Nat) : Int) := by
  rw [Int.fdiv_eq_ediv_of_nonneg _ (by decide)]; rfl
 rw [e3, w64_in (by omega) (by omega)]
def dayAt (l : List Pst) (i : Nat) : Int := (l.getD i default).day
theorem dayAt_eq {l : List Pst} {i : Nat} {x : Pst} (h : l[i]? = some x) : dayAt l i = x.day := by
 unfold dayAt; rw [List.getD_eq_getElem?_getD, h]; rfl
theorem cmp_at {l : List Pst} {i j : Nat} (hi : i < l.length) (hj : j < l.length) : cmpD (⟨numOf (encF rPost l i 0), numOf (encF rPost l i 1), numOf (encF rPost l i 2), numOf (encF rPost l i 3)⟩, ⟨numOf (encF rPost l j 0), numOf (encF rPost l j 1), numOf (encF rPost l j 2), numOf (encF rPost l j 3)⟩) < 0 ↔ dayAt l i < dayAt l j := by
 have h1 := List.getElem?_eq_getElem hi
 have h2 := List.getElem?_eq_getElem hj
 rw [dayAt_eq h1, dayAt_eq h2, post_at h1, post_at h2]
 exact cmpD_neg _ _
theorem sd_idx {l : List Pst} {a m : Nat} (hm : m ≤ l.length) : Sd ((l.drop a).take (m - a)) ↔ ∀ i j, a ≤ i → i < j → j < m → dayAt l i ≤ dayAt l j := by
 have hlen : ((l.drop a).take (m - a)).length = m - a := by rw [List.length_take, List.length_drop]; omega
 have hget : ∀ i, a + i < m → ∀ h, ((l.drop a).take (m - a))[i]'h = l[a + i]'(by rw [hlen] at h; omega) := fun i hi h => by simp
 have hd : ∀ i (h : i < l.length), dayAt l i = (l[i]'h).day := fun i h => dayAt_eq (List.getElem?_eq_getElem h)
 unfold Sd
 rw [List.pairwise_iff_getElem]
 constructor
 ·intro h i j h1 h2 h3
  have := h (i - a) (j - a) (by rw [hlen]; omega) (by rw [hlen]; omega) (by omega)
  rw [hget (i - a) (by omega), hget (j - a) (by omega)] at this
  rw [hd i (by omega), hd j (by omega)]
  simpa [show a + (i - a) = i by omega, show a + (j - a) = j by omega] using this
 ·intro h i j h1 h2 h3
  rw [hlen] at h1 h2
  rw [hget i (by omega), hget j (by omega), ← hd, ← hd]
  exact h (a + i) (a + j) (by omega) (by omega) (by omega)
theorem seg_mem {l : List Pst} {a m : Nat} {x : Pst} (hm : m ≤ l.length) (h : x ∈ (l.drop a).take (m - a)) : ∃ i, a ≤ i ∧ i < m ∧ x.day = dayAt l i := by
 obtain ⟨i, hi, e⟩ := List.getElem_of_mem h
 have hlen : ((l.drop a).take (m - a)).length = m - a := by rw [List.length_take, List.length_drop]; omega
 rw [hlen] at hi
 refine ⟨a + i, by omega, by omega, ?_⟩
 rw [dayAt_eq (List.getElem?_eq_getElem (show a + i < l.length by omega)), ← e]; simp
theorem succ_w {n : Nat} (h : n ≤ 4000000) : IntKind.i64.wrap ((n : Int) + 1) = ((n + 1 : Nat) : Int) := by rw [w64_in (by omega) (by omega)]; rfl
theorem L_y25_eq (t : TypeId) (l : List Pst) (v a : Nat) (hl : l.length ≤ 1000000) (ha : a < l.length) (k s e : Nat) (hsk : s ≤ k) (hke : k ≤ e) (he : e ≤ l.length) (h1 : ∀ c, s ≤ c → c < k → dayAt l c < dayAt l a) (h2 : ∀ c, k ≤ c → c < e → ¬ dayAt l c < dayAt l a) :
  L_y25 ((l.length, (a : Int), (s : Int), (e : Int)), ((t, l), ()), v) = some ((l.length, (a : Int), (k : Int)), ((t, l), ()), v) := by
 refine lim_bin (step := st_y25) (fun i j => ((l.length, (a : Int), (i : Int), (j : Int)), ((t, l), ()), v)) (fun i => ((l.length, (a : Int), (i : Int)), ((t, l), ()), v)) k s e (fun i j hs hj hi hk hij => ?_) ?_ (e - s) s e (Nat.le_refl _) (Nat.le_refl _) (Nat.le_refl _) hsk hke
 ·rw [sl_y25]
  simp only [half_eq (show i + j ≤ 4000000 by omega), Int.toNat_natCast, succ_w (show (i + j) / 2 ≤ 4000000 by omega), decF_encF]
  refine br_t (decide_eq_true (by omega)) (chk_step (decide_eq_true (by omega)) (chk_step (decide_eq_true (by omega)) ?_))
  by_cases hc : (i + j) / 2 < k
  ·rw [if_pos hc]
   exact br_t (decide_eq_true ((cmp_at (by omega) ha).2 (h1 _ (by omega) hc))) rfl
  ·rw [if_neg hc]
   exact br_f (decide_eq_false (fun h => h2 _ (by omega) (by omega) ((cmp_at (by omega) ha).1 h))) rfl
 ·rw [sl_y25]
  simp only [decF_encF]
  exact br_f (decide_eq_false (by omega)) rfl
theorem L_y121_eq (t : TypeId) (l : List Pst) (v m : Nat) (hl : l.length ≤ 1000000) (hm : m < l.length) (k s e : Nat) (hsk : s ≤ k) (hke : k ≤ e) (he : e ≤ l.length) (h1 : ∀ c, s ≤ c → c < k → ¬ dayAt l m < dayAt l c) (h2 : ∀ c, k ≤ c → c < e → dayAt l m < dayAt l c) :
  L_y121 ((l.length, (m : Int), (s : Int), (e : Int)), ((t, l), ()), v) = some ((l.length, (m : Int), (k : Int)), ((t, l), ()), v) := by
 refine lim_bin (step := st_y121) (fun i j => ((l.length, (m : Int), (i : Int), (j : Int)), ((t, l), ()), v)) (fun i => ((l.length, (m : Int), (i : Int)), ((t, l), ()), v)) k s e (fun i j hs hj hi hk hij => ?_) ?_ (e - s) s e (Nat.le_refl _) (Nat.le_refl _) (Nat.le_refl _) hsk hke
 ·rw [sl_y121]
  simp only [half_eq (show i + j ≤ 4000000 by omega), Int.toNat_natCast, succ_w (show (i + j) / 2 ≤ 4000000 by omega), decF_encF]
  refine br_t (decide_eq_true (by omega)) (chk_step (decide_eq_true (by omega)) (chk_step (decide_eq_true (by omega)) ?_))
  by_cases hc : (i + j) / 2 < k
  ·rw [if_pos hc]
   exact br_t (by rw [Bool.not_eq_true']; exact decide_eq_false (fun h => h1 _ (by omega) hc ((cmp_at hm (by omega)).1 h))) rfl
  ·rw [if_neg hc]
   exact br_f (by rw [Bool.not_eq_false']; exact decide_eq_true ((cmp_at hm (by omega)).2 (h2 _ (by omega) (by omega)))) rfl
 ·rw [sl_y121]
  simp only [decF_encF]
  exact br_f (decide_eq_false (by omega)) rfl
theorem L_y265_eq (t : TypeId) (l : List Pst) (v : Nat) (a m b mid n : Int) (p : Nat) (hl : l.length ≤ 1000000) (k s e : Nat) (hsk : s ≤ k) (hke : k ≤ e) (he : e ≤ l.length) (hp : ∀ c, s ≤ c → c < e → c ≤ p ∧ p - c < l.length) (hp2 : p ≤ 4000000) (h1 : ∀ c, s ≤ c → c < k → ¬ dayAt l (p - c) < dayAt l c) (h2 : ∀ c, k ≤ c → c < e → dayAt l (p - c) < dayAt l c) :
  L_y265 ((l.length, a, m, b, mid, n, (s : Int), (e : Int), (p : Int)), ((t, l), ()), v) = some ((l.length, a, m, b, mid, n, (k : Int)), ((t, l), ()), v) := by
 refine lim_bin (step := st_y265) (fun i j => ((l.length, a, m, b, mid, n, (i : Int), (j : Int), (p : Int)), ((t, l), ()), v)) (fun i => ((l.length, a, m, b, mid, n, (i : Int)), ((t, l), ()), v)) k s e (fun i j hs hj hi hk hij => ?_) ?_ (e - s) s e (Nat.le_refl _) (Nat.le_refl _) (Nat.le_refl _) hsk hke
 ·rw [sl_y265]
  have hpc := hp ((i + j) / 2) (by omega) (by omega)
  have w1 : IntKind.i64.wrap ((p : Int) - (((i + j) / 2 : Nat) : Int)) = ((p - (i + j) / 2 : Nat) : Int) := by rw [w64_in (by omega) (by omega)]; omega
  simp only [half_eq (show i + j ≤ 4000000 by omega), Int.toNat_natCast, succ_w (show (i + j) / 2 ≤ 4000000 by omega), decF_encF, w1]
  refine br_t (decide_eq_true (by omega)) (chk_step (decide_eq_true (by omega)) (chk_step (decide_eq_true (by omega)) ?_))
  by_cases hc : (i + j) / 2 < k
  ·rw [if_pos hc]
   exact br_t (by rw [Bool.not_eq_true']; exact decide_eq_false (fun h => h1 _ (by omega) hc ((cmp_at hpc.2 (by omega)).1 h))) rfl
  ·rw [if_neg hc]
   exact br_f (by rw [Bool.not_eq_false']; exact decide_eq_true ((cmp_at hpc.2 (by omega)).2 (h2 _ (by omega) (by omega)))) rfl
 ·rw [sl_y265]
  simp only [decF_encF]
  exact br_f (decide_eq_false (by omega)) rfl
theorem swap_set {P Q : List Pst} {x y : Pst} : ((P ++ x :: y :: Q).set P.length y).set (P.length + 1) x = P ++ y :: x :: Q := by
 rw [set_mid]
 have h : P ++ y :: y :: Q = (P ++ [y]) ++ y :: Q := by simp
 rw [h, show P.length + 1 = (P ++ [y]).length by simp, set_mid]; simp
theorem L_y73_eq (t : TypeId) (N v i : Nat) (post : List Pst) (x : Pst) (hN : N ≤ 1000000) : ∀ (B pre : List Pst), N = pre.length + 1 + B.length + post.length → i = pre.length + 1 + B.length →
  L_y73 ((N, (i : Int), (pre.length : Int)), ((t, pre ++ (x :: (B ++ post))), ()), v) = some ((), ((t, pre ++ (B ++ x :: post)), ()), v)
 | [], pre, hNN, hi => by
  refine lim_done ?_
  rw [sl_y73]
  have w1 : IntKind.i64.wrap ((i : Int) - 1) = (pre.length : Int) := by simp only [List.length_nil] at hi; rw [w64_in (by omega) (by omega)]; omega
  simp only [w1, decF_encF]
  exact br_f (decide_eq_false (by omega)) rfl
 | y :: B, pre, hNN, hi => by
  simp only [List.length_cons] at hNN hi
  have g1 : (pre ++ (x :: (y :: B ++ post)))[pre.length]? = some x := get_mid
  have g2 : (pre ++ (x :: (y :: B ++ post)))[pre.length + 1]? = some y := get_mid2
  have g3 : ((pre ++ (x :: (y :: B ++ post))).set pre.length y).set (pre.length + 1) x = (pre ++ [y]) ++ (x :: (B ++ post)) := by
   rw [show (x :: (y :: B ++ post)) = x :: y :: (B ++ post) from rfl, swap_set]; simp
  have w1 : IntKind.i64.wrap ((i : Int) - 1) = ((i - 1 : Nat) : Int) := by rw [w64_in (by omega) (by omega)]; omega
  have w2 := succ_w (show pre.length ≤ 4000000 by omega)
  have ih := L_y73_eq t N v i post x hN B (pre ++ [y]) (by simp; omega) (by simp; omega)
  generalize hR : pre ++ (x :: (y :: B ++ post)) = R at g1 g2 g3 ⊢
  have hs : st_y73 ((N, (i : Int), (pre.length : Int)), ((t, R), ()), v) = some (.inl ((N, (i : Int), ((pre ++ [y]).length : Int)), ((t, (pre ++ [y]) ++ (x :: (B ++ post))), ()), v)) := by
   rw [sl_y73]
   simp only [w1, w2, Int.toNat_natCast, post_at g1, post_at g2, pw0, pw1, pw2, pw3, decF_setP, decF_encF]
   refine br_t (decide_eq_true (by omega)) (chk_step (decide_eq_true (by omega)) (chk_step (decide_eq_true (by omega)) (chk_step (decide_eq_true (by omega)) (chk_step (decide_eq_true (by omega)) ?_))))
   rw [← g3, List.length_append]; rfl
  refine (lim_step hs).trans (Eq.trans ih ?_)
  simp
theorem L_y169_eq (t : TypeId) (N v i : Nat) (pre post : List Pst) (y : Pst) (hN : N ≤ 1000000) (hi : i = pre.length) : ∀ (A C : List Pst), N = pre.length + A.length + 1 + C.length + post.length →
  L_y169 ((N, (i : Int), ((pre.length + A.length : Nat) : Int)), ((t, pre ++ (A.reverse ++ y :: (C ++ post))), ()), v) = some ((), ((t, pre ++ (y :: (A.reverse ++ (C ++ post)))), ()), v)
 | [], C, hNN => by
  refine lim_done ?_
  rw [sl_y169]
  simp only [decF_encF]
  exact br_f (decide_eq_false (by simp; omega)) rfl
 | x :: A, C, hNN => by
  simp only [List.length_cons] at hNN
  have e0 : pre ++ ((x :: A).reverse ++ y :: (C ++ post)) = (pre ++ A.reverse) ++ x :: y :: (C ++ post) := by simp
  have e1 : pre ++ (A.reverse ++ y :: (x :: C ++ post)) = (pre ++ A.reverse) ++ y :: x :: (C ++ post) := by simp
  have lP : (pre ++ A.reverse).length = pre.length + A.length := by simp
  have g1 : (pre ++ ((x :: A).reverse ++ y :: (C ++ post)))[pre.length + A.length]? = some x := by rw [e0, ← lP]; exact get_mid
  have g2 : (pre ++ ((x :: A).reverse ++ y :: (C ++ post)))[pre.length + A.length + 1]? = some y := by rw [e0, ← lP]; exact get_mid2
  have g3 : ((pre ++ ((x :: A).reverse ++ y :: (C ++ post))).set (pre.length + A.length + 1) x).set (pre.length + A.length) y = pre ++ (A.reverse ++ y :: (x :: C ++ post)) := by
   rw [e0, e1, ← lP, mid_swap]
  have w1 : IntKind.i64.wrap (((pre.length + (A.length + 1) : Nat) : Int) - 1) = ((pre.length + A.length : Nat) : Int) := by rw [w64_in (by omega) (by omega)]; omega
  have ih := L_y169_eq t N v i pre post y hN hi A (x :: C) (by simp; omega)
  generalize hR : pre ++ ((x :: A).reverse ++ y :: (C ++ post)) = R at g1 g2 g3 ⊢
  rw [show (x :: A).length = A.length + 1 from rfl]
  have g2' : R[pre.length + (A.length + 1)]? = some y := g2
  have hs : st_y169 ((N, (i : Int), ((pre.length + (A.length + 1) : Nat) : Int)), ((t, R), ()), v) = some (.inl ((N, (i : Int), ((pre.length + A.length : Nat) : Int)), ((t, pre ++ (A.reverse ++ y :: (x :: C ++ post))), ()), v)) := by
   rw [sl_y169]
   simp only [w1, Int.toNat_natCast, post_at g1, post_at g2', pw0, pw1, pw2, pw3, decF_setP, decF_encF]
   refine br_t (decide_eq_true (by omega)) (chk_step (decide_eq_true (by omega)) (chk_step (decide_eq_true (by omega)) (chk_step (decide_eq_true (by omega)) (chk_step (decide_eq_true (by omega)) ?_))))
   rw [← g3]; rfl
  refine (lim_step hs).trans (Eq.trans ih ?_)
  simp
end K
end Go.Proofs.YtelpdkojdfnmiaaGreat
/-! LS8 -/
namespace Go.Proofs.YtelpdkojdfnmiaaGreat
open Ev K
set_option maxRecDepth 100000
namespace K
def seg (l : List Pst) (i j : Nat) : List Pst := (l.drop i).take (j - i)
theorem seg_len {l : List Pst} {i j : Nat} (h : j ≤ l.length) : (seg l i j).length = j - i := by unfold seg; rw [List.length_take, List.length_drop]; omega
theorem drop_seg (l : List Pst) {i j : Nat} (h : i ≤ j) : l.drop i = seg l i j ++ l.drop j := by
 unfold seg
 have e : l.drop j = (l.drop i).drop (j - i) := by rw [List.drop_drop, show i + (j - i) = j by omega]
 rw [e, List.take_append_drop]
theorem seg_app (l : List Pst) {i j k : Nat} (h1 : i ≤ j) (h2 : j ≤ k) : seg l i k = seg l i j ++ seg l j k := by
 have e : (l.drop i).take (k - i) = (l.drop i).take (j - i) ++ ((l.drop i).drop (j - i)).take (k - j) := by
  rw [show k - i = (j - i) + (k - j) by omega, List.take_add]
 unfold seg
 rw [e, List.drop_drop, show i + (j - i) = j by omega]
theorem seg_same (l : List Pst) (i : Nat) : seg l i i = [] := by unfold seg; rw [Nat.sub_self]; rfl
theorem take_seg (l : List Pst) {i j : Nat} (h : i ≤ j) : l.take j = l.take i ++ seg l i j := by
 unfold seg
 rw [show j = i + (j - i) by omega, List.take_add, show i + (j - i) - i = j - i by omega]
theorem seg_one {l : List Pst} {i : Nat} (h : i < l.length) : seg l i (i + 1) = [l[i]] := by
 unfold seg
 rw [show i + 1 - i = 1 by omega, List.drop_eq_getElem_cons h]; rfl
theorem split4 (l : List Pst) {a m b : Nat} (h1 : a ≤ m) (h2 : m ≤ b) : l = l.take a ++ (seg l a m ++ (seg l m b ++ l.drop b)) := by
 rw [← drop_seg l h2, ← drop_seg l h1, List.take_append_drop]
theorem seg_mid (P X Q : List Pst) {i j : Nat} (hi : i = P.length) (hj : j = P.length + X.length) : seg (P ++ (X ++ Q)) i j = X := by
 subst hi; subst hj
 unfold seg
 rw [List.drop_left, show P.length + X.length - P.length = X.length by omega, List.take_left]
theorem sortSeg_mid (P X Q : List Pst) {i j : Nat} (hi : i = P.length) (hj : j = P.length + X.length) : sortSeg (P ++ (X ++ Q)) i j = P ++ (stB X ++ Q) := by
 have h := seg_mid P X Q hi hj
 unfold seg at h
 unfold sortSeg
 rw [h]
 subst hi; subst hj
 rw [List.take_left]
 have : (P ++ (X ++ Q)).drop (P.length + X.length) = Q := by rw [← List.drop_drop, List.drop_left, List.drop_left]
 rw [this]
theorem rotL_mid (P X Y Q : List Pst) {i j k : Nat} (hi : i = P.length) (hj : j = P.length + X.length) (hk : k = P.length + X.length + Y.length) : rotL (P ++ (X ++ (Y ++ Q))) i j k = P ++ (Y ++ (X ++ Q)) := by
 subst hi; subst hj; subst hk
 unfold rotL
 have d1 : (P ++ (X ++ (Y ++ Q))).drop P.length = X ++ (Y ++ Q) := List.drop_left
 have d2 : (P ++ (X ++ (Y ++ Q))).drop (P.length + X.length) = Y ++ Q := by rw [← List.drop_drop, d1]; exact List.drop_left
 have d3 : (P ++ (X ++ (Y ++ Q))).drop (P.length + X.length + Y.length) = Q := by rw [← List.drop_drop, d2]; exact List.drop_left
 rw [d1, d2, d3, List.take_left, show P.length + X.length + Y.length - (P.length + X.length) = Y.length by omega, List.take_left, show P.length + X.length - P.length = X.length by omega, List.take_left]
theorem stB_self {l : List Pst} (h : Sd l) : stB l = l := (stB_of (StEq.refl l) h).symm
theorem hdec {n : Nat} {l : List Pst} (h : l.length = n) : decF rPost n (encF rPost l) = l := by rw [← h, decF_encF]
noncomputable def thirdT (n : Nat) (t : TypeId) (X : List Pst) (mid en b : Nat) : T (TypeId × List Pst) := .br (decide ((mid : Int) < (en : Int))) (.br (decide ((en : Int) < (b : Int))) (.chk (symOk n X mid en b) (.ret (t, sortSeg X mid b))) (.ret (t, X))) (.ret (t, X))
noncomputable def tailT (n : Nat) (t : TypeId) (X : List Pst) (a k mid en b : Nat) : T (TypeId × List Pst) := .br (decide ((a : Int) < (k : Int))) (.br (decide ((k : Int) < (mid : Int))) (.chk (symOk n X a k mid) (thirdT n t (sortSeg X a mid) mid en b)) (thirdT n t X mid en b)) (thirdT n t X mid en b)
theorem symOk_iff {n : Nat} {l : List Pst} {a m b : Nat} : symOk n l a m b = true ↔ (a < m ∧ m < b ∧ b ≤ l.length ∧ l.length ≤ 1000000 ∧ b < n + a) ∧ Sd (seg l a m) ∧ Sd (seg l m b) := by
 unfold symOk
 rw [decide_eq_true_eq]
 simp only [Int.toNat_natCast]
 constructor
 ·rintro ⟨h1, h2, h3⟩; exact ⟨by omega, h2, h3⟩
 ·rintro ⟨h1, h2, h3⟩; exact ⟨by omega, h2, h3⟩
theorem third_eq {n : Nat} (t : TypeId) (P A B Q : List Pst) {mid en b : Nat} (h1 : mid = P.length) (h2 : en = mid + A.length) (h3 : b = en + B.length) (hA : Sd A) (hB : Sd B) (hn : b < n + mid) (hl : P.length + A.length + B.length + Q.length ≤ 1000000) :
  (thirdT n t (P ++ ((A ++ B) ++ Q)) mid en b).run = some (t, P ++ (stB (A ++ B) ++ Q)) := by
 unfold thirdT
 by_cases hA0 : A = []
 ·subst hA0
  simp only [List.length_nil] at h2
  rw [List.nil_append, stB_self hB]
  exact br_f (decide_eq_false (by omega)) rfl
 have hA1 : 1 ≤ A.length := by cases A with
  | nil => exact absurd rfl hA0
  | cons x A => simp
 refine br_t (decide_eq_true (by omega)) ?_
 by_cases hB0 : B = []
 ·subst hB0
  simp only [List.length_nil] at h3
  rw [List.append_nil, stB_self hA]
  exact br_f (decide_eq_false (by omega)) rfl
 have hB1 : 1 ≤ B.length := by cases B with
  | nil => exact absurd rfl hB0
  | cons x B => simp
 refine br_t (decide_eq_true (by omega)) (chk_step (symOk_iff.2 ⟨⟨by omega, by omega, by simp; omega, by simp; omega, hn⟩, ?_, ?_⟩) ?_)
 ·rw [List.append_assoc, seg_mid P A (B ++ Q) h1 (by omega)]; exact hA
 ·have e : P ++ ((A ++ B) ++ Q) = (P ++ A) ++ (B ++ Q) := by simp
  rw [e, seg_mid (P ++ A) B Q (by simp; omega) (by simp; omega)]; exact hB
 ·rw [sortSeg_mid P (A ++ B) Q h1 (by simp; omega)]; rfl
theorem tail_eq {n : Nat} (t : TypeId) (P A1 B1 A2 B2 Q : List Pst) {a k mid en b : Nat} (h1 : a = P.length) (h2 : k = a + A1.length) (h3 : mid = k + B1.length) (h4 : en = mid + A2.length) (h5 : b = en + B2.length) (s1 : Sd A1) (s2 : Sd B1) (s3 : Sd A2) (s4 : Sd B2) (hn : b < n + mid) (hn2 : mid < n + a) (hl : P.length + A1.length + B1.length + A2.length + B2.length + Q.length ≤ 1000000) :
  (tailT n t (P ++ ((A1 ++ B1) ++ ((A2 ++ B2) ++ Q))) a k mid en b).run = some (t, P ++ (stB (A1 ++ B1) ++ (stB (A2 ++ B2) ++ Q))) := by
 have hthird : (thirdT n t (P ++ (stB (A1 ++ B1) ++ ((A2 ++ B2) ++ Q))) mid en b).run = some (t, P ++ (stB (A1 ++ B1) ++ (stB (A2 ++ B2) ++ Q))) := by
  have := third_eq (n := n) t (P ++ stB (A1 ++ B1)) A2 B2 Q (mid := mid) (en := en) (b := b) (by rw [List.length_append, stB_len, List.length_append]; omega) h4 h5 s3 s4 hn (by rw [List.length_append, stB_len, List.length_append]; omega)
  simpa only [List.append_assoc] using this
 unfold tailT
 by_cases hA0 : A1 = []
 ·subst hA0
  simp only [List.length_nil] at h2
  rw [List.nil_append, stB_self s2] at *
  exact br_f (decide_eq_false (by omega)) hthird
 have hA1 : 1 ≤ A1.length := by cases A1 with
  | nil => exact absurd rfl hA0
  | cons x A => simp
 refine br_t (decide_eq_true (by omega)) ?_
 by_cases hB0 : B1 = []
 ·subst hB0
  simp only [List.length_nil] at h3
  rw [List.append_nil, stB_self s1] at *
  exact br_f (decide_eq_false (by omega)) hthird
 have hB1 : 1 ≤ B1.length := by cases B1 with
  | nil => exact absurd rfl hB0
  | cons x B => simp
 refine br_t (decide_eq_true (by omega)) (chk_step (symOk_iff.2 ⟨⟨by omega, by omega, by simp; omega, by simp; omega, hn2⟩, ?_, ?_⟩) ?_)
 ·rw [List.append_assoc, seg_mid P A1 _ h1 (by omega)]; exact s1
 ·have e : P ++ ((A1 ++ B1) ++ ((A2 ++ B2) ++ Q)) = (P ++ A1) ++ (B1 ++ ((A2 ++ B2) ++ Q)) := by simp
  rw [e, seg_mid (P ++ A1) B1 _ (by simp; omega) (by simp; omega)]; exact s2
 ·rw [sortSeg_mid P (A1 ++ B1) _ h1 (by simp; omega)]; exact hthird
end K
end Go.Proofs.YtelpdkojdfnmiaaGreat
/-! LS9 -/
namespace Go.Proofs.YtelpdkojdfnmiaaGreat
open Ev K
set_option maxRecDepth 100000
namespace K
theorem seg_sd {l : List Pst} {a m : Nat} (hm : m ≤ l.length) : Sd (seg l a m) ↔ ∀ i j, a ≤ i → i < j → j < m → dayAt l i ≤ dayAt l j := sd_idx hm
theorem seg_sub {l : List Pst} {a m i j : Nat} (hm : m ≤ l.length) (h : Sd (seg l a m)) (h1 : a ≤ i) (h2 : j ≤ m) : Sd (seg l i j) := by
 rw [seg_sd (by omega)]
 exact fun x y h3 h4 h5 => (seg_sd hm).1 h x y (by omega) h4 (by omega)
theorem seg_day {l : List Pst} {a m : Nat} {x : Pst} (hm : m ≤ l.length) (h : x ∈ seg l a m) : ∃ i, a ≤ i ∧ i < m ∧ x.day = dayAt l i := seg_mem hm h
theorem day_le {l : List Pst} {a m i j : Nat} (hm : m ≤ l.length) (h : Sd (seg l a m)) (h1 : a ≤ i) (h2 : i ≤ j) (h3 : j < m) : dayAt l i ≤ dayAt l j := by
 rcases Nat.lt_or_eq_of_le h2 with h2 | h2
 ·exact (seg_sd hm).1 h i j h1 h2 h3
 ·subst h2; exact Int.le_refl _
set_option maxHeartbeats 0 in
theorem sym_turn (n : Nat) (t : TypeId) (l : List Pst) (a m b : Nat) (h : symOk (n + 1) l a m b = true) : t_sym (n, t, l, (a : Int), (m : Int), (b : Int)) = some (t, sortSeg l a b) := by
 obtain ⟨⟨h1, h2, h3, h4, h5⟩, hA, hB⟩ := symOk_iff.1 h
 rw [fn_sym]
 simp only [decF_encF]
 have hgoal : sortSeg l a b = l.take a ++ (stB (seg l a m ++ seg l m b) ++ l.drop b) := by
  rw [← seg_app l (by omega) (by omega)]; rfl
 rw [hgoal]
 have w1 : IntKind.i64.wrap ((m : Int) - (a : Int)) = ((m - a : Nat) : Int) := by rw [w64_in (by omega) (by omega)]; omega
 have w2 : IntKind.i64.wrap ((b : Int) - (m : Int)) = ((b - m : Nat) : Int) := by rw [w64_in (by omega) (by omega)]; omega
 rw [w1, w2]
 by_cases c1 : m - a = 1
 ·refine br_t (by rw [beq_iff_eq]; omega) ?_
  have hma : m = a + 1 := by omega
  obtain ⟨k, k1, k2, k3, k4⟩ := cut_exists (Q := fun c => dayAt l c < dayAt l a) m (b - m) (fun c h6 h7 h8 => by have := day_le (by omega) hB h6 (show c ≤ c + 1 by omega) (by omega); exact Int.lt_of_le_of_lt this h8)
  have key := L_y25_eq t l l.length a h4 (by omega) k m b k1 (by omega) h3 k3 (fun c h6 h7 => k4 c h6 (by omega))
  refine obs_step key ?_
  have ha := seg_one (l := l) (i := a) (by omega)
  rw [← hma] at ha
  have hsp : l = l.take a ++ (l[a] :: (seg l m k ++ l.drop k)) := by
   have := split4 l (a := a) (m := m) (b := k) (by omega) k1
   rw [ha] at this; exact this
  have hday : dayAt l a = (l[a]).day := dayAt_eq (List.getElem?_eq_getElem (by omega))
  generalize l[a] = x at ha hsp hday
  have lt : (l.take a).length = a := by rw [List.length_take]; omega
  have ls : (seg l m k).length = k - m := seg_len (by omega)
  have ld : (l.drop k).length = l.length - k := List.length_drop
  have k73 := L_y73_eq t l.length l.length k (l.drop k) x h4 (seg l m k) (l.take a) (by omega) (by omega)
  rw [← hsp, lt] at k73
  simp only
  refine obs_step k73 ?_
  have hlen : (l.take a ++ (seg l m k ++ x :: l.drop k)).length = l.length := by rw [List.length_append, List.length_append, List.length_cons]; omega
  simp only [hdec hlen]
  show some (t, _) = _
  rw [drop_seg l (show k ≤ b by omega), ha]
  have hB1 : Sd (seg l m k) := seg_sub h3 hB (Nat.le_refl _) (by omega)
  have hB2 : Sd (seg l k b) := seg_sub h3 hB k1 (Nat.le_refl _)
  have hmg := st_merge (A1 := []) (A2 := [x]) (B1 := seg l m k) (B2 := seg l k b) (R1 := seg l m k) (R2 := [x] ++ seg l k b) (by simpa using sd_one x) (by rw [← seg_app l k1 (by omega)]; exact hB) (fun _ h => by cases h)
   (fun y hy z hz => by
    simp only [List.mem_singleton] at hy; subst hy
    obtain ⟨i, i1, i2, i3⟩ := seg_day (by omega) hz
    rw [i3, ← hday]; exact k3 i i1 i2)
   (StEq.refl _) hB1 (StEq.refl _) (sd_app.2 ⟨sd_one x, hB2, fun y hy z hz => by
    simp only [List.mem_singleton] at hy; subst hy
    obtain ⟨i, i1, i2, i3⟩ := seg_day (by omega) hz
    have := k4 i i1 (by omega)
    rw [i3, ← hday]; omega⟩)
  have e := stB_of hmg.2 hmg.1
  rw [List.nil_append, ← seg_app l k1 (show k ≤ b by omega)] at e
  rw [← e]; simp
 refine br_f (by rw [beq_eq_false_iff_ne]; omega) ?_
 by_cases c2 : b - m = 1
 ·refine br_t (by rw [beq_iff_eq]; omega) ?_
  have hbm : b = m + 1 := by omega
  obtain ⟨k, k1, k2, k3, k4⟩ := cut_exists (Q := fun c => ¬ dayAt l m < dayAt l c) a (m - a) (fun c h6 h7 h8 => by have := day_le (by omega) hA h6 (show c ≤ c + 1 by omega) (by omega); omega)
  have key := L_y121_eq t l l.length m h4 (by omega) k a m k1 (by omega) (by omega) k3 (fun c h6 h7 => Classical.byContradiction (k4 c h6 (by omega)))
  refine obs_step key ?_
  have hmm := seg_one (l := l) (i := m) (by omega)
  rw [← hbm] at hmm
  have hday : dayAt l m = (l[m]).day := dayAt_eq (List.getElem?_eq_getElem (by omega))
  have hsp : l = l.take k ++ (seg l k m ++ (seg l m b ++ l.drop b)) := split4 l (by omega) (by omega)
  rw [hmm] at hsp
  generalize l[m] = y at hmm hsp hday
  have lt : (l.take k).length = k := by rw [List.length_take]; omega
  have ls : (seg l k m).length = m - k := seg_len (by omega)
  have ld : (l.drop b).length = l.length - b := List.length_drop
  have k169 := L_y169_eq t l.length l.length k (l.take k) (l.drop b) y h4 lt.symm (seg l k m).reverse [] (by rw [List.length_reverse, List.length_nil]; omega)
  rw [List.reverse_reverse, List.nil_append, List.length_reverse, ls, lt, show k + (m - k) = m by omega] at k169
  rw [show l.take k ++ (seg l k m ++ y :: l.drop b) = l from hsp.symm] at k169
  simp only
  refine obs_step k169 ?_
  have hlen : (l.take k ++ (y :: (seg l k m ++ l.drop b))).length = l.length := by rw [List.length_append, List.length_cons, List.length_append]; omega
  simp only [hdec hlen]
  show some (t, _) = _
  rw [take_seg l k1, hmm]
  have hA1 : Sd (seg l a k) := seg_sub (by omega) hA (Nat.le_refl _) (by omega)
  have hA2 : Sd (seg l k m) := seg_sub (by omega) hA k1 (Nat.le_refl _)
  have hmg := st_merge (A1 := seg l a k) (A2 := seg l k m) (B1 := [y]) (B2 := []) (R1 := seg l a k ++ [y]) (R2 := seg l k m) (by rw [← seg_app l k1 (by omega)]; exact hA) (by simpa using sd_one y) (fun _ _ _ h => by cases h)
   (fun x hx z hz => by
    simp only [List.mem_singleton] at hz; subst hz
    obtain ⟨i, i1, i2, i3⟩ := seg_day (by omega) hx
    have := k4 i i1 (by omega)
    rw [i3, ← hday]; omega)
   (StEq.refl _) (sd_app.2 ⟨hA1, sd_one y, fun x hx z hz => by
    simp only [List.mem_singleton] at hz; subst hz
    obtain ⟨i, i1, i2, i3⟩ := seg_day (by omega) hx
    have := k3 i i1 i2
    rw [i3, ← hday]; omega⟩) (by rw [List.append_nil]; exact StEq.refl _) hA2
  have e := stB_of hmg.2 hmg.1
  rw [List.append_nil, ← seg_app l k1 (show k ≤ m by omega)] at e
  rw [← e]; simp
 refine br_f (by rw [beq_eq_false_iff_ne]; omega) ?_
 have hh := half_eq (i := a) (j := b) (by omega)
 generalize hmid : (a + b) / 2 = mid at hh
 have hm1 : a + 1 ≤ mid := by omega
 have hm2 : mid + 1 ≤ b := by omega
 have w3 : IntKind.i64.wrap ((mid : Int) + (m : Int)) = ((mid + m : Nat) : Int) := by rw [w64_in (by omega) (by omega)]; rfl
 have w4 : IntKind.i64.wrap (((mid + m : Nat) : Int) - 1) = ((mid + m - 1 : Nat) : Int) := by rw [w64_in (by omega) (by omega)]; omega
 have key : ∃ s e : Nat, (s = if m > mid then mid + m - b else a) ∧ (e = if m > mid then mid else m) ∧ a ≤ s ∧ s ≤ e ∧ e ≤ m ∧ e ≤ mid ∧ mid + m ≤ s + b ∧ (s = a ∨ s + b = mid + m) ∧ (e = m ∨ e = mid) := by
  by_cases hgt : m > mid
  ·exact ⟨mid + m - b, mid, by rw [if_pos hgt], by rw [if_pos hgt], by omega, by omega, by omega, by omega, by omega, .inr (by omega), .inr rfl⟩
  ·exact ⟨a, m, by rw [if_neg hgt], by rw [if_neg hgt], by omega, by omega, by omega, by omega, by omega, .inl rfl, .inl rfl⟩
 obtain ⟨s, e, hs, he, b1, b2, b3, b4, b5, b6, b7⟩ := key
 obtain ⟨k, k1, k2, k3, k4⟩ := cut_exists (Q := fun c => ¬ dayAt l (mid + m - 1 - c) < dayAt l c) s (e - s) (fun c h6 h7 h8 => by
  have e1 := day_le (i := c) (j := c + 1) (by omega) hA (by omega) (by omega) (by omega)
  have e2 := day_le (i := mid + m - 1 - (c + 1)) (j := mid + m - 1 - c) h3 hB (by omega) (by omega) (by omega)
  omega)
 have key := L_y265_eq t l l.length (a : Int) (m : Int) (b : Int) (mid : Int) ((mid + m : Nat) : Int) (mid + m - 1) h4 k s e k1 (by omega) (by omega) (fun c h6 h7 => by omega) (by omega) k3 (fun c h6 h7 => Classical.byContradiction (k4 c h6 (by omega)))
 obtain ⟨en, hen⟩ : ∃ en, en = mid + m - k := ⟨_, rfl⟩
 have w5 : IntKind.i64.wrap (((mid + m : Nat) : Int) - (k : Int)) = (en : Int) := by rw [w64_in (by omega) (by omega)]; omega
 have hsp : l = l.take a ++ ((seg l a k ++ seg l k m) ++ ((seg l m en ++ seg l en b) ++ l.drop b)) := by
  rw [← seg_app l (show a ≤ k by omega) (show k ≤ m by omega), ← seg_app l (show m ≤ en by omega) (show en ≤ b by omega)]
  exact split4 l (by omega) (by omega)
 have sA1 : Sd (seg l a k) := seg_sub (by omega) hA (Nat.le_refl _) (by omega)
 have sA2 : Sd (seg l k m) := seg_sub (by omega) hA (by omega) (Nat.le_refl _)
 have sB1 : Sd (seg l m en) := seg_sub h3 hB (Nat.le_refl _) (by omega)
 have sB2 : Sd (seg l en b) := seg_sub h3 hB (by omega) (Nat.le_refl _)
 have lt : (l.take a).length = a := by rw [List.length_take]; omega
 have l1 : (seg l a k).length = k - a := seg_len (by omega)
 have l2 : (seg l k m).length = m - k := seg_len (by omega)
 have l3 : (seg l m en).length = en - m := seg_len (by omega)
 have l4 : (seg l en b).length = b - en := seg_len (by omega)
 have l5 : (l.drop b).length = l.length - b := List.length_drop
 have htail := tail_eq (n := n) t (l.take a) (seg l a k) (seg l m en) (seg l k m) (seg l en b) (l.drop b) (a := a) (k := k) (mid := mid) (en := en) (b := b) (by omega) (by omega) (by omega) (by omega) (by omega) sA1 sB1 sA2 sB2 (by omega) (by omega) (by omega)
 have hmg := st_merge (A1 := seg l a k) (A2 := seg l k m) (B1 := seg l m en) (B2 := seg l en b) (R1 := stB (seg l a k ++ seg l m en)) (R2 := stB (seg l k m ++ seg l en b)) (by rw [← seg_app l (by omega) (by omega)]; exact hA) (by rw [← seg_app l (by omega) (by omega)]; exact hB)
  (fun x hx y hy => by
   obtain ⟨i, i1, i2, i3⟩ := seg_day (by omega) hx
   obtain ⟨j, j1, j2, j3⟩ := seg_day h3 hy
   rw [i3, j3]
   by_cases hks : k = s
   ·exfalso; omega
   ·have q := k3 (k - 1) (by omega) (by omega)
    rw [show mid + m - 1 - (k - 1) = en by omega] at q
    have q1 := day_le (i := i) (j := k - 1) (by omega) hA i1 (by omega) (by omega)
    have q2 := day_le (i := en) (j := j) h3 hB (by omega) j1 j2
    omega)
  (fun x hx y hy => by
   obtain ⟨i, i1, i2, i3⟩ := seg_day (by omega) hx
   obtain ⟨j, j1, j2, j3⟩ := seg_day (by omega) hy
   rw [i3, j3]
   have q := Classical.byContradiction (k4 k (Nat.le_refl _) (by omega))
   have q1 := day_le (i := k) (j := i) (by omega) hA (by omega) i1 i2
   have q2 := day_le (i := j) (j := mid + m - 1 - k) h3 hB j1 (by omega) (by omega)
   omega)
  (stB_eq _) (stB_sd _) (stB_eq _) (stB_sd _)
 have hfin : stB (seg l a m ++ seg l m b) = stB (seg l a k ++ seg l m en) ++ stB (seg l k m ++ seg l en b) := by
  rw [seg_app l (show a ≤ k by omega) (show k ≤ m by omega), seg_app l (show m ≤ en by omega) (show en ≤ b by omega)]
  exact (stB_of hmg.2 hmg.1).symm
 rw [hfin]
 generalize hX : l.take a ++ ((seg l a k ++ seg l m en) ++ ((seg l k m ++ seg l en b) ++ l.drop b)) = X at htail
 have hXl : X.length = l.length := by rw [← hX]; simp only [List.length_append]; omega
 have hlenS : ∀ (Y : List Pst) (i j : Nat), Y.length = l.length → i ≤ j → j ≤ l.length → (sortSeg Y i j).length = l.length := fun Y i j hY hij hj => by
  unfold sortSeg; simp only [List.length_append, stB_len, List.length_take, List.length_drop]; omega
 have d1 := hdec (hlenS X a mid hXl (by omega) (by omega))
 have d2 := hdec (hlenS X mid b hXl (by omega) (by omega))
 have d3 := hdec (hlenS (sortSeg X a mid) mid b (hlenS X a mid hXl (by omega) (by omega)) (by omega) (by omega))
 have hres : ∀ {u : T (TypeId × List Pst)}, u = tailT n t X a k mid en b → u.run = some (t, l.take a ++ (stB (seg l a k ++ seg l m en) ++ stB (seg l k m ++ seg l en b) ++ l.drop b)) := fun {u} hu => by
  rw [hu, htail, List.append_assoc]
 have hrot : k < m → m < en → rotL l k m en = X := fun r1 r2 => by
  have := rotL_mid (l.take a ++ seg l a k) (seg l k m) (seg l m en) (seg l en b ++ l.drop b) (i := k) (j := m) (k := en) (by rw [List.length_append]; omega) (by rw [List.length_append]; omega) (by rw [List.length_append]; omega)
  have e1 : (l.take a ++ seg l a k) ++ (seg l k m ++ (seg l m en ++ (seg l en b ++ l.drop b))) = l := Eq.trans (by simp only [List.append_assoc]) hsp.symm
  rw [e1] at this
  rw [this, ← hX]; simp
 have hsame : ¬ (k < m ∧ m < en) → l = X := fun r => by
  rw [← hX]
  refine hsp.trans ?_
  by_cases r1 : k < m
  ·have r2 : seg l m en = [] := by rw [show en = m by omega]; exact seg_same l m
   rw [r2]; simp only [List.append_assoc, List.append_nil, List.nil_append]
  ·have r2 : seg l k m = [] := by rw [show k = m by omega]; exact seg_same l m
   rw [r2]; simp only [List.append_assoc, List.append_nil, List.nil_append]
 by_cases hgt : m > mid
 ·rw [if_pos hgt] at hs he
  have w6 : IntKind.i64.wrap (((mid + m : Nat) : Int) - (b : Int)) = (s : Int) := by rw [w64_in (by omega) (by omega)]; omega
  simp only [hh, w3, w4, w6]
  refine br_t (decide_eq_true (by omega)) ?_
  rw [show (mid : Int) = (e : Int) by omega] at key ⊢
  refine obs_step key ?_
  rw [show (e : Int) = (mid : Int) by omega]
  simp only [decF_encF, w5, Int.toNat_natCast]
  by_cases r : k < m ∧ m < en
  ·refine br_t (decide_eq_true (by omega)) (br_t (decide_eq_true (by omega)) (chk_step (decide_eq_true (by omega)) ?_))
   rw [hrot r.1 r.2]
   simp only [hdec hXl, d1, d2, d3]
   exact hres rfl
  ·have hl := hsame r
   rw [← hl] at d1 d2 d3
   simp only [d1, d2, d3]
   rw [← hl] at hres
   by_cases r1 : k < m
   ·exact br_t (decide_eq_true (by omega)) (br_f (decide_eq_false (by omega)) (hres rfl))
   ·exact br_f (decide_eq_false (by omega)) (hres rfl)
 ·rw [if_neg hgt] at hs he
  simp only [hh, w3, w4]
  refine br_f (decide_eq_false (by omega)) ?_
  subst hs; subst he
  refine obs_step key ?_
  simp only [decF_encF, w5, Int.toNat_natCast]
  by_cases r : k < e ∧ e < en
  ·refine br_t (decide_eq_true (by omega)) (br_t (decide_eq_true (by omega)) (chk_step (decide_eq_true (by omega)) ?_))
   rw [hrot r.1 r.2]
   simp only [hdec hXl, d1, d2, d3]
   exact hres rfl
  ·have hl := hsame r
   rw [← hl] at d1 d2 d3
   simp only [d1, d2, d3]
   rw [← hl] at hres
   by_cases r1 : k < e
   ·exact br_t (decide_eq_true (by omega)) (br_f (decide_eq_false (by omega)) (hres rfl))
   ·exact br_f (decide_eq_false (by omega)) (hres rfl)
end K
end Go.Proofs.YtelpdkojdfnmiaaGreat
/-! LSa -/
namespace Go.Proofs.YtelpdkojdfnmiaaGreat
open Ev K
set_option maxRecDepth 100000
namespace K
theorem sym_mc : ∀ (n : Nat) (l : List Pst) (a : Int × Int × Int) (l' : List Pst), (M_sym n (l, a)).run = some l' → MC P fSym rPost.wd l.length ⟨rPost.tags, encF rPost l⟩ ⟨rPost.tags, encF rPost l'⟩ (D_sw.enc a)
 | 0, l, (x, y, z), l', h => by
  obtain ⟨g, e⟩ := chk_ret h
  exfalso
  unfold symOk at g
  have g := of_decide_eq_true g
  simp only at g
  omega
 | n + 1, l, (x, y, z), l', h => by
  obtain ⟨g, e⟩ := chk_ret h
  subst e
  have g' := of_decide_eq_true g
  simp only at g g'
  obtain ⟨a, rfl⟩ : ∃ a : Nat, x = a := ⟨x.toNat, by omega⟩
  obtain ⟨m, rfl⟩ : ∃ m : Nat, y = m := ⟨y.toNat, by omega⟩
  obtain ⟨b, rfl⟩ : ∃ b : Nat, z = b := ⟨z.toNat, by omega⟩
  exact turn_of (d := 30) okP (TabOk.addTurn tLS65 (turnE_cc (sym_mc n))) fun t => sym_turn n t l a m b g
end K
noncomputable def BLSay : Tab := BSy 1000000
theorem tLSay : TabOk P BLSay := TabOk.addTurn tLS65 (turnE_cc (K.sym_mc 1000000))
end Go.Proofs.YtelpdkojdfnmiaaGreat
/-! LSb -/
namespace Go.Proofs.YtelpdkojdfnmiaaGreat
open Ev K
set_option maxRecDepth 100000
noncomputable abbrev K.fSt : FuncId := 105
def S_s17 := DecS.rnd (.cons (dO 0) (.cons dInt (.unit F_cmpD (.skips 3 (.cons dInt (.cons dInt (.last dInt 54))))))) O_pT V_own
def X_s17 := DecX.one (.exit 0) [0, 7, 1, 2, 6] (DecS.rnd (.cons (dO 0) (.cons dInt (.unit F_cmpD (.skips 3 (.cons dInt (.last dInt 55)))))) O_pT V_own)
noncomputable def K.st_s17 := loopT1 P BLSay 30 fSt 17 [6, 8, 2, 7, 0, 1] S_s17 X_s17
theorem sl_s17 : ∀ s, (K.st_s17) s = T.run (
 .br (decide (s.1.2.2.2.2 ≤ s.1.2.1)) (
  .chk (decide ((0 : Int) ≤ s.1.2.2.2.1 ∧ s.1.2.2.2.1 ≤ s.1.2.2.2.2 ∧ s.1.2.2.2.2 ≤ (↑(List.length (decF rPost (List.length s.2.1.1.2) (encF rPost s.2.1.1.2))) : Int) ∧ List.length (decF rPost (List.length s.2.1.1.2) (encF rPost s.2.1.1.2)) ≤ (1000000 : Nat))) <|
  .ret (Sum.inl ((s.1.1, s.1.2.1, s.1.2.2.1, s.1.2.2.2.2, IntKind.wrap IntKind.i64 (s.1.2.2.2.2 + s.1.2.2.1)), ((s.2.1.1.1, decF rPost (List.length s.2.1.1.2) (encF rPost (sortSeg (decF rPost (List.length s.2.1.1.2) (encF rPost s.2.1.1.2)) (Int.toNat s.1.2.2.2.1) (Int.toNat s.1.2.2.2.2)))), PUnit.unit), s.2.2))) (
  .ret (Sum.inr ((s.1.1, s.1.2.1, s.1.2.2.1, s.1.2.2.2.1), ((s.2.1.1.1, decF rPost (List.length s.2.1.1.2) (encF rPost s.2.1.1.2)), PUnit.unit), s.2.2)))) := fun s => by kernel_rfl
noncomputable def K.L_s17 := lim K.st_s17
noncomputable def BLSb1 : Tab := BLSay.addNode 105 17 (nodeE [6, 8, 2, 7, 0, 1] S_s17 X_s17 (fun s => .obs (K.L_s17 s) .ret))
theorem tLSb1 : TabOk P BLSb1 := TabOk.addLoop (d := 30) okP tLSay (by kernel_rfl) (by kernel_rfl) (fun s r h => obs_ret h)
def X_s73 := DecX.one (.exit 4) [0, 7, 1, 2, 6] (DecS.rnd (.cons (dO 0) (.cons dInt (.unit F_cmpD (.skips 3 (.cons dInt (.last dInt 55)))))) O_pT V_own)
noncomputable def K.st_s73 := loopT1 P BLSb1 30 fSt 73 [6, 8, 2, 7, 0, 1] S_s17 X_s73
theorem sl_s73 : ∀ s, (K.st_s73) s = T.run (
 .br (decide (s.1.2.2.2.2 ≤ s.1.2.1)) (
  .chk (symOk (1000000 : Nat) (decF rPost (List.length s.2.1.1.2) (encF rPost s.2.1.1.2)) s.1.2.2.2.1 (IntKind.wrap IntKind.i64 (s.1.2.2.2.1 + s.1.2.2.1)) s.1.2.2.2.2) <|
  .ret (Sum.inl ((s.1.1, s.1.2.1, s.1.2.2.1, s.1.2.2.2.2, IntKind.wrap IntKind.i64 (s.1.2.2.2.2 + IntKind.wrap IntKind.i64 ((2 : Int) * s.1.2.2.1))), ((s.2.1.1.1, decF rPost (List.length s.2.1.1.2) (encF rPost (sortSeg (decF rPost (List.length s.2.1.1.2) (encF rPost s.2.1.1.2)) (Int.toNat s.1.2.2.2.1) (Int.toNat s.1.2.2.2.2)))), PUnit.unit), s.2.2))) (
  .ret (Sum.inr ((s.1.1, s.1.2.1, s.1.2.2.1, s.1.2.2.2.1), ((s.2.1.1.1, decF rPost (List.length s.2.1.1.2) (encF rPost s.2.1.1.2)), PUnit.unit), s.2.2)))) := fun s => by kernel_rfl
noncomputable def K.L_s73 := lim K.st_s73
noncomputable def BLSb2 : Tab := BLSb1.addNode 105 73 (nodeE [6, 8, 2, 7, 0, 1] S_s17 X_s73 (fun s => .obs (K.L_s73 s) .ret))
theorem tLSb2 : TabOk P BLSb2 := TabOk.addLoop (d := 30) okP tLSb1 (by kernel_rfl) (by kernel_rfl) (fun s r h => obs_ret h)
def S_s57 := DecS.rnd (.cons (dO 0) (.cons dInt (.unit F_cmpD (.skips 3 (.last dInt 56))))) O_pT V_own
def X_s57 := DecX.one (.exit 2) [] (DecS.rnd (.tops 63) O_pT V_own)
noncomputable def K.st_s57 := loopT1 P BLSb2 30 fSt 57 [6, 2, 0, 1] S_s57 X_s57
theorem sl_s57 : ∀ s, (K.st_s57) s = T.run (
 let q1 := ((s.2.1.1.1, decF rPost (List.length s.2.1.1.2) (encF rPost s.2.1.1.2)), PUnit.unit);
 .br (decide (s.1.2.2 < s.1.2.1)) (
  .obs (L_s73 ((s.1.1, s.1.2.1, s.1.2.2, (0 : Int), IntKind.wrap IntKind.i64 ((2 : Int) * s.1.2.2)), q1, s.2.2)) fun x0 =>
 let q2 := (x0.1.1, x0.1.2.1, IntKind.wrap IntKind.i64 (x0.1.2.2.1 * (2 : Int)));
 let q3 := List.length x0.2.1.1.2;
 let q4 := encF rPost x0.2.1.1.2;
   .br (decide (IntKind.wrap IntKind.i64 (x0.1.2.2.2 + x0.1.2.2.1) < x0.1.2.1)) (
    .chk (symOk (1000000 : Nat) (decF rPost q3 q4) x0.1.2.2.2 (IntKind.wrap IntKind.i64 (x0.1.2.2.2 + x0.1.2.2.1)) x0.1.2.1) <|
    .ret (Sum.inl (q2, ((x0.2.1.1.1, decF rPost q3 (encF rPost (sortSeg (decF rPost q3 q4) (Int.toNat x0.1.2.2.2) (Int.toNat x0.1.2.1)))), PUnit.unit), x0.2.2))) (
    .ret (Sum.inl (q2, ((x0.2.1.1.1, decF rPost q3 q4), PUnit.unit), x0.2.2)))) (
  .ret (Sum.inr (PUnit.unit, q1, s.2.2)))) := fun s => by kernel_rfl
noncomputable def K.L_s57 := lim K.st_s57
noncomputable def BLSb3 : Tab := BLSb2.addNode 105 57 (nodeE [6, 2, 0, 1] S_s57 X_s57 (fun s => .obs (K.L_s57 s) .ret))
theorem tLSb3 : TabOk P BLSb3 := TabOk.addLoop (d := 30) okP tLSb2 (by kernel_rfl) (by kernel_rfl) (fun s r h => obs_ret h)
def D_st : DecL Int := (DecL.cons dInt (.unit F_cmpD (.tops 0))).iso (fun p => p.1) (fun p => (p, ())) (fun _ => rfl)
theorem fn_st : ∀ a, (turnT1 P BLSb3 30 fSt D_st rPost) a = T.run (
 .obs (L_s17 ((List.length a.2.1, a.2.2, (20 : Int), (0 : Int), (20 : Int)), ((a.1, decF rPost (List.length a.2.1) (encF rPost a.2.1)), PUnit.unit), List.length a.2.1)) fun x0 =>
  .chk (decide ((0 : Int) ≤ x0.1.2.2.2 ∧ x0.1.2.2.2 ≤ x0.1.2.1 ∧ x0.1.2.1 ≤ (↑(List.length (decF rPost (List.length x0.2.1.1.2) (encF rPost x0.2.1.1.2))) : Int) ∧ List.length (decF rPost (List.length x0.2.1.1.2) (encF rPost x0.2.1.1.2)) ≤ (1000000 : Nat))) <|
  .obs (L_s57 ((x0.1.1, x0.1.2.1, x0.1.2.2.1), ((x0.2.1.1.1, decF rPost (List.length x0.2.1.1.2) (encF rPost (sortSeg (decF rPost (List.length x0.2.1.1.2) (encF rPost x0.2.1.1.2)) (Int.toNat x0.1.2.2.2) (Int.toNat x0.1.2.1)))), PUnit.unit), x0.2.2)) fun x1 =>
   .ret ((x1.2.1.1.1, decF rPost (List.length a.2.1) (encF rPost x1.2.1.1.2)))) := fun a => by kernel_rfl
end Go.Proofs.YtelpdkojdfnmiaaGreat
/-! LSc -/
namespace Go.Proofs.YtelpdkojdfnmiaaGreat
open Ev K
set_option maxRecDepth 100000
namespace K
inductive Run (n : Nat) : List Pst → Prop
 | last (x : List Pst) : x.length ≤ n → Sd x → Run n x
 | cons (x l : List Pst) : x.length = n → Sd x → Run n l → Run n (x ++ l)
inductive Full (n : Nat) : List Pst → Prop
 | nil : Full n []
 | snoc (D x : List Pst) : Full n D → x.length = n → Sd x → Full n (D ++ x)
theorem sd_nil : Sd [] := List.Pairwise.nil
theorem full_run {n : Nat} : ∀ {D z : List Pst}, Full n D → Run n z → Run n (D ++ z) := by
 intro D z h
 induction h generalizing z with
 | nil => exact id
 | snoc D x _ hx hs ih => intro hz; rw [List.append_assoc]; exact ih (.cons x z hx hs hz)
theorem run_sd {n : Nat} {l : List Pst} (h : Run n l) (hl : l.length ≤ n) : Sd l := by
 cases h with
 | last _ _ h => exact h
 | cons x t hx hs _ =>
  rw [List.length_append] at hl
  have : t = [] := List.eq_nil_of_length_eq_zero (by omega)
  subst this; rw [List.append_nil]; exact hs
theorem run_two {n : Nat} {l : List Pst} (h1 : 1 ≤ n) (h : Run n l) (hl : 2 * n ≤ l.length) : ∃ x y t, l = x ++ (y ++ t) ∧ x.length = n ∧ y.length = n ∧ Sd x ∧ Sd y ∧ Run n t := by
 cases h with
 | last _ h2 _ => omega
 | cons x t hx hs ht =>
  rw [List.length_append] at hl
  cases ht with
  | last _ h2 h3 => exact ⟨x, t, [], by simp, hx, by omega, hs, h3, .last [] (by simp) sd_nil⟩
  | cons y t hy hs2 ht => exact ⟨x, y, t, rfl, hx, hy, hs, hs2, ht⟩
theorem run_end {n : Nat} {l : List Pst} (h : Run n l) (hl : l.length < 2 * n) : ∃ x y, l = x ++ y ∧ x.length ≤ n ∧ (y ≠ [] → x.length = n) ∧ Sd x ∧ Sd y := by
 cases h with
 | last _ h2 h3 => exact ⟨l, [], by simp, h2, fun h => absurd rfl h, h3, sd_nil⟩
 | cons x t hx hs ht =>
  rw [List.length_append] at hl
  exact ⟨x, t, rfl, by omega, fun _ => hx, hs, run_sd ht (by omega)⟩
theorem st_mid {P X Q : List Pst} : StEq (P ++ (X ++ Q)) (P ++ (stB X ++ Q)) := (StEq.refl P).app ((stB_eq X).app (StEq.refl Q))
theorem L_s17_eq (t : TypeId) (v n : Nat) (hn : n ≤ 100000) : ∀ (d : Nat) (D R : List Pst), R.length ≤ d → D.length + R.length = n → Full 20 D → ∃ D' R', StEq (D ++ R) (D' ++ R') ∧ D'.length + R'.length = n ∧ R'.length < 20 ∧ Full 20 D' ∧
  L_s17 ((n, (n : Int), 20, (D.length : Int), ((D.length + 20 : Nat) : Int)), ((t, D ++ R), ()), v) = some ((n, (n : Int), 20, (D'.length : Int)), ((t, D' ++ R'), ()), v)
 | 0, D, R, hd, hl, hD => by
  have : R = [] := List.eq_nil_of_length_eq_zero (by omega)
  subst this
  refine ⟨D, [], StEq.refl _, hl, by decide, hD, lim_done ?_⟩
  rw [sl_s17]
  simp only [List.length_nil] at hl
  simp only [decF_encF]
  exact br_f (decide_eq_false (by omega)) rfl
 | d + 1, D, R, hd, hl, hD => by
  by_cases h20 : R.length < 20
  ·refine ⟨D, R, StEq.refl _, hl, h20, hD, lim_done ?_⟩
   rw [sl_s17]
   simp only [decF_encF]
   exact br_f (decide_eq_false (by omega)) rfl
  ·have hR : R = R.take 20 ++ R.drop 20 := (List.take_append_drop _ _).symm
   have hx : (R.take 20).length = 20 := by rw [List.length_take]; omega
   have hy : (R.drop 20).length = R.length - 20 := List.length_drop
   generalize R.take 20 = X at hR hx
   generalize R.drop 20 = Q at hR hy
   subst hR
   have hlen : (stB X).length = 20 := by rw [stB_len]; exact hx
   obtain ⟨D', R', a1, a2, a3, a4, a5⟩ := L_s17_eq t v n hn d (D ++ stB X) Q (by omega) (by rw [List.length_append, hlen]; omega) (.snoc D (stB X) hD hlen (stB_sd X))
   refine ⟨D', R', (st_mid.trans (by rw [List.append_assoc] at a1; exact a1)), a2, a3, a4, (lim_step ?_).trans a5⟩
   rw [sl_s17]
   have w : IntKind.i64.wrap (((D.length + 20 : Nat) : Int) + 20) = ((((D ++ stB X).length + 20 : Nat)) : Int) := by rw [w64_in (by omega) (by omega), List.length_append, hlen]; omega
   have hN : (D ++ (stB X ++ Q)).length = (D ++ (X ++ Q)).length := by simp only [List.length_append, hlen, hx]
   simp only [decF_encF, w, Int.toNat_natCast, sortSeg_mid D X Q (i := D.length) (j := D.length + 20) rfl (by rw [hx]), hdec hN]
   refine br_t (decide_eq_true (by omega)) (chk_step (decide_eq_true ⟨by omega, by omega, by rw [List.length_append, List.length_append]; omega, by rw [List.length_append, List.length_append]; omega⟩) ?_)
   rw [List.append_assoc, show D.length + 20 = (D ++ stB X).length by rw [List.length_append, hlen]]; rfl
theorem L_s73_eq (t : TypeId) (v n b : Nat) (hb : 1 ≤ b) (hb2 : b < n) (hn : n ≤ 100000) : ∀ (d : Nat) (D R : List Pst), R.length ≤ d → D.length + R.length = n → Full (2 * b) D → Run b R → ∃ D' R', StEq (D ++ R) (D' ++ R') ∧ D'.length + R'.length = n ∧ R'.length < 2 * b ∧ Full (2 * b) D' ∧ Run b R' ∧
  L_s73 ((n, (n : Int), (b : Int), (D.length : Int), ((D.length + 2 * b : Nat) : Int)), ((t, D ++ R), ()), v) = some ((n, (n : Int), (b : Int), (D'.length : Int)), ((t, D' ++ R'), ()), v)
 | 0, D, R, hd, hl, hD, hR => by
  have : R = [] := List.eq_nil_of_length_eq_zero (by omega)
  subst this
  refine ⟨D, [], StEq.refl _, hl, by simp; omega, hD, hR, lim_done ?_⟩
  rw [sl_s73]
  simp only [List.length_nil] at hl
  simp only [decF_encF]
  exact br_f (decide_eq_false (by omega)) rfl
 | d + 1, D, R, hd, hl, hD, hR => by
  by_cases h2 : R.length < 2 * b
  ·refine ⟨D, R, StEq.refl _, hl, h2, hD, hR, lim_done ?_⟩
   rw [sl_s73]
   simp only [decF_encF]
   exact br_f (decide_eq_false (by omega)) rfl
  ·obtain ⟨X, Y, Q, e, hx, hy, sx, sy, hQ⟩ := run_two hb hR (by omega)
   subst e
   have hlQ : (X ++ (Y ++ Q)).length = b + (b + Q.length) := by rw [List.length_append, List.length_append, hx, hy]
   have hlen : (stB (X ++ Y)).length = 2 * b := by rw [stB_len, List.length_append]; omega
   obtain ⟨D', R', a1, a2, a3, a4, a5, a6⟩ := L_s73_eq t v n b hb hb2 hn d (D ++ stB (X ++ Y)) Q (by omega) (by rw [List.length_append, hlen]; omega) (.snoc D _ hD hlen (stB_sd _)) hQ
   refine ⟨D', R', (StEq.trans (by rw [← List.append_assoc X]; exact st_mid) (by rw [List.append_assoc] at a1; exact a1)), a2, a3, a4, a5, (lim_step ?_).trans a6⟩
   rw [sl_s73]
   have w1 : IntKind.i64.wrap ((2 : Int) * (b : Int)) = ((2 * b : Nat) : Int) := by rw [w64_in (by omega) (by omega)]; omega
   have w2 : IntKind.i64.wrap (((D.length + 2 * b : Nat) : Int) + ((2 * b : Nat) : Int)) = ((((D ++ stB (X ++ Y)).length + 2 * b : Nat)) : Int) := by rw [w64_in (by omega) (by omega), List.length_append, hlen]; omega
   have w3 : IntKind.i64.wrap ((D.length : Int) + (b : Int)) = ((D.length + b : Nat) : Int) := by rw [w64_in (by omega) (by omega)]; omega
   have hN : (D ++ (stB (X ++ Y) ++ Q)).length = (D ++ (X ++ (Y ++ Q))).length := by simp only [List.length_append, hlen, hx, hy]; omega
   have hms : sortSeg (D ++ (X ++ (Y ++ Q))) D.length (D.length + 2 * b) = D ++ (stB (X ++ Y) ++ Q) := by
    rw [← List.append_assoc X]; exact sortSeg_mid D (X ++ Y) Q rfl (by rw [List.length_append]; omega)
   simp only [decF_encF, w1, w2, w3, Int.toNat_natCast, hms, hdec hN]
   refine br_t (decide_eq_true (by omega)) (chk_step (symOk_iff.2 ⟨⟨by omega, by omega, by rw [List.length_append, hlQ]; omega, by rw [List.length_append, hlQ]; omega, by omega⟩, ?_, ?_⟩) ?_)
   ·rw [seg_mid D X (Y ++ Q) rfl (by rw [hx])]; exact sx
   ·rw [← List.append_assoc D, seg_mid (D ++ X) Y Q (by rw [List.length_append, hx]) (by rw [List.length_append, hx, hy]; omega)]; exact sy
   rw [List.append_assoc, show D.length + 2 * b = (D ++ stB (X ++ Y)).length by rw [List.length_append, hlen]]; rfl
theorem L_s57_eq (t : TypeId) (v n : Nat) (l : List Pst) (hn : n ≤ 100000) (hln : l.length = n) : ∀ (d b : Nat) (r : List Pst), 1 ≤ b → b ≤ 200000 → n ≤ b + d → StEq l r → Run b r →
  L_s57 ((n, (n : Int), (b : Int)), ((t, r), ()), v) = some ((), ((t, stB l), ()), v)
 | 0, b, r, h1, hb, hd, hs, hr => by
  refine lim_done ?_
  rw [sl_s57]
  simp only [decF_encF]
  refine br_f (decide_eq_false (by omega)) ?_
  rw [← stB_of hs (run_sd hr (by have := hs.len; omega))]; rfl
 | d + 1, b, r, h1, hb, hd, hs, hr => by
  by_cases hbn : b < n
  ·have hrl : r.length = n := by have := hs.len; omega
   obtain ⟨D, R, a1, a2, a3, a4, a5, a6⟩ := L_s73_eq t v n b h1 hbn hn n [] r (by omega) (by simpa using hrl) .nil hr
   simp only [List.length_nil, List.nil_append, Nat.zero_add] at a1 a6
   have w1 : IntKind.i64.wrap ((2 : Int) * (b : Int)) = ((2 * b : Nat) : Int) := by rw [w64_in (by omega) (by omega)]; omega
   have w2 : IntKind.i64.wrap ((b : Int) * (2 : Int)) = ((2 * b : Nat) : Int) := by rw [w64_in (by omega) (by omega)]; omega
   have w3 : IntKind.i64.wrap ((D.length : Int) + (b : Int)) = ((D.length + b : Nat) : Int) := by rw [w64_in (by omega) (by omega)]; omega
   obtain ⟨X, Y, e, hx, hxy, sx, sy⟩ := run_end a5 a3
   subst e
   rw [List.length_append] at a2 a3
   have hnew : Run (2 * b) (D ++ stB (X ++ Y)) := full_run a4 (.last _ (by rw [stB_len, List.length_append]; omega) (stB_sd _))
   have hst : StEq l (D ++ stB (X ++ Y)) := (hs.trans a1).trans ((StEq.refl D).app (stB_eq _))
   have ih := L_s57_eq t v n l hn hln d (2 * b) (D ++ stB (X ++ Y)) (by omega) (by omega) (by omega) hst hnew
   refine (lim_step ?_).trans ih
   rw [sl_s57]
   simp only [decF_encF, w1]
   refine br_t (decide_eq_true (by omega)) (obs_step a6 ?_)
   by_cases hm : D.length + b < n
   ·have hY : Y ≠ [] := fun e => by subst e; simp only [List.length_nil] at a2; omega
    have hxb := hxy hY
    have hN : (D ++ stB (X ++ Y)).length = (D ++ (X ++ Y)).length := by simp only [List.length_append, stB_len]
    have hms : sortSeg (D ++ (X ++ Y)) D.length n = D ++ stB (X ++ Y) := by
     have := sortSeg_mid D (X ++ Y) [] (i := D.length) (j := n) rfl (by rw [List.length_append]; omega)
     simpa using this
    simp only [w2, w3, Int.toNat_natCast, hms, hdec hN]
    refine br_t (decide_eq_true (by omega)) (chk_step (symOk_iff.2 ⟨⟨by omega, by omega, by rw [List.length_append, List.length_append]; omega, by rw [List.length_append, List.length_append]; omega, by omega⟩, ?_, ?_⟩) rfl)
    ·rw [seg_mid D X Y rfl (by rw [hxb])]; exact sx
    ·have := seg_mid (D ++ X) Y [] (i := D.length + b) (j := n) (by rw [List.length_append, hxb]) (by rw [List.length_append]; omega)
     rw [List.append_nil, List.append_assoc] at this
     rw [this]; exact sy
   ·have hY : Y = [] := Classical.byContradiction fun hY => by
     have := hxy hY
     have : 1 ≤ Y.length := by cases Y with
      | nil => exact absurd rfl hY
      | cons y Y => simp
     omega
    subst hY
    simp only [w2, w3]
    refine br_f (decide_eq_false (by omega)) ?_
    rw [List.append_nil, stB_self sx]; rfl
  ·refine lim_done ?_
   rw [sl_s57]
   simp only [decF_encF]
   refine br_f (decide_eq_false (by omega)) ?_
   rw [← stB_of hs (run_sd hr (by have := hs.len; omega))]; rfl
theorem st_turn (t : TypeId) (l : List Pst) (h : l.length ≤ 100000) : turnT1 P BLSb3 30 fSt D_st rPost (t, l, (l.length : Int)) = some (t, stB l) := by
 rw [fn_st]
 obtain ⟨D, R, a1, a2, a3, a4, a5⟩ := L_s17_eq t l.length l.length h l.length [] l (Nat.le_refl _) (by simp) .nil
 simp only [List.length_nil, List.nil_append, Nat.zero_add] at a1 a5
 simp only [decF_encF]
 refine obs_step a5 ?_
 have hN : (D ++ stB R).length = (D ++ R).length := by simp only [List.length_append, stB_len]
 have hms : sortSeg (D ++ R) D.length l.length = D ++ stB R := by
  have := sortSeg_mid D R [] (i := D.length) (j := l.length) rfl (by omega)
  simpa using this
 simp only [Int.toNat_natCast, hms, hdec hN]
 refine chk_step (decide_eq_true ⟨by omega, by omega, by rw [List.length_append]; omega, by rw [List.length_append]; omega⟩) ?_
 refine obs_step (L_s57_eq t l.length l.length l h rfl l.length 20 (D ++ stB R) (by omega) (by omega) (by omega) (a1.trans ((StEq.refl D).app (stB_eq R))) (full_run a4 (.last _ (by rw [stB_len]; omega) (stB_sd R)))) ?_
 simp only [hdec (stB_len l)]; rfl
def M_st (a : List Pst × Int) : T (List Pst) := .chk (decide (a.2 = a.1.length ∧ a.1.length ≤ 100000)) (.ret (stB a.1))
theorem st_mc (l : List Pst) (a : Int) (l' : List Pst) (h : (M_st (l, a)).run = some l') : MC P fSt rPost.wd l.length ⟨rPost.tags, encF rPost l⟩ ⟨rPost.tags, encF rPost l'⟩ (D_st.enc a) := by
 obtain ⟨g, e⟩ := chk_ret h
 subst e
 have g := of_decide_eq_true g
 simp only at g
 obtain ⟨rfl, g2⟩ := g
 exact turn_of (d := 30) okP tLSb3 fun t => st_turn t l g2
end K
noncomputable def BLScs : Tab := BLSb3.addTurn K.fSt (turnE D_st rPost K.M_st)
theorem tLScs : TabOk P BLScs := TabOk.addTurn tLSb3 (turnE_cc K.st_mc)
def D_sst : DecL Unit := (DecL.unit F_cmpD (.tops 0)).iso (fun _ => ()) (fun _ => ()) (fun _ => rfl)
theorem fn_sst : ∀ a, (turnT1 P BLScs 30 69 D_sst rPost) a = T.run (
 .chk (decide ((↑(List.length a.2.1) : Int) = (↑(List.length (decF rPost (List.length a.2.1) (encF rPost a.2.1))) : Int) ∧ List.length (decF rPost (List.length a.2.1) (encF rPost a.2.1)) ≤ (100000 : Nat))) <|
 .ret ((a.1, decF rPost (List.length a.2.1) (encF rPost (stB (decF rPost (List.length a.2.1) (encF rPost a.2.1))))))) := fun a => by kernel_rfl
end Go.Proofs.YtelpdkojdfnmiaaGreat
/-! LSd -/
namespace Go.Proofs.YtelpdkojdfnmiaaGreat
open Ev K
set_option maxRecDepth 100000
namespace K
def M_sst (a : List Pst × Unit) : T (List Pst) := .chk (decide (a.1.length ≤ 100000)) (.ret (stB a.1))
theorem sst_mc (l : List Pst) (a : Unit) (l' : List Pst) (h : (M_sst (l, a)).run = some l') : MC P 69 rPost.wd l.length ⟨rPost.tags, encF rPost l⟩ ⟨rPost.tags, encF rPost l'⟩ (D_sst.enc a) := by
 obtain ⟨g, e⟩ := chk_ret h
 subst e
 have g := of_decide_eq_true g
 refine turn_of (d := 30) okP tLScs fun t => (fn_sst (t, l, a)).trans ?_
 simp only [decF_encF]
 refine chk_step (decide_eq_true ⟨trivial, g⟩) ?_
 simp only [hdec (stB_len l)]; rfl
end K
end Go.Proofs.YtelpdkojdfnmiaaGreat
/-! LT2 -/
namespace Go.Proofs.YtelpdkojdfnmiaaGreat
open Ev K
set_option maxRecDepth 100000
noncomputable def BLT2t : Tab := BLQ02.addTurn 69 (turnE D_sst rPost K.M_sst)
theorem tLT2t : TabOk P BLT2t := TabOk.addTurn tLQ02 (turnE_cc K.sst_mc)
theorem fn_state : ∀ a, (callT1 P BLT2t 30 22 D_state R_state) a = T.run (
 let q13 := (0 : Nat);
 let q4 := decF rItem (List.length a.1) fun i => encF rItem a.1 (q13 + i);
 let q8 := Bk.posts (readB q4 a.2.2.2);
 let q1 := decF rPost (List.length q8) fun i => encF rPost q8 (q13 + i);
 let q10 := (0 : Int);
 let q12 := a.2.2.1;
 let q7 := sumP q1 (IntKind.wrap IntKind.i64 (Span.lo q12 - (1 : Int)));
 let q11 := Get.mk [CK.int IntKind.i64, CK.int IntKind.i64] (encF rPII q7);
 let q15 := Span.hi q12;
 let q9 := Get.mk [CK.int IntKind.i64, CK.int IntKind.i64] (encF rPII (sumP q1 q15));
 let q2 := L_sta ((a.2.1, decF rPost (List.length q8) fun i => encF rPost q8 (q13 + i), (↑(clampL (List.length q8)) : Int), q10), q12, PUnit.unit, (numOf (mraw q11 (mfind q11 (AV.int IntKind.i64 a.2.1) (List.length q7)) (AV.int IntKind.i64 q10) (1 : Nat)), numOf (mraw q9 (mfind q9 (AV.int IntKind.i64 a.2.1) (List.length (sumP q1 q15))) (AV.int IntKind.i64 q10) (1 : Nat)), q13), decF rPost q13 fun _x _x_1 => AV.top, PUnit.unit);
 let q6 := (Stm.mk q10 q10 [], (1 : Int));
 let q14 := decide (Span.lo q12 > Span.hi q12);
 let q3 : T _ := .br (!l_day (Span.lo q12)) (
    .ret q6) (
    .br (!l_day q15) (
     .ret q6) (
     .br q14 (
      .ret q6) (
      .chk (rdOk q4) <|
      .chk (balOk q1) <|
      .chk (balOk q1) <|
      .obs q2 fun x0 =>
 let q16 := decF rPost (List.length x0.2.2.2.1) (encF rPost x0.2.2.2.1);
       .chk (decide (List.length q16 ≤ (100000 : Nat))) <|
       .ret ((Stm.mk x0.2.2.1.1 x0.2.2.1.2.1 (decF rPost (List.length x0.2.2.2.1) fun i => encF rPost (stB q16) (q13 + i)), q10)))));
 let q5 := decF rInt (1 : Nat) fun i k => Option.getD [AV.int IntKind.i64 a.2.2.2][(q13 + i) * (1 : Nat) + k]? AV.top;
 .chk (decide (nat_lit 1 ≤ (1000 : Nat))) <|
 .br (askedV q4 q5 != q10) (
  .br (askedV q4 q5 != q10) (
   .ret ((Stm.mk q10 q10 [], askedV q4 q5))) q3) (
  .br (l_account a.2.1 != q10) (
   .br (l_account a.2.1 != q10) (
    .ret ((Stm.mk q10 q10 [], l_account a.2.1))) (
    .br (!l_day (Span.lo q12)) (
     .ret q6) (
     .br (!l_day q15) (
      .ret q6) (
      .br q14 (
       .ret q6) (
       .chk (rdOk q4) <|
       .chk (balOk q1) <|
       .chk (balOk q1) <|
       .obs q2 fun x0 =>
 let q17 := decF rPost (List.length x0.2.2.2.1) (encF rPost x0.2.2.2.1);
        .chk (decide (List.length q17 ≤ (100000 : Nat))) <|
        .ret ((Stm.mk x0.2.2.1.1 x0.2.2.1.2.1 (decF rPost (List.length x0.2.2.2.1) fun i => encF rPost (stB q17) (q13 + i)), q10))))))) q3)) := fun a => by kernel_rfl
namespace K
theorem state_eq (a : List Itm × Int × Span × Int) : callT1 P BLT2t 30 22 D_state R_state a = some (stateV a.1 a.2.1 a.2.2.1 a.2.2.2) := by
 obtain ⟨l, acc, sp, known⟩ := a
 rw [fn_state]; unfold stateV stateE orV
 simp only [Nat.zero_add, decF_encF, dInt1, find_M, raw_M, l_account_eq]
 refine chk_step rfl ?_
 by_cases h : askedV l [known] = 0
 ·simp only [h, ne_eq, not_true, if_false]
  refine br_f (by decide) ?_
  by_cases h2 : accountE acc = 0
  ·simp only [h2, not_true, if_false]
   refine br_f (by decide) ?_
   by_cases h3 : dayOk sp.lo
   ·refine br_f (by rw [(l_day_iff _).2 h3]; rfl) ?_
    by_cases h4 : dayOk sp.hi
    ·refine br_f (by rw [(l_day_iff _).2 h4]; rfl) ?_
     by_cases h5 : sp.lo ≤ sp.hi
     ·have hsp : spanOk sp := ⟨h3, h4, h5⟩
      have hb := chk_bal (ask_check h).1 known
      have hpl : (readB l known).posts.length ≤ 1000 := (of_decide_eq_true hb).1
      have w : IntKind.i64.wrap (sp.lo - 1) = sp.lo - 1 := by unfold dayOk at h3; exact w64_in (by omega) (by omega)
      simp only [hsp, if_true, w]
      refine br_f (decide_eq_false (by omega)) (chk_step (chk_rd (ask_check h).1) (chk_step hb (chk_step hb ?_)))
      rw [clampL_eq (show (readB l known).posts.length ≤ maxL by unfold maxL; omega)]
      have key := L_sta_eq acc (readB l known).posts sp (lookM (sumP (readB l known).posts (sp.lo - 1)) acc) (lookM (sumP (readB l known).posts sp.hi) acc) hpl (readB l known).posts.length 0 [] (by omega) (by simp)
      simp only [List.drop_zero, List.nil_append] at key
      refine obs_step key ?_
      have hfl := List.length_filter_le (onLine acc sp) (readB l known).posts
      simp only
      refine chk_step (decide_eq_true (by omega)) ?_
      rw [hdec (stB_len _)]; rfl
     ·have hsp : ¬ spanOk sp := fun h => h5 h.2.2
      simp only [hsp, if_false]
      exact br_t (decide_eq_true (by omega)) rfl
    ·have hsp : ¬ spanOk sp := fun h => h4 h.2.1
     simp only [hsp, if_false]
     exact br_t (by rw [Bool.not_eq_true', ← Bool.not_eq_true]; exact fun h => h4 ((l_day_iff _).1 h)) rfl
   ·have hsp : ¬ spanOk sp := fun h => h3 h.1
    simp only [hsp, if_false]
    exact br_t (by rw [Bool.not_eq_true', ← Bool.not_eq_true]; exact fun h => h3 ((l_day_iff _).1 h)) rfl
  ·simp only [h2, not_false_eq_true, if_true, if_false]
   exact br_t (ne_t h2) (br_t (ne_t h2) rfl)
 ·simp only [h, ne_eq, not_false_eq_true, if_true, if_false]
  exact br_t (ne_t h) (br_t (ne_t h) rfl)
end K
end Go.Proofs.YtelpdkojdfnmiaaGreat
/-! LAk -/
namespace Go.Proofs.YtelpdkojdfnmiaaGreat
open Ev K
set_option maxRecDepth 100000
def D_eqP := DecL.cons (dRows rPost) (.last (dRows rPost) 0)
def S_eqP := DecS.mk0 (.cons (dRows rPost) (.cons (dRows rPost) (.skips 10 (.cons (dInt) (.last (dInt) 12))))) .nil
def X_eqP := DecX.or (DecX.one (.exit 0) [] (DecS.mk0 (.tops 26) .nil)) (DecX.one .ret [4] (DecS.mk0 (.skips 4 (.last (dB) 21)) .nil))
noncomputable def K.st_eqP := loopT1 P BLAq2 30 83 33 [13, 1, 0, 12] S_eqP X_eqP
theorem sl_eqP : ∀ s, (K.st_eqP) s = T.run (
 let q2 := s.1.2.2.2;
 let q1 := (0 : Nat) + Int.toNat q2;
 .br (decide (q2 < s.1.2.2.1)) (
  .chk (decide ((0 : Int) ≤ q2 ∧ q2 < (↑(List.length s.1.1) : Int))) <|
  .chk (decide ((0 : Int) ≤ q2 ∧ q2 < (↑(List.length s.1.2.1) : Int))) <|
  .br (!(numOf (encF rPost s.1.1 q1 (0 : Nat)) == numOf (encF rPost s.1.2.1 q1 (0 : Nat)) && (numOf (encF rPost s.1.1 q1 (nat_lit 1)) == numOf (encF rPost s.1.2.1 q1 (nat_lit 1)) && (numOf (encF rPost s.1.1 q1 (nat_lit 2)) == numOf (encF rPost s.1.2.1 q1 (nat_lit 2)) && numOf (encF rPost s.1.1 q1 (nat_lit 3)) == numOf (encF rPost s.1.2.1 q1 (nat_lit 3)))))) (
   .ret (Sum.inr (Sum.inr (false, PUnit.unit)))) (
   .ret (Sum.inl ((decF rPost (List.length s.1.1) fun i => encF rPost s.1.1 ((0 : Nat) + i), decF rPost (List.length s.1.2.1) fun i => encF rPost s.1.2.1 ((0 : Nat) + i), s.1.2.2.1, IntKind.wrap IntKind.i64 (q2 + (1 : Int))), PUnit.unit)))) (
  .ret (Sum.inr (Sum.inl (PUnit.unit, PUnit.unit))))) := fun s => by kernel_rfl
noncomputable def K.L_eqP := lim K.st_eqP
noncomputable def BLAk1 : Tab := BLAq2.addNode 83 33 (nodeE [13, 1, 0, 12] S_eqP X_eqP (fun s => .obs (K.L_eqP s) .ret))
theorem tLAk1 : TabOk P BLAk1 := TabOk.addLoop (d := 30) okP tLAq2 (by kernel_rfl) (by kernel_rfl) (fun s r h => obs_ret h)
theorem fn_eqP : ∀ a, (callT1 P BLAk1 30 83 D_eqP dB) a = T.run (
 .br ((↑(clampL (List.length a.1)) : Int) != (↑(clampL (List.length a.2)) : Int)) (
  .ret (false)) (
  .obs (L_eqP ((decF rPost (List.length a.1) fun i => encF rPost a.1 ((0 : Nat) + i), decF rPost (List.length a.2) fun i => encF rPost a.2 ((0 : Nat) + i), (↑(clampL (List.length a.1)) : Int), (0 : Int)), PUnit.unit)) fun x0 =>
   .sum (x0) (fun _ =>
    .ret (true)) (fun x1 =>
    .ret x1.1))) := fun a => by kernel_rfl
end Go.Proofs.YtelpdkojdfnmiaaGreat
/-! LAl -/
namespace Go.Proofs.YtelpdkojdfnmiaaGreat
open Ev K
set_option maxRecDepth 100000
namespace K
theorem L_eqP_eq (a b : List Pst) (hl : a.length = b.length) (hm : a.length ≤ 1000000) : ∀ (d i : Nat), i + d = a.length → L_eqP ((a, b, (a.length : Int), (i : Int)), ()) = some (if a.drop i = b.drop i then .inl ((), ()) else .inr (false, ())) := by
 intro d
 induction d with
 | zero =>
  intro i h
  rw [List.drop_of_length_le (by omega), List.drop_of_length_le (by omega), if_pos rfl]
  refine lim_done ?_
  rw [sl_eqP]
  exact br_f (decide_eq_false (by show ¬ (i : Int) < (a.length : Int); omega)) rfl
 | succ d ih =>
  intro i h
  have hi : i < a.length := by omega
  have hj : i < b.length := by omega
  have hx := List.getElem?_eq_getElem hi
  have hy := List.getElem?_eq_getElem hj
  rw [List.drop_eq_getElem_cons hi, List.drop_eq_getElem_cons hj]
  generalize a[i] = x at hx
  generalize b[i] = y at hy
  have w : IntKind.i64.wrap ((i : Int) + 1) = ((i + 1 : Nat) : Int) := by rw [w64_in (by omega) (by omega)]; rfl
  by_cases hxy : x = y
  ·have e : (x :: a.drop (i + 1) = y :: b.drop (i + 1)) ↔ (a.drop (i + 1) = b.drop (i + 1)) := ⟨fun h => by injection h, fun h => by rw [hxy, h]⟩
   refine Eq.trans (lim_step ?_) ((ih (i + 1) (by omega)).trans (by by_cases h2 : a.drop (i + 1) = b.drop (i + 1); rw [if_pos h2, if_pos (e.2 h2)]; rw [if_neg h2, if_neg (fun h3 => h2 (e.1 h3))]))
   rw [sl_eqP]
   simp only [Int.toNat_natCast, Nat.zero_add, post_at hx, post_at hy, pw0, pw1, pw2, pw3, decF_encF, w]
   exact br_t (decide_eq_true (by omega)) (chk_step (decide_eq_true (by omega)) (chk_step (decide_eq_true (by omega)) (br_f (by rw [Bool.not_eq_false']; exact (samP x y).2 hxy) rfl)))
  ·rw [if_neg (fun h => hxy (by injection h))]
   refine lim_done ?_
   rw [sl_eqP]
   simp only [Int.toNat_natCast, Nat.zero_add, post_at hx, post_at hy, pw0, pw1, pw2, pw3]
   exact br_t (decide_eq_true (by omega)) (chk_step (decide_eq_true (by omega)) (chk_step (decide_eq_true (by omega)) (br_t (by rw [Bool.not_eq_true', ← Bool.not_eq_true]; exact fun h => hxy ((samP x y).1 h)) rfl)))
def M_eqP (a : List Pst × List Pst) : T Bool := .chk (decide (a.1.length ≤ 1000000 ∧ a.2.length ≤ 1000000)) (.ret (decide (a.1 = a.2)))
theorem eqP_pc (a : List Pst × List Pst) (r : Bool) (h : (M_eqP a).run = some r) : PC P 83 (D_eqP.enc a) (dB.enc r) := by
 obtain ⟨g, e⟩ := chk_ret h
 subst e
 obtain ⟨g1, g2⟩ := of_decide_eq_true g
 refine call_of okP tLAk1 ((fn_eqP a).trans ?_)
 rw [clamp_ne g1 g2]
 by_cases hl : a.1.length = a.2.length
 ·refine br_f (by simpa using hl) ?_
  simp only [Nat.zero_add, decF_encF, clampL_eq (show a.1.length ≤ maxL by unfold maxL; omega)]
  have key := L_eqP_eq a.1 a.2 hl g1 a.1.length 0 (by omega)
  rw [List.drop_zero, List.drop_zero] at key
  refine obs_step key ?_
  by_cases he : a.1 = a.2
  ·rw [if_pos he, decide_eq_true he]; rfl
  ·rw [if_neg he, decide_eq_false he]; rfl
 ·refine br_t (by simpa using hl) ?_
  rw [decide_eq_false (fun h => hl (by rw [h]))]; rfl
end K
noncomputable def BLAl1 : Tab := BLAk1.addCall 83 (callE D_eqP dB K.M_eqP)
theorem tLAl1 : TabOk P BLAl1 := TabOk.addPC tLAk1 (K.eqP_pc)
noncomputable def BLAl2 : Tab := BLAl1.addCall 22 (callE D_state R_state (fun a => .ret (K.stateV a.1 a.2.1 a.2.2.1 a.2.2.2)))
theorem tLAl2 : TabOk P BLAl2 := TabOk.addPC tLAl1 (fun a r h => by rw [← ret_some h]; exact call_of okP tLT2t (K.state_eq a))
theorem fn_lcks : ∀ a, (callT1 P BLAl2 30 43 D_ckst dInt) a = T.run (
 let q1 := stateV (decF rItem (List.length a.1) fun i => encF rItem a.1 ((0 : Nat) + i)) a.2.1 a.2.2.1 a.2.2.2.1;
 let q2 := decF rPost (List.length (Stm.lines a.2.2.2.2)) fun i => encF rPost (Stm.lines a.2.2.2.2) ((0 : Nat) + i);
 let q3 := Stm.lines q1.1;
 .br (q1.2 != (0 : Int)) (
  .ret q1.2) (
  .br (Stm.before a.2.2.2.2 != Stm.before q1.1) (
   .ret ((8 : Int))) (
   .br (Stm.after a.2.2.2.2 != Stm.after q1.1) (
    .ret ((8 : Int))) (
    .chk (decide (List.length q2 ≤ (1000000 : Nat) ∧ List.length (decF rPost (List.length q3) fun i => encF rPost q3 ((0 : Nat) + i)) ≤ (1000000 : Nat))) <|
    .br (!decide (q2 = decF rPost (List.length q3) fun i => encF rPost q3 ((0 : Nat) + i))) (
     .ret ((8 : Int))) (
     .ret ((0 : Int))))))) := fun a => by kernel_rfl
end Go.Proofs.YtelpdkojdfnmiaaGreat
/-! LW0 -/
namespace Go.Proofs.YtelpdkojdfnmiaaGreat
open Ev K
set_option maxRecDepth 100000
namespace Ev
def dW (k : IntKind) : Dec Int where
 enc n := .int k (k.wrap n)
 dec _ := none
 ok x a h := by cases h
end Ev
namespace K
theorem u8_range (n : Int) : 0 ≤ IntKind.u8.wrap n ∧ IntKind.u8.wrap n ≤ 255 := by
 unfold IntKind.wrap
 simp only [IntKind.bits, IntKind.signed]
 have := Int.emod_nonneg n (show (256 : Int) ≠ 0 by decide)
 have := Int.emod_lt_of_pos n (show (0 : Int) < 256 by decide)
 simp
 omega
end K
section
variable {H : Type} {enc : TypeId × Value → H} {w : World}
theorem fl_u8 : flat P 8 5 = some [.int .u8] := by kernel_rfl
theorem ag_u8 : aggB P 5 = some false := by kernel_rfl
theorem rd_wrap {v : Value} (h : CellR enc P w (.int .u8) v) : RdV w (dW .u8) v := by
 obtain ⟨n, rfl, hn⟩ := h
 refine ⟨n, ?_⟩
 have e : IntKind.u8.wrap n = n := by
  simp [Lit.wf, IntKind.bits, IntKind.signed, IntKind.min, IntKind.max] at hn
  unfold IntKind.wrap
  simp [IntKind.bits, IntKind.signed]
  omega
 show VR w noA noR (.int .u8 (IntKind.u8.wrap n)) _
 rw [e]; exact .int
variable {r : Reach} {b : Nat} {v : Value} {d : DataW H} {p : List MemPlace}
theorem rp_u8 (hok : Value.okWide P w r b 5 v) (h : DataW.Trod enc P w 0 (fun _ => true) true 5 v d p) : RdV w (dW .u8) v := rd_wrap (param_cell fl_u8 ag_u8 hok h)
end
end Go.Proofs.YtelpdkojdfnmiaaGreat
/-! LAm -/
namespace Go.Proofs.YtelpdkojdfnmiaaGreat
open Ev K
set_option maxRecDepth 100000
namespace K
theorem lcks_pc (a : List Itm × Int × Span × Int × Stm) (r : Int) (h : (M_cks a).run = some r) : PC P 43 (D_ckst.enc a) (dInt.enc r) := by
 obtain ⟨l, acc, sp, known, s⟩ := a
 obtain ⟨g, e⟩ := chk_ret h
 subst e
 have g := of_decide_eq_true g
 simp only at g
 refine call_of okP tLAl2 ((fn_lcks (l, acc, sp, known, s)).trans ?_)
 have hlen := state_len l acc sp known
 simp only [Nat.zero_add, decF_encF]
 unfold cksV
 generalize stateV l acc sp known = v at hlen
 obtain ⟨⟨b1, a1, l1⟩, e⟩ := v
 obtain ⟨b2, a2, l2⟩ := s
 simp only at hlen g
 by_cases h0 : e = 0
 ·subst h0
  refine br_f rfl ?_
  rw [if_neg (fun h => h rfl)]
  by_cases h2 : b2 = b1
  ·refine br_f (by simp [h2]) ?_
   by_cases h3 : a2 = a1
   ·refine br_f (by simp [h3]) (chk_step (decide_eq_true ⟨g, by show l1.length ≤ 1000000; omega⟩) ?_)
    by_cases h1 : l2 = l1
    ·refine br_f (by simp [h1]) ?_
     rw [if_pos (by rw [h1, h2, h3])]; rfl
    ·refine br_t (by simp [h1]) ?_
     rw [if_neg (fun e => h1 (by injection e))]; rfl
   ·refine br_t (by simp [h3]) ?_
    rw [if_neg (fun e => h3 (by injection e))]; rfl
  ·refine br_t (by simp [h2]) ?_
   rw [if_neg (fun e => h2 (by injection e))]; rfl
 ·rw [if_pos h0]; exact br_t (ne_t h0) rfl
end K
noncomputable def BLAm1 : Tab := BLAl2.addCall 43 (callE D_ckst dInt K.M_cks)
theorem tLAm1 : TabOk P BLAm1 := TabOk.addPC tLAl2 (K.lcks_pc)
theorem fn_l_lines : ∀ a, (callT1 P BLAm1 30 41 (DecL.last (dRows rPost) 0) dB) a = T.run (
 .ret (decide ((↑(clampL (List.length a)) : Int) ≤ (60 : Int)))) := fun a => by kernel_rfl
noncomputable def K.l_lines (a : List Pst) : Bool := decide ((↑(clampL (List.length a)) : Int) ≤ (60 : Int))
theorem eq_l_lines (a : List Pst) : (callT1 P BLAm1 30 41 (DecL.last (dRows rPost) 0) dB) a = some (K.l_lines a) := (fn_l_lines a).trans rfl
noncomputable def BLAm2 : Tab := BLAm1.addCall 41 (callE (DecL.last (dRows rPost) 0) dB (fun a => .ret (K.l_lines a)))
theorem tLAm2 : TabOk P BLAm2 := TabOk.addFn (d := 30) okP tLAm1 (fun a r h => by rw [eq_l_lines]; exact congrArg some (ret_some h))
set_option maxHeartbeats 0
def D_lsts := DecL.cons (dRows rItem) (.cons dInt (.cons dSpan (.cons dInt (.cons dStm (.last (dW .u8) 0)))))
theorem fn_lwSs : ∀ a, (callT1 P BLAm2 30 12 D_lsts dB) a = T.run (
 let q19 := (0 : Nat);
 let q6 := decF rItem (List.length a.1) fun i => encF rItem a.1 (q19 + i);
 let q31 := a.2.2.1;
 let q26 := a.2.2.2.1;
 let q20 := stateV q6 a.2.1 q31 q26;
 let q1 := q20.1;
 let q18 := Stm.lines q1;
 let q8 := q19 + List.length q18;
 let q14 := IntKind.wrap IntKind.u8 a.2.2.2.2.2;
 let q23 := IntKind.wrap IntKind.i64 q14;
 let q32 := Int.toNat (Int.tmod q23 (↑q8 : Int));
 let q34 := (1 : Int);
 let q2 := decF rPost q8 fun i => setR q32 (nat_lit 1) (nat_lit 1) [AV.int IntKind.i64 (IntKind.wrap IntKind.i64 (numOf (appG q19 (fun _x _x_1 => AV.top) (fun i k => encF rPost q18 (q19 + i) k) q32 (nat_lit 1)) + q34))] (appG q19 (fun _x _x_1 => AV.top) fun i k => encF rPost q18 (q19 + i) k) (q19 + i);
 let q12 := decF rPost (List.length (Stm.lines a.2.2.2.2.1)) fun i => encF rPost (Stm.lines a.2.2.2.2.1) (q19 + i);
 let q30 := Stm.mk (Stm.before a.2.2.2.2.1) (Stm.after a.2.2.2.2.1) q12;
 let q3 := cksV q6 a.2.1 q31 q26 q30 == cksV q6 a.2.1 q31 q26 q30;
 let q4 := decF rPost q8 fun i => appG q19 (fun _x _x_1 => AV.top) (fun i k => encF rPost q18 (q19 + i) k) (q19 + i);
 let q25 := (1000000 : Nat);
 let q5 := decide (List.length q12 ≤ q25);
 let q7 := decide ((0 : Int) ≤ Int.tmod q23 (↑q8 : Int) ∧ Int.tmod q23 (↑q8 : Int) < (↑q8 : Int));
 let q9 := decF rPost (q19 + List.length q18 - nat_lit 1) fun i => appG q19 (fun _x _x_1 => AV.top) (fun i k => encF rPost q18 (q19 + i) k) (nat_lit 1 + i);
 let q11 := decide (List.length q4 ≤ q25);
 let q22 := Stm.before q1;
 let q28 := Stm.after q1;
 let q13 := cksV q6 a.2.1 q31 q26 (Stm.mk q22 q28 q4) == cksV q6 a.2.1 q31 q26 (Stm.mk q22 q28 q4);
 let q10 : T _ := .chk q5 <|
            .chk q5 <|
            .br q3 (
             .chk q11 <|
             .chk q11 <|
             .ret q13) (
             .ret (false));
 let q15 := decF rPost (List.length q18) fun i => encF rPost q18 (q19 + i);
 let q16 := cksV q6 a.2.1 q31 q26 (Stm.mk q22 q28 q2) == cksV q6 a.2.1 q31 q26 (Stm.mk q22 q28 q2);
 let q17 := decide (List.length q2 ≤ q25);
 let q21 := !decide ((↑q8 : Int) = (0 : Int));
 let q24 := Stm.mk (IntKind.wrap IntKind.i64 (Stm.before q1 + q34)) q28 q4;
 let q27 := Stm.mk q22 (IntKind.wrap IntKind.i64 (Stm.after q1 - q34)) q4;
 let q29 := decide ((↑q8 : Int) > (0 : Int));
 let q33 := Int.tmod q14 (6 : Int) == (4 : Int);
 let q35 := decide (List.length q9 ≤ q25);
 .br (!l_few q6) (
  .ret (true)) (
  .br (!l_lines q12) (
   .ret (true)) (
   .chk (decide (List.length q15 ≤ q25 ∧ List.length q15 ≤ q25)) <|
   .br (!decide (q15 = decF rPost (List.length q18) fun i => encF rPost q18 (q19 + i))) (
    .ret (false)) (
    .br (Stm.before q1 != Prod.fst (flatS q20)) (
     .ret (false)) (
     .br (Stm.after q1 != Stm.after q1) (
      .ret (false)) (
      .br (q20.2 != q20.2) (
       .ret (false)) (
       .chk (decide (q8 * (32 : Nat) ≤ (140737488355328 : Nat) ∧ q19 + List.length q18 ≤ nat_lit 9223372036854775807)) <|
       .br (Int.tmod q14 (6 : Int) == q34) (
        .chk q5 <|
        .chk q5 <|
        .br q3 (
         .chk q11 <|
         .chk q11 <|
         .ret (cksV q6 a.2.1 q31 q26 q24 == cksV q6 a.2.1 q31 q26 q24)) (
         .ret (false))) (
        .br (Int.tmod q14 (6 : Int) == (2 : Int)) (
         .chk q5 <|
         .chk q5 <|
         .br q3 (
          .chk q11 <|
          .chk q11 <|
          .ret (cksV q6 a.2.1 q31 q26 q27 == cksV q6 a.2.1 q31 q26 q27)) (
          .ret (false))) (
         .br (Int.tmod q14 (6 : Int) == (3 : Int)) (
          .br q29 (
           .chk (true && decide ((0 : Int) ≤ q34 ∧ q34 ≤ (↑q8 : Int))) <|
           .chk q5 <|
           .chk q5 <|
           .br q3 (
            .chk q35 <|
            .chk q35 <|
            .ret (cksV q6 a.2.1 q31 q26 (Stm.mk q22 q28 q9) == cksV q6 a.2.1 q31 q26 (Stm.mk q22 q28 q9))) (
            .ret (false))) (
           .br q33 (
            .br q29 (
             .chk q21 <|
             .chk q21 <|
             .chk q7 <|
             .chk q7 <|
             .chk q5 <|
             .chk q5 <|
             .br q3 (
              .chk q17 <|
              .chk q17 <|
              .ret q16) (
              .ret (false))) (
             .chk q5 <|
             .chk q5 <|
             .br q3 (
              .chk q11 <|
              .chk q11 <|
              .ret q13) (
              .ret (false)))) q10)) (
          .br q33 (
           .br q29 (
            .chk q21 <|
            .chk q21 <|
            .chk q7 <|
            .chk q7 <|
            .chk q5 <|
            .chk q5 <|
            .br q3 (
             .chk q17 <|
             .chk q17 <|
             .ret q16) (
             .ret (false))) q10) (
           .chk q5 <|
           .chk q5 <|
           .br q3 (
            .chk q11 <|
            .chk q11 <|
            .ret q13) (
            .ret (false))))))))))))) := fun a => by kernel_rfl
end Go.Proofs.YtelpdkojdfnmiaaGreat
/-! LLf -/
namespace Go.Proofs.YtelpdkojdfnmiaaGreat
open Ev K
set_option maxRecDepth 100000
namespace K
theorem lines_le {l : List Pst} (h : l_lines l = true) : l.length ≤ 1000000 := by
 unfold l_lines at h
 have h := of_decide_eq_true h
 unfold clampL maxL at h
 split at h <;> omega
theorem br_any {b : Bool} {t e : T Bool} {v : Option Bool} (h1 : b = true → t.run = v) (h2 : b = false → e.run = v) : (T.br b t e).run = v := by
 cases b with
 | true => exact h1 rfl
 | false => exact h2 rfl
theorem lwSs_eq (a : List Itm × Int × Span × Int × Stm × Int) : callT1 P BLAm2 30 12 D_lsts dB a = some true := by
 obtain ⟨l, acc, sp, known, s, what⟩ := a
 rw [fn_lwSs]
 have hlen := state_len l acc sp known
 obtain ⟨w1, w2⟩ := u8_range what
 have w3 : IntKind.i64.wrap (IntKind.u8.wrap what) = IntKind.u8.wrap what := w64_in (by omega) (by omega)
 simp only [Nat.zero_add, decF_encF, flatS, bne_self_eq_false, beq_self_eq_true, decF_length, w3]
 generalize IntKind.u8.wrap what = w at w1 w2
 generalize (stateV l acc sp known).1.lines.length = n at hlen
 have hmod : 0 < n → 0 ≤ Int.tmod w (n : Int) ∧ Int.tmod w (n : Int) < (n : Int) := fun h => by
  rw [Int.tmod_eq_emod_of_nonneg w1]
  exact ⟨Int.emod_nonneg _ (by omega), Int.emod_lt_of_pos _ (by omega)⟩
 refine br_any (fun _ => rfl) (fun _ => br_any (fun _ => rfl) (fun hli => ?_))
 have hs : s.lines.length ≤ 1000000 := lines_le (by simpa using hli)
 have h5 : decide (s.lines.length ≤ 1000000) = true := decide_eq_true hs
 have hn : decide (n ≤ 1000000) = true := decide_eq_true (by omega)
 have hn1 : decide (n - 1 ≤ 1000000) = true := decide_eq_true (by omega)
 have fin : ∀ c : Bool, c = true → T.run (.chk (decide (s.lines.length ≤ 1000000)) (.chk (decide (s.lines.length ≤ 1000000)) (.br true (.chk c (.chk c (.ret true))) (.ret false)))) = some true := fun c hc => chk_step h5 (chk_step h5 (br_t rfl (chk_step hc (chk_step hc rfl))))
 refine chk_step (decide_eq_true (by omega)) (br_f (by simp) (br_f rfl (br_f rfl (br_f rfl (chk_step (decide_eq_true (by omega)) ?_)))))
 have four : n > 0 → T.run (.chk (!decide ((n : Int) = 0)) (.chk (!decide ((n : Int) = 0)) (.chk (decide (0 ≤ Int.tmod w (n : Int) ∧ Int.tmod w (n : Int) < (n : Int))) (.chk (decide (0 ≤ Int.tmod w (n : Int) ∧ Int.tmod w (n : Int) < (n : Int))) (.chk (decide (s.lines.length ≤ 1000000)) (.chk (decide (s.lines.length ≤ 1000000)) (.br true (.chk (decide (n ≤ 1000000)) (.chk (decide (n ≤ 1000000)) (.ret true))) (.ret false)))))))) = some true := fun h => by
  have h0 : (!decide ((n : Int) = 0)) = true := by rw [decide_eq_false (by omega)]; rfl
  have h1 := decide_eq_true (hmod h)
  exact chk_step h0 (chk_step h0 (chk_step h1 (chk_step h1 (fin _ hn))))
 refine br_any (fun _ => fin _ hn) (fun _ => br_any (fun _ => fin _ hn) (fun _ => br_any (fun _ => ?_) (fun _ => ?_)))
 ·refine br_any (fun h => ?_) (fun h => br_any (fun _ => br_any (fun h2 => four (by have := of_decide_eq_true h2; omega)) (fun _ => fin _ hn)) (fun _ => fin _ hn))
  have h := of_decide_eq_true h
  exact chk_step (by rw [Bool.true_and]; exact decide_eq_true (by omega)) (fin _ hn1)
 ·exact br_any (fun _ => br_any (fun h2 => four (by have := of_decide_eq_true h2; omega)) (fun _ => fin _ hn)) (fun _ => fin _ hn)
end K
end Go.Proofs.YtelpdkojdfnmiaaGreat
