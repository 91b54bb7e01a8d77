/- Parts of the proof, one behind the other: TP5, TP6, TP7, TP8, TA1, Shelf, TA2, TA3, TA4, TA5, TA6, TA7, TA8, TB1, TB2, TB3, TB4, TB5, TB6, TB7, TB8, TB9, TC1, TC2. No conditions. -/
import Derived.Test.YtkpligkggnjcoaaGreatDoorTv7
import Derived.Shelf.SlIter.Nil
import Derived.Shelf.SortM.Plain
import Derived.Shelf.SortM.SortNone
import Derived.Shelf.Strings.Builder1
import Derived.Shelf.Strings.Builder2
import Derived.Shelf.Strings.OnBuilder
import Derived.Shelf.Small.Bits
import Derived.Shelf.Small.Strs
import Derived.Shelf.Small.Wraps
import Derived.Shelf.Strconv.Atoi
import Derived.Shelf.Strconv.Itoa0
import Derived.Shelf.Strconv.Itoa1
import Derived.Shelf.LaysM
import Derived.Shelf.Strconv.Itoa2
import Derived.Shelf.Strconv.Itoa3
import Derived.Shelf.Strconv.AtoiErrFast
import Derived.Shelf.Strconv.ParseIntEmpty
import Derived.Shelf.Strconv.AtoiFail
import Derived.Shelf.Strconv.Clone
import Derived.Shelf.Strconv.SyntaxError
import Derived.Shelf.LaysC
import Derived.Shelf.Strconv.ToError
import Derived.Shelf.Strconv.Lower
import Derived.Shelf.Strconv.ParseUint10
import Derived.Shelf.Strconv.ParseUint10Empty
import Derived.Shelf.Strconv.ParseUint10Any
import Derived.Shelf.Strconv.ParseInt10
import Derived.Shelf.Strconv.AtoiLong
import Derived.Shelf.Strconv.AtoiInnerAll
import Derived.Shelf.Strconv.RangeError
import Derived.Shelf.Strconv.ToErrorRange
import Derived.Shelf.Strconv.AtoiAll
import Derived.Shelf.Strconv.ErrVarAll
import Derived.Shelf.Strings.Search1
import Derived.Shelf.Sort.Plain
import Derived.Shelf.Strings.Fields
import Derived.Shelf.Unicode.Latin
import Derived.Shelf.Unicode.Is16White
import Derived.Shelf.Unicode.IsSpaceAny
import Derived.Shelf.Unicode.Is16Any
import Derived.Shelf.Unicode.Is32Any
import Derived.Shelf.Unicode.ExclAny
import Derived.Shelf.Slices.In.SortNone
import Derived.Test.YtkpligkggnjcoaaGreatDoorProg
import Derived.Shelf.SlIter.Keys
import Derived.Shelf.SlIter.Sorted
import Derived.WalkKit
/-! TP5 -/
namespace Go.Proofs.YtkpligkggnjcoaaGreatDoor
open Ev K
set_option maxRecDepth 100000
namespace K
theorem all_fold (l:List Rul) (d:Str) (c:List Lot):∀ a:Int,c.foldl (fun n x=>n+penceL l d x.grade x.mass) a=a+allL l d c:=by
 unfold allL
 have key:∀ (c:List Lot) (a b:Int),c.foldl (fun n x=>n+penceL l d x.grade x.mass) (a+b)=a+c.foldl (fun n x=>n+penceL l d x.grade x.mass) b:=by
  intro c
  induction c with
  | nil=>intro a b;rfl
  | cons x c ih=>intro a b;simp only [List.foldl_cons];rw [Int.add_assoc,ih]
 intro a
 have:=key c a 0
 rw [Int.add_zero] at this;exact this
theorem all_app (l:List Rul) (d:Str) (a b:List Lot):allL l d (a ++ b)=allL l d a+allL l d b:=by
 have:allL l d (a ++ b)=b.foldl (fun n x=>n+penceL l d x.grade x.mass) (allL l d a):=by unfold allL;rw [List.foldl_append]
 rw [this,all_fold]
theorem all_bd {l:List Rul} (h:∀ r ∈ l,rulOk r) (d:Str):∀ {c:List Lot},(∀ x ∈ c,0≤x.mass∧x.mass≤65536)→0≤allL l d c∧allL l d c≤c.length * (l.length * 4000000000)
 | [],_=>⟨Int.le_refl _,by simp [allL]⟩
 | x :: c,hc=>by
  have ih:=all_bd h d (c:=c) fun x hx=>hc x (List.mem_cons_of_mem _ hx)
  have hp:=pence_bd h d x.grade (hc x (List.mem_cons_self ..))
  have e:allL l d (x :: c)=penceL l d x.grade x.mass+allL l d c:=by
   show List.foldl _ _ (x :: c)=_
   rw [List.foldl_cons,all_fold,Int.zero_add]
  rw [e,List.length_cons]
  generalize (l.length:Int) * 4000000000=q at ih hp
  have:((c.length+1:Nat):Int) * q=c.length * q+q:=by rw [Int.natCast_add,Int.add_mul];simp
  omega
end K
end Go.Proofs.YtkpligkggnjcoaaGreatDoor
/-! TP6 -/
namespace Go.Proofs.YtkpligkggnjcoaaGreatDoor
open Ev K
set_option maxRecDepth 100000
namespace K
structure EdsOk (l:List Edn):Prop where
 len:l.length≤20
 id:∀ x ∈ l,1≤x.id∧x.id≤1099511627776
 frm:∀ x ∈ l,0≤x.frm∧x.frm≤728
 ids:l.Pairwise fun x y=>x.id≠y.id
 asc:l.Pairwise fun x y=>x.frm<y.frm
 tar:∀ x ∈ l,checkT x.rules=0
theorem findSome_none {α β:Type} {f:α→Option β} {l:List α} (h:l.findSome? f=none):∀ x ∈ l,f x=none:=by
 intro x hx
 exact List.findSome?_eq_none_iff.1 h x hx
end K
end Go.Proofs.YtkpligkggnjcoaaGreatDoor
/-! TP7 -/
namespace Go.Proofs.YtkpligkggnjcoaaGreatDoor
open Ev K
set_option maxRecDepth 100000
namespace K
end K
end Go.Proofs.YtkpligkggnjcoaaGreatDoor
/-! TP8 -/
namespace Go.Proofs.YtkpligkggnjcoaaGreatDoor
open Ev K
set_option maxRecDepth 100000
namespace K
end K
end Go.Proofs.YtkpligkggnjcoaaGreatDoor
/-! TA1 -/
namespace Go.Proofs.YtkpligkggnjcoaaGreatDoor
open Ev K
set_option maxRecDepth 100000
def D_u8:=DecL.last (dI .u8) 0
def D3:=DecL.cons dInt (.cons dInt (.last dInt 0))
def D_s1:=DecL.last dInt 0
def D_s:=DecL.last dS 0
def D_ss:=DecL.cons (dRows rStr) (.last dS 0)
theorem fn_a_letter:∀ a,(callT1 P B0 30 128 D_u8 dB) a=T.run (
 .br (decide (a ≥ (97:Int))) (
  .ret (decide (a≤(122:Int)))) (
  .ret (false))):=fun a=>by kernel_rfl
noncomputable def K.a_letter (a:Int):Bool:=(if (decide (a ≥ (97:Int)))=true then decide (a≤(122:Int)) else false)
theorem eq_a_letter (a:Int):(callT1 P B0 30 128 D_u8 dB) a=some (K.a_letter a):=(fn_a_letter a).trans (T.br_some rfl rfl)
noncomputable def BTA11:Tab:=B0.addCall 128 (callE D_u8 dB (fun a=>.ret (K.a_letter a)))
theorem tTA11:TabOk P BTA11:=TabOk.addFn (d:=30) okP t0 (fun a r h=>by rw [eq_a_letter];exact congrArg some (ret_some h))
theorem fn_a_digit:∀ a,(callT1 P BTA11 30 131 D_u8 dB) a=T.run (
 .br (decide (a ≥ (48:Int))) (
  .ret (decide (a≤(57:Int)))) (
  .ret (false))):=fun a=>by kernel_rfl
noncomputable def K.a_digit (a:Int):Bool:=(if (decide (a ≥ (48:Int)))=true then decide (a≤(57:Int)) else false)
theorem eq_a_digit (a:Int):(callT1 P BTA11 30 131 D_u8 dB) a=some (K.a_digit a):=(fn_a_digit a).trans (T.br_some rfl rfl)
noncomputable def BTA12:Tab:=BTA11.addCall 131 (callE D_u8 dB (fun a=>.ret (K.a_digit a)))
theorem tTA12:TabOk P BTA12:=TabOk.addFn (d:=30) okP tTA11 (fun a r h=>by rw [eq_a_digit];exact congrArg some (ret_some h))
theorem fn_a_plain:∀ a,(callT1 P BTA12 30 129 D_u8 dB) a=T.run (
 .br (a_letter a) (
  .ret (true)) (
  .ret (a_digit a))):=fun a=>by kernel_rfl
noncomputable def K.a_plain (a:Int):Bool:=(if (a_letter a)=true then true else a_digit a)
theorem eq_a_plain (a:Int):(callT1 P BTA12 30 129 D_u8 dB) a=some (K.a_plain a):=(fn_a_plain a).trans (T.br_some rfl rfl)
noncomputable def BTA13:Tab:=BTA12.addCall 129 (callE D_u8 dB (fun a=>.ret (K.a_plain a)))
theorem tTA13:TabOk P BTA13:=TabOk.addFn (d:=30) okP tTA12 (fun a r h=>by rw [eq_a_plain];exact congrArg some (ret_some h))
theorem fn_a_within:∀ a,(callT1 P BTA13 30 95 D3 dB) a=T.run (
 .br (decide (a.2.1≤a.1)) (
  .ret (decide (a.1≤a.2.2))) (
  .ret (false))):=fun a=>by kernel_rfl
noncomputable def K.a_within (a:Int × Int × Int):Bool:=(if (decide (a.2.1≤a.1))=true then decide (a.1≤a.2.2) else false)
theorem eq_a_within (a:Int × Int × Int):(callT1 P BTA13 30 95 D3 dB) a=some (K.a_within a):=(fn_a_within a).trans (T.br_some rfl rfl)
noncomputable def BTA14:Tab:=BTA13.addCall 95 (callE D3 dB (fun a=>.ret (K.a_within a)))
theorem tTA14:TabOk P BTA14:=TabOk.addFn (d:=30) okP tTA13 (fun a r h=>by rw [eq_a_within];exact congrArg some (ret_some h))
theorem fn_a_small:∀ a,(callT1 P BTA14 30 141 D_u8 dB) a=T.run (
 .br (decide (a ≥ (97:Int))) (
  .ret (decide (a≤(122:Int)))) (
  .ret (false))):=fun a=>by kernel_rfl
noncomputable def K.a_small (a:Int):Bool:=(if (decide (a ≥ (97:Int)))=true then decide (a≤(122:Int)) else false)
theorem eq_a_small (a:Int):(callT1 P BTA14 30 141 D_u8 dB) a=some (K.a_small a):=(fn_a_small a).trans (T.br_some rfl rfl)
noncomputable def BTA15:Tab:=BTA14.addCall 141 (callE D_u8 dB (fun a=>.ret (K.a_small a)))
theorem tTA15:TabOk P BTA15:=TabOk.addFn (d:=30) okP tTA14 (fun a r h=>by rw [eq_a_small];exact congrArg some (ret_some h))
theorem fn_a_rdigit:∀ a,(callT1 P BTA15 30 142 D_u8 dB) a=T.run (
 .br (decide (a ≥ (48:Int))) (
  .ret (decide (a≤(57:Int)))) (
  .ret (false))):=fun a=>by kernel_rfl
noncomputable def K.a_rdigit (a:Int):Bool:=(if (decide (a ≥ (48:Int)))=true then decide (a≤(57:Int)) else false)
theorem eq_a_rdigit (a:Int):(callT1 P BTA15 30 142 D_u8 dB) a=some (K.a_rdigit a):=(fn_a_rdigit a).trans (T.br_some rfl rfl)
noncomputable def BTA16:Tab:=BTA15.addCall 142 (callE D_u8 dB (fun a=>.ret (K.a_rdigit a)))
theorem tTA16:TabOk P BTA16:=TabOk.addFn (d:=30) okP tTA15 (fun a r h=>by rw [eq_a_rdigit];exact congrArg some (ret_some h))
theorem fn_a_mass:∀ a,(callT1 P BTA16 30 98 D_s1 dB) a=T.run (
 .br (decide (a ≥ (0:Int))) (
  .ret (decide (a≤(65536:Int)))) (
  .ret (false))):=fun a=>by kernel_rfl
noncomputable def K.a_mass (a:Int):Bool:=(if (decide (a ≥ (0:Int)))=true then decide (a≤(65536:Int)) else false)
theorem eq_a_mass (a:Int):(callT1 P BTA16 30 98 D_s1 dB) a=some (K.a_mass a):=(fn_a_mass a).trans (T.br_some rfl rfl)
noncomputable def BTA17:Tab:=BTA16.addCall 98 (callE D_s1 dB (fun a=>.ret (K.a_mass a)))
theorem tTA17:TabOk P BTA17:=TabOk.addFn (d:=30) okP tTA16 (fun a r h=>by rw [eq_a_mass];exact congrArg some (ret_some h))
theorem fn_a_day:∀ a,(callT1 P BTA17 30 107 D_s1 dB) a=T.run (
 .br (decide (a ≥ (0:Int))) (
  .ret (decide (a≤(728:Int)))) (
  .ret (false))):=fun a=>by kernel_rfl
noncomputable def K.a_day (a:Int):Bool:=(if (decide (a ≥ (0:Int)))=true then decide (a≤(728:Int)) else false)
theorem eq_a_day (a:Int):(callT1 P BTA17 30 107 D_s1 dB) a=some (K.a_day a):=(fn_a_day a).trans (T.br_some rfl rfl)
noncomputable def BTA18:Tab:=BTA17.addCall 107 (callE D_s1 dB (fun a=>.ret (K.a_day a)))
theorem tTA18:TabOk P BTA18:=TabOk.addFn (d:=30) okP tTA17 (fun a r h=>by rw [eq_a_day];exact congrArg some (ret_some h))
theorem fn_a_rres:∀ a,(callT1 P BTA18 30 194 D_s dB) a=T.run (
 let q1:=(101:UInt8);
 let q2:=(111:UInt8);
 let q3:=(97:UInt8);
 let q4:=(116:UInt8);
 let q5:=(117:UInt8);
 let q6:=(112:UInt8);
 let q7:=(114:UInt8);
 let q8:=(110:UInt8);
  .br (a == [(100:UInt8),q5,q1]) (
    .ret (true)) (
    .br (a == [q2,(102:UInt8)]) (
      .ret (true)) (
      .br (a == [(102:UInt8),(108:UInt8),q3,q4]) (
        .ret (true)) (
        .br (a == [q6,q1,q7]) (
          .ret (true)) (
          .br (a == [q6,q3,(121:UInt8)]) (
            .ret (true)) (
            .br (a == [q3,(98:UInt8),q2,(118:UInt8),q1]) (
              .ret (true)) (
              .br (a == [q5,q6,q4,q2]) (
                .ret (true)) (
                .br (a == [q7,q1,(98:UInt8),q3,q4,q1]) (
                  .ret (true)) (
                  .br (a == [(105:UInt8),q8]) (
                    .ret (true)) (
                    .br (a == [(108:UInt8),q1,q3,(115:UInt8),q4]) (
                      .ret (true)) (
                      .br (a == [(109:UInt8),q2,(115:UInt8),q4]) (
                        .ret (true)) (
                        .br (a == [q7,q2,q5,q8,(100:UInt8)]) (
                          .ret (true)) (
                          .br (a == [q5,q6]) (
                            .ret (true)) (
                            .br (a == [(100:UInt8),q2,(119:UInt8),q8]) (
                              .ret (true)) (
                              .br (a == [q8,q1,q3,q7]) (
                                .ret (true)) (
                                .ret (false))))))))))))))))):=fun a=>by kernel_rfl
noncomputable def K.a_rres (a:List UInt8):Bool:=(if (a == [(100:UInt8),(117:UInt8),(101:UInt8)])=true then true else (if (a == [(111:UInt8),(102:UInt8)])=true then true else (if (a == [(102:UInt8),(108:UInt8),(97:UInt8),(116:UInt8)])=true then true else (if (a == [(112:UInt8),(101:UInt8),(114:UInt8)])=true then true else (if (a == [(112:UInt8),(97:UInt8),(121:UInt8)])=true then true else (if (a == [(97:UInt8),(98:UInt8),(111:UInt8),(118:UInt8),(101:UInt8)])=true then true else (if (a == [(117:UInt8),(112:UInt8),(116:UInt8),(111:UInt8)])=true then true else (if (a == [(114:UInt8),(101:UInt8),(98:UInt8),(97:UInt8),(116:UInt8),(101:UInt8)])=true then true else (if (a == [(105:UInt8),(110:UInt8)])=true then true else (if (a == [(108:UInt8),(101:UInt8),(97:UInt8),(115:UInt8),(116:UInt8)])=true then true else (if (a == [(109:UInt8),(111:UInt8),(115:UInt8),(116:UInt8)])=true then true else (if (a == [(114:UInt8),(111:UInt8),(117:UInt8),(110:UInt8),(100:UInt8)])=true then true else (if (a == [(117:UInt8),(112:UInt8)])=true then true else (if (a == [(100:UInt8),(111:UInt8),(119:UInt8),(110:UInt8)])=true then true else (if (a == [(110:UInt8),(101:UInt8),(97:UInt8),(114:UInt8)])=true then true else false)))))))))))))))
theorem eq_a_rres (a:List UInt8):(callT1 P BTA18 30 194 D_s dB) a=some (K.a_rres a):=(fn_a_rres a).trans (T.br_some rfl (T.br_some rfl (T.br_some rfl (T.br_some rfl (T.br_some rfl (T.br_some rfl (T.br_some rfl (T.br_some rfl (T.br_some rfl (T.br_some rfl (T.br_some rfl (T.br_some rfl (T.br_some rfl (T.br_some rfl (T.br_some rfl rfl)))))))))))))))
noncomputable def BTA19:Tab:=BTA18.addCall 194 (callE D_s dB (fun a=>.ret (K.a_rres a)))
theorem tTA19:TabOk P BTA19:=TabOk.addFn (d:=30) okP tTA18 (fun a r h=>by rw [eq_a_rres];exact congrArg some (ret_some h))
def F_plain:Dec Unit:=dFn 129 (.tops 0)
def F_digit:Dec Unit:=dFn 131 (.tops 0)
def X_run:=DecX.one (.exit 0) [1] (DecS.mk0 (.skip (.last (dInt) 19)) .nil)
def S_rp:=DecS.mk0 (.cons (dS) (.cons (dInt) (.unit (F_plain) (.tops 18)))) .nil
noncomputable def K.st_rp:=loopT1 P BTA19 30 126 9 [1,0,2] S_rp X_run
theorem sl_rp:∀ s,(K.st_rp) s=T.run (
 .br (decide (s.1.2.1<(↑(List.length s.1.1):Int))) (
  .chk (decide ((0:Int)≤s.1.2.1∧s.1.2.1<(↑(List.length s.1.1):Int))) <|
  .br (a_plain (↑(↑(BitVec.toFin (UInt8.toBitVec (Option.getD s.1.1[Int.toNat s.1.2.1]? (0:UInt8)))):Nat):Int)) (
   .ret (Sum.inl ((s.1.1,IntKind.wrap IntKind.i64 (s.1.2.1+(1:Int)),PUnit.unit),PUnit.unit))) (
   .ret (Sum.inr (s.1.2.1,PUnit.unit)))) (
  .ret (Sum.inr (s.1.2.1,PUnit.unit)))):=fun s=>by kernel_rfl
noncomputable def K.L_rp:=lim K.st_rp
noncomputable def BTA110:Tab:=BTA19.addNode 126 9 (nodeE [1,0,2] S_rp X_run (fun s=>.obs (K.L_rp s) .ret))
theorem tTA110:TabOk P BTA110:=TabOk.addLoop (d:=30) okP tTA19 (by kernel_rfl) (by kernel_rfl) (fun s r h=>obs_ret h)
def S_rd:=DecS.mk0 (.cons (dS) (.cons (dInt) (.unit (F_digit) (.tops 18)))) .nil
noncomputable def K.st_rd:=loopT1 P BTA110 30 126 9 [1,0,2] S_rd X_run
theorem sl_rd:∀ s,(K.st_rd) s=T.run (
 .br (decide (s.1.2.1<(↑(List.length s.1.1):Int))) (
  .chk (decide ((0:Int)≤s.1.2.1∧s.1.2.1<(↑(List.length s.1.1):Int))) <|
  .br (a_digit (↑(↑(BitVec.toFin (UInt8.toBitVec (Option.getD s.1.1[Int.toNat s.1.2.1]? (0:UInt8)))):Nat):Int)) (
   .ret (Sum.inl ((s.1.1,IntKind.wrap IntKind.i64 (s.1.2.1+(1:Int)),PUnit.unit),PUnit.unit))) (
   .ret (Sum.inr (s.1.2.1,PUnit.unit)))) (
  .ret (Sum.inr (s.1.2.1,PUnit.unit)))):=fun s=>by kernel_rfl
noncomputable def K.L_rd:=lim K.st_rd
noncomputable def BTA111:Tab:=BTA110.addNode 126 9 (nodeE [1,0,2] S_rd X_run (fun s=>.obs (K.L_rd s) .ret))
theorem tTA111:TabOk P BTA111:=TabOk.addLoop (d:=30) okP tTA110 (by kernel_rfl) (by kernel_rfl) (fun s r h=>obs_ret h)
def D_rp:=DecL.cons dS (.cons dInt (.unit F_plain (.tops 0)))
def D_rd:=DecL.cons dS (.cons dInt (.unit F_digit (.tops 0)))
theorem fn_rp:∀ a,(callT1 P BTA111 30 126 D_rp dInt) a=T.run (
 .obs (L_rp ((a.1,a.2.1,PUnit.unit),PUnit.unit)) fun x0=>
  .ret x0.1):=fun a=>by kernel_rfl
theorem fn_rd:∀ a,(callT1 P BTA111 30 126 D_rd dInt) a=T.run (
 .obs (L_rd ((a.1,a.2.1,PUnit.unit),PUnit.unit)) fun x0=>
  .ret x0.1):=fun a=>by kernel_rfl
def X_ix:=DecX.or (DecX.one (.exit 0) [] (DecS.mk0 (.tops 19) .nil)) (DecX.one .ret [4] (DecS.mk0 (.skips 4 (.last (dInt) 14)) .nil))
def S_ix:=DecS.mk0 (.cons (dRows rStr) (.cons (dS) (.skips 5 (.cons (dInt) (.last (dInt) 10))))) .nil
noncomputable def K.st_ix:=loopT1 P BTA111 30 192 17 [8,0,1,7] S_ix X_ix
theorem sl_ix:∀ s,(K.st_ix) s=T.run (
 .br (decide (s.1.2.2.2<s.1.2.2.1)) (
  .chk (decide ((0:Int)≤s.1.2.2.2∧s.1.2.2.2<(↑(List.length s.1.1):Int))) <|
  .br (s.1.2.1 == textOf (encF rStr s.1.1 ((0:Nat)+Int.toNat s.1.2.2.2) (0:Nat))) (
   .ret (Sum.inr (Sum.inr (s.1.2.2.2,PUnit.unit)))) (
   .ret (Sum.inl ((decF rStr (List.length s.1.1) fun i=>encF rStr s.1.1 ((0:Nat)+i),s.1.2.1,s.1.2.2.1,IntKind.wrap IntKind.i64 (s.1.2.2.2+(1:Int))),PUnit.unit)))) (
  .ret (Sum.inr (Sum.inl (PUnit.unit,PUnit.unit))))):=fun s=>by kernel_rfl
noncomputable def K.L_ix:=lim K.st_ix
noncomputable def BTA112:Tab:=BTA111.addNode 192 17 (nodeE [8,0,1,7] S_ix X_ix (fun s=>.obs (K.L_ix s) .ret))
theorem tTA112:TabOk P BTA112:=TabOk.addLoop (d:=30) okP tTA111 (by kernel_rfl) (by kernel_rfl) (fun s r h=>obs_ret h)
theorem fn_ix:∀ a,(callT1 P BTA112 30 192 D_ss dInt) a=T.run (
 .obs (L_ix ((decF rStr (List.length a.1) fun i=>encF rStr a.1 ((0:Nat)+i),a.2,(↑(clampL (List.length a.1)):Int),(0:Int)),PUnit.unit)) fun x0=>
  .sum (x0) (fun _=>
   .ret ((-1:Int))) (fun x1=>
   .ret x1.1)):=fun a=>by kernel_rfl
end Go.Proofs.YtkpligkggnjcoaaGreatDoor
/-! Shelf -/
namespace Go.Proofs
open Go.Shelf
def Tryz.lays137_ren:Go.Shelf.Ren:=⟨fun | 137=>133 | 217=>187 | 266=>213 | n=>n,fun | 9=>9 | 5=>5 | 3=>3 | n=>n,fun | n=>n⟩
theorem Tryz.lays137:Go.Proofs.Lays.n137 Tryz.prog Tryz.lays137_ren:={
 mixed:=by kernel_rfl
 f137:=Tryz.func133.trans (congrArg some (by kernel_rfl))
 f217:=Tryz.func187.trans (congrArg some (by kernel_rfl))
 f266:=Tryz.func213.trans (congrArg some (by kernel_rfl))
 t3:=Tryz.underlying3
 a3:=Tryz.isAgg3
 z3:=Tryz.sizeOf3
 v3:=Tryz.zeroValue3
 t5:=Tryz.underlying5
 a5:=Tryz.isAgg5
 z5:=Tryz.sizeOf5
 v5:=Tryz.zeroValue5
 t9:=Tryz.underlying9
 a9:=Tryz.isAgg9
 z9:=Tryz.sizeOf9
 v9:=Tryz.zeroValue9 }
open Go.RowKit in
def Tryz.laysC172_ren:Go.Shelf.Ren:=⟨fun | 172=>186 | 244=>211 | 245=>212 | 247=>224 | 279=>225 | 280=>226 | 281=>227 | 282=>228 | 287=>241 | 316=>242 | 171=>167 | 205=>243 | 321=>259 | 322=>260 | 243=>203 | 246=>218 | 283=>231 | 284=>232 | 285=>233 | 286=>234 | 129=>245 | 317=>244 | 318=>246 | 319=>247 | 320=>248 | 337=>261 | 338=>262 | n=>n,fun | 9=>9 | 3=>3 | 75=>242 | 76=>243 | 4=>4 | 5=>5 | 167=>275 | 37=>250 | 0=>0 | 85=>276 | 2=>2 | 168=>278 | 53=>285 | 175=>304 | 46=>268 | 210=>308 | 127=>265 | 145=>328 | 143=>326 | 21=>21 | 171=>284 | 173=>288 | 212=>311 | 51=>272 | 20=>20 | 213=>312 | 232=>335 | 233=>336 | 80=>147 | n=>n,fun | 15=>3 | 16=>4 | 17=>5 | 18=>6 | 19=>7 | n=>n⟩
theorem Tryz.laysC172:Go.Proofs.LaysC.n172 Tryz.prog Tryz.laysC172_ren:={
 mixed:=by kernel_rfl
 f129:=Tryz.func245.trans (congrArg some (by kernel_rfl))
 f171:=Tryz.func167.trans (congrArg some (by kernel_rfl))
 f172:=Tryz.func186.trans (congrArg some (by kernel_rfl))
 f205:=Tryz.func243.trans (congrArg some (by kernel_rfl))
 f243:=Tryz.func203.trans (congrArg some (by kernel_rfl))
 f244:=Tryz.func211.trans (congrArg some (by kernel_rfl))
 f245:=Tryz.func212.trans (congrArg some (by kernel_rfl))
 f246:=Tryz.func218.trans (congrArg some (by kernel_rfl))
 f247:=Tryz.func224.trans (congrArg some (by kernel_rfl))
 f279:=Tryz.func225.trans (congrArg some (by kernel_rfl))
 f280:=Tryz.func226.trans (congrArg some (by kernel_rfl))
 f281:=Tryz.func227.trans (congrArg some (by kernel_rfl))
 f282:=Tryz.func228.trans (congrArg some (by kernel_rfl))
 f283:=Tryz.func231.trans (congrArg some (by kernel_rfl))
 f284:=Tryz.func232.trans (congrArg some (by kernel_rfl))
 f285:=Tryz.func233.trans (congrArg some (by kernel_rfl))
 f286:=Tryz.func234.trans (congrArg some (by kernel_rfl))
 f287:=Tryz.func241.trans (congrArg some (by kernel_rfl))
 f316:=Tryz.func242.trans (congrArg some (by kernel_rfl))
 f317:=Tryz.func244.trans (congrArg some (by kernel_rfl))
 f318:=Tryz.func246.trans (congrArg some (by kernel_rfl))
 f319:=Tryz.func247.trans (congrArg some (by kernel_rfl))
 f320:=Tryz.func248.trans (congrArg some (by kernel_rfl))
 f321:=Tryz.func259.trans (congrArg some (by kernel_rfl))
 f322:=Tryz.func260.trans (congrArg some (by kernel_rfl))
 f337:=Tryz.func261.trans (congrArg some (by kernel_rfl))
 f338:=Tryz.func262.trans (congrArg some (by kernel_rfl))
 t0:=Tryz.underlying0
 a0:=Tryz.isAgg0
 z0:=Tryz.sizeOf0
 v0:=Tryz.zeroValue0
 t2:=Tryz.underlying2
 a2:=Tryz.isAgg2
 z2:=Tryz.sizeOf2
 v2:=Tryz.zeroValue2
 t3:=Tryz.underlying3
 a3:=Tryz.isAgg3
 z3:=Tryz.sizeOf3
 v3:=Tryz.zeroValue3
 t4:=Tryz.underlying4
 a4:=Tryz.isAgg4
 z4:=Tryz.sizeOf4
 v4:=Tryz.zeroValue4
 t5:=Tryz.underlying5
 a5:=Tryz.isAgg5
 z5:=Tryz.sizeOf5
 v5:=Tryz.zeroValue5
 t9:=Tryz.underlying9
 a9:=Tryz.isAgg9
 z9:=Tryz.sizeOf9
 v9:=Tryz.zeroValue9
 t20:=Tryz.underlying20
 a20:=Tryz.isAgg20
 z20:=Tryz.sizeOf20
 v20:=Tryz.zeroValue20
 t21:=Tryz.underlying21
 a21:=Tryz.isAgg21
 z21:=Tryz.sizeOf21
 v21:=Tryz.zeroValue21
 t37:=Tryz.underlying250
 a37:=Tryz.isAgg250
 z37:=Tryz.sizeOf250
 v37:=Tryz.zeroValue250
 t46:=Tryz.underlying268
 a46:=Tryz.isAgg268
 z46:=Tryz.sizeOf268
 v46:=Tryz.zeroValue268
 t51:=Tryz.underlying272
 a51:=Tryz.isAgg272
 z51:=Tryz.sizeOf272
 v51:=Tryz.zeroValue272
 t53:=Tryz.underlying285
 a53:=Tryz.isAgg285
 z53:=Tryz.sizeOf285
 v53:=Tryz.zeroValue285
 t75:=Tryz.underlying242
 a75:=Tryz.isAgg242
 z75:=Tryz.sizeOf242
 v75:=Tryz.zeroValue242
 t76:=Tryz.underlying243
 a76:=Tryz.isAgg243
 z76:=Tryz.sizeOf243
 v76:=Tryz.zeroValue243
 t85:=Tryz.underlying276
 a85:=Tryz.isAgg276
 z85:=Tryz.sizeOf276
 v85:=Tryz.zeroValue276
 t127:=Tryz.underlying265
 a127:=Tryz.isAgg265
 z127:=Tryz.sizeOf265
 v127:=Tryz.zeroValue265
 t143:=Tryz.underlying326
 a143:=Tryz.isAgg326
 z143:=Tryz.sizeOf326
 v143:=Tryz.zeroValue326
 t145:=Tryz.underlying328
 a145:=Tryz.isAgg328
 z145:=Tryz.sizeOf328
 v145:=Tryz.zeroValue328
 t167:=Tryz.underlying275
 a167:=Tryz.isAgg275
 z167:=Tryz.sizeOf275
 v167:=Tryz.zeroValue275
 t168:=Tryz.underlying278
 a168:=Tryz.isAgg278
 z168:=Tryz.sizeOf278
 v168:=Tryz.zeroValue278
 t171:=Tryz.underlying284
 a171:=Tryz.isAgg284
 z171:=Tryz.sizeOf284
 v171:=Tryz.zeroValue284
 t173:=Tryz.underlying288
 a173:=Tryz.isAgg288
 z173:=Tryz.sizeOf288
 v173:=Tryz.zeroValue288
 t175:=Tryz.underlying304
 a175:=Tryz.isAgg304
 z175:=Tryz.sizeOf304
 v175:=Tryz.zeroValue304
 t210:=Tryz.underlying308
 a210:=Tryz.isAgg308
 z210:=Tryz.sizeOf308
 v210:=Tryz.zeroValue308
 t212:=Tryz.underlying311
 a212:=Tryz.isAgg311
 z212:=Tryz.sizeOf311
 v212:=Tryz.zeroValue311
 t213:=Tryz.underlying312
 a213:=Tryz.isAgg312
 z213:=Tryz.sizeOf312
 t232:=Tryz.underlying335
 a232:=Tryz.isAgg335
 z232:=Tryz.sizeOf335
 v232:=Tryz.zeroValue335
 t233:=Tryz.underlying336
 a233:=Tryz.isAgg336
 z233:=Tryz.sizeOf336
 v233:=Tryz.zeroValue336
 g15:=by kernel_rfl
 g16:=by kernel_rfl
 g17:=by kernel_rfl
 g18:=by kernel_rfl
 g19:=by kernel_rfl
 t80:=Tryz.underlying147
 a80:=Tryz.isAgg147
 z80:=Tryz.sizeOf147
 v80:=Tryz.zeroValue147
 i0:=by kernel_rfl
 i2:=by kernel_rfl
 i3:=by kernel_rfl
 i4:=by kernel_rfl
 i5:=by kernel_rfl
 i9:=by kernel_rfl
 i20:=by kernel_rfl
 i21:=by kernel_rfl
 i37:=by kernel_rfl
 i46:=by kernel_rfl
 i51:=by kernel_rfl
 i53:=by kernel_rfl
 i75:=by kernel_rfl
 i76:=by kernel_rfl
 i80:=by kernel_rfl
 i85:=by kernel_rfl
 i127:=by kernel_rfl
 i143:=by kernel_rfl
 i145:=by kernel_rfl
 i167:=by kernel_rfl
 i168:=by kernel_rfl
 i171:=by kernel_rfl
 i173:=by kernel_rfl
 i175:=by kernel_rfl
 i210:=by kernel_rfl
 i212:=by kernel_rfl
 i232:=by kernel_rfl
 i233:=by kernel_rfl
 m15:=by kernel_rfl
 m16:=by kernel_rfl
 m17:=by kernel_rfl
 m18:=by kernel_rfl
 m19:=by kernel_rfl
 c0:=by kernel_rfl
 c2:=by kernel_rfl
 c3:=by kernel_rfl
 c4:=by kernel_rfl
 c5:=by kernel_rfl
 c9:=by kernel_rfl
 c20:=by kernel_rfl
 c21:=by kernel_rfl
 c37:=by kernel_rfl
 c46:=by kernel_rfl
 c51:=by kernel_rfl
 c53:=by kernel_rfl
 c75:=by kernel_rfl
 c76:=by kernel_rfl
 c80:=by kernel_rfl
 c85:=by kernel_rfl
 c127:=by kernel_rfl
 c143:=by kernel_rfl
 c145:=by kernel_rfl
 c167:=by kernel_rfl
 c168:=by kernel_rfl
 c171:=by kernel_rfl
 c173:=by kernel_rfl
 c175:=by kernel_rfl
 c210:=by kernel_rfl
 c212:=by kernel_rfl
 c213:=by kernel_rfl
 c232:=by kernel_rfl
 c233:=by kernel_rfl }
open Go.RowKit in
def Tryz.lays157_ren:Go.Shelf.Ren:=⟨fun | 157=>185 | 229=>209 | 199=>210 | 261=>223 | 311=>239 | 312=>240 | n=>n,fun | 9=>9 | 31=>65 | 3=>3 | 5=>5 | 4=>4 | 119=>261 | 0=>0 | 40=>263 | 152=>269 | 21=>21 | 154=>271 | 51=>272 | 141=>274 | 196=>296 | 193=>293 | 198=>299 | 49=>297 | 194=>294 | 201=>302 | 226=>323 | 46=>268 | 227=>324 | n=>n,fun | 0=>0 | 6=>1 | n=>n⟩
theorem Tryz.lays157:Go.Proofs.Lays.n157 Tryz.prog Tryz.lays157_ren:={
 mixed:=by kernel_rfl
 f157:=Tryz.func185.trans (congrArg some (by kernel_rfl))
 f199:=Tryz.func210.trans (congrArg some (by kernel_rfl))
 f229:=Tryz.func209.trans (congrArg some (by kernel_rfl))
 f261:=Tryz.func223.trans (congrArg some (by kernel_rfl))
 f311:=Tryz.func239.trans (congrArg some (by kernel_rfl))
 f312:=Tryz.func240.trans (congrArg some (by kernel_rfl))
 t0:=Tryz.underlying0
 a0:=Tryz.isAgg0
 z0:=Tryz.sizeOf0
 v0:=Tryz.zeroValue0
 t3:=Tryz.underlying3
 a3:=Tryz.isAgg3
 z3:=Tryz.sizeOf3
 v3:=Tryz.zeroValue3
 t4:=Tryz.underlying4
 a4:=Tryz.isAgg4
 z4:=Tryz.sizeOf4
 v4:=Tryz.zeroValue4
 t5:=Tryz.underlying5
 a5:=Tryz.isAgg5
 z5:=Tryz.sizeOf5
 v5:=Tryz.zeroValue5
 t9:=Tryz.underlying9
 a9:=Tryz.isAgg9
 z9:=Tryz.sizeOf9
 v9:=Tryz.zeroValue9
 t21:=Tryz.underlying21
 a21:=Tryz.isAgg21
 z21:=Tryz.sizeOf21
 v21:=Tryz.zeroValue21
 t31:=Tryz.underlying65
 a31:=Tryz.isAgg65
 z31:=Tryz.sizeOf65
 v31:=Tryz.zeroValue65
 t40:=Tryz.underlying263
 a40:=Tryz.isAgg263
 z40:=Tryz.sizeOf263
 v40:=Tryz.zeroValue263
 t46:=Tryz.underlying268
 a46:=Tryz.isAgg268
 z46:=Tryz.sizeOf268
 v46:=Tryz.zeroValue268
 t49:=Tryz.underlying297
 a49:=Tryz.isAgg297
 z49:=Tryz.sizeOf297
 v49:=Tryz.zeroValue297
 t51:=Tryz.underlying272
 a51:=Tryz.isAgg272
 z51:=Tryz.sizeOf272
 v51:=Tryz.zeroValue272
 t119:=Tryz.underlying261
 a119:=Tryz.isAgg261
 z119:=Tryz.sizeOf261
 t141:=Tryz.underlying274
 a141:=Tryz.isAgg274
 z141:=Tryz.sizeOf274
 v141:=Tryz.zeroValue274
 t152:=Tryz.underlying269
 a152:=Tryz.isAgg269
 z152:=Tryz.sizeOf269
 v152:=Tryz.zeroValue269
 t154:=Tryz.underlying271
 a154:=Tryz.isAgg271
 z154:=Tryz.sizeOf271
 v154:=Tryz.zeroValue271
 t193:=Tryz.underlying293
 a193:=Tryz.isAgg293
 z193:=Tryz.sizeOf293
 v193:=Tryz.zeroValue293
 t194:=Tryz.underlying294
 a194:=Tryz.isAgg294
 z194:=Tryz.sizeOf294
 v194:=Tryz.zeroValue294
 t196:=Tryz.underlying296
 a196:=Tryz.isAgg296
 z196:=Tryz.sizeOf296
 v196:=Tryz.zeroValue296
 t198:=Tryz.underlying299
 a198:=Tryz.isAgg299
 z198:=Tryz.sizeOf299
 v198:=Tryz.zeroValue299
 t201:=Tryz.underlying302
 a201:=Tryz.isAgg302
 z201:=Tryz.sizeOf302
 v201:=Tryz.zeroValue302
 t226:=Tryz.underlying323
 a226:=Tryz.isAgg323
 z226:=Tryz.sizeOf323
 v226:=Tryz.zeroValue323
 t227:=Tryz.underlying324
 a227:=Tryz.isAgg324
 z227:=Tryz.sizeOf324
 v227:=Tryz.zeroValue324
 g0:=by kernel_rfl
 g6:=by kernel_rfl }
open Go.RowKit Go.Lib in
def Tryz.keysI_ren:Go.Shelf.Ren:=⟨fun | 7=>205 | 10=>221 | n=>n,fun | 23=>231 | 26=>9 | 3=>4 | 28=>256 | 0=>0 | 27=>255 | 33=>33 | 4=>4 | n=>n,fun | n=>n⟩
theorem Tryz.keysI:Go.Proofs.SlLaysZ.n7 Tryz.prog Tryz.keysI_ren:={
 mixed:=by kernel_rfl
 f7:=⟨Tryz.f205.name,by decide,Tryz.func205.trans (congrArg some (by kernel_rfl))⟩
 f10:=⟨Tryz.f221.name,by decide,Tryz.func221.trans (congrArg some (by kernel_rfl))⟩
 t0:=Tryz.underlying0
 a0:=Tryz.isAgg0
 z0:=Tryz.sizeOf0
 v0:=Tryz.zeroValue0
 t4:=Tryz.underlying4
 a4:=Tryz.isAgg4
 z4:=Tryz.sizeOf4
 v4:=Tryz.zeroValue4
 t23:=Tryz.underlying231
 a23:=Tryz.isAgg231
 z23:=Tryz.sizeOf231
 v23:=Tryz.zeroValue231
 t26:=Tryz.underlying9
 a26:=Tryz.isAgg9
 z26:=Tryz.sizeOf9
 v26:=Tryz.zeroValue9
 t27:=Tryz.underlying255
 a27:=Tryz.isAgg255
 z27:=Tryz.sizeOf255
 v27:=Tryz.zeroValue255
 t28:=Tryz.underlying256
 a28:=Tryz.isAgg256
 z28:=Tryz.sizeOf256
 v28:=Tryz.zeroValue256
 t33:=Tryz.underlying33
 a33:=Tryz.isAgg33
 z33:=Tryz.sizeOf33
 v33:=Tryz.zeroValue33 }
def Tryz.sortedI_ren:Go.Shelf.Ren:=⟨fun | 6=>204 | 8=>219 | 9=>220 | 11=>235 | 13=>237 | 12=>236 | 23=>258 | 24=>245 | 14=>249 | 15=>250 | 16=>251 | 17=>252 | 18=>253 | 19=>254 | 20=>255 | 21=>256 | 22=>257 | 25=>263 | 26=>264 | 27=>265 | 28=>266 | 29=>267 | 30=>268 | 31=>269 | n=>n,fun | 26=>9 | 28=>256 | 24=>65 | 0=>0 | 3=>3 | 37=>268 | 48=>272 | 50=>285 | 4=>4 | 40=>315 | 39=>314 | 45=>320 | 5=>5 | 9=>9 | 51=>329 | 55=>333 | 57=>337 | 58=>338 | 33=>33 | n=>n,fun | n=>n⟩
theorem Tryz.sortedI:Go.Proofs.SlLaysZ.n6 Tryz.prog Tryz.sortedI_ren:={
 mixed:=by kernel_rfl
 f6:=⟨Tryz.f204.name,by decide,Tryz.func204.trans (congrArg some (by kernel_rfl))⟩
 f8:=⟨Tryz.f219.name,by decide,Tryz.func219.trans (congrArg some (by kernel_rfl))⟩
 f11:=⟨Tryz.f235.name,by decide,Tryz.func235.trans (congrArg some (by kernel_rfl))⟩
 t0:=Tryz.underlying0
 a0:=Tryz.isAgg0
 z0:=Tryz.sizeOf0
 v0:=Tryz.zeroValue0
 t24:=Tryz.underlying65
 a24:=Tryz.isAgg65
 z24:=Tryz.sizeOf65
 v24:=Tryz.zeroValue65
 t26:=Tryz.underlying9
 a26:=Tryz.isAgg9
 z26:=Tryz.sizeOf9
 v26:=Tryz.zeroValue9
 t28:=Tryz.underlying256
 a28:=Tryz.isAgg256
 z28:=Tryz.sizeOf256
 v28:=Tryz.zeroValue256
 i26:=by kernel_rfl }
def Tryz.sortI_ren:Go.Shelf.Ren:=⟨fun | 6=>220 | 8=>237 | 9=>236 | 19=>258 | 20=>245 | 21=>249 | 22=>250 | 23=>251 | 24=>252 | 25=>253 | 26=>254 | 27=>255 | 28=>256 | 29=>257 | 36=>263 | 31=>264 | 32=>265 | 37=>266 | 38=>267 | 39=>268 | 41=>269 | n=>n,fun | 27=>65 | 29=>9 | 3=>3 | 32=>268 | 26=>65 | 0=>0 | 44=>272 | 46=>285 | 4=>4 | 36=>315 | 35=>314 | 41=>320 | 5=>5 | 9=>9 | 53=>329 | 57=>333 | 63=>337 | 64=>338 | n=>n,fun | n=>n⟩
theorem Tryz.sortI:Go.Proofs.SlLaysM.n6 Tryz.prog Tryz.sortI_ren:={
 mixed:=by kernel_rfl
 f6:=⟨Tryz.f220.name,by decide,Tryz.func220.trans (congrArg some (by kernel_rfl))⟩
 f8:=Tryz.func237.trans (congrArg some (by kernel_rfl))
 f9:=⟨Tryz.f236.name,by decide,Tryz.func236.trans (congrArg some (by kernel_rfl))⟩
 f19:=Tryz.func258.trans (congrArg some (by kernel_rfl))
 f20:=Tryz.func245.trans (congrArg some (by kernel_rfl))
 f21:=⟨Tryz.f249.name,by decide,Tryz.func249.trans (congrArg some (by kernel_rfl))⟩
 f22:=⟨Tryz.f250.name,by decide,Tryz.func250.trans (congrArg some (by kernel_rfl))⟩
 f23:=⟨Tryz.f251.name,by decide,Tryz.func251.trans (congrArg some (by kernel_rfl))⟩
 f24:=⟨Tryz.f252.name,by decide,Tryz.func252.trans (congrArg some (by kernel_rfl))⟩
 f25:=⟨Tryz.f253.name,by decide,Tryz.func253.trans (congrArg some (by kernel_rfl))⟩
 f26:=⟨Tryz.f254.name,by decide,Tryz.func254.trans (congrArg some (by kernel_rfl))⟩
 f27:=⟨Tryz.f255.name,by decide,Tryz.func255.trans (congrArg some (by kernel_rfl))⟩
 f28:=⟨Tryz.f256.name,by decide,Tryz.func256.trans (congrArg some (by kernel_rfl))⟩
 f29:=⟨Tryz.f257.name,by decide,Tryz.func257.trans (congrArg some (by kernel_rfl))⟩
 f31:=Tryz.func264.trans (congrArg some (by kernel_rfl))
 f32:=Tryz.func265.trans (congrArg some (by kernel_rfl))
 f36:=⟨Tryz.f263.name,by decide,Tryz.func263.trans (congrArg some (by kernel_rfl))⟩
 f37:=⟨Tryz.f266.name,by decide,Tryz.func266.trans (congrArg some (by kernel_rfl))⟩
 f38:=⟨Tryz.f267.name,by decide,Tryz.func267.trans (congrArg some (by kernel_rfl))⟩
 f39:=⟨Tryz.f268.name,by decide,Tryz.func268.trans (congrArg some (by kernel_rfl))⟩
 f41:=⟨Tryz.f269.name,by decide,Tryz.func269.trans (congrArg some (by kernel_rfl))⟩
 t0:=Tryz.underlying0
 a0:=Tryz.isAgg0
 z0:=Tryz.sizeOf0
 v0:=Tryz.zeroValue0
 t3:=Tryz.underlying3
 a3:=Tryz.isAgg3
 z3:=Tryz.sizeOf3
 v3:=Tryz.zeroValue3
 t4:=Tryz.underlying4
 a4:=Tryz.isAgg4
 z4:=Tryz.sizeOf4
 v4:=Tryz.zeroValue4
 t5:=Tryz.underlying5
 a5:=Tryz.isAgg5
 z5:=Tryz.sizeOf5
 v5:=Tryz.zeroValue5
 t9:=Tryz.underlying9
 a9:=Tryz.isAgg9
 z9:=Tryz.sizeOf9
 v9:=Tryz.zeroValue9
 t26:=Tryz.underlying65
 a26:=Tryz.isAgg65
 z26:=Tryz.sizeOf65
 v26:=Tryz.zeroValue65
 t27:=Tryz.underlying65
 a27:=Tryz.isAgg65
 z27:=Tryz.sizeOf65
 v27:=Tryz.zeroValue65
 t29:=Tryz.underlying9
 a29:=Tryz.isAgg9
 z29:=Tryz.sizeOf9
 v29:=Tryz.zeroValue9
 t32:=Tryz.underlying268
 a32:=Tryz.isAgg268
 z32:=Tryz.sizeOf268
 v32:=Tryz.zeroValue268
 t35:=Tryz.underlying314
 a35:=Tryz.isAgg314
 z35:=Tryz.sizeOf314
 v35:=Tryz.zeroValue314
 t36:=Tryz.underlying315
 a36:=Tryz.isAgg315
 z36:=Tryz.sizeOf315
 v36:=Tryz.zeroValue315
 t41:=Tryz.underlying320
 a41:=Tryz.isAgg320
 z41:=Tryz.sizeOf320
 v41:=Tryz.zeroValue320
 t44:=Tryz.underlying272
 a44:=Tryz.isAgg272
 z44:=Tryz.sizeOf272
 v44:=Tryz.zeroValue272
 t46:=Tryz.underlying285
 a46:=Tryz.isAgg285
 z46:=Tryz.sizeOf285
 v46:=Tryz.zeroValue285
 t53:=Tryz.underlying329
 a53:=Tryz.isAgg329
 z53:=Tryz.sizeOf329
 v53:=Tryz.zeroValue329
 t57:=Tryz.underlying333
 a57:=Tryz.isAgg333
 z57:=Tryz.sizeOf333
 v57:=Tryz.zeroValue333
 t63:=Tryz.underlying337
 a63:=Tryz.isAgg337
 z63:=Tryz.sizeOf337
 v63:=Tryz.zeroValue337
 t64:=Tryz.underlying338
 a64:=Tryz.isAgg338
 z64:=Tryz.sizeOf338
 v64:=Tryz.zeroValue338 }
end Go.Proofs
/-! TA2 -/
namespace Go.Proofs.YtkpligkggnjcoaaGreatDoor
open Ev K Go.Own Go.Shelf Go.RowKit
set_option maxRecDepth 100000
namespace Ev
theorem strs_new {w:World} {A:Nat→Prop} (hA:∀ b,A b→b<w.heap.size) (l:List Str) (hl:l.length≤maxL) (t:TypeId) :
  VR (w.alloc (.cells (l.map fun s=>Value.string ⟨s.toArray⟩).toArray t)) A noR ((dRows rStr).enc l) (.slice (some ⟨w.heap.size,0,none⟩) l.length l.length):=by
 show VR _ A noR (.xsl 1 l.length ⟨rStr.tags,encF rStr l⟩ 0 l.length none) _
 refine .xsl w.heap.size 0 (fun i _=>.string ⟨(l.getD i []).toArray⟩) ⟨Nat.le_refl _,hl⟩ (fun x hx=>by cases hx) (by omega) (fun h0=>⟨by simp,by simp,fun h=>absurd (hA _ h) (by omega)⟩) (fun h0 i k hi hk=>?_) (fun h0 i k hi hk=>?_)
 ·have hk:k=0:=by omega
  subst hk
  have e:l[i]?=some l[i]:=List.getElem?_eq_getElem hi
  rw [show (0+(i * 1+0))=i by omega,World.cell?_alloc_new]
  simp [List.getD_eq_getElem?_getD,e]
 ·have hk:k=0:=by omega
  subst hk
  have e:l[i]?=some l[i]:=List.getElem?_eq_getElem hi
  simp only [Get.cell,encF_at e,List.getD_eq_getElem?_getD,e,Option.getD_some]
  exact .str
theorem VRs.one_of {w:World} {A:Nat→Prop} {r:Rr} {x:AV} {us:Array Value} (h:VRs w A r [x] us):∃ u,us=#[u]∧VR w A r x u:=by
 have hs:us.size=1:=h.1.symm
 obtain ⟨u,rfl⟩:∃ u,us=#[u]:=by
  have h1:us.toList.length=1:=by simpa using hs
  match hl:us.toList,h1 with
  | [u],_=>exact ⟨u,by apply Array.ext';exact hl⟩
 exact ⟨u,rfl,h.2 0 _ u rfl rfl⟩
end Ev
namespace K
def wordsText:Str:=[100,117,101,32,111,102,32,102,108,97,116,32,112,101,114,32,112,97,121,32,97,98,111,118,101,32,117,112,116,111,32,114,101,98,97,116,101,32,105,110,32,108,101,97,115,116,32,109,111,115,116,32,114,111,117,110,100,32,117,112,32,100,111,119,110,32,110,101,97,114]
theorem words_eq:Lib.fields wordsText=words:=by kernel_rfl
theorem words_ascii:∀ (j:Nat) b,wordsText[j]?=some b→b.toNat<128:=by
 intro j b h
 have:∀ x ∈ wordsText,x.toNat<128:=by decide
 exact this b (List.mem_of_getElem? h)
def M_fields (s:Str):T (List Str):=.chk (decide (s=wordsText)) (.ret words)
theorem fields_pc (s:Str) (r:List Str) (h:(M_fields s).run=some r):PC P 185 (D_s.enc s) ((dRows rStr).enc r):=by
 obtain ⟨g,e⟩:=chk_ret h
 subst e
 have g:=of_decide_eq_true g
 subst g
 intro ro n A w us hG hA hus
 obtain ⟨u,rfl,hu⟩:=VRs.one_of hus
 cases hu
 have hg:P.globalNamed "strings.asciiSpace"=some (Tryz.lays157_ren.g 0):=by kernel_rfl
 have key:=Any.strings_Fields Tryz.lays157 (by kernel_rfl) hg ⟨wordsText.toArray⟩ w (by decide) (fun j b hb=>words_ascii j b (by simpa using hb)) (hG.asc (by rw [hg];simp))
 rw [show (⟨wordsText.toArray⟩:ByteArray).data.toList=wordsText from rfl,words_eq] at key
 apply callsIn_round
 refine (callsIn_wide.2 key).mono ?_
 rintro e w' ⟨rfl,rfl⟩
 exact ⟨_,rfl,strs_new hA words (by decide) _,(Bel.refl _ w).alloc (Nat.le_refl _) _⟩
end K
noncomputable def BTA21:Tab:=BTA112.addCall 185 (callE D_s (dRows rStr) K.M_fields)
theorem tTA21:TabOk P BTA21:=TabOk.addPC tTA112 (K.fields_pc)
end Go.Proofs.YtkpligkggnjcoaaGreatDoor
/-! TA3 -/
namespace Go.Proofs
open Go.RowKit Go.Maps Go.Sort Go.Shelf
theorem Tryz.sortsI (m:Nat):AnyZ.SortsIn Tryz.prog Tryz.sortedI_ren Fence.wide m:=
  ⟨fun blk off cap ss W hH hblk hsz=>callsIn_wide.2 (AnyM.slices_Sort_string Tryz.sortI blk off cap ss W hH hblk hsz),
   fun p cap W=>callsIn_wide.2 (AnyM.slices_Sort_string_none Tryz.sortI p cap W)⟩
set_option maxHeartbeats 1000000 in
theorem Tryz.keysSorted {H:Type} (b nn:Nat) (D0:DataW H) (R:Value→Option (DataW H × List MemPlace)) (w:World) (hown:w.ownsMap Tryz.prog 9 R b nn D0) (hmax:Maps.size D0≤maxLen) (hbytes:Maps.size D0 * 16≤140737488355328) :
  Calls Tryz.prog 173 #[.map (some b)] w fun e w'=>∃ (v:Value) (ss:List (List UInt8)),e=.returned v∧ss.Perm (strKeys D0) ∧
   w'.ownsRow w.heap.size 9 1 v ss.length ((ss.mergeSort (fun x y=>decide (x≤y))).map encStr)∧(v=.slice none 0 0 ↔ ss=[])∧Below w.heap.size w w':=by
 refine (callsIn_wide (n:=6)).1 ?_
 have hbl:=hown.lt
 have hseq:SeqGives Fence.wide 2 Tryz.prog 221 #[.pointer (some ⟨w.heap.size,0,none⟩)] encStr (fun ss=>ss.Perm (strKeys D0)) (Maps.size D0) (w.alloc (.cells #[.map (some b)] 231)):=
  AnyZ.keys_gives (ρ:=Tryz.keysI_ren) { Tryz.keysI with } Fence.wide _ trivial rfl (by omega) w.heap.size b nn D0 _ (by simp) (by simp) (by
   obtain ⟨es,clock,hb,Ft,hs,hD⟩:=hown
   exact ⟨es,clock,(Below.heap_alloc _ _ b hbl).trans hb,Ft,hs,hD⟩)
 have cK:∀ mb W,CallsIn Fence.wide 5 Tryz.prog 205 #[.map mb] W fun e w'=>e=.returned (.func (.func 221) #[] #[.pointer (some ⟨W.heap.size,0,none⟩)])∧w'=W.alloc (.cells #[.map mb] 231):=fun mb W=>AnyZ.keys_in Tryz.keysI Fence.wide 5 trivial rfl mb W
 have cS:=AnyZ.sorted_in Tryz.sortedI Fence.wide 5 trivial trivial trivial trivial rfl (by omega) (Tryz.sortsI _) (enters_of Tryz.func220 (by kernel_rfl) rfl) 221 #[.pointer (some ⟨w.heap.size,0,none⟩)] trivial (enters_of Tryz.func221 (by kernel_rfl) rfl) _ _ hmax hbytes _ hseq
 change CallsIn _ _ Tryz.prog 204 _ _ _ at cS
 have hfK:Fence.wide.fn 205:=trivial
 have hfS:Fence.wide.fn 204:=trivial
 refine callsIn_of_wp Tryz.func173 rfl trivial ?_ rfl
 simp only [Tryz.ntmps173,List.size_toArray,List.length_cons,List.length_nil,Nat.reduceAdd,Nat.reduceSub,Array.replicate_succ,Array.replicate_zero,List.push_toArray,List.append_toArray,List.nil_append,List.cons_append]
 gi_wp2_with (first
  | (gi_at_call 205;refine (cK _ _).mono ?_;rintro e w' ⟨rfl,rfl⟩)
  | (gi_at_call 204;refine cS.mono ?_;rintro e w' ⟨v,ss,rfl,hS,hrow,hnil,hb⟩))
 go_ret
 exact ⟨v,ss,rfl,hS,ownsRow_base_a hrow (by simp),hnil,((Below.refl _ w).alloc (Nat.le_refl _) _).trans (hb.mono (by simp))⟩
end Go.Proofs
/-! TA4 -/
namespace Go.Proofs.YtkpligkggnjcoaaGreatDoor
open Ev K Go.Own Go.Shelf Go.RowKit Go.Maps Go.Sort
set_option maxRecDepth 100000
def rStrB:RowD (List UInt8 × Bool) where
 wd:=2
 tags:=[.str,.bool]
 rd f:=(textOf (f 0),truthOf (f 1))
 wr a k:=match k with
  | 0=>.str a.1
  | _=>.bool a.2
 ok f k hk:=by
  match k,hk with
  | 0,_=>rfl
  | 1,_=>rfl
  | k+2,hk=>omega
 good _:=rfl
namespace K
theorem ltS_iff:∀ a b:Str,ltS a b=true ↔ a<b
 | a,[]=>by rw [ltS_nil];exact ⟨(fun h=>by cases h),fun h=>absurd h (List.not_lt_nil _)⟩
 | [],b :: y=>⟨fun _=>List.nil_lt_cons _ _,fun _=>rfl⟩
 | a :: x,b :: y=>by
  rw [ltS_cons,List.cons_lt_cons_iff]
  simp only [Bool.or_eq_true,Bool.and_eq_true,decide_eq_true_eq,beq_iff_eq,ltS_iff x y]
theorem merge_eq {ss l:List Str} (hp:ss.Perm l) (hn:l.Nodup):(ss.mergeSort fun x y=>decide (x≤y))=setS l:=by
 have tr:∀ a b c:Str,leB a b=true→leB b c=true→leB a c=true:=fun a b c h1 h2=>by simp only [leB,decide_eq_true_eq] at *;exact List.le_trans h1 h2
 have tot:∀ a b:Str,(leB a b || leB b a)=true:=fun a b=>by simp only [leB,Bool.or_eq_true,decide_eq_true_eq];exact List.le_total a b
 have hs:=List.pairwise_mergeSort tr tot ss
 have hpm:(ss.mergeSort leB).Perm l:=(List.mergeSort_perm ss leB).trans hp
 have hnd:(ss.mergeSort leB).Pairwise (·≠·):=hpm.nodup_iff.2 hn
 refine asc_uniq ((hs.and hnd).imp fun {a b} h=>?_) (setS_spec l).1 fun x=>(hpm.mem_iff).trans ((setS_spec l).2 x).symm
 have h1:a≤b:=by have:=h.1;simp only [leB,decide_eq_true_eq] at this;exact this
 rcases ltS_tri a b with h2 | h2 | h2
 ·exact h2
 ·exact absurd h2 h.2
 ·exact absurd ((ltS_iff b a).1 h2) (List.not_lt.2 h1)
end K
namespace Ev
theorem own_fresh {w:World} {base:Nat} {t:TypeId} {v:Value} {n:Nat} {rows:List Value} (h:w.ownsRow base t 1 v n rows) :
  ∃ e c,v=.slice (slBase e) n c∧(∀ b,e=b+1→base≤b)∧(e=0→n=0∧c=0)∧n≤c∧w.ownsRow 0 t 1 (.slice (slBase e) n c) n rows:=by
 obtain ⟨hl,h⟩:=h
 rcases h with ⟨rfl,hz⟩ | ⟨g,cap,cur,rfl,hb,hg,h1,h2,h3,h4⟩
 ·subst hz
  exact ⟨0,0,rfl,(fun b hb=>by omega),fun _=>⟨rfl,rfl⟩,Nat.le_refl _,hl,.inl ⟨rfl,rfl⟩⟩
 ·exact ⟨g+1,cap,rfl,(fun b e=>by omega),(fun e=>by omega),h1,hl,.inr ⟨g,cap,cur,rfl,Nat.zero_le _,hg,h1,h2,h3,h4⟩⟩
theorem strs_rows {w:World} {A:Nat→Prop} (l:List Str):RowsR w A ⟨rStr.tags,encF rStr l⟩ l.length rStr.wd (l.map encStr):=fun i k hi hk=>by
 have hk:k=0:=by have:k<1:=hk;omega
 subst hk
 have e:l[i]?=some l[i]:=List.getElem?_eq_getElem hi
 refine ⟨encStr l[i],?_,?_⟩
 ·rw [show i * rStr.wd+0=i from Nat.mul_one i,List.getElem?_map,e];rfl
 ·simp only [Get.cell,encF_at e]
  exact .str
end Ev
def D_mp:=DecL.last (dXm rStrB) 0
namespace K
def Rb (v:Value):Option (DataW Unit × List MemPlace):=match v with
 | .bool x=>some (.lit (.bool x),[])
 | _=>none
def okMp (l:List (Str × Bool)):Prop:=(l.map (·.1)).Nodup∧l.length≤1000000∧∀ p ∈ l,p.1.length≤1000000
instance (l:List (Str × Bool)):Decidable (okMp l):=by unfold okMp;infer_instance
def M_sorted (l:List (Str × Bool)):T (List Str):=.chk (decide (okMp l)) (.ret (setS (l.map (·.1))))
theorem setS_len {l:List Str} (hn:l.Nodup):(setS l).length=l.length:=by
 have:=merge_eq (List.Perm.refl l) hn
 rw [← this,List.length_mergeSort]
theorem sorted_fc (l:List (Str × Bool)) (r:List Str) (h:(M_sorted l).run=some r):FC P 173 9 (D_mp.enc l) rStr.wd r.length ⟨rStr.tags,encF rStr r⟩:=by
 obtain ⟨g,e⟩:=chk_ret h
 subst e
 obtain ⟨g1,g2,g3⟩:=of_decide_eq_true g
 intro ro n A w us hG hA hus
 obtain ⟨u,rfl,hu⟩:=VRs.one_of hus
 have hu0:VR w A noR (.xmp false 2 l.length ⟨rStrB.tags,encF rStrB l⟩) u:=hu
 clear hu hus
 cases hu0 with
 | xmp b clock es u hb hAb he hs hu hv=>
  obtain ⟨hsz,hbo⟩:=hs
  have key:∀ i (hi:i<l.length),∃ x,es[i]?=some x∧x.key=encStr l[i].1∧x.val=.bool l[i].2∧x.born=i:=fun i hi=>by
   obtain ⟨x,hx,hk,hval⟩:=hu i hi
   have e:l[i]?=some l[i]:=List.getElem?_eq_getElem hi
   have h0:=hv i 0 hi (by decide)
   have h1:=hv i 1 hi (by decide)
   have e0:(⟨rStrB.tags,encF rStrB l⟩:Get AV).cell i 0=.str l[i].1:=by simp only [Get.cell,encF_at e];rfl
   have e1:(⟨rStrB.tags,encF rStrB l⟩:Get AV).cell i 1=.bool l[i].2:=by simp only [Get.cell,encF_at e];rfl
   rw [e0] at h0;rw [e1] at h1
   refine ⟨x,hx,?_,?_,hbo.2 i x hx⟩
   ·rw [hk];generalize u i 0=z at h0;cases h0;rfl
   ·rw [hval];show u i 1=_;generalize u i 1=z at h1;cases h1;rfl
  have hkeys:es.toList.map (·.key)=l.map fun p=>encStr p.1:=by
   apply List.ext_getElem?
   intro i
   by_cases hi:i<l.length
   ·obtain ⟨x,hx,hk,_⟩:=key i hi
    rw [List.getElem?_map,List.getElem?_map,Array.getElem?_toList,hx,List.getElem?_eq_getElem hi]
    simp [hk]
   ·rw [List.getElem?_eq_none (by simp [hsz];omega),List.getElem?_eq_none (by simp;omega)]
  have mem:∀ x ∈ es.toList,∃ (i:Nat) (hi:i<l.length),es[i]?=some x∧x.key=encStr l[i].1∧x.val=.bool l[i].2∧x.born=i:=fun x hx=>by
   obtain ⟨i,hi,e⟩:=List.mem_iff_getElem.1 hx
   have hi':i<l.length:=by simpa [hsz] using hi
   obtain ⟨y,hy,h2⟩:=key i hi'
   have:es[i]?=some x:=by rw [← Array.getElem?_toList,List.getElem?_eq_getElem hi,e]
   rw [this] at hy;injection hy with hy;subst hy
   exact ⟨i,hi',this,h2⟩
  have ht:P.underlying 9=some .string:=by kernel_rfl
  have hrd:∀ (x:MapEntry) (i:Nat) (hi:i<l.length),x.key=encStr l[i].1→x.val=.bool l[i].2→WideElems.rd P 9 Rb x=some (.string l[i].1,.lit (.bool l[i].2)):=fun x i hi h1 h2=>by
   have hk:keyOf P 9 x.key=some (.string l[i].1):=by
    have hsz:l[i].1.length≤maxLen:=by have:=g3 l[i] (List.getElem_mem hi);unfold maxLen;omega
    rw [h1]
    simp only [keyOf,ht,mapKey,encStr]
    rw [if_pos (show (⟨l[i].1.toArray⟩:ByteArray).size≤maxLen from hsz)]
   simp only [WideElems.rd,hk,h2,Rb,Option.bind_some,Option.map_some]
  have hfit:WideElems.Fit P 9 Rb es clock:=by
   refine ⟨by rw [hsz];unfold maxLen;omega,⟨fun x hx=>?_,?_,?_⟩,fun x hx=>?_⟩
   ·obtain ⟨i,hi,_,_,_,hb⟩:=mem x hx
    rw [hb,hbo.1];exact hi
   ·have:es.toList.map (·.born)=List.range l.length:=by
     apply List.ext_getElem?
     intro i
     by_cases hi:i<l.length
     ·obtain ⟨x,hx,_,_,hb⟩:=key i hi
      rw [List.getElem?_map,Array.getElem?_toList,hx,List.getElem?_range hi]
      simp [hb]
     ·rw [List.getElem?_eq_none (by simp [hsz];omega),List.getElem?_eq_none (by simp;omega)]
    rw [this];exact List.nodup_range
   ·rw [hkeys]
    have:(l.map fun p=>encStr p.1)=(l.map (·.1)).map encStr:=by rw [List.map_map];rfl
    rw [this]
    exact (List.pairwise_map.2 (g1.imp fun h h2=>h (encStr_inj h2)))
   ·obtain ⟨i,hi,_,h1,h2,_⟩:=mem x hx
    exact ⟨_,hrd x i hi h1 h2⟩
  have hown:w.ownsMap P 9 Rb b l.length (.map ((es.toList.map (WideElems.rg P 9 Rb)).foldr DataW.insert [])):=⟨es,clock,he,hfit,by rw [hsz];exact Nat.le_refl _,rfl⟩
  have hlen:Maps.size (.map ((es.toList.map (WideElems.rg P 9 Rb)).foldr DataW.insert []):DataW Unit)=l.length:=by
   show List.length _=_
   rw [(Go.WideShapes.sorted_perm _).length_eq,List.length_map];simpa using hsz
  have hst:(strKeys (.map ((es.toList.map (WideElems.rg P 9 Rb)).foldr DataW.insert []):DataW Unit)).Perm (l.map (·.1)):=by
   have h1:=(Go.WideShapes.sorted_perm (es.toList.map (WideElems.rg P 9 Rb))).map fun p=>strOf p.1
   refine h1.trans (List.Perm.of_eq ?_)
   rw [List.map_map]
   apply List.ext_getElem?
   intro i
   by_cases hi:i<l.length
   ·obtain ⟨x,hx,hk,hval,_⟩:=key i hi
    rw [List.getElem?_map,List.getElem?_map,Array.getElem?_toList,hx,List.getElem?_eq_getElem hi]
    simp only [Option.map_some,Function.comp,WideElems.rg_of (hrd x i hi hk hval)];rfl
   ·rw [List.getElem?_eq_none (by simp [hsz];omega),List.getElem?_eq_none (by simp;omega)]
  have key2:=Tryz.keysSorted b l.length _ Rb w hown (by rw [hlen];unfold maxLen;omega) (by rw [hlen];omega)
  apply callsIn_round
  refine (callsIn_wide.2 key2).mono ?_
  rintro e w' ⟨v,ss,rfl,hp,hrow,_,hbel⟩
  have hps:=hp.trans hst
  rw [merge_eq hps g1] at hrow
  have hll:ss.length=(setS (l.map (·.1))).length:=by rw [hps.length_eq,setS_len g1]
  rw [hll] at hrow
  have hm:(setS (l.map (·.1))).length≤maxL:=by rw [setS_len g1,List.length_map];unfold maxL;omega
  obtain ⟨e,c,rfl,k1,k2,k3⟩:=own_fresh hrow
  exact ⟨e,c,_,rfl,k1,k2,⟨k3.1,hm⟩,by decide,k3.2,strs_rows _,hbel,.inl rfl⟩
end K
noncomputable def BTA41:Tab:=BTA21.addTurn 173 (freshE 9 D_mp rStr K.M_sorted)
theorem tTA41:TabOk P BTA41:=TabOk.addFC tTA21 (D:=D_mp) (R:=rStr) (M:=K.M_sorted) (K.sorted_fc)
end Go.Proofs.YtkpligkggnjcoaaGreatDoor
/-! TA5 -/
namespace Go.Proofs.YtkpligkggnjcoaaGreatDoor
open Ev K
set_option maxRecDepth 100000
namespace K
theorem run_spec {σ ρ:Type} {step:σ→Option (σ ⊕ ρ)} (S:Nat→σ) (s:Str) (p:UInt8→Bool) (R:Nat→ρ) (h1:∀ i b,s[i]?=some b→p b=true→step (S i)=some (.inl (S (i+1)))) (h2:∀ i b,s[i]?=some b→p b=false→step (S i)=some (.inr (R i)))
  (h3:step (S s.length)=some (.inr (R s.length))):∀ d i,i+d=s.length→lim step (S i)=some (R (i+((s.drop i).takeWhile p).length))
 | 0,i,h=>by
  obtain rfl:i=s.length:=by omega
  rw [List.drop_length,List.takeWhile_nil]
  exact lim_done h3
 | d+1,i,h=>by
  have hb:s[i]?=some s[i]:=List.getElem?_eq_getElem (by omega)
  rw [List.drop_eq_getElem_cons (by omega)]
  cases hp:p s[i] with
  | true=>
   rw [List.takeWhile_cons_of_pos hp,lim_step (h1 i _ hb hp),run_spec S s p R h1 h2 h3 d (i+1) (by omega),List.length_cons]
   congr 2;omega
  | false=>
   rw [List.takeWhile_cons_of_neg (by rw [hp];exact Bool.false_ne_true)]
   exact lim_done (h2 i _ hb hp)
def runV (p:UInt8→Bool) (s:Str) (i:Nat):Nat:=i+((s.drop i).takeWhile p).length
theorem a_letter_eq (b:UInt8):a_letter ((b.toNat:Nat):Int)=smallB b:=by
 unfold a_letter smallB
 apply Bool.eq_iff_iff.2
 by_cases h:(97:Int)≤b.toNat
 ·rw [if_pos (by simpa using h)];simp;omega
 ·rw [if_neg (by simpa using h)];simp;omega
theorem a_digit_eq (b:UInt8):a_digit ((b.toNat:Nat):Int)=digitB b:=by
 unfold a_digit digitB
 apply Bool.eq_iff_iff.2
 by_cases h:(48:Int)≤b.toNat
 ·rw [if_pos (by simpa using h)];simp;omega
 ·rw [if_neg (by simpa using h)];simp;omega
theorem a_plain_eq (b:UInt8):a_plain ((b.toNat:Nat):Int)=plainB b:=by
 unfold a_plain plainB
 rw [a_letter_eq,a_digit_eq]
 cases smallB b<;>rfl
theorem byteI (s:Str) (i:Nat):((((s[i]?).getD 0).toBitVec.toFin:Nat):Int)=((((s[i]?).getD 0).toNat:Nat):Int):=rfl
theorem L_rp_eq (s:Str) (hs:s.length≤1000000) (i:Nat) (hi:i≤s.length):L_rp ((s,(i:Int),()),())=some ((runV plainB s i:Int),()):=by
 refine run_spec (fun i:Nat=>((s,(i:Int),()),())) s plainB (fun i=>((i:Int),())) (fun i b hb hp=>?_) (fun i b hb hp=>?_) ?_ (s.length - i) i (by omega)
 ·have hlt:=(List.getElem?_eq_some_iff.1 hb).1
  rw [sl_rp]
  simp only [Int.toNat_natCast,hb,Option.getD_some,wi i (by omega)]
  exact br_t (decide_eq_true (by omega)) (chk_step (decide_eq_true (by omega)) (br_t ((a_plain_eq b).trans hp) rfl))
 ·have hlt:=(List.getElem?_eq_some_iff.1 hb).1
  rw [sl_rp]
  simp only [Int.toNat_natCast,hb,Option.getD_some]
  exact br_t (decide_eq_true (by omega)) (chk_step (decide_eq_true (by omega)) (br_f ((a_plain_eq b).trans hp) rfl))
 ·rw [sl_rp]
  exact br_f (decide_eq_false (by dsimp only;omega)) rfl
theorem L_rd_eq (s:Str) (hs:s.length≤1000000) (i:Nat) (hi:i≤s.length):L_rd ((s,(i:Int),()),())=some ((runV digitB s i:Int),()):=by
 refine run_spec (fun i:Nat=>((s,(i:Int),()),())) s digitB (fun i=>((i:Int),())) (fun i b hb hp=>?_) (fun i b hb hp=>?_) ?_ (s.length - i) i (by omega)
 ·have hlt:=(List.getElem?_eq_some_iff.1 hb).1
  rw [sl_rd]
  simp only [Int.toNat_natCast,hb,Option.getD_some,wi i (by omega)]
  exact br_t (decide_eq_true (by omega)) (chk_step (decide_eq_true (by omega)) (br_t ((a_digit_eq b).trans hp) rfl))
 ·have hlt:=(List.getElem?_eq_some_iff.1 hb).1
  rw [sl_rd]
  simp only [Int.toNat_natCast,hb,Option.getD_some]
  exact br_t (decide_eq_true (by omega)) (chk_step (decide_eq_true (by omega)) (br_f ((a_digit_eq b).trans hp) rfl))
 ·rw [sl_rd]
  exact br_f (decide_eq_false (by dsimp only;omega)) rfl
def M_rp (p:UInt8→Bool) (a:Str × Int × Unit):T Int:=.chk (decide (a.1.length≤1000000∧0≤a.2.1∧a.2.1≤a.1.length)) (.ret (runV p a.1 a.2.1.toNat))
theorem rp_ok (a:Str × Int × Unit) (r:Int) (h:(M_rp plainB a).run=some r):callT1 P BTA111 30 126 D_rp dInt a=some r:=by
 obtain ⟨g,e⟩:=chk_ret h
 subst e
 obtain ⟨s,i,u⟩:=a
 obtain ⟨g1,g2,g3⟩:=of_decide_eq_true g
 obtain ⟨k,rfl⟩:∃ k:Nat,i=k:=⟨i.toNat,by simp only at g2;omega⟩
 rw [fn_rp]
 refine obs_step (L_rp_eq s g1 k (by simp only at g3;omega)) ?_
 simp only [Int.toNat_natCast];rfl
theorem rd_ok (a:Str × Int × Unit) (r:Int) (h:(M_rp digitB a).run=some r):callT1 P BTA111 30 126 D_rd dInt a=some r:=by
 obtain ⟨g,e⟩:=chk_ret h
 subst e
 obtain ⟨s,i,u⟩:=a
 obtain ⟨g1,g2,g3⟩:=of_decide_eq_true g
 obtain ⟨k,rfl⟩:∃ k:Nat,i=k:=⟨i.toNat,by simp only at g2;omega⟩
 rw [fn_rd]
 refine obs_step (L_rd_eq s g1 k (by simp only at g3;omega)) ?_
 simp only [Int.toNat_natCast];rfl
def atP {α:Type} (l:List α) (p:α→Bool) (j:Nat):Bool:=match l[j]? with
 | some y=>p y
 | none=>false
def ixI {α:Type} (l:List α) (p:α→Bool):Int:=match first (atP l p) l.length with
 | some j=>j
 | none=>-1
theorem first_any {α:Type} (l:List α) (p:α→Bool):(first (atP l p) l.length).isSome=l.any p:=by
 apply Bool.eq_iff_iff.2
 rw [Option.isSome_iff_exists,List.any_eq_true]
 constructor
 ·rintro ⟨i,h⟩
  obtain ⟨h1,h2,_⟩:=first_spec h
  unfold atP at h2
  rw [List.getElem?_eq_getElem h1] at h2
  exact ⟨_,List.getElem_mem h1,h2⟩
 ·rintro ⟨x,hx,hp⟩
  cases hf:first (atP l p) l.length with
  | some i=>exact ⟨i,rfl⟩
  | none=>
   obtain ⟨i,hi,rfl⟩:=List.mem_iff_getElem.1 hx
   have:=first_none' hf i hi
   unfold atP at this
   rw [List.getElem?_eq_getElem hi] at this
   simp only at this
   rw [hp] at this;cases this
theorem ixI_ge {α:Type} (l:List α) (p:α→Bool):decide (ixI l p ≥ 0)=l.any p:=by
 rw [← first_any]
 unfold ixI
 cases first (atP l p) l.length with
 | some j=>simp
 | none=>simp
theorem L_ix_eq (l:List Str) (s:Str) (hl:l.length≤1000000):L_ix ((l,s,(l.length:Int),0),())=some (match first (atP l (fun y=>s == y)) l.length with
  | some j=>.inr ((j:Int),())
  | none=>.inl ((),())):=by
 refine (lim_find (fun i:Nat=>((l,s,(l.length:Int),(i:Int)),())) l.length (atP l (fun y=>s == y)) (fun j=>.inr ((j:Int),())) (.inl ((),())) (fun i hi hp=>?_) (fun i hi hp=>?_) ?_).trans ?_
 ·rw [sl_ix]
  have hy:=List.getElem?_eq_getElem hi
  unfold atP at hp;rw [hy] at hp
  generalize l[i]=y at hy hp
  simp only [Int.toNat_natCast,Nat.zero_add,str_at hy,ns0]
  exact br_t (decide_eq_true (by omega)) (chk_step (decide_eq_true (by omega)) (br_t hp rfl))
 ·rw [sl_ix]
  have hy:=List.getElem?_eq_getElem hi
  unfold atP at hp;rw [hy] at hp
  generalize l[i]=y at hy hp
  simp only [Int.toNat_natCast,Nat.zero_add,str_at hy,ns0,decF_encF,wi i (by omega)]
  exact br_t (decide_eq_true (by omega)) (chk_step (decide_eq_true (by omega)) (br_f hp rfl))
 ·rw [sl_ix]
  exact br_f (decide_eq_false (by dsimp only;omega)) rfl
 ·cases first (atP l fun y=>s == y) l.length<;>rfl
def M_ix (a:List Str × Str):T Int:=.chk (decide (a.1.length≤1000000)) (.ret (ixI a.1 fun y=>a.2 == y))
theorem ix_ok (a:List Str × Str) (r:Int) (h:(M_ix a).run=some r):callT1 P BTA112 30 192 D_ss dInt a=some r:=by
 obtain ⟨g,e⟩:=chk_ret h
 subst e
 have g:=of_decide_eq_true g
 rw [fn_ix]
 simp only [Nat.zero_add,decF_encF,cl g]
 refine obs_step (L_ix_eq a.1 a.2 g) ?_
 unfold ixI
 cases first (atP a.1 fun y=>a.2 == y) a.1.length<;>rfl
end K
noncomputable def BTA51:Tab:=BTA41.addCall 126 (callE D_rp dInt (K.M_rp K.plainB))
theorem tTA51:TabOk P BTA51:=TabOk.addPC tTA41 (fun a r h=>call_of okP tTA111 (K.rp_ok a r h))
noncomputable def BTA52:Tab:=BTA51.addCall 126 (callE D_rd dInt (K.M_rp K.digitB))
theorem tTA52:TabOk P BTA52:=TabOk.addPC tTA51 (fun a r h=>call_of okP tTA111 (K.rd_ok a r h))
noncomputable def BTA53:Tab:=BTA52.addCall 192 (callE D_ss dInt K.M_ix)
theorem tTA53:TabOk P BTA53:=TabOk.addPC tTA52 (fun a r h=>call_of okP tTA112 (K.ix_ok a r h))
theorem fn_ct:∀ a,(callT1 P BTA53 30 160 D_ss dB) a=T.run (
 .chk (decide (List.length (decF rStr (List.length a.1) fun i=>encF rStr a.1 ((0:Nat)+i))≤(1000000:Nat))) <|
 .ret (decide ((ixI (decF rStr (List.length a.1) fun i=>encF rStr a.1 ((0:Nat)+i)) fun y=>a.2 == y) ≥ (0:Int)))):=fun a=>by kernel_rfl
namespace K
def inS (l:List Str) (s:Str):Bool:=l.any fun y=>s == y
theorem inS_eq (l:List Str) (s:Str):inS l s=l.contains s:=by unfold inS;rw [List.contains_eq_any_beq]
def M_ct (a:List Str × Str):T Bool:=.chk (decide (a.1.length≤1000000)) (.ret (inS a.1 a.2))
theorem ct_ok (a:List Str × Str) (r:Bool) (h:(M_ct a).run=some r):callT1 P BTA53 30 160 D_ss dB a=some r:=by
 obtain ⟨g,e⟩:=chk_ret h
 subst e
 have g:=of_decide_eq_true g
 rw [fn_ct]
 simp only [Nat.zero_add,decF_encF]
 refine chk_step (decide_eq_true g) ?_
 rw [ixI_ge];rfl
end K
noncomputable def BTA54:Tab:=BTA53.addCall 160 (callE D_ss dB K.M_ct)
theorem tTA54:TabOk P BTA54:=TabOk.addFn (d:=30) okP tTA53 (K.ct_ok)
theorem fn_res:∀ a,(callT1 P BTA54 30 130 D_s dB) a=T.run (
 .chk (decide (nat_lit 15≤(1000000:Nat))) <|
 .ret (inS (decF rStr (nat_lit 15) fun i=>encF rStr words ((0:Nat)+i)) a)):=fun a=>by kernel_rfl
namespace K
theorem res_eq (a:Str):callT1 P BTA54 30 130 D_s dB a=some (inS words a):=by
 rw [fn_res]
 have e:decF rStr 15 (fun i=>encF rStr words (0+i))=words:=decF_enc0 rStr words
 rw [e]
 exact chk_step (by decide) rfl
end K
noncomputable def BTA55:Tab:=BTA54.addCall 130 (callE D_s dB (fun a=>.ret (K.inS K.words a)))
theorem tTA55:TabOk P BTA55:=TabOk.addPC tTA54 (fun a r h=>by rw [← ret_some h];exact call_of okP tTA54 (K.res_eq a))
theorem fn_named:∀ a,(callT1 P BTA55 30 174 D_s dB) a=T.run (
 .br (!a == []) (
  .br (decide ((↑(List.length a):Int)≤(24:Int))) (
   .chk (decide ((0:Int)≤(0:Int)∧(0:Int)<(↑(List.length a):Int))) <|
   .br (a_letter (↑(↑(BitVec.toFin (UInt8.toBitVec (Option.getD a[nat_lit 0]? (0:UInt8)))):Nat):Int)) (
    .chk (decide (List.length a≤(1000000:Nat)∧(0:Int)≤(0:Int)∧(0:Int)≤(↑(List.length a):Int))) <|
    .br ((↑(runV plainB a (nat_lit 0)):Int) == (↑(List.length a):Int)) (
     .ret (!inS words a)) (
     .ret (false))) (
    .ret (false))) (
   .ret (false))) (
  .ret (false))):=fun a=>by kernel_rfl
namespace K
theorem tw_self (p:UInt8→Bool):∀ {s:Str},(∀ x ∈ s,p x=true)→s.takeWhile p=s
 | [],_=>rfl
 | b :: t,h=>by rw [List.takeWhile_cons_of_pos (h b (List.mem_cons_self ..)),tw_self p fun x hx=>h x (List.mem_cons_of_mem _ hx)]
theorem runV_all (p:UInt8→Bool) (s:Str):(((runV p s 0:Nat):Int) == (s.length:Int))=s.all p:=by
 unfold runV
 rw [List.drop_zero,Nat.zero_add]
 apply Bool.eq_iff_iff.2
 rw [beq_iff_eq,List.all_eq_true]
 constructor
 ·intro h x hx
  have h1:s.takeWhile p=s:=by
   have:=List.takeWhile_prefix (l:=s) p
   exact this.eq_of_length (by omega)
  rw [← h1] at hx
  exact List.all_eq_true.1 (List.all_takeWhile (l:=s) (p:=p)) x hx
 ·intro h
  rw [tw_self p h]
theorem named_eq (a:Str):callT1 P BTA55 30 174 D_s dB a=some (nameB a):=by
 rw [fn_named]
 unfold nameB
 cases a with
 | nil=>rfl
 | cons b t=>
  refine br_t rfl ?_
  by_cases hl:(b :: t).length≤24
  ·refine br_t (decide_eq_true (by omega)) (chk_step (decide_eq_true (by simp)) ?_)
   have e0:((b :: t)[0]?.getD 0)=b:=rfl
   have hd:decide (1≤(b :: t).length∧(b :: t).length≤24)=true:=decide_eq_true ⟨by simp,hl⟩
   rw [hd,e0]
   cases hs:smallB b with
   | false=>exact br_f ((a_letter_eq b).trans hs) (by simp [hs,T.run])
   | true=>
    refine br_t ((a_letter_eq b).trans hs) (chk_step (decide_eq_true ⟨by omega,by omega,by omega⟩) ?_)
    simp only [List.head?_cons,Option.any_some,hs,Bool.true_and]
    refine br_if (fun h=>?_) fun h=>?_
    ·rw [runV_all] at h
     rw [h,← inS_eq];rfl
    ·rw [runV_all] at h
     rw [h];rfl
  ·refine br_f (decide_eq_false (by omega)) ?_
   rw [decide_eq_false (fun h=>hl h.2)];rfl
end K
noncomputable def BTA56:Tab:=BTA55.addCall 174 (callE D_s dB (fun a=>.ret (K.nameB a)))
theorem tTA56:TabOk P BTA56:=TabOk.addPC tTA55 (fun a r h=>by rw [← ret_some h];exact call_of okP tTA55 (K.named_eq a))
theorem fn_grade:∀ a,(callT1 P BTA56 30 151 D_s dB) a=T.run (
 .br (a == []) (
  .ret (true)) (
  .ret (nameB a))):=fun a=>by kernel_rfl
namespace K
theorem grade_eq (a:Str):callT1 P BTA56 30 151 D_s dB a=some (gradeB a):=by
 rw [fn_grade]
 unfold gradeB
 cases a with
 | nil=>rfl
 | cons b t=>exact br_f rfl rfl
end K
noncomputable def BTA57:Tab:=BTA56.addCall 151 (callE D_s dB (fun a=>.ret (K.gradeB a)))
theorem tTA57:TabOk P BTA57:=TabOk.addPC tTA56 (fun a r h=>by rw [← ret_some h];exact call_of okP tTA56 (K.grade_eq a))
end Go.Proofs.YtkpligkggnjcoaaGreatDoor
/-! TA6 -/
namespace Go.Proofs.YtkpligkggnjcoaaGreatDoor
open Ev K
set_option maxRecDepth 100000
def D_trm:=DecL.last dTrm 0
def D_rul:=DecL.last dRul 0
def D_tar:=DecL.last dTar 0
theorem fn_a_term:∀ a,(callT1 P BTA57 30 177 D_trm dB) a=T.run (
 .br (!a_within (Trm.pay a,(0:Int),(10000:Int))) (
  .ret (false)) (
  .br (Trm.per a == (0:Int)) (
   .br (Trm.above a == (0:Int)) (
    .ret (Trm.upto a == (0:Int))) (
    .ret (false))) (
   .br (a_within (Trm.per a,(1:Int),(65536:Int))) (
    .br (decide (Trm.above a ≥ (0:Int))) (
     .br (decide (Trm.above a<Trm.upto a)) (
      .ret (decide (Trm.upto a≤(65536:Int)))) (
      .ret (false))) (
     .ret (false))) (
    .ret (false))))):=fun a=>by kernel_rfl
noncomputable def K.a_term (a:Trm):Bool:=(if (!a_within (Trm.pay a,(0:Int),(10000:Int)))=true then false else (if (Trm.per a == (0:Int))=true then (if (Trm.above a == (0:Int))=true then Trm.upto a == (0:Int) else false) else (if (a_within (Trm.per a,(1:Int),(65536:Int)))=true then (if (decide (Trm.above a ≥ (0:Int)))=true then (if (decide (Trm.above a<Trm.upto a))=true then decide (Trm.upto a≤(65536:Int)) else false) else false) else false)))
theorem eq_a_term (a:Trm):(callT1 P BTA57 30 177 D_trm dB) a=some (K.a_term a):=(fn_a_term a).trans (T.br_some rfl (T.br_some (T.br_some rfl rfl) (T.br_some (T.br_some (T.br_some rfl rfl) rfl) rfl)))
noncomputable def BTA61:Tab:=BTA57.addCall 177 (callE D_trm dB (fun a=>.ret (K.a_term a)))
theorem tTA61:TabOk P BTA61:=TabOk.addFn (d:=30) okP tTA57 (fun a r h=>by rw [eq_a_term];exact congrArg some (ret_some h))
theorem fn_a_formed1:∀ a,(callT1 P BTA61 30 176 D_trm dB) a=T.run (
 .ret (!a_term a)):=fun a=>by kernel_rfl
noncomputable def K.a_formed1 (a:Trm):Bool:=!a_term a
theorem eq_a_formed1 (a:Trm):(callT1 P BTA61 30 176 D_trm dB) a=some (K.a_formed1 a):=(fn_a_formed1 a).trans rfl
noncomputable def BTA62:Tab:=BTA61.addCall 176 (callE D_trm dB (fun a=>.ret (K.a_formed1 a)))
theorem tTA62:TabOk P BTA62:=TabOk.addFn (d:=30) okP tTA61 (fun a r h=>by rw [eq_a_formed1];exact congrArg some (ret_some h))
def F_fm1:Dec Unit:=dFn 176 (.tops 0)
def S_if:=DecS.mk0 (.cons (dRows rTrm) (.unit (F_fm1) (.skips 5 (.cons (dInt) (.last (dInt) 10))))) .nil
noncomputable def K.st_if:=loopT1 P BTA62 30 206 17 [8,0,1,7] S_if X_ix
theorem sl_if:∀ s,(K.st_if) s=T.run (
 .br (decide (s.1.2.2<s.1.2.1)) (
  .chk (decide ((0:Int)≤s.1.2.2∧s.1.2.2<(↑(List.length s.1.1):Int))) <|
  .br (a_formed1 (Trm.mk (numOf (encF rTrm s.1.1 ((0:Nat)+Int.toNat s.1.2.2) (0:Nat))) (numOf (encF rTrm s.1.1 ((0:Nat)+Int.toNat s.1.2.2) (nat_lit 1))) (numOf (encF rTrm s.1.1 ((0:Nat)+Int.toNat s.1.2.2) (nat_lit 2))) (numOf (encF rTrm s.1.1 ((0:Nat)+Int.toNat s.1.2.2) (nat_lit 3))))) (
   .ret (Sum.inr (Sum.inr (s.1.2.2,PUnit.unit)))) (
   .ret (Sum.inl ((decF rTrm (List.length s.1.1) fun i=>encF rTrm s.1.1 ((0:Nat)+i),s.1.2.1,IntKind.wrap IntKind.i64 (s.1.2.2+(1:Int))),PUnit.unit)))) (
  .ret (Sum.inr (Sum.inl (PUnit.unit,PUnit.unit))))):=fun s=>by kernel_rfl
noncomputable def K.L_if:=lim K.st_if
noncomputable def BTA63:Tab:=BTA62.addNode 206 17 (nodeE [8,0,1,7] S_if X_ix (fun s=>.obs (K.L_if s) .ret))
theorem tTA63:TabOk P BTA63:=TabOk.addLoop (d:=30) okP tTA62 (by kernel_rfl) (by kernel_rfl) (fun s r h=>obs_ret h)
def D_if:=DecL.cons (dRows rTrm) (.unit F_fm1 (.tops 0))
theorem fn_if:∀ a,(callT1 P BTA63 30 206 D_if dInt) a=T.run (
 .obs (L_if ((decF rTrm (List.length a.1) fun i=>encF rTrm a.1 ((0:Nat)+i),(↑(clampL (List.length a.1)):Int),(0:Int)),PUnit.unit)) fun x0=>
  .sum (x0) (fun _=>
   .ret ((-1:Int))) (fun x1=>
   .ret x1.1)):=fun a=>by kernel_rfl
namespace K
theorem term_eq (t:Trm):a_term t=decide (trmOk t):=by
 apply Bool.eq_iff_iff.2
 rw [decide_eq_true_eq]
 unfold a_term a_within trmOk
 simp only [Bool.ite_eq_true_distrib]
 simp only [decide_eq_true_eq,beq_iff_eq,Bool.not_eq_eq_eq_not]
 repeat' split
 all_goals simp_all
 all_goals omega
def badT (t:Trm):Bool:=!decide (trmOk t)
theorem L_if_eq (l:List Trm) (hl:l.length≤1000000):L_if ((l,(l.length:Int),0),())=some (match first (atP l badT) l.length with
  | some j=>.inr ((j:Int),())
  | none=>.inl ((),())):=by
 refine (lim_find (fun i:Nat=>((l,(l.length:Int),(i:Int)),())) l.length (atP l badT) (fun j=>.inr ((j:Int),())) (.inl ((),())) (fun i hi hp=>?_) (fun i hi hp=>?_) ?_).trans ?_
 ·rw [sl_if]
  have hy:=List.getElem?_eq_getElem hi
  unfold atP at hp;rw [hy] at hp
  generalize l[i]=y at hy hp
  simp only [Int.toNat_natCast,Nat.zero_add,trm_at hy,nt0,nt1,nt2,nt3]
  exact br_t (decide_eq_true (by omega)) (chk_step (decide_eq_true (by omega)) (br_t (by show (!a_term y)=true;rw [term_eq];exact hp) rfl))
 ·rw [sl_if]
  have hy:=List.getElem?_eq_getElem hi
  unfold atP at hp;rw [hy] at hp
  generalize l[i]=y at hy hp
  simp only [Int.toNat_natCast,Nat.zero_add,trm_at hy,nt0,nt1,nt2,nt3,decF_encF,wi i (by omega)]
  exact br_t (decide_eq_true (by omega)) (chk_step (decide_eq_true (by omega)) (br_f (by show (!a_term y)=false;rw [term_eq];exact hp) rfl))
 ·rw [sl_if]
  exact br_f (decide_eq_false (by dsimp only;omega)) rfl
 ·cases first (atP l badT) l.length<;>rfl
def M_if (a:List Trm × Unit):T Int:=.chk (decide (a.1.length≤1000000)) (.ret (ixI a.1 badT))
theorem if_ok (a:List Trm × Unit) (r:Int) (h:(M_if a).run=some r):callT1 P BTA63 30 206 D_if dInt a=some r:=by
 obtain ⟨g,e⟩:=chk_ret h
 subst e
 have g:=of_decide_eq_true g
 rw [fn_if]
 simp only [Nat.zero_add,decF_encF,cl g]
 refine obs_step (L_if_eq a.1 g) ?_
 unfold ixI
 cases first (atP a.1 badT) a.1.length<;>rfl
end K
noncomputable def BTA64:Tab:=BTA63.addCall 206 (callE D_if dInt K.M_if)
theorem tTA64:TabOk P BTA64:=TabOk.addFn (d:=30) okP tTA63 (K.if_ok)
theorem fn_cf:∀ a,(callT1 P BTA64 30 175 D_if dB) a=T.run (
 .chk (decide (List.length (decF rTrm (List.length a.1) fun i=>encF rTrm a.1 ((0:Nat)+i))≤(1000000:Nat))) <|
 .ret (decide (ixI (decF rTrm (List.length a.1) fun i=>encF rTrm a.1 ((0:Nat)+i)) badT ≥ (0:Int)))):=fun a=>by kernel_rfl
namespace K
def M_cf (a:List Trm × Unit):T Bool:=.chk (decide (a.1.length≤1000000)) (.ret (a.1.any badT))
theorem cf_ok (a:List Trm × Unit) (r:Bool) (h:(M_cf a).run=some r):callT1 P BTA64 30 175 D_if dB a=some r:=by
 obtain ⟨g,e⟩:=chk_ret h
 subst e
 have g:=of_decide_eq_true g
 rw [fn_cf]
 simp only [Nat.zero_add,decF_encF]
 refine chk_step (decide_eq_true g) ?_
 rw [ixI_ge];rfl
end K
noncomputable def BTA65:Tab:=BTA64.addCall 175 (callE D_if dB K.M_cf)
theorem tTA65:TabOk P BTA65:=TabOk.addFn (d:=30) okP tTA64 (K.cf_ok)
def oRul:DecB (Rul × Unit):=.flat 68 lRul .nil
def S_fc:=DecS.mk0 (.skip (.unit (dLp 0 0 0 0) (.tops 114))) oRul
def X_fc:=DecX.one .ret [2] (DecS.mk0 (.skips 2 (.last (dB) 113)) .nil)
theorem ct_f11:∀ s,(cutT1 P BTA65 30 115 88 S_fc X_fc) s=T.run (
 let q4:=s.2.1;
 let q1:=decF rTrm (List.length (Rul.terms q4)) fun i=>encF rTrm (Rul.terms q4) ((0:Nat)+i);
 let q2:=(false,PUnit.unit);
 let q3:=(a_within (Rul.n q4,(0:Int),(10000:Int)),PUnit.unit);
  .br (Rul.kind q4 == (1:Int)) (
    .br (Rul.n q4 == (0:Int)) (
      .br (a_within ((↑(clampL (List.length (Rul.terms q4))):Int),(1:Int),(6:Int))) (
        .chk (decide (List.length q1≤(1000000:Nat))) <|
        .ret ((!List.any q1 badT,PUnit.unit))) (
        .ret q2)) (
      .ret q2)) (
    .br (Rul.kind q4 == (2:Int)) (
      .br (decide (Rul.n q4 ≥ (0:Int))) (
        .br (decide (Rul.n q4≤Rul.d q4)) (
          .ret ((a_within (Rul.d q4,(1:Int),(1000:Int)),PUnit.unit))) (
          .ret q2)) (
        .ret q2)) (
      .br (Rul.kind q4 == (3:Int)) (
        .ret q3) (
        .br (Rul.kind q4 == (4:Int)) (
          .ret q3) (
          .br (Rul.kind q4 == (5:Int)) (
            .br (a_within (Rul.n q4,(1:Int),(10000:Int))) (
              .ret ((a_within (Rul.way q4,(1:Int),(3:Int)),PUnit.unit))) (
              .ret q2)) (
            .ret q2)))))):=fun s=>by kernel_rfl
end Go.Proofs.YtkpligkggnjcoaaGreatDoor
/-! TA7 -/
namespace Go.Proofs.YtkpligkggnjcoaaGreatDoor
open Ev K
set_option maxRecDepth 100000
namespace K
theorem within_eq (a lo hi:Int):a_within (a,lo,hi)=decide (lo≤a∧a≤hi):=by
 unfold a_within
 apply Bool.eq_iff_iff.2
 by_cases h:lo≤a
 ·rw [if_pos (by simpa using h)];simp [h]
 ·rw [if_neg (by simpa using h)];simp [h]
theorem cl_in (n:Nat):(1≤((clampL n:Nat):Int)∧((clampL n:Nat):Int)≤6) ↔ (1≤n∧n≤6):=by
 unfold clampL maxL
 split<;>omega
def f11V (r:Rul):Bool:=
 if r.kind=1 then decide (r.n=0)&&(decide (1≤r.terms.length∧r.terms.length≤6)&&!r.terms.any badT)
 else if r.kind=2 then decide (0≤r.n)&&(decide (r.n≤r.d)&&decide (1≤r.d∧r.d≤1000))
 else if r.kind=3∨r.kind=4 then decide (0≤r.n∧r.n≤10000)
 else if r.kind=5 then decide (1≤r.n∧r.n≤10000)&&decide (1≤r.way∧r.way≤3)
 else false
theorem br_and {b c:Bool} {t e:T (Bool × Unit)} (h1:b=true→t.run=some (c,())) (h2:e.run=some (false,())):(T.br b t e).run=some (b&&c,()):=by
 cases b with
 | true=>exact h1 rfl
 | false=>exact h2
theorem f11_eq (s:Unit × Rul × Unit):cutT1 P BTA65 30 115 88 S_fc X_fc s=some (f11V s.2.1,()):=by
 rw [ct_f11]
 obtain ⟨_,r,_⟩:=s
 simp only [within_eq,cl_in,Nat.zero_add,decF_encF]
 unfold f11V
 by_cases k1:r.kind=1
 ·refine br_t (beq_iff_eq.2 k1) ?_
  rw [if_pos k1]
  refine (br_and (fun _=>br_and (fun h=>chk_step (decide_eq_true ?_) rfl) rfl) rfl).trans ?_
  ·have:=of_decide_eq_true h;omega
  ·rw [show (r.n == 0)=decide (r.n=0) from rfl]
 refine br_f (beq_eq_false_iff_ne.2 k1) ?_
 rw [if_neg k1]
 by_cases k2:r.kind=2
 ·refine br_t (beq_iff_eq.2 k2) ?_
  rw [if_pos k2]
  exact br_and (fun _=>br_and (fun _=>rfl) rfl) rfl
 refine br_f (beq_eq_false_iff_ne.2 k2) ?_
 rw [if_neg k2]
 by_cases k3:r.kind=3
 ·refine br_t (beq_iff_eq.2 k3) ?_
  rw [if_pos (.inl k3)];rfl
 refine br_f (beq_eq_false_iff_ne.2 k3) ?_
 by_cases k4:r.kind=4
 ·refine br_t (beq_iff_eq.2 k4) ?_
  rw [if_pos (.inr k4)];rfl
 refine br_f (beq_eq_false_iff_ne.2 k4) ?_
 rw [if_neg (fun h=>h.elim k3 k4)]
 by_cases k5:r.kind=5
 ·refine br_t (beq_iff_eq.2 k5) ?_
  rw [if_pos k5]
  exact br_and (fun _=>rfl) rfl
 refine br_f (beq_eq_false_iff_ne.2 k5) ?_
 rw [if_neg k5];rfl
end K
noncomputable def BTA71:Tab:=(BTA65.addNode 115 88 (nodeE [1] S_fc X_fc (fun s=>.ret (K.f11V s.2.1,())))).addCut 115 88
theorem tTA71:TabOk P BTA71:=TabOk.addCut (d:=30) okP tTA65 (by kernel_rfl) (fun s r h=>by rw [← ret_some h];exact K.f11_eq s)
theorem ct_f9:∀ s,(cutT1 P BTA71 30 115 72 S_fc X_fc) s=T.run (
 let q6:=s.2.1;
 let q1:=(f11V (Rul.mk (Rul.kind q6) (Rul.due q6) (decF rStr (List.length (Rul.grades q6)) fun i=>encF rStr (Rul.grades q6) ((0:Nat)+i)) (decF rTrm (List.length (Rul.terms q6)) fun i=>encF rTrm (Rul.terms q6) ((0:Nat)+i)) (Rul.n q6) (Rul.d q6) (Rul.way q6)),PUnit.unit);
 let q4:=Rul.kind q6 != (5:Int);
 let q5:=Rul.way q6 != (0:Int);
 let q3:=(false,PUnit.unit);
 let q2:T _:=.br q4 (
          .br q5 (
            .ret q3) (
            .ret q1)) (
          .ret q1);
  .br (Rul.kind q6 != (1:Int)) (
    .br (decide ((↑(clampL (List.length (Rul.terms q6))):Int) > (0:Int))) (
      .ret q3) (
      .br (Rul.kind q6 != (2:Int)) (
        .br (Rul.d q6 != (0:Int)) (
          .ret q3) (
          .br q4 (
            .br q5 (
              .ret q3) (
              .ret q1)) (
            .ret q1))) q2)) (
    .br (Rul.kind q6 != (2:Int)) (
      .br (Rul.d q6 != (0:Int)) (
        .ret q3) q2) (
      .br q4 (
        .br q5 (
          .ret q3) (
          .ret q1)) (
        .ret q1)))):=fun s=>by kernel_rfl
namespace K
theorem any_bad (l:List Trm):(!l.any badT)=true ↔ ∀ t ∈ l,trmOk t:=by
 rw [Bool.not_eq_true',← Bool.not_eq_true,List.any_eq_true]
 constructor
 ·intro h t ht
  exact Classical.byContradiction fun hn=>h ⟨t,ht,by unfold badT;rw [decide_eq_false hn];rfl⟩
 ·rintro h ⟨t,ht,hb⟩
  unfold badT at hb
  rw [decide_eq_true (h t ht)] at hb;cases hb
theorem kindOk_iff (r:Rul):kindOk r ↔ (r.kind≠1→r.terms=[])∧(r.kind≠2→r.d=0)∧(r.kind≠5→r.way=0)∧f11V r=true:=by
 unfold kindOk f11V
 by_cases k1:r.kind=1
 ·rw [if_pos k1,if_pos k1,Bool.and_eq_true,Bool.and_eq_true,any_bad,decide_eq_true_eq,decide_eq_true_eq]
  have k2:r.kind≠2:=by omega
  have k5:r.kind≠5:=by omega
  exact ⟨fun ⟨⟨a,b,c⟩,d,e⟩=>⟨fun h=>absurd k1 h,fun _=>b,fun _=>c,a,d,e⟩,fun ⟨_,b,c,a,d,e⟩=>⟨⟨a,b k2,c k5⟩,d,e⟩⟩
 rw [if_neg k1,if_neg k1]
 by_cases k2:r.kind=2
 ·rw [if_pos k2,if_pos k2,Bool.and_eq_true,Bool.and_eq_true,decide_eq_true_eq,decide_eq_true_eq,decide_eq_true_eq]
  have k5:r.kind≠5:=by omega
  exact ⟨fun ⟨a,⟨b,c⟩,d,e⟩=>⟨fun _=>a,fun h=>absurd k2 h,fun _=>e,b,c,d⟩,fun ⟨a,_,c,d,e,f⟩=>⟨a k1,⟨d,e⟩,f,c k5⟩⟩
 rw [if_neg k2,if_neg k2]
 by_cases k3:r.kind=3∨r.kind=4
 ·rw [if_pos k3,if_pos k3,decide_eq_true_eq]
  have k5:r.kind≠5:=by omega
  exact ⟨fun ⟨a,b,c,d⟩=>⟨fun _=>a,fun _=>c,fun _=>d,b⟩,fun ⟨a,b,c,d⟩=>⟨a k1,d,b k2,c k5⟩⟩
 rw [if_neg k3,if_neg k3]
 by_cases k5:r.kind=5
 ·rw [if_pos k5,Bool.and_eq_true,decide_eq_true_eq,decide_eq_true_eq]
  exact ⟨fun ⟨a,_,b,c,d⟩=>⟨fun _=>a,fun _=>c,fun h=>absurd k5 h,b,d⟩,fun ⟨a,b,_,c,d⟩=>⟨a k1,k5,c,b k2,d⟩⟩
 rw [if_neg k5]
 exact ⟨fun ⟨_,b,_⟩=>absurd b k5,fun ⟨_,_,_,h⟩=>by cases h⟩
theorem k_no {r:Rul} (h:¬ ((r.kind≠1→r.terms=[])∧(r.kind≠2→r.d=0)∧(r.kind≠5→r.way=0))):(T.ret (false,()):T (Bool × Unit)).run=some (decide (kindOk r),()):=by
 rw [decide_eq_false (fun hk=>h (by have:=(kindOk_iff r).1 hk;exact ⟨this.1,this.2.1,this.2.2.1⟩))];rfl
theorem k_yes {r:Rul} (h:(r.kind≠1→r.terms=[])∧(r.kind≠2→r.d=0)∧(r.kind≠5→r.way=0)):(T.ret (f11V r,()):T (Bool × Unit)).run=some (decide (kindOk r),()):=by
 have:decide (kindOk r)=f11V r:=by
  apply Bool.eq_iff_iff.2
  rw [decide_eq_true_eq,kindOk_iff]
  exact ⟨fun a=>a.2.2.2,fun a=>⟨h.1,h.2.1,h.2.2,a⟩⟩
 rw [this];rfl
theorem len_pos (l:List Trm):decide (((clampL l.length:Nat):Int) > 0)=true ↔ l≠[]:=by
 rw [decide_eq_true_eq]
 cases l with
 | nil=>simp [clampL]
 | cons a t=>unfold clampL maxL;simp only [List.length_cons,ne_eq,reduceCtorEq,not_false_iff,iff_true];split<;>omega
theorem len_zero (l:List Trm):decide (((clampL l.length:Nat):Int) > 0)=false ↔ l=[]:=by
 rw [← Bool.not_eq_true,len_pos,ne_eq,Classical.not_not]
theorem f9_eq (s:Unit × Rul × Unit):cutT1 P BTA71 30 115 72 S_fc X_fc s=some (decide (kindOk s.2.1),()):=by
 rw [ct_f9]
 obtain ⟨_,r,_⟩:=s
 simp only [Nat.zero_add,decF_encF]
 repeat' (refine br_if (fun h=>?_) fun h=>?_)
 all_goals simp only [bne_iff_ne,bne_eq_false_iff_eq,len_pos,len_zero] at *
 all_goals first
  | exact k_yes (by grind)
  | exact k_no (by grind)
end K
noncomputable def BTA72:Tab:=(BTA71.addNode 115 72 (nodeE [1] S_fc X_fc (fun s=>.ret (decide (K.kindOk s.2.1),())))).addCut 115 72
theorem tTA72:TabOk P BTA72:=TabOk.addCut (d:=30) okP tTA71 (by kernel_rfl) (fun s r h=>by rw [← ret_some h];exact K.f9_eq s)
def S_fg:=DecS.mk0 (.skip (.unit (dLp 0 0 0 0) (.skips 14 (.cons (dRows rStr) (.cons (dInt) (.last (dInt) 97)))))) oRul
def X_fg:=DecX.or (DecX.one (.exit 0) [1] (DecS.mk0 (.skip (.unit (dLp 0 0 0 0) (.tops 114))) oRul)) (DecX.one .ret [2] (DecS.mk0 (.skips 2 (.last (dB) 113)) .nil))
noncomputable def K.st_fg:=loopT1 P BTA72 30 115 33 [18,1,16,17] S_fg X_fg
theorem sl_fg:∀ s,(K.st_fg) s=T.run (
 let q5:=Rul.grades s.2.1;
 let q7:=(0:Nat);
 let q1:=decF rStr (List.length q5) fun i=>encF rStr q5 (q7+i);
 let q8:=s.1.2.2;
 let q2:=decF rStr (Int.toNat q8 - q7) fun i=>encF rStr q5 (nat_lit 0+i);
 let q3:=decF rTrm (List.length (Rul.terms s.2.1)) fun i=>encF rTrm (Rul.terms s.2.1) (q7+i);
 let q4:=textOf (encF rStr s.1.1 (q7+Int.toNat q8) q7);
 let q6:=Sum.inr (Sum.inr (false,PUnit.unit));
  .br (decide (q8<s.1.2.1)) (
    .chk (decide ((0:Int)≤q8∧q8<(↑(List.length s.1.1):Int))) <|
    .br (!nameB q4) (
      .ret q6) (
      .chk (decide ((0:Int)≤q8∧q8≤(↑(List.length q5):Int))&&true) <|
      .chk (decide (List.length q2≤(1000000:Nat))) <|
      .br (inS q2 q4) (
        .ret q6) (
        .ret (Sum.inl ((decF rStr (List.length s.1.1) fun i=>encF rStr s.1.1 (q7+i),s.1.2.1,IntKind.wrap IntKind.i64 (q8+(1:Int))),Rul.mk (Rul.kind s.2.1) (Rul.due s.2.1) q1 q3 (Rul.n s.2.1) (Rul.d s.2.1) (Rul.way s.2.1),PUnit.unit))))) (
    .ret (Sum.inr (Sum.inl (PUnit.unit,Rul.mk (Rul.kind s.2.1) (Rul.due s.2.1) q1 q3 (Rul.n s.2.1) (Rul.d s.2.1) (Rul.way s.2.1),PUnit.unit))))):=fun s=>by kernel_rfl
noncomputable def K.L_fg:=lim K.st_fg
noncomputable def BTA73:Tab:=BTA72.addNode 115 33 (nodeE [18,1,16,17] S_fg X_fg (fun s=>.obs (K.L_fg s) .ret))
theorem tTA73:TabOk P BTA73:=TabOk.addLoop (d:=30) okP tTA72 (by kernel_rfl) (by kernel_rfl) (fun s r h=>obs_ret h)
theorem fn_formed:∀ a,(callT1 P BTA73 30 115 D_rul dB) a=T.run (
 let q1:=List.length (Rul.grades a);
  .br (!nameB (Rul.due a)) (
    .ret (false)) (
    .br (decide ((↑(clampL q1):Int) > (8:Int))) (
      .ret (false)) (
      .obs (L_fg ((decF rStr q1 fun i=>encF rStr (Rul.grades a) ((0:Nat)+i),(↑(clampL q1):Int),(0:Int)),Rul.mk (Rul.kind a) (Rul.due a) (decF rStr q1 fun i=>encF rStr (Rul.grades a) ((0:Nat)+i)) (decF rTrm (List.length (Rul.terms a)) fun i=>encF rTrm (Rul.terms a) ((0:Nat)+i)) (Rul.n a) (Rul.d a) (Rul.way a),PUnit.unit)) fun x0=>
        .sum (x0) (fun x1=>
          .ret (decide (K.kindOk (Rul.mk (Rul.kind x1.2.1) (Rul.due x1.2.1) (decF rStr (List.length (Rul.grades x1.2.1)) fun i=>encF rStr (Rul.grades x1.2.1) ((0:Nat)+i)) (decF rTrm (List.length (Rul.terms x1.2.1)) fun i=>encF rTrm (Rul.terms x1.2.1) ((0:Nat)+i)) (Rul.n x1.2.1) (Rul.d x1.2.1) (Rul.way x1.2.1))))) (fun x1=>
          .ret x1.1)))):=fun a=>by kernel_rfl
end Go.Proofs.YtkpligkggnjcoaaGreatDoor
/-! TA8 -/
namespace Go.Proofs.YtkpligkggnjcoaaGreatDoor
open Ev K
set_option maxRecDepth 100000
namespace K
def errG (l:List Str) (i:Nat):Option Bool:=match l[i]? with
 | some g=>if nameB g=true then if inS (l.take i) g=true then some false else none else some false
 | none=>none
theorem errG_all (l:List Str):(List.range l.length).findSome? (errG l)=if (∀ g ∈ l,nameB g=true)∧l.Nodup then none else some false:=by
 cases h:(List.range l.length).findSome? (errG l) with
 | some b=>
  obtain ⟨i,hi,he⟩:=List.exists_of_findSome?_eq_some h
  have hi:=List.mem_range.1 hi
  unfold errG at he
  rw [List.getElem?_eq_getElem hi] at he
  simp only at he
  rw [if_neg]
  ·split at he
   ·split at he
    ·injection he with he;rw [he]
    ·cases he
   ·injection he with he;rw [he]
  ·rintro ⟨h1,h2⟩
   rw [if_pos (h1 _ (List.getElem_mem hi)),if_neg] at he
   ·cases he
   ·intro hin
    rw [inS_eq,List.contains_iff_mem] at hin
    obtain ⟨j,hj,e⟩:=List.mem_iff_getElem.1 hin
    simp only [List.length_take] at hj
    rw [List.getElem_take] at e
    exact List.pairwise_iff_getElem.1 h2 j i (by omega) hi (by omega) e
 | none=>
  have key:∀ i (hi:i<l.length),nameB l[i]=true∧¬ inS (l.take i) l[i]=true:=fun i hi=>by
   have:=findSome_none h i (List.mem_range.2 hi)
   unfold errG at this
   rw [List.getElem?_eq_getElem hi] at this
   simp only at this
   split at this
   ·rename_i h1
    split at this
    ·cases this
    ·rename_i h2;exact ⟨h1,h2⟩
   ·cases this
  rw [if_pos]
  refine ⟨fun g hg=>?_,List.pairwise_iff_getElem.2 fun i j hi hj hij e=>(key j hj).2 ?_⟩
  ·obtain ⟨i,hi,rfl⟩:=List.mem_iff_getElem.1 hg;exact (key i hi).1
  ·rw [inS_eq,List.contains_iff_mem]
   exact List.mem_iff_getElem.2 ⟨i,by simp;omega,by rw [List.getElem_take];exact e⟩
theorem dec_take (l:List Str) (n:Nat) (h:n≤l.length):decF rStr n (fun i=>encF rStr l (0+i))=l.take n:=by
 apply List.ext_getElem?
 intro i
 simp only [decF,List.getElem?_map,Nat.zero_add]
 by_cases hi:i<n
 ·rw [List.getElem?_range hi,List.getElem?_take_of_lt hi,List.getElem?_eq_getElem (by omega),Option.map_some,str_at (List.getElem?_eq_getElem (by omega))];rfl
 ·rw [List.getElem?_eq_none (by simp;omega),List.getElem?_eq_none (by simp;omega)];rfl
theorem L_fg_eq (r:Rul) (hl:r.grades.length≤1000):L_fg ((r.grades,(r.grades.length:Int),0),r,())=some (if (∀ g ∈ r.grades,nameB g=true)∧r.grades.Nodup then .inl ((),r,()) else .inr (false,())):=by
 refine (lim_err (fun i:Nat=>((r.grades,(r.grades.length:Int),(i:Int)),r,())) r.grades.length (errG r.grades) (fun e=>.inr (e,())) (.inl ((),r,())) (fun i hi=>?_) ?_).trans ?_
 ·rw [sl_fg]
  have hy:=List.getElem?_eq_getElem hi
  unfold errG;rw [hy]
  generalize r.grades[i]=g at hy
  simp only [Int.toNat_natCast,Nat.sub_zero,dec_take r.grades i (by omega),str_at hy,ns0,decF_enc0,wi i (by omega),show (0+i)=i from Nat.zero_add i]
  refine br_t (decide_eq_true (by omega)) (chk_step (decide_eq_true (by omega)) ?_)
  cases hn:nameB g with
  | false=>exact br_t rfl rfl
  | true=>
   refine br_f rfl (chk_step (by simp;omega) (chk_step (decide_eq_true (by rw [List.length_take];omega)) ?_))
   cases hs:inS (r.grades.take i) g with
   | true=>exact br_t rfl rfl
   | false=>exact br_f rfl rfl
 ·rw [sl_fg]
  simp only [decF_enc0]
  exact br_f (decide_eq_false (by omega)) rfl
 ·rw [errG_all]
  by_cases h:(∀ g ∈ r.grades,nameB g=true)∧r.grades.Nodup
  ·rw [if_pos h,if_pos h];rfl
  ·rw [if_neg h,if_neg h];rfl
theorem clampL_gt (n k:Nat) (hk:k≤1000000):decide (((clampL n:Nat):Int) > (k:Int))=decide (n > k):=by
 apply Bool.eq_iff_iff.2
 rw [decide_eq_true_eq,decide_eq_true_eq]
 unfold clampL maxL
 split<;>omega
theorem formed_eq (r:Rul):callT1 P BTA73 30 115 D_rul dB r=some (decide (rulOk r)):=by
 rw [fn_formed]
 have e1:=clampL_gt r.grades.length 8 (by omega)
 simp only [decF_enc0,show ((8:Nat):Int)=8 from rfl] at e1 ⊢
 rw [e1]
 by_cases hn:nameB r.due=true
 ·refine br_f (by rw [hn];rfl) ?_
  by_cases hg:r.grades.length > 8
  ·refine br_t (decide_eq_true hg) ?_
   rw [decide_eq_false (fun h:rulOk r=>by have:=h.1.2;omega)];rfl
  ·refine br_f (decide_eq_false hg) ?_
   rw [cl (by omega)]
   refine obs_step (L_fg_eq r (by omega)) ?_
   by_cases h:(∀ g ∈ r.grades,nameB g=true)∧r.grades.Nodup
   ·rw [if_pos h]
    show some (decide (kindOk r))=_
    congr 1
    apply Bool.eq_iff_iff.2
    rw [decide_eq_true_eq,decide_eq_true_eq]
    exact ⟨fun hk=>⟨⟨hn,by omega⟩,h.1,h.2,hk⟩,fun hk:rulOk r=>hk.2.2.2⟩
   ·rw [if_neg h,decide_eq_false (fun hk:rulOk r=>h ⟨hk.2.1,hk.2.2.1⟩)];rfl
 ·rw [decide_eq_false (fun h:rulOk r=>hn h.1.1)]
  exact br_t (by rw [Bool.not_eq_true'] ;simpa using hn) rfl
end K
noncomputable def BTA81:Tab:=BTA73.addCall 115 (callE D_rul dB (fun a=>.ret (decide (K.rulOk a))))
theorem tTA81:TabOk P BTA81:=TabOk.addPC tTA73 (fun a r h=>by rw [← ret_some h];exact call_of okP tTA73 (K.formed_eq a))
def S_ck:=DecS.mk0 (.skips 10 (.cons (dRowsN nRul) (.cons (dInt) (.last (dInt) 7)))) .nil
def X_ck:=DecX.or (DecX.one (.exit 0) [] (DecS.mk0 (.tops 20) .nil)) (DecX.one .ret [2] (DecS.mk0 (.skips 2 (.last (dInt) 17)) .nil))
noncomputable def K.st_ck:=loopT1 P BTA81 30 63 33 [12,10,11] S_ck X_ck
theorem sl_ck:∀ s,(K.st_ck) s=T.run (
 let q1:=(0:Nat)+Int.toNat s.1.2.2;
 let q2:=encN nRul s.1.1 q1 (nat_lit 2);
 let q3:=encN nRul s.1.1 q1 (nat_lit 3);
  .br (decide (s.1.2.2<s.1.2.1)) (
    .chk (decide ((0:Int)≤s.1.2.2∧s.1.2.2<(↑(List.length s.1.1):Int))) <|
    .br (!decide (rulOk (Rul.mk (numOf (encN nRul s.1.1 q1 (0:Nat))) (textOf (encN nRul s.1.1 q1 (nat_lit 1))) (decF rStr (slLen q2) fun i=>slF q2 (slRow q2+i)) (decF rTrm (slLen q3) fun i=>slF q3 (slRow q3+i)) (numOf (encN nRul s.1.1 q1 (nat_lit 4))) (numOf (encN nRul s.1.1 q1 (nat_lit 5))) (numOf (encN nRul s.1.1 q1 (nat_lit 6)))))) (
      .ret (Sum.inr (Sum.inr ((7:Int),PUnit.unit)))) (
      .ret (Sum.inl ((decN nRul (List.length s.1.1) fun i=>encN nRul s.1.1 ((0:Nat)+i),s.1.2.1,IntKind.wrap IntKind.i64 (s.1.2.2+(1:Int))),PUnit.unit)))) (
    .ret (Sum.inr (Sum.inl (PUnit.unit,PUnit.unit))))):=fun s=>by kernel_rfl
noncomputable def K.L_ck:=lim K.st_ck
noncomputable def BTA82:Tab:=BTA81.addNode 63 33 (nodeE [12,10,11] S_ck X_ck (fun s=>.obs (K.L_ck s) .ret))
theorem tTA82:TabOk P BTA82:=TabOk.addLoop (d:=30) okP tTA81 (by kernel_rfl) (by kernel_rfl) (fun s r h=>obs_ret h)
theorem fn_check:∀ a,(callT1 P BTA82 30 63 D_tar dInt) a=T.run (
 .br (decide ((↑(clampL (List.length a)):Int) > (30:Int))) (
  .ret ((2:Int))) (
  .obs (L_ck ((decN nRul (List.length a) fun i=>encN nRul a ((0:Nat)+i),(↑(clampL (List.length a)):Int),(0:Int)),PUnit.unit)) fun x0=>
   .sum (x0) (fun _=>
    .ret ((0:Int))) (fun x1=>
    .ret x1.1))):=fun a=>by kernel_rfl
namespace K
theorem decN_enc0' {ρ:Type} (R:RowN ρ) (l:List ρ):decN R l.length (fun i=>encN R l (0+i))=l:=decN_enc0 R l
theorem so_rd {σ:Type} (R:RowD σ) (l:List σ):decF R (slLen (slOf R l)) (fun i=>slF (slOf R l) (slRow (slOf R l)+i))=l:=decF_enc0 R l
def badR (l:List Rul) (i:Nat):Option Int:=match l[i]? with
 | some r=>if rulOk r then none else some 7
 | none=>none
theorem badR_all (l:List Rul):(List.range l.length).findSome? (badR l)=if ∀ r ∈ l,rulOk r then none else some 7:=by
 cases h:(List.range l.length).findSome? (badR l) with
 | some b=>
  obtain ⟨i,hi,he⟩:=List.exists_of_findSome?_eq_some h
  have hi:=List.mem_range.1 hi
  unfold badR at he
  rw [List.getElem?_eq_getElem hi] at he
  simp only at he
  split at he
  ·cases he
  ·rename_i hn
   injection he with he
   rw [if_neg (fun h=>hn (h _ (List.getElem_mem hi))),he]
 | none=>
  rw [if_pos]
  intro r hr
  obtain ⟨i,hi,rfl⟩:=List.mem_iff_getElem.1 hr
  have:=findSome_none h i (List.mem_range.2 hi)
  unfold badR at this
  rw [List.getElem?_eq_getElem hi] at this
  simp only at this
  split at this
  ·assumption
  ·cases this
theorem L_ck_eq (l:List Rul) (hl:l.length≤1000):L_ck ((l,(l.length:Int),0),())=some (if ∀ r ∈ l,rulOk r then .inl ((),()) else .inr (7,())):=by
 refine (lim_err (fun i:Nat=>((l,(l.length:Int),(i:Int)),())) l.length (badR l) (fun e=>.inr (e,())) (.inl ((),())) (fun i hi=>?_) ?_).trans ?_
 ·rw [sl_ck]
  have hy:=List.getElem?_eq_getElem hi
  unfold badR;rw [hy]
  generalize l[i]=r at hy
  simp only [Int.toNat_natCast,show (0+i)=i from Nat.zero_add i,rul_at hy,nr0,nr1,nr2,nr3,nr4,nr5,nr6,so_rd,decN_enc0',wi i (by omega)]
  refine br_t (decide_eq_true (by omega)) (chk_step (decide_eq_true (by omega)) ?_)
  by_cases h:rulOk r
  ·rw [if_pos h]
   exact br_f (by show (!decide (rulOk r))=false;rw [decide_eq_true h];rfl) rfl
  ·rw [if_neg h]
   exact br_t (by show (!decide (rulOk r))=true;rw [decide_eq_false h];rfl) rfl
 ·rw [sl_ck]
  exact br_f (decide_eq_false (by dsimp only;omega)) rfl
 ·rw [badR_all]
  by_cases h:∀ r ∈ l,rulOk r
  ·rw [if_pos h,if_pos h];rfl
  ·rw [if_neg h,if_neg h];rfl
theorem check_eq (l:List Rul):callT1 P BTA82 30 63 D_tar dInt l=some (checkT l):=by
 rw [fn_check]
 have e1:=clampL_gt l.length 30 (by omega)
 simp only [decN_enc0',show ((30:Nat):Int)=30 from rfl] at e1 ⊢
 rw [e1]
 unfold checkT
 by_cases hl:l.length > 30
 ·rw [if_pos hl];exact br_t (decide_eq_true hl) rfl
 ·rw [if_neg hl]
  refine br_f (decide_eq_false hl) ?_
  rw [cl (by omega)]
  refine obs_step (L_ck_eq l (by omega)) ?_
  by_cases h:∀ r ∈ l,rulOk r
  ·rw [if_pos h,if_pos h];rfl
  ·rw [if_neg h,if_neg h];rfl
end K
noncomputable def BTA83:Tab:=BTA82.addCall 63 (callE D_tar dInt (fun a=>.ret (K.checkT a)))
theorem tTA83:TabOk P BTA83:=TabOk.addPC tTA82 (fun a r h=>by rw [← ret_some h];exact call_of okP tTA82 (K.check_eq a))
end Go.Proofs.YtkpligkggnjcoaaGreatDoor
/-! TB1 -/
namespace Go.Proofs.YtkpligkggnjcoaaGreatDoor
open Ev K
set_option maxRecDepth 100000
def D_add:=DecL.cons (dRows rTrm) (.last dInt 0)
def D_beh:=DecL.cons dRul (.cons dInt (.last dInt 0))
def D_is:=DecL.cons dRul (.cons dS (.last dS 0))
def D_pen:=DecL.cons dTar (.cons dS (.cons dS (.last dInt 0)))
def D_ask:=DecL.cons dTar (.cons dS (.last dS 0))
def S_ad:=DecS.mk0 (.skip (.cons (dInt) (.skips 3 (.cons (dInt) (.skips 3 (.cons (dRows rTrm) (.cons (dInt) (.last (dInt) 33)))))))) .nil
def X_ad:=DecX.one (.exit 0) [5] (DecS.mk0 (.skips 5 (.last (dInt) 39)) .nil)
noncomputable def K.st_ad:=loopT1 P BTA83 30 161 25 [11,5,1,9,10] S_ad X_ad
theorem sl_ad:∀ s,(K.st_ad) s=T.run (
 let q5:=s.1.2.2.2.2;
 let q1:=(0:Nat)+Int.toNat q5;
 let q4:=s.1.2.2.1;
 let q2:=(if numOf (encF rTrm q4 q1 (nat_lit 3))<s.1.1 then numOf (encF rTrm q4 q1 (nat_lit 3)) else s.1.1) - numOf (encF rTrm q4 q1 (nat_lit 2));
 let q3:=encF rTrm q4 q1 (0:Nat);
  .br (decide (q5<s.1.2.2.2.1)) (
    .chk (decide ((0:Int)≤q5∧q5<(↑(List.length q4):Int))) <|
    .br (numOf q3 == (0:Int)) (
      .ret (Sum.inl ((s.1.1,IntKind.wrap IntKind.i64 (s.1.2.1+numOf (encF rTrm q4 q1 (nat_lit 1))),decF rTrm (List.length q4) fun i=>encF rTrm q4 ((0:Nat)+i),s.1.2.2.2.1,IntKind.wrap IntKind.i64 (q5+(1:Int))),PUnit.unit))) (
      .chk (!decide (numOf q3=(0:Int))) <|
      .ret (Sum.inl ((s.1.1,IntKind.wrap IntKind.i64 (s.1.2.1+IntKind.wrap IntKind.i64 (numOf (encF rTrm q4 q1 (nat_lit 1)) * IntKind.wrap IntKind.i64 (Int.tdiv (IntKind.wrap IntKind.i64 (IntKind.wrap IntKind.i64 ((if IntKind.wrap IntKind.i64 q2 > (0:Int) then IntKind.wrap IntKind.i64 q2 else (0:Int))+numOf q3) - (1:Int))) (numOf q3)))),decF rTrm (List.length q4) fun i=>encF rTrm q4 ((0:Nat)+i),s.1.2.2.2.1,IntKind.wrap IntKind.i64 (q5+(1:Int))),PUnit.unit)))) (
    .ret (Sum.inr (s.1.2.1,PUnit.unit)))):=fun s=>by kernel_rfl
noncomputable def K.L_ad:=lim K.st_ad
noncomputable def BTB11:Tab:=BTA83.addNode 161 25 (nodeE [11,5,1,9,10] S_ad X_ad (fun s=>.obs (K.L_ad s) .ret))
theorem tTB11:TabOk P BTB11:=TabOk.addLoop (d:=30) okP tTA83 (by kernel_rfl) (by kernel_rfl) (fun s r h=>obs_ret h)
theorem fn_ad:∀ a,(callT1 P BTB11 30 161 D_add dInt) a=T.run (
 .obs (L_ad ((a.2,(0:Int),decF rTrm (List.length a.1) fun i=>encF rTrm a.1 ((0:Nat)+i),(↑(clampL (List.length a.1)):Int),(0:Int)),PUnit.unit)) fun x0=>
  .ret x0.1):=fun a=>by kernel_rfl
theorem fn_is:∀ a,(callT1 P BTB11 30 100 D_is dB) a=T.run (
 .br (Rul.due a.1 == a.2.1) (
  .br ((↑(clampL (List.length (Rul.grades a.1))):Int) == (0:Int)) (
   .ret (true)) (
   .chk (decide (List.length (decF rStr (List.length (Rul.grades a.1)) fun i=>encF rStr (Rul.grades a.1) ((0:Nat)+i))≤(1000000:Nat))) <|
   .ret (inS (decF rStr (List.length (Rul.grades a.1)) fun i=>encF rStr (Rul.grades a.1) ((0:Nat)+i)) a.2.2))) (
  .ret (false))):=fun a=>by kernel_rfl
end Go.Proofs.YtkpligkggnjcoaaGreatDoor
/-! TB2 -/
namespace Go.Proofs.YtkpligkggnjcoaaGreatDoor
open Ev K
set_option maxRecDepth 100000
namespace K
theorem so_rd' {σ:Type} (R:RowD σ) (l:List σ):decF R l.length (fun i=>encF R l (0+i))=l:=decF_enc0 R l
theorem is_ok (a:Rul × Str × Str) (r:Bool) (h:(T.chk (decide (a.1.grades.length≤1000000)) (.ret (forR a.1 a.2.1 a.2.2))).run=some r):callT1 P BTB11 30 100 D_is dB a=some r:=by
 obtain ⟨g,e⟩:=chk_ret h
 subst e
 have g:=of_decide_eq_true g
 rw [fn_is]
 simp only [so_rd',cl g]
 unfold forR
 cases hd:(a.1.due == a.2.1) with
 | false=>exact br_f rfl rfl
 | true=>
  refine br_t rfl ?_
  cases hg:a.1.grades with
  | nil=>exact br_t rfl rfl
  | cons x t=>
   rw [hg] at g
   refine br_f (beq_eq_false_iff_ne.2 (by simp only [List.length_cons];omega)) (chk_step (decide_eq_true g) ?_)
   rw [inS_eq];rfl
theorem paid_calc {t:Trm} (h:trmOk t) (hp:t.per≠0) {m:Int} (hm:0≤m∧m≤65536) :
  IntKind.i64.wrap (t.pay * IntKind.i64.wrap (Int.tdiv (IntKind.i64.wrap (IntKind.i64.wrap ((if IntKind.i64.wrap ((if t.upto<m then t.upto else m) - t.above) > 0 then IntKind.i64.wrap ((if t.upto<m then t.upto else m) - t.above) else 0)+t.per) - 1)) t.per))=paidT t m:=by
 have hb:=paidT_bd h hm
 obtain ⟨h1,h2⟩:=h
 rw [if_neg hp] at h2
 obtain ⟨p1,p2,p3,p4⟩:=h2
 have e0:(if t.upto<m then t.upto else m)=min m t.upto:=by split<;>omega
 rw [e0,w64_in (n:=min m t.upto - t.above) (by omega) (by omega)]
 have e1:(if min m t.upto - t.above > 0 then min m t.upto - t.above else 0)=max 0 (min m t.upto - t.above):=by split<;>omega
 rw [e1]
 have hx:0≤max 0 (min m t.upto - t.above)∧max 0 (min m t.upto - t.above)≤65536:=by omega
 unfold paidT at hb ⊢
 rw [if_neg hp] at hb ⊢
 generalize max 0 (min m t.upto - t.above)=x at hx hb
 rw [w64_in (n:=x+t.per) (by omega) (by omega),w64_in (n:=x+t.per - 1) (by omega) (by omega)]
 obtain ⟨d1,d2⟩:=div_up (x:=x) (p:=t.per) hx.1 p1.1
 rw [w64_in (n:=(x+t.per - 1).tdiv t.per) (by omega) (by omega),w64_in (by omega) (by omega)]
theorem L_ad_eq (l:List Trm) (h:∀ t ∈ l,trmOk t) (hl:l.length≤6) (m:Int) (hm:0≤m∧m≤65536) (d:Nat):∀ (i:Nat) (a:Int),i+d=l.length→0≤a→a≤i * 655360000 →
  L_ad ((m,a,l,(l.length:Int),(i:Int)),())=some (((l.drop i).map fun t=>paidT t m).foldl (·+·) a,()):=by
 induction d with
 | zero=>
  intro i a hi _ _
  rw [List.drop_of_length_le (by omega)]
  refine lim_done ?_
  rw [sl_ad]
  exact br_f (decide_eq_false (by dsimp only;omega)) rfl
 | succ d ih=>
  intro i a hi h0 h1
  have hy:l[i]?=some l[i]:=List.getElem?_eq_getElem (by omega)
  have ht:=h l[i] (List.getElem_mem _)
  have hb:=paidT_bd ht hm
  have ih:=ih (i+1) (a+paidT l[i] m) (by omega) (by omega) (by omega)
  rw [List.drop_eq_getElem_cons (by omega),List.map_cons,List.foldl_cons]
  refine (lim_step ?_).trans ih
  rw [sl_ad]
  generalize l[i]=t at hy ht hb
  simp only [Int.toNat_natCast,show (0+i)=i from Nat.zero_add i,trm_at hy,nt0,nt1,nt2,nt3,so_rd',wi i (by omega)]
  refine br_t (decide_eq_true (by omega)) (chk_step (decide_eq_true (by omega)) ?_)
  by_cases hp:t.per=0
  ·refine br_t (beq_iff_eq.2 hp) ?_
   have e:paidT t m=t.pay:=by unfold paidT;rw [if_pos hp]
   rw [e] at hb ⊢
   rw [w64_in (n:=a+t.pay) (by omega) (by omega)];rfl
  ·refine br_f (beq_eq_false_iff_ne.2 hp) (chk_step (by rw [Bool.not_eq_true'];exact decide_eq_false hp) ?_)
   rw [paid_calc ht hp hm,w64_in (n:=a+paidT t m) (by omega) (by omega)];rfl
def addOk (a:List Trm × Int):Prop:=(a.1.length≤6∧∀ t ∈ a.1,trmOk t)∧0≤a.2∧a.2≤65536
instance (a:List Trm × Int):Decidable (addOk a):=by unfold addOk;infer_instance
def addV (a:List Trm × Int):Int:=(a.1.map fun t=>paidT t a.2).foldl (·+·) 0
theorem ad_ok (a:List Trm × Int) (r:Int) (h:(T.chk (decide (addOk a)) (.ret (addV a))).run=some r):callT1 P BTB11 30 161 D_add dInt a=some r:=by
 obtain ⟨g,e⟩:=chk_ret h
 subst e
 obtain ⟨⟨g1,g2⟩,g3⟩:=of_decide_eq_true g
 rw [fn_ad]
 simp only [so_rd',cl (show a.1.length≤1000000 by omega)]
 refine obs_step (L_ad_eq a.1 g2 g1 a.2 g3 a.1.length 0 0 (by omega) (Int.le_refl _) (by omega)) ?_
 rw [List.drop_zero];rfl
end K
end Go.Proofs.YtkpligkggnjcoaaGreatDoor
/-! TB3 -/
namespace Go.Proofs.YtkpligkggnjcoaaGreatDoor
open Ev K
set_option maxRecDepth 100000
noncomputable def BTB31:Tab:=BTB11.addCall 100 (callE D_is dB (fun a=>.chk (decide (a.1.grades.length≤1000000)) (.ret (K.forR a.1 a.2.1 a.2.2))))
theorem tTB31:TabOk P BTB31:=TabOk.addFn (d:=30) okP tTB11 (K.is_ok)
noncomputable def BTB32:Tab:=BTB31.addCall 161 (callE D_add dInt (fun a=>.chk (decide (K.addOk a)) (.ret (K.addV a))))
theorem tTB32:TabOk P BTB32:=TabOk.addPC tTB31 (fun a r h=>call_of okP tTB11 (K.ad_ok a r h))
theorem fn_beh:∀ a,(callT1 P BTB32 30 101 D_beh dInt) a=T.run (
 let q1:=(decF rTrm (List.length (Rul.terms a.1)) fun i=>encF rTrm (Rul.terms a.1) ((0:Nat)+i),a.2.2);
 let q2:=!decide (Rul.n a.1=(0:Int));
  .br (Rul.kind a.1 == (1:Int)) (
    .chk (decide (addOk q1)) <|
    .ret (IntKind.wrap IntKind.i64 (a.2.1+addV q1))) (
    .br (Rul.kind a.1 == (2:Int)) (
      .chk (!decide (Rul.d a.1=(0:Int))) <|
      .ret (IntKind.wrap IntKind.i64 (a.2.1 - IntKind.wrap IntKind.i64 (Int.tdiv (IntKind.wrap IntKind.i64 (a.2.1 * Rul.n a.1)) (Rul.d a.1))))) (
      .br (Rul.kind a.1 == (3:Int)) (
        .ret (if Rul.n a.1 > a.2.1 then Rul.n a.1 else a.2.1)) (
        .br (Rul.kind a.1 == (4:Int)) (
          .ret (if Rul.n a.1<a.2.1 then Rul.n a.1 else a.2.1)) (
          .br (Rul.way a.1 == (1:Int)) (
            .chk q2 <|
            .ret (IntKind.wrap IntKind.i64 (IntKind.wrap IntKind.i64 (Int.tdiv (IntKind.wrap IntKind.i64 (IntKind.wrap IntKind.i64 (a.2.1+Rul.n a.1) - (1:Int))) (Rul.n a.1)) * Rul.n a.1))) (
            .br (Rul.way a.1 == (2:Int)) (
              .chk q2 <|
              .ret (IntKind.wrap IntKind.i64 (IntKind.wrap IntKind.i64 (Int.tdiv a.2.1 (Rul.n a.1)) * Rul.n a.1))) (
              .chk (!decide (IntKind.wrap IntKind.i64 ((2:Int) * Rul.n a.1)=(0:Int))) <|
              .ret (IntKind.wrap IntKind.i64 (IntKind.wrap IntKind.i64 (Int.tdiv (IntKind.wrap IntKind.i64 (IntKind.wrap IntKind.i64 ((2:Int) * a.2.1)+Rul.n a.1)) (IntKind.wrap IntKind.i64 ((2:Int) * Rul.n a.1))) * Rul.n a.1))))))))):=fun a=>by kernel_rfl
end Go.Proofs.YtkpligkggnjcoaaGreatDoor
/-! TB4 -/
namespace Go.Proofs.YtkpligkggnjcoaaGreatDoor
open Ev K
set_option maxRecDepth 100000
namespace K
def behOk (a:Rul × Int × Int):Prop:=kindOk a.1∧(0≤a.2.2∧a.2.2≤65536)∧0≤a.2.1∧a.2.1≤130000000000
instance (a:Rul × Int × Int):Decidable (behOk a):=by unfold behOk;infer_instance
theorem add_fold (l:List Trm) (m:Int):∀ a:Int,(l.map fun t=>paidT t m).foldl (·+·) a=a+(l.map fun t=>paidT t m).foldl (·+·) 0:=by
 induction l with
 | nil=>intro a;simp
 | cons t l ih=>
  intro a
  simp only [List.map_cons,List.foldl_cons]
  rw [ih (a+paidT t m),ih (0+paidT t m)];omega
theorem beh_ok (a:Rul × Int × Int) (r:Int) (h:(T.chk (decide (behOk a)) (.ret (nextR a.1 a.2.1 a.2.2))).run=some r):callT1 P BTB32 30 101 D_beh dInt a=some r:=by
 obtain ⟨g,e⟩:=chk_ret h
 subst e
 obtain ⟨hk,hm,ha⟩:=of_decide_eq_true g
 clear g h
 rw [fn_beh]
 obtain ⟨r,a,m⟩:=a
 simp only at hk hm ha ⊢
 simp only [so_rd']
 have hkk:=hk
 unfold kindOk at hkk
 by_cases k1:r.kind=1
 ·rw [if_pos k1] at hkk
  refine br_t (beq_iff_eq.2 k1) (chk_step (decide_eq_true ⟨⟨hkk.2.1.2,hkk.2.2⟩,hm⟩) ?_)
  have hb:=sum_bd hkk.2.2 hm (a:=0)
  have hl:=hkk.2.1.2
  have e:nextR r a m=a+addV (r.terms,m):=by
   unfold nextR addV
   rw [if_pos k1,add_fold]
  have hb2:0≤addV (r.terms,m)∧addV (r.terms,m)≤0+r.terms.length * 655360000:=hb
  rw [e,w64_in (by omega) (by omega)];rfl
 rw [if_neg k1] at hkk
 refine br_f (beq_eq_false_iff_ne.2 k1) ?_
 obtain ⟨_,hkk⟩:=hkk
 by_cases k2:r.kind=2
 ·rw [if_pos k2] at hkk
  obtain ⟨⟨n1,n2⟩,⟨d1,d2⟩,_⟩:=hkk
  refine br_t (beq_iff_eq.2 k2) (chk_step (by rw [Bool.not_eq_true'];exact decide_eq_false (by omega)) ?_)
  have hmul:0≤a * r.n∧a * r.n≤130000000000 * 1000:=⟨Int.mul_nonneg ha.1 n1,Int.mul_le_mul ha.2 (by omega) n1 (by decide)⟩
  have hd:0≤(a * r.n).tdiv r.d:=Int.tdiv_nonneg hmul.1 (by omega)
  have hle:(a * r.n).tdiv r.d≤a:=by
   rw [Int.tdiv_eq_ediv_of_nonneg hmul.1]
   exact Int.ediv_le_of_le_mul (by omega) (Int.mul_le_mul_of_nonneg_left n2 ha.1)
  have e:nextR r a m=a - (a * r.n).tdiv r.d:=by unfold nextR;rw [if_neg k1,if_pos k2]
  rw [e,w64_in (n:=a * r.n) (by omega) (by omega)]
  generalize (a * r.n).tdiv r.d=q at hd hle
  rw [w64_in (n:=q) (by omega) (by omega),w64_in (by omega) (by omega)];rfl
 rw [if_neg k2] at hkk
 refine br_f (beq_eq_false_iff_ne.2 k2) ?_
 by_cases k3:r.kind=3
 ·refine br_t (beq_iff_eq.2 k3) ?_
  have e:nextR r a m=max a r.n:=by unfold nextR;rw [if_neg k1,if_neg k2,if_pos k3]
  rw [e]
  show some _=some _
  congr 1;split<;>omega
 refine br_f (beq_eq_false_iff_ne.2 k3) ?_
 by_cases k4:r.kind=4
 ·refine br_t (beq_iff_eq.2 k4) ?_
  have e:nextR r a m=min a r.n:=by unfold nextR;rw [if_neg k1,if_neg k2,if_neg k3,if_pos k4]
  rw [e]
  show some _=some _
  congr 1;split<;>omega
 rw [if_neg (fun h=>h.elim k3 k4)] at hkk
 refine br_f (beq_eq_false_iff_ne.2 k4) ?_
 have e:nextR r a m=roundV r.n r.way a:=by unfold nextR;rw [if_neg k1,if_neg k2,if_neg k3,if_neg k4]
 obtain ⟨_,⟨n1,n2⟩,_,w1,w2⟩:=hkk
 have hb:=roundV_bd (n:=r.n) (way:=r.way) n1 ha.1
 have h0:(!decide (r.n=0))=true:=by rw [Bool.not_eq_true'];exact decide_eq_false (by omega)
 have small:∀ x:Int,0≤x→x≤300000000000→∀ n:Int,1≤n→0≤x.tdiv n∧x.tdiv n≤300000000000:=fun x hx hx2 n hn=>by
  refine ⟨Int.tdiv_nonneg hx (by omega),?_⟩
  rw [Int.tdiv_eq_ediv_of_nonneg hx]
  refine Int.ediv_le_of_le_mul (by omega) ?_
  have:=Int.mul_le_mul_of_nonneg_left hn (show (0:Int)≤300000000000 by decide)
  omega
 rw [e]
 by_cases y1:r.way=1
 ·refine br_t (beq_iff_eq.2 y1) (chk_step h0 ?_)
  rw [y1] at hb ⊢
  have hr:=round_up n1 ha.1
  rw [w64_in (n:=a+r.n) (by omega) (by omega),w64_in (n:=a+r.n - 1) (by omega) (by omega)]
  have hs:=small (a+r.n - 1) (by omega) (by omega) r.n n1
  rw [w64_in (n:=(a+r.n - 1).tdiv r.n) (by omega) (by omega),hr,w64_in (by omega) (by omega)];rfl
 refine br_f (beq_eq_false_iff_ne.2 y1) ?_
 by_cases y2:r.way=2
 ·refine br_t (beq_iff_eq.2 y2) (chk_step h0 ?_)
  rw [y2] at hb ⊢
  have hr:=round_down (n:=r.n) ha.1
  have hv:roundV r.n 2 a=a - a.tmod r.n:=by unfold roundV;rw [if_pos (.inr (.inl rfl))]
  rw [hv] at hb ⊢
  have hs:=small a ha.1 (by omega) r.n n1
  rw [w64_in (n:=a.tdiv r.n) (by omega) (by omega),hr,w64_in (by omega) (by omega)];rfl
 have y3:r.way=3:=by omega
 refine br_f (beq_eq_false_iff_ne.2 y2) ?_
 rw [y3] at hb ⊢
 have hr:=round_near n1 ha.1
 rw [w64_in (n:=2 * r.n) (by omega) (by omega)]
 refine chk_step (by rw [Bool.not_eq_true'];exact decide_eq_false (by omega)) ?_
 rw [w64_in (n:=2 * a) (by omega) (by omega),w64_in (n:=2 * a+r.n) (by omega) (by omega)]
 have hs:=small (2 * a+r.n) (by omega) (by omega) (2 * r.n) (by omega)
 rw [w64_in (n:=(2 * a+r.n).tdiv (2 * r.n)) (by omega) (by omega),hr,w64_in (by omega) (by omega)];rfl
end K
end Go.Proofs.YtkpligkggnjcoaaGreatDoor
/-! TB5 -/
namespace Go.Proofs.YtkpligkggnjcoaaGreatDoor
open Ev K
set_option maxRecDepth 100000
noncomputable def BTB51:Tab:=BTB32.addCall 101 (callE D_beh dInt (fun a=>.chk (decide (K.behOk a)) (.ret (K.nextR a.1 a.2.1 a.2.2))))
theorem tTB51:TabOk P BTB51:=TabOk.addFn (d:=30) okP tTB32 (K.beh_ok)
def S_pe:=DecS.mk0 (.skip (.cons (dS) (.cons (dS) (.cons (dInt) (.skips 5 (.cons (dInt) (.skips 3 (.cons (dRowsN nRul) (.cons (dInt) (.last (dInt) 13)))))))))) .nil
def X_pe:=DecX.one (.exit 0) [9] (DecS.mk0 (.skips 9 (.last (dInt) 19)) .nil)
noncomputable def K.st_pe:=loopT1 P BTB51 30 96 25 [15,3,9,2,1,13,14] S_pe X_pe
theorem sl_pe:∀ s,(K.st_pe) s=T.run (
 let q6:=s.1.2.2.2.2.2.2;
 let q1:=(0:Nat)+Int.toNat q6;
 let q4:=s.1.2.2.2.2.1;
 let q13:=numOf (encN nRul q4 q1 (0:Nat));
 let q9:=textOf (encN nRul q4 q1 (nat_lit 1));
 let q7:=encN nRul q4 q1 (nat_lit 2);
 let q3:=decF rStr (slLen q7) fun i=>slF q7 (slRow q7+i);
 let q8:=encN nRul q4 q1 (nat_lit 3);
 let q5:=decF rTrm (slLen q8) fun i=>slF q8 (slRow q8+i);
 let q10:=numOf (encN nRul q4 q1 (nat_lit 4));
 let q11:=numOf (encN nRul q4 q1 (nat_lit 5));
 let q12:=numOf (encN nRul q4 q1 (nat_lit 6));
 let q2:=Rul.mk q13 q9 q3 q5 q10 q11 q12;
  .br (decide (q6<s.1.2.2.2.2.2.1)) (
    .chk (decide ((0:Int)≤q6∧q6<(↑(List.length q4):Int))) <|
    .chk (decide (List.length q3≤(1000000:Nat))) <|
    .br (forR q2 s.1.1 s.1.2.1) (
      .chk (decide (behOk (Rul.mk q13 q9 q3 q5 q10 q11 q12,s.1.2.2.2.1,s.1.2.2.1))) <|
      .ret (Sum.inl ((s.1.1,s.1.2.1,s.1.2.2.1,nextR q2 s.1.2.2.2.1 s.1.2.2.1,decN nRul (List.length q4) fun i=>encN nRul q4 ((0:Nat)+i),s.1.2.2.2.2.2.1,IntKind.wrap IntKind.i64 (q6+(1:Int))),PUnit.unit))) (
      .ret (Sum.inl ((s.1.1,s.1.2.1,s.1.2.2.1,s.1.2.2.2.1,decN nRul (List.length q4) fun i=>encN nRul q4 ((0:Nat)+i),s.1.2.2.2.2.2.1,IntKind.wrap IntKind.i64 (q6+(1:Int))),PUnit.unit)))) (
    .ret (Sum.inr (s.1.2.2.2.1,PUnit.unit)))):=fun s=>by kernel_rfl
noncomputable def K.L_pe:=lim K.st_pe
noncomputable def BTB52:Tab:=BTB51.addNode 96 25 (nodeE [15,3,9,2,1,13,14] S_pe X_pe (fun s=>.obs (K.L_pe s) .ret))
theorem tTB52:TabOk P BTB52:=TabOk.addLoop (d:=30) okP tTB51 (by kernel_rfl) (by kernel_rfl) (fun s r h=>obs_ret h)
theorem fn_pe:∀ a,(callT1 P BTB52 30 96 D_pen dInt) a=T.run (
 .obs (L_pe ((a.2.1,a.2.2.1,a.2.2.2,(0:Int),decN nRul (List.length a.1) fun i=>encN nRul a.1 ((0:Nat)+i),(↑(clampL (List.length a.1)):Int),(0:Int)),PUnit.unit)) fun x0=>
  .ret x0.1):=fun a=>by kernel_rfl
end Go.Proofs.YtkpligkggnjcoaaGreatDoor
/-! TB6 -/
namespace Go.Proofs.YtkpligkggnjcoaaGreatDoor
open Ev K
set_option maxRecDepth 100000
namespace K
theorem trc_bd {l:List Rul} (h:checkT l=0) (due grade:Str) {m:Int} (hm:0≤m∧m≤65536) (i:Nat):0≤(trc l due grade m i).1∧(trc l due grade m i).1≤120000000000:=by
 obtain ⟨h1,h2⟩:=checkT_ok h
 rw [trc_take]
 have:=pence_bd (l:=l.take i) (fun r hr=>h2 r (List.mem_of_mem_take hr)) due grade hm
 have hl:(l.take i).length≤30:=by rw [List.length_take];omega
 omega
theorem L_pe_eq (l:List Rul) (due grade:Str) (m:Int) (hc:checkT l=0) (hm:0≤m∧m≤65536):L_pe ((due,grade,m,0,l,(l.length:Int),0),())=some (penceL l due grade m,()):=by
 obtain ⟨h1,h2⟩:=checkT_ok hc
 rw [← trc_pence]
 refine lim_all (fun i:Nat=>((due,grade,m,(trc l due grade m i).1,l,(l.length:Int),(i:Int)),())) l.length (fun i hi=>?_) ?_
 ·have hy:=List.getElem?_eq_getElem hi
  have hr:=h2 l[i] (List.getElem_mem hi)
  have hb:=trc_bd hc due grade hm i
  rw [sl_pe]
  simp only [trc]
  rw [hy]
  generalize l[i]=r at hy hr
  simp only [Int.toNat_natCast,show (0+i)=i from Nat.zero_add i,rul_at hy,nr0,nr1,nr2,nr3,nr4,nr5,nr6,so_rd,decN_enc0',wi i (by omega)]
  refine br_t (decide_eq_true (by omega)) (chk_step (decide_eq_true (by omega)) (chk_step (decide_eq_true (by have:=hr.1.2;omega)) ?_))
  by_cases hf:forR r due grade=true
  ·rw [if_pos hf]
   exact br_t hf (chk_step (decide_eq_true ⟨hr.2.2.2,hm,hb.1,by dsimp only;omega⟩) rfl)
  ·rw [if_neg hf]
   exact br_f (by simpa using hf) rfl
 ·rw [sl_pe]
  exact br_f (decide_eq_false (by dsimp only;omega)) rfl
def penOk (a:List Rul × Str × Str × Int):Prop:=checkT a.1=0∧0≤a.2.2.2∧a.2.2.2≤65536
instance (a:List Rul × Str × Str × Int):Decidable (penOk a):=by unfold penOk;infer_instance
theorem pe_ok (a:List Rul × Str × Str × Int) (r:Int) (h:(T.chk (decide (penOk a)) (.ret (penceL a.1 a.2.1 a.2.2.1 a.2.2.2))).run=some r):callT1 P BTB52 30 96 D_pen dInt a=some r:=by
 obtain ⟨g,e⟩:=chk_ret h
 subst e
 obtain ⟨g1,g2⟩:=of_decide_eq_true g
 have hl:=(checkT_ok g1).1
 rw [fn_pe]
 simp only [decN_enc0',cl (show a.1.length≤1000000 by omega)]
 refine obs_step (L_pe_eq a.1 a.2.1 a.2.2.1 a.2.2.2 g1 g2) ?_
 rfl
end K
noncomputable def BTB61:Tab:=BTB52.addCall 96 (callE D_pen dInt (fun a=>.chk (decide (K.penOk a)) (.ret (K.penceL a.1 a.2.1 a.2.2.1 a.2.2.2))))
theorem tTB61:TabOk P BTB61:=TabOk.addPC tTB52 (fun a r h=>call_of okP tTB52 (K.pe_ok a r h))
def dPs:Dec Str:=dP 1 (.last dS 0) 0
def F_as:Dec Str:=dFn 158 (.last dPs 0)
def D_as1:=DecL.cons dRul (.last dPs 0)
theorem fn_a_as1:∀ a,(callT1 P BTB61 30 158 D_as1 dB) a=T.run (
 .ret (Rul.due a.1 == a.2)):=fun a=>by kernel_rfl
noncomputable def K.a_as1 (a:Rul × Str):Bool:=Rul.due a.1 == a.2
theorem eq_a_as1 (a:Rul × Str):(callT1 P BTB61 30 158 D_as1 dB) a=some (K.a_as1 a):=(fn_a_as1 a).trans rfl
noncomputable def BTB62:Tab:=BTB61.addCall 158 (callE D_as1 dB (fun a=>.ret (K.a_as1 a)))
theorem tTB62:TabOk P BTB62:=TabOk.addFn (d:=30) okP tTB61 (fun a r h=>by rw [eq_a_as1];exact congrArg some (ret_some h))
def S_ia:=DecS.mk0 (.cons (dRowsN nRul) (.cons (F_as) (.skips 5 (.cons (dInt) (.last (dInt) 10))))) .nil
noncomputable def K.st_ia:=loopT1 P BTB62 30 195 17 [8,0,1,7] S_ia X_ix
theorem sl_ia:∀ s,(K.st_ia) s=T.run (
 let q4:=s.1.2.2.2;
 let q1:=(0:Nat)+Int.toNat q4;
 let q2:=encN nRul s.1.1 q1 (nat_lit 2);
 let q3:=encN nRul s.1.1 q1 (nat_lit 3);
  .br (decide (q4<s.1.2.2.1)) (
    .chk (decide ((0:Int)≤q4∧q4<(↑(List.length s.1.1):Int))) <|
    .br (a_as1 (Rul.mk (numOf (encN nRul s.1.1 q1 (0:Nat))) (textOf (encN nRul s.1.1 q1 (nat_lit 1))) (decF rStr (slLen q2) fun i=>slF q2 (slRow q2+i)) (decF rTrm (slLen q3) fun i=>slF q3 (slRow q3+i)) (numOf (encN nRul s.1.1 q1 (nat_lit 4))) (numOf (encN nRul s.1.1 q1 (nat_lit 5))) (numOf (encN nRul s.1.1 q1 (nat_lit 6))),s.1.2.1)) (
      .ret (Sum.inr (Sum.inr (q4,PUnit.unit)))) (
      .ret (Sum.inl ((decN nRul (List.length s.1.1) fun i=>encN nRul s.1.1 ((0:Nat)+i),s.1.2.1,s.1.2.2.1,IntKind.wrap IntKind.i64 (q4+(1:Int))),PUnit.unit)))) (
    .ret (Sum.inr (Sum.inl (PUnit.unit,PUnit.unit))))):=fun s=>by kernel_rfl
noncomputable def K.L_ia:=lim K.st_ia
noncomputable def BTB63:Tab:=BTB62.addNode 195 17 (nodeE [8,0,1,7] S_ia X_ix (fun s=>.obs (K.L_ia s) .ret))
theorem tTB63:TabOk P BTB63:=TabOk.addLoop (d:=30) okP tTB62 (by kernel_rfl) (by kernel_rfl) (fun s r h=>obs_ret h)
def D_ia:=DecL.cons (dRowsN nRul) (.last F_as 0)
theorem fn_ia:∀ a,(callT1 P BTB63 30 195 D_ia dInt) a=T.run (
 .obs (L_ia ((decN nRul (List.length a.1) fun i=>encN nRul a.1 ((0:Nat)+i),a.2,(↑(clampL (List.length a.1)):Int),(0:Int)),PUnit.unit)) fun x0=>
  .sum (x0) (fun _=>
   .ret ((-1:Int))) (fun x1=>
   .ret x1.1)):=fun a=>by kernel_rfl
end Go.Proofs.YtkpligkggnjcoaaGreatDoor
/-! TB7 -/
namespace Go.Proofs.YtkpligkggnjcoaaGreatDoor
open Ev K
set_option maxRecDepth 100000
namespace K
def dueP (s:Str) (r:Rul):Bool:=r.due == s
theorem L_ia_eq (l:List Rul) (s:Str) (hl:l.length≤1000000):L_ia ((l,s,(l.length:Int),0),())=some (match first (atP l (dueP s)) l.length with
  | some j=>.inr ((j:Int),())
  | none=>.inl ((),())):=by
 refine (lim_find (fun i:Nat=>((l,s,(l.length:Int),(i:Int)),())) l.length (atP l (dueP s)) (fun j=>.inr ((j:Int),())) (.inl ((),())) (fun i hi hp=>?_) (fun i hi hp=>?_) ?_).trans ?_
 ·rw [sl_ia]
  have hy:=List.getElem?_eq_getElem hi
  unfold atP at hp;rw [hy] at hp
  generalize l[i]=y at hy hp
  simp only [Int.toNat_natCast,show (0+i)=i from Nat.zero_add i,rul_at hy,nr1]
  exact br_t (decide_eq_true (by omega)) (chk_step (decide_eq_true (by omega)) (br_t hp rfl))
 ·rw [sl_ia]
  have hy:=List.getElem?_eq_getElem hi
  unfold atP at hp;rw [hy] at hp
  generalize l[i]=y at hy hp
  simp only [Int.toNat_natCast,show (0+i)=i from Nat.zero_add i,rul_at hy,nr1,decN_enc0',wi i (by omega)]
  exact br_t (decide_eq_true (by omega)) (chk_step (decide_eq_true (by omega)) (br_f hp rfl))
 ·rw [sl_ia]
  exact br_f (decide_eq_false (by dsimp only;omega)) rfl
 ·cases first (atP l (dueP s)) l.length<;>rfl
theorem ia_ok (a:List Rul × Str) (r:Int) (h:(T.chk (decide (a.1.length≤1000000)) (.ret (ixI a.1 (dueP a.2)))).run=some r):callT1 P BTB63 30 195 D_ia dInt a=some r:=by
 obtain ⟨g,e⟩:=chk_ret h
 subst e
 have g:=of_decide_eq_true g
 rw [fn_ia]
 simp only [decN_enc0',cl g]
 refine obs_step (L_ia_eq a.1 a.2 g) ?_
 unfold ixI
 cases first (atP a.1 (dueP a.2)) a.1.length<;>rfl
end K
noncomputable def BTB71:Tab:=BTB63.addCall 195 (callE D_ia dInt (fun a=>.chk (decide (a.1.length≤1000000)) (.ret (K.ixI a.1 (K.dueP a.2)))))
theorem tTB71:TabOk P BTB71:=TabOk.addPC tTB63 (fun a r h=>call_of okP tTB63 (K.ia_ok a r h))
theorem fn_ca:∀ a,(callT1 P BTB71 30 157 D_ia dB) a=T.run (
 .chk (decide (List.length (decN nRul (List.length a.1) fun i=>encN nRul a.1 ((0:Nat)+i))≤(1000000:Nat))) <|
 .ret (decide (ixI (decN nRul (List.length a.1) fun i=>encN nRul a.1 ((0:Nat)+i)) (dueP a.2) ≥ (0:Int)))):=fun a=>by kernel_rfl
namespace K
theorem ca_ok (a:List Rul × Str) (r:Bool) (h:(T.chk (decide (a.1.length≤1000000)) (.ret (a.1.any (dueP a.2)))).run=some r):callT1 P BTB71 30 157 D_ia dB a=some r:=by
 obtain ⟨g,e⟩:=chk_ret h
 subst e
 have g:=of_decide_eq_true g
 rw [fn_ca]
 simp only [decN_enc0']
 refine chk_step (decide_eq_true g) ?_
 rw [ixI_ge];rfl
end K
noncomputable def BTB72:Tab:=BTB71.addCall 157 (callE D_ia dB (fun a=>.chk (decide (a.1.length≤1000000)) (.ret (a.1.any (K.dueP a.2)))))
theorem tTB72:TabOk P BTB72:=TabOk.addFn (d:=30) okP tTB71 (K.ca_ok)
theorem fn_ask:∀ a,(callT1 P BTB72 30 94 D_ask dInt) a=T.run (
 .br (checkT (decN nRul (List.length a.1) fun i=>encN nRul a.1 ((0:Nat)+i)) != (0:Int)) (
  .ret (checkT (decN nRul (List.length a.1) fun i=>encN nRul a.1 ((0:Nat)+i)))) (
  .chk (decide (List.length (decN nRul (List.length a.1) fun i=>encN nRul a.1 ((0:Nat)+i))≤(1000000:Nat))) <|
  .br (!List.any (decN nRul (List.length a.1) fun i=>encN nRul a.1 ((0:Nat)+i)) (dueP a.2.1)) (
   .ret ((5:Int))) (
   .br (!gradeB a.2.2) (
    .ret ((1:Int))) (
    .ret ((0:Int)))))):=fun a=>by kernel_rfl
namespace K
def askL (l:List Rul) (due grade:Str):Int:=if checkT l≠0 then checkT l else if (l.any (dueP due))=false then 5 else if gradeB grade=false then 1 else 0
theorem ask_eq (a:List Rul × Str × Str):callT1 P BTB72 30 94 D_ask dInt a=some (askL a.1 a.2.1 a.2.2):=by
 rw [fn_ask]
 simp only [decN_enc0']
 unfold askL
 by_cases hc:checkT a.1=0
 ·have hl:=(checkT_ok hc).1
  rw [if_neg (fun h=>h hc)]
  refine br_f (by rw [hc];rfl) (chk_step (decide_eq_true (by omega)) ?_)
  cases hd:a.1.any (dueP a.2.1) with
  | false=>exact br_t rfl rfl
  | true=>
   refine br_f rfl ?_
   cases hg:gradeB a.2.2 with
   | false=>exact br_t rfl rfl
   | true=>exact br_f rfl rfl
 ·rw [if_pos hc]
  exact br_t (bne_iff_ne.2 hc) rfl
end K
noncomputable def BTB73:Tab:=BTB72.addCall 94 (callE D_ask dInt (fun a=>.ret (K.askL a.1 a.2.1 a.2.2)))
theorem tTB73:TabOk P BTB73:=TabOk.addPC tTB72 (fun a r h=>by rw [← ret_some h];exact call_of okP tTB72 (K.ask_eq a))
def R_ii:=dTup (.cons dInt (.last dInt 0))
theorem fn_Pe:∀ a,(callT1 P BTB73 30 38 D_pen R_ii) a=T.run (
 .br (askL (decN nRul (List.length a.1) fun i=>encN nRul a.1 ((0:Nat)+i)) a.2.1 a.2.2.1 != (0:Int)) (
  .ret (((0:Int),askL (decN nRul (List.length a.1) fun i=>encN nRul a.1 ((0:Nat)+i)) a.2.1 a.2.2.1))) (
  .br (!a_within (a.2.2.2,(0:Int),(65536:Int))) (
   .ret (((0:Int),(1:Int)))) (
   .chk (decide (penOk (decN nRul (List.length a.1) fun i=>encN nRul a.1 ((0:Nat)+i),a.2))) <|
   .ret ((penceL (decN nRul (List.length a.1) fun i=>encN nRul a.1 ((0:Nat)+i)) a.2.1 a.2.2.1 a.2.2.2,(0:Int)))))):=fun a=>by kernel_rfl
end Go.Proofs.YtkpligkggnjcoaaGreatDoor
/-! TB8 -/
namespace Go.Proofs.YtkpligkggnjcoaaGreatDoor
open Ev K
set_option maxRecDepth 100000
namespace K
def penV (l:List Rul) (due grade:Str) (m:Int):Int × Int:=if askL l due grade≠0 then (0,askL l due grade) else if 0≤m∧m≤65536 then (penceL l due grade m,0) else (0,1)
theorem ask_ok {l:List Rul} {due grade:Str} (h:askL l due grade=0):checkT l=0∧l.any (dueP due)=true∧gradeB grade=true:=by
 unfold askL at h
 split at h
 ·rename_i h1;exact absurd h h1
 ·rename_i h1
  split at h
  ·cases h
  ·rename_i h2
   split at h
   ·cases h
   ·rename_i h3
    exact ⟨Classical.not_not.1 h1,by simpa using h2,by simpa using h3⟩
theorem Pe_eq (a:List Rul × Str × Str × Int):callT1 P BTB73 30 38 D_pen R_ii a=some (penV a.1 a.2.1 a.2.2.1 a.2.2.2):=by
 rw [fn_Pe]
 simp only [decN_enc0',within_eq]
 unfold penV
 by_cases ha:askL a.1 a.2.1 a.2.2.1=0
 ·rw [if_neg (fun h=>h ha)]
  refine br_f (by rw [ha];rfl) ?_
  by_cases hm:0≤a.2.2.2∧a.2.2.2≤65536
  ·rw [if_pos hm]
   exact br_f (by rw [decide_eq_true hm];rfl) (chk_step (decide_eq_true ⟨(ask_ok ha).1,hm⟩) rfl)
  ·rw [if_neg hm]
   exact br_t (by rw [decide_eq_false hm];rfl) rfl
 ·rw [if_pos ha]
  exact br_t (bne_iff_ne.2 ha) rfl
end K
noncomputable def BTB81:Tab:=BTB73.addCall 38 (callE D_pen R_ii (fun a=>.ret (K.penV a.1 a.2.1 a.2.2.1 a.2.2.2)))
theorem tTB81:TabOk P BTB81:=TabOk.addPC tTB73 (fun a r h=>by rw [← ret_some h];exact call_of okP tTB73 (K.Pe_eq a))
def S_tr:=DecS.ghost 12 80 3 [.int .i64,.int .i64,.int .i64] (DecS.mk0 (.skip (.cons (dS) (.cons (dS) (.cons (dInt) (.skips 8 (.cons (dO 0) (.cons (dInt) (.skips 15 (.cons (dRowsN nRul) (.cons (dInt) (.last (dInt) 22))))))))))) (.rows 80 rEff .nil))
def X_tr:=DecX.one (.exit 0) [12] (DecS.mk0 (.skips 12 (.last (dO 0) 41)) (.rows 80 rEff .nil))
noncomputable def K.st_tr:=loopT1 P BTB81 30 40 57 [31,13,12,3,2,1,29,30] S_tr X_tr
theorem sl_tr:∀ s,(K.st_tr) s=T.run (
 let q3:=s.1.2.2.2.2.2.1;
 let q6:=s.1.2.2.2.2.2.2.2;
 let q2:=(0:Nat)+Int.toNat q6;
 let q14:=numOf (encN nRul q3 q2 (0:Nat));
 let q10:=textOf (encN nRul q3 q2 (nat_lit 1));
 let q7:=encN nRul q3 q2 (nat_lit 2);
 let q4:=decF rStr (slLen q7) fun i=>slF q7 (slRow q7+i);
 let q8:=encN nRul q3 q2 (nat_lit 3);
 let q5:=decF rTrm (slLen q8) fun i=>slF q8 (slRow q8+i);
 let q11:=numOf (encN nRul q3 q2 (nat_lit 4));
 let q12:=numOf (encN nRul q3 q2 (nat_lit 5));
 let q13:=numOf (encN nRul q3 q2 (nat_lit 6));
 let q1:=Rul.mk q14 q10 q4 q5 q11 q12 q13;
 let q9:=s.1.2.2.2.2.1;
 let q15:=List.length s.2.1;
 let q16:=List.length s.2.1+(1:Nat);
 let q17:=encF rEff s.2.1;
 let q18:=s.1.2.2.2.2.2.2.1;
  .br (decide (q6<q18)) (
    .chk (decide ((0:Int)≤q6∧q6<(↑(List.length q3):Int))) <|
    .chk (decide (List.length q4≤(1000000:Nat))) <|
    .br (forR q1 s.1.1 s.1.2.1) (
      .chk (decide (behOk (Rul.mk q14 q10 q4 q5 q11 q12 q13,q9,s.1.2.2.1))) <|
      .chk (decide (q16 * (24:Nat)≤(140737488355328:Nat)∧List.length s.2.1+(1:Nat)≤nat_lit 9223372036854775807)) <|
      .ret (Sum.inl ((s.1.1,s.1.2.1,s.1.2.2.1,List.length s.2.1+(1:Nat),nextR q1 q9 s.1.2.2.1,decN nRul (List.length q3) fun i=>encN nRul q3 ((0:Nat)+i),q18,IntKind.wrap IntKind.i64 (q6+(1:Int))),decF rEff q16 (appG q15 q17 fun i k=>Option.getD [AV.int IntKind.i64 q6,AV.int IntKind.i64 q9,AV.int IntKind.i64 (nextR q1 q9 s.1.2.2.1)][((0:Nat)+i) * (3:Nat)+k]? AV.top),PUnit.unit))) (
      .ret (Sum.inl ((s.1.1,s.1.2.1,s.1.2.2.1,s.1.2.2.2.1,q9,decN nRul (List.length q3) fun i=>encN nRul q3 ((0:Nat)+i),q18,IntKind.wrap IntKind.i64 (q6+(1:Int))),decF rEff q15 q17,PUnit.unit)))) (
    .ret (Sum.inr (s.1.2.2.2.1,decF rEff q15 q17,PUnit.unit)))):=fun s=>by kernel_rfl
noncomputable def K.L_tr:=lim K.st_tr
noncomputable def BTB82:Tab:=BTB81.addNode 40 57 (nodeE [31,13,12,3,2,1,29,30] S_tr X_tr (fun s=>.obs (K.L_tr s) .ret))
theorem tTB82:TabOk P BTB82:=TabOk.addLoop (d:=30) okP tTB81 (by kernel_rfl) (by kernel_rfl) (fun s r h=>obs_ret h)
def R_tr:=dTup (.cons (dRows rEff) (.last dInt 0))
theorem fn_Tr:∀ a,(callT1 P BTB82 30 40 D_pen R_tr) a=T.run (
 .br (Prod.snd (penV (decN nRul (List.length a.1) fun i=>encN nRul a.1 ((0:Nat)+i)) a.2.1 a.2.2.1 a.2.2.2) != (0:Int)) (
  .ret (([],Prod.snd (penV (decN nRul (List.length a.1) fun i=>encN nRul a.1 ((0:Nat)+i)) a.2.1 a.2.2.1 a.2.2.2)))) (
  .obs (L_tr ((a.2.1,a.2.2.1,a.2.2.2,(0:Nat),(0:Int),decN nRul (List.length a.1) fun i=>encN nRul a.1 ((0:Nat)+i),(↑(clampL (List.length a.1)):Int),(0:Int)),decF rEff (0:Nat) fun _x _x_1=>AV.top,PUnit.unit)) fun x0=>
   .ret ((decF rEff (List.length x0.2.1) fun i=>encF rEff x0.2.1 ((0:Nat)+i),(0:Int))))):=fun a=>by kernel_rfl
end Go.Proofs.YtkpligkggnjcoaaGreatDoor
/-! TB9 -/
namespace Go.Proofs.YtkpligkggnjcoaaGreatDoor
open Ev K
set_option maxRecDepth 100000
namespace K
theorem pushE (l:List Effc) (a b c:Int):decF rEff (l.length+1) (appG l.length (encF rEff l) fun i k=>([(.int .i64 a:AV),.int .i64 b,.int .i64 c][i * 3+k]?).getD .top)=l ++ [⟨a,b,c⟩]:=(decF_app rEff l 1 _).trans rfl
theorem L_tr_eq (l:List Rul) (due grade:Str) (m:Int) (hc:checkT l=0) (hm:0≤m∧m≤65536):L_tr ((due,grade,m,0,0,l,(l.length:Int),0),[],())=some ((traceL l due grade m).length,traceL l due grade m,()):=by
 obtain ⟨h1,h2⟩:=checkT_ok hc
 unfold traceL
 refine lim_all (fun i:Nat=>((due,grade,m,(trc l due grade m i).2.length,(trc l due grade m i).1,l,(l.length:Int),(i:Int)),(trc l due grade m i).2,())) l.length (fun i hi=>?_) ?_
 ·have hy:=List.getElem?_eq_getElem hi
  have hr:=h2 l[i] (List.getElem_mem hi)
  have hb:=trc_bd hc due grade hm i
  have hlen:=trc_len l due grade m i
  rw [sl_tr]
  simp only [trc]
  rw [hy]
  generalize l[i]=r at hy hr
  simp only [Int.toNat_natCast,Nat.zero_add,rul_at hy,nr0,nr1,nr2,nr3,nr4,nr5,nr6,so_rd,decN_encN,decF_encF,wi i (by omega),pushE]
  refine br_t (decide_eq_true (by omega)) (chk_step (decide_eq_true (by omega)) (chk_step (decide_eq_true (by have:=hr.1.2;omega)) ?_))
  by_cases hf:forR r due grade=true
  ·rw [if_pos hf]
   refine br_t hf (chk_step (decide_eq_true ⟨hr.2.2.2,hm,hb.1,by dsimp only;omega⟩) (chk_step (decide_eq_true (by omega)) ?_))
   rw [List.length_append,List.length_singleton];rfl
  ·rw [if_neg hf]
   exact br_f (by simpa using hf) rfl
 ·rw [sl_tr]
  simp only [decF_encF]
  exact br_f (decide_eq_false (by omega)) rfl
def traceV (l:List Rul) (due grade:Str) (m:Int):List Effc × Int:=if (penV l due grade m).2≠0 then ([],(penV l due grade m).2) else (traceL l due grade m,0)
theorem pen_ok {l:List Rul} {due grade:Str} {m:Int} (h:(penV l due grade m).2=0):askL l due grade=0∧0≤m∧m≤65536:=by
 unfold penV at h
 split at h
 ·rename_i h1;exact absurd h h1
 ·rename_i h1
  split at h
  ·rename_i h2;exact ⟨Classical.not_not.1 h1,h2⟩
  ·cases h
theorem Tr_eq (a:List Rul × Str × Str × Int):callT1 P BTB82 30 40 D_pen R_tr a=some (traceV a.1 a.2.1 a.2.2.1 a.2.2.2):=by
 rw [fn_Tr]
 simp only [decN_enc0']
 unfold traceV
 by_cases hp:(penV a.1 a.2.1 a.2.2.1 a.2.2.2).2=0
 ·rw [if_neg (fun h=>h hp)]
  refine br_f (by rw [hp];rfl) ?_
  obtain ⟨h1,h2⟩:=pen_ok hp
  have hc:=(ask_ok h1).1
  have hl:=(checkT_ok hc).1
  rw [cl (by omega),show decF rEff 0 (fun x x_1=>AV.top)=[] from rfl]
  refine obs_step (L_tr_eq a.1 a.2.1 a.2.2.1 a.2.2.2 hc h2) ?_
  simp only [so_rd'];rfl
 ·rw [if_pos hp]
  exact br_t (bne_iff_ne.2 hp) rfl
end K
noncomputable def BTB91:Tab:=BTB82.addCall 40 (callE D_pen R_tr (fun a=>.ret (K.traceV a.1 a.2.1 a.2.2.1 a.2.2.2)))
theorem tTB91:TabOk P BTB91:=TabOk.addPC tTB82 (fun a r h=>by rw [← ret_some h];exact call_of okP tTB82 (K.Tr_eq a))
end Go.Proofs.YtkpligkggnjcoaaGreatDoor
/-! TC1 -/
namespace Go.Proofs.YtkpligkggnjcoaaGreatDoor
open Ev K
set_option maxRecDepth 100000
def dK (n:Int):Dec Unit where
 enc _:=.int .i64 n
 dec x:=match x with
  | .int .i64 m=>match decide (m=n) with
   | true=>some ()
   | false=>none
  | _=>none
 ok x a h w A r v hv:=by
  split at h
  ·split at h
   ·rename_i e;have:=of_decide_eq_true e;subst this;exact hv
   ·cases h
  ·cases h
def d1T:Dec (List Rul):=dOne (dRowsN nRul)
def d2T:Dec (List Rul × List Rul):=dTwo (dRowsN nRul)
def D_d1:=DecL.last d1T 0
def D_d2:=DecL.last d2T 0
def oMp:DecB (List (Str × Bool) × Unit):=.maps 231 false rStrB .nil
def S_d1:=DecS.mk0 (.skips 3 (.unit (dMp 0) (.skips 5 (.cons (d1T) (.unit (dK 1) (.unit (dK 0) (.skips 4 (.cons (dRowsN nRul) (.cons (dInt) (.last (dInt) 10)))))))))) oMp
def X_d1:=DecX.one (.exit 2) [3,9,10,11] (DecS.mk0 (.skips 3 (.unit (dMp 0) (.skips 5 (.cons (d1T) (.unit (dK 1) (.unit (dK 0) (.tops 17))))))) oMp)
noncomputable def K.st_d1:=loopT1 P BTB91 30 111 49 [18,3,16,9,10,11,17] S_d1 X_d1
theorem sl_d1:∀ s,(K.st_d1) s=T.run (
 let q4:=Get.mk [CK.str,CK.bool] (encF rStrB s.2.1);
 let q2:=textOf (encN nRul s.1.2.1 ((0:Nat)+Int.toNat s.1.2.2.2) (nat_lit 1));
 let q3:=List.length s.2.1;
 let q1:=mfind q4 (AV.str q2) q3;
  .br (decide (s.1.2.2.2<s.1.2.2.1)) (
    .chk (decide ((0:Int)≤s.1.2.2.2∧s.1.2.2.2<(↑(List.length s.1.2.1):Int))) <|
    .ret (Sum.inl ((decN nRul (List.length s.1.1) fun i=>encN nRul s.1.1 ((0:Nat)+i),decN nRul (List.length s.1.2.1) fun i=>encN nRul s.1.2.1 ((0:Nat)+i),s.1.2.2.1,IntKind.wrap IntKind.i64 (s.1.2.2.2+(1:Int))),decF rStrB (mputN q1 q3) (Get.f (mputG q4 (mputP q1 q3) [AV.str q2,AV.bool true])),PUnit.unit))) (
    .ret (Sum.inr ((decN nRul (List.length s.1.1) fun i=>encN nRul s.1.1 ((0:Nat)+i),PUnit.unit),decF rStrB q3 (encF rStrB s.2.1),PUnit.unit)))):=fun s=>by kernel_rfl
noncomputable def K.L_d1:=lim K.st_d1
noncomputable def BTC11:Tab:=BTB91.addNode 111 49 (nodeE [18,3,16,9,10,11,17] S_d1 X_d1 (fun s=>.obs (K.L_d1 s) .ret))
theorem tTC11:TabOk P BTC11:=TabOk.addLoop (d:=30) okP tTB91 (by kernel_rfl) (by kernel_rfl) (fun s r h=>obs_ret h)
def S_d20:=DecS.mk0 (.skips 3 (.unit (dMp 0) (.skips 5 (.cons (d2T) (.unit (dK 2) (.unit (dK 0) (.skips 4 (.cons (dRowsN nRul) (.cons (dInt) (.last (dInt) 10)))))))))) oMp
def X_d20:=DecX.one (.exit 2) [3,9,10,11] (DecS.mk0 (.skips 3 (.unit (dMp 0) (.skips 5 (.cons (d2T) (.unit (dK 2) (.unit (dK 0) (.tops 17))))))) oMp)
noncomputable def K.st_d20:=loopT1 P BTC11 30 111 49 [18,3,16,9,10,11,17] S_d20 X_d20
theorem sl_d20:∀ s,(K.st_d20) s=T.run (
 let q5:=Get.mk [CK.str,CK.bool] (encF rStrB s.2.1);
 let q3:=textOf (encN nRul s.1.2.1 ((0:Nat)+Int.toNat s.1.2.2.2) (nat_lit 1));
 let q4:=List.length s.2.1;
 let q1:=mfind q5 (AV.str q3) q4;
 let q2:=(decN nRul (List.length s.1.1.1) fun i=>encN nRul s.1.1.1 ((0:Nat)+i),decN nRul (List.length s.1.1.2) fun i=>encN nRul s.1.1.2 ((0:Nat)+i));
  .br (decide (s.1.2.2.2<s.1.2.2.1)) (
    .chk (decide ((0:Int)≤s.1.2.2.2∧s.1.2.2.2<(↑(List.length s.1.2.1):Int))) <|
    .ret (Sum.inl ((q2,decN nRul (List.length s.1.2.1) fun i=>encN nRul s.1.2.1 ((0:Nat)+i),s.1.2.2.1,IntKind.wrap IntKind.i64 (s.1.2.2.2+(1:Int))),decF rStrB (mputN q1 q4) (Get.f (mputG q5 (mputP q1 q4) [AV.str q3,AV.bool true])),PUnit.unit))) (
    .ret (Sum.inr ((q2,PUnit.unit),decF rStrB q4 (encF rStrB s.2.1),PUnit.unit)))):=fun s=>by kernel_rfl
noncomputable def K.L_d20:=lim K.st_d20
noncomputable def BTC12:Tab:=BTC11.addNode 111 49 (nodeE [18,3,16,9,10,11,17] S_d20 X_d20 (fun s=>.obs (K.L_d20 s) .ret))
theorem tTC12:TabOk P BTC12:=TabOk.addLoop (d:=30) okP tTC11 (by kernel_rfl) (by kernel_rfl) (fun s r h=>obs_ret h)
def S_d21:=DecS.mk0 (.skips 3 (.unit (dMp 0) (.skips 5 (.cons (d2T) (.unit (dK 2) (.unit (dK 1) (.skips 4 (.cons (dRowsN nRul) (.cons (dInt) (.last (dInt) 10)))))))))) oMp
def X_d21:=DecX.one (.exit 2) [3,9,10,11] (DecS.mk0 (.skips 3 (.unit (dMp 0) (.skips 5 (.cons (d2T) (.unit (dK 2) (.unit (dK 1) (.tops 17))))))) oMp)
noncomputable def K.st_d21:=loopT1 P BTC12 30 111 49 [18,3,16,9,10,11,17] S_d21 X_d21
theorem sl_d21:∀ s,(K.st_d21) s=T.run (
 let q5:=Get.mk [CK.str,CK.bool] (encF rStrB s.2.1);
 let q3:=textOf (encN nRul s.1.2.1 ((0:Nat)+Int.toNat s.1.2.2.2) (nat_lit 1));
 let q4:=List.length s.2.1;
 let q1:=mfind q5 (AV.str q3) q4;
 let q2:=(decN nRul (List.length s.1.1.1) fun i=>encN nRul s.1.1.1 ((0:Nat)+i),decN nRul (List.length s.1.1.2) fun i=>encN nRul s.1.1.2 ((0:Nat)+i));
  .br (decide (s.1.2.2.2<s.1.2.2.1)) (
    .chk (decide ((0:Int)≤s.1.2.2.2∧s.1.2.2.2<(↑(List.length s.1.2.1):Int))) <|
    .ret (Sum.inl ((q2,decN nRul (List.length s.1.2.1) fun i=>encN nRul s.1.2.1 ((0:Nat)+i),s.1.2.2.1,IntKind.wrap IntKind.i64 (s.1.2.2.2+(1:Int))),decF rStrB (mputN q1 q4) (Get.f (mputG q5 (mputP q1 q4) [AV.str q3,AV.bool true])),PUnit.unit))) (
    .ret (Sum.inr ((q2,PUnit.unit),decF rStrB q4 (encF rStrB s.2.1),PUnit.unit)))):=fun s=>by kernel_rfl
noncomputable def K.L_d21:=lim K.st_d21
noncomputable def BTC13:Tab:=BTC12.addNode 111 49 (nodeE [18,3,16,9,10,11,17] S_d21 X_d21 (fun s=>.obs (K.L_d21 s) .ret))
theorem tTC13:TabOk P BTC13:=TabOk.addLoop (d:=30) okP tTC12 (by kernel_rfl) (by kernel_rfl) (fun s r h=>obs_ret h)
theorem fn_d1:∀ a,(freshT1 P BTC13 30 111 9 D_d1 rStr) a=T.run (
 .obs (L_d1 ((decN nRul (List.length a) fun i=>encN nRul a ((0:Nat)+i),decN nRul (List.length a) fun i=>encN nRul a ((0:Nat)+i),(↑(clampL (List.length a)):Int),(0:Int)),decF rStrB (0:Nat) fun _x _x_1=>AV.top,PUnit.unit)) fun x0=>
  .chk (decide (okMp (decF rStrB (List.length x0.2.1) (encF rStrB x0.2.1)))) <|
  .ret (decF rStr (List.length (setS (List.map (fun x=>x.1) (decF rStrB (List.length x0.2.1) (encF rStrB x0.2.1))))) fun i=>encF rStr (setS (List.map (fun x=>x.1) (decF rStrB (List.length x0.2.1) (encF rStrB x0.2.1)))) ((0:Nat)+i))):=fun a=>by kernel_rfl
theorem fn_d2:∀ a,(freshT1 P BTC13 30 111 9 D_d2 rStr) a=T.run (
 let q1:=(0:Nat);
 let q2:=List.length a.1;
  .obs (L_d20 (((decN nRul q2 fun i=>encN nRul a.1 (q1+i),decN nRul (List.length a.2) fun i=>encN nRul a.2 (q1+i)),decN nRul q2 fun i=>encN nRul a.1 (q1+i),(↑(clampL q2):Int),(0:Int)),decF rStrB q1 fun _x _x_1=>AV.top,PUnit.unit)) fun x0=>
 let q3:=List.length x0.1.1.2;
    .obs (L_d21 (((decN nRul (List.length x0.1.1.1) fun i=>encN nRul x0.1.1.1 (q1+i),decN nRul q3 fun i=>encN nRul x0.1.1.2 (q1+i)),decN nRul q3 fun i=>encN nRul x0.1.1.2 (q1+i),(↑(clampL q3):Int),(0:Int)),decF rStrB (List.length x0.2.1) (encF rStrB x0.2.1),PUnit.unit)) fun x1=>
 let q4:=decF rStrB (List.length x1.2.1) (encF rStrB x1.2.1);
 let q5:=setS (List.map (fun x=>x.1) q4);
      .chk (decide (okMp q4)) <|
      .ret (decF rStr (List.length q5) fun i=>encF rStr q5 (q1+i))):=fun a=>by kernel_rfl
end Go.Proofs.YtkpligkggnjcoaaGreatDoor
/-! TC2 -/
namespace Go.Proofs.YtkpligkggnjcoaaGreatDoor
open Ev K
set_option maxRecDepth 100000
namespace K
def insB (l:List (Str × Bool)) (s:Str):List (Str × Bool):=match l.findIdx? fun a=>a.1 == s with
 | some i=>l.set i (s,true)
 | none=>l ++ [(s,true)]
theorem putB (l:List (Str × Bool)) (s:Str):decF rStrB (mputN (mfind ⟨[CK.str,CK.bool],encF rStrB l⟩ (.str s) l.length) l.length) (mputG ⟨[CK.str,CK.bool],encF rStrB l⟩ (mputP (mfind ⟨[CK.str,CK.bool],encF rStrB l⟩ (.str s) l.length) l.length) [.str s,.bool true]).f=insB l s:=by
 have h:=mfind_enc rStrB l (.str s)
 have h1:mfind ⟨[CK.str,CK.bool],encF rStrB l⟩ (.str s) l.length=l.findIdx? fun a=>a.1 == s:=by
  refine h.trans ?_
  congr 1
  funext a
  show (s == a.1)=(a.1 == s)
  exact Bool.beq_comm
 rw [h1]
 unfold insB
 cases hf:l.findIdx? fun a=>a.1 == s with
 | some i=>exact (decF_put rStrB l (some i) (fun k hk=>by injection hk with hk;subst hk;exact (List.findIdx?_eq_some_iff_getElem.1 hf).1) _ _).trans rfl
 | none=>exact (decF_put rStrB l none (fun k hk=>by cases hk) _ _).trans rfl
def keysB (l:List (Str × Bool)):List Str:=l.map (·.1)
theorem insB_keys (l:List (Str × Bool)) (s:Str):(keysB l).Nodup→(keysB (insB l s)).Nodup∧(∀ x,x ∈ keysB (insB l s) ↔ x=s∨x ∈ keysB l)∧(insB l s).length≤l.length+1:=by
 intro hn
 unfold insB
 cases h:l.findIdx? fun a=>a.1 == s with
 | none=>
  have hno:s ∉ keysB l:=fun hs=>by
   obtain ⟨a,ha,e⟩:=List.mem_map.1 hs
   have:=List.findIdx?_eq_none_iff.1 h a ha
   rw [e] at this;simp at this
  simp only [keysB,List.map_append,List.map_cons,List.map_nil] at hn hno ⊢
  refine ⟨List.nodup_append.2 ⟨hn,List.pairwise_singleton ..,fun a ha b hb e=>?_⟩,fun x=>?_,by simp⟩
  ·rw [List.mem_singleton] at hb;subst hb;subst e;exact hno ha
  ·rw [List.mem_append,List.mem_singleton];exact Or.comm
 | some i=>
  obtain ⟨hi,he,_⟩:=List.findIdx?_eq_some_iff_getElem.1 h
  have e:(keysB (l.set i (s,true)))=keysB l:=by
   unfold keysB
   simp only [beq_iff_eq] at he
   apply List.ext_getElem?
   intro j
   rw [List.getElem?_map,List.getElem?_map,List.getElem?_set]
   by_cases hj:i=j
   ·subst hj;rw [if_pos rfl,if_pos hi,List.getElem?_eq_getElem hi];simp [he]
   ·rw [if_neg hj]
  simp only
  rw [e]
  refine ⟨hn,fun x=>⟨.inr,fun hx=>hx.elim (fun ex=>?_) id⟩,by simp⟩
  subst ex
  simp only [beq_iff_eq] at he
  exact List.mem_map.2 ⟨l[i],List.getElem_mem hi,he⟩
theorem insB_all (L:List Str):∀ l:List (Str × Bool),(keysB l).Nodup→(keysB (L.foldl insB l)).Nodup∧(∀ x,x ∈ keysB (L.foldl insB l) ↔ x ∈ keysB l∨x ∈ L)∧(L.foldl insB l).length≤l.length+L.length:=by
 induction L with
 | nil=>intro l hn;exact ⟨hn,fun x=>by simp,by simp⟩
 | cons s L ih=>
  intro l hn
  obtain ⟨a1,a2,a3⟩:=insB_keys l s hn
  obtain ⟨b1,b2,b3⟩:=ih _ a1
  refine ⟨b1,fun x=>(b2 x).trans ?_,?_⟩
  ·rw [a2,List.mem_cons]
   constructor
   ·rintro ((e | e) | e);exact .inr (.inl e);exact .inl e;exact .inr (.inr e)
   ·rintro (e | e | e);exact .inl (.inr e);exact .inl (.inl e);exact .inr e
  ·simp only [List.foldl_cons,List.length_cons];omega
theorem insB_ok {L:List Str} (hl:L.length≤100000) (h:∀ s ∈ L,s.length≤1000000):okMp (L.foldl insB [])∧setS (keysB (L.foldl insB []))=setS L:=by
 obtain ⟨h1,h2,h3⟩:=insB_all L [] List.nodup_nil
 refine ⟨⟨h1,by simp at h3;omega,fun p hp=>?_⟩,setS_eq fun x=>(h2 x).trans (by simp [keysB])⟩
 have:=(h2 p.1).1 (List.mem_map.2 ⟨p,hp,rfl⟩)
 simp [keysB] at this
 exact h _ this
end K
end Go.Proofs.YtkpligkggnjcoaaGreatDoor
