/- Parts of the proof, one behind the other: TC3, TC4, TC5, TC6, TC7, TC8, TC9, TE1, TE2, TE3, TE4, TE5, TD1, TD2, TD3, TD4, TD5, TD6, TD7, TF1, TF2, TF3, TF4, TF5, TF6, TU1, TU2, TU3. No conditions. -/
import Derived.Test.YtkpligkggnjcoaaGreatDoorTv8
import Derived.Shelf.Small.Strs
import Derived.Shelf.Strconv.AtoiAll
/-! TC3 -/
namespace Go.Proofs.YtkpligkggnjcoaaGreatDoor
open Ev K
set_option maxRecDepth 100000
namespace K
theorem L_d1_eq (l:List Rul) (hl:l.length≤1000) (M:List (Str × Bool)):L_d1 ((l,l,(l.length:Int),0),M,())=some ((l,()),(l.map (·.due)).foldl insB M,()):=by
 have e:(l.map (·.due)).foldl insB M=((l.take l.length).map (·.due)).foldl insB M:=by rw [List.take_length]
 rw [e]
 refine lim_all (fun i:Nat=>((l,l,(l.length:Int),(i:Int)),((l.take i).map (·.due)).foldl insB M,())) l.length (fun i hi=>?_) ?_
 ·have hy:=List.getElem?_eq_getElem hi
  rw [sl_d1,List.take_add_one,hy]
  generalize l[i]=r at hy
  simp only [Int.toNat_natCast,Nat.zero_add,rul_at hy,nr1,decN_encN,wi i (by omega),putB]
  refine br_t (decide_eq_true (by omega)) (chk_step (decide_eq_true (by omega)) ?_)
  rw [Option.toList_some,List.map_append,List.foldl_append];rfl
 ·rw [sl_d1]
  simp only [Nat.zero_add,decN_encN,decF_encF]
  exact br_f (decide_eq_false (by omega)) rfl
theorem L_d20_eq (l l2:List Rul) (hl:l.length≤1000) (M:List (Str × Bool)):L_d20 (((l,l2),l,(l.length:Int),0),M,())=some (((l,l2),()),(l.map (·.due)).foldl insB M,()):=by
 have e:(l.map (·.due)).foldl insB M=((l.take l.length).map (·.due)).foldl insB M:=by rw [List.take_length]
 rw [e]
 refine lim_all (fun i:Nat=>(((l,l2),l,(l.length:Int),(i:Int)),((l.take i).map (·.due)).foldl insB M,())) l.length (fun i hi=>?_) ?_
 ·have hy:=List.getElem?_eq_getElem hi
  rw [sl_d20,List.take_add_one,hy]
  generalize l[i]=r at hy
  simp only [Int.toNat_natCast,Nat.zero_add,rul_at hy,nr1,decN_encN,wi i (by omega),putB]
  refine br_t (decide_eq_true (by omega)) (chk_step (decide_eq_true (by omega)) ?_)
  rw [Option.toList_some,List.map_append,List.foldl_append];rfl
 ·rw [sl_d20]
  simp only [Nat.zero_add,decN_encN,decF_encF]
  exact br_f (decide_eq_false (by omega)) rfl
theorem L_d21_eq (l l2:List Rul) (hl:l.length≤1000) (M:List (Str × Bool)):L_d21 (((l2,l),l,(l.length:Int),0),M,())=some (((l2,l),()),(l.map (·.due)).foldl insB M,()):=by
 have e:(l.map (·.due)).foldl insB M=((l.take l.length).map (·.due)).foldl insB M:=by rw [List.take_length]
 rw [e]
 refine lim_all (fun i:Nat=>(((l2,l),l,(l.length:Int),(i:Int)),((l.take i).map (·.due)).foldl insB M,())) l.length (fun i hi=>?_) ?_
 ·have hy:=List.getElem?_eq_getElem hi
  rw [sl_d21,List.take_add_one,hy]
  generalize l[i]=r at hy
  simp only [Int.toNat_natCast,Nat.zero_add,rul_at hy,nr1,decN_encN,wi i (by omega),putB]
  refine br_t (decide_eq_true (by omega)) (chk_step (decide_eq_true (by omega)) ?_)
  rw [Option.toList_some,List.map_append,List.foldl_append];rfl
 ·rw [sl_d21]
  simp only [Nat.zero_add,decN_encN,decF_encF]
  exact br_f (decide_eq_false (by omega)) rfl
theorem rul_short {r:Rul} (h:rulOk r):r.due.length≤24∧∀ g ∈ r.grades,g.length≤24:=by
 have nm:∀ s,nameB s=true→s.length≤24:=fun s hs=>by
  unfold nameB at hs
  simp only [Bool.and_eq_true,decide_eq_true_eq] at hs
  omega
 exact ⟨nm _ h.1.1,fun g hg=>nm _ (h.2.1 g hg)⟩
theorem dues_okL {l:List Rul} (h:checkT l=0):∀ s ∈ l.map (·.due),s.length≤1000000:=fun s hs=>by
 obtain ⟨r,hr,rfl⟩:=List.mem_map.1 hs
 have:=(rul_short ((checkT_ok h).2 r hr)).1
 omega
theorem nilB:decF rStrB 0 (fun _ _=>AV.top)=[]:=rfl
theorem d1_ok (a:List Rul) (r:List Str) (h:(T.chk (decide (checkT a=0)) (.ret (duesT a))).run=some r):freshT1 P BTC13 30 111 9 D_d1 rStr a=some r:=by
 obtain ⟨g,e⟩:=chk_ret h
 subst e
 have g:=of_decide_eq_true g
 have hl:=(checkT_ok g).1
 obtain ⟨k1,k2⟩:=insB_ok (L:=a.map (·.due)) (by rw [List.length_map];omega) (dues_okL g)
 rw [fn_d1]
 simp only [Nat.zero_add,decN_encN,decF_encF,cl (show a.length≤1000000 by omega),nilB]
 refine obs_step (L_d1_eq a (by omega) []) ?_
 refine chk_step (decide_eq_true k1) ?_
 show some (setS (keysB _))=_
 rw [k2];rfl
theorem d2_ok (a:List Rul × List Rul) (r:List Str) (h:(T.chk (decide (checkT a.1=0∧checkT a.2=0)) (.ret (duesAB a.1 a.2))).run=some r):freshT1 P BTC13 30 111 9 D_d2 rStr a=some r:=by
 obtain ⟨g,e⟩:=chk_ret h
 subst e
 obtain ⟨a,b⟩:=a
 obtain ⟨g1,g2⟩:=of_decide_eq_true g
 simp only at g1 g2
 have hl1:=(checkT_ok g1).1
 have hl2:=(checkT_ok g2).1
 obtain ⟨k1,k2⟩:=insB_ok (L:=a.map (·.due) ++ b.map (·.due)) (by rw [List.length_append,List.length_map,List.length_map];omega) (fun s hs=>(List.mem_append.1 hs).elim (dues_okL g1 s) (dues_okL g2 s))
 rw [List.foldl_append] at k1 k2
 rw [fn_d2]
 simp only [Nat.zero_add,decN_encN,decF_encF,cl (show a.length≤1000000 by omega),nilB]
 refine obs_step (L_d20_eq a b (by omega) []) ?_
 simp only [cl (show b.length≤1000000 by omega)]
 refine obs_step (L_d21_eq b a (by omega) _) ?_
 refine chk_step (decide_eq_true k1) ?_
 show some (setS (keysB _))=_
 rw [k2];rfl
end K
noncomputable def BTC31:Tab:=BTC13.addTurn 111 (freshE 9 D_d1 rStr (fun a=>.chk (decide (K.checkT a=0)) (.ret (K.duesT a))))
theorem tTC31:TabOk P BTC31:=TabOk.addFC tTC13 (D:=D_d1) (R:=rStr) (M:=(fun a=>.chk (decide (K.checkT a=0)) (.ret (K.duesT a)))) (fun a r h=>fresh_of (d:=30) okP tTC13 (K.d1_ok a r h))
noncomputable def BTC32:Tab:=BTC31.addTurn 111 (freshE 9 D_d2 rStr (fun a=>.chk (decide (K.checkT a.1=0∧K.checkT a.2=0)) (.ret (K.duesAB a.1 a.2))))
theorem tTC32:TabOk P BTC32:=TabOk.addFC tTC31 (D:=D_d2) (R:=rStr) (M:=(fun a=>.chk (decide (K.checkT a.1=0∧K.checkT a.2=0)) (.ret (K.duesAB a.1 a.2)))) (fun a r h=>fresh_of (d:=30) okP tTC13 (K.d2_ok a r h))
def D_lots:=DecL.last (dRows rLot) 0
def S_lo:=DecS.mk0 (.skips 8 (.cons (dRows rLot) (.cons (dInt) (.last (dInt) 14)))) .nil
def X_lo:=DecX.or (DecX.one (.exit 0) [] (DecS.mk0 (.tops 25) .nil)) (DecX.one .ret [2] (DecS.mk0 (.skips 2 (.last (dInt) 22)) .nil))
noncomputable def K.st_lo:=loopT1 P BTC32 30 81 33 [10,8,9] S_lo X_lo
theorem sl_lo:∀ s,(K.st_lo) s=T.run (
 .br (decide (s.1.2.2<s.1.2.1)) (
  .chk (decide ((0:Int)≤s.1.2.2∧s.1.2.2<(↑(List.length s.1.1):Int))) <|
  .br (!gradeB (textOf (encF rLot s.1.1 ((0:Nat)+Int.toNat s.1.2.2) (0:Nat)))) (
   .ret (Sum.inr (Sum.inr ((1:Int),PUnit.unit)))) (
   .br (!a_within (numOf (encF rLot s.1.1 ((0:Nat)+Int.toNat s.1.2.2) (nat_lit 1)),(0:Int),(65536:Int))) (
    .ret (Sum.inr (Sum.inr ((1:Int),PUnit.unit)))) (
    .ret (Sum.inl ((decF rLot (List.length s.1.1) fun i=>encF rLot s.1.1 ((0:Nat)+i),s.1.2.1,IntKind.wrap IntKind.i64 (s.1.2.2+(1:Int))),PUnit.unit))))) (
  .ret (Sum.inr (Sum.inl (PUnit.unit,PUnit.unit))))):=fun s=>by kernel_rfl
noncomputable def K.L_lo:=lim K.st_lo
noncomputable def BTC33:Tab:=BTC32.addNode 81 33 (nodeE [10,8,9] S_lo X_lo (fun s=>.obs (K.L_lo s) .ret))
theorem tTC33:TabOk P BTC33:=TabOk.addLoop (d:=30) okP tTC32 (by kernel_rfl) (by kernel_rfl) (fun s r h=>obs_ret h)
theorem fn_lo:∀ a,(callT1 P BTC33 30 81 D_lots dInt) a=T.run (
 .br (decide ((↑(clampL (List.length a)):Int) > (12:Int))) (
  .ret ((2:Int))) (
  .obs (L_lo ((decF rLot (List.length a) fun i=>encF rLot a ((0:Nat)+i),(↑(clampL (List.length a)):Int),(0:Int)),PUnit.unit)) fun x0=>
   .sum (x0) (fun _=>
    .ret ((0:Int))) (fun x1=>
    .ret x1.1))):=fun a=>by kernel_rfl
end Go.Proofs.YtkpligkggnjcoaaGreatDoor
/-! TC4 -/
namespace Go.Proofs.YtkpligkggnjcoaaGreatDoor
open Ev K
set_option maxRecDepth 100000
namespace K
def badI {α:Type} (p:α→Prop) [DecidablePred p] (e:Int) (l:List α) (i:Nat):Option Int:=match l[i]? with
 | some r=>if p r then none else some e
 | none=>none
theorem badI_all {α:Type} (p:α→Prop) [DecidablePred p] (e:Int) (l:List α):(List.range l.length).findSome? (badI p e l)=if ∀ r ∈ l,p r then none else some e:=by
 cases h:(List.range l.length).findSome? (badI p e l) with
 | some b=>
  obtain ⟨i,hi,he⟩:=List.exists_of_findSome?_eq_some h
  have hi:=List.mem_range.1 hi
  unfold badI at he
  rw [List.getElem?_eq_getElem hi] at he
  simp only at he
  split at he
  ·cases he
  ·rename_i hn
   injection he with he
   rw [if_neg (fun h=>hn (h _ (List.getElem_mem hi))),he]
 | none=>
  rw [if_pos]
  intro r hr
  obtain ⟨i,hi,rfl⟩:=List.mem_iff_getElem.1 hr
  have:=findSome_none h i (List.mem_range.2 hi)
  unfold badI at this
  rw [List.getElem?_eq_getElem hi] at this
  simp only at this
  split at this
  ·assumption
  ·cases this
def lotOk (x:Lot):Prop:=gradeB x.grade=true∧0≤x.mass∧x.mass≤65536
instance:DecidablePred lotOk:=fun x=>by unfold lotOk;infer_instance
def lotsL (l:List Lot):Int:=if l.length > 12 then 2 else if ∀ x ∈ l,lotOk x then 0 else 1
theorem lots_ok {l:List Lot} (h:lotsL l=0):l.length≤12∧∀ x ∈ l,lotOk x:=by
 unfold lotsL at h
 split at h
 ·cases h
 ·split at h
  ·rename_i h1 h2;exact ⟨by omega,h2⟩
  ·cases h
theorem L_lo_eq (l:List Lot) (hl:l.length≤1000):L_lo ((l,(l.length:Int),0),())=some (if ∀ x ∈ l,lotOk x then .inl ((),()) else .inr (1,())):=by
 refine (lim_err (fun i:Nat=>((l,(l.length:Int),(i:Int)),())) l.length (badI lotOk 1 l) (fun e=>.inr (e,())) (.inl ((),())) (fun i hi=>?_) ?_).trans ?_
 ·rw [sl_lo]
  have hy:=List.getElem?_eq_getElem hi
  unfold badI;rw [hy]
  generalize l[i]=x at hy
  simp only [Int.toNat_natCast,Nat.zero_add,lot_at hy,nl0,nl1,decF_encF,wi i (by omega),within_eq]
  refine br_t (decide_eq_true (by omega)) (chk_step (decide_eq_true (by omega)) ?_)
  by_cases hg:gradeB x.grade=true
  ·refine br_f (by rw [hg];rfl) ?_
   by_cases hm:0≤x.mass∧x.mass≤65536
   ·rw [if_pos ⟨hg,hm⟩]
    exact br_f (by rw [decide_eq_true hm];rfl) rfl
   ·rw [if_neg (fun h:lotOk x=>hm h.2)]
    exact br_t (by rw [decide_eq_false hm];rfl) rfl
  ·rw [if_neg (fun h:lotOk x=>hg h.1)]
   exact br_t (by rw [Bool.not_eq_true'];simpa using hg) rfl
 ·rw [sl_lo]
  exact br_f (decide_eq_false (by dsimp only;omega)) rfl
 ·rw [badI_all]
  by_cases h:∀ x ∈ l,lotOk x
  ·rw [if_pos h,if_pos h];rfl
  ·rw [if_neg h,if_neg h];rfl
theorem lo_eq (l:List Lot):callT1 P BTC33 30 81 D_lots dInt l=some (lotsL l):=by
 rw [fn_lo]
 have e1:=clampL_gt l.length 12 (by omega)
 simp only [so_rd',show ((12:Nat):Int)=12 from rfl] at e1 ⊢
 rw [e1]
 unfold lotsL
 by_cases hl:l.length > 12
 ·rw [if_pos hl];exact br_t (decide_eq_true hl) rfl
 ·rw [if_neg hl]
  refine br_f (decide_eq_false hl) ?_
  rw [cl (by omega)]
  refine obs_step (L_lo_eq l (by omega)) ?_
  by_cases h:∀ x ∈ l,lotOk x
  ·rw [if_pos h,if_pos h];rfl
  ·rw [if_neg h,if_neg h];rfl
end K
noncomputable def BTC41:Tab:=BTC33.addCall 81 (callE D_lots dInt (fun a=>.ret (K.lotsL a)))
theorem tTC41:TabOk P BTC41:=TabOk.addPC tTC33 (fun a r h=>by rw [← ret_some h];exact call_of okP tTC33 (K.lo_eq a))
end Go.Proofs.YtkpligkggnjcoaaGreatDoor
/-! TC5 -/
namespace Go.Proofs.YtkpligkggnjcoaaGreatDoor
open Ev K
set_option maxRecDepth 100000
def D_bil:=DecL.cons dTar (.last (dRows rLot) 0)
def oCh1:DecB (List Rul × List Chrg × List Str × Unit):=.flat 25 lTar (.rows 83 rChrg (.rows 9 rStr .nil))
def oCh2:DecB (List Rul × List Chrg × Chrg × List Str × Unit):=.flat 25 lTar (.rows 83 rChrg (.flat 83 lChrg (.rows 9 rStr .nil)))
def S_c2:=DecS.mk0 (.skip (.cons (dRows rLot) (.unit (dLp 0 0 0 0) (.skips 2 (.cons (dO 1) (.skip (.cons (dS) (.unit (dLp 2 0 0 0) (.skips 4 (.cons (dO 3) (.cons (dInt) (.cons (dInt) (.skips 5 (.cons (dRows rLot) (.cons (dInt) (.last (dInt) 21)))))))))))))))) oCh2
def X_c2:=DecX.one (.exit 2) [8,2,1,13,14,15,5] (DecS.mk0 (.skip (.cons (dRows rLot) (.unit (dLp 0 0 0 0) (.skips 2 (.cons (dO 1) (.skips 2 (.unit (dLp 2 0 0 0) (.skips 4 (.cons (dO 3) (.cons (dInt) (.last (dInt) 29))))))))))) oCh2)
noncomputable def K.st_c2:=loopT1 P BTC41 30 82 57 [23,8,7,2,21,1,13,14,15,5,22] S_c2 X_c2
theorem sl_c2:∀ s,(K.st_c2) s=T.run (
 let q4:=(0:Nat);
 let q3:=s.1.2.2.2.2.2.2.2.2;
 let q1:=q4+Int.toNat q3;
 let q2:=s.1.2.2.2.2.2.2.1;
 let q5:=List.length s.2.1;
  .br (decide (q3<s.1.2.2.2.2.2.2.2.1)) (
    .chk (decide ((0:Int)≤q3∧q3<(↑(List.length q2):Int))) <|
    .chk (decide (penOk (decN nRul q5 fun i=>encN nRul s.2.1 (q4+i),s.1.2.2.1,textOf (encF rLot q2 q1 q4),numOf (encF rLot q2 q1 (nat_lit 1))))) <|
    .ret (Sum.inl ((decF rLot (List.length s.1.1) fun i=>encF rLot s.1.1 (q4+i),s.1.2.1,s.1.2.2.1,s.1.2.2.2.1,s.1.2.2.2.2.1,s.1.2.2.2.2.2.1,decF rLot (List.length q2) fun i=>encF rLot q2 (q4+i),s.1.2.2.2.2.2.2.2.1,IntKind.wrap IntKind.i64 (q3+(1:Int))),decN nRul q5 fun i=>encN nRul s.2.1 (q4+i),decF rChrg (List.length s.2.2.1) (encF rChrg s.2.2.1),Chrg.mk (Chrg.due s.2.2.2.1) (IntKind.wrap IntKind.i64 (Chrg.pence s.2.2.2.1+penceL (decN nRul q5 fun i=>encN nRul s.2.1 (q4+i)) s.1.2.2.1 (textOf (encF rLot q2 q1 q4)) (numOf (encF rLot q2 q1 (nat_lit 1))))),decF rStr (List.length s.2.2.2.2.1) (encF rStr s.2.2.2.2.1),PUnit.unit))) (
    .ret (Sum.inr ((decF rLot (List.length s.1.1) fun i=>encF rLot s.1.1 (q4+i),s.1.2.1,s.1.2.2.2.1,s.1.2.2.2.2.1,s.1.2.2.2.2.2.1),decN nRul q5 fun i=>encN nRul s.2.1 (q4+i),decF rChrg (List.length s.2.2.1) (encF rChrg s.2.2.1),s.2.2.2.1,decF rStr (List.length s.2.2.2.2.1) (encF rStr s.2.2.2.2.1),PUnit.unit)))):=fun s=>by kernel_rfl
noncomputable def K.L_c2:=lim K.st_c2
noncomputable def BTC51:Tab:=BTC41.addNode 82 57 (nodeE [23,8,7,2,21,1,13,14,15,5,22] S_c2 X_c2 (fun s=>.obs (K.L_c2 s) .ret))
theorem tTC51:TabOk P BTC51:=TabOk.addLoop (d:=30) okP tTC41 (by kernel_rfl) (by kernel_rfl) (fun s r h=>obs_ret h)
end Go.Proofs.YtkpligkggnjcoaaGreatDoor
/-! TC6 -/
namespace Go.Proofs.YtkpligkggnjcoaaGreatDoor
open Ev K
set_option maxRecDepth 100000
def S_c1:=DecS.ghost 5 83 2 [.str,.int .i64] (DecS.mk0 (.skip (.cons (dRows rLot) (.unit (dLp 0 0 0 0) (.skips 2 (.cons (dO 1) (.skips 7 (.cons (dO 2) (.cons (dInt) (.last (dInt) 29))))))))) oCh1)
def X_c1:=DecX.one (.exit 0) [5] (DecS.mk0 (.skips 5 (.last (dO 0) 39)) (.rows 83 rChrg .nil))
noncomputable def K.st_c1:=loopT1 P BTC51 30 82 25 [2,15,5,1,13,14] S_c1 X_c1
theorem sl_c1:∀ s,(K.st_c1) s=T.run (
 let q4:=s.1.2.2.2.2;
 let q2:=(0:Nat);
 let q1:=encF rStr s.2.2.2.1 (Int.toNat q4) q2;
 let q3:=List.length s.1.1;
  .br (decide (q4<s.1.2.2.2.1)) (
    .chk (decide ((0:Int)≤q4∧q4<(↑s.1.2.2.1:Int))) <|
    .obs (L_c2 ((decF rLot q3 fun i=>encF rLot s.1.1 (q2+i),s.1.2.1,textOf q1,s.1.2.2.1,s.1.2.2.2.1,q4,decF rLot q3 fun i=>encF rLot s.1.1 (q2+i),(↑(clampL q3):Int),(0:Int)),decN nRul (List.length s.2.1) fun i=>encN nRul s.2.1 (q2+i),decF rChrg (List.length s.2.2.1) (encF rChrg s.2.2.1),Chrg.mk (textOf q1) (0:Int),decF rStr (List.length s.2.2.2.1) (encF rStr s.2.2.2.1),PUnit.unit)) fun x0=>
 let q5:=List.length x0.2.2.1+(1:Nat);
      .chk (decide (q5 * (24:Nat)≤(140737488355328:Nat)∧List.length x0.2.2.1+(1:Nat)≤nat_lit 9223372036854775807)) <|
      .ret (Sum.inl ((decF rLot (List.length x0.1.1) fun i=>encF rLot x0.1.1 (q2+i),List.length x0.2.2.1+(1:Nat),x0.1.2.2.1,x0.1.2.2.2.1,IntKind.wrap IntKind.i64 (x0.1.2.2.2.2+(1:Int))),decN nRul (List.length x0.2.1) fun i=>encN nRul x0.2.1 (q2+i),decF rChrg q5 (appG (List.length x0.2.2.1) (encF rChrg x0.2.2.1) fun i k=>Option.getD [AV.str (Chrg.due x0.2.2.2.1),AV.int IntKind.i64 (Chrg.pence x0.2.2.2.1)][(q2+i) * (2:Nat)+k]? AV.top),decF rStr (List.length x0.2.2.2.2.1) (encF rStr x0.2.2.2.2.1),PUnit.unit))) (
    .ret (Sum.inr (s.1.2.1,decF rChrg (List.length s.2.2.1) (encF rChrg s.2.2.1),PUnit.unit)))):=fun s=>by kernel_rfl
noncomputable def K.L_c1:=lim K.st_c1
noncomputable def BTC61:Tab:=BTC51.addNode 82 25 (nodeE [2,15,5,1,13,14] S_c1 X_c1 (fun s=>.obs (K.L_c1 s) .ret))
theorem tTC61:TabOk P BTC61:=TabOk.addLoop (d:=30) okP tTC51 (by kernel_rfl) (by kernel_rfl) (fun s r h=>obs_ret h)
theorem fn_ch:∀ a,(freshT1 P BTC61 30 82 83 D_bil rChrg) a=T.run (
 .chk (decide (checkT (decN nRul (List.length a.1) fun i=>encN nRul a.1 (nat_lit 0+i))=(0:Int))) <|
 .obs (L_c1 ((decF rLot (List.length a.2) fun i=>encF rLot a.2 ((0:Nat)+i),(0:Nat),List.length (duesT (decN nRul (List.length a.1) fun i=>encN nRul a.1 (nat_lit 0+i))),(↑(List.length (duesT (decN nRul (List.length a.1) fun i=>encN nRul a.1 (nat_lit 0+i)))):Int),(0:Int)),decN nRul (List.length a.1) fun i=>encN nRul a.1 ((0:Nat)+i),decF rChrg (0:Nat) fun _x _x_1=>AV.top,decF rStr (List.length (duesT (decN nRul (List.length a.1) fun i=>encN nRul a.1 (nat_lit 0+i)))) (encF rStr (duesT (decN nRul (List.length a.1) fun i=>encN nRul a.1 (nat_lit 0+i)))),PUnit.unit)) fun x0=>
  .ret (decF rChrg (List.length x0.2.1) fun i=>encF rChrg x0.2.1 ((0:Nat)+i))):=fun a=>by kernel_rfl
end Go.Proofs.YtkpligkggnjcoaaGreatDoor
/-! TC7 -/
namespace Go.Proofs.YtkpligkggnjcoaaGreatDoor
open Ev K
set_option maxRecDepth 100000
namespace K
theorem pushC (l:List Chrg) (a:Str) (b:Int):decF rChrg (l.length+1) (appG l.length (encF rChrg l) fun i k=>([(.str a:AV),.int .i64 b][i * 2+k]?).getD .top)=l ++ [⟨a,b⟩]:=(decF_app rChrg l 1 _).trans rfl
theorem all_snoc (l:List Rul) (d:Str) (c:List Lot) (x:Lot):allL l d (c ++ [x])=allL l d c+penceL l d x.grade x.mass:=by
 rw [all_app]
 congr 1
 show List.foldl _ _ [x]=_
 simp
theorem all_take {l:List Rul} (h:checkT l=0) (d:Str) {c:List Lot} (hc:lotsL c=0) (j:Nat):0≤allL l d (c.take j)∧allL l d (c.take j)≤2000000000000:=by
 obtain ⟨h1,h2⟩:=checkT_ok h
 obtain ⟨c1,c2⟩:=lots_ok hc
 have:=all_bd h2 d (c:=c.take j) fun x hx=>(c2 x (List.mem_of_mem_take hx)).2
 have hl:(c.take j).length≤12:=by rw [List.length_take];omega
 have hq:(l.length:Int) * 4000000000≤120000000000:=by omega
 have hm:((c.take j).length:Int) * ((l.length:Int) * 4000000000)≤12 * 120000000000:=Int.mul_le_mul (by omega) hq (by omega) (by decide)
 omega
theorem L_c2_eq (l:List Rul) (c:List Lot) (hl:checkT l=0) (hc:lotsL c=0) (d:Str) (on dn:Nat) (n i:Int) (out:List Chrg) (D:List Str) :
  L_c2 ((c,on,d,dn,n,i,c,(c.length:Int),0),l,out,⟨d,0⟩,D,())=some ((c,on,dn,n,i),l,out,⟨d,allL l d c⟩,D,()):=by
 obtain ⟨c1,c2⟩:=lots_ok hc
 have e:allL l d c=allL l d (c.take c.length):=by rw [List.take_length]
 rw [e]
 refine lim_all (fun j:Nat=>((c,on,d,dn,n,i,c,(c.length:Int),(j:Int)),l,out,(⟨d,allL l d (c.take j)⟩:Chrg),D,())) c.length (fun j hj=>?_) ?_
 ·have hy:=List.getElem?_eq_getElem hj
  have hx:=c2 c[j] (List.getElem_mem hj)
  have hb:=all_take hl d hc (j+1)
  rw [sl_c2]
  rw [List.take_add_one,hy] at hb ⊢
  generalize c[j]=x at hy hx hb
  rw [Option.toList_some] at hb ⊢
  simp only [Int.toNat_natCast,Nat.zero_add,lot_at hy,nl0,nl1,decF_encF,decN_encN,wi j (by omega)]
  rw [all_snoc] at hb ⊢
  refine br_t (decide_eq_true (by omega)) (chk_step (decide_eq_true (by omega)) (chk_step (decide_eq_true ⟨hl,hx.2⟩) ?_))
  rw [w64_in (by omega) (by omega)];rfl
 ·rw [sl_c2]
  simp only [decF_encF,decN_encN,Nat.zero_add]
  exact br_f (decide_eq_false (by omega)) rfl
theorem dues_len (l:List Rul):(duesT l).length≤l.length:=by
 have key:∀ (L acc:List Str),(L.foldl putS acc).length≤acc.length+L.length:=by
  intro L
  induction L with
  | nil=>intro acc;simp
  | cons s L ih=>
   intro acc
   have h1:=ih (putS acc s)
   have h2:∀ acc:List Str,(putS acc s).length≤acc.length+1:=by
    intro acc
    induction acc with
    | nil=>simp [putS]
    | cons a t ih2=>
     unfold putS
     split
     ·simp only [List.length_cons];omega
     ·split<;>simp only [List.length_cons]<;>omega
   have h3:=h2 acc
   simp only [List.foldl_cons,List.length_cons]
   omega
 have:=key (l.map (·.due)) []
 simpa [duesT,setS] using this
def chg (l:List Rul) (c:List Lot) (d:Str):Chrg:=⟨d,allL l d c⟩
theorem bill_map (l:List Rul) (c:List Lot):billL l c=(duesT l).map (chg l c):=rfl
theorem L_c1_eq (l:List Rul) (c:List Lot) (hl:checkT l=0) (hc:lotsL c=0) (D:List Str) (hD:D.length≤1000) :
  L_c1 ((c,0,D.length,(D.length:Int),0),l,[],D,())=some ((D.map (chg l c)).length,D.map (chg l c),()):=by
 have e:D.map (chg l c)=(D.take D.length).map (chg l c):=by rw [List.take_length]
 rw [e]
 obtain ⟨c1,_⟩:=lots_ok hc
 refine lim_all (fun i:Nat=>((c,((D.take i).map (chg l c)).length,D.length,(D.length:Int),(i:Int)),l,(D.take i).map (chg l c),D,())) D.length (fun i hi=>?_) ?_
 ·have hy:=List.getElem?_eq_getElem hi
  rw [sl_c1]
  have ht:D.take (i+1)=D.take i ++ [D[i]]:=by rw [List.take_add_one,hy];rfl
  have hlen:((D.take i).map (chg l c)).length=i:=by rw [List.length_map,List.length_take];omega
  rw [ht]
  generalize D[i]=d at hy
  simp only [Int.toNat_natCast,Nat.zero_add,str_at hy,ns0,decF_encF,decN_encN,cl (show c.length≤1000000 by omega)]
  refine br_t (decide_eq_true (by omega)) (chk_step (decide_eq_true (by omega)) ?_)
  refine obs_step (L_c2_eq l c hl hc d _ _ _ _ _ _) ?_
  simp only [wi i (by omega),pushC]
  refine chk_step (decide_eq_true (by omega)) ?_
  rw [List.map_append,List.length_append];rfl
 ·rw [sl_c1]
  simp only [decF_encF]
  exact br_f (decide_eq_false (by omega)) rfl
def bilOk (a:List Rul × List Lot):Prop:=checkT a.1=0∧lotsL a.2=0
instance (a:List Rul × List Lot):Decidable (bilOk a):=by unfold bilOk;infer_instance
theorem ch_ok (a:List Rul × List Lot) (r:List Chrg) (h:(T.chk (decide (bilOk a)) (.ret (billL a.1 a.2))).run=some r):freshT1 P BTC61 30 82 83 D_bil rChrg a=some r:=by
 obtain ⟨g,e⟩:=chk_ret h
 subst e
 obtain ⟨g1,g2⟩:=of_decide_eq_true g
 have hl:=(checkT_ok g1).1
 have hd:=dues_len a.1
 rw [fn_ch]
 simp only [Nat.zero_add,decF_encF,decN_encN,show decF rChrg 0 (fun x x_1=>AV.top)=[] from rfl]
 refine chk_step (decide_eq_true g1) (obs_step (L_c1_eq a.1 a.2 g1 g2 (duesT a.1) (by omega)) ?_)
 simp only;rfl
end K
noncomputable def BTC71:Tab:=BTC61.addTurn 82 (freshE 83 D_bil rChrg (fun a=>.chk (decide (K.bilOk a)) (.ret (K.billL a.1 a.2))))
theorem tTC71:TabOk P BTC71:=TabOk.addFC tTC61 (D:=D_bil) (R:=rChrg) (M:=(fun a=>.chk (decide (K.bilOk a)) (.ret (K.billL a.1 a.2)))) (fun a r h=>fresh_of (d:=30) okP tTC61 (K.ch_ok a r h))
def R_bil:=dTup (.cons (dRows rChrg) (.last dInt 0))
theorem fn_bi:∀ a,(callT1 P BTC71 30 23 D_bil R_bil) a=T.run (
 let q3:=decN nRul (List.length a.1) fun i=>encN nRul a.1 ((0:Nat)+i);
 let q4:=decF rLot (List.length a.2) fun i=>encF rLot a.2 ((0:Nat)+i);
 let q1:=(decF rChrg (List.length (billL q3 q4)) fun i=>encF rChrg (billL q3 q4) ((0:Nat)+i),(0:Int));
 let q2:=decide (bilOk (decN nRul (List.length a.1) fun i=>encN nRul a.1 ((0:Nat)+i),decF rLot (List.length a.2) fun i=>encF rLot a.2 ((0:Nat)+i)));
 let q5:T _:=.chk q2 <|
      .ret q1;
  .br (checkT q3 != (0:Int)) (
    .br (checkT q3 != (0:Int)) (
      .ret (([],checkT q3))) q5) (
    .br (lotsL q4 != (0:Int)) (
      .br (lotsL q4 != (0:Int)) (
        .ret (([],lotsL q4))) (
        .chk q2 <|
        .ret q1)) q5)):=fun a=>by kernel_rfl
end Go.Proofs.YtkpligkggnjcoaaGreatDoor
/-! TC8 -/
namespace Go.Proofs.YtkpligkggnjcoaaGreatDoor
open Ev K
set_option maxRecDepth 100000
namespace K
def errB (l:List Rul) (c:List Lot):Int:=if checkT l≠0 then checkT l else lotsL c
def billV (l:List Rul) (c:List Lot):List Chrg × Int:=if errB l c≠0 then ([],errB l c) else (billL l c,0)
theorem errB_ok {l:List Rul} {c:List Lot} (h:errB l c=0):checkT l=0∧lotsL c=0:=by
 unfold errB at h
 split at h
 ·rename_i h1;exact absurd h h1
 ·rename_i h1;exact ⟨Classical.not_not.1 h1,h⟩
theorem bi_eq (a:List Rul × List Lot):callT1 P BTC71 30 23 D_bil R_bil a=some (billV a.1 a.2):=by
 rw [fn_bi]
 simp only [Nat.zero_add,decF_encF,decN_encN]
 unfold billV errB
 by_cases h1:checkT a.1=0
 ·rw [if_neg (show ¬ (checkT a.1≠0) from fun h=>h h1)]
  refine br_f (by rw [h1];rfl) ?_
  by_cases h2:lotsL a.2=0
  ·rw [if_neg (fun h=>h h2)]
   exact br_f (by rw [h2];rfl) (chk_step (decide_eq_true ⟨h1,h2⟩) rfl)
  ·rw [if_pos h2]
   exact br_t (bne_iff_ne.2 h2) (br_t (bne_iff_ne.2 h2) rfl)
 ·rw [if_pos h1,if_pos h1]
  exact br_t (bne_iff_ne.2 h1) (br_t (bne_iff_ne.2 h1) rfl)
end K
noncomputable def BTC81:Tab:=BTC71.addCall 23 (callE D_bil R_bil (fun a=>.ret (K.billV a.1 a.2)))
theorem tTC81:TabOk P BTC81:=TabOk.addPC tTC71 (fun a r h=>by rw [← ret_some h];exact call_of okP tTC71 (K.bi_eq a))
noncomputable def BTC82:Tab:=BTC81.addInl 154
theorem tTC82:TabOk P BTC82:=TabOk.addInl tTC81
noncomputable def BTC83:Tab:=BTC82.addInl 153
theorem tTC83:TabOk P BTC83:=TabOk.addInl tTC82
def D_wo:=DecL.cons dTar (.last dInt 0)
theorem fn_wo:∀ a,(callT1 P BTC83 30 85 D_wo dTar) a=T.run (
 let q3:=(0:Nat);
 let q5:=a.2+(1:Int);
 let q7:=IntKind.wrap IntKind.i64 q5;
 let q1:=q3+List.length a.1 - Int.toNat q7;
 let q2:=q3+List.length a.1;
 let q4:=Int.toNat a.2 - q3+q1;
 let q6:=(0:Int);
  .chk (Nat.blt q3 (List.length a.1)) <|
  .chk (decide (q2 * (96:Nat)≤(140737488355328:Nat)∧q3+List.length a.1≤nat_lit 9223372036854775807)) <|
  .chk (decide (q6≤(↑q2:Int)∧(↑q2:Int)≤(↑q2:Int))&&(decide (q6≤IntKind.wrap IntKind.i64 q5∧IntKind.wrap IntKind.i64 q5≤(↑(Int.toNat (↑q2:Int)):Int))&&decide (q6≤a.2∧a.2≤(↑(Int.toNat q7):Int)))) <|
  .br (a.2 == IntKind.wrap IntKind.i64 q5) (
    .ret (decN nRul q2 fun i=>appG q3 (fun _x _x_1=>AV.top) (fun i k=>encN nRul a.1 (q3+i) k) (q3+i))) (
    .chk (decide (q6≤a.2∧a.2≤(↑q2:Int))&&true) <|
    .chk (true&&decide (q6≤IntKind.wrap IntKind.i64 q5∧IntKind.wrap IntKind.i64 q5≤(↑q2:Int))) <|
    .chk (decide (q3+(Int.toNat a.2 - q3)+q1≤q3+List.length a.1∧q3<q3+List.length a.1)) <|
    .chk (decide (q6≤(↑q2:Int)∧(↑q2:Int)≤(↑(q3+List.length a.1 - q3):Int))&&decide (q6≤(↑q4:Int)∧(↑q4:Int)≤(↑(Int.toNat (↑q2:Int)):Int))) <|
    .chk (decide (q3+Int.toNat (↑q4:Int)<q3+List.length a.1)) <|
    .ret (decN nRul q4 fun i=>Ev.putR (q3+Int.toNat (↑q4:Int)) (Int.toNat (↑q2:Int) - Int.toNat (↑q4:Int)) (Ev.putR (q3+(Int.toNat a.2 - q3)) q1 (appG q3 (fun _x _x_1=>AV.top) fun i k=>encN nRul a.1 (q3+i) k) fun i k=>appG q3 (fun _x _x_1=>AV.top) (fun i k=>encN nRul a.1 (q3+i) k) (Int.toNat q7+i) k) (fun _x k=>Option.getD [AV.int IntKind.i64 q6,AV.str [],AV.xsl (1:Nat) q3 (Get.mk [CK.str] fun _x _x_1=>AV.top) q3 q3 none,AV.xsl (4:Nat) q3 (Get.mk [CK.int IntKind.i64,CK.int IntKind.i64,CK.int IntKind.i64,CK.int IntKind.i64] fun _x _x_1=>AV.top) q3 q3 none,AV.int IntKind.i64 q6,AV.int IntKind.i64 q6,AV.int IntKind.i64 q6][k]? AV.top) (q3+i)))):=fun a=>by kernel_rfl
end Go.Proofs.YtkpligkggnjcoaaGreatDoor
/-! TC9 -/
namespace Go.Proofs.YtkpligkggnjcoaaGreatDoor
open Ev K
set_option maxRecDepth 100000
namespace K
theorem appG0 (f g:Nat→Nat→AV):appG 0 f g=g:=by
 funext i k;unfold appG;rw [show Nat.ble 0 i=true by rw [Nat.ble_eq];omega];rfl
theorem putR_in {row m:Nat} {a b:Nat→Nat→AV} {i:Nat} (h:row≤i∧i<row+m):Ev.putR row m a b i=b (i - row):=by
 funext k;unfold Ev.putR
 rw [show (Nat.ble row i&&Nat.blt i (row+m))=true by rw [Bool.and_eq_true,Nat.ble_eq,Nat.blt_eq];exact h]
theorem putR_out {row m:Nat} {a b:Nat→Nat→AV} {i:Nat} (h:¬ (row≤i∧i<row+m)):Ev.putR row m a b i=a i:=by
 funext k;unfold Ev.putR
 rw [show (Nat.ble row i&&Nat.blt i (row+m))=false by rw [← Bool.not_eq_true,Bool.and_eq_true,Nat.ble_eq,Nat.blt_eq];exact h]
theorem wo_dec (l:List Rul) (i n m:Nat) (hi:i<l.length) (hn:n=l.length - 1) (z:Nat→Nat→AV) :
  decN nRul n (fun t=>Ev.putR n m (Ev.putR i (l.length - (i+1)) (encN nRul l) fun j k=>encN nRul l (i+1+j) k) z t)=l.eraseIdx i:=by
 apply List.ext_getElem?
 intro t
 have hl:(l.eraseIdx i).length=l.length - 1:=List.length_eraseIdx_of_lt hi
 by_cases ht:t<n
 ·have h1:(l.eraseIdx i)[t]?=some (if t<i then l.getD t default else l.getD (t+1) default):=by
   rw [List.getElem?_eraseIdx]
   split
   ·rw [List.getD_eq_getElem?_getD,List.getElem?_eq_getElem (by omega)];rfl
   ·rw [List.getD_eq_getElem?_getD,List.getElem?_eq_getElem (by omega)];rfl
  rw [h1]
  simp only [decN,List.getElem?_map,List.getElem?_range ht,Option.map_some]
  rw [putR_out (by omega)]
  congr 1
  by_cases hti:t<i
  ·rw [if_pos hti,putR_out (by omega),rul_at (x:=l[t]) (List.getElem?_eq_getElem (by omega)),nRul.good,List.getD_eq_getElem?_getD,List.getElem?_eq_getElem (by omega)];rfl
  ·rw [if_neg hti,putR_in (by omega)]
   show nRul.rd (encN nRul l (i+1+(t - i)))=_
   rw [show i+1+(t - i)=t+1 by omega,rul_at (x:=l[t+1]) (List.getElem?_eq_getElem (by omega)),nRul.good,List.getD_eq_getElem?_getD,List.getElem?_eq_getElem (by omega)];rfl
 ·rw [List.getElem?_eq_none (by simp [decN];omega),List.getElem?_eq_none (by omega)]
theorem check_erase {l:List Rul} (h:checkT l=0) (i:Nat):checkT (l.eraseIdx i)=0:=by
 obtain ⟨h1,h2⟩:=checkT_ok h
 have hl:(l.eraseIdx i).length≤l.length:=List.length_eraseIdx_le ..
 unfold checkT
 rw [if_neg (by omega),if_pos fun r hr=>h2 r (List.mem_of_mem_eraseIdx hr)]
def eraseR (l:List Rul) (i:Int):List Rul:=l.eraseIdx i.toNat
def woOk (a:List Rul × Int):Prop:=a.1.length≤30∧0≤a.2∧a.2<a.1.length
instance (a:List Rul × Int):Decidable (woOk a):=by unfold woOk;infer_instance
theorem wo_ok (a:List Rul × Int) (r:List Rul) (h:(T.chk (decide (woOk a)) (.ret (eraseR a.1 a.2))).run=some r):callT1 P BTC83 30 85 D_wo dTar a=some r:=by
 obtain ⟨g,e⟩:=chk_ret h
 subst e
 obtain ⟨l,i⟩:=a
 obtain ⟨g1,g2,g3⟩:=of_decide_eq_true g
 simp only at g1 g2 g3
 obtain ⟨j,rfl⟩:∃ j:Nat,i=j:=⟨i.toNat,by omega⟩
 have hj:j<l.length:=by omega
 rw [fn_wo]
 simp only [Nat.zero_add,Nat.sub_zero,wi j (by omega),Int.toNat_natCast,appG0]
 refine chk_step (by rw [Nat.blt_eq];omega) (chk_step (decide_eq_true (by omega)) (chk_step ?_ (br_f ?_ (chk_step ?_ (chk_step ?_ (chk_step ?_ (chk_step ?_ (chk_step ?_ ?_))))))))
 ·simp only [Bool.and_eq_true,decide_eq_true_eq];omega
 ·rw [beq_eq_false_iff_ne];omega
 ·simp only [Bool.and_true,decide_eq_true_eq];omega
 ·simp only [Bool.true_and,decide_eq_true_eq];omega
 ·simp only [decide_eq_true_eq];omega
 ·simp only [Bool.and_eq_true,decide_eq_true_eq];omega
 ·simp only [decide_eq_true_eq];omega
 ·exact congrArg some (wo_dec l j _ _ hj (by omega) _)
end K
noncomputable def BTC91:Tab:=BTC83.addCall 85 (callE D_wo dTar (fun a=>.chk (decide (K.woOk a)) (.ret (K.eraseR a.1 a.2))))
theorem tTC91:TabOk P BTC91:=TabOk.addPC tTC83 (fun a r h=>call_of okP tTC83 (K.wo_ok a r h))
end Go.Proofs.YtkpligkggnjcoaaGreatDoor
/-! TE1 -/
namespace Go.Proofs.YtkpligkggnjcoaaGreatDoor
open Ev K
set_option maxRecDepth 100000
def rStrI:RowD (List UInt8 × Int) where
 wd:=2
 tags:=[.str,.int .i64]
 rd f:=(textOf (f 0),numOf (f 1))
 wr a k:=match k with
  | 0=>.str a.1
  | _=>.int .i64 a.2
 ok f k hk:=by
  match k,hk with
  | 0,_=>rfl
  | 1,_=>rfl
  | k+2,hk=>omega
 good _:=rfl
def oR3:DecB (List Rul × List Int × Unit × List (Str × Int) × Unit):=.flat 25 lTar (.rows 3 rInt (.flat 175 (.unit (dMp 3) (.tops 0)) (.maps 175 false rStrI .nil)))
def oR4:DecB (List Rul × List Int × Unit × List (Str × Int) × List Chrg × Unit):=.flat 25 lTar (.rows 3 rInt (.flat 175 (.unit (dMp 3) (.tops 0)) (.maps 175 false rStrI (.rows 83 rChrg .nil))))
def S_r8:=DecS.mk0 (.skip (.cons (dRows rLot) (.unit (dLp 0 0 0 0) (.skips 3 (.cons (dRows rChrg) (.skip (.cons (dO 1) (.cons (dInt) (.unit (dLp 2 0 0 0) (.skips 13 (.cons (dInt) (.cons (dInt) (.skips 7 (.cons (dO 4) (.cons (dInt) (.last (dInt) 18)))))))))))))))) oR4
def X_r8:=DecX.one (.exit 2) [10,6,1,2,24,25,9,8] (DecS.mk0 (.skip (.cons (dRows rLot) (.unit (dLp 0 0 0 0) (.skips 3 (.cons (dRows rChrg) (.skip (.cons (dO 1) (.cons (dInt) (.unit (dLp 2 0 0 0) (.skips 13 (.cons (dInt) (.last (dInt) 28)))))))))))) oR3)
noncomputable def K.st_r8:=loopT1 P BTC91 30 25 81 [35,10,33,6,1,2,24,25,9,8,34] S_r8 X_r8
theorem sl_r8:∀ s,(K.st_r8) s=T.run (
 let q4:=Get.mk [CK.str,CK.int IntKind.i64] (encF rStrI s.2.2.2.2.1);
 let q7:=s.2.2.2.2.2.1;
 let q2:=s.1.2.2.2.2.2.2.2.2;
 let q6:=(0:Nat);
 let q5:=textOf (encF rChrg q7 (Int.toNat q2) q6);
 let q3:=List.length s.2.2.2.2.1;
 let q1:=mfind q4 (AV.str q5) q3;
  .br (decide (q2<s.1.2.2.2.2.2.2.2.1)) (
    .chk (decide ((0:Int)≤q2∧q2<(↑s.1.2.2.2.2.2.2.1:Int))) <|
    .ret (Sum.inl ((decF rLot (List.length s.1.1) fun i=>encF rLot s.1.1 (q6+i),decF rChrg (List.length s.1.2.1) fun i=>encF rChrg s.1.2.1 (q6+i),s.1.2.2.1,s.1.2.2.2.1,s.1.2.2.2.2.1,s.1.2.2.2.2.2.1,s.1.2.2.2.2.2.2.1,s.1.2.2.2.2.2.2.2.1,IntKind.wrap IntKind.i64 (q2+(1:Int))),decN nRul (List.length s.2.1) fun i=>encN nRul s.2.1 (q6+i),decF rInt (List.length s.2.2.1) (encF rInt s.2.2.1),PUnit.unit,decF rStrI (mputN q1 q3) (Get.f (mputG q4 (mputP q1 q3) [AV.str q5,AV.int IntKind.i64 (numOf (encF rChrg q7 (Int.toNat q2) (nat_lit 1)))])),decF rChrg (List.length q7) (encF rChrg q7),PUnit.unit))) (
    .ret (Sum.inr ((decF rLot (List.length s.1.1) fun i=>encF rLot s.1.1 (q6+i),decF rChrg (List.length s.1.2.1) fun i=>encF rChrg s.1.2.1 (q6+i),s.1.2.2.1,s.1.2.2.2.1,s.1.2.2.2.2.1,s.1.2.2.2.2.2.1),decN nRul (List.length s.2.1) fun i=>encN nRul s.2.1 (q6+i),decF rInt (List.length s.2.2.1) (encF rInt s.2.2.1),PUnit.unit,decF rStrI q3 (encF rStrI s.2.2.2.2.1),PUnit.unit)))):=fun s=>by kernel_rfl
noncomputable def K.L_r8:=lim K.st_r8
noncomputable def BTE11:Tab:=BTC91.addNode 25 81 (nodeE [35,10,33,6,1,2,24,25,9,8,34] S_r8 X_r8 (fun s=>.obs (K.L_r8 s) .ret))
theorem tTE11:TabOk P BTE11:=TabOk.addLoop (d:=30) okP tTC91 (by kernel_rfl) (by kernel_rfl) (fun s r h=>obs_ret h)
noncomputable def BTE12:Tab:=BTE11.addInl 86
theorem tTE12:TabOk P BTE12:=TabOk.addInl tTE11
noncomputable def BTE13:Tab:=BTE12.addInl 155
theorem tTE13:TabOk P BTE13:=TabOk.addInl tTE12
noncomputable def BTE14:Tab:=BTE13.addInl 87
theorem tTE14:TabOk P BTE14:=TabOk.addInl tTE13
end Go.Proofs.YtkpligkggnjcoaaGreatDoor
/-! TE2 -/
namespace Go.Proofs.YtkpligkggnjcoaaGreatDoor
open Ev K
set_option maxRecDepth 100000
def F_r1:Dec Unit:=dFn 87 (.unit (dLp 0 0 0 0) (.tops 0))
def oRx:DecB (Unit × List (Str × Int) × List Rul × List Int × Unit):=.flat 175 (.unit (dMp 1) (.tops 0)) (.maps 175 false rStrI (.flat 25 lTar (.rows 3 rInt .nil)))
def V_rx:=((.cons (dRows rChrg) (.unit (F_r1) (.skips 2 (.cons (dB) (.cons (dRows rChrg) (.unit (F_r1) (.skips 3 (.cons (dRows rLot) (.unit (dLp 2 0 0 0) (.skips 3 (.cons (dRows rChrg) (.skip (.cons (dO 3) (.cons (dInt) (.unit (dLp 0 0 0 0) (.skips 13 (.cons (dInt) (.cons (dInt) (.skips 19 (.cons (dRows rChrg) (.unit (F_r1) (.tops 7)))))))))))))))))))))):DecL _)
def S_rx:=DecS.rnd (.cons (dRows rChrg) (.unit (F_r1) (.skips 5 (.cons (dInt) (.last (dInt) 10))))) oRx V_rx
def oRy:DecB (List Rul × List Int × Unit):=.flat 25 lTar (.rows 3 rInt .nil)
def X_rx:=DecX.or (DecX.one (.exit 0) [] (DecS.rnd (.tops 19) oRx V_rx)) (DecX.one .ret [4] (DecS.rnd (.skips 4 (.last (dInt) 14)) oRx V_rx))
noncomputable def K.st_rx:=loopT1 P BTE14 30 155 17 [8,0,1,7] S_rx X_rx
theorem sl_rx:∀ s,(K.st_rx) s=T.run (
 let q2:=(0:Nat);
 let q1:=(PUnit.unit,decF rStrI (List.length s.2.1.2.1) (encF rStrI s.2.1.2.1),decN nRul (List.length s.2.1.2.2.1) fun i=>encN nRul s.2.1.2.2.1 (q2+i),decF rInt (List.length s.2.1.2.2.2.1) (encF rInt s.2.1.2.2.2.1),PUnit.unit);
 let q3:=s.2.2.2.2.2.2.2.2.2.2.2.1;
 let q4:=s.2.2.2.2.2.2.1;
 let q5:=Get.mk [CK.str,CK.int IntKind.i64] (encF rStrI s.2.1.2.1);
 let q6:=s.2.2.2.2.2.1;
 let q7:=List.length s.2.2.2.2.1;
 let q8:=s.2.2.2.2.2.2.2.2.2.2.1;
 let q9:=List.length s.2.2.1;
 let q10:=s.2.2.2.2.2.2.2.2.2.1;
 let q11:=s.2.2.2.2.2.2.2.2.1;
 let q12:=s.2.2.2.2.2.2.2.1;
  .br (decide (s.1.2.2<s.1.2.1)) (
    .chk (decide ((0:Int)≤s.1.2.2∧s.1.2.2<(↑(List.length s.1.1):Int))) <|
    .br (numOf (mraw q5 (mfind q5 (AV.str (textOf (encF rChrg s.1.1 (q2+Int.toNat s.1.2.2) q2))) (List.length s.2.1.2.1)) (AV.int IntKind.i64 (0:Int)) (1:Nat)) != numOf (encF rChrg s.1.1 (q2+Int.toNat s.1.2.2) (nat_lit 1))) (
      .ret (Sum.inr (Sum.inr (s.1.2.2,q1,decF rChrg q9 fun i=>encF rChrg s.2.2.1 (q2+i),s.2.2.2.1,decF rChrg q7 fun i=>encF rChrg s.2.2.2.2.1 (q2+i),decF rLot (List.length q6) fun i=>encF rLot q6 (q2+i),decF rChrg (List.length q4) fun i=>encF rChrg q4 (q2+i),q12,q11,q10,q8,decF rChrg (List.length q3) fun i=>encF rChrg q3 (q2+i),PUnit.unit)))) (
      .ret (Sum.inl ((decF rChrg (List.length s.1.1) fun i=>encF rChrg s.1.1 (q2+i),s.1.2.1,IntKind.wrap IntKind.i64 (s.1.2.2+(1:Int))),q1,decF rChrg q9 fun i=>encF rChrg s.2.2.1 (q2+i),s.2.2.2.1,decF rChrg q7 fun i=>encF rChrg s.2.2.2.2.1 (q2+i),decF rLot (List.length q6) fun i=>encF rLot q6 (q2+i),decF rChrg (List.length q4) fun i=>encF rChrg q4 (q2+i),q12,q11,q10,q8,decF rChrg (List.length q3) fun i=>encF rChrg q3 (q2+i),PUnit.unit)))) (
    .ret (Sum.inr (Sum.inl (PUnit.unit,q1,decF rChrg q9 fun i=>encF rChrg s.2.2.1 (q2+i),s.2.2.2.1,decF rChrg q7 fun i=>encF rChrg s.2.2.2.2.1 (q2+i),decF rLot (List.length q6) fun i=>encF rLot q6 (q2+i),decF rChrg (List.length q4) fun i=>encF rChrg q4 (q2+i),q12,q11,q10,q8,decF rChrg (List.length q3) fun i=>encF rChrg q3 (q2+i),PUnit.unit))))):=fun s=>by kernel_rfl
noncomputable def K.L_rx:=lim K.st_rx
noncomputable def BTE21:Tab:=BTE14.addNode 155 17 (nodeE [8,0,1,7] S_rx X_rx (fun s=>.obs (K.L_rx s) .ret))
theorem tTE21:TabOk P BTE21:=TabOk.addLoop (d:=30) okP tTE14 (by kernel_rfl) (by kernel_rfl) (fun s r h=>obs_ret h)
end Go.Proofs.YtkpligkggnjcoaaGreatDoor
/-! TE3 -/
namespace Go.Proofs.YtkpligkggnjcoaaGreatDoor
open Ev K
set_option maxRecDepth 100000
def S_r4:=DecS.ghost 8 3 1 [.int .i64] (DecS.mk0 (.skip (.cons (dRows rLot) (.unit (dLp 0 0 0 0) (.skips 3 (.cons (dRows rChrg) (.skip (.cons (dO 1) (.skips 15 (.cons (dInt) (.last (dInt) 28)))))))))) oRy)
def X_r4:=DecX.one (.exit 0) [8] (DecS.mk0 (.skips 8 (.last (dO 0) 45)) (.rows 3 rInt .nil))
noncomputable def K.st_r4:=loopT1 P BTE21 30 25 49 [25,8,6,1,2,24] S_r4 X_r4
theorem sl_r4:∀ s,(K.st_r4) s=T.run (
 let q4:=List.length s.2.1;
 let q3:=(0:Nat);
 let q6:=s.1.2.2.2.2;
 let q2:=eraseR (decN nRul q4 fun i=>encN nRul s.2.1 (q3+i)) q6;
 let q5:=List.length s.1.1;
 let q1:=billL (decN nRul (List.length q2) fun i=>encN nRul q2 (q3+i)) (decF rLot q5 fun i=>encF rLot s.1.1 (q3+i));
  .br (decide (q6<s.1.2.2.2.1)) (
    .chk (decide (woOk (decN nRul q4 fun i=>encN nRul s.2.1 (q3+i),q6))) <|
    .chk (decide (bilOk (decN nRul (List.length q2) fun i=>encN nRul q2 (q3+i),decF rLot q5 fun i=>encF rLot s.1.1 (q3+i)))) <|
    .obs (L_r8 ((decF rLot q5 fun i=>encF rLot s.1.1 (q3+i),decF rChrg (List.length s.1.2.1) fun i=>encF rChrg s.1.2.1 (q3+i),s.1.2.2.1,q6,s.1.2.2.2.1,q6,List.length q1,(↑(List.length q1):Int),(0:Int)),decN nRul q4 fun i=>encN nRul s.2.1 (q3+i),decF rInt (List.length s.2.2.1) (encF rInt s.2.2.1),PUnit.unit,decF rStrI q3 fun _x _x_1=>AV.top,decF rChrg (List.length q1) (encF rChrg q1),PUnit.unit)) fun x0=>
 let q7:=List.length x0.1.2.1;
      .obs (L_rx ((decF rChrg q7 fun i=>encF rChrg x0.1.2.1 (q3+i),(↑(clampL q7):Int),(0:Int)),(PUnit.unit,decF rStrI (List.length x0.2.2.2.2.1) (encF rStrI x0.2.2.2.2.1),decN nRul (List.length x0.2.1) fun i=>encN nRul x0.2.1 (q3+i),decF rInt (List.length x0.2.2.1) (encF rInt x0.2.2.1),PUnit.unit),decF rChrg q7 fun i=>encF rChrg x0.1.2.1 (q3+i),false,decF rChrg q7 fun i=>encF rChrg x0.1.2.1 (q3+i),decF rLot (List.length x0.1.1) fun i=>encF rLot x0.1.1 (q3+i),decF rChrg q7 fun i=>encF rChrg x0.1.2.1 (q3+i),x0.1.2.2.1,x0.1.2.2.2.1,x0.1.2.2.2.2.1,x0.1.2.2.2.2.2,decF rChrg q7 fun i=>encF rChrg x0.1.2.1 (q3+i),PUnit.unit)) fun x1=>
        .sum (x1) (fun x2=>
          .ret (Sum.inl ((decF rLot (List.length x2.2.2.2.2.2.1) fun i=>encF rLot x2.2.2.2.2.2.1 (q3+i),decF rChrg (List.length x2.2.2.2.2.2.2.1) fun i=>encF rChrg x2.2.2.2.2.2.2.1 (q3+i),x2.2.2.2.2.2.2.2.1,x2.2.2.2.2.2.2.2.2.2.1,IntKind.wrap IntKind.i64 (x2.2.2.2.2.2.2.2.2.2.2.1+(1:Int))),decN nRul (List.length x2.2.1.2.2.1) fun i=>encN nRul x2.2.1.2.2.1 (q3+i),decF rInt (List.length x2.2.1.2.2.2.1) (encF rInt x2.2.1.2.2.2.1),PUnit.unit))) (fun x2=>
 let q8:=x2.2.1.2.2.2.1;
 let q9:=x2.2.2.2.2.2.2.1;
 let q10:=x2.2.2.2.2.2.2.2.2.2.2.1+(1:Int);
 let q11:=x2.2.2.2.2.2.1;
          .br (decide (x2.1 ≥ (0:Int))) (
            .chk (decide ((List.length q8+(1:Nat)) * (8:Nat)≤(140737488355328:Nat)∧List.length q8+(1:Nat)≤nat_lit 9223372036854775807)) <|
            .ret (Sum.inl ((decF rLot (List.length q11) fun i=>encF rLot q11 (q3+i),decF rChrg (List.length q9) fun i=>encF rChrg q9 (q3+i),List.length q8+(1:Nat),x2.2.2.2.2.2.2.2.2.2.1,IntKind.wrap IntKind.i64 q10),decN nRul (List.length x2.2.1.2.2.1) fun i=>encN nRul x2.2.1.2.2.1 (q3+i),decF rInt (List.length q8+(1:Nat)) (appG (List.length q8) (encF rInt q8) fun i k=>Option.getD [AV.int IntKind.i64 x2.2.2.2.2.2.2.2.2.1][(q3+i) * (1:Nat)+k]? AV.top),PUnit.unit))) (
            .ret (Sum.inl ((decF rLot (List.length q11) fun i=>encF rLot q11 (q3+i),decF rChrg (List.length q9) fun i=>encF rChrg q9 (q3+i),x2.2.2.2.2.2.2.2.1,x2.2.2.2.2.2.2.2.2.2.1,IntKind.wrap IntKind.i64 q10),decN nRul (List.length x2.2.1.2.2.1) fun i=>encN nRul x2.2.1.2.2.1 (q3+i),decF rInt (List.length q8) (encF rInt q8),PUnit.unit))))) (
    .ret (Sum.inr (s.1.2.2.1,decF rInt (List.length s.2.2.1) (encF rInt s.2.2.1),PUnit.unit)))):=fun s=>by kernel_rfl
noncomputable def K.L_r4:=lim K.st_r4
noncomputable def BTE31:Tab:=BTE21.addNode 25 49 (nodeE [25,8,6,1,2,24] S_r4 X_r4 (fun s=>.obs (K.L_r4 s) .ret))
theorem tTE31:TabOk P BTE31:=TabOk.addLoop (d:=30) okP tTE21 (by kernel_rfl) (by kernel_rfl) (fun s r h=>obs_ret h)
def R_res:=dTup (.cons (dRows rInt) (.last dInt 0))
theorem fn_rs:∀ a,(callT1 P BTE31 30 25 D_bil R_res) a=T.run (
 let q3:=List.length a.1;
 let q2:=(0:Nat);
 let q1:=billV (decN nRul q3 fun i=>encN nRul a.1 (q2+i)) (decF rLot (List.length a.2) fun i=>encF rLot a.2 (q2+i));
  .br (q1.2 != (0:Int)) (
    .ret (([],q1.2))) (
    .obs (L_r4 ((decF rLot (List.length a.2) fun i=>encF rLot a.2 (q2+i),decF rChrg (List.length q1.1) fun i=>encF rChrg q1.1 (q2+i),q2,(↑(clampL q3):Int),(0:Int)),decN nRul q3 fun i=>encN nRul a.1 (q2+i),decF rInt q2 fun _x _x_1=>AV.top,PUnit.unit)) fun x0=>
      .ret ((decF rInt (List.length x0.2.1) fun i=>encF rInt x0.2.1 (q2+i),(0:Int))))):=fun a=>by kernel_rfl
end Go.Proofs.YtkpligkggnjcoaaGreatDoor
/-! TE4 -/
namespace Go.Proofs.YtkpligkggnjcoaaGreatDoor
open Ev K
set_option maxRecDepth 100000
namespace K
def insI (l:List (Str × Int)) (s:Str) (v:Int):List (Str × Int):=match l.findIdx? fun a=>a.1 == s with
 | some i=>l.set i (s,v)
 | none=>l ++ [(s,v)]
def lookI (l:List (Str × Int)) (s:Str):Int:=match l.findIdx? fun a=>a.1 == s with
 | some i=>(l.getD i ([],0)).2
 | none=>0
theorem mfindI (l:List (Str × Int)) (s:Str):mfind ⟨[CK.str,CK.int IntKind.i64],encF rStrI l⟩ (.str s) l.length=l.findIdx? fun a=>a.1 == s:=by
 refine (mfind_enc rStrI l (.str s)).trans ?_
 congr 1
 funext a
 show (s == a.1)=(a.1 == s)
 exact Bool.beq_comm
theorem putI (l:List (Str × Int)) (s:Str) (v:Int):decF rStrI (mputN (mfind ⟨[CK.str,CK.int IntKind.i64],encF rStrI l⟩ (.str s) l.length) l.length) (mputG ⟨[CK.str,CK.int IntKind.i64],encF rStrI l⟩ (mputP (mfind ⟨[CK.str,CK.int IntKind.i64],encF rStrI l⟩ (.str s) l.length) l.length) [.str s,.int .i64 v]).f=insI l s v:=by
 rw [mfindI]
 unfold insI
 cases hf:l.findIdx? fun a=>a.1 == s with
 | some i=>exact (decF_put rStrI l (some i) (fun k hk=>by injection hk with hk;subst hk;exact (List.findIdx?_eq_some_iff_getElem.1 hf).1) _ _).trans rfl
 | none=>exact (decF_put rStrI l none (fun k hk=>by cases hk) _ _).trans rfl
theorem lookE (l:List (Str × Int)) (s:Str):numOf (mraw ⟨[CK.str,CK.int IntKind.i64],encF rStrI l⟩ (mfind ⟨[CK.str,CK.int IntKind.i64],encF rStrI l⟩ (.str s) l.length) (.int .i64 0) 1)=lookI l s:=by
 rw [mfindI]
 unfold lookI
 cases hf:l.findIdx? fun a=>a.1 == s with
 | none=>rfl
 | some i=>
  have hi:=(List.findIdx?_eq_some_iff_getElem.1 hf).1
  show numOf (encF rStrI l i 1)=(l.getD i ([],0)).2
  rw [encF_at (List.getElem?_eq_getElem hi),List.getD_eq_getElem?_getD,List.getElem?_eq_getElem hi];rfl
theorem lookI_ins (l:List (Str × Int)) (s:Str) (v:Int) (x:Str):lookI (insI l s v) x=if x=s then v else lookI l x:=by
 induction l with
 | nil=>
  unfold insI lookI
  simp only [List.findIdx?_nil,List.nil_append,List.findIdx?_cons]
  by_cases h:x=s
  ·subst h;simp
  ·rw [if_neg h];simp [Ne.symm h]
 | cons a l ih=>
  have hl:∀ (M:List (Str × Int)),lookI (a :: M) x=if a.1=x then a.2 else lookI M x:=fun M=>by
   unfold lookI
   rw [List.findIdx?_cons]
   by_cases h:a.1=x
   ·simp [h]
   ·rw [if_neg h]
    simp only [beq_iff_eq,h,if_false]
    cases M.findIdx? fun a=>a.1 == x<;>simp
  by_cases h:a.1=s
  ·have e:insI (a :: l) s v=(s,v) :: l:=by
    unfold insI;rw [List.findIdx?_cons];simp [h]
   rw [e]
   have h2:lookI ((s,v) :: l) x=if s=x then v else lookI l x:=by
    unfold lookI
    rw [List.findIdx?_cons]
    by_cases h:s=x
    ·simp [h]
    ·rw [if_neg h]
     simp only [beq_iff_eq,h,if_false]
     cases l.findIdx? fun a=>a.1 == x<;>simp
   rw [h2,hl]
   by_cases hx:x=s
   ·rw [if_pos hx.symm,if_pos hx]
   ·rw [if_neg (Ne.symm hx),if_neg hx,if_neg (by rw [h];exact Ne.symm hx)]
  ·have e:insI (a :: l) s v=a :: insI l s v:=by
    unfold insI;rw [List.findIdx?_cons]
    simp only [beq_iff_eq,h,if_false]
    cases l.findIdx? fun a=>a.1 == s<;>rfl
   rw [e,hl,hl,ih]
   by_cases hx:x=s
   ·rw [if_pos hx,if_pos hx,if_neg (by rw [hx];exact h)]
   ·rw [if_neg hx,if_neg hx]
def putAll (D:List Chrg):List (Str × Int):=D.foldl (fun M c=>insI M c.due c.pence) []
theorem look_all (f:Str→Int) (D:List Str) (x:Str):lookI (putAll (D.map fun d=>⟨d,f d⟩)) x=if x ∈ D then f x else 0:=by
 unfold putAll
 have key:∀ (D:List Str) (M:List (Str × Int)),lookI ((D.map fun d=>(⟨d,f d⟩:Chrg)).foldl (fun M c=>insI M c.due c.pence) M) x=if x ∈ D then f x else lookI M x:=by
  intro D
  induction D with
  | nil=>intro M;simp
  | cons d D ih=>
   intro M
   rw [List.map_cons,List.foldl_cons,ih,lookI_ins]
   by_cases h:x ∈ D
   ·rw [if_pos h,if_pos (List.mem_cons_of_mem _ h)]
   ·rw [if_neg h]
    by_cases hx:x=d
    ·subst hx;rw [if_pos rfl,if_pos (List.mem_cons_self ..)]
    ·rw [if_neg hx,if_neg (fun h2=>(List.mem_cons.1 h2).elim hx h)]
 exact key D []
theorem look_less (l:List Rul) (c:List Lot) (x:Str):lookI (putAll (billL l c)) x=lessV l x c:=look_all (fun d=>allL l d c) (duesT l) x
theorem L_r8_eq (c:List Lot) (A:List Chrg) (on:Nat) (i9 n i:Int) (l:List Rul) (out:List Int) (D:List Chrg) (hD:D.length≤1000) :
  L_r8 ((c,A,on,i9,n,i,D.length,(D.length:Int),0),l,out,(),[],D,())=some ((c,A,on,i9,n,i),l,out,(),putAll D,()):=by
 have e:putAll D=putAll (D.take D.length):=by rw [List.take_length]
 rw [e]
 refine lim_all (fun j:Nat=>((c,A,on,i9,n,i,D.length,(D.length:Int),(j:Int)),l,out,(),putAll (D.take j),D,())) D.length (fun j hj=>?_) ?_
 ·have hy:=List.getElem?_eq_getElem hj
  rw [sl_r8]
  have ht:D.take (j+1)=D.take j ++ [D[j]]:=by rw [List.take_add_one,hy];rfl
  rw [ht]
  generalize D[j]=x at hy
  simp only [Int.toNat_natCast,Nat.zero_add,chrg_at hy,nc0,nc1,decF_encF,decN_encN,wi j (by omega),putI]
  refine br_t (decide_eq_true (by omega)) (chk_step (decide_eq_true (by omega)) ?_)
  unfold putAll
  rw [List.foldl_append];rfl
 ·rw [sl_r8]
  simp only [decF_encF,decN_encN,Nat.zero_add]
  exact br_f (decide_eq_false (by omega)) rfl
def offP (M:List (Str × Int)) (x:Chrg):Bool:=lookI M x.due != x.pence
theorem L_rx_eq (A:List Chrg) (hA:A.length≤1000) (M:List (Str × Int)) (l:List Rul) (out:List Int) (A1 A2 A3 A4:List Chrg) (b:Bool) (c:List Lot) (on:Nat) (i9 n i:Int) :
  L_rx ((A,(A.length:Int),0),((),M,l,out,()),A1,b,A2,c,A3,on,i9,n,i,A4,())=some (match first (atP A (offP M)) A.length with
   | some j=>.inr ((j:Int),((),M,l,out,()),A1,b,A2,c,A3,on,i9,n,i,A4,())
   | none=>.inl ((),((),M,l,out,()),A1,b,A2,c,A3,on,i9,n,i,A4,())):=by
 refine (lim_find (fun j:Nat=>((A,(A.length:Int),(j:Int)),((),M,l,out,()),A1,b,A2,c,A3,on,i9,n,i,A4,())) A.length (atP A (offP M)) (fun j=>.inr ((j:Int),((),M,l,out,()),A1,b,A2,c,A3,on,i9,n,i,A4,())) (.inl ((),((),M,l,out,()),A1,b,A2,c,A3,on,i9,n,i,A4,())) (fun j hj hp=>?_) (fun j hj hp=>?_) ?_).trans ?_
 ·rw [sl_rx]
  have hy:=List.getElem?_eq_getElem hj
  unfold atP at hp;rw [hy] at hp
  generalize A[j]=x at hy hp
  simp only [Int.toNat_natCast,Nat.zero_add,chrg_at hy,nc0,nc1,decF_encF,decN_encN,lookE]
  exact br_t (decide_eq_true (by omega)) (chk_step (decide_eq_true (by omega)) (br_t hp rfl))
 ·rw [sl_rx]
  have hy:=List.getElem?_eq_getElem hj
  unfold atP at hp;rw [hy] at hp
  generalize A[j]=x at hy hp
  simp only [Int.toNat_natCast,Nat.zero_add,chrg_at hy,nc0,nc1,decF_encF,decN_encN,lookE,wi j (by omega)]
  exact br_t (decide_eq_true (by omega)) (chk_step (decide_eq_true (by omega)) (br_f hp rfl))
 ·rw [sl_rx]
  simp only [decF_encF,decN_encN,Nat.zero_add]
  exact br_f (decide_eq_false (by omega)) rfl
 ·cases first (atP A (offP M)) A.length<;>rfl
end K
end Go.Proofs.YtkpligkggnjcoaaGreatDoor
/-! TE5 -/
namespace Go.Proofs.YtkpligkggnjcoaaGreatDoor
open Ev K
set_option maxRecDepth 100000
namespace K
theorem pushN (l:List Int) (v:Int):decF rInt (l.length+1) (appG l.length (encF rInt l) fun i k=>([(.int .i64 v:AV)][i * 1+k]?).getD .top)=l ++ [v]:=(decF_app rInt l 1 _).trans rfl
def restP (l:List Rul) (c:List Lot) (i:Nat):Bool:=allL (l.eraseIdx i) (l.getD i default).due c != allL l (l.getD i default).due c
def restsK (l:List Rul) (c:List Lot) (k:Nat):List Int:=((List.range k).filter (restP l c)).map fun i:Nat=>(i:Int)
theorem restsK_succ (l:List Rul) (c:List Lot) (k:Nat):restsK l c (k+1)=if restP l c k=true then restsK l c k ++ [(k:Int)] else restsK l c k:=by
 unfold restsK
 rw [List.range_succ,List.filter_append,List.map_append]
 by_cases h:restP l c k=true
 ·rw [if_pos h,List.filter_cons_of_pos h];rfl
 ·rw [if_neg h,List.filter_cons_of_neg h];simp
theorem restsK_len (l:List Rul) (c:List Lot) (k:Nat):(restsK l c k).length≤k:=by
 unfold restsK
 rw [List.length_map]
 have:=List.length_filter_le (restP l c) (List.range k)
 rw [List.length_range] at this;exact this
theorem first_rest {l:List Rul} (c:List Lot) {i:Nat} (hi:i<l.length):(first (atP (billL l c) (offP (putAll (billL (l.eraseIdx i) c)))) (billL l c).length).isSome=restP l c i:=by
 rw [first_any]
 have h:=List.getElem?_eq_getElem hi
 have e:=rest_any h c
 have e2:l.getD i default=l[i]:=by rw [List.getD_eq_getElem?_getD,h];rfl
 unfold restP
 rw [e2,← e]
 congr 1
 funext x
 unfold offP
 rw [look_less]
theorem L_r4_eq (l:List Rul) (c:List Lot) (hl:checkT l=0) (hc:lotsL c=0) :
  L_r4 ((c,billL l c,0,(l.length:Int),0),l,[],())=some ((restsK l c l.length).length,restsK l c l.length,()):=by
 obtain ⟨h1,_⟩:=checkT_ok hl
 have hbl:∀ l':List Rul,l'.length≤30→(billL l' c).length≤1000:=fun l' h=>by
  have:=dues_len l'
  rw [bill_map,List.length_map];omega
 refine lim_all (fun i:Nat=>((c,billL l c,(restsK l c i).length,(l.length:Int),(i:Int)),l,restsK l c i,())) l.length (fun i hi=>?_) ?_
 ·have hlen:=restsK_len l c i
  have he:(l.eraseIdx i).length≤30:=by have:=List.length_eraseIdx_le (l:=l) (i:=i);omega
  have e:eraseR l (i:Int)=l.eraseIdx i:=rfl
  rw [sl_r4]
  simp only [Nat.zero_add,decF_encF,decN_encN,e,show decF rStrI 0 (fun x x_1=>AV.top)=[] from rfl]
  refine br_t (decide_eq_true (by omega)) (chk_step (decide_eq_true ⟨h1,by dsimp only;omega,by dsimp only;omega⟩) (chk_step (decide_eq_true ⟨check_erase hl i,hc⟩) ?_))
  refine obs_step (L_r8_eq c (billL l c) _ _ _ _ l _ (billL (l.eraseIdx i) c) (hbl _ he)) ?_
  simp only [cl (show (billL l c).length≤1000000 by have:=hbl l h1;omega)]
  refine obs_step (L_rx_eq (billL l c) (hbl l h1) _ l _ _ _ _ _ _ _ _ _ _ _) ?_
  have hf:=first_rest c hi
  rw [restsK_succ]
  cases hx:first (atP (billL l c) (offP (putAll (billL (l.eraseIdx i) c)))) (billL l c).length with
  | none=>
   rw [hx] at hf
   rw [if_neg (by rw [← hf];exact Bool.false_ne_true)]
   refine (T.run_inl _ _ _).trans ?_
   simp only [wi i (by omega)];rfl
  | some j=>
   rw [hx] at hf
   rw [if_pos (by rw [← hf];rfl)]
   refine (T.run_inr _ _ _).trans ?_
   simp only [wi i (by omega),pushN]
   refine br_t (decide_eq_true (by omega)) (chk_step (decide_eq_true (by omega)) ?_)
   rw [List.length_append,List.length_singleton];rfl
 ·rw [sl_r4]
  simp only [decF_encF,decN_encN,Nat.zero_add]
  exact br_f (decide_eq_false (by omega)) rfl
theorem restsK_all (l:List Rul) (c:List Lot):restsK l c l.length=restsL l c:=rfl
def restsV (l:List Rul) (c:List Lot):List Int × Int:=if errB l c≠0 then ([],errB l c) else (restsL l c,0)
theorem bill_err (l:List Rul) (c:List Lot):(billV l c).2=errB l c:=by
 unfold billV
 by_cases h:errB l c=0
 ·rw [if_neg (fun k=>k h),h]
 ·rw [if_pos h]
theorem rs_eq (a:List Rul × List Lot):callT1 P BTE31 30 25 D_bil R_res a=some (restsV a.1 a.2):=by
 rw [fn_rs]
 simp only [Nat.zero_add,decF_encF,decN_encN,bill_err]
 unfold restsV
 by_cases h:errB a.1 a.2=0
 ·rw [if_neg (fun k=>k h)]
  obtain ⟨h1,h2⟩:=errB_ok h
  have hl:=(checkT_ok h1).1
  have e:(billV a.1 a.2).1=billL a.1 a.2:=by unfold billV;rw [if_neg (fun k=>k h)]
  rw [e,cl (show a.1.length≤1000000 by omega)]
  refine br_f (by rw [h];rfl) (obs_step (L_r4_eq a.1 a.2 h1 h2) ?_)
  rw [restsK_all];rfl
 ·rw [if_pos h]
  exact br_t (bne_iff_ne.2 h) rfl
end K
noncomputable def BTE51:Tab:=BTE31.addCall 25 (callE D_bil R_res (fun a=>.ret (K.restsV a.1 a.2)))
theorem tTE51:TabOk P BTE51:=TabOk.addPC tTE31 (fun a r h=>by rw [← ret_some h];exact call_of okP tTE31 (K.rs_eq a))
end Go.Proofs.YtkpligkggnjcoaaGreatDoor
/-! TD1 -/
namespace Go.Proofs.YtkpligkggnjcoaaGreatDoor
open Ev K
set_option maxRecDepth 100000
def D_spn:=DecL.last dSpn 0
theorem fn_a_masses:∀ a,(callT1 P BTE51 30 90 D_spn dInt) a=T.run (
 .br (decide (Spn.lo a<(0:Int))) (
  .ret ((1:Int))) (
  .br (decide (Spn.lo a > Spn.hi a)) (
   .ret ((1:Int))) (
   .br (decide (Spn.hi a > (65536:Int))) (
    .ret ((1:Int))) (
    .br (decide (IntKind.wrap IntKind.i64 (Spn.hi a - Spn.lo a) ≥ (5000:Int))) (
     .ret ((2:Int))) (
     .ret ((0:Int))))))):=fun a=>by kernel_rfl
noncomputable def K.a_masses (a:Spn):Int:=(if (decide (Spn.lo a<(0:Int)))=true then (1:Int) else (if (decide (Spn.lo a > Spn.hi a))=true then (1:Int) else (if (decide (Spn.hi a > (65536:Int)))=true then (1:Int) else (if (decide (IntKind.wrap IntKind.i64 (Spn.hi a - Spn.lo a) ≥ (5000:Int)))=true then (2:Int) else (0:Int)))))
theorem eq_a_masses (a:Spn):(callT1 P BTE51 30 90 D_spn dInt) a=some (K.a_masses a):=(fn_a_masses a).trans (T.br_some rfl (T.br_some rfl (T.br_some rfl (T.br_some rfl rfl))))
noncomputable def BTD11:Tab:=BTE51.addCall 90 (callE D_spn dInt (fun a=>.ret (K.a_masses a)))
theorem tTD11:TabOk P BTD11:=TabOk.addFn (d:=30) okP tTE51 (fun a r h=>by rw [eq_a_masses];exact congrArg some (ret_some h))
def eInt (x:Int):List AV:=[.int .i64 x]
def V_ea:DecL Spn:=.last (dP 2 lSpn 0) 0
def S_ea:=DecS.yld (.unit (dYv) (.cons (dP 2 lSpn 0) (.skip (.last (dInt) 12)))) .nil
def X_ea:=DecX.or (DecX.one .ret [] (DecS.yld (.tops 16) .nil)) (DecX.one (.exit 0) [] (DecS.yld (.tops 16) .nil))
noncomputable def K.st_ea:=loopT1 P BTD11 30 165 9 [3,0,1] S_ea X_ea
theorem sl_ea:∀ s,(K.st_ea) s=T.run (
 .br (decide (s.1.2≤Spn.hi s.1.1)) (
  .br (!s.2.2.1 (List.length s.2.2.2)) (
   .ret (Sum.inr (Sum.inl (PUnit.unit,PUnit.unit,s.2.2.1,([AV.int IntKind.i64 s.1.2],s.2.2.1 (List.length s.2.2.2)) :: s.2.2.2)))) (
   .ret (Sum.inl ((s.1.1,IntKind.wrap IntKind.i64 (s.1.2+(1:Int))),PUnit.unit,s.2.2.1,([AV.int IntKind.i64 s.1.2],s.2.2.1 (List.length s.2.2.2)) :: s.2.2.2)))) (
  .ret (Sum.inr (Sum.inr (PUnit.unit,PUnit.unit,s.2.2))))):=fun s=>by kernel_rfl
noncomputable def K.L_ea:=lim K.st_ea
noncomputable def BTD12:Tab:=BTD11.addNode 165 9 (nodeE [3,0,1] S_ea X_ea (fun s=>.obs (K.L_ea s) .ret))
theorem tTD12:TabOk P BTD12:=TabOk.addLoop (d:=30) okP tTD11 (by kernel_rfl) (by kernel_rfl) (fun s r h=>obs_ret h)
noncomputable def I_ea (a:Spn) (bs:Nat→Bool):=iterT1 P BTD12 30 165 [] (V_ea.enc a) bs
theorem it_ea:∀ a bs,(I_ea) a bs=T.run (
 .obs (L_ea ((a,Spn.lo a),PUnit.unit,bs,[])) fun x0=>
  .sum (x0) (fun x1=>
   .ret (List.reverse x1.2.2.2)) (fun x1=>
   .ret (List.reverse x1.2.2.2))):=fun a bs=>by kernel_rfl
end Go.Proofs.YtkpligkggnjcoaaGreatDoor
/-! TD2 -/
namespace Go.Proofs.YtkpligkggnjcoaaGreatDoor
open Ev K
set_option maxRecDepth 100000
theorem filter_all {α:Type} (l:List α):l.filter (fun _=>true)=l:=by simp
section
variable (a:Spn) (h0:0≤a.lo) (h1:a.hi≤65536) {bs:Nat→Bool}
abbrev K.Se (a:Spn) (bs:Nat→Bool) (i:Nat) (out:List (List AV × Bool)):=((a,a.lo+(i:Int)),(),bs,out)
abbrev K.ee (a:Spn) (i:Nat):List AV:=eInt (a.lo+(i:Int))
abbrev K.ne (a:Spn):Nat:=(a.hi+1 - a.lo).toNat
include h0 h1
theorem ea_y (i:Nat) (hi:i<ne a) (out:List (List AV × Bool)) (hb:bs out.length=true):st_ea (Se a bs i out)=some (.inl (Se a bs (i+1) ((ee a i,true) :: out))):=by
 unfold ne at hi
 rw [sl_ea]
 simp only [hb]
 refine br_t (decide_eq_true (by omega)) (br_f rfl ?_)
 rw [w64_in (by omega) (by omega)]
 show some _=some _
 rw [show a.lo+(i:Int)+1=a.lo+((i+1:Nat):Int) by omega];rfl
omit h0 h1 in
theorem ea_s (i:Nat) (hi:i<ne a) (out:List (List AV × Bool)) (hb:bs out.length=false):st_ea (Se a bs i out)=some (.inr (.inl ((),(),bs,(ee a i,false) :: out))):=by
 unfold ne at hi
 rw [sl_ea]
 simp only [hb]
 exact br_t (decide_eq_true (by omega)) (br_t rfl rfl)
omit h0 h1 in
theorem ea_e (out):st_ea (Se a bs (ne a) out)=some (.inr (.inr ((),(),bs,out))):=by
 rw [sl_ea]
 exact br_f (decide_eq_false (by dsimp only [ne];omega)) rfl
theorem icl_ea:ICL P 165 [] (V_ea.enc a) ((masses a.lo a.hi).map eInt):=by
 refine iter_of okP tTD12 (d:=30) ?_ (fun m y hy=>?_)
 ·show I_ea a _=_
  rw [it_ea]
  have e:(a,a.lo)=(a,a.lo+((0:Nat):Int)):=by simp
  rw [e]
  show T.run (.obs (lim st_ea (Se a _ 0 [])) _)=_
  rw [lim_yields_all (Se a _) (n:=ne a) (fun _=>true) (ee a) (fun o=>Sum.inr ((),(),(fun _=>true),o)) (fun i hi out hp=>by cases hp) (fun i hi out hp hb=>ea_y a h0 h1 i hi out hb) (fun out=>ea_e a out) (fun _=>rfl) (ne a) 0 [] (by omega)]
  simp only [T.run_some,T.run_inr,T.run_ret,List.append_nil,List.reverse_reverse,masses,List.map_map,← List.range_eq_range',filter_all]
  rfl
 ·show I_ea a _=_
  rw [it_ea]
  have e:(a,a.lo)=(a,a.lo+((0:Nat):Int)):=by simp
  rw [e]
  show T.run (.obs (lim st_ea (Se a _ 0 [])) _)=_
  have hy':(((List.range' 0 (ne a)).filter (fun _=>true)).map (ee a))[m - ([]:List (List AV × Bool)).length]?=some y:=by
   rw [← List.range_eq_range'];simpa [masses,List.map_map,Function.comp_def,filter_all] using hy
  rw [lim_yields_stop (Se a _) (n:=ne a) (fun _=>true) (ee a) (fun o=>Sum.inl ((),(),(fun k=>!(Nat.beq k m)),o)) (fun i hi out hp=>by cases hp) (fun i hi out hp hb=>ea_y a h0 h1 i hi out hb) (fun i hi out hp hb=>ea_s a i hi out hb) (fun _=>rfl) (ne a) 0 [] (by omega) (by simp) hy']
  simp only [T.run_some,T.run_inl,T.run_ret,List.append_nil,List.reverse_cons,List.reverse_reverse,List.length_nil,Nat.sub_zero,← List.range_eq_range',masses,List.map_map,filter_all]
  rfl
end
namespace K
def spanL (s:Spn):Int:=if 0≤s.lo∧s.lo≤s.hi∧s.hi≤65536 then if s.hi - s.lo<5000 then 0 else 2 else 1
theorem span_ok {s:Spn} (h:spanL s=0):0≤s.lo∧s.lo≤s.hi∧s.hi≤65536∧s.hi - s.lo<5000:=by
 unfold spanL at h
 split at h
 ·rename_i h1
  split at h
  ·rename_i h2;exact ⟨h1.1,h1.2.1,h1.2.2,h2⟩
  ·cases h
 ·cases h
theorem masses_eq (a:Spn):callT1 P BTE51 30 90 D_spn dInt a=some (spanL a):=by
 rw [fn_a_masses]
 unfold spanL
 by_cases h1:0≤a.lo∧a.lo≤a.hi∧a.hi≤65536
 ·rw [if_pos h1]
  refine br_f (decide_eq_false (by omega)) (br_f (decide_eq_false (by omega)) (br_f (decide_eq_false (by omega)) ?_))
  rw [w64_in (by omega) (by omega)]
  by_cases h2:a.hi - a.lo<5000
  ·rw [if_pos h2];exact br_f (decide_eq_false (by omega)) rfl
  ·rw [if_neg h2];exact br_t (decide_eq_true (by omega)) rfl
 ·rw [if_neg h1]
  by_cases h2:a.lo<0
  ·exact br_t (decide_eq_true h2) rfl
  refine br_f (decide_eq_false h2) ?_
  by_cases h3:a.lo > a.hi
  ·exact br_t (decide_eq_true h3) rfl
  refine br_f (decide_eq_false h3) ?_
  exact br_t (decide_eq_true (by omega)) rfl
end K
noncomputable def BTD21:Tab:=BTD12.addCall 90 (callE D_spn dInt (fun a=>.ret (K.spanL a)))
theorem tTD21:TabOk P BTD21:=TabOk.addPC tTD12 (fun a r h=>by rw [← ret_some h];exact call_of okP tTE51 (K.masses_eq a))
def R_ea:Dec Spn:=dFn 165 V_ea
theorem fn_each:∀ a,(callT1 P BTD21 30 103 D_spn R_ea) a=T.run (
 .ret (a)):=fun a=>by kernel_rfl
noncomputable def BTD22:Tab:=BTD21.addCall 103 (callE D_spn R_ea (fun c=>.ret c))
theorem tTD22:TabOk P BTD22:=TabOk.addFn (d:=30) okP tTD21 (fun a r h=>by rw [fn_each];exact h)
end Go.Proofs.YtkpligkggnjcoaaGreatDoor
/-! TD3 -/
namespace Go.Proofs.YtkpligkggnjcoaaGreatDoor
open Ev K
set_option maxRecDepth 100000
def O_sg:DecB (List Rul × Str × Str × Nat × List Stg × Unit):=.flat 25 lTar (.flat 9 (.last dS 0) (.flat 9 (.last dS 0) (.flat 88 (.last (dO 4) 0) (.rows 95 rStg .nil))))
def S_sg:=DecS.ghostC 11 95 3 [.int .i64,.int .i64,.int .i64] (DecS.mk0 (.skips 4 (.unit (dLp 0 0 0 0) (.unit (dLp 1 0 0 0) (.unit (dLp 2 0 0 0) (.skips 4 (.unit (dLp 3 0 0 0) (.skips 15 (.last (R_ea) 36)))))))) O_sg)
noncomputable def K.st_sg:=rangeT1 P BTD22 30 43 49 [27,11,6,5,4] S_sg DecX.no eInt
theorem rg_sg:∀ s x,(K.st_sg) s x=T.run (
 let q7:=List.length s.2.1;
 let q5:=s.2.2.2.2.2.1;
 let q6:=decN nRul q7 fun i=>encN nRul s.2.1 ((0:Nat)+i);
 let q1:=Sum.inl (s.1,decN nRul q7 fun i=>encN nRul s.2.1 ((0:Nat)+i),s.2.2.1,s.2.2.2.1,List.length q5+(1:Nat),decF rStg (List.length q5+(1:Nat)) (appG (List.length q5) (encF rStg q5) fun i k=>Option.getD [AV.int IntKind.i64 x,AV.int IntKind.i64 x,AV.int IntKind.i64 (penceL q6 s.2.2.1 s.2.2.2.1 x)][((0:Nat)+i) * (3:Nat)+k]? AV.top),PUnit.unit);
 let q4:=(↑s.2.2.2.2.1:Int) - (1:Int);
 let q2:=decide ((0:Int)≤IntKind.wrap IntKind.i64 q4∧IntKind.wrap IntKind.i64 q4<(↑s.2.2.2.2.1:Int));
 let q3:=decide ((List.length q5+(1:Nat)) * (24:Nat)≤(140737488355328:Nat)∧List.length q5+(1:Nat)≤nat_lit 9223372036854775807);
 let q8:=Int.toNat (IntKind.wrap IntKind.i64 q4);
  .chk (decide (penOk (decN nRul q7 fun i=>encN nRul s.2.1 ((0:Nat)+i),s.2.2.1,s.2.2.2.1,x))) <|
  .br (decide ((↑s.2.2.2.2.1:Int) > (0:Int))) (
    .chk q2 <|
    .br (numOf (encF rStg q5 q8 (nat_lit 2)) == penceL q6 s.2.2.1 s.2.2.2.1 x) (
      .chk q2 <|
      .ret (Sum.inl (s.1,decN nRul q7 fun i=>encN nRul s.2.1 ((0:Nat)+i),s.2.2.1,s.2.2.2.1,s.2.2.2.2.1,decF rStg (List.length q5) (setR q8 (nat_lit 1) (nat_lit 1) [AV.int IntKind.i64 x] (encF rStg q5)),PUnit.unit))) (
      .chk q3 <|
      .ret q1)) (
    .chk q3 <|
    .ret q1)):=fun s x=>by kernel_rfl
end Go.Proofs.YtkpligkggnjcoaaGreatDoor
/-! TD4 -/
namespace Go.Proofs.YtkpligkggnjcoaaGreatDoor
open Ev K
set_option maxRecDepth 100000
namespace K
theorem pushG (l:List Stg) (a b c:Int):decF rStg (l.length+1) (appG l.length (encF rStg l) fun i k=>([(.int .i64 a:AV),.int .i64 b,.int .i64 c][i * 3+k]?).getD .top)=l ++ [⟨a,b,c⟩]:=(decF_app rStg l 1 _).trans rfl
theorem setR_off {row col n:Nat} {xs:List AV} {f:Nat→Nat→AV} {i:Nat} (h:i≠row):setR row col n xs f i=f i:=by
 funext k;unfold setR
 rw [show Nat.beq i row=false by rw [← Bool.not_eq_true,Nat.beq_eq];exact h];rfl
theorem setHi (L:List Stg) (s:Stg) (x:Int):decF rStg (L ++ [s]).length (setR L.length 1 1 [.int .i64 x] (encF rStg (L ++ [s])))=L ++ [⟨s.lo,x,s.pence⟩]:=by
 apply List.ext_getElem?
 intro i
 simp only [decF,List.getElem?_map,List.length_append,List.length_singleton]
 by_cases h:i<L.length
 ·rw [List.getElem?_range (by omega),Option.map_some,setR_off (by omega),List.getElem?_append_left h,stg_at (x:=L[i]) (by rw [List.getElem?_append_left h,List.getElem?_eq_getElem h]),rStg.good,List.getElem?_eq_getElem h]
 ·by_cases h2:i=L.length
  ·subst h2
   have hs:(L ++ [s])[L.length]?=some s:=by rw [List.getElem?_append_right (Nat.le_refl _),Nat.sub_self];rfl
   rw [List.getElem?_range (by omega),Option.map_some,List.getElem?_append_right (Nat.le_refl _),Nat.sub_self]
   have hb:Nat.beq L.length L.length=true:=by rw [Nat.beq_eq]
   show some (⟨numOf (setR L.length 1 1 [.int .i64 x] (encF rStg (L ++ [s])) L.length 0),numOf (setR L.length 1 1 [.int .i64 x] (encF rStg (L ++ [s])) L.length 1),numOf (setR L.length 1 1 [.int .i64 x] (encF rStg (L ++ [s])) L.length 2)⟩:Stg)=_
   unfold setR
   simp only [hb,Bool.true_and]
   rw [stg_at hs];rfl
  ·rw [List.getElem?_eq_none (by simp;omega),List.getElem?_eq_none (by simp;omega)];rfl
theorem stStep_len (out:List Stg) (m n:Int):(stStep out m n).length≤out.length+1:=by
 unfold stStep
 split
 ·split
  ·rw [List.length_append,List.length_dropLast,List.length_singleton];omega
  ·rw [List.length_append,List.length_singleton];exact Nat.le_refl _
 ·simp
theorem st_sg_eq (a:Spn) (l:List Rul) (due grade:Str) (out:List Stg) (x:Int) (hc:checkT l=0) (hx:0≤x∧x≤65536) (ho:out.length≤100000) :
  st_sg (a,l,due,grade,out.length,out,()) x=some (.inl (a,l,due,grade,(stStep out x (penceL l due grade x)).length,stStep out x (penceL l due grade x),())):=by
 rw [rg_sg]
 simp only [Nat.zero_add,decN_encN,pushG]
 refine chk_step (decide_eq_true ⟨hc,hx⟩) ?_
 generalize penceL l due grade x=n
 cases hl:out.getLast? with
 | none=>
  have e:out=[]:=List.getLast?_eq_none_iff.1 hl
  subst e
  exact br_f rfl (chk_step (decide_eq_true (by simp)) rfl)
 | some s=>
  obtain ⟨L,rfl⟩:=List.getLast?_eq_some_iff.1 hl
  have hlen:(L ++ [s]).length=L.length+1:=by simp
  have hs:(L ++ [s])[L.length]?=some s:=by rw [List.getElem?_append_right (Nat.le_refl _),Nat.sub_self];rfl
  have hw:IntKind.i64.wrap (((L ++ [s]).length:Int) - 1)=(L.length:Int):=by rw [w64_in (by omega) (by omega)];omega
  refine br_t (decide_eq_true (by omega)) ?_
  rw [hw]
  simp only [Int.toNat_natCast,stg_at hs,ng2]
  refine chk_step (decide_eq_true (by omega)) ?_
  unfold stStep
  rw [hl]
  simp only
  by_cases hp:s.pence=n
  ·rw [if_pos hp]
   refine br_t (beq_iff_eq.2 hp) (chk_step (decide_eq_true (by omega)) ?_)
   rw [setHi,List.dropLast_concat,hp]
   have:(L ++ [(⟨s.lo,x,n⟩:Stg)]).length=(L ++ [s]).length:=by simp
   rw [this];rfl
  ·rw [if_neg hp]
   refine br_f (beq_eq_false_iff_ne.2 hp) (chk_step (decide_eq_true (by omega)) ?_)
   have e3:(L ++ [s] ++ [(⟨x,x,n⟩:Stg)]).length=(L ++ [s]).length+1:=by simp
   rw [e3];rfl
theorem fold_sg (a:Spn) (l:List Rul) (due grade:Str) (hc:checkT l=0):∀ (M:List Int) (out:List Stg),(∀ x ∈ M,0≤x∧x≤65536)→out.length+M.length≤100000 →
  foldS st_sg M (a,l,due,grade,out.length,out,())=some (.inl (a,l,due,grade,(M.foldl (fun o x=>stStep o x (penceL l due grade x)) out).length,M.foldl (fun o x=>stStep o x (penceL l due grade x)) out,())):=by
 intro M
 induction M with
 | nil=>intro out _ _;rfl
 | cons x M ih=>
  intro out hM hl
  simp only [List.length_cons] at hl
  have h1:=st_sg_eq a l due grade out x hc (hM x (List.mem_cons_self ..)) (by omega)
  have h2:=stStep_len out x (penceL l due grade x)
  simp only [foldS,h1,List.foldl_cons]
  exact ih _ (fun y hy=>hM y (List.mem_cons_of_mem _ hy)) (by omega)
theorem stages_fold (f:Int→Int) (lo hi:Int):(masses lo hi).foldl (fun o x=>stStep o x (f x)) []=stagesL f lo hi:=by
 unfold masses stagesL
 generalize (hi+1 - lo).toNat=k
 induction k with
 | zero=>rfl
 | succ k ih=>
  rw [List.range_succ,List.map_append,List.foldl_append,ih];rfl
theorem masses_in {lo hi x:Int} (h:x ∈ masses lo hi):lo≤x∧x≤hi:=by
 obtain ⟨j,hj,rfl⟩:=List.mem_map.1 h
 have:=List.mem_range.1 hj
 omega
theorem masses_len (lo hi:Int):(masses lo hi).length=(hi+1 - lo).toNat:=by unfold masses;rw [List.length_map,List.length_range]
def sgOk (s:Spn × List Rul × Str × Str × Nat × List Stg × Unit):Prop:=(checkT s.2.1=0∧s.2.2.2.2.2.1=[]∧s.2.2.2.2.1=0)∧spanL s.1=0
instance (s:Spn × List Rul × Str × Str × Nat × List Stg × Unit):Decidable (sgOk s):=by unfold sgOk;infer_instance
def stgs (l:List Rul) (due grade:Str) (a:Spn):List Stg:=stagesL (fun m=>penceL l due grade m) a.lo a.hi
theorem sg_ok (s:Spn × List Rul × Str × Str × Nat × List Stg × Unit) (r) (h:(T.chk (decide (sgOk s)) (.ret (.inl (s.1,s.2.1,s.2.2.1,s.2.2.2.1,(stgs s.2.1 s.2.2.1 s.2.2.2.1 s.1).length,stgs s.2.1 s.2.2.1 s.2.2.2.1 s.1,())))).run=some r) :
  foldS st_sg (masses s.1.lo s.1.hi) s=some r:=by
 obtain ⟨g,e⟩:=chk_ret h
 subst e
 obtain ⟨a,l,due,grade,n,out,u⟩:=s
 obtain ⟨⟨g1,g2,g3⟩,g4⟩:=of_decide_eq_true g
 simp only at g1 g2 g3 g4
 subst g2;subst g3
 obtain ⟨b1,b2,b3,b4⟩:=span_ok g4
 have:=fold_sg a l due grade g1 (masses a.lo a.hi) [] (fun x hx=>by have:=masses_in hx;omega) (by rw [masses_len];simp;omega)
 rw [stages_fold] at this
 exact this
end K
noncomputable def BTD41:Tab:=BTD22.addNode 43 49 (rangeE [27,11,6,5,4] S_sg DecX.no (fun s=>.chk (decide (K.sgOk s)) (.ret (.inl (s.1,s.2.1,s.2.2.1,s.2.2.2.1,(K.stgs s.2.1 s.2.2.1 s.2.2.2.1 s.1).length,K.stgs s.2.1 s.2.2.1 s.2.2.2.1 s.1,())))))
theorem tTD41:TabOk P BTD41:=TabOk.addRange (d:=30) (enc:=eInt) (L:=(fun s=>K.masses s.1.lo s.1.hi)) okP tTD22 (by kernel_rfl) (by kernel_rfl) (fun s r h=>⟨_,_,_,(by kernel_rfl:_=some (165,[],V_ea.enc s.1)),by obtain ⟨g,_⟩:=chk_ret h;have b:=K.span_ok (of_decide_eq_true g).2;exact icl_ea s.1 b.1 b.2.2.1⟩) (fun s r h=>K.sg_ok s r h)
def D_stg:=DecL.cons dTar (.cons dS (.cons dS (.last dSpn 0)))
def R_stg:=dTup (.cons (dRows rStg) (.last dInt 0))
theorem fn_sg:∀ a,(callT1 P BTD41 30 43 D_stg R_stg) a=T.run (
 let q3:=decN nRul (List.length a.1) fun i=>encN nRul a.1 ((0:Nat)+i);
 let q6:=stgs q3 a.2.1 a.2.2.1 a.2.2.2;
 let q1:=(decF rStg (List.length q6) fun i=>encF rStg q6 ((0:Nat)+i),(0:Int));
 let q2:=decide (sgOk (a.2.2.2,decN nRul (List.length a.1) fun i=>encN nRul a.1 ((0:Nat)+i),a.2.1,a.2.2.1,(0:Nat),decF rStg (0:Nat) fun _x _x_1=>AV.top,PUnit.unit));
 let q4:=askL q3 a.2.1 a.2.2.1 != (0:Int);
 let q5:T _:=.chk q2 <|
      .ret q1;
  .br q4 (
    .br q4 (
      .ret (([],askL q3 a.2.1 a.2.2.1))) q5) (
    .br (spanL a.2.2.2 != (0:Int)) (
      .br (spanL a.2.2.2 != (0:Int)) (
        .ret (([],spanL a.2.2.2))) (
        .chk q2 <|
        .ret q1)) q5)):=fun a=>by kernel_rfl
end Go.Proofs.YtkpligkggnjcoaaGreatDoor
/-! TD5 -/
namespace Go.Proofs.YtkpligkggnjcoaaGreatDoor
open Ev K
set_option maxRecDepth 100000
namespace K
def errS (l:List Rul) (due grade:Str) (a:Spn):Int:=if askL l due grade≠0 then askL l due grade else spanL a
def stagesV (l:List Rul) (due grade:Str) (a:Spn):List Stg × Int:=if errS l due grade a≠0 then ([],errS l due grade a) else (stgs l due grade a,0)
theorem errS_ok {l:List Rul} {due grade:Str} {a:Spn} (h:errS l due grade a=0):askL l due grade=0∧spanL a=0:=by
 unfold errS at h
 split at h
 ·rename_i h1;exact absurd h h1
 ·rename_i h1;exact ⟨Classical.not_not.1 h1,h⟩
theorem sg_eq (a:List Rul × Str × Str × Spn):callT1 P BTD41 30 43 D_stg R_stg a=some (stagesV a.1 a.2.1 a.2.2.1 a.2.2.2):=by
 rw [fn_sg]
 simp only [Nat.zero_add,decN_encN,decF_encF,show decF rStg 0 (fun x x_1=>AV.top)=[] from rfl]
 unfold stagesV errS
 by_cases h1:askL a.1 a.2.1 a.2.2.1=0
 ·rw [if_neg (show ¬ (askL a.1 a.2.1 a.2.2.1≠0) from fun k=>k h1)]
  refine br_f (by rw [h1];rfl) ?_
  by_cases h2:spanL a.2.2.2=0
  ·rw [if_neg (fun k=>k h2)]
   exact br_f (by rw [h2];rfl) (chk_step (decide_eq_true ⟨⟨(ask_ok h1).1,rfl,rfl⟩,h2⟩) rfl)
  ·rw [if_pos h2]
   exact br_t (bne_iff_ne.2 h2) (br_t (bne_iff_ne.2 h2) rfl)
 ·rw [if_pos h1,if_pos h1]
  exact br_t (bne_iff_ne.2 h1) (br_t (bne_iff_ne.2 h1) rfl)
end K
noncomputable def BTD51:Tab:=BTD41.addCall 43 (callE D_stg R_stg (fun a=>.ret (K.stagesV a.1 a.2.1 a.2.2.1 a.2.2.2)))
theorem tTD51:TabOk P BTD51:=TabOk.addPC tTD41 (fun a r h=>by rw [← ret_some h];exact call_of okP tTD41 (K.sg_eq a))
def S_fr:=DecS.mk0 (.skips 4 (.cons (dInt) (.skips 22 (.cons (dRows rStg) (.cons (dInt) (.last (dInt) 11)))))) .nil
def X_fr:=DecX.or (DecX.one (.exit 0) [] (DecS.mk0 (.tops 41) .nil)) (DecX.one .ret [10,11] (DecS.mk0 (.skips 10 (.cons (dInt) (.last (dInt) 29))) .nil))
noncomputable def K.st_fr:=loopT1 P BTD51 30 49 41 [29,4,27,28] S_fr X_fr
theorem sl_fr:∀ s,(K.st_fr) s=T.run (
 .br (decide (s.1.2.2.2<s.1.2.2.1)) (
  .chk (decide ((0:Int)≤s.1.2.2.2∧s.1.2.2.2<(↑(List.length s.1.2.1):Int))) <|
  .br (decide (numOf (encF rStg s.1.2.1 ((0:Nat)+Int.toNat s.1.2.2.2) (nat_lit 2)) ≥ s.1.1)) (
   .ret (Sum.inr (Sum.inr ((numOf (encF rStg s.1.2.1 ((0:Nat)+Int.toNat s.1.2.2.2) (0:Nat)),(0:Int)),PUnit.unit)))) (
   .ret (Sum.inl ((s.1.1,decF rStg (List.length s.1.2.1) fun i=>encF rStg s.1.2.1 ((0:Nat)+i),s.1.2.2.1,IntKind.wrap IntKind.i64 (s.1.2.2.2+(1:Int))),PUnit.unit)))) (
  .ret (Sum.inr (Sum.inl (PUnit.unit,PUnit.unit))))):=fun s=>by kernel_rfl
noncomputable def K.L_fr:=lim K.st_fr
noncomputable def BTD52:Tab:=BTD51.addNode 49 41 (nodeE [29,4,27,28] S_fr X_fr (fun s=>.obs (K.L_fr s) .ret))
theorem tTD52:TabOk P BTD52:=TabOk.addLoop (d:=30) okP tTD51 (by kernel_rfl) (by kernel_rfl) (fun s r h=>obs_ret h)
def D_frm:=DecL.cons dTar (.cons dS (.cons dS (.cons dSpn (.last dInt 0))))
theorem fn_fr:∀ a,(callT1 P BTD52 30 49 D_frm R_ii) a=T.run (
 .br (Prod.snd (stagesV (decN nRul (List.length a.1) fun i=>encN nRul a.1 ((0:Nat)+i)) a.2.1 a.2.2.1 a.2.2.2.1) != (0:Int)) (
  .ret (((0:Int),Prod.snd (stagesV (decN nRul (List.length a.1) fun i=>encN nRul a.1 ((0:Nat)+i)) a.2.1 a.2.2.1 a.2.2.2.1)))) (
  .obs (L_fr ((a.2.2.2.2,decF rStg (List.length (Prod.fst (stagesV (decN nRul (List.length a.1) fun i=>encN nRul a.1 ((0:Nat)+i)) a.2.1 a.2.2.1 a.2.2.2.1))) fun i=>encF rStg (Prod.fst (stagesV (decN nRul (List.length a.1) fun i=>encN nRul a.1 ((0:Nat)+i)) a.2.1 a.2.2.1 a.2.2.2.1)) ((0:Nat)+i),(↑(clampL (List.length (Prod.fst (stagesV (decN nRul (List.length a.1) fun i=>encN nRul a.1 ((0:Nat)+i)) a.2.1 a.2.2.1 a.2.2.2.1)))):Int),(0:Int)),PUnit.unit)) fun x0=>
   .sum (x0) (fun _=>
    .ret (((0:Int),(5:Int)))) (fun x1=>
    .ret x1.1))):=fun a=>by kernel_rfl
end Go.Proofs.YtkpligkggnjcoaaGreatDoor
/-! TD6 -/
namespace Go.Proofs.YtkpligkggnjcoaaGreatDoor
open Ev K
set_option maxRecDepth 100000
namespace K
theorem find_first {α:Type} (l:List α) (p:α→Bool):l.find? p=match first (atP l p) l.length with
  | some j=>l[j]?
  | none=>none:=by
 cases hf:first (atP l p) l.length with
 | none=>
  rw [List.find?_eq_none]
  intro x hx
  obtain ⟨i,hi,rfl⟩:=List.mem_iff_getElem.1 hx
  have:=first_none' hf i hi
  unfold atP at this
  rw [List.getElem?_eq_getElem hi] at this
  simpa using this
 | some j=>
  obtain ⟨h1,h2,h3⟩:=first_spec hf
  unfold atP at h2 h3
  rw [List.getElem?_eq_getElem h1] at h2
  show l.find? p=l[j]?
  rw [List.getElem?_eq_getElem h1,List.find?_eq_some_iff_getElem]
  refine ⟨h2,j,h1,rfl,fun k hk=>?_⟩
  have:=h3 k hk
  rw [List.getElem?_eq_getElem (by omega)] at this
  simpa using this
theorem stgs_len {l:List Rul} {due grade:Str} {a:Spn} (h:spanL a=0):(stgs l due grade a).length≤5000:=by
 obtain ⟨b1,b2,b3,b4⟩:=span_ok h
 unfold stgs stagesL
 have key:∀ (f:Int→Int) (lo:Int) (k:Nat),(stagesK f lo k).length≤k:=by
  intro f lo k
  induction k with
  | zero=>exact Nat.le_refl _
  | succ k ih=>
   have:=stStep_len (stagesK f lo k) (lo+k) (f (lo+k))
   show (stStep _ _ _).length≤_
   omega
 have:=key (fun m=>penceL l due grade m) a.lo (a.hi+1 - a.lo).toNat
 omega
def geP (n:Int) (s:Stg):Bool:=decide (s.pence ≥ n)
theorem L_fr_eq (n:Int) (L:List Stg) (hL:L.length≤100000):L_fr ((n,L,(L.length:Int),0),())=some (match first (atP L (geP n)) L.length with
  | some j=>.inr (((L.getD j default).lo,0),())
  | none=>.inl ((),())):=by
 refine (lim_find (fun j:Nat=>((n,L,(L.length:Int),(j:Int)),())) L.length (atP L (geP n)) (fun j=>.inr (((L.getD j default).lo,0),())) (.inl ((),())) (fun j hj hp=>?_) (fun j hj hp=>?_) ?_).trans ?_
 ·rw [sl_fr]
  have hy:=List.getElem?_eq_getElem hj
  rw [List.getD_eq_getElem?_getD]
  unfold atP at hp;rw [hy] at hp ⊢
  generalize L[j]=x at hy hp
  simp only [Int.toNat_natCast,Nat.zero_add,stg_at hy,ng0,ng2]
  exact br_t (decide_eq_true (by omega)) (chk_step (decide_eq_true (by omega)) (br_t hp rfl))
 ·rw [sl_fr]
  have hy:=List.getElem?_eq_getElem hj
  unfold atP at hp;rw [hy] at hp
  generalize L[j]=x at hy hp
  simp only [Int.toNat_natCast,Nat.zero_add,stg_at hy,ng2,decF_encF,wi j (by omega)]
  exact br_t (decide_eq_true (by omega)) (chk_step (decide_eq_true (by omega)) (br_f hp rfl))
 ·rw [sl_fr]
  exact br_f (decide_eq_false (by dsimp only;omega)) rfl
 ·cases first (atP L (geP n)) L.length<;>rfl
def fromV (l:List Rul) (due grade:Str) (a:Spn) (n:Int):Int × Int:=if errS l due grade a≠0 then (0,errS l due grade a) else match fromL (stgs l due grade a) n with
 | some m=>(m,0)
 | none=>(0,5)
theorem stages_err (l:List Rul) (due grade:Str) (a:Spn):(stagesV l due grade a).2=errS l due grade a:=by
 unfold stagesV
 by_cases h:errS l due grade a=0
 ·rw [if_neg (fun k=>k h),h]
 ·rw [if_pos h]
theorem fr_eq (a:List Rul × Str × Str × Spn × Int):callT1 P BTD52 30 49 D_frm R_ii a=some (fromV a.1 a.2.1 a.2.2.1 a.2.2.2.1 a.2.2.2.2):=by
 rw [fn_fr]
 simp only [Nat.zero_add,decN_encN,decF_encF,stages_err]
 unfold fromV
 by_cases h:errS a.1 a.2.1 a.2.2.1 a.2.2.2.1=0
 ·rw [if_neg (fun k=>k h)]
  refine br_f (by rw [h];rfl) ?_
  have e:(stagesV a.1 a.2.1 a.2.2.1 a.2.2.2.1).1=stgs a.1 a.2.1 a.2.2.1 a.2.2.2.1:=by unfold stagesV;rw [if_neg (fun k=>k h)]
  rw [e]
  have hl:=stgs_len (l:=a.1) (due:=a.2.1) (grade:=a.2.2.1) (errS_ok h).2
  rw [cl (by omega)]
  refine obs_step (L_fr_eq _ _ (by omega)) ?_
  unfold fromL
  have hff:=find_first (stgs a.1 a.2.1 a.2.2.1 a.2.2.2.1) (geP a.2.2.2.2)
  have hg:(fun s:Stg=>decide (s.pence ≥ a.2.2.2.2))=geP a.2.2.2.2:=rfl
  rw [hg,hff]
  cases hx:first (atP (stgs a.1 a.2.1 a.2.2.1 a.2.2.2.1) (geP a.2.2.2.2)) (stgs a.1 a.2.1 a.2.2.1 a.2.2.2.1).length with
  | none=>rfl
  | some j=>
   have hj:=(first_spec hx).1
   simp only [List.getD_eq_getElem?_getD,List.getElem?_eq_getElem hj];rfl
 ·rw [if_pos h]
  exact br_t (bne_iff_ne.2 h) rfl
end K
noncomputable def BTD61:Tab:=BTD52.addCall 49 (callE D_frm R_ii (fun a=>.ret (K.fromV a.1 a.2.1 a.2.2.1 a.2.2.2.1 a.2.2.2.2)))
theorem tTD61:TabOk P BTD61:=TabOk.addPC tTD52 (fun a r h=>by rw [← ret_some h];exact call_of okP tTD52 (K.fr_eq a))
def S_g20b:=DecS.mk0 (.skips 3 (.unit (dMp 0) (.skips 7 (.cons (d2T) (.unit (dK 2) (.unit (dK 0) (.skips 4 (.cons (dRowsN nRul) (.cons (dInt) (.cons (dInt) (.skips 4 (.cons (dRows rStr) (.cons (dInt) (.last (dInt) 10)))))))))))))) oMp
def X_g20b:=DecX.one (.exit 4) [3,18,11,12,13,19,20] (DecS.mk0 (.skips 3 (.unit (dMp 0) (.skips 7 (.cons (d2T) (.unit (dK 2) (.unit (dK 0) (.skips 4 (.cons (dRowsN nRul) (.cons (dInt) (.last (dInt) 17)))))))))) oMp)
noncomputable def K.st_g20b:=loopT1 P BTD61 30 113 73 [27,3,25,18,11,12,13,19,20,26] S_g20b X_g20b
theorem sl_g20b:∀ s,(K.st_g20b) s=T.run (
 let q6:=Get.mk [CK.str,CK.bool] (encF rStrB s.2.1);
 let q8:=s.1.2.2.2.2.1;
 let q7:=(0:Nat);
 let q5:=s.1.2.2.2.2.2.2;
 let q3:=textOf (encF rStr q8 (q7+Int.toNat q5) q7);
 let q4:=List.length s.2.1;
 let q1:=mfind q6 (AV.str q3) q4;
 let q2:=(decN nRul (List.length s.1.1.1) fun i=>encN nRul s.1.1.1 (q7+i),decN nRul (List.length s.1.1.2) fun i=>encN nRul s.1.1.2 (q7+i));
  .br (decide (q5<s.1.2.2.2.2.2.1)) (
    .chk (decide ((0:Int)≤q5∧q5<(↑(List.length q8):Int))) <|
    .ret (Sum.inl ((q2,decN nRul (List.length s.1.2.1) fun i=>encN nRul s.1.2.1 (q7+i),s.1.2.2.1,s.1.2.2.2.1,decF rStr (List.length q8) fun i=>encF rStr q8 (q7+i),s.1.2.2.2.2.2.1,IntKind.wrap IntKind.i64 (q5+(1:Int))),decF rStrB (mputN q1 q4) (Get.f (mputG q6 (mputP q1 q4) [AV.str q3,AV.bool true])),PUnit.unit))) (
    .ret (Sum.inr ((q2,decN nRul (List.length s.1.2.1) fun i=>encN nRul s.1.2.1 (q7+i),s.1.2.2.1,s.1.2.2.2.1),decF rStrB q4 (encF rStrB s.2.1),PUnit.unit)))):=fun s=>by kernel_rfl
noncomputable def K.L_g20b:=lim K.st_g20b
noncomputable def BTD62:Tab:=BTD61.addNode 113 73 (nodeE [27,3,25,18,11,12,13,19,20,26] S_g20b X_g20b (fun s=>.obs (K.L_g20b s) .ret))
theorem tTD62:TabOk P BTD62:=TabOk.addLoop (d:=30) okP tTD61 (by kernel_rfl) (by kernel_rfl) (fun s r h=>obs_ret h)
def S_g20:=DecS.mk0 (.skips 3 (.unit (dMp 0) (.skips 7 (.cons (d2T) (.unit (dK 2) (.unit (dK 0) (.skips 4 (.cons (dRowsN nRul) (.cons (dInt) (.last (dInt) 17)))))))))) oMp
def X_g20:=DecX.one (.exit 2) [3,11,12,13] (DecS.mk0 (.skips 3 (.unit (dMp 0) (.skips 7 (.cons (d2T) (.unit (dK 2) (.unit (dK 0) (.tops 24))))))) oMp)
noncomputable def K.st_g20:=loopT1 P BTD62 30 113 49 [3,20,18,11,12,13,19] S_g20 X_g20
theorem sl_g20:∀ s,(K.st_g20) s=T.run (
 let q3:=(0:Nat);
 let q1:=encN nRul s.1.2.1 (q3+Int.toNat s.1.2.2.2) (nat_lit 2);
 let q2:=(decN nRul (List.length s.1.1.1) fun i=>encN nRul s.1.1.1 (q3+i),decN nRul (List.length s.1.1.2) fun i=>encN nRul s.1.1.2 (q3+i));
  .br (decide (s.1.2.2.2<s.1.2.2.1)) (
    .chk (decide ((0:Int)≤s.1.2.2.2∧s.1.2.2.2<(↑(List.length s.1.2.1):Int))) <|
    .obs (L_g20b ((q2,decN nRul (List.length s.1.2.1) fun i=>encN nRul s.1.2.1 (q3+i),s.1.2.2.1,s.1.2.2.2,decF rStr (slLen q1) fun i=>slF q1 (slRow q1+i),(↑(clampL (slLen q1)):Int),(0:Int)),decF rStrB (List.length s.2.1) (encF rStrB s.2.1),PUnit.unit)) fun x0=>
      .ret (Sum.inl (((decN nRul (List.length x0.1.1.1) fun i=>encN nRul x0.1.1.1 (q3+i),decN nRul (List.length x0.1.1.2) fun i=>encN nRul x0.1.1.2 (q3+i)),decN nRul (List.length x0.1.2.1) fun i=>encN nRul x0.1.2.1 (q3+i),x0.1.2.2.1,IntKind.wrap IntKind.i64 (x0.1.2.2.2+(1:Int))),decF rStrB (List.length x0.2.1) (encF rStrB x0.2.1),PUnit.unit))) (
    .ret (Sum.inr ((q2,PUnit.unit),decF rStrB (List.length s.2.1) (encF rStrB s.2.1),PUnit.unit)))):=fun s=>by kernel_rfl
noncomputable def K.L_g20:=lim K.st_g20
noncomputable def BTD63:Tab:=BTD62.addNode 113 49 (nodeE [3,20,18,11,12,13,19] S_g20 X_g20 (fun s=>.obs (K.L_g20 s) .ret))
theorem tTD63:TabOk P BTD63:=TabOk.addLoop (d:=30) okP tTD62 (by kernel_rfl) (by kernel_rfl) (fun s r h=>obs_ret h)
def S_g21b:=DecS.mk0 (.skips 3 (.unit (dMp 0) (.skips 7 (.cons (d2T) (.unit (dK 2) (.unit (dK 1) (.skips 4 (.cons (dRowsN nRul) (.cons (dInt) (.cons (dInt) (.skips 4 (.cons (dRows rStr) (.cons (dInt) (.last (dInt) 10)))))))))))))) oMp
def X_g21b:=DecX.one (.exit 4) [3,18,11,12,13,19,20] (DecS.mk0 (.skips 3 (.unit (dMp 0) (.skips 7 (.cons (d2T) (.unit (dK 2) (.unit (dK 1) (.skips 4 (.cons (dRowsN nRul) (.cons (dInt) (.last (dInt) 17)))))))))) oMp)
noncomputable def K.st_g21b:=loopT1 P BTD63 30 113 73 [27,3,25,18,11,12,13,19,20,26] S_g21b X_g21b
theorem sl_g21b:∀ s,(K.st_g21b) s=T.run (
 let q6:=Get.mk [CK.str,CK.bool] (encF rStrB s.2.1);
 let q8:=s.1.2.2.2.2.1;
 let q7:=(0:Nat);
 let q5:=s.1.2.2.2.2.2.2;
 let q3:=textOf (encF rStr q8 (q7+Int.toNat q5) q7);
 let q4:=List.length s.2.1;
 let q1:=mfind q6 (AV.str q3) q4;
 let q2:=(decN nRul (List.length s.1.1.1) fun i=>encN nRul s.1.1.1 (q7+i),decN nRul (List.length s.1.1.2) fun i=>encN nRul s.1.1.2 (q7+i));
  .br (decide (q5<s.1.2.2.2.2.2.1)) (
    .chk (decide ((0:Int)≤q5∧q5<(↑(List.length q8):Int))) <|
    .ret (Sum.inl ((q2,decN nRul (List.length s.1.2.1) fun i=>encN nRul s.1.2.1 (q7+i),s.1.2.2.1,s.1.2.2.2.1,decF rStr (List.length q8) fun i=>encF rStr q8 (q7+i),s.1.2.2.2.2.2.1,IntKind.wrap IntKind.i64 (q5+(1:Int))),decF rStrB (mputN q1 q4) (Get.f (mputG q6 (mputP q1 q4) [AV.str q3,AV.bool true])),PUnit.unit))) (
    .ret (Sum.inr ((q2,decN nRul (List.length s.1.2.1) fun i=>encN nRul s.1.2.1 (q7+i),s.1.2.2.1,s.1.2.2.2.1),decF rStrB q4 (encF rStrB s.2.1),PUnit.unit)))):=fun s=>by kernel_rfl
noncomputable def K.L_g21b:=lim K.st_g21b
noncomputable def BTD64:Tab:=BTD63.addNode 113 73 (nodeE [27,3,25,18,11,12,13,19,20,26] S_g21b X_g21b (fun s=>.obs (K.L_g21b s) .ret))
theorem tTD64:TabOk P BTD64:=TabOk.addLoop (d:=30) okP tTD63 (by kernel_rfl) (by kernel_rfl) (fun s r h=>obs_ret h)
def S_g21:=DecS.mk0 (.skips 3 (.unit (dMp 0) (.skips 7 (.cons (d2T) (.unit (dK 2) (.unit (dK 1) (.skips 4 (.cons (dRowsN nRul) (.cons (dInt) (.last (dInt) 17)))))))))) oMp
def X_g21:=DecX.one (.exit 2) [3,11,12,13] (DecS.mk0 (.skips 3 (.unit (dMp 0) (.skips 7 (.cons (d2T) (.unit (dK 2) (.unit (dK 1) (.tops 24))))))) oMp)
noncomputable def K.st_g21:=loopT1 P BTD64 30 113 49 [3,20,18,11,12,13,19] S_g21 X_g21
theorem sl_g21:∀ s,(K.st_g21) s=T.run (
 let q3:=(0:Nat);
 let q1:=encN nRul s.1.2.1 (q3+Int.toNat s.1.2.2.2) (nat_lit 2);
 let q2:=(decN nRul (List.length s.1.1.1) fun i=>encN nRul s.1.1.1 (q3+i),decN nRul (List.length s.1.1.2) fun i=>encN nRul s.1.1.2 (q3+i));
  .br (decide (s.1.2.2.2<s.1.2.2.1)) (
    .chk (decide ((0:Int)≤s.1.2.2.2∧s.1.2.2.2<(↑(List.length s.1.2.1):Int))) <|
    .obs (L_g21b ((q2,decN nRul (List.length s.1.2.1) fun i=>encN nRul s.1.2.1 (q3+i),s.1.2.2.1,s.1.2.2.2,decF rStr (slLen q1) fun i=>slF q1 (slRow q1+i),(↑(clampL (slLen q1)):Int),(0:Int)),decF rStrB (List.length s.2.1) (encF rStrB s.2.1),PUnit.unit)) fun x0=>
      .ret (Sum.inl (((decN nRul (List.length x0.1.1.1) fun i=>encN nRul x0.1.1.1 (q3+i),decN nRul (List.length x0.1.1.2) fun i=>encN nRul x0.1.1.2 (q3+i)),decN nRul (List.length x0.1.2.1) fun i=>encN nRul x0.1.2.1 (q3+i),x0.1.2.2.1,IntKind.wrap IntKind.i64 (x0.1.2.2.2+(1:Int))),decF rStrB (List.length x0.2.1) (encF rStrB x0.2.1),PUnit.unit))) (
    .ret (Sum.inr ((q2,PUnit.unit),decF rStrB (List.length s.2.1) (encF rStrB s.2.1),PUnit.unit)))):=fun s=>by kernel_rfl
noncomputable def K.L_g21:=lim K.st_g21
noncomputable def BTD65:Tab:=BTD64.addNode 113 49 (nodeE [3,20,18,11,12,13,19] S_g21 X_g21 (fun s=>.obs (K.L_g21 s) .ret))
theorem tTD65:TabOk P BTD65:=TabOk.addLoop (d:=30) okP tTD64 (by kernel_rfl) (by kernel_rfl) (fun s r h=>obs_ret h)
def S_g1b:=DecS.mk0 (.skips 3 (.unit (dMp 0) (.skips 7 (.cons (d1T) (.unit (dK 1) (.unit (dK 0) (.skips 4 (.cons (dRowsN nRul) (.cons (dInt) (.cons (dInt) (.skips 4 (.cons (dRows rStr) (.cons (dInt) (.last (dInt) 10)))))))))))))) oMp
def X_g1b:=DecX.one (.exit 4) [3,18,11,12,13,19,20] (DecS.mk0 (.skips 3 (.unit (dMp 0) (.skips 7 (.cons (d1T) (.unit (dK 1) (.unit (dK 0) (.skips 4 (.cons (dRowsN nRul) (.cons (dInt) (.last (dInt) 17)))))))))) oMp)
noncomputable def K.st_g1b:=loopT1 P BTD65 30 113 73 [27,3,25,18,11,12,13,19,20,26] S_g1b X_g1b
theorem sl_g1b:∀ s,(K.st_g1b) s=T.run (
 let q5:=Get.mk [CK.str,CK.bool] (encF rStrB s.2.1);
 let q7:=s.1.2.2.2.2.1;
 let q6:=(0:Nat);
 let q4:=s.1.2.2.2.2.2.2;
 let q2:=textOf (encF rStr q7 (q6+Int.toNat q4) q6);
 let q3:=List.length s.2.1;
 let q1:=mfind q5 (AV.str q2) q3;
  .br (decide (q4<s.1.2.2.2.2.2.1)) (
    .chk (decide ((0:Int)≤q4∧q4<(↑(List.length q7):Int))) <|
    .ret (Sum.inl ((decN nRul (List.length s.1.1) fun i=>encN nRul s.1.1 (q6+i),decN nRul (List.length s.1.2.1) fun i=>encN nRul s.1.2.1 (q6+i),s.1.2.2.1,s.1.2.2.2.1,decF rStr (List.length q7) fun i=>encF rStr q7 (q6+i),s.1.2.2.2.2.2.1,IntKind.wrap IntKind.i64 (q4+(1:Int))),decF rStrB (mputN q1 q3) (Get.f (mputG q5 (mputP q1 q3) [AV.str q2,AV.bool true])),PUnit.unit))) (
    .ret (Sum.inr ((decN nRul (List.length s.1.1) fun i=>encN nRul s.1.1 (q6+i),decN nRul (List.length s.1.2.1) fun i=>encN nRul s.1.2.1 (q6+i),s.1.2.2.1,s.1.2.2.2.1),decF rStrB q3 (encF rStrB s.2.1),PUnit.unit)))):=fun s=>by kernel_rfl
noncomputable def K.L_g1b:=lim K.st_g1b
noncomputable def BTD66:Tab:=BTD65.addNode 113 73 (nodeE [27,3,25,18,11,12,13,19,20,26] S_g1b X_g1b (fun s=>.obs (K.L_g1b s) .ret))
theorem tTD66:TabOk P BTD66:=TabOk.addLoop (d:=30) okP tTD65 (by kernel_rfl) (by kernel_rfl) (fun s r h=>obs_ret h)
def S_g1:=DecS.mk0 (.skips 3 (.unit (dMp 0) (.skips 7 (.cons (d1T) (.unit (dK 1) (.unit (dK 0) (.skips 4 (.cons (dRowsN nRul) (.cons (dInt) (.last (dInt) 17)))))))))) oMp
def X_g1:=DecX.one (.exit 2) [3,11,12,13] (DecS.mk0 (.skips 3 (.unit (dMp 0) (.skips 7 (.cons (d1T) (.unit (dK 1) (.unit (dK 0) (.tops 24))))))) oMp)
noncomputable def K.st_g1:=loopT1 P BTD66 30 113 49 [3,20,18,11,12,13,19] S_g1 X_g1
theorem sl_g1:∀ s,(K.st_g1) s=T.run (
 let q2:=(0:Nat);
 let q1:=encN nRul s.1.2.1 (q2+Int.toNat s.1.2.2.2) (nat_lit 2);
  .br (decide (s.1.2.2.2<s.1.2.2.1)) (
    .chk (decide ((0:Int)≤s.1.2.2.2∧s.1.2.2.2<(↑(List.length s.1.2.1):Int))) <|
    .obs (L_g1b ((decN nRul (List.length s.1.1) fun i=>encN nRul s.1.1 (q2+i),decN nRul (List.length s.1.2.1) fun i=>encN nRul s.1.2.1 (q2+i),s.1.2.2.1,s.1.2.2.2,decF rStr (slLen q1) fun i=>slF q1 (slRow q1+i),(↑(clampL (slLen q1)):Int),(0:Int)),decF rStrB (List.length s.2.1) (encF rStrB s.2.1),PUnit.unit)) fun x0=>
      .ret (Sum.inl ((decN nRul (List.length x0.1.1) fun i=>encN nRul x0.1.1 (q2+i),decN nRul (List.length x0.1.2.1) fun i=>encN nRul x0.1.2.1 (q2+i),x0.1.2.2.1,IntKind.wrap IntKind.i64 (x0.1.2.2.2+(1:Int))),decF rStrB (List.length x0.2.1) (encF rStrB x0.2.1),PUnit.unit))) (
    .ret (Sum.inr ((decN nRul (List.length s.1.1) fun i=>encN nRul s.1.1 (q2+i),PUnit.unit),decF rStrB (List.length s.2.1) (encF rStrB s.2.1),PUnit.unit)))):=fun s=>by kernel_rfl
noncomputable def K.L_g1:=lim K.st_g1
noncomputable def BTD67:Tab:=BTD66.addNode 113 49 (nodeE [3,20,18,11,12,13,19] S_g1 X_g1 (fun s=>.obs (K.L_g1 s) .ret))
theorem tTD67:TabOk P BTD67:=TabOk.addLoop (d:=30) okP tTD66 (by kernel_rfl) (by kernel_rfl) (fun s r h=>obs_ret h)
theorem fn_g2:∀ a,(freshT1 P BTD67 30 113 9 D_d2 rStr) a=T.run (
 let q1:=(0:Nat);
 let q2:=List.length a.1;
  .obs (L_g20 (((decN nRul q2 fun i=>encN nRul a.1 (q1+i),decN nRul (List.length a.2) fun i=>encN nRul a.2 (q1+i)),decN nRul q2 fun i=>encN nRul a.1 (q1+i),(↑(clampL q2):Int),(0:Int)),decF rStrB q1 fun _x _x_1=>AV.top,PUnit.unit)) fun x0=>
 let q3:=List.length x0.1.1.2;
    .obs (L_g21 (((decN nRul (List.length x0.1.1.1) fun i=>encN nRul x0.1.1.1 (q1+i),decN nRul q3 fun i=>encN nRul x0.1.1.2 (q1+i)),decN nRul q3 fun i=>encN nRul x0.1.1.2 (q1+i),(↑(clampL q3):Int),(0:Int)),decF rStrB (List.length x0.2.1) (encF rStrB x0.2.1),PUnit.unit)) fun x1=>
 let q4:=decF rStrB (List.length x1.2.1) (encF rStrB x1.2.1);
 let q5:=setS (List.map (fun x=>x.1) q4);
      .chk (decide (okMp q4)) <|
      .ret (decF rStr (List.length q5) fun i=>encF rStr q5 (q1+i))):=fun a=>by kernel_rfl
theorem fn_g1:∀ a,(freshT1 P BTD67 30 113 9 D_d1 rStr) a=T.run (
 .obs (L_g1 ((decN nRul (List.length a) fun i=>encN nRul a ((0:Nat)+i),decN nRul (List.length a) fun i=>encN nRul a ((0:Nat)+i),(↑(clampL (List.length a)):Int),(0:Int)),decF rStrB (0:Nat) fun _x _x_1=>AV.top,PUnit.unit)) fun x0=>
  .chk (decide (okMp (decF rStrB (List.length x0.2.1) (encF rStrB x0.2.1)))) <|
  .ret (decF rStr (List.length (setS (List.map (fun x=>x.1) (decF rStrB (List.length x0.2.1) (encF rStrB x0.2.1))))) fun i=>encF rStr (setS (List.map (fun x=>x.1) (decF rStrB (List.length x0.2.1) (encF rStrB x0.2.1)))) ((0:Nat)+i))):=fun a=>by kernel_rfl
end Go.Proofs.YtkpligkggnjcoaaGreatDoor
/-! TD7 -/
namespace Go.Proofs.YtkpligkggnjcoaaGreatDoor
open Ev K
set_option maxRecDepth 100000
namespace K
theorem L_g1b_eq (l:List Rul) (m i:Int) (L:List Rul) (G:List Str) (hG:G.length≤1000) (M:List (Str × Bool)):L_g1b ((l,L,m,i,G,(G.length:Int),0),M,())=some ((l,L,m,i),G.foldl insB M,()):=by
 have e:G.foldl insB M=(G.take G.length).foldl insB M:=by rw [List.take_length]
 rw [e]
 refine lim_all (fun j:Nat=>((l,L,m,i,G,(G.length:Int),(j:Int)),(G.take j).foldl insB M,())) G.length (fun j hj=>?_) ?_
 ·have hy:=List.getElem?_eq_getElem hj
  rw [sl_g1b]
  have ht:G.take (j+1)=G.take j ++ [G[j]]:=by rw [List.take_add_one,hy];rfl
  rw [ht]
  generalize G[j]=g at hy
  simp only [Int.toNat_natCast,Nat.zero_add,str_at hy,ns0,decF_encF,decN_encN,wi j (by omega),putB]
  refine br_t (decide_eq_true (by omega)) (chk_step (decide_eq_true (by omega)) ?_)
  rw [List.foldl_append];rfl
 ·rw [sl_g1b]
  simp only [Nat.zero_add,decN_encN,decF_encF]
  exact br_f (decide_eq_false (by omega)) rfl
theorem L_g1_eq (l:List Rul) (hc:checkT l=0) (M:List (Str × Bool)):L_g1 ((l,l,(l.length:Int),0),M,())=some ((l,()),(l.flatMap (·.grades)).foldl insB M,()):=by
 obtain ⟨hl,hr⟩:=checkT_ok hc
 have e:(l.flatMap (·.grades)).foldl insB M=((l.take l.length).flatMap (·.grades)).foldl insB M:=by rw [List.take_length]
 rw [e]
 refine lim_all (fun i:Nat=>((l,l,(l.length:Int),(i:Int)),((l.take i).flatMap (·.grades)).foldl insB M,())) l.length (fun i hi=>?_) ?_
 ·have hy:=List.getElem?_eq_getElem hi
  have hg:=(hr l[i] (List.getElem_mem hi)).1.2
  rw [sl_g1]
  have ht:l.take (i+1)=l.take i ++ [l[i]]:=by rw [List.take_add_one,hy];rfl
  rw [ht]
  generalize l[i]=r at hy hg
  simp only [Int.toNat_natCast,Nat.zero_add,rul_at hy,nr2,so_rd,decN_encN,decF_encF]
  simp only [so_len,cl (show r.grades.length≤1000000 by omega)]
  refine br_t (decide_eq_true (by omega)) (chk_step (decide_eq_true (by omega)) (obs_step (L_g1b_eq l _ _ l r.grades (by omega) _) ?_))
  simp only [wi i (by omega)]
  rw [List.flatMap_append,List.foldl_append]
  show some _=some _
  simp only [List.flatMap_cons,List.flatMap_nil,List.append_nil]
 ·rw [sl_g1]
  simp only [Nat.zero_add,decN_encN,decF_encF]
  exact br_f (decide_eq_false (by omega)) rfl
theorem L_g20b_eq (l l2:List Rul) (m i:Int) (L:List Rul) (G:List Str) (hG:G.length≤1000) (M:List (Str × Bool)):L_g20b (((l,l2),L,m,i,G,(G.length:Int),0),M,())=some (((l,l2),L,m,i),G.foldl insB M,()):=by
 have e:G.foldl insB M=(G.take G.length).foldl insB M:=by rw [List.take_length]
 rw [e]
 refine lim_all (fun j:Nat=>(((l,l2),L,m,i,G,(G.length:Int),(j:Int)),(G.take j).foldl insB M,())) G.length (fun j hj=>?_) ?_
 ·have hy:=List.getElem?_eq_getElem hj
  rw [sl_g20b]
  have ht:G.take (j+1)=G.take j ++ [G[j]]:=by rw [List.take_add_one,hy];rfl
  rw [ht]
  generalize G[j]=g at hy
  simp only [Int.toNat_natCast,Nat.zero_add,str_at hy,ns0,decF_encF,decN_encN,wi j (by omega),putB]
  refine br_t (decide_eq_true (by omega)) (chk_step (decide_eq_true (by omega)) ?_)
  rw [List.foldl_append];rfl
 ·rw [sl_g20b]
  simp only [Nat.zero_add,decN_encN,decF_encF]
  exact br_f (decide_eq_false (by omega)) rfl
theorem L_g20_eq (l l2:List Rul) (hc:checkT l=0) (M:List (Str × Bool)):L_g20 (((l,l2),l,(l.length:Int),0),M,())=some (((l,l2),()),(l.flatMap (·.grades)).foldl insB M,()):=by
 obtain ⟨hl,hr⟩:=checkT_ok hc
 have e:(l.flatMap (·.grades)).foldl insB M=((l.take l.length).flatMap (·.grades)).foldl insB M:=by rw [List.take_length]
 rw [e]
 refine lim_all (fun i:Nat=>(((l,l2),l,(l.length:Int),(i:Int)),((l.take i).flatMap (·.grades)).foldl insB M,())) l.length (fun i hi=>?_) ?_
 ·have hy:=List.getElem?_eq_getElem hi
  have hg:=(hr l[i] (List.getElem_mem hi)).1.2
  rw [sl_g20]
  have ht:l.take (i+1)=l.take i ++ [l[i]]:=by rw [List.take_add_one,hy];rfl
  rw [ht]
  generalize l[i]=r at hy hg
  simp only [Int.toNat_natCast,Nat.zero_add,rul_at hy,nr2,so_rd,decN_encN,decF_encF]
  simp only [so_len,cl (show r.grades.length≤1000000 by omega)]
  refine br_t (decide_eq_true (by omega)) (chk_step (decide_eq_true (by omega)) (obs_step (L_g20b_eq l l2 _ _ l r.grades (by omega) _) ?_))
  simp only [wi i (by omega)]
  rw [List.flatMap_append,List.foldl_append]
  show some _=some _
  simp only [List.flatMap_cons,List.flatMap_nil,List.append_nil]
 ·rw [sl_g20]
  simp only [Nat.zero_add,decN_encN,decF_encF]
  exact br_f (decide_eq_false (by omega)) rfl
theorem L_g21b_eq (l l2:List Rul) (m i:Int) (L:List Rul) (G:List Str) (hG:G.length≤1000) (M:List (Str × Bool)):L_g21b (((l2,l),L,m,i,G,(G.length:Int),0),M,())=some (((l2,l),L,m,i),G.foldl insB M,()):=by
 have e:G.foldl insB M=(G.take G.length).foldl insB M:=by rw [List.take_length]
 rw [e]
 refine lim_all (fun j:Nat=>(((l2,l),L,m,i,G,(G.length:Int),(j:Int)),(G.take j).foldl insB M,())) G.length (fun j hj=>?_) ?_
 ·have hy:=List.getElem?_eq_getElem hj
  rw [sl_g21b]
  have ht:G.take (j+1)=G.take j ++ [G[j]]:=by rw [List.take_add_one,hy];rfl
  rw [ht]
  generalize G[j]=g at hy
  simp only [Int.toNat_natCast,Nat.zero_add,str_at hy,ns0,decF_encF,decN_encN,wi j (by omega),putB]
  refine br_t (decide_eq_true (by omega)) (chk_step (decide_eq_true (by omega)) ?_)
  rw [List.foldl_append];rfl
 ·rw [sl_g21b]
  simp only [Nat.zero_add,decN_encN,decF_encF]
  exact br_f (decide_eq_false (by omega)) rfl
theorem L_g21_eq (l l2:List Rul) (hc:checkT l=0) (M:List (Str × Bool)):L_g21 (((l2,l),l,(l.length:Int),0),M,())=some (((l2,l),()),(l.flatMap (·.grades)).foldl insB M,()):=by
 obtain ⟨hl,hr⟩:=checkT_ok hc
 have e:(l.flatMap (·.grades)).foldl insB M=((l.take l.length).flatMap (·.grades)).foldl insB M:=by rw [List.take_length]
 rw [e]
 refine lim_all (fun i:Nat=>(((l2,l),l,(l.length:Int),(i:Int)),((l.take i).flatMap (·.grades)).foldl insB M,())) l.length (fun i hi=>?_) ?_
 ·have hy:=List.getElem?_eq_getElem hi
  have hg:=(hr l[i] (List.getElem_mem hi)).1.2
  rw [sl_g21]
  have ht:l.take (i+1)=l.take i ++ [l[i]]:=by rw [List.take_add_one,hy];rfl
  rw [ht]
  generalize l[i]=r at hy hg
  simp only [Int.toNat_natCast,Nat.zero_add,rul_at hy,nr2,so_rd,decN_encN,decF_encF]
  simp only [so_len,cl (show r.grades.length≤1000000 by omega)]
  refine br_t (decide_eq_true (by omega)) (chk_step (decide_eq_true (by omega)) (obs_step (L_g21b_eq l l2 _ _ l r.grades (by omega) _) ?_))
  simp only [wi i (by omega)]
  rw [List.flatMap_append,List.foldl_append]
  show some _=some _
  simp only [List.flatMap_cons,List.flatMap_nil,List.append_nil]
 ·rw [sl_g21]
  simp only [Nat.zero_add,decN_encN,decF_encF]
  exact br_f (decide_eq_false (by omega)) rfl
theorem grs_okL {l:List Rul} (h:checkT l=0):(∀ s ∈ l.flatMap (·.grades),s.length≤1000000)∧(l.flatMap (·.grades)).length≤240:=by
 obtain ⟨h1,h2⟩:=checkT_ok h
 refine ⟨fun s hs=>?_,?_⟩
 ·obtain ⟨r,hr,hg⟩:=List.mem_flatMap.1 hs
  have:=(rul_short (h2 r hr)).2 s hg
  omega
 ·have key:∀ L:List Rul,(∀ r ∈ L,rulOk r)→(L.flatMap (·.grades)).length≤8 * L.length:=by
   intro L
   induction L with
   | nil=>intro _;simp
   | cons r L ih=>
    intro hL
    have:=ih fun r hr=>hL r (List.mem_cons_of_mem _ hr)
    have h8:=(hL r (List.mem_cons_self ..)).1.2
    rw [List.flatMap_cons,List.length_append,List.length_cons];omega
  have:=key l h2
  omega
theorem g1_ok (a:List Rul) (r:List Str) (h:(T.chk (decide (checkT a=0)) (.ret (gradesT a))).run=some r):freshT1 P BTD67 30 113 9 D_d1 rStr a=some r:=by
 obtain ⟨g,e⟩:=chk_ret h
 subst e
 have g:=of_decide_eq_true g
 have hl:=(checkT_ok g).1
 obtain ⟨o1,o2⟩:=grs_okL g
 obtain ⟨k1,k2⟩:=insB_ok (L:=a.flatMap (·.grades)) (by omega) o1
 rw [fn_g1]
 simp only [Nat.zero_add,decN_encN,decF_encF,cl (show a.length≤1000000 by omega),nilB]
 refine obs_step (L_g1_eq a g []) ?_
 refine chk_step (decide_eq_true k1) ?_
 show some (setS (keysB _))=_
 rw [k2];rfl
theorem g2_ok (a:List Rul × List Rul) (r:List Str) (h:(T.chk (decide (checkT a.1=0∧checkT a.2=0)) (.ret (setS (a.1.flatMap (·.grades) ++ a.2.flatMap (·.grades))))).run=some r):freshT1 P BTD67 30 113 9 D_d2 rStr a=some r:=by
 obtain ⟨g,e⟩:=chk_ret h
 subst e
 obtain ⟨a,b⟩:=a
 obtain ⟨g1,g2⟩:=of_decide_eq_true g
 simp only at g1 g2
 have hl1:=(checkT_ok g1).1
 have hl2:=(checkT_ok g2).1
 obtain ⟨o1,o2⟩:=grs_okL g1
 obtain ⟨o3,o4⟩:=grs_okL g2
 obtain ⟨k1,k2⟩:=insB_ok (L:=a.flatMap (·.grades) ++ b.flatMap (·.grades)) (by rw [List.length_append];omega) (fun s hs=>(List.mem_append.1 hs).elim (o1 s) (o3 s))
 rw [List.foldl_append] at k1 k2
 rw [fn_g2]
 simp only [Nat.zero_add,decN_encN,decF_encF,cl (show a.length≤1000000 by omega),nilB]
 refine obs_step (L_g20_eq a b g1 []) ?_
 simp only [cl (show b.length≤1000000 by omega)]
 refine obs_step (L_g21_eq b a g2 _) ?_
 refine chk_step (decide_eq_true k1) ?_
 show some (setS (keysB _))=_
 rw [k2]
def gradesAB' (a:List Rul × List Rul):List Str:=setS (a.1.flatMap (·.grades) ++ a.2.flatMap (·.grades))
end K
noncomputable def BTD71:Tab:=BTD67.addTurn 113 (freshE 9 D_d1 rStr (fun a=>.chk (decide (K.checkT a=0)) (.ret (K.gradesT a))))
theorem tTD71:TabOk P BTD71:=TabOk.addFC tTD67 (D:=D_d1) (R:=rStr) (M:=(fun a=>.chk (decide (K.checkT a=0)) (.ret (K.gradesT a)))) (fun a r h=>fresh_of (d:=30) okP tTD67 (K.g1_ok a r h))
noncomputable def BTD72:Tab:=BTD71.addTurn 113 (freshE 9 D_d2 rStr (fun a=>.chk (decide (K.checkT a.1=0∧K.checkT a.2=0)) (.ret (K.gradesAB' a))))
theorem tTD72:TabOk P BTD72:=TabOk.addFC tTD71 (D:=D_d2) (R:=rStr) (M:=(fun a=>.chk (decide (K.checkT a.1=0∧K.checkT a.2=0)) (.ret (K.gradesAB' a)))) (fun a r h=>fresh_of (d:=30) okP tTD67 (K.g2_ok a r h))
end Go.Proofs.YtkpligkggnjcoaaGreatDoor
/-! TF1 -/
namespace Go.Proofs.YtkpligkggnjcoaaGreatDoor
open Ev K
set_option maxRecDepth 100000
def lS1:DecL Str:=.last dS 0
def lI1:DecL Int:=.last dInt 0
def lB1:DecL Bool:=.last dB 0
def O_sm:DecB (List Rul × List Rul × Spn × Str × Str × Int × Bool × Str × Str × List Str × List Str × Unit):=.flat 25 lTar (.flat 25 lTar (.flat 53 lSpn (.flat 9 lS1 (.flat 9 lS1 (.flat 3 lI1 (.flat 4 lB1 (.flat 9 lS1 (.flat 9 lS1 (.rows 9 rStr (.rows 9 rStr .nil))))))))))
def S_sm:=DecS.mk0 (.skips 3 (.unit (dLp 0 0 0 0) (.unit (dLp 1 0 0 0) (.unit (dLp 2 0 0 0) (.unit (dLp 3 0 0 0) (.unit (dLp 4 0 0 0) (.unit (dLp 5 0 0 0) (.unit (dLp 6 0 0 0) (.skip (.unit (dLp 7 0 0 0) (.skip (.unit (dLp 8 0 0 0) (.skips 4 (.cons (dO 9) (.cons (dInt) (.cons (dInt) (.skips 8 (.cons (dO 10) (.cons (dInt) (.cons (dInt) (.skips 4 (.last (R_ea) 21)))))))))))))))))))))) O_sm
def O_sx:DecB (Str × Str × Int × Bool × Unit):=.flat 9 lS1 (.flat 9 lS1 (.flat 3 lI1 (.flat 4 lB1 .nil)))
def X_sm:=DecX.one (.exit 0) [6,7,8,9] (DecS.mk0 (.skips 6 (.unit (dLp 0 0 0 0) (.unit (dLp 1 0 0 0) (.unit (dLp 2 0 0 0) (.unit (dLp 3 0 0 0) (.tops 48)))))) O_sx)
noncomputable def K.st_sm:=rangeT1 P BTD72 30 91 73 [36,6,7,8,9,11,4,3,5,29,18,19,20,30,31,13] S_sm X_sm eInt
theorem rg_sm:∀ s x,(K.st_sm) s x=T.run (
 let q1:=s.2.2.2.2.2.2.2.2.2.1;
 let q2:=s.2.2.2.2.2.2.2.2.1;
 let q3:=List.length s.2.2.1;
 let q4:=List.length s.2.1;
 let q5:=(0:Nat);
  .chk (decide (penOk (decN nRul q4 fun i=>encN nRul s.2.1 (q5+i),q2,q1,x))) <|
  .chk (decide (penOk (decN nRul q3 fun i=>encN nRul s.2.2.1 (q5+i),q2,q1,x))) <|
  .br (penceL (decN nRul q4 fun i=>encN nRul s.2.1 (q5+i)) q2 q1 x != penceL (decN nRul q3 fun i=>encN nRul s.2.2.1 (q5+i)) q2 q1 x) (
    .ret (Sum.inr (PUnit.unit,q2,q1,x,false,PUnit.unit))) (
    .ret (Sum.inl (s.1,decN nRul q4 fun i=>encN nRul s.2.1 (q5+i),decN nRul q3 fun i=>encN nRul s.2.2.1 (q5+i),s.2.2.2.1,s.2.2.2.2.1,s.2.2.2.2.2.1,s.2.2.2.2.2.2.1,s.2.2.2.2.2.2.2.1,q2,q1,decF rStr (List.length s.2.2.2.2.2.2.2.2.2.2.1) (encF rStr s.2.2.2.2.2.2.2.2.2.2.1),decF rStr (List.length s.2.2.2.2.2.2.2.2.2.2.2.1) (encF rStr s.2.2.2.2.2.2.2.2.2.2.2.1),PUnit.unit)))):=fun s x=>by kernel_rfl
end Go.Proofs.YtkpligkggnjcoaaGreatDoor
/-! TF2 -/
namespace Go.Proofs.YtkpligkggnjcoaaGreatDoor
open Ev K
set_option maxRecDepth 100000
namespace K
abbrev smT:=(Nat × Int × Int × Nat × Int × Int × Spn) × List Rul × List Rul × Spn × Str × Str × Int × Bool × Str × Str × List Str × List Str × Unit
def smM (s:smT):Option Int:=firstD s.2.1 s.2.2.1 s.1.2.2.2.2.2.2.lo s.1.2.2.2.2.2.2.hi s.2.2.2.2.2.2.2.2.1 s.2.2.2.2.2.2.2.2.2.1
def smOk (s:smT):Prop:=(checkT s.2.1=0∧checkT s.2.2.1=0)∧spanL s.1.2.2.2.2.2.2=0
instance (s:smT):Decidable (smOk s):=by unfold smOk;infer_instance
theorem fold_sm (s:smT) (h1:checkT s.2.1=0) (h2:checkT s.2.2.1=0):∀ M:List Int,(∀ x ∈ M,0≤x∧x≤65536) →
  foldS st_sm M s=some (match M.find? fun m=>penceL s.2.1 s.2.2.2.2.2.2.2.2.1 s.2.2.2.2.2.2.2.2.2.1 m != penceL s.2.2.1 s.2.2.2.2.2.2.2.2.1 s.2.2.2.2.2.2.2.2.2.1 m with
   | some m=>.inr ((),s.2.2.2.2.2.2.2.2.1,s.2.2.2.2.2.2.2.2.2.1,m,false,())
   | none=>.inl s):=by
 intro M
 induction M with
 | nil=>intro _;rfl
 | cons x M ih=>
  intro hM
  have hx:=hM x (List.mem_cons_self ..)
  have e:st_sm s x=some (if penceL s.2.1 s.2.2.2.2.2.2.2.2.1 s.2.2.2.2.2.2.2.2.2.1 x != penceL s.2.2.1 s.2.2.2.2.2.2.2.2.1 s.2.2.2.2.2.2.2.2.2.1 x then .inr ((),s.2.2.2.2.2.2.2.2.1,s.2.2.2.2.2.2.2.2.2.1,x,false,()) else .inl s):=by
   rw [rg_sm]
   simp only [Nat.zero_add,decN_encN,decF_encF]
   refine chk_step (decide_eq_true ⟨h1,hx⟩) (chk_step (decide_eq_true ⟨h2,hx⟩) ?_)
   by_cases hp:(penceL s.2.1 s.2.2.2.2.2.2.2.2.1 s.2.2.2.2.2.2.2.2.2.1 x != penceL s.2.2.1 s.2.2.2.2.2.2.2.2.1 s.2.2.2.2.2.2.2.2.2.1 x)=true
   ·rw [if_pos hp];exact br_t hp rfl
   ·rw [if_neg hp];exact br_f (Bool.eq_false_iff.2 hp) rfl
  simp only [foldS,e]
  by_cases hp:(penceL s.2.1 s.2.2.2.2.2.2.2.2.1 s.2.2.2.2.2.2.2.2.2.1 x != penceL s.2.2.1 s.2.2.2.2.2.2.2.2.1 s.2.2.2.2.2.2.2.2.2.1 x)=true
  ·rw [if_pos hp,List.find?_cons_of_pos (l:=M) (p:=fun m=>penceL s.2.1 s.2.2.2.2.2.2.2.2.1 s.2.2.2.2.2.2.2.2.2.1 m != penceL s.2.2.1 s.2.2.2.2.2.2.2.2.1 s.2.2.2.2.2.2.2.2.2.1 m) hp]
  ·rw [if_neg hp,List.find?_cons_of_neg (l:=M) (p:=fun m=>penceL s.2.1 s.2.2.2.2.2.2.2.2.1 s.2.2.2.2.2.2.2.2.2.1 m != penceL s.2.2.1 s.2.2.2.2.2.2.2.2.1 s.2.2.2.2.2.2.2.2.2.1 m) hp]
   exact ih fun y hy=>hM y (List.mem_cons_of_mem _ hy)
theorem chk_of {ρ:Type} {p:Prop} [Decidable p] {t:T ρ} {r:ρ} (h:(T.chk (decide p) t).run=some r):p:=by
 by_cases hp:p
 ·exact hp
 ·rw [decide_eq_false hp] at h;cases h
theorem sm_ok (s:smT) (r) (h:(T.chk (decide (smOk s)) (.br (smM s).isSome (.ret (.inr ((),s.2.2.2.2.2.2.2.2.1,s.2.2.2.2.2.2.2.2.2.1,(smM s).getD 0,false,()))) (.ret (.inl s)))).run=some r) :
  foldS st_sm (masses s.1.2.2.2.2.2.2.lo s.1.2.2.2.2.2.2.hi) s=some r:=by
 by_cases hk:decide (smOk s)=true
 ·have g:=of_decide_eq_true hk
  obtain ⟨⟨g1,g2⟩,g4⟩:=g
  obtain ⟨b1,b2,b3,b4⟩:=span_ok g4
  rw [fold_sm s g1 g2 _ (fun x hx=>by have:=masses_in hx;omega)]
  have h2:=(chk_step (t:=.br (smM s).isSome (.ret (Sum.inr ((),s.2.2.2.2.2.2.2.2.1,s.2.2.2.2.2.2.2.2.2.1,(smM s).getD 0,false,()))) (.ret (Sum.inl s))) hk rfl).symm.trans h
  rw [← h2]
  show some (match smM s with | some m=>_ | none=>_)=_
  cases smM s<;>rfl
 ·have:(T.chk (decide (smOk s)) (.br (smM s).isSome (.ret (Sum.inr ((),s.2.2.2.2.2.2.2.2.1,s.2.2.2.2.2.2.2.2.2.1,(smM s).getD 0,false,()))) (.ret (Sum.inl s)))).run=none:=by
   rw [Bool.eq_false_iff.2 hk];rfl
  rw [this] at h;cases h
end K
noncomputable def BTF21:Tab:=BTD72.addNode 91 73 (rangeE [36,6,7,8,9,11,4,3,5,29,18,19,20,30,31,13] S_sm X_sm (fun s=>.chk (decide (K.smOk s)) (.br (K.smM s).isSome (.ret (.inr ((),s.2.2.2.2.2.2.2.2.1,s.2.2.2.2.2.2.2.2.2.1,(K.smM s).getD 0,false,()))) (.ret (.inl s)))))
theorem tTF21:TabOk P BTF21:=TabOk.addRange (d:=30) (enc:=eInt) (L:=(fun s=>K.masses s.1.2.2.2.2.2.2.lo s.1.2.2.2.2.2.2.hi)) okP tTD72 (by kernel_rfl) (by kernel_rfl) (fun s r h=>⟨_,_,_,(by kernel_rfl:_=some (165,[],V_ea.enc s.1.2.2.2.2.2.2)),by have b:=K.span_ok (K.chk_of h).2;exact icl_ea _ b.1 b.2.2.1⟩) (fun s r h=>K.sm_ok s r h)
def O_s2:DecB (List Rul × List Rul × Spn × Str × Str × Int × Bool × Str × List Str × List Str × Unit):=.flat 25 lTar (.flat 25 lTar (.flat 53 lSpn (.flat 9 lS1 (.flat 9 lS1 (.flat 3 lI1 (.flat 4 lB1 (.flat 9 lS1 (.rows 9 rStr (.rows 9 rStr .nil)))))))))
def O_s1:DecB (List Rul × List Rul × Spn × Str × Str × Int × Bool × List Str × Unit):=.flat 25 lTar (.flat 25 lTar (.flat 53 lSpn (.flat 9 lS1 (.flat 9 lS1 (.flat 3 lI1 (.flat 4 lB1 (.rows 9 rStr .nil)))))))
def S_s2:=DecS.mk0 (.skips 3 (.unit (dLp 0 0 0 0) (.unit (dLp 1 0 0 0) (.unit (dLp 2 0 0 0) (.unit (dLp 3 0 0 0) (.unit (dLp 4 0 0 0) (.unit (dLp 5 0 0 0) (.unit (dLp 6 0 0 0) (.skip (.unit (dLp 7 0 0 0) (.skips 6 (.cons (dO 8) (.cons (dInt) (.cons (dInt) (.skips 8 (.cons (dO 9) (.cons (dInt) (.last (dInt) 26)))))))))))))))))) O_s2
def X_s2:=DecX.or (DecX.one (.exit 2) [6,7,8,9,4,3,5,18,19,20] (DecS.mk0 (.skips 3 (.unit (dLp 0 0 0 0) (.unit (dLp 1 0 0 0) (.unit (dLp 2 0 0 0) (.unit (dLp 3 0 0 0) (.unit (dLp 4 0 0 0) (.unit (dLp 5 0 0 0) (.unit (dLp 6 0 0 0) (.skips 8 (.cons (dO 7) (.cons (dInt) (.last (dInt) 37)))))))))))) O_s1)) X_sm
noncomputable def K.st_s2:=loopT1 P BTF21 30 91 49 [31,6,7,8,9,11,4,3,5,29,18,19,20,30] S_s2 X_s2
theorem sl_s2:∀ s,(K.st_s2) s=T.run (
 let q6:=s.1.2.2.2.2.2;
 let q11:=List.length s.2.1;
 let q10:=List.length s.2.2.1;
 let q13:=s.2.2.2.2.2.2.2.1;
 let q12:=s.2.2.2.2.2.2.2.2.1;
 let q2:=s.2.2.2.2.2.2.2.2.2.2.1;
 let q9:=encF rStr q2 (Int.toNat q6) (0:Nat);
 let q3:=s.2.2.2.2.2.2.2.2.2.1;
 let q1:=((s.1.1,s.1.2.1,s.1.2.2.1,s.1.2.2.2.1,s.1.2.2.2.2.1,q6,s.2.2.2.1),decN nRul q11 fun i=>encN nRul s.2.1 ((0:Nat)+i),decN nRul q10 fun i=>encN nRul s.2.2.1 ((0:Nat)+i),s.2.2.2.1,s.2.2.2.2.1,s.2.2.2.2.2.1,s.2.2.2.2.2.2.1,q13,q12,textOf q9,decF rStr (List.length q3) (encF rStr q3),decF rStr (List.length q2) (encF rStr q2),PUnit.unit);
 let q4:=decN nRul q10 fun i=>encN nRul s.2.2.1 ((0:Nat)+i);
 let q5:=decN nRul q11 fun i=>encN nRul s.2.1 ((0:Nat)+i);
 let q7:=decF rStr (List.length q3) (encF rStr q3);
 let q8:=decF rStr (List.length q2) (encF rStr q2);
  .br (decide (q6<s.1.2.2.2.2.1)) (
    .chk (decide ((0:Int)≤q6∧q6<(↑s.1.2.2.2.1:Int))) <|
    .chk (decide (smOk q1)) <|
    .br (match smM q1 with
| some _val=>true
| none=>false) (
      .ret (Sum.inr (Sum.inr (PUnit.unit,q12,textOf q9,Option.getD (smM q1) (0:Int),false,PUnit.unit)))) (
      .ret (Sum.inl ((s.1.1,s.1.2.1,s.1.2.2.1,s.1.2.2.2.1,s.1.2.2.2.2.1,IntKind.wrap IntKind.i64 (q6+(1:Int))),decN nRul (List.length q5) fun i=>encN nRul q5 ((0:Nat)+i),decN nRul (List.length q4) fun i=>encN nRul q4 ((0:Nat)+i),s.2.2.2.1,s.2.2.2.2.1,s.2.2.2.2.2.1,s.2.2.2.2.2.2.1,q13,q12,decF rStr (List.length q7) (encF rStr q7),decF rStr (List.length q8) (encF rStr q8),PUnit.unit)))) (
    .ret (Sum.inr (Sum.inl ((s.1.1,s.1.2.1,s.1.2.2.1),decN nRul q11 fun i=>encN nRul s.2.1 ((0:Nat)+i),decN nRul q10 fun i=>encN nRul s.2.2.1 ((0:Nat)+i),s.2.2.2.1,s.2.2.2.2.1,s.2.2.2.2.2.1,s.2.2.2.2.2.2.1,q13,decF rStr (List.length q3) (encF rStr q3),PUnit.unit))))):=fun s=>by kernel_rfl
end Go.Proofs.YtkpligkggnjcoaaGreatDoor
/-! TF3 -/
namespace Go.Proofs.YtkpligkggnjcoaaGreatDoor
open Ev K
set_option maxRecDepth 100000
namespace K
theorem findSome_map {α β γ:Type} (f:α→β) (g:β→Option γ):∀ l:List α,(l.map f).findSome? g=l.findSome? fun a=>g (f a)
 | []=>rfl
 | a :: l=>by rw [List.map_cons,List.findSome?_cons,List.findSome?_cons,findSome_map f g l]
theorem range_findSome {α β:Type} (f:α→Option β):∀ l:List α,((List.range l.length).findSome? fun i=>(l[i]?).bind f)=l.findSome? f
 | []=>rfl
 | a :: l=>by
  rw [List.length_cons,List.range_succ_eq_map,List.findSome?_cons,List.findSome?_cons,findSome_map]
  have ih:=range_findSome f l
  simp only [List.getElem?_cons_zero,Option.bind_some,List.getElem?_cons_succ]
  rw [ih]
noncomputable def L_s2:=lim st_s2
def gAt (A B:List Rul) (sp:Spn) (due:Str) (g:Str):Option (Str × Int):=(firstD A B sp.lo sp.hi due g).map fun m=>(g,m)
theorem L_s2_eq (A B:List Rul) (sp:Spn) (due:Str) (gs ds:List Str) (hA:checkT A=0) (hB:checkT B=0) (hs:spanL sp=0) (hg:gs.length≤1000000) (nd:Nat) (n i:Int) (x6 x7:Str) (x8:Int) (x9:Bool) :
  L_s2 ((nd,n,i,gs.length,(gs.length:Int),0),A,B,sp,x6,x7,x8,x9,due,ds,gs,())=some (orr (fun q:Str × Int=>.inr ((),due,q.1,q.2,false,())) (.inl ((nd,n,i),A,B,sp,x6,x7,x8,x9,ds,())) (gs.findSome? (gAt A B sp due))):=by
 rw [← range_findSome]
 refine lim_err (fun j:Nat=>((nd,n,i,gs.length,(gs.length:Int),(j:Int)),A,B,sp,x6,x7,x8,x9,due,ds,gs,())) gs.length (fun j=>(gs[j]?).bind (gAt A B sp due)) (fun q:Str × Int=>Sum.inr ((),due,q.1,q.2,false,())) (Sum.inl ((nd,n,i),A,B,sp,x6,x7,x8,x9,ds,())) (fun j hj=>?_) ?_
 ·have hx:=List.getElem?_eq_getElem hj
  generalize gs[j]=g at hx
  rw [sl_s2,hx]
  simp only [Nat.zero_add,decF_encF,decN_encN,Int.toNat_natCast,str_at hx,Option.bind_some]
  refine br_t (decide_eq_true (by omega)) (chk_step (decide_eq_true (by omega)) (chk_step (decide_eq_true ⟨⟨hA,hB⟩,hs⟩) ?_))
  unfold smM gAt
  simp only [show textOf (rStr.wr g 0)=g from rfl]
  cases firstD A B sp.lo sp.hi due g with
  | none=>refine br_f rfl ?_;rw [wi j (by omega)];rfl
  | some m=>exact br_t rfl rfl
 ·rw [sl_s2]
  simp only [Nat.zero_add,decF_encF,decN_encN]
  exact br_f (decide_eq_false (by omega)) rfl
end K
noncomputable def BTF31:Tab:=BTF21.addNode 91 49 (nodeE [31,6,7,8,9,11,4,3,5,29,18,19,20,30] S_s2 X_s2 (fun s=>.obs (K.L_s2 s) .ret))
theorem tTF31:TabOk P BTF31:=TabOk.addLoop (d:=30) okP tTF21 (by kernel_rfl) (by kernel_rfl) (fun s r h=>obs_ret h)
def S_s1:=DecS.mk0 (.skips 3 (.unit (dLp 0 0 0 0) (.unit (dLp 1 0 0 0) (.unit (dLp 2 0 0 0) (.unit (dLp 3 0 0 0) (.unit (dLp 4 0 0 0) (.unit (dLp 5 0 0 0) (.unit (dLp 6 0 0 0) (.skips 8 (.cons (dO 7) (.cons (dInt) (.last (dInt) 37)))))))))))) O_s1
noncomputable def K.st_s1:=loopT1 P BTF31 30 91 25 [6,7,8,9,4,3,5,20,18,19] S_s1 X_sm
theorem sl_s1:∀ s,(K.st_s1) s=T.run (
 let q4:=List.length s.2.1;
 let q3:=List.length s.2.2.1;
 let q1:=gradesAB' (decN nRul q4 fun i=>encN nRul s.2.1 (nat_lit 0+i),decN nRul q3 fun i=>encN nRul s.2.2.1 (nat_lit 0+i));
 let q2:=(1:Nat)+List.length q1;
 let q5:=s.2.2.2.2.2.2.2.2.1;
  .br (decide (s.1.2.2<s.1.2.1)) (
    .chk (decide ((0:Int)≤s.1.2.2∧s.1.2.2<(↑s.1.1:Int))) <|
    .chk (decide (checkT (decN nRul q4 fun i=>encN nRul s.2.1 (nat_lit 0+i))=(0:Int)∧checkT (decN nRul q3 fun i=>encN nRul s.2.2.1 (nat_lit 0+i))=(0:Int))) <|
    .chk (decide (q2 * (16:Nat)≤(140737488355328:Nat)∧(1:Nat)+List.length q1≤nat_lit 9223372036854775807)) <|
    .obs (L_s2 ((s.1.1,s.1.2.1,s.1.2.2,(1:Nat)+List.length q1,(↑q2:Int),(0:Int)),decN nRul q4 fun i=>encN nRul s.2.1 ((0:Nat)+i),decN nRul q3 fun i=>encN nRul s.2.2.1 ((0:Nat)+i),s.2.2.2.1,s.2.2.2.2.1,s.2.2.2.2.2.1,s.2.2.2.2.2.2.1,s.2.2.2.2.2.2.2.1,textOf (encF rStr q5 (Int.toNat s.1.2.2) (0:Nat)),decF rStr (List.length q5) (encF rStr q5),decF rStr q2 (appG (1:Nat) (fun _x _x_1=>AV.str []) (encF rStr q1)),PUnit.unit)) fun x0=>
      .sum (x0) (fun x1=>
        .ret (Sum.inl ((x1.1.1,x1.1.2.1,IntKind.wrap IntKind.i64 (x1.1.2.2+(1:Int))),decN nRul (List.length x1.2.1) fun i=>encN nRul x1.2.1 ((0:Nat)+i),decN nRul (List.length x1.2.2.1) fun i=>encN nRul x1.2.2.1 ((0:Nat)+i),x1.2.2.2.1,x1.2.2.2.2.1,x1.2.2.2.2.2.1,x1.2.2.2.2.2.2.1,x1.2.2.2.2.2.2.2.1,decF rStr (List.length x1.2.2.2.2.2.2.2.2.1) (encF rStr x1.2.2.2.2.2.2.2.2.1),PUnit.unit))) (fun x1=>
        .ret (Sum.inr (PUnit.unit,x1.2.1,x1.2.2.1,x1.2.2.2.1,x1.2.2.2.2.1,PUnit.unit)))) (
    .ret (Sum.inr (PUnit.unit,s.2.2.2.2.1,s.2.2.2.2.2.1,s.2.2.2.2.2.2.1,s.2.2.2.2.2.2.2.1,PUnit.unit)))):=fun s=>by kernel_rfl
end Go.Proofs.YtkpligkggnjcoaaGreatDoor
/-! TF4 -/
namespace Go.Proofs.YtkpligkggnjcoaaGreatDoor
open Ev K
set_option maxRecDepth 100000
namespace K
noncomputable def L_s1:=lim st_s1
theorem consG (l:List Str):decF rStr (1+l.length) (appG 1 (fun _ _=>AV.str []) (encF rStr l))=[] :: l:=by
 have e:decF rStr (1+l.length) (appG 1 (fun _ _=>AV.str []) (encF rStr l))=decF rStr (1+l.length) (appG 1 (encF rStr [([]:Str)]) (encF rStr l)):=by
  unfold decF
  refine List.map_congr_left fun i _=>?_
  cases i with
  | zero=>rfl
  | succ i=>rfl
 exact e.trans ((decF_app rStr [([]:Str)] l.length (encF rStr l)).trans (by rw [decF_encF];rfl))
theorem gradesAB_eq (A B:List Rul):gradesAB A B=[] :: gradesAB' (A,B):=rfl
theorem setS_le (l:List Str):(setS l).length≤l.length:=by
 have h2:∀ (s:Str) (acc:List Str),(putS acc s).length≤acc.length+1:=by
  intro s acc
  induction acc with
  | nil=>exact Nat.le_refl _
  | cons y ys ih=>
   simp only [putS]
   split
   ·simp only [List.length_cons];omega
   ·split<;>simp only [List.length_cons]<;>omega
 have key:∀ (L acc:List Str),(L.foldl putS acc).length≤acc.length+L.length:=by
  intro L
  induction L with
  | nil=>intro acc;simp
  | cons s L ih=>
   intro acc
   have h1:=ih (putS acc s)
   have h3:=h2 s acc
   rw [List.foldl_cons,List.length_cons];omega
 have:=key l []
 simpa [setS] using this
theorem gradesAB_len (A B:List Rul) (hA:checkT A=0) (hB:checkT B=0):(gradesAB' (A,B)).length≤1000:=by
 have h1:=(grs_okL hA).2
 have h2:=(grs_okL hB).2
 have h3:=setS_le (A.flatMap (·.grades) ++ B.flatMap (·.grades))
 rw [List.length_append] at h3
 exact Nat.le_trans h3 (by omega)
def dAt (A B:List Rul) (sp:Spn) (due:Str):Option (Str × Str × Int):=((gradesAB A B).findSome? (gAt A B sp due)).map fun q=>(due,q.1,q.2)
theorem L_s1_eq (A B:List Rul) (sp:Spn) (ds:List Str) (hA:checkT A=0) (hB:checkT B=0) (hs:spanL sp=0) (hd:ds.length≤1000000) (x6 x7:Str) (x8:Int) (x9:Bool) :
  L_s1 ((ds.length,(ds.length:Int),0),A,B,sp,x6,x7,x8,x9,ds,())=some (orr (fun q:Str × Str × Int=>((),q.1,q.2.1,q.2.2,false,())) ((),x6,x7,x8,x9,()) (ds.findSome? (dAt A B sp))):=by
 rw [← range_findSome]
 refine lim_err (fun j:Nat=>((ds.length,(ds.length:Int),(j:Int)),A,B,sp,x6,x7,x8,x9,ds,())) ds.length (fun j=>(ds[j]?).bind (dAt A B sp)) (fun q:Str × Str × Int=>((),q.1,q.2.1,q.2.2,false,())) ((),x6,x7,x8,x9,()) (fun j hj=>?_) ?_
 ·have hx:=List.getElem?_eq_getElem hj
  generalize ds[j]=due at hx
  have hl:=gradesAB_len A B hA hB
  rw [sl_s1,hx]
  simp only [Nat.zero_add,decF_encF,decN_encN,Int.toNat_natCast,str_at hx,Option.bind_some,show textOf (rStr.wr due 0)=due from rfl,consG]
  refine br_t (decide_eq_true (by omega)) (chk_step (decide_eq_true (by omega)) (chk_step (decide_eq_true ⟨hA,hB⟩) (chk_step (decide_eq_true (by omega)) ?_)))
  have h:=L_s2_eq A B sp due (gradesAB A B) ds hA hB hs (by rw [gradesAB_eq,List.length_cons];omega) ds.length (ds.length:Int) (j:Int) x6 x7 x8 x9
  have e:(gradesAB A B).length=1+(gradesAB' (A,B)).length:=by rw [gradesAB_eq,List.length_cons];omega
  rw [e] at h
  refine obs_step h ?_
  unfold dAt
  cases (gradesAB A B).findSome? (gAt A B sp due) with
  | none=>refine (T.run_inl _ _ _).trans ?_;rw [wi j (by omega)];rfl
  | some m=>exact (T.run_inr _ _ _).trans rfl
 ·rw [sl_s1]
  simp only [Nat.zero_add,decF_encF,decN_encN]
  exact br_f (decide_eq_false (by omega)) rfl
theorem dAt_eq (A B:List Rul) (sp:Spn):(duesAB A B).findSome? (dAt A B sp)=differL A B sp.lo sp.hi:=by
 unfold differL
 congr 1
 funext d
 unfold dAt gAt
 generalize gradesAB A B=G
 induction G with
 | nil=>rfl
 | cons g G ih=>
  rw [List.findSome?_cons,List.findSome?_cons]
  cases firstD A B sp.lo sp.hi d g with
  | none=>exact ih
  | some m=>rfl
end K
noncomputable def BTF41:Tab:=BTF31.addNode 91 25 (nodeE [6,7,8,9,4,3,5,20,18,19] S_s1 X_sm (fun s=>.obs (K.L_s1 s) .ret))
theorem tTF41:TabOk P BTF41:=TabOk.addLoop (d:=30) okP tTF31 (by kernel_rfl) (by kernel_rfl) (fun s r h=>obs_ret h)
def D_sm:=DecL.cons dTar (.cons dTar (.last dSpn 0))
def R_sm:=dTup (.cons dS (.cons dS (.cons dInt (.last dB 0))))
theorem fn_sm:∀ a,(callT1 P BTF41 30 91 D_sm R_sm) a=T.run (
 let q3:=decN nRul (List.length a.1) fun i=>encN nRul a.1 (nat_lit 0+i);
 let q2:=decN nRul (List.length a.2.1) fun i=>encN nRul a.2.1 (nat_lit 0+i);
 let q1:=duesAB q3 q2;
  .chk (decide (checkT q3=(0:Int)∧checkT q2=(0:Int))) <|
  .obs (L_s1 ((List.length q1,(↑(List.length q1):Int),(0:Int)),decN nRul (List.length a.1) fun i=>encN nRul a.1 ((0:Nat)+i),decN nRul (List.length a.2.1) fun i=>encN nRul a.2.1 ((0:Nat)+i),a.2.2,[],[],(0:Int),true,decF rStr (List.length q1) (encF rStr q1),PUnit.unit)) fun x0=>
    .ret ((x0.2.1,x0.2.2.1,x0.2.2.2.1,x0.2.2.2.2.1))):=fun a=>by kernel_rfl
end Go.Proofs.YtkpligkggnjcoaaGreatDoor
/-! TF5 -/
namespace Go.Proofs.YtkpligkggnjcoaaGreatDoor
open Ev K
set_option maxRecDepth 100000
namespace K
def difV:Option (Str × Str × Int)→Str × Str × Int × Bool
 | none=>([],[],0,true)
 | some (d,g,m)=>(d,g,m,false)
def sm1Ok (a:List Rul × List Rul × Spn):Prop:=(checkT a.1=0∧checkT a.2.1=0)∧spanL a.2.2=0
instance (a:List Rul × List Rul × Spn):Decidable (sm1Ok a):=by unfold sm1Ok;infer_instance
theorem duesAB_len (A B:List Rul) (hA:checkT A=0) (hB:checkT B=0):(duesAB A B).length≤1000:=by
 have h3:=setS_le (A.map (·.due) ++ B.map (·.due))
 have h1:=(checkT_ok hA).1
 have h2:=(checkT_ok hB).1
 rw [List.length_append,List.length_map,List.length_map] at h3
 exact Nat.le_trans h3 (by omega)
theorem same_ok (a:List Rul × List Rul × Spn) (r) (h:(T.chk (decide (sm1Ok a)) (.ret (difV (differL a.1 a.2.1 a.2.2.lo a.2.2.hi)))).run=some r):callT1 P BTF41 30 91 D_sm R_sm a=some r:=by
 obtain ⟨g,e⟩:=chk_ret h
 subst e
 obtain ⟨⟨g1,g2⟩,g3⟩:=of_decide_eq_true g
 obtain ⟨A,B,sp⟩:=a
 simp only at g1 g2 g3
 have hl:=duesAB_len A B g1 g2
 rw [fn_sm]
 simp only [Nat.zero_add,decF_encF,decN_encN]
 refine chk_step (decide_eq_true ⟨g1,g2⟩) (obs_step (L_s1_eq A B sp _ g1 g2 g3 (by omega) _ _ _ _) ?_)
 rw [dAt_eq]
 cases differL A B sp.lo sp.hi with
 | none=>rfl
 | some q=>rfl
end K
noncomputable def BTF51:Tab:=BTF41.addCall 91 (callE D_sm R_sm (fun a=>.chk (decide (K.sm1Ok a)) (.ret (K.difV (K.differL a.1 a.2.1 a.2.2.lo a.2.2.hi)))))
theorem tTF51:TabOk P BTF51:=TabOk.addPC tTF41 (fun a r h=>call_of okP tTF41 (K.same_ok a r h))
def R_sam:=dTup (.cons dS (.cons dS (.cons dInt (.cons dB (.last dInt 0)))))
theorem fn_sam:∀ a,(callT1 P BTF51 30 30 D_sm R_sam) a=T.run (
 let q5:=decN nRul (List.length a.1) fun i=>encN nRul a.1 ((0:Nat)+i);
 let q4:=decN nRul (List.length a.2.1) fun i=>encN nRul a.2.1 ((0:Nat)+i);
 let q1:=difV (differL q5 q4 (Spn.lo a.2.2) (Spn.hi a.2.2));
 let q2:=decide (sm1Ok (decN nRul (List.length a.1) fun i=>encN nRul a.1 ((0:Nat)+i),decN nRul (List.length a.2.1) fun i=>encN nRul a.2.1 ((0:Nat)+i),a.2.2));
 let q6:=(0:Int);
 let q3:=(q1.1,q1.2.1,q1.2.2.1,q1.2.2.2,q6);
 let q7:T _:=.chk q2 <|
        .ret q3;
  .br (checkT q5 != q6) (
    .br (checkT q5 != q6) (
      .ret (([],[],q6,false,checkT q5))) (
      .chk q2 <|
      .ret q3)) (
    .br (checkT q4 != q6) (
      .br (checkT q4 != q6) (
        .ret (([],[],q6,false,checkT q4))) q7) (
      .br (spanL a.2.2 != q6) (
        .br (spanL a.2.2 != q6) (
          .ret (([],[],q6,false,spanL a.2.2))) (
          .chk q2 <|
          .ret q3)) q7))):=fun a=>by kernel_rfl
def O_sp:DecB (List Rul × Spn × List Int × Unit):=.flat 25 lTar (.flat 53 lSpn (.rows 3 rInt .nil))
def S_sp:=DecS.ghost 7 3 1 [.int .i64] (DecS.mk0 (.skips 2 (.unit (dLp 0 0 0 0) (.unit (dLp 1 0 0 0) (.skips 3 (.cons (dO 2) (.skips 16 (.cons (dInt) (.last (dInt) 20)))))))) O_sp)
def X_sp:=DecX.one (.exit 0) [7] (DecS.mk0 (.skips 7 (.last (dO 0) 38)) (.rows 3 rInt .nil))
noncomputable def K.st_sp:=loopT1 P BTF51 30 32 49 [25,7,3,2,24] S_sp X_sp
theorem sl_sp:∀ s,(K.st_sp) s=T.run (
 let q2:=List.length s.2.1;
 let q5:=(0:Nat);
 let q1:=decN nRul q2 fun i=>encN nRul s.2.1 (q5+i);
 let q3:=s.2.2.2.1;
 let q4:=eraseR q1 s.1.2.2;
  .br (decide (s.1.2.2<s.1.2.1)) (
    .chk (decide (woOk (decN nRul q2 fun i=>encN nRul s.2.1 (q5+i),s.1.2.2))) <|
    .chk (decide (sm1Ok (decN nRul q2 fun i=>encN nRul s.2.1 (q5+i),decN nRul (List.length q4) fun i=>encN nRul q4 (q5+i),s.2.2.1))) <|
    .br (Prod.snd (Prod.snd (Prod.snd (difV (differL q1 (decN nRul (List.length q4) fun i=>encN nRul q4 (q5+i)) (Spn.lo s.2.2.1) (Spn.hi s.2.2.1)))))) (
      .chk (decide ((List.length q3+(1:Nat)) * (8:Nat)≤(140737488355328:Nat)∧List.length q3+(1:Nat)≤nat_lit 9223372036854775807)) <|
      .ret (Sum.inl ((List.length q3+(1:Nat),s.1.2.1,IntKind.wrap IntKind.i64 (s.1.2.2+(1:Int))),decN nRul q2 fun i=>encN nRul s.2.1 (q5+i),s.2.2.1,decF rInt (List.length q3+(1:Nat)) (appG (List.length q3) (encF rInt q3) fun i k=>Option.getD [AV.int IntKind.i64 s.1.2.2][(q5+i) * (1:Nat)+k]? AV.top),PUnit.unit))) (
      .ret (Sum.inl ((s.1.1,s.1.2.1,IntKind.wrap IntKind.i64 (s.1.2.2+(1:Int))),decN nRul q2 fun i=>encN nRul s.2.1 (q5+i),s.2.2.1,decF rInt (List.length q3) (encF rInt q3),PUnit.unit)))) (
    .ret (Sum.inr (s.1.1,decF rInt (List.length q3) (encF rInt q3),PUnit.unit)))):=fun s=>by kernel_rfl
noncomputable def K.L_sp:=lim K.st_sp
noncomputable def BTF52:Tab:=BTF51.addNode 32 49 (nodeE [25,7,3,2,24] S_sp X_sp (fun s=>.obs (K.L_sp s) .ret))
theorem tTF52:TabOk P BTF52:=TabOk.addLoop (d:=30) okP tTF51 (by kernel_rfl) (by kernel_rfl) (fun s r h=>obs_ret h)
def D_spa:=DecL.cons dTar (.last dSpn 0)
theorem fn_sp:∀ a,(callT1 P BTF52 30 32 D_spa R_res) a=T.run (
 let q5:=(0:Nat);
 let q6:=List.length a.1;
 let q4:=(0:Int);
 let q1:=L_sp ((q5,(↑(clampL q6):Int),q4),decN nRul q6 fun i=>encN nRul a.1 (q5+i),a.2,decF rInt q5 fun _x _x_1=>AV.top,PUnit.unit);
 let q2:=decN nRul q6 fun i=>encN nRul a.1 (q5+i);
 let q3:T _:=.obs q1 fun x0=>
        .ret ((decF rInt (List.length x0.2.1) fun i=>encF rInt x0.2.1 (q5+i),q4));
  .br (checkT q2 != q4) (
    .br (checkT q2 != q4) (
      .ret (([],checkT q2))) q3) (
    .br (spanL a.2 != q4) (
      .br (spanL a.2 != q4) (
        .ret (([],spanL a.2))) (
        .obs q1 fun x0=>
          .ret ((decF rInt (List.length x0.2.1) fun i=>encF rInt x0.2.1 (q5+i),q4)))) q3)):=fun a=>by kernel_rfl
end Go.Proofs.YtkpligkggnjcoaaGreatDoor
/-! TF6 -/
namespace Go.Proofs.YtkpligkggnjcoaaGreatDoor
open Ev K
set_option maxRecDepth 100000
namespace K
def errM (A B:List Rul) (a:Spn):Int:=if checkT A≠0 then checkT A else if checkT B≠0 then checkT B else spanL a
def sameV (A B:List Rul) (a:Spn):Str × Str × Int × Bool × Int:=if errM A B a≠0 then ([],[],0,false,errM A B a) else ((difV (differL A B a.lo a.hi)).1,(difV (differL A B a.lo a.hi)).2.1,(difV (differL A B a.lo a.hi)).2.2.1,(difV (differL A B a.lo a.hi)).2.2.2,0)
theorem sam_eq (a:List Rul × List Rul × Spn):callT1 P BTF51 30 30 D_sm R_sam a=some (sameV a.1 a.2.1 a.2.2):=by
 rw [fn_sam]
 simp only [Nat.zero_add,decN_encN]
 unfold sameV errM
 by_cases h1:checkT a.1=0
 ·rw [if_neg (show ¬ (checkT a.1≠0) from fun k=>k h1)]
  refine br_f (by rw [h1];rfl) ?_
  by_cases h2:checkT a.2.1=0
  ·rw [if_neg (show ¬ (checkT a.2.1≠0) from fun k=>k h2)]
   refine br_f (by rw [h2];rfl) ?_
   by_cases h3:spanL a.2.2=0
   ·rw [if_neg (fun k=>k h3)]
    exact br_f (by rw [h3];rfl) (chk_step (decide_eq_true ⟨⟨h1,h2⟩,h3⟩) rfl)
   ·rw [if_pos h3]
    exact br_t (bne_iff_ne.2 h3) (br_t (bne_iff_ne.2 h3) rfl)
  ·rw [if_pos h2,if_pos h2]
   exact br_t (bne_iff_ne.2 h2) (br_t (bne_iff_ne.2 h2) rfl)
 ·rw [if_pos h1,if_pos h1]
  exact br_t (bne_iff_ne.2 h1) (br_t (bne_iff_ne.2 h1) rfl)
def spareP (l:List Rul) (a:Spn) (i:Nat):Bool:=(differL l (l.eraseIdx i) a.lo a.hi).isNone
def spareK (l:List Rul) (a:Spn) (k:Nat):List Int:=((List.range k).filter (spareP l a)).map fun i:Nat=>(i:Int)
theorem spareK_succ (l:List Rul) (a:Spn) (k:Nat):spareK l a (k+1)=if spareP l a k=true then spareK l a k ++ [(k:Int)] else spareK l a k:=by
 unfold spareK
 rw [List.range_succ,List.filter_append,List.map_append]
 by_cases h:spareP l a k=true
 ·rw [if_pos h,List.filter_cons_of_pos h];rfl
 ·rw [if_neg h,List.filter_cons_of_neg h];simp
theorem spareK_len (l:List Rul) (a:Spn) (k:Nat):(spareK l a k).length≤k:=by
 unfold spareK
 rw [List.length_map]
 have:=List.length_filter_le (spareP l a) (List.range k)
 rw [List.length_range] at this;exact this
theorem L_sp_eq (l:List Rul) (a:Spn) (hl:checkT l=0) (hs:spanL a=0) :
  L_sp ((0,(l.length:Int),0),l,a,[],())=some ((spareK l a l.length).length,spareK l a l.length,()):=by
 obtain ⟨h1,_⟩:=checkT_ok hl
 refine lim_all (fun i:Nat=>(((spareK l a i).length,(l.length:Int),(i:Int)),l,a,spareK l a i,())) l.length (fun i hi=>?_) ?_
 ·have hlen:=spareK_len l a i
  have e:eraseR l (i:Int)=l.eraseIdx i:=rfl
  rw [sl_sp]
  simp only [Nat.zero_add,decF_encF,decN_encN,e]
  refine br_t (decide_eq_true (by omega)) (chk_step (decide_eq_true ⟨h1,by dsimp only;omega,by dsimp only;omega⟩) (chk_step (decide_eq_true ⟨⟨hl,check_erase hl i⟩,hs⟩) ?_))
  rw [spareK_succ]
  unfold spareP
  cases differL l (l.eraseIdx i) a.lo a.hi with
  | none=>
   simp only [Option.isNone_none,if_true]
   refine br_t rfl (chk_step (decide_eq_true (by omega)) ?_)
   simp only [wi i (by omega),pushN]
   rw [List.length_append,List.length_singleton];rfl
  | some q=>
   simp only [Option.isNone_some,Bool.false_eq_true,if_false]
   refine br_f rfl ?_
   rw [wi i (by omega)];rfl
 ·rw [sl_sp]
  simp only [decF_encF,decN_encN,Nat.zero_add]
  exact br_f (decide_eq_false (by omega)) rfl
def errP (l:List Rul) (a:Spn):Int:=if checkT l≠0 then checkT l else spanL a
def spareV (l:List Rul) (a:Spn):List Int × Int:=if errP l a≠0 then ([],errP l a) else (spareL l a.lo a.hi,0)
theorem sp_eq (a:List Rul × Spn):callT1 P BTF52 30 32 D_spa R_res a=some (spareV a.1 a.2):=by
 rw [fn_sp]
 simp only [Nat.zero_add,decF_encF,decN_encN,show decF rInt 0 (fun x x_1=>AV.top)=[] from rfl]
 unfold spareV errP
 by_cases h1:checkT a.1=0
 ·rw [if_neg (show ¬ (checkT a.1≠0) from fun k=>k h1)]
  refine br_f (by rw [h1];rfl) ?_
  by_cases h3:spanL a.2=0
  ·rw [if_neg (fun k=>k h3),cl (show a.1.length≤1000000 by have:=(checkT_ok h1).1;omega)]
   exact br_f (by rw [h3];rfl) (obs_step (L_sp_eq a.1 a.2 h1 h3) rfl)
  ·rw [if_pos h3]
   exact br_t (bne_iff_ne.2 h3) (br_t (bne_iff_ne.2 h3) rfl)
 ·rw [if_pos h1,if_pos h1]
  exact br_t (bne_iff_ne.2 h1) (br_t (bne_iff_ne.2 h1) rfl)
end K
noncomputable def BTF61:Tab:=BTF52.addCall 30 (callE D_sm R_sam (fun a=>.ret (K.sameV a.1 a.2.1 a.2.2)))
theorem tTF61:TabOk P BTF61:=TabOk.addPC tTF52 (fun a r h=>by rw [← ret_some h];exact call_of okP tTF51 (K.sam_eq a))
noncomputable def BTF62:Tab:=BTF61.addCall 32 (callE D_spa R_res (fun a=>.ret (K.spareV a.1 a.2)))
theorem tTF62:TabOk P BTF62:=TabOk.addPC tTF61 (fun a r h=>by rw [← ret_some h];exact call_of okP tTF52 (K.sp_eq a))
end Go.Proofs.YtkpligkggnjcoaaGreatDoor
/-! TU1 -/
namespace Go.Proofs.YtkpligkggnjcoaaGreatDoor
open Ev K
set_option maxRecDepth 100000
def F_line:Dec Unit:=dFn 127 (.tops 0)
theorem fn_a_line:∀ a,(callT1 P BTF62 30 127 D_u8 dB) a=T.run (
 .ret (a != (10:Int))):=fun a=>by kernel_rfl
noncomputable def K.a_line (a:Int):Bool:=a != (10:Int)
theorem eq_a_line (a:Int):(callT1 P BTF62 30 127 D_u8 dB) a=some (K.a_line a):=(fn_a_line a).trans rfl
noncomputable def BTU11:Tab:=BTF62.addCall 127 (callE D_u8 dB (fun a=>.ret (K.a_line a)))
theorem tTU11:TabOk P BTU11:=TabOk.addFn (d:=30) okP tTF62 (fun a r h=>by rw [eq_a_line];exact congrArg some (ret_some h))
def S_rl:=DecS.mk0 (.cons (dS) (.cons (dInt) (.unit (F_line) (.tops 18)))) .nil
noncomputable def K.st_rl:=loopT1 P BTU11 30 126 9 [1,0,2] S_rl X_run
theorem sl_rl:∀ s,(K.st_rl) s=T.run (
 .br (decide (s.1.2.1<(↑(List.length s.1.1):Int))) (
  .chk (decide ((0:Int)≤s.1.2.1∧s.1.2.1<(↑(List.length s.1.1):Int))) <|
  .br (a_line (↑(↑(BitVec.toFin (UInt8.toBitVec (Option.getD s.1.1[Int.toNat s.1.2.1]? (0:UInt8)))):Nat):Int)) (
   .ret (Sum.inl ((s.1.1,IntKind.wrap IntKind.i64 (s.1.2.1+(1:Int)),PUnit.unit),PUnit.unit))) (
   .ret (Sum.inr (s.1.2.1,PUnit.unit)))) (
  .ret (Sum.inr (s.1.2.1,PUnit.unit)))):=fun s=>by kernel_rfl
noncomputable def K.L_rl:=lim K.st_rl
noncomputable def BTU12:Tab:=BTU11.addNode 126 9 (nodeE [1,0,2] S_rl X_run (fun s=>.obs (K.L_rl s) .ret))
theorem tTU12:TabOk P BTU12:=TabOk.addLoop (d:=30) okP tTU11 (by kernel_rfl) (by kernel_rfl) (fun s r h=>obs_ret h)
def D_rl:=DecL.cons dS (.cons dInt (.unit F_line (.tops 0)))
theorem fn_rl:∀ a,(callT1 P BTU12 30 126 D_rl dInt) a=T.run (
 .obs (L_rl ((a.1,a.2.1,PUnit.unit),PUnit.unit)) fun x0=>
  .ret x0.1):=fun a=>by kernel_rfl
end Go.Proofs.YtkpligkggnjcoaaGreatDoor
/-! TU2 -/
namespace Go.Proofs.YtkpligkggnjcoaaGreatDoor
open Ev K Go.Own Go.Shelf Go.RowKit
set_option maxRecDepth 100000
namespace K
def lineB (b:UInt8):Bool:=b.toNat != 10
theorem a_line_eq (b:UInt8):a_line ((b.toNat:Nat):Int)=lineB b:=by
 unfold a_line lineB
 apply Bool.eq_iff_iff.2
 simp;omega
theorem L_rl_eq (s:Str) (hs:s.length≤1000000) (i:Nat) (hi:i≤s.length):L_rl ((s,(i:Int),()),())=some ((runV lineB s i:Int),()):=by
 refine run_spec (fun i:Nat=>((s,(i:Int),()),())) s lineB (fun i=>((i:Int),())) (fun i b hb hp=>?_) (fun i b hb hp=>?_) ?_ (s.length - i) i (by omega)
 ·have hlt:=(List.getElem?_eq_some_iff.1 hb).1
  rw [sl_rl]
  simp only [Int.toNat_natCast,hb,Option.getD_some,wi i (by omega)]
  exact br_t (decide_eq_true (by omega)) (chk_step (decide_eq_true (by omega)) (br_t ((a_line_eq b).trans hp) rfl))
 ·have hlt:=(List.getElem?_eq_some_iff.1 hb).1
  rw [sl_rl]
  simp only [Int.toNat_natCast,hb,Option.getD_some]
  exact br_t (decide_eq_true (by omega)) (chk_step (decide_eq_true (by omega)) (br_f ((a_line_eq b).trans hp) rfl))
 ·rw [sl_rl]
  exact br_f (decide_eq_false (by dsimp only;omega)) rfl
theorem rl_ok (a:Str × Int × Unit) (r:Int) (h:(M_rp lineB a).run=some r):callT1 P BTU12 30 126 D_rl dInt a=some r:=by
 obtain ⟨g,e⟩:=chk_ret h
 subst e
 obtain ⟨s,i,u⟩:=a
 obtain ⟨g1,g2,g3⟩:=of_decide_eq_true g
 obtain ⟨k,rfl⟩:∃ k:Nat,i=k:=⟨i.toNat,by simp only at g2;omega⟩
 rw [fn_rl]
 refine obs_step (L_rl_eq s g1 k (by simp only at g3;omega)) ?_
 simp only [Int.toNat_natCast];rfl
end K
def D_ib:=DecL.cons dS (.last (dI .u8) 0)
namespace K
theorem VRs.two_of {w:World} {A:Nat→Prop} {r:Rr} {x y:AV} {us:Array Value} (h:VRs w A r [x,y] us):∃ u v,us=#[u,v]∧VR w A r x u∧VR w A r y v:=by
 have hs:us.size=2:=h.1.symm
 obtain ⟨u,v,rfl⟩:∃ u v,us=#[u,v]:=by
  have h1:us.toList.length=2:=by simpa using hs
  match hl:us.toList,h1 with
  | [u,v],_=>exact ⟨u,v,by apply Array.ext';exact hl⟩
 exact ⟨u,v,rfl,h.2 0 _ u rfl rfl,h.2 1 _ v rfl rfl⟩
def ixB (a:Str × Int):Int:=Lib.indexByte a.1 a.2.toNat.toUInt8
def M_ib (a:Str × Int):T Int:=.ret (ixB a)
theorem ib_pc (a:Str × Int) (r:Int) (h:(M_ib a).run=some r):PC P 133 (D_ib.enc a) (dInt.enc r):=by
 have e:=ret_some h
 subst e
 intro ro n A w us hG hA hus
 obtain ⟨u,v,rfl,hu,hv⟩:=VRs.two_of hus
 cases hu
 cases hv
 have key:=Any.strings_IndexByte Tryz.lays137 ⟨a.1.toArray⟩ a.2 w
 apply callsIn_round
 refine (callsIn_wide.2 key).mono ?_
 rintro e w' ⟨rfl,rfl⟩
 exact ⟨_,rfl,.int,Bel.refl _ _⟩
end K
noncomputable def BTU21:Tab:=BTU12.addCall 126 (callE D_rl dInt (K.M_rp K.lineB))
theorem tTU21:TabOk P BTU21:=TabOk.addPC tTU12 (fun a r h=>call_of okP tTU12 (K.rl_ok a r h))
noncomputable def BTU22:Tab:=BTU21.addCall 133 (callE D_ib dInt K.M_ib)
theorem tTU22:TabOk P BTU22:=TabOk.addPC tTU21 (K.ib_pc)
end Go.Proofs.YtkpligkggnjcoaaGreatDoor
/-! TU3 -/
namespace Go.Proofs.YtkpligkggnjcoaaGreatDoor
open Ev K Go.Own Go.Shelf Go.RowKit
set_option maxRecDepth 100000
def dNif:Dec Unit where
 enc _:=.nilif
 dec x:=match x with
  | .nilif=>some ()
  | _=>none
 ok x a h w A r v hv:=by
  split at h
  ·exact hv
  ·simp at h
def R_at:=dTup (.cons dInt (.unit dNif (.tops 0)))
namespace K
def atoiV (s:Str):Option Int:=match Lib.atoiAll s with
 | .ok v=>some v
 | _=>none
def atoiOk (s:Str):Bool:=(atoiV s).isSome
def atoiN (s:Str):Int:=(atoiV s).getD 0
def M_at (s:Str):T (Int × Unit):=.chk (decide (s.length≤1000000∧atoiOk s=true)) (.ret (atoiN s,()))
theorem at_pc (s:Str) (r:Int × Unit) (h:(M_at s).run=some r):PC P 186 (D_s.enc s) (R_at.enc r):=by
 obtain ⟨g,e⟩:=chk_ret h
 subst e
 obtain ⟨g1,g2⟩:=of_decide_eq_true g
 obtain ⟨v,hv⟩:∃ v,Lib.atoiAll s=.ok v:=by
  unfold atoiOk atoiV at g2
  cases hx:Lib.atoiAll s with
  | ok v=>exact ⟨v,rfl⟩
  | _=>rw [hx] at g2;cases g2
 have e2:atoiN s=v:=by unfold atoiN atoiV;rw [hv];rfl
 rw [e2]
 intro ro n A w us hG hA hus
 obtain ⟨u,rfl,hu⟩:=VRs.one_of hus
 cases hu
 have key:=Any.strconv_Atoi_ok Tryz.laysC172 ⟨s.toArray⟩ (by show s.toArray.size≤_;simp;omega) v (by simpa using hv) w
 apply callsIn_round
 refine (callsIn_wide.2 key).mono ?_
 rintro e w' ⟨rfl,hw⟩
 refine ⟨_,rfl,?_,?_⟩
 ·refine .tup rfl fun i x u hx hu=>?_
  match i,hx,hu with
  | 0,hx,hu=>
   injection hx with hx;injection hu with hu;subst hx;subst hu
   exact .int
  | 1,hx,hu=>
   injection hx with hx;injection hu with hu;subst hx;subst hu
   exact .nilif
  | i+2,hx,hu=>simp at hu
 ·rcases hw with rfl | ⟨t,rfl⟩
  ·exact Bel.refl _ _
  ·exact ⟨Lib.bytesWorld_below _ _ _,dle.of (by unfold Lib.bytesWorld World.freeze;split<;>exact Nat.le_succ _)⟩
end K
noncomputable def BTU31:Tab:=BTU22.addCall 186 (callE D_s R_at K.M_at)
theorem tTU31:TabOk P BTU31:=TabOk.addPC tTU22 (K.at_pc)
end Go.Proofs.YtkpligkggnjcoaaGreatDoor
