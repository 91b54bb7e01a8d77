/- Parts of the proof, one behind the other: TH1, TH2, TM1, TNp, TMp, TM2, TWd, TWe, TM3. No conditions. -/
import Derived.Test.YtkpligkggnjcoaaGreatDoorTv11
/-! TH1 -/
namespace Go.Proofs.YtkpligkggnjcoaaGreatDoor
open Ev K
set_option maxRecDepth 100000
def D_pes:=DecL.cons dTar (.cons dS (.cons dS (.last dSpn 0)))
def S_en:=DecS.mk0 (.skips 8 (.unit (dLp 0 0 0 0) (.unit (dLp 1 0 0 0) (.cons (dInt) (.skips 11 (.cons (dRows rStg) (.cons (dInt) (.last (dInt) 28)))))))) (.flat 95 lStg (.flat 95 lStg .nil))
def X_en:=DecX.one (.exit 0) [8,9,10] (DecS.mk0 (.skips 8 (.unit (dLp 0 0 0 0) (.unit (dLp 1 0 0 0) (.last (dInt) 42)))) (.flat 95 lStg (.flat 95 lStg .nil)))
noncomputable def K.st_en:=loopT1 P BTWc1 30 45 25 [24,9,8,22,10,23] S_en X_en
theorem sl_en:∀ s,(K.st_en) s=T.run (
 let q11:=s.1.2.2.2;
 let q2:=(s.1.1,decF rStg (List.length s.1.2.1) fun i=>encF rStg s.1.2.1 ((0:Nat)+i),s.1.2.2.1,IntKind.wrap IntKind.i64 (q11+(1:Int)));
 let q3:=(0:Nat)+Int.toNat q11;
 let q6:=numOf (encF rStg s.1.2.1 q3 (0:Nat));
 let q5:=numOf (encF rStg s.1.2.1 q3 (nat_lit 1));
 let q4:=encF rStg s.1.2.1 q3 (nat_lit 2);
 let q1:=Sum.inl (q2,Stg.mk q6 q5 (numOf q4),Stg.mk q6 q5 (numOf q4),PUnit.unit);
 let q7:=decide (numOf q4 > Stg.pence s.2.2.1);
 let q8:=q11 == (0:Int);
 let q9:=Sum.inl (q2,Stg.mk q6 q5 (numOf q4),s.2.2.1,PUnit.unit);
 let q10:=Sum.inl (q2,s.2.1,Stg.mk q6 q5 (numOf q4),PUnit.unit);
  .br (decide (q11<s.1.2.2.1)) (
    .chk (decide ((0:Int)≤q11∧q11<(↑(List.length s.1.2.1):Int))) <|
    .br q8 (
      .br q8 (
        .ret q1) (
        .br q7 (
          .ret q1) (
          .ret q9))) (
      .br (decide (numOf q4<Stg.pence s.2.1)) (
        .br q8 (
          .ret q1) (
          .br q7 (
            .ret q1) (
            .ret q9))) (
        .br q8 (
          .ret q10) (
          .br q7 (
            .ret q10) (
            .ret (Sum.inl (q2,s.2.1,s.2.2.1,PUnit.unit))))))) (
    .ret (Sum.inr (s.1.1,s.2.1,s.2.2.1,PUnit.unit)))):=fun s=>by kernel_rfl
noncomputable def K.L_en:=lim K.st_en
noncomputable def BTH11:Tab:=BTWc1.addNode 45 25 (nodeE [24,9,8,22,10,23] S_en X_en (fun s=>.obs (K.L_en s) .ret))
theorem tTH11:TabOk P BTH11:=TabOk.addLoop (d:=30) okP tTWc1 (by kernel_rfl) (by kernel_rfl) (fun s r h=>obs_ret h)
def R_en:=dTup (.cons dStg (.cons dStg (.last dInt 0)))
theorem fn_en:∀ a,(callT1 P BTH11 30 45 D_pes R_en) a=T.run (
 .obs (L_en ((Prod.snd (stagesV (decN nRul (List.length a.1) fun i=>encN nRul a.1 ((0:Nat)+i)) a.2.1 a.2.2.1 a.2.2.2),decF rStg (List.length (Prod.fst (stagesV (decN nRul (List.length a.1) fun i=>encN nRul a.1 ((0:Nat)+i)) a.2.1 a.2.2.1 a.2.2.2))) fun i=>encF rStg (Prod.fst (stagesV (decN nRul (List.length a.1) fun i=>encN nRul a.1 ((0:Nat)+i)) a.2.1 a.2.2.1 a.2.2.2)) ((0:Nat)+i),(↑(clampL (List.length (Prod.fst (stagesV (decN nRul (List.length a.1) fun i=>encN nRul a.1 ((0:Nat)+i)) a.2.1 a.2.2.1 a.2.2.2)))):Int),(0:Int)),Stg.mk (0:Int) (0:Int) (0:Int),Stg.mk (0:Int) (0:Int) (0:Int),PUnit.unit)) fun x0=>
  .ret ((x0.2.1,x0.2.2.1,x0.1))):=fun a=>by kernel_rfl
def S_fl:=DecS.mk0 (.skips 11 (.cons (dRows rStg) (.cons (dInt) (.skips 10 (.cons (dRows rStg) (.cons (dInt) (.last (dInt) 22))))))) .nil
def X_fl:=DecX.or (DecX.one (.exit 0) [12] (DecS.mk0 (.skips 12 (.last (dInt) 35)) .nil)) (DecX.one .ret [8,9,10] (DecS.mk0 (.skips 8 (.cons (dInt) (.cons (dB) (.last (dInt) 37)))) .nil))
noncomputable def K.st_fl:=loopT1 P BTH11 30 47 25 [25,11,23,12,24] S_fl X_fl
theorem sl_fl:∀ s,(K.st_fl) s=T.run (
 let q3:=(0:Nat);
 let q2:=s.1.2.2.2.2;
 let q1:=Sum.inl ((decF rStg (List.length s.1.1) fun i=>encF rStg s.1.1 (q3+i),s.1.2.1,decF rStg (List.length s.1.2.2.1) fun i=>encF rStg s.1.2.2.1 (q3+i),s.1.2.2.2.1,IntKind.wrap IntKind.i64 (q2+(1:Int))),PUnit.unit);
  .br (decide (q2<s.1.2.2.2.1)) (
    .chk (decide ((0:Int)≤q2∧q2<(↑(List.length s.1.2.2.1):Int))) <|
    .br (decide (q2 > (0:Int))) (
      .chk (decide ((0:Int)≤IntKind.wrap IntKind.i64 (q2 - (1:Int))∧IntKind.wrap IntKind.i64 (q2 - (1:Int))<(↑(List.length s.1.1):Int))) <|
      .br (decide (numOf (encF rStg s.1.2.2.1 (q3+Int.toNat q2) (nat_lit 2))<numOf (encF rStg s.1.1 (q3+Int.toNat (IntKind.wrap IntKind.i64 (q2 - (1:Int)))) (nat_lit 2)))) (
        .ret (Sum.inr (Sum.inr ((numOf (encF rStg s.1.2.2.1 (q3+Int.toNat q2) q3),true,(0:Int)),PUnit.unit)))) (
        .ret q1)) (
      .ret q1)) (
    .ret (Sum.inr (Sum.inl (s.1.2.1,PUnit.unit))))):=fun s=>by kernel_rfl
noncomputable def K.L_fl:=lim K.st_fl
noncomputable def BTH12:Tab:=BTH11.addNode 47 25 (nodeE [25,11,23,12,24] S_fl X_fl (fun s=>.obs (K.L_fl s) .ret))
theorem tTH12:TabOk P BTH12:=TabOk.addLoop (d:=30) okP tTH11 (by kernel_rfl) (by kernel_rfl) (fun s r h=>obs_ret h)
def R_fl:=dTup (.cons dInt (.cons dB (.last dInt 0)))
theorem fn_fl:∀ a,(callT1 P BTH12 30 47 D_pes R_fl) a=T.run (
 let q1:=stagesV (decN nRul (List.length a.1) fun i=>encN nRul a.1 ((0:Nat)+i)) a.2.1 a.2.2.1 a.2.2.2;
 let q2:=List.length q1.1;
  .obs (L_fl ((decF rStg q2 fun i=>encF rStg q1.1 ((0:Nat)+i),q1.2,decF rStg q2 fun i=>encF rStg q1.1 ((0:Nat)+i),(↑(clampL q2):Int),(0:Int)),PUnit.unit)) fun x0=>
    .sum (x0) (fun x1=>
      .ret (((0:Int),false,x1.1))) (fun x1=>
      .ret x1.1)):=fun a=>by kernel_rfl
theorem fn_lw_span:∀ a,(callT1 P BTH12 30 42 (.last dSpn 0) dB) a=T.run (
 .br (decide (Spn.hi a<Spn.lo a)) (
  .ret (true)) (
  .br (decide (Spn.lo a<(0:Int))) (
   .ret (true)) (
   .br (decide (Spn.hi a > (65536:Int))) (
    .ret (true)) (
    .br (decide (IntKind.wrap IntKind.i64 (Spn.hi a - Spn.lo a)<(300:Int))) (
     .ret (true)) (
     .ret (decide (IntKind.wrap IntKind.i64 (Spn.hi a - Spn.lo a) ≥ (5000:Int)))))))):=fun a=>by kernel_rfl
noncomputable def K.lw_span (a:Spn):Bool:=(if (decide (Spn.hi a<Spn.lo a))=true then true else (if (decide (Spn.lo a<(0:Int)))=true then true else (if (decide (Spn.hi a > (65536:Int)))=true then true else (if (decide (IntKind.wrap IntKind.i64 (Spn.hi a - Spn.lo a)<(300:Int)))=true then true else decide (IntKind.wrap IntKind.i64 (Spn.hi a - Spn.lo a) ≥ (5000:Int))))))
theorem eq_lw_span (a:Spn):(callT1 P BTH12 30 42 (.last dSpn 0) dB) a=some (K.lw_span a):=(fn_lw_span a).trans (T.br_some rfl (T.br_some rfl (T.br_some rfl (T.br_some rfl rfl))))
noncomputable def BTH13:Tab:=BTH12.addCall 42 (callE (.last dSpn 0) dB (fun a=>.ret (K.lw_span a)))
theorem tTH13:TabOk P BTH13:=TabOk.addFn (d:=30) okP tTH12 (fun a r h=>by rw [eq_lw_span];exact congrArg some (ret_some h))
theorem fn_lw_brief:∀ a,(callT1 P BTH13 30 29 (.last dSpn 0) dB) a=T.run (
 .br (decide (Spn.hi a<Spn.lo a)) (
  .ret (true)) (
  .br (decide (Spn.lo a<(0:Int))) (
   .ret (true)) (
   .br (decide (Spn.hi a > (65536:Int))) (
    .ret (true)) (
    .br (decide (IntKind.wrap IntKind.i64 (Spn.hi a - Spn.lo a)<(60:Int))) (
     .ret (true)) (
     .ret (decide (IntKind.wrap IntKind.i64 (Spn.hi a - Spn.lo a) ≥ (5000:Int)))))))):=fun a=>by kernel_rfl
noncomputable def K.lw_brief (a:Spn):Bool:=(if (decide (Spn.hi a<Spn.lo a))=true then true else (if (decide (Spn.lo a<(0:Int)))=true then true else (if (decide (Spn.hi a > (65536:Int)))=true then true else (if (decide (IntKind.wrap IntKind.i64 (Spn.hi a - Spn.lo a)<(60:Int)))=true then true else decide (IntKind.wrap IntKind.i64 (Spn.hi a - Spn.lo a) ≥ (5000:Int))))))
theorem eq_lw_brief (a:Spn):(callT1 P BTH13 30 29 (.last dSpn 0) dB) a=some (K.lw_brief a):=(fn_lw_brief a).trans (T.br_some rfl (T.br_some rfl (T.br_some rfl (T.br_some rfl rfl))))
noncomputable def BTH14:Tab:=BTH13.addCall 29 (callE (.last dSpn 0) dB (fun a=>.ret (K.lw_brief a)))
theorem tTH14:TabOk P BTH14:=TabOk.addFn (d:=30) okP tTH13 (fun a r h=>by rw [eq_lw_brief];exact congrArg some (ret_some h))
end Go.Proofs.YtkpligkggnjcoaaGreatDoor
/-! TH2 -/
namespace Go.Proofs.YtkpligkggnjcoaaGreatDoor
open Ev K
set_option maxRecDepth 100000
namespace K
def lowP:List Stg→Stg
 | []=>⟨0,0,0⟩
 | x :: t=>lowL x t
def highP:List Stg→Stg
 | []=>⟨0,0,0⟩
 | x :: t=>highL x t
theorem lowP_snoc {l:List Stg} (h:l≠[]) (y:Stg):lowP (l ++ [y])=if y.pence<(lowP l).pence then y else lowP l:=by
 cases l with
 | nil=>exact absurd rfl h
 | cons x t=>
  show lowL x (t ++ [y])=_
  unfold lowL;rw [List.foldl_append];rfl
theorem highP_snoc {l:List Stg} (h:l≠[]) (y:Stg):highP (l ++ [y])=if y.pence > (highP l).pence then y else highP l:=by
 cases l with
 | nil=>exact absurd rfl h
 | cons x t=>
  show highL x (t ++ [y])=_
  unfold highL;rw [List.foldl_append];rfl
theorem L_en_eq (e:Int) (L:List Stg) (hL:L.length≤100000):L_en ((e,L,(L.length:Int),0),⟨0,0,0⟩,⟨0,0,0⟩,())=some (e,lowP L,highP L,()):=by
 have e1:lowP L=lowP (L.take L.length):=by rw [List.take_length]
 have e2:highP L=highP (L.take L.length):=by rw [List.take_length]
 rw [e1,e2]
 refine lim_all (fun i:Nat=>((e,L,(L.length:Int),(i:Int)),lowP (L.take i),highP (L.take i),())) L.length (fun i hi=>?_) ?_
 ·have hy:=List.getElem?_eq_getElem hi
  rw [sl_en,List.take_add_one,hy]
  generalize L[i]=x at hy
  simp only [Int.toNat_natCast,Nat.zero_add,stg_at hy,ng0,ng1,ng2,decF_encF,wi i (by omega),Option.toList_some]
  refine br_t (decide_eq_true (by omega)) (chk_step (decide_eq_true (by omega)) ?_)
  by_cases h0:i=0
  ·subst h0
   exact br_t rfl (br_t rfl rfl)
  ·have hne:L.take i≠[]:=fun h=>by
    have h2:(L.take i).length=0:=by rw [h];rfl
    rw [List.length_take] at h2
    omega
   have hb:((i:Int) == 0)=false:=beq_eq_false_iff_ne.2 (by omega)
   rw [lowP_snoc hne,highP_snoc hne]
   refine br_f hb ?_
   by_cases h1:x.pence<(lowP (L.take i)).pence
   ·rw [if_pos h1]
    refine br_t (decide_eq_true h1) (br_f hb ?_)
    by_cases h2:x.pence > (highP (L.take i)).pence
    ·rw [if_pos h2];exact br_t (decide_eq_true h2) rfl
    ·rw [if_neg h2];exact br_f (decide_eq_false h2) rfl
   ·rw [if_neg h1]
    refine br_f (decide_eq_false h1) (br_f hb ?_)
    by_cases h2:x.pence > (highP (L.take i)).pence
    ·rw [if_pos h2];exact br_t (decide_eq_true h2) rfl
    ·rw [if_neg h2];exact br_f (decide_eq_false h2) rfl
 ·rw [sl_en]
  exact br_f (decide_eq_false (by dsimp only;omega)) rfl
def endsV (l:List Rul) (due grade:Str) (a:Spn):Stg × Stg × Int:=(lowP (stagesV l due grade a).1,highP (stagesV l due grade a).1,(stagesV l due grade a).2)
theorem stagesV_len (l:List Rul) (due grade:Str) (a:Spn):(stagesV l due grade a).1.length≤5000:=by
 unfold stagesV
 by_cases h:errS l due grade a=0
 ·rw [if_neg (fun k=>k h)];exact stgs_len (errS_ok h).2
 ·rw [if_pos h];exact Nat.zero_le _
theorem en_eq (a:List Rul × Str × Str × Spn):callT1 P BTH11 30 45 D_pes R_en a=some (endsV a.1 a.2.1 a.2.2.1 a.2.2.2):=by
 rw [fn_en]
 have hl:=stagesV_len a.1 a.2.1 a.2.2.1 a.2.2.2
 simp only [Nat.zero_add,decN_encN,decF_encF]
 rw [cl (by omega)]
 exact obs_step (L_en_eq _ _ (by omega)) rfl
def fallP (L:List Stg) (i:Nat):Bool:=match i with
 | 0=>false
 | j+1=>decide ((L.getD (j+1) default).pence<(L.getD j default).pence)
theorem L_fl_eq (e:Int) (L:List Stg) (hL:L.length≤100000):L_fl ((L,e,L,(L.length:Int),0),())=some (match first (fallP L) L.length with
  | some j=>.inr (((L.getD j default).lo,true,0),())
  | none=>.inl (e,())):=by
 refine (lim_find (fun i:Nat=>((L,e,L,(L.length:Int),(i:Int)),())) L.length (fallP L) (fun j=>.inr (((L.getD j default).lo,true,0),())) (.inl (e,())) (fun i hi hp=>?_) (fun i hi hp=>?_) ?_).trans ?_
 ·rw [sl_fl]
  have hy:=List.getElem?_eq_getElem hi
  rw [List.getD_eq_getElem?_getD]
  cases i with
  | zero=>cases hp
  | succ j=>
   have hz:=List.getElem?_eq_getElem (l:=L) (i:=j) (by omega)
   unfold fallP at hp
   simp only [List.getD_eq_getElem?_getD] at hp
   rw [hy,hz] at hp
   rw [hy]
   generalize L[j+1]=x at hy hp
   generalize L[j]=y at hz hp
   have hw:IntKind.i64.wrap (((j+1:Nat):Int) - 1)=(j:Int):=by rw [w64_in (by omega) (by omega)];omega
   simp only [hw,Int.toNat_natCast,Nat.zero_add,stg_at hy,stg_at hz,ng0,ng2]
   exact br_t (decide_eq_true (by omega)) (chk_step (decide_eq_true (by omega)) (br_t (decide_eq_true (by omega)) (chk_step (decide_eq_true (by omega)) (br_t hp rfl))))
 ·rw [sl_fl]
  have hy:=List.getElem?_eq_getElem hi
  cases i with
  | zero=>
   simp only [Nat.zero_add,decF_encF,wi 0 (by omega)]
   exact br_t (decide_eq_true (by omega)) (chk_step (decide_eq_true (by omega)) (br_f rfl rfl))
  | succ j=>
   have hz:=List.getElem?_eq_getElem (l:=L) (i:=j) (by omega)
   unfold fallP at hp
   simp only [List.getD_eq_getElem?_getD] at hp
   rw [hy,hz] at hp
   generalize L[j+1]=x at hy hp
   generalize L[j]=y at hz hp
   have hw:IntKind.i64.wrap (((j+1:Nat):Int) - 1)=(j:Int):=by rw [w64_in (by omega) (by omega)];omega
   simp only [hw,Int.toNat_natCast,Nat.zero_add,stg_at hy,stg_at hz,ng0,ng2,decF_encF,wi (j+1) (by omega)]
   exact br_t (decide_eq_true (by omega)) (chk_step (decide_eq_true (by omega)) (br_t (decide_eq_true (by omega)) (chk_step (decide_eq_true (by omega)) (br_f hp rfl))))
 ·rw [sl_fl]
  simp only [Nat.zero_add,decF_encF]
  exact br_f (decide_eq_false (by omega)) rfl
 ·cases first (fallP L) L.length<;>rfl
def fallsV (l:List Rul) (due grade:Str) (a:Spn):Int × Bool × Int:=match first (fallP (stagesV l due grade a).1) (stagesV l due grade a).1.length with
 | some j=>(((stagesV l due grade a).1.getD j default).lo,true,0)
 | none=>(0,false,(stagesV l due grade a).2)
theorem fl_eq (a:List Rul × Str × Str × Spn):callT1 P BTH12 30 47 D_pes R_fl a=some (fallsV a.1 a.2.1 a.2.2.1 a.2.2.2):=by
 rw [fn_fl]
 have hl:=stagesV_len a.1 a.2.1 a.2.2.1 a.2.2.2
 simp only [Nat.zero_add,decN_encN,decF_encF]
 rw [cl (by omega)]
 refine obs_step (L_fl_eq _ _ (by omega)) ?_
 unfold fallsV
 cases first (fallP (stagesV a.1 a.2.1 a.2.2.1 a.2.2.2).1) (stagesV a.1 a.2.1 a.2.2.1 a.2.2.2).1.length<;>rfl
end K
noncomputable def BTH21:Tab:=BTH14.addCall 45 (callE D_pes R_en (fun a=>.ret (K.endsV a.1 a.2.1 a.2.2.1 a.2.2.2)))
theorem tTH21:TabOk P BTH21:=TabOk.addPC tTH14 (fun a _r h=>call_of okP tTH11 ((K.en_eq a).trans h))
noncomputable def BTH22:Tab:=BTH21.addCall 47 (callE D_pes R_fl (fun a=>.ret (K.fallsV a.1 a.2.1 a.2.2.1 a.2.2.2)))
theorem tTH22:TabOk P BTH22:=TabOk.addPC tTH21 (fun a _r h=>call_of okP tTH12 ((K.fl_eq a).trans h))
end Go.Proofs.YtkpligkggnjcoaaGreatDoor
/-! TM1 -/
namespace Go.Proofs.YtkpligkggnjcoaaGreatDoor
open Ev K
set_option maxRecDepth 100000
def D_lr:=DecL.cons dTar (.cons dS (.cons dS (.cons dInt (.last (dI .u8) 0))))
def S_lr:=DecS.mk0 (.skip (.cons (dS) (.cons (dS) (.cons (dInt) (.cons (dI .u8) (.unit (dLp 0 0 0 0) (.skips 5 (.cons (dB) (.last (dInt) 157))))))))) (.flat 25 lTar .nil)
def X_lr0:=DecX.one .ret [10] (DecS.mk0 (.skips 10 (.last (dB) 159)) .nil)
noncomputable def BTM11:Tab:=BTH22.addPiv 9 [15]
theorem tTM11:TabOk P BTM11:=TabOk.addPiv tTH22
theorem cu_lr:∀ s,(cutT1 P BTM11 30 9 96 S_lr X_lr0) s=T.run (
 let q11:=(0:Nat);
 let q7:=q11+List.length s.2.1+(1:Nat);
 let q9:=q11+List.length s.2.1;
 let q3:=appG q11 (fun _x _x_1=>AV.top) fun i k=>encN nRul s.2.1 (q11+i) k;
 let q10:=(0:Int);
 let q1:=penV (decN nRul q7 fun i=>appG q9 q3 (fun i k=>Option.getD [AV.int IntKind.i64 (1:Int),AV.str s.1.1,AV.nilsl,AV.xsl (4:Nat) (nat_lit 2) (Get.mk [CK.int IntKind.i64,CK.int IntKind.i64,CK.int IntKind.i64,CK.int IntKind.i64] fun i k=>Option.getD [AV.int IntKind.i64 (3:Int),AV.int IntKind.i64 q10,AV.int IntKind.i64 q10,AV.int IntKind.i64 (90:Int),AV.int IntKind.i64 q10,AV.int IntKind.i64 q10,AV.int IntKind.i64 q10,AV.int IntKind.i64 q10][i * (4:Nat)+k]? AV.top) q11 (2:Nat) (some (2:Nat)),AV.int IntKind.i64 q10,AV.int IntKind.i64 q10,AV.int IntKind.i64 q10][(q11+i) * (7:Nat)+k]? AV.top) (q11+i)) s.1.1 s.1.2.1 s.1.2.2.1;
 let q2:=decide (q7 * (96:Nat)≤(140737488355328:Nat)∧q11+List.length s.2.1+(1:Nat)≤nat_lit 9223372036854775807);
 let q4:=penV (decN nRul q7 fun i=>appG q9 q3 (fun i k=>Option.getD [AV.int IntKind.i64 (5:Int),AV.str s.1.1,AV.nilsl,AV.nilsl,AV.int IntKind.i64 (1:Int),AV.int IntKind.i64 q10,AV.int IntKind.i64 (3:Int)][(q11+i) * (7:Nat)+k]? AV.top) (q11+i)) s.1.1 s.1.2.1 s.1.2.2.1;
 let q5:=penV (decN nRul q7 fun i=>appG q9 q3 (fun i k=>Option.getD [AV.int IntKind.i64 (3:Int),AV.str s.1.1,AV.nilsl,AV.nilsl,AV.int IntKind.i64 q10,AV.int IntKind.i64 q10,AV.int IntKind.i64 q10][(q11+i) * (7:Nat)+k]? AV.top) (q11+i)) s.1.1 s.1.2.1 s.1.2.2.1;
 let q6:=penV (decN nRul q7 fun i=>appG q9 q3 (fun i k=>Option.getD [AV.int IntKind.i64 (2:Int),AV.str s.1.1,AV.nilsl,AV.nilsl,AV.int IntKind.i64 q10,AV.int IntKind.i64 (7:Int),AV.int IntKind.i64 q10][(q11+i) * (7:Nat)+k]? AV.top) (q11+i)) s.1.1 s.1.2.1 s.1.2.2.1;
 let q8:=(false,PUnit.unit);
 let q12:=s.1.2.2.2.2.1;
 let q13:=s.1.2.2.2.2.2;
  .br (decide ((↑(clampL (List.length s.2.1)):Int) ≥ (30:Int))) (
    .ret ((q12,PUnit.unit))) (
    .chk (decide (q9 * (96:Nat)≤(140737488355328:Nat)∧q11+List.length s.2.1≤nat_lit 9223372036854775807)) <|
    .br (decide (Int.tmod s.1.2.2.2.1 (4:Int)=(↑(nat_lit 3):Int))) (
      .chk q2 <|
      .br q12 (
        .br (q1.2 == q10) (
          .ret ((q1.1 == q13,PUnit.unit))) (
          .ret q8)) (
        .ret q8)) (
      .br (decide (Int.tmod s.1.2.2.2.1 (4:Int)=(↑(nat_lit 2):Int))) (
        .chk q2 <|
        .br q12 (
          .br (q4.2 == q10) (
            .ret ((q4.1 == q13,PUnit.unit))) (
            .ret q8)) (
          .ret q8)) (
        .br (decide (Int.tmod s.1.2.2.2.1 (4:Int)=(↑(nat_lit 1):Int))) (
          .chk q2 <|
          .br q12 (
            .br (q5.2 == q10) (
              .ret ((q5.1 == q13,PUnit.unit))) (
              .ret q8)) (
            .ret q8)) (
          .br (decide (Int.tmod s.1.2.2.2.1 (4:Int)=(↑(nat_lit 0):Int))) (
            .chk q2 <|
            .br q12 (
              .br (q6.2 == q10) (
                .ret ((q6.1 == q13,PUnit.unit))) (
                .ret q8)) (
              .ret q8)) (
            .fail)))))):=fun s=>by kernel_rfl
end Go.Proofs.YtkpligkggnjcoaaGreatDoor
/-! TNp -/
namespace Go.Proofs.YtkpligkggnjcoaaGreatDoor
open Ev K
set_option maxRecDepth 100000
namespace K
end K
end Go.Proofs.YtkpligkggnjcoaaGreatDoor
/-! TMp -/
namespace Go.Proofs.YtkpligkggnjcoaaGreatDoor
open Ev K
set_option maxRecDepth 100000
namespace K
def idleR (due:Str) (k:Nat):Rul:=match k with
 | 0=>⟨2,due,[],[],0,7,0⟩
 | 1=>⟨3,due,[],[],0,0,0⟩
 | 2=>⟨5,due,[],[],1,0,3⟩
 | _=>⟨1,due,[],[⟨3,0,0,90⟩,⟨0,0,0,0⟩],0,0,0⟩
theorem idleR_due (due:Str) (k:Nat):(idleR due k).due=due∧(idleR due k).grades=[]:=by
 unfold idleR;split<;>exact ⟨rfl,rfl⟩
theorem idleR_ok {due:Str} (h:nameB due=true) (k:Nat):rulOk (idleR due k):=by
 obtain ⟨e1,e2⟩:=idleR_due due k
 refine ⟨⟨by rw [e1];exact h,(by rw [e2];exact Nat.zero_le _)⟩,(by rw [e2];intro g hg;cases hg),(by rw [e2];exact List.nodup_nil),?_⟩
 unfold idleR
 split
 ·show kindOk _;unfold kindOk;simp
 ·show kindOk _;unfold kindOk;simp
 ·show kindOk _;unfold kindOk;simp
 ·show kindOk _;unfold kindOk;simp [trmOk]
theorem idleR_next (due:Str) (k:Nat) {a:Int} (ha:0≤a) (m:Int):nextR (idleR due k) a m=a:=by
 unfold idleR
 split
 ·show a - (a * 0).tdiv 7=a;simp
 ·show max a 0=a;omega
 ·show roundV 1 3 a=a
  unfold roundV;simp [Int.tmod_one]
 ·show ([⟨3,0,0,90⟩,⟨0,0,0,0⟩].map fun t:Trm=>paidT t m).foldl (·+·) a=a
  simp [paidT]
theorem pence_snoc (l:List Rul) (r:Rul) (due grade:Str) (m:Int):penceL (l ++ [r]) due grade m=if forR r due grade=true then nextR r (penceL l due grade m) m else penceL l due grade m:=by
 unfold penceL
 rw [List.filter_append,List.foldl_append]
 by_cases h:forR r due grade=true
 ·rw [if_pos h,show ([r].filter fun r=>forR r due grade)=[r] by simp [h]];rfl
 ·rw [if_neg h,show ([r].filter fun r=>forR r due grade)=[] by simp [h]];rfl
theorem ask_name {l:List Rul} {due grade:Str} (h:askL l due grade=0):nameB due=true:=by
 obtain ⟨h1,h2,_⟩:=ask_ok h
 obtain ⟨r,hr,he⟩:=List.any_eq_true.1 h2
 have he:r.due=due:=beq_iff_eq.1 he
 rw [← he]
 exact ((checkT_ok h1).2 r hr).1.1
theorem pen_idle {l:List Rul} {due grade:Str} {m:Int} (h:(penV l due grade m).2=0) (hl:l.length<30) (k:Nat):penV (l ++ [idleR due k]) due grade m=((penV l due grade m).1,0):=by
 obtain ⟨ha,hm⟩:=pen_ok h
 obtain ⟨h1,h2,h3⟩:=ask_ok ha
 obtain ⟨c1,c2⟩:=checkT_ok h1
 have e0:penV l due grade m=(penceL l due grade m,0):=by unfold penV;rw [if_neg (fun k=>k ha),if_pos hm]
 have hck:checkT (l ++ [idleR due k])=0:=by
  unfold checkT
  rw [if_neg (by rw [List.length_append,List.length_singleton];omega),if_pos]
  intro r hr
  rcases List.mem_append.1 hr with hr | hr
  ·exact c2 r hr
  ·rw [List.mem_singleton] at hr;rw [hr];exact idleR_ok (ask_name ha) k
 have hask:askL (l ++ [idleR due k]) due grade=0:=by
  unfold askL
  rw [if_neg (fun h=>h hck),if_neg (by rw [List.any_append,h2];simp),if_neg (by rw [h3];simp)]
 obtain ⟨e1,e2⟩:=idleR_due due k
 have hfor:forR (idleR due k) due grade=true:=by unfold forR;rw [e1,e2];simp
 have hb:=pence_bd c2 due grade hm
 unfold penV
 rw [if_neg (fun h=>h hask),if_pos hm,if_neg (fun h=>h ha),if_pos hm,pence_snoc,if_pos hfor,idleR_next _ _ hb.1]
theorem trc_at (l:List Rul) (due grade:Str) (m:Int):∀ k,∀ e ∈ (trc l due grade m k).2,∃ (i:Nat) (r:Rul),i<k∧e.rule=(i:Int)∧l[i]?=some r∧e.before=(trc l due grade m i).1∧e.after=nextR r e.before m
 | 0=>fun e he=>by cases he
 | k+1=>fun e he=>by
  have ih:=trc_at l due grade m k
  have up:(∃ (i:Nat) (r:Rul),i<k∧e.rule=(i:Int)∧l[i]?=some r∧e.before=(trc l due grade m i).1∧e.after=nextR r e.before m)→∃ (i:Nat) (r:Rul),i<k+1∧e.rule=(i:Int)∧l[i]?=some r∧e.before=(trc l due grade m i).1∧e.after=nextR r e.before m:=fun ⟨i,r,a,b⟩=>⟨i,r,by omega,b⟩
  unfold trc at he
  cases hr:l[k]? with
  | none=>rw [hr] at he;exact up (ih e he)
  | some r=>
   rw [hr] at he
   by_cases hf:forR r due grade=true
   ·simp only [if_pos hf] at he
    rcases List.mem_append.1 he with he | he
    ·exact up (ih e he)
    ·rw [List.mem_singleton] at he;subst he
     exact ⟨k,r,by omega,rfl,hr,rfl,rfl⟩
   ·simp only [if_neg hf] at he
    exact up (ih e he)
theorem round_tmod {n way a:Int} (_hn:1≤n) (ha:0≤a):(roundV n way a).tmod n=0:=by
 have h1:a - a.tmod n=a.tdiv n * n:=(round_down ha).symm
 unfold roundV
 rw [h1]
 split
 ·exact Int.mul_tmod_left ..
 ·rw [show a.tdiv n * n+n=(a.tdiv n+1) * n by rw [Int.add_mul,Int.one_mul]]
  exact Int.mul_tmod_left ..
theorem trace_last {l:List Rul} {due grade:Str} {m:Int} (h:(penV l due grade m).2=0) {e:Effc} (he:(traceV l due grade m).1.getLast?=some e) :
  ∃ (i:Nat) (r:Rul),e.rule=(i:Int)∧l[i]?=some r∧(r.kind=5→1≤r.n∧((penV l due grade m).1).tmod r.n=0)∧(r.kind=3→r.n≤(penV l due grade m).1)∧(r.kind=4→(penV l due grade m).1≤r.n):=by
 obtain ⟨ha,hm⟩:=pen_ok h
 obtain ⟨h1,_,_⟩:=ask_ok ha
 obtain ⟨c1,c2⟩:=checkT_ok h1
 have e0:(penV l due grade m).1=penceL l due grade m:=by unfold penV;rw [if_neg (fun k=>k ha),if_pos hm]
 have e1:(traceV l due grade m).1=traceL l due grade m:=by unfold traceV;rw [if_neg (fun k=>k h)]
 rw [e1] at he
 have hmem:=List.mem_of_getLast? he
 obtain ⟨i,r,_,hi,hr,hbf,haf⟩:=trc_at l due grade m l.length e hmem
 have hlast:=trc_last l due grade m l.length
 rw [trc_pence] at hlast
 have he':(trc l due grade m l.length).2.getLast?=some e:=he
 rw [he'] at hlast
 have hp:penceL l due grade m=e.after:=hlast
 rw [e0,hp]
 have hk:=(c2 r (List.mem_of_getElem? hr)).2.2.2
 have hbef:0≤e.before:=by rw [hbf];exact (trc_bd h1 due grade hm i).1
 refine ⟨i,r,hi,hr,fun hk5=>?_,fun hk3=>?_,fun hk4=>?_⟩
 ·have hn:1≤r.n:=by
   unfold kindOk at hk
   rw [hk5] at hk
   simp at hk
   omega
  refine ⟨hn,?_⟩
  rw [haf];unfold nextR;rw [hk5]
  simp only [show ¬ ((5:Int)=1) by decide,show ¬ ((5:Int)=2) by decide,show ¬ ((5:Int)=3) by decide,show ¬ ((5:Int)=4) by decide,if_false]
  exact round_tmod hn hbef
 ·rw [haf];unfold nextR;rw [hk3]
  simp only [show ¬ ((3:Int)=1) by decide,show ¬ ((3:Int)=2) by decide,if_false,if_true]
  omega
 ·rw [haf];unfold nextR;rw [hk4]
  simp only [show ¬ ((4:Int)=1) by decide,show ¬ ((4:Int)=2) by decide,show ¬ ((4:Int)=3) by decide,if_false,if_true]
  omega
end K
end Go.Proofs.YtkpligkggnjcoaaGreatDoor
/-! TM2 -/
namespace Go.Proofs.YtkpligkggnjcoaaGreatDoor
open Ev K
set_option maxRecDepth 100000
namespace K
theorem dec_idle (l:List Rul) (r:Rul) (g:Nat→Nat→AV) (h:nRul.rd (g 0)=r):decN nRul (l.length+1) (fun i=>appG l.length (fun i k=>encN nRul l i k) (fun i k=>g i k) i)=l ++ [r]:=by
 refine (decN_app nRul l 1 g).trans ?_
 show l ++ [nRul.rd (g 0)]=_
 rw [h]
def lrG (l:List Rul) (due grade:Str) (m what n:Int) (up:Bool):Prop:=penV l due grade m=(n,0)∧0≤what∧up=true
instance (l:List Rul) (due grade:Str) (m what n:Int) (up:Bool):Decidable (lrG l due grade m what n up):=by unfold lrG;infer_instance
theorem lr_cut {l:List Rul} {due grade:Str} {m what n:Int} {up:Bool} (h:lrG l due grade m what n up):cutT1 P BTM11 30 9 96 S_lr X_lr0 ((due,grade,m,what,up,n),l,())=some (true,()):=by
 obtain ⟨hp,hw,rfl⟩:=h
 have hp2:(penV l due grade m).2=0:=by rw [hp]
 have hl:=(checkT_ok (ask_ok (pen_ok hp2).1).1).1
 have key:l.length<30→∀ k,penV (l ++ [idleR due k]) due grade m=(n,0):=fun hl k=>by rw [pen_idle hp2 hl k,hp]
 have h4:what.tmod 4=0∨what.tmod 4=1∨what.tmod 4=2∨what.tmod 4=3:=by
  have h1:=Int.tmod_nonneg 4 hw
  have h2:=Int.tmod_lt_of_pos what (show (0:Int)<4 by decide)
  omega
 rw [cu_lr]
 simp only [Nat.zero_add,cl (show l.length≤1000000 by omega),appG0]
 by_cases h30:(l.length:Int) ≥ 30
 ·exact br_t (decide_eq_true h30) rfl
 ·have key:=key (by omega)
  refine br_f (decide_eq_false h30) (chk_step (decide_eq_true (by omega)) ?_)
  have d0:=dec_idle l (idleR due 0)
  have d1:=dec_idle l (idleR due 1)
  have d2:=dec_idle l (idleR due 2)
  have d3:=dec_idle l (idleR due 3)
  rcases h4 with h | h | h | h
  ·refine br_f (by rw [h];rfl) (br_f (by rw [h];rfl) (br_f (by rw [h];rfl) (br_t (by rw [h];rfl) (chk_step (decide_eq_true (by omega)) (br_t rfl ?_)))))
   rw [d0 _ rfl,key 0]
   exact br_t rfl (by show some (n == n,())=_;simp)
  ·refine br_f (by rw [h];rfl) (br_f (by rw [h];rfl) (br_t (by rw [h];rfl) (chk_step (decide_eq_true (by omega)) (br_t rfl ?_))))
   rw [d1 _ rfl,key 1]
   exact br_t rfl (by show some (n == n,())=_;simp)
  ·refine br_f (by rw [h];rfl) (br_t (by rw [h];rfl) (chk_step (decide_eq_true (by omega)) (br_t rfl ?_)))
   rw [d2 _ rfl,key 2]
   exact br_t rfl (by show some (n == n,())=_;simp)
  ·refine br_t (by rw [h];rfl) (chk_step (decide_eq_true (by omega)) (br_t rfl ?_))
   rw [d3 _ rfl,key 3]
   exact br_t rfl (by show some (n == n,())=_;simp)
end K
noncomputable def BTM21:Tab:=(BTM11.addNode 9 96 (nodeE [1,2,3,4,5,11,12] S_lr X_lr0 (fun a=>.chk (decide (K.lrG a.2.1 a.1.1 a.1.2.1 a.1.2.2.1 a.1.2.2.2.1 a.1.2.2.2.2.2 a.1.2.2.2.2.1)) (.ret (true,()))))).addCut 9 96
theorem tTM21:TabOk P BTM21:=TabOk.addCut (d:=30) okP tTM11 (by kernel_rfl) (fun a r h=>by obtain ⟨g,e⟩:=chk_ret h;subst e;obtain ⟨⟨_,_,_,_,_,_⟩,_,_⟩:=a;exact K.lr_cut (of_decide_eq_true g))
theorem fn_lr:∀ a,(callT1 P BTM21 30 9 D_lr dB) a=T.run (
 let q19:=List.length a.1;
 let q2:=decN nRul q19 fun i=>encN nRul a.1 ((0:Nat)+i);
 let q10:=traceV q2 a.2.1 a.2.2.1 a.2.2.2.1;
 let q5:=List.length q10.1;
 let q14:=(↑(clampL q5):Int) - (1:Int);
 let q1:=encF rEff q10.1 ((0:Nat)+Int.toNat (IntKind.wrap IntKind.i64 q14)) (nat_lit 0);
 let q7:=penV q2 a.2.1 a.2.2.1 a.2.2.2.1;
 let q3:=decide (lrG q2 a.2.1 a.2.2.1 a.2.2.2.1 a.2.2.2.2 q7.1 true);
 let q6:=(0:Nat)+Int.toNat (numOf q1);
 let q11:=encN nRul a.1 q6 (0:Nat);
 let q16:=numOf q11 == (4:Int);
 let q8:=encN nRul a.1 q6 (nat_lit 4);
 let q15:=decide (q7.1 > numOf q8);
 let q12:T _:=.chk q3 <|
                          .ret (true);
 let q13:T _:=.chk q3 <|
                        .ret (true);
 let q4:T _:=.br q16 (
                        .br q15 (
                          .ret (false)) q12) q13;
 let q17:=(0:Int);
 let q9:=decide (q17≤IntKind.wrap IntKind.i64 q14∧IntKind.wrap IntKind.i64 q14<(↑q5:Int));
 let q18:=decide (q7.1<numOf q8);
  .br (!fewV q2) (
    .ret (true)) (
    .br (!lw_short a.2.1) (
      .ret (true)) (
      .br (!lw_short a.2.2.1) (
        .ret (true)) (
        .br (q7.2 != q17) (
          .ret (q7.2 == q10.2)) (
          .br (q10.2 != q17) (
            .ret (q7.2 == q10.2)) (
            .br (decide ((↑(clampL q5):Int) > q17)) (
              .chk q9 <|
              .br (decide (numOf q1<(↑(clampL q19):Int))) (
                .chk q9 <|
                .chk (decide (q17≤numOf q1∧numOf q1<(↑q19:Int))) <|
                .br (numOf q11 == (5:Int)) (
                  .chk (!decide (numOf q8=q17)) <|
                  .br (Int.tmod q7.1 (numOf q8) != q17) (
                    .ret (false)) (
                    .br (numOf q11 == (3:Int)) (
                      .br q18 (
                        .ret (false)) (
                        .br q16 (
                          .br q15 (
                            .ret (false)) (
                            .chk q3 <|
                            .ret (true))) q12)) q4)) (
                  .br (numOf q11 == (3:Int)) (
                    .br q18 (
                      .ret (false)) q4) (
                    .br q16 (
                      .br q15 (
                        .ret (false)) q13) (
                      .chk q3 <|
                      .ret (true))))) (
                .chk q3 <|
                .ret (true))) (
              .chk q3 <|
              .ret (true)))))))):=fun a=>by kernel_rfl
end Go.Proofs.YtkpligkggnjcoaaGreatDoor
/-! TWd -/
namespace Go.Proofs.YtkpligkggnjcoaaGreatDoor
open Ev K
set_option maxRecDepth 100000
namespace K
end K
end Go.Proofs.YtkpligkggnjcoaaGreatDoor
/-! TWe -/
namespace Go.Proofs.YtkpligkggnjcoaaGreatDoor
open Ev K
set_option maxRecDepth 100000
namespace K
theorem u8_bd (n:Int):0≤IntKind.u8.wrap n∧IntKind.u8.wrap n≤255:=by
 unfold IntKind.wrap
 simp [IntKind.bits,IntKind.signed]
 omega
end K
namespace K
end K
end Go.Proofs.YtkpligkggnjcoaaGreatDoor
/-! TM3 -/
namespace Go.Proofs.YtkpligkggnjcoaaGreatDoor
open Ev K
set_option maxRecDepth 100000
namespace K
theorem lr_eq (a:List Rul × Str × Str × Int × Int) (hw:0≤a.2.2.2.2):callT1 P BTM21 30 9 D_lr dB a=some true:=by
 obtain ⟨l,due,grade,m,what⟩:=a
 simp only at hw
 rw [fn_lr]
 simp only [Nat.zero_add,decN_encN]
 refine br_if (fun _=>rfl) (fun _=>br_if (fun _=>rfl) (fun _=>br_if (fun _=>rfl) (fun _=>?_)))
 have e2:(traceV l due grade m).2=(penV l due grade m).2:=by
  unfold traceV
  by_cases hp:(penV l due grade m).2=0
  ·rw [if_neg (fun k=>k hp)];exact hp.symm
  ·rw [if_pos hp]
 by_cases hp:(penV l due grade m).2=0
 ·have hl:=(checkT_ok (ask_ok (pen_ok hp).1).1).1
  have hlen:(traceV l due grade m).1.length≤1000000:=by
   unfold traceV
   rw [if_neg (fun k=>k hp)]
   have:=trc_len l due grade m l.length
   show (trc l due grade m l.length).2.length≤_;omega
  have hlast:=fun e=>trace_last (l:=l) (due:=due) (grade:=grade) (m:=m) hp (e:=e)
  have hG:lrG l due grade m what (penV l due grade m).1 true:=⟨by rw [← hp],hw,rfl⟩
  have fin:(T.chk (decide (lrG l due grade m what (penV l due grade m).1 true)) (T.ret true)).run=some true:=chk_step (decide_eq_true hG) rfl
  refine br_f (by rw [hp];rfl) (br_f (by rw [e2,hp];rfl) ?_)
  clear e2 hG
  generalize (penV l due grade m).1=n at hlast fin
  generalize (traceV l due grade m).1=X at hlen hlast
  cases hT:X.getLast? with
  | none=>
   have e:X=[]:=List.getLast?_eq_none_iff.1 hT
   subst e
   exact br_f rfl fin
  | some e=>
   obtain ⟨i,r,hi,hr,k5,k3,k4⟩:=hlast e hT
   obtain ⟨L,rfl⟩:=List.getLast?_eq_some_iff.1 hT
   have hle:(L ++ [e]).length=L.length+1:=by simp
   have hx:(L ++ [e])[L.length]?=some e:=by rw [List.getElem?_append_right (Nat.le_refl _),Nat.sub_self];rfl
   have hil:=(List.getElem?_eq_some_iff.1 hr).1
   have ew:IntKind.i64.wrap (((L.length+1:Nat):Int) - 1)=(L.length:Int):=by rw [w64_in (by omega) (by omega)];omega
   simp only [hle,cl (show L.length+1≤1000000 by omega),cl (show l.length≤1000000 by omega),ew,Int.toNat_natCast,eff_at hx,ne0,hi,rul_at hr,nr0,nr4]
   refine br_t (decide_eq_true (by omega)) (chk_step (decide_eq_true (by omega)) (br_t (decide_eq_true (by omega)) (chk_step (decide_eq_true (by omega)) (chk_step (decide_eq_true (by omega)) ?_))))
   refine br_if (fun h5=>?_) (fun h5=>?_)
   ·have h5:r.kind=5:=beq_iff_eq.1 h5
    obtain ⟨q1,q2⟩:=k5 h5
    refine chk_step (by simp;omega) (br_f (by rw [q2];rfl) (br_f (by rw [h5];rfl) (br_f (by rw [h5];rfl) fin)))
   ·refine br_if (fun h3=>?_) (fun h3=>?_)
    ·have h3:r.kind=3:=beq_iff_eq.1 h3
     have:=k3 h3
     exact br_f (decide_eq_false (by omega)) (br_f (by rw [h3];rfl) fin)
    ·refine br_if (fun h4=>?_) (fun h4=>fin)
     have:=k4 (beq_iff_eq.1 h4)
     exact br_f (decide_eq_false (by omega)) fin
 ·refine br_t (bne_iff_ne.2 hp) ?_
  show some _=_
  rw [e2];simp
end K
def D_lrw:=DecL.cons dTar (.cons dS (.cons dS (.cons dInt (.last (dW .u8) 0))))
namespace K
theorem lwTm_eq (a:List Rul × Str × Str × Int × Int):callT1 P BTM21 30 9 D_lrw dB a=some true:=
 lr_eq (a.1,a.2.1,a.2.2.1,a.2.2.2.1,IntKind.u8.wrap a.2.2.2.2) (u8_bd _).1
end K
end Go.Proofs.YtkpligkggnjcoaaGreatDoor
