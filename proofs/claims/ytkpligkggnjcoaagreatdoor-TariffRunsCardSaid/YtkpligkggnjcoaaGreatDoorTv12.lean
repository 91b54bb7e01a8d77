/- Parts of the proof, one behind the other: TH1, TH2, TNp, TN1, TN2, TN3. No conditions. -/
import Derived.Test.YtkpligkggnjcoaaGreatDoorTv11
/-! TH1 -/
namespace Go.Proofs.YtkpligkggnjcoaaGreatDoor
open Ev K
set_option maxRecDepth 100000
def D_pes:=DecL.cons dTar (.cons dS (.cons dS (.last dSpn 0)))
def S_en:=DecS.mk0 (.skips 8 (.unit (dLp 0 0 0 0) (.unit (dLp 1 0 0 0) (.cons (dInt) (.skips 11 (.cons (dRows rStg) (.cons (dInt) (.last (dInt) 28)))))))) (.flat 95 lStg (.flat 95 lStg .nil))
def X_en:=DecX.one (.exit 0) [8,9,10] (DecS.mk0 (.skips 8 (.unit (dLp 0 0 0 0) (.unit (dLp 1 0 0 0) (.last (dInt) 42)))) (.flat 95 lStg (.flat 95 lStg .nil)))
noncomputable def K.st_en:=loopT1 P BTWc1 30 45 25 [24,9,8,22,10,23] S_en X_en
theorem sl_en:∀ s,(K.st_en) s=T.run (
 let q11:=s.1.2.2.2;
 let q2:=(s.1.1,decF rStg (List.length s.1.2.1) fun i=>encF rStg s.1.2.1 ((0:Nat)+i),s.1.2.2.1,IntKind.wrap IntKind.i64 (q11+(1:Int)));
 let q3:=(0:Nat)+Int.toNat q11;
 let q6:=numOf (encF rStg s.1.2.1 q3 (0:Nat));
 let q5:=numOf (encF rStg s.1.2.1 q3 (nat_lit 1));
 let q4:=encF rStg s.1.2.1 q3 (nat_lit 2);
 let q1:=Sum.inl (q2,Stg.mk q6 q5 (numOf q4),Stg.mk q6 q5 (numOf q4),PUnit.unit);
 let q7:=decide (numOf q4 > Stg.pence s.2.2.1);
 let q8:=q11 == (0:Int);
 let q9:=Sum.inl (q2,Stg.mk q6 q5 (numOf q4),s.2.2.1,PUnit.unit);
 let q10:=Sum.inl (q2,s.2.1,Stg.mk q6 q5 (numOf q4),PUnit.unit);
  .br (decide (q11<s.1.2.2.1)) (
    .chk (decide ((0:Int)≤q11∧q11<(↑(List.length s.1.2.1):Int))) <|
    .br q8 (
      .br q8 (
        .ret q1) (
        .br q7 (
          .ret q1) (
          .ret q9))) (
      .br (decide (numOf q4<Stg.pence s.2.1)) (
        .br q8 (
          .ret q1) (
          .br q7 (
            .ret q1) (
            .ret q9))) (
        .br q8 (
          .ret q10) (
          .br q7 (
            .ret q10) (
            .ret (Sum.inl (q2,s.2.1,s.2.2.1,PUnit.unit))))))) (
    .ret (Sum.inr (s.1.1,s.2.1,s.2.2.1,PUnit.unit)))):=fun s=>by kernel_rfl
noncomputable def K.L_en:=lim K.st_en
noncomputable def BTH11:Tab:=BTWc1.addNode 45 25 (nodeE [24,9,8,22,10,23] S_en X_en (fun s=>.obs (K.L_en s) .ret))
theorem tTH11:TabOk P BTH11:=TabOk.addLoop (d:=30) okP tTWc1 (by kernel_rfl) (by kernel_rfl) (fun s r h=>obs_ret h)
def R_en:=dTup (.cons dStg (.cons dStg (.last dInt 0)))
theorem fn_en:∀ a,(callT1 P BTH11 30 45 D_pes R_en) a=T.run (
 .obs (L_en ((Prod.snd (stagesV (decN nRul (List.length a.1) fun i=>encN nRul a.1 ((0:Nat)+i)) a.2.1 a.2.2.1 a.2.2.2),decF rStg (List.length (Prod.fst (stagesV (decN nRul (List.length a.1) fun i=>encN nRul a.1 ((0:Nat)+i)) a.2.1 a.2.2.1 a.2.2.2))) fun i=>encF rStg (Prod.fst (stagesV (decN nRul (List.length a.1) fun i=>encN nRul a.1 ((0:Nat)+i)) a.2.1 a.2.2.1 a.2.2.2)) ((0:Nat)+i),(↑(clampL (List.length (Prod.fst (stagesV (decN nRul (List.length a.1) fun i=>encN nRul a.1 ((0:Nat)+i)) a.2.1 a.2.2.1 a.2.2.2)))):Int),(0:Int)),Stg.mk (0:Int) (0:Int) (0:Int),Stg.mk (0:Int) (0:Int) (0:Int),PUnit.unit)) fun x0=>
  .ret ((x0.2.1,x0.2.2.1,x0.1))):=fun a=>by kernel_rfl
def S_fl:=DecS.mk0 (.skips 11 (.cons (dRows rStg) (.cons (dInt) (.skips 10 (.cons (dRows rStg) (.cons (dInt) (.last (dInt) 22))))))) .nil
def X_fl:=DecX.or (DecX.one (.exit 0) [12] (DecS.mk0 (.skips 12 (.last (dInt) 35)) .nil)) (DecX.one .ret [8,9,10] (DecS.mk0 (.skips 8 (.cons (dInt) (.cons (dB) (.last (dInt) 37)))) .nil))
noncomputable def K.st_fl:=loopT1 P BTH11 30 47 25 [25,11,23,12,24] S_fl X_fl
theorem sl_fl:∀ s,(K.st_fl) s=T.run (
 let q3:=(0:Nat);
 let q2:=s.1.2.2.2.2;
 let q1:=Sum.inl ((decF rStg (List.length s.1.1) fun i=>encF rStg s.1.1 (q3+i),s.1.2.1,decF rStg (List.length s.1.2.2.1) fun i=>encF rStg s.1.2.2.1 (q3+i),s.1.2.2.2.1,IntKind.wrap IntKind.i64 (q2+(1:Int))),PUnit.unit);
  .br (decide (q2<s.1.2.2.2.1)) (
    .chk (decide ((0:Int)≤q2∧q2<(↑(List.length s.1.2.2.1):Int))) <|
    .br (decide (q2 > (0:Int))) (
      .chk (decide ((0:Int)≤IntKind.wrap IntKind.i64 (q2 - (1:Int))∧IntKind.wrap IntKind.i64 (q2 - (1:Int))<(↑(List.length s.1.1):Int))) <|
      .br (decide (numOf (encF rStg s.1.2.2.1 (q3+Int.toNat q2) (nat_lit 2))<numOf (encF rStg s.1.1 (q3+Int.toNat (IntKind.wrap IntKind.i64 (q2 - (1:Int)))) (nat_lit 2)))) (
        .ret (Sum.inr (Sum.inr ((numOf (encF rStg s.1.2.2.1 (q3+Int.toNat q2) q3),true,(0:Int)),PUnit.unit)))) (
        .ret q1)) (
      .ret q1)) (
    .ret (Sum.inr (Sum.inl (s.1.2.1,PUnit.unit))))):=fun s=>by kernel_rfl
noncomputable def K.L_fl:=lim K.st_fl
noncomputable def BTH12:Tab:=BTH11.addNode 47 25 (nodeE [25,11,23,12,24] S_fl X_fl (fun s=>.obs (K.L_fl s) .ret))
theorem tTH12:TabOk P BTH12:=TabOk.addLoop (d:=30) okP tTH11 (by kernel_rfl) (by kernel_rfl) (fun s r h=>obs_ret h)
def R_fl:=dTup (.cons dInt (.cons dB (.last dInt 0)))
theorem fn_fl:∀ a,(callT1 P BTH12 30 47 D_pes R_fl) a=T.run (
 let q1:=stagesV (decN nRul (List.length a.1) fun i=>encN nRul a.1 ((0:Nat)+i)) a.2.1 a.2.2.1 a.2.2.2;
 let q2:=List.length q1.1;
  .obs (L_fl ((decF rStg q2 fun i=>encF rStg q1.1 ((0:Nat)+i),q1.2,decF rStg q2 fun i=>encF rStg q1.1 ((0:Nat)+i),(↑(clampL q2):Int),(0:Int)),PUnit.unit)) fun x0=>
    .sum (x0) (fun x1=>
      .ret (((0:Int),false,x1.1))) (fun x1=>
      .ret x1.1)):=fun a=>by kernel_rfl
theorem fn_lw_span:∀ a,(callT1 P BTH12 30 42 (.last dSpn 0) dB) a=T.run (
 .br (decide (Spn.hi a<Spn.lo a)) (
  .ret (true)) (
  .br (decide (Spn.lo a<(0:Int))) (
   .ret (true)) (
   .br (decide (Spn.hi a > (65536:Int))) (
    .ret (true)) (
    .br (decide (IntKind.wrap IntKind.i64 (Spn.hi a - Spn.lo a)<(300:Int))) (
     .ret (true)) (
     .ret (decide (IntKind.wrap IntKind.i64 (Spn.hi a - Spn.lo a) ≥ (5000:Int)))))))):=fun a=>by kernel_rfl
noncomputable def K.lw_span (a:Spn):Bool:=(if (decide (Spn.hi a<Spn.lo a))=true then true else (if (decide (Spn.lo a<(0:Int)))=true then true else (if (decide (Spn.hi a > (65536:Int)))=true then true else (if (decide (IntKind.wrap IntKind.i64 (Spn.hi a - Spn.lo a)<(300:Int)))=true then true else decide (IntKind.wrap IntKind.i64 (Spn.hi a - Spn.lo a) ≥ (5000:Int))))))
theorem eq_lw_span (a:Spn):(callT1 P BTH12 30 42 (.last dSpn 0) dB) a=some (K.lw_span a):=(fn_lw_span a).trans (T.br_some rfl (T.br_some rfl (T.br_some rfl (T.br_some rfl rfl))))
noncomputable def BTH13:Tab:=BTH12.addCall 42 (callE (.last dSpn 0) dB (fun a=>.ret (K.lw_span a)))
theorem tTH13:TabOk P BTH13:=TabOk.addFn (d:=30) okP tTH12 (fun a r h=>by rw [eq_lw_span];exact congrArg some (ret_some h))
theorem fn_lw_brief:∀ a,(callT1 P BTH13 30 29 (.last dSpn 0) dB) a=T.run (
 .br (decide (Spn.hi a<Spn.lo a)) (
  .ret (true)) (
  .br (decide (Spn.lo a<(0:Int))) (
   .ret (true)) (
   .br (decide (Spn.hi a > (65536:Int))) (
    .ret (true)) (
    .br (decide (IntKind.wrap IntKind.i64 (Spn.hi a - Spn.lo a)<(60:Int))) (
     .ret (true)) (
     .ret (decide (IntKind.wrap IntKind.i64 (Spn.hi a - Spn.lo a) ≥ (5000:Int)))))))):=fun a=>by kernel_rfl
noncomputable def K.lw_brief (a:Spn):Bool:=(if (decide (Spn.hi a<Spn.lo a))=true then true else (if (decide (Spn.lo a<(0:Int)))=true then true else (if (decide (Spn.hi a > (65536:Int)))=true then true else (if (decide (IntKind.wrap IntKind.i64 (Spn.hi a - Spn.lo a)<(60:Int)))=true then true else decide (IntKind.wrap IntKind.i64 (Spn.hi a - Spn.lo a) ≥ (5000:Int))))))
theorem eq_lw_brief (a:Spn):(callT1 P BTH13 30 29 (.last dSpn 0) dB) a=some (K.lw_brief a):=(fn_lw_brief a).trans (T.br_some rfl (T.br_some rfl (T.br_some rfl (T.br_some rfl rfl))))
noncomputable def BTH14:Tab:=BTH13.addCall 29 (callE (.last dSpn 0) dB (fun a=>.ret (K.lw_brief a)))
theorem tTH14:TabOk P BTH14:=TabOk.addFn (d:=30) okP tTH13 (fun a r h=>by rw [eq_lw_brief];exact congrArg some (ret_some h))
end Go.Proofs.YtkpligkggnjcoaaGreatDoor
/-! TH2 -/
namespace Go.Proofs.YtkpligkggnjcoaaGreatDoor
open Ev K
set_option maxRecDepth 100000
namespace K
def lowP:List Stg→Stg
 | []=>⟨0,0,0⟩
 | x :: t=>lowL x t
def highP:List Stg→Stg
 | []=>⟨0,0,0⟩
 | x :: t=>highL x t
theorem lowP_snoc {l:List Stg} (h:l≠[]) (y:Stg):lowP (l ++ [y])=if y.pence<(lowP l).pence then y else lowP l:=by
 cases l with
 | nil=>exact absurd rfl h
 | cons x t=>
  show lowL x (t ++ [y])=_
  unfold lowL;rw [List.foldl_append];rfl
theorem highP_snoc {l:List Stg} (h:l≠[]) (y:Stg):highP (l ++ [y])=if y.pence > (highP l).pence then y else highP l:=by
 cases l with
 | nil=>exact absurd rfl h
 | cons x t=>
  show highL x (t ++ [y])=_
  unfold highL;rw [List.foldl_append];rfl
theorem L_en_eq (e:Int) (L:List Stg) (hL:L.length≤100000):L_en ((e,L,(L.length:Int),0),⟨0,0,0⟩,⟨0,0,0⟩,())=some (e,lowP L,highP L,()):=by
 have e1:lowP L=lowP (L.take L.length):=by rw [List.take_length]
 have e2:highP L=highP (L.take L.length):=by rw [List.take_length]
 rw [e1,e2]
 refine lim_all (fun i:Nat=>((e,L,(L.length:Int),(i:Int)),lowP (L.take i),highP (L.take i),())) L.length (fun i hi=>?_) ?_
 ·have hy:=List.getElem?_eq_getElem hi
  rw [sl_en,List.take_add_one,hy]
  generalize L[i]=x at hy
  simp only [Int.toNat_natCast,Nat.zero_add,stg_at hy,ng0,ng1,ng2,decF_encF,wi i (by omega),Option.toList_some]
  refine br_t (decide_eq_true (by omega)) (chk_step (decide_eq_true (by omega)) ?_)
  by_cases h0:i=0
  ·subst h0
   exact br_t rfl (br_t rfl rfl)
  ·have hne:L.take i≠[]:=fun h=>by
    have h2:(L.take i).length=0:=by rw [h];rfl
    rw [List.length_take] at h2
    omega
   have hb:((i:Int) == 0)=false:=beq_eq_false_iff_ne.2 (by omega)
   rw [lowP_snoc hne,highP_snoc hne]
   refine br_f hb ?_
   by_cases h1:x.pence<(lowP (L.take i)).pence
   ·rw [if_pos h1]
    refine br_t (decide_eq_true h1) (br_f hb ?_)
    by_cases h2:x.pence > (highP (L.take i)).pence
    ·rw [if_pos h2];exact br_t (decide_eq_true h2) rfl
    ·rw [if_neg h2];exact br_f (decide_eq_false h2) rfl
   ·rw [if_neg h1]
    refine br_f (decide_eq_false h1) (br_f hb ?_)
    by_cases h2:x.pence > (highP (L.take i)).pence
    ·rw [if_pos h2];exact br_t (decide_eq_true h2) rfl
    ·rw [if_neg h2];exact br_f (decide_eq_false h2) rfl
 ·rw [sl_en]
  exact br_f (decide_eq_false (by dsimp only;omega)) rfl
def endsV (l:List Rul) (due grade:Str) (a:Spn):Stg × Stg × Int:=(lowP (stagesV l due grade a).1,highP (stagesV l due grade a).1,(stagesV l due grade a).2)
theorem stagesV_len (l:List Rul) (due grade:Str) (a:Spn):(stagesV l due grade a).1.length≤5000:=by
 unfold stagesV
 by_cases h:errS l due grade a=0
 ·rw [if_neg (fun k=>k h)];exact stgs_len (errS_ok h).2
 ·rw [if_pos h];exact Nat.zero_le _
theorem en_eq (a:List Rul × Str × Str × Spn):callT1 P BTH11 30 45 D_pes R_en a=some (endsV a.1 a.2.1 a.2.2.1 a.2.2.2):=by
 rw [fn_en]
 have hl:=stagesV_len a.1 a.2.1 a.2.2.1 a.2.2.2
 simp only [Nat.zero_add,decN_encN,decF_encF]
 rw [cl (by omega)]
 exact obs_step (L_en_eq _ _ (by omega)) rfl
def fallP (L:List Stg) (i:Nat):Bool:=match i with
 | 0=>false
 | j+1=>decide ((L.getD (j+1) default).pence<(L.getD j default).pence)
theorem L_fl_eq (e:Int) (L:List Stg) (hL:L.length≤100000):L_fl ((L,e,L,(L.length:Int),0),())=some (match first (fallP L) L.length with
  | some j=>.inr (((L.getD j default).lo,true,0),())
  | none=>.inl (e,())):=by
 refine (lim_find (fun i:Nat=>((L,e,L,(L.length:Int),(i:Int)),())) L.length (fallP L) (fun j=>.inr (((L.getD j default).lo,true,0),())) (.inl (e,())) (fun i hi hp=>?_) (fun i hi hp=>?_) ?_).trans ?_
 ·rw [sl_fl]
  have hy:=List.getElem?_eq_getElem hi
  rw [List.getD_eq_getElem?_getD]
  cases i with
  | zero=>cases hp
  | succ j=>
   have hz:=List.getElem?_eq_getElem (l:=L) (i:=j) (by omega)
   unfold fallP at hp
   simp only [List.getD_eq_getElem?_getD] at hp
   rw [hy,hz] at hp
   rw [hy]
   generalize L[j+1]=x at hy hp
   generalize L[j]=y at hz hp
   have hw:IntKind.i64.wrap (((j+1:Nat):Int) - 1)=(j:Int):=by rw [w64_in (by omega) (by omega)];omega
   simp only [hw,Int.toNat_natCast,Nat.zero_add,stg_at hy,stg_at hz,ng0,ng2]
   exact br_t (decide_eq_true (by omega)) (chk_step (decide_eq_true (by omega)) (br_t (decide_eq_true (by omega)) (chk_step (decide_eq_true (by omega)) (br_t hp rfl))))
 ·rw [sl_fl]
  have hy:=List.getElem?_eq_getElem hi
  cases i with
  | zero=>
   simp only [Nat.zero_add,decF_encF,wi 0 (by omega)]
   exact br_t (decide_eq_true (by omega)) (chk_step (decide_eq_true (by omega)) (br_f rfl rfl))
  | succ j=>
   have hz:=List.getElem?_eq_getElem (l:=L) (i:=j) (by omega)
   unfold fallP at hp
   simp only [List.getD_eq_getElem?_getD] at hp
   rw [hy,hz] at hp
   generalize L[j+1]=x at hy hp
   generalize L[j]=y at hz hp
   have hw:IntKind.i64.wrap (((j+1:Nat):Int) - 1)=(j:Int):=by rw [w64_in (by omega) (by omega)];omega
   simp only [hw,Int.toNat_natCast,Nat.zero_add,stg_at hy,stg_at hz,ng0,ng2,decF_encF,wi (j+1) (by omega)]
   exact br_t (decide_eq_true (by omega)) (chk_step (decide_eq_true (by omega)) (br_t (decide_eq_true (by omega)) (chk_step (decide_eq_true (by omega)) (br_f hp rfl))))
 ·rw [sl_fl]
  simp only [Nat.zero_add,decF_encF]
  exact br_f (decide_eq_false (by omega)) rfl
 ·cases first (fallP L) L.length<;>rfl
def fallsV (l:List Rul) (due grade:Str) (a:Spn):Int × Bool × Int:=match first (fallP (stagesV l due grade a).1) (stagesV l due grade a).1.length with
 | some j=>(((stagesV l due grade a).1.getD j default).lo,true,0)
 | none=>(0,false,(stagesV l due grade a).2)
theorem fl_eq (a:List Rul × Str × Str × Spn):callT1 P BTH12 30 47 D_pes R_fl a=some (fallsV a.1 a.2.1 a.2.2.1 a.2.2.2):=by
 rw [fn_fl]
 have hl:=stagesV_len a.1 a.2.1 a.2.2.1 a.2.2.2
 simp only [Nat.zero_add,decN_encN,decF_encF]
 rw [cl (by omega)]
 refine obs_step (L_fl_eq _ _ (by omega)) ?_
 unfold fallsV
 cases first (fallP (stagesV a.1 a.2.1 a.2.2.1 a.2.2.2).1) (stagesV a.1 a.2.1 a.2.2.1 a.2.2.2).1.length<;>rfl
end K
noncomputable def BTH21:Tab:=BTH14.addCall 45 (callE D_pes R_en (fun a=>.ret (K.endsV a.1 a.2.1 a.2.2.1 a.2.2.2)))
theorem tTH21:TabOk P BTH21:=TabOk.addPC tTH14 (fun a _r h=>call_of okP tTH11 ((K.en_eq a).trans h))
noncomputable def BTH22:Tab:=BTH21.addCall 47 (callE D_pes R_fl (fun a=>.ret (K.fallsV a.1 a.2.1 a.2.2.1 a.2.2.2)))
theorem tTH22:TabOk P BTH22:=TabOk.addPC tTH21 (fun a _r h=>call_of okP tTH12 ((K.fl_eq a).trans h))
end Go.Proofs.YtkpligkggnjcoaaGreatDoor
/-! TNp -/
namespace Go.Proofs.YtkpligkggnjcoaaGreatDoor
open Ev K
set_option maxRecDepth 100000
namespace K
def nextAt (L:List Stg) (lo:Int):Nat→Int
 | 0=>lo
 | i+1=>(L.getD i default).hi+1
theorem nextAt_cons (y:Stg) (t:List Stg) (lo:Int) (i:Nat):nextAt (y :: t) lo (i+1)=nextAt t (y.hi+1) i:=by cases i<;>rfl
theorem runs_at {f:Int→Int}:∀ {L:List Stg} {lo next:Int},Runs f lo L next→(∀ (i:Nat) x,L[i]?=some x→x.lo=nextAt L lo i∧x.lo≤x.hi∧∀ m,x.lo≤m→m≤x.hi→f m=x.pence)∧next=nextAt L lo L.length
 | [],lo,next,h=>⟨fun i x hx=>by simp at hx,h⟩
 | y :: t,lo,next,h=>by
  obtain ⟨h1,h2,h3,h4⟩:=h
  obtain ⟨g1,g2⟩:=runs_at h4
  refine ⟨fun i x hx=>?_,?_⟩
  ·cases i with
   | zero=>
    simp only [List.getElem?_cons_zero,Option.some.injEq] at hx
    subst hx
    exact ⟨h1,by omega,fun m a b=>h3 m (by omega) b⟩
   | succ i=>
    rw [nextAt_cons]
    exact g1 i x (by simpa using hx)
  ·rw [List.length_cons,nextAt_cons];exact g2
theorem runs_hi {f:Int→Int}:∀ {L:List Stg} {lo next:Int},Runs f lo L next→lo≤next∧∀ x ∈ L,lo≤x.lo∧x.hi+1≤next
 | [],lo,next,h=>⟨by have h:next=lo:=h;omega,fun x hx=>by cases hx⟩
 | y :: t,lo,next,h=>by
  obtain ⟨h1,h2,h3,h4⟩:=h
  obtain ⟨g0,g1⟩:=runs_hi h4
  refine ⟨by omega,fun x hx=>?_⟩
  rcases List.mem_cons.1 hx with rfl | hx
  ·omega
  ·have:=g1 x hx;omega
theorem lowP_le {L:List Stg} {x:Stg} (h:x ∈ L):(lowP L).pence≤x.pence:=by
 cases L with
 | nil=>cases h
 | cons y t=>
  have:=lowL_le t y
  rcases List.mem_cons.1 h with rfl | h
  ·exact this.1
  ·exact this.2 x h
theorem highP_ge {L:List Stg} {x:Stg} (h:x ∈ L):x.pence≤(highP L).pence:=by
 cases L with
 | nil=>cases h
 | cons y t=>
  have:=highL_ge t y
  rcases List.mem_cons.1 h with rfl | h
  ·exact this.1
  ·exact this.2 x h
def downAt (L:List Stg) (i:Nat):Bool:=(List.range i).any (fallP L)
theorem downAt_succ (L:List Stg) (i:Nat):downAt L (i+1)=(downAt L i || fallP L i):=by
 unfold downAt;rw [List.range_succ,List.any_append];simp
theorem downAt_all (L:List Stg):downAt L L.length=(first (fallP L) L.length).isSome:=by
 unfold downAt first
 apply Bool.eq_iff_iff.2
 rw [List.any_eq_true,List.find?_isSome]
theorem fallP_at {L:List Stg} {j:Nat} {x y:Stg} (hx:L[j+1]?=some x) (hy:L[j]?=some y):fallP L (j+1)=decide (x.pence<y.pence):=by
 unfold fallP
 simp only [List.getD_eq_getElem?_getD,hx,hy];rfl
end K
end Go.Proofs.YtkpligkggnjcoaaGreatDoor
/-! TN1 -/
namespace Go.Proofs.YtkpligkggnjcoaaGreatDoor
open Ev K
set_option maxRecDepth 100000
def D_ln:=DecL.cons dTar (.cons dS (.cons dS (.cons dSpn (.cons dInt (.last dInt 0)))))
def oLn:DecB (List Rul × Spn × Stg × Stg × Unit):=.flat 25 lTar (.flat 53 lSpn (.flat 95 lStg (.flat 95 lStg .nil)))
def oLx:DecB (List Rul × Spn × Stg × Stg × Stg × Unit):=.flat 25 lTar (.flat 53 lSpn (.flat 95 lStg (.flat 95 lStg (.flat 95 lStg .nil))))
def S_ln:=DecS.mk0 (.skip (.cons (dS) (.cons (dS) (.skip (.cons (dInt) (.cons (dInt) (.unit (dLp 0 0 0 0) (.skips 2 (.unit (dLp 1 0 0 0) (.skips 3 (.cons (dB) (.cons (dRows rStg) (.skip (.unit (dLp 2 0 0 0) (.unit (dLp 3 0 0 0) (.skips 2 (.cons (dB) (.skip (.cons (dInt) (.cons (dInt) (.cons (dInt) (.cons (dB) (.cons (dB) (.last (dInt) 224)))))))))))))))))))))))) oLn
def S_lx:=DecS.mk0 (.skip (.cons (dS) (.cons (dS) (.skip (.cons (dInt) (.cons (dInt) (.unit (dLp 0 0 0 0) (.skips 2 (.unit (dLp 1 0 0 0) (.skips 3 (.cons (dB) (.cons (dRows rStg) (.skip (.unit (dLp 2 0 0 0) (.unit (dLp 3 0 0 0) (.skips 2 (.cons (dB) (.skip (.cons (dInt) (.cons (dInt) (.cons (dInt) (.cons (dB) (.cons (dB) (.cons (dInt) (.unit (dLp 4 0 0 0) (.tops 223)))))))))))))))))))))))))) oLx
def X_lr:=DecX.one .ret [12] (DecS.mk0 (.skips 12 (.last (dB) 239)) .nil)
def X_lx:=DecX.or (DecX.one .normal [27,4,2,1,6,5,23,22,26,14,25,17,16,24,20,9,13] S_ln) X_lr
theorem fn_ln28:∀ s,(cutT1 P BTH22 30 11 224 S_lx X_lx) s=T.run (
 let q3:=s.2.2.2.2.2.1;
 let q1:=Sum.inl ((s.1.1,s.1.2.1,s.1.2.2.1,s.1.2.2.2.1,s.1.2.2.2.2.1,decF rStg (List.length s.1.2.2.2.2.2.1) fun i=>encF rStg s.1.2.2.2.2.2.1 ((0:Nat)+i),s.1.2.2.2.2.2.2.1,s.1.2.2.2.2.2.2.2.1,s.1.2.2.2.2.2.2.2.2.1,IntKind.wrap IntKind.i64 (Stg.hi q3+(1:Int)),s.1.2.2.2.2.2.2.2.2.2.2.1,s.1.2.2.2.2.2.2.2.2.2.2.2.1,s.1.2.2.2.2.2.2.2.2.2.2.2.2.1),decN nRul (List.length s.2.1) fun i=>encN nRul s.2.1 ((0:Nat)+i),s.2.2.1,s.2.2.2.1,s.2.2.2.2.1,PUnit.unit);
 let q2:=penV (decN nRul (List.length s.2.1) fun i=>encN nRul s.2.1 ((0:Nat)+i)) s.1.1 s.1.2.1 s.1.2.2.1;
  .br (decide (s.1.2.2.1 ≥ Stg.lo q3)) (
    .br (decide (s.1.2.2.1≤Stg.hi q3)) (
      .br (Prod.snd q2 != (0:Int)) (
        .ret (Sum.inr (false,PUnit.unit))) (
        .br (Prod.fst q2 != Stg.pence q3) (
          .ret (Sum.inr (false,PUnit.unit))) (
          .ret q1))) (
      .ret q1)) (
    .ret q1)):=fun s=>by kernel_rfl
noncomputable def K.ln28 (s:(List UInt8 × List UInt8 × Int × Int × Bool × List Stg × Bool × Int × Int × Int × Bool × Bool × Int × Unit) × List Rul × Spn × Stg × Stg × Stg × Unit):(List UInt8 × List UInt8 × Int × Int × Bool × List Stg × Bool × Int × Int × Int × Bool × Bool × Int) × List Rul × Spn × Stg × Stg × Unit ⊕ Bool × Unit:=(if (decide (s.1.2.2.1 ≥ Stg.lo s.2.2.2.2.2.1))=true then (if (decide (s.1.2.2.1≤Stg.hi s.2.2.2.2.2.1))=true then (if (Prod.snd (penV (decN nRul (List.length s.2.1) fun i=>encN nRul s.2.1 ((0:Nat)+i)) s.1.1 s.1.2.1 s.1.2.2.1) != (0:Int))=true then Sum.inr (false,PUnit.unit) else (if (Prod.fst (penV (decN nRul (List.length s.2.1) fun i=>encN nRul s.2.1 ((0:Nat)+i)) s.1.1 s.1.2.1 s.1.2.2.1) != Stg.pence s.2.2.2.2.2.1)=true then Sum.inr (false,PUnit.unit) else Sum.inl ((s.1.1,s.1.2.1,s.1.2.2.1,s.1.2.2.2.1,s.1.2.2.2.2.1,decF rStg (List.length s.1.2.2.2.2.2.1) fun i=>encF rStg s.1.2.2.2.2.2.1 ((0:Nat)+i),s.1.2.2.2.2.2.2.1,s.1.2.2.2.2.2.2.2.1,s.1.2.2.2.2.2.2.2.2.1,IntKind.wrap IntKind.i64 (Stg.hi s.2.2.2.2.2.1+(1:Int)),s.1.2.2.2.2.2.2.2.2.2.2.1,s.1.2.2.2.2.2.2.2.2.2.2.2.1,s.1.2.2.2.2.2.2.2.2.2.2.2.2.1),decN nRul (List.length s.2.1) fun i=>encN nRul s.2.1 ((0:Nat)+i),s.2.2.1,s.2.2.2.1,s.2.2.2.2.1,PUnit.unit))) else Sum.inl ((s.1.1,s.1.2.1,s.1.2.2.1,s.1.2.2.2.1,s.1.2.2.2.2.1,decF rStg (List.length s.1.2.2.2.2.2.1) fun i=>encF rStg s.1.2.2.2.2.2.1 ((0:Nat)+i),s.1.2.2.2.2.2.2.1,s.1.2.2.2.2.2.2.2.1,s.1.2.2.2.2.2.2.2.2.1,IntKind.wrap IntKind.i64 (Stg.hi s.2.2.2.2.2.1+(1:Int)),s.1.2.2.2.2.2.2.2.2.2.2.1,s.1.2.2.2.2.2.2.2.2.2.2.2.1,s.1.2.2.2.2.2.2.2.2.2.2.2.2.1),decN nRul (List.length s.2.1) fun i=>encN nRul s.2.1 ((0:Nat)+i),s.2.2.1,s.2.2.2.1,s.2.2.2.2.1,PUnit.unit)) else Sum.inl ((s.1.1,s.1.2.1,s.1.2.2.1,s.1.2.2.2.1,s.1.2.2.2.2.1,decF rStg (List.length s.1.2.2.2.2.2.1) fun i=>encF rStg s.1.2.2.2.2.2.1 ((0:Nat)+i),s.1.2.2.2.2.2.2.1,s.1.2.2.2.2.2.2.2.1,s.1.2.2.2.2.2.2.2.2.1,IntKind.wrap IntKind.i64 (Stg.hi s.2.2.2.2.2.1+(1:Int)),s.1.2.2.2.2.2.2.2.2.2.2.1,s.1.2.2.2.2.2.2.2.2.2.2.2.1,s.1.2.2.2.2.2.2.2.2.2.2.2.2.1),decN nRul (List.length s.2.1) fun i=>encN nRul s.2.1 ((0:Nat)+i),s.2.2.1,s.2.2.2.1,s.2.2.2.2.1,PUnit.unit))
theorem eq_ln28 (s:(List UInt8 × List UInt8 × Int × Int × Bool × List Stg × Bool × Int × Int × Int × Bool × Bool × Int × Unit) × List Rul × Spn × Stg × Stg × Stg × Unit):(cutT1 P BTH22 30 11 224 S_lx X_lx) s=some (K.ln28 s):=(fn_ln28 s).trans (T.br_some (T.br_some (T.br_some rfl (T.br_some rfl rfl)) rfl) rfl)
noncomputable def BTN11:Tab:=(BTH22.addNode 11 224 (nodeE [27,4,2,1,6,5,23,22,26,14,25,17,16,24,20,9,13,28] S_lx X_lx (fun a=>.ret (K.ln28 a)))).addCut 11 224
theorem tTN11:TabOk P BTN11:=TabOk.addCut (d:=30) okP tTH22 (by kernel_rfl) (fun a r h=>by rw [eq_ln28];exact congrArg some (ret_some h))
theorem cu_ln22:∀ s,(cutT1 P BTN11 30 11 176 S_lx X_lx) s=T.run (
 let q8:=s.1.2.2.2.2.2.1;
 let q4:=(0:Nat);
 let q9:=s.1.2.2.2.2.2.2.2.1;
 let q5:=s.1.2.2.2.2.2.2.2.2.1;
 let q10:=s.2.2.2.2.2.1;
 let q1:=ln28 ((s.1.1,s.1.2.1,s.1.2.2.1,s.1.2.2.2.1,s.1.2.2.2.2.1,decF rStg (List.length q8) fun i=>encF rStg q8 (q4+i),s.1.2.2.2.2.2.2.1,q9,q5,s.1.2.2.2.2.2.2.2.2.2.1,s.1.2.2.2.2.2.2.2.2.2.2.1,s.1.2.2.2.2.2.2.2.2.2.2.2.1,s.1.2.2.2.2.2.2.2.2.2.2.2.2.1,PUnit.unit),decN nRul (List.length s.2.1) fun i=>encN nRul s.2.1 (q4+i),s.2.2.1,s.2.2.2.1,s.2.2.2.2.1,q10,PUnit.unit);
 let q2:=ln28 ((s.1.1,s.1.2.1,s.1.2.2.1,s.1.2.2.2.1,s.1.2.2.2.2.1,decF rStg (List.length q8) fun i=>encF rStg q8 (q4+i),s.1.2.2.2.2.2.2.1,q9,q5,s.1.2.2.2.2.2.2.2.2.2.1,s.1.2.2.2.2.2.2.2.2.2.2.1,true,s.1.2.2.2.2.2.2.2.2.2.2.2.2.1,PUnit.unit),decN nRul (List.length s.2.1) fun i=>encN nRul s.2.1 (q4+i),s.2.2.1,s.2.2.2.1,s.2.2.2.2.1,q10,PUnit.unit);
 let q3:=decide (Stg.pence q10 ≥ s.1.2.2.2.1);
 let q6:=Sum.inr (false,PUnit.unit);
 let q7:=q5 == (5:Int);
  .br (q5 == (0:Int)) (
    .br q3 (
      .br (!s.1.2.2.2.2.2.2.2.2.2.2.2.1) (
        .br (q9 != Stg.lo q10) (
          .ret q6) (
          .br q7 (
            .br q3 (
              .ret q6) (
              .sum q2 (fun x0=>
                .ret (Sum.inl ((x0.1.1,x0.1.2.1,x0.1.2.2.1,x0.1.2.2.2.1,x0.1.2.2.2.2.1,decF rStg (List.length x0.1.2.2.2.2.2.1) fun i=>encF rStg x0.1.2.2.2.2.2.1 (q4+i),x0.1.2.2.2.2.2.2),decN nRul (List.length x0.2.1) fun i=>encN nRul x0.2.1 (q4+i),x0.2.2.1,x0.2.2.2.1,x0.2.2.2.2.1,PUnit.unit))) (fun x0=>
                .ret (Sum.inr (x0.1,PUnit.unit))))) (
            .sum q2 (fun x0=>
              .ret (Sum.inl ((x0.1.1,x0.1.2.1,x0.1.2.2.1,x0.1.2.2.2.1,x0.1.2.2.2.2.1,decF rStg (List.length x0.1.2.2.2.2.2.1) fun i=>encF rStg x0.1.2.2.2.2.2.1 (q4+i),x0.1.2.2.2.2.2.2),decN nRul (List.length x0.2.1) fun i=>encN nRul x0.2.1 (q4+i),x0.2.2.1,x0.2.2.2.1,x0.2.2.2.2.1,PUnit.unit))) (fun x0=>
              .ret (Sum.inr (x0.1,PUnit.unit)))))) (
        .br q7 (
          .br q3 (
            .ret q6) (
            .sum q1 (fun x0=>
              .ret (Sum.inl ((x0.1.1,x0.1.2.1,x0.1.2.2.1,x0.1.2.2.2.1,x0.1.2.2.2.2.1,decF rStg (List.length x0.1.2.2.2.2.2.1) fun i=>encF rStg x0.1.2.2.2.2.2.1 (q4+i),x0.1.2.2.2.2.2.2),decN nRul (List.length x0.2.1) fun i=>encN nRul x0.2.1 (q4+i),x0.2.2.1,x0.2.2.2.1,x0.2.2.2.2.1,PUnit.unit))) (fun x0=>
              .ret (Sum.inr (x0.1,PUnit.unit))))) (
          .sum q1 (fun x0=>
            .ret (Sum.inl ((x0.1.1,x0.1.2.1,x0.1.2.2.1,x0.1.2.2.2.1,x0.1.2.2.2.2.1,decF rStg (List.length x0.1.2.2.2.2.2.1) fun i=>encF rStg x0.1.2.2.2.2.2.1 (q4+i),x0.1.2.2.2.2.2.2),decN nRul (List.length x0.2.1) fun i=>encN nRul x0.2.1 (q4+i),x0.2.2.1,x0.2.2.2.1,x0.2.2.2.2.1,PUnit.unit))) (fun x0=>
            .ret (Sum.inr (x0.1,PUnit.unit)))))) (
      .br q7 (
        .br q3 (
          .ret q6) (
          .sum q1 (fun x0=>
            .ret (Sum.inl ((x0.1.1,x0.1.2.1,x0.1.2.2.1,x0.1.2.2.2.1,x0.1.2.2.2.2.1,decF rStg (List.length x0.1.2.2.2.2.2.1) fun i=>encF rStg x0.1.2.2.2.2.2.1 (q4+i),x0.1.2.2.2.2.2.2),decN nRul (List.length x0.2.1) fun i=>encN nRul x0.2.1 (q4+i),x0.2.2.1,x0.2.2.2.1,x0.2.2.2.2.1,PUnit.unit))) (fun x0=>
            .ret (Sum.inr (x0.1,PUnit.unit))))) (
        .sum q1 (fun x0=>
          .ret (Sum.inl ((x0.1.1,x0.1.2.1,x0.1.2.2.1,x0.1.2.2.2.1,x0.1.2.2.2.2.1,decF rStg (List.length x0.1.2.2.2.2.2.1) fun i=>encF rStg x0.1.2.2.2.2.2.1 (q4+i),x0.1.2.2.2.2.2.2),decN nRul (List.length x0.2.1) fun i=>encN nRul x0.2.1 (q4+i),x0.2.2.1,x0.2.2.2.1,x0.2.2.2.2.1,PUnit.unit))) (fun x0=>
          .ret (Sum.inr (x0.1,PUnit.unit)))))) (
    .br q7 (
      .br q3 (
        .ret q6) (
        .sum q1 (fun x0=>
          .ret (Sum.inl ((x0.1.1,x0.1.2.1,x0.1.2.2.1,x0.1.2.2.2.1,x0.1.2.2.2.2.1,decF rStg (List.length x0.1.2.2.2.2.2.1) fun i=>encF rStg x0.1.2.2.2.2.2.1 (q4+i),x0.1.2.2.2.2.2.2),decN nRul (List.length x0.2.1) fun i=>encN nRul x0.2.1 (q4+i),x0.2.2.1,x0.2.2.2.1,x0.2.2.2.2.1,PUnit.unit))) (fun x0=>
          .ret (Sum.inr (x0.1,PUnit.unit))))) (
      .sum q1 (fun x0=>
        .ret (Sum.inl ((x0.1.1,x0.1.2.1,x0.1.2.2.1,x0.1.2.2.2.1,x0.1.2.2.2.2.1,decF rStg (List.length x0.1.2.2.2.2.2.1) fun i=>encF rStg x0.1.2.2.2.2.2.1 (q4+i),x0.1.2.2.2.2.2.2),decN nRul (List.length x0.2.1) fun i=>encN nRul x0.2.1 (q4+i),x0.2.2.1,x0.2.2.2.1,x0.2.2.2.2.1,PUnit.unit))) (fun x0=>
        .ret (Sum.inr (x0.1,PUnit.unit)))))):=fun s=>by kernel_rfl
end Go.Proofs.YtkpligkggnjcoaaGreatDoor
/-! TN2 -/
namespace Go.Proofs.YtkpligkggnjcoaaGreatDoor
open Ev K
set_option maxRecDepth 100000
namespace K
def runG (l:List Rul) (due grade:Str) (mass n frm h:Int) (before:Bool) (x:Stg):Prop:=
 (h=0∨h=5)∧(h=0→x.pence ≥ n→before=false→frm=x.lo)∧(h=5→¬ x.pence ≥ n)∧(x.lo≤mass→mass≤x.hi→penV l due grade mass=(x.pence,0))∧0≤x.hi∧x.hi≤65536
instance (l:List Rul) (due grade:Str) (mass n frm h:Int) (before:Bool) (x:Stg):Decidable (runG l due grade mass n frm h before x):=by unfold runG;infer_instance
theorem ln28_eq {l:List Rul} {due grade:Str} {mass:Int} {x:Stg} (hm:x.lo≤mass→mass≤x.hi→penV l due grade mass=(x.pence,0)) (hx:0≤x.hi∧x.hi≤65536) (n:Int) (up:Bool) (L:List Stg) (falls:Bool) (frm h next:Int) (down before:Bool) (i:Int) (s:Spn) (low high:Stg) :
  ln28 ((due,grade,mass,n,up,L,falls,frm,h,next,down,before,i,()),l,s,low,high,x,())=.inl ((due,grade,mass,n,up,L,falls,frm,h,x.hi+1,down,before,i),l,s,low,high,()):=by
 unfold ln28
 have ew:IntKind.i64.wrap (x.hi+1)=x.hi+1:=w64_in (by omega) (by omega)
 simp only [Nat.zero_add,decN_encN,decF_encF,ew]
 by_cases h1:mass ≥ x.lo
 ·rw [if_pos (decide_eq_true h1)]
  by_cases h2:mass≤x.hi
  ·rw [if_pos (decide_eq_true h2),hm h1 h2,if_neg (by simp),if_neg (by simp)]
  ·rw [if_neg (by simpa using h2)]
 ·rw [if_neg (by simpa using h1)]
theorem ln22_eq {l:List Rul} {due grade:Str} {mass n frm h:Int} {before:Bool} {x:Stg} (hg:runG l due grade mass n frm h before x) (up:Bool) (L:List Stg) (falls:Bool) (next:Int) (down:Bool) (i:Int) (s:Spn) (low high:Stg) :
  cutT1 P BTN11 30 11 176 S_lx X_lx ((due,grade,mass,n,up,L,falls,frm,h,next,down,before,i,()),l,s,low,high,x,()) =
   some (.inl ((due,grade,mass,n,up,L,falls,frm,h,x.hi+1,down,before || (decide (h=0)&&decide (x.pence ≥ n)),i),l,s,low,high,())):=by
 obtain ⟨g1,g2,g3,g4,g5⟩:=hg
 rw [cu_ln22]
 simp only [Nat.zero_add,decN_encN,decF_encF,ln28_eq g4 g5]
 rcases g1 with rfl | rfl
 ·refine br_t rfl ?_
  by_cases hp:x.pence ≥ n
  ·refine br_t (decide_eq_true hp) ?_
   rw [decide_eq_true hp]
   cases before with
   | false=>exact br_t rfl (br_f (by rw [g2 rfl hp rfl];simp) (br_f rfl (T.run_inl _ _ _)))
   | true=>exact br_f rfl (br_f rfl (T.run_inl _ _ _))
  ·refine br_f (decide_eq_false hp) (br_f rfl ((T.run_inl _ _ _).trans ?_))
   rw [decide_eq_false hp,Bool.and_false,Bool.or_false];rfl
 ·refine br_f rfl (br_t rfl (br_f (decide_eq_false (g3 rfl)) ((T.run_inl _ _ _).trans ?_)))
  rw [decide_eq_false (show ¬ (5:Int)=0 by decide),Bool.false_and,Bool.or_false];rfl
end K
noncomputable def BTN21:Tab:=(BTN11.addNode 11 176 (nodeE [27,4,2,1,6,5,23,22,26,14,25,17,16,24,20,9,13,28] S_lx X_lx (fun a=>.chk (decide (K.runG a.2.1 a.1.1 a.1.2.1 a.1.2.2.1 a.1.2.2.2.1 a.1.2.2.2.2.2.2.2.1 a.1.2.2.2.2.2.2.2.2.1 a.1.2.2.2.2.2.2.2.2.2.2.2.1 a.2.2.2.2.2.1)) (.ret (.inl ((a.1.1,a.1.2.1,a.1.2.2.1,a.1.2.2.2.1,a.1.2.2.2.2.1,a.1.2.2.2.2.2.1,a.1.2.2.2.2.2.2.1,a.1.2.2.2.2.2.2.2.1,a.1.2.2.2.2.2.2.2.2.1,a.2.2.2.2.2.1.hi+1,a.1.2.2.2.2.2.2.2.2.2.2.1,a.1.2.2.2.2.2.2.2.2.2.2.2.1 || (decide (a.1.2.2.2.2.2.2.2.2.1=0)&&decide (a.2.2.2.2.2.1.pence ≥ a.1.2.2.2.1)),a.1.2.2.2.2.2.2.2.2.2.2.2.2.1),a.2.1,a.2.2.1,a.2.2.2.1,a.2.2.2.2.1,())))))).addCut 11 176
theorem tTN21:TabOk P BTN21:=TabOk.addCut (d:=30) okP tTN11 (by kernel_rfl) (fun a r h=>by obtain ⟨g,e⟩:=chk_ret h;subst e;obtain ⟨⟨_,_,_,_,_,_,_,_,_,_,_,_,_,_⟩,_,_,_,_,_,_⟩:=a;exact K.ln22_eq (of_decide_eq_true g) _ _ _ _ _ _ _ _ _)
def X_ln:=DecX.or (DecX.one (.exit 0) [9,13,20,24,25,26] (DecS.mk0 (.skips 9 (.unit (dLp 0 0 0 0) (.skips 3 (.cons (dB) (.skips 6 (.cons (dB) (.skips 3 (.cons (dInt) (.cons (dB) (.last (dB) 225)))))))))) (.flat 53 lSpn .nil))) X_lr
noncomputable def K.st_ln:=loopT1 P BTN21 30 11 129 [27,4,2,1,6,5,23,22,26,14,25,17,16,24,20,9,13] S_ln X_ln
theorem sl_ln:∀ s,(K.st_ln) s=T.run (
 let q12:=(0:Nat);
 let q4:=decN nRul (List.length s.2.1) fun i=>encN nRul s.2.1 (q12+i);
 let q28:=s.1.2.2.1;
 let q14:=s.1.2.2.2.1;
 let q15:=s.1.2.2.2.2.2.2.2.1;
 let q9:=s.1.2.2.2.2.2.2.2.2.1;
 let q11:=s.1.2.2.2.2.2.2.2.2.2.2.2.1;
 let q13:=s.1.2.2.2.2.2.1;
 let q5:=s.1.2.2.2.2.2.2.2.2.2.2.2.2;
 let q23:=q12+Int.toNat q5;
 let q6:=encF rStg q13 q23 (nat_lit 1);
 let q2:=encF rStg q13 q23 (nat_lit 2);
 let q1:=decide (runG q4 s.1.1 s.1.2.1 q28 q14 q15 q9 q11 (Stg.mk (numOf (encF rStg q13 q23 q12)) (numOf q6) (numOf q2)));
 let q25:=List.length q13;
 let q3:=decF rStg q25 fun i=>encF rStg q13 (q12+i);
 let q20:=(0:Int);
 let q16:=(1:Int);
 let q7:=decide (q20≤IntKind.wrap IntKind.i64 (q5 - q16)∧IntKind.wrap IntKind.i64 (q5 - q16)<(↑q25:Int));
 let q8:=Sum.inr (Sum.inr (false,PUnit.unit));
 let q10:=encF rStg q13 (q12+Int.toNat (IntKind.wrap IntKind.i64 (q5 - q16))) (nat_lit 2);
 let q17:=s.1.2.2.2.2.2.2.1;
 let q18:=List.length q3;
 let q19:=List.length q4;
 let q21:=s.1.2.2.2.2.1;
 let q22:=s.2.2.2.2.1;
 let q24:=s.1.2.2.2.2.2.2.2.2.2.2.1;
 let q26:=s.2.2.2.1;
 let q27:=s.1.2.2.2.2.2.2.2.2.2.1;
 let q29:=q5+q16;
 let q30:=decide (q5 > q20);
 let q31:=decide (numOf q2<Stg.pence q26);
 let q32:=decide (numOf q2 > Stg.pence q22);
  .br (decide (q5<(↑(clampL q25):Int))) (
    .chk (decide (q20≤q5∧q5<(↑q25:Int))) <|
    .br (numOf (encF rStg q13 q23 q12) != q27) (
      .ret q8) (
      .br (decide (numOf q6<q27)) (
        .ret q8) (
        .br q30 (
          .chk q7 <|
          .br (numOf q10 == numOf q2) (
            .ret q8) (
            .br q31 (
              .ret q8) (
              .br q32 (
                .ret q8) (
                .br q24 (
                  .chk q1 <|
                  .ret (Sum.inl ((s.1.1,s.1.2.1,q28,q14,q21,decF rStg q18 fun i=>encF rStg q3 (q12+i),q17,q15,q9,numOf q6+q16,true,q11 || decide (q9=q20)&&decide (numOf q2 ≥ q14),IntKind.wrap IntKind.i64 q29),decN nRul q19 fun i=>encN nRul q4 (q12+i),s.2.2.1,q26,q22,PUnit.unit))) (
                  .br q30 (
                    .chk q7 <|
                    .chk q1 <|
                    .ret (Sum.inl ((s.1.1,s.1.2.1,q28,q14,q21,decF rStg q18 fun i=>encF rStg q3 (q12+i),q17,q15,q9,numOf q6+q16,decide (numOf q2<numOf q10),q11 || decide (q9=q20)&&decide (numOf q2 ≥ q14),IntKind.wrap IntKind.i64 q29),decN nRul q19 fun i=>encN nRul q4 (q12+i),s.2.2.1,q26,q22,PUnit.unit))) (
                    .chk q1 <|
                    .ret (Sum.inl ((s.1.1,s.1.2.1,q28,q14,q21,decF rStg q18 fun i=>encF rStg q3 (q12+i),q17,q15,q9,numOf q6+q16,false,q11 || decide (q9=q20)&&decide (numOf q2 ≥ q14),IntKind.wrap IntKind.i64 q29),decN nRul q19 fun i=>encN nRul q4 (q12+i),s.2.2.1,q26,q22,PUnit.unit)))))))) (
          .br q31 (
            .ret q8) (
            .br q32 (
              .ret q8) (
              .br q24 (
                .chk q1 <|
                .ret (Sum.inl ((s.1.1,s.1.2.1,q28,q14,q21,decF rStg q18 fun i=>encF rStg q3 (q12+i),q17,q15,q9,numOf q6+q16,true,q11 || decide (q9=q20)&&decide (numOf q2 ≥ q14),IntKind.wrap IntKind.i64 q29),decN nRul q19 fun i=>encN nRul q4 (q12+i),s.2.2.1,q26,q22,PUnit.unit))) (
                .br q30 (
                  .chk q7 <|
                  .chk q1 <|
                  .ret (Sum.inl ((s.1.1,s.1.2.1,q28,q14,q21,decF rStg q18 fun i=>encF rStg q3 (q12+i),q17,q15,q9,numOf q6+q16,decide (numOf q2<numOf q10),q11 || decide (q9=q20)&&decide (numOf q2 ≥ q14),IntKind.wrap IntKind.i64 q29),decN nRul q19 fun i=>encN nRul q4 (q12+i),s.2.2.1,q26,q22,PUnit.unit))) (
                  .chk q1 <|
                  .ret (Sum.inl ((s.1.1,s.1.2.1,q28,q14,q21,decF rStg q18 fun i=>encF rStg q3 (q12+i),q17,q15,q9,numOf q6+q16,false,q11 || decide (q9=q20)&&decide (numOf q2 ≥ q14),IntKind.wrap IntKind.i64 q29),decN nRul q19 fun i=>encN nRul q4 (q12+i),s.2.2.1,q26,q22,PUnit.unit)))))))))) (
    .ret (Sum.inr (Sum.inl ((q21,q17,q27,q24,q11),s.2.2.1,PUnit.unit))))):=fun s=>by kernel_rfl
noncomputable def K.L_ln:=lim K.st_ln
noncomputable def BTN22:Tab:=BTN21.addNode 11 129 (nodeE [27,4,2,1,6,5,23,22,26,14,25,17,16,24,20,9,13] S_ln X_ln (fun s=>.obs (K.L_ln s) .ret))
theorem tTN22:TabOk P BTN22:=TabOk.addLoop (d:=30) okP tTN21 (by kernel_rfl) (by kernel_rfl) (fun s r h=>obs_ret h)
theorem fn_ln:∀ a,(callT1 P BTN22 30 11 D_ln dB) a=T.run (
 let q1:=decN nRul (List.length a.1) fun i=>encN nRul a.1 ((0:Nat)+i);
 let q6:=a.2.2.2.1;
 let q4:=stagesV q1 a.2.1 a.2.2.1 q6;
 let q8:=q4.1;
 let q5:=Prod.snd (fallsV q1 a.2.1 a.2.2.1 q6);
 let q3:=fromV q1 a.2.1 a.2.2.1 q6 a.2.2.2.2.2;
 let q7:=(0:Int);
 let q2:=L_ln ((a.2.1,a.2.2.1,a.2.2.2.2.1,a.2.2.2.2.2,true,decF rStg (List.length q8) fun i=>encF rStg q8 ((0:Nat)+i),q5.1,q3.1,q3.2,Spn.lo q6,false,q3.2 == (5:Int),q7),decN nRul (List.length a.1) fun i=>encN nRul a.1 ((0:Nat)+i),q6,Prod.fst (endsV q1 a.2.1 a.2.2.1 q6),highP q8,PUnit.unit);
  .br (!fewV q1) (
    .ret (true)) (
    .br (!lw_short a.2.1) (
      .ret (true)) (
      .br (!lw_short a.2.2.1) (
        .ret (true)) (
        .br (!lw_span q6) (
          .ret (true)) (
          .br (q4.2 != q7) (
            .ret ((↑(clampL (List.length q8)):Int) == q7)) (
            .br (q4.2 != q7) (
              .ret (false)) (
              .br (q5.2 != q7) (
                .ret (false)) (
                .br (q3.2 != q7) (
                  .br (q3.2 != (5:Int)) (
                    .ret (false)) (
                    .obs q2 fun x0=>
                      .sum (x0) (fun x1=>
                        .br x1.1.1 (
                          .br (x1.1.2.2.1 == IntKind.wrap IntKind.i64 (Spn.hi x1.2.1+(1:Int))) (
                            .br (x1.1.2.2.2.1 == x1.1.2.1) (
                              .ret x1.1.2.2.2.2) (
                              .ret (false))) (
                            .ret (false))) (
                          .ret (false))) (fun x1=>
                        .ret x1.1))) (
                  .obs q2 fun x0=>
                    .sum (x0) (fun x1=>
                      .br x1.1.1 (
                        .br (x1.1.2.2.1 == IntKind.wrap IntKind.i64 (Spn.hi x1.2.1+(1:Int))) (
                          .br (x1.1.2.2.2.1 == x1.1.2.1) (
                            .ret x1.1.2.2.2.2) (
                            .ret (false))) (
                          .ret (false))) (
                        .ret (false))) (fun x1=>
                      .ret x1.1)))))))))):=fun a=>by kernel_rfl
end Go.Proofs.YtkpligkggnjcoaaGreatDoor
/-! TN3 -/
namespace Go.Proofs.YtkpligkggnjcoaaGreatDoor
open Ev K
set_option maxRecDepth 100000
namespace K
def bfAt (h n:Int) (L:List Stg):Nat→Bool
 | 0=>h == 5
 | i+1=>bfAt h n L i || (decide (h=0)&&decide ((L.getD i default).pence ≥ n))
theorem L_ln_eq (l:List Rul) (due grade:Str) (mass n:Int) (up:Bool) (L:List Stg) (falls:Bool) (frm h:Int) (s:Spn) (low high:Stg) (hL:L.length≤100000) (_hs:0≤s.lo)
  (h1:∀ (i:Nat) x,L[i]?=some x→x.lo=nextAt L s.lo i∧x.lo≤x.hi∧(0≤x.hi∧x.hi≤65536)∧(x.lo≤mass→mass≤x.hi→penV l due grade mass=(x.pence,0))∧¬ x.pence<low.pence∧¬ x.pence > high.pence)
  (h2:Apart L) (h3:h=0∨h=5)
  (h4:∀ (i:Nat) x,L[i]?=some x→(h=0→x.pence ≥ n→bfAt h n L i=false→frm=x.lo)∧(h=5→¬ x.pence ≥ n)) :
  L_ln ((due,grade,mass,n,up,L,falls,frm,h,s.lo,false,h == 5,0),l,s,low,high,())=some (.inl ((up,falls,nextAt L s.lo L.length,downAt L L.length,bfAt h n L L.length),s,())):=by
 refine lim_all (fun i:Nat=>((due,grade,mass,n,up,L,falls,frm,h,nextAt L s.lo i,downAt L i,bfAt h n L i,(i:Int)),l,s,low,high,())) L.length (fun i hi=>?_) ?_
 ·have hy:=List.getElem?_eq_getElem hi
  obtain ⟨a1,a2,a3,a4,a5,a6⟩:=h1 i _ hy
  obtain ⟨b1,b2⟩:=h4 i _ hy
  have e1:nextAt L s.lo (i+1)=L[i].hi+1:=by show (L.getD i default).hi+1=_;rw [List.getD_eq_getElem?_getD,hy];rfl
  have e2:bfAt h n L (i+1)=(bfAt h n L i || (decide (h=0)&&decide (L[i].pence ≥ n))):=by show (bfAt h n L i || (decide (h=0)&&decide ((L.getD i default).pence ≥ n)))=_;rw [List.getD_eq_getElem?_getD,hy];rfl
  rw [e1,e2,downAt_succ,sl_ln]
  generalize hxe:L[i]=x at hy a1 a2 a3 a4 a5 a6 b1 b2
  have hG:runG l due grade mass n frm h (bfAt h n L i) x:=⟨h3,b1,b2,a4,a3⟩
  simp only [Int.toNat_natCast,Nat.zero_add,stg_at hy,ng0,ng1,ng2,decF_encF,decN_encN,wi i (by omega),cl (show L.length≤1000000 by omega)]
  refine br_t (decide_eq_true (by omega)) (chk_step (decide_eq_true (by omega)) (br_f (by rw [a1];simp) (br_f (decide_eq_false (by omega)) ?_)))
  cases i with
  | zero=>
   exact br_f (decide_eq_false (by omega)) (br_f (decide_eq_false a5) (br_f (decide_eq_false a6) (br_f rfl (br_f (decide_eq_false (by omega)) (chk_step (decide_eq_true hG) rfl)))))
  | succ j=>
   have hj:j<L.length:=by omega
   have hz:=List.getElem?_eq_getElem hj
   have hap:=h2 j _ _ hz hy
   have hf:=fallP_at hy hz
   rw [hf]
   generalize L[j]=y at hz hap
   have hw:IntKind.i64.wrap (((j+1:Nat):Int) - 1)=(j:Int):=by rw [w64_in (by omega) (by omega)];omega
   simp only [hw,Int.toNat_natCast,stg_at hz,ng2]
   refine br_t (decide_eq_true (by omega)) (chk_step (decide_eq_true (by omega)) (br_f (beq_eq_false_iff_ne.2 hap) (br_f (decide_eq_false a5) (br_f (decide_eq_false a6) ?_))))
   cases hd:downAt L (j+1) with
   | true=>exact br_t rfl (chk_step (decide_eq_true hG) rfl)
   | false=>exact br_f rfl (br_t (decide_eq_true (by omega)) (chk_step (decide_eq_true (by omega)) (chk_step (decide_eq_true hG) rfl)))
 ·rw [sl_ln]
  simp only [cl (show L.length≤1000000 by omega)]
  exact br_f (decide_eq_false (by omega)) rfl
theorem bf_from (n : Int) (L : List Stg) {frm h : Int} (hr : (frm, h) = match fromL L n with
    | some m => (m, 0)
    | none => (0, 5)) : (h = 0 ∨ h = 5) ∧ (∀ (i : Nat) x, L[i]? = some x → (h = 0 → x.pence ≥ n → bfAt h n L i = false → frm = x.lo) ∧ (h = 5 → ¬ x.pence ≥ n)) ∧ bfAt h n L L.length = true := by
  have mono : ∀ i k, bfAt h n L i = true → i ≤ k → bfAt h n L k = true := by
    intro i k hi hk
    induction k with
    | zero => obtain rfl : i = 0 := by omega
              exact hi
    | succ k ih =>
      by_cases e : i = k + 1
      · subst e; exact hi
      · show (bfAt h n L k || _) = true
        rw [ih (by omega)]; rfl
  unfold fromL at hr
  have hg : (fun s : Stg => decide (s.pence ≥ n)) = geP n := rfl
  rw [hg] at hr
  cases hf : L.find? (geP n) with
  | none =>
    rw [hf] at hr
    simp only [Option.map_none, Prod.mk.injEq] at hr
    obtain ⟨rfl, rfl⟩ := hr
    rw [List.find?_eq_none] at hf
    refine ⟨.inr rfl, fun i x hx => ⟨fun h => absurd h (by decide), fun _ hp => hf x (List.mem_of_getElem? hx) (decide_eq_true hp)⟩, mono 0 _ rfl (Nat.zero_le _)⟩
  | some y =>
    rw [hf] at hr
    simp only [Option.map_some, Prod.mk.injEq] at hr
    obtain ⟨rfl, rfl⟩ := hr
    obtain ⟨hp, k, hk, rfl, hbef⟩ := List.find?_eq_some_iff_getElem.1 hf
    have hk' := List.getElem?_eq_getElem hk
    have hat : bfAt 0 n L (k + 1) = true := by
      show (bfAt 0 n L k || (decide ((0 : Int) = 0) && decide ((L.getD k default).pence ≥ n))) = true
      have : decide ((L.getD k default).pence ≥ n) = true := by rw [List.getD_eq_getElem?_getD, hk']; exact hp
      rw [this]; simp
    refine ⟨.inl rfl, fun i x hx => ⟨fun _ hx2 hb => ?_, fun h => by cases h⟩, mono (k + 1) _ hat (by omega)⟩
    by_cases h1 : i < k
    · have h3 := hbef i h1
      have hi := (List.getElem?_eq_some_iff.1 hx).2
      rw [hi] at h3
      have : geP n x = true := decide_eq_true hx2
      rw [this] at h3; cases h3
    · by_cases h2 : k < i
      · have := mono (k + 1) i hat (by omega)
        rw [hb] at this; cases this
      · obtain rfl : i = k := by omega
        rw [hk'] at hx; injection hx with hx; rw [hx]
theorem ln_eq (a:List Rul × Str × Str × Spn × Int × Int):callT1 P BTN22 30 11 D_ln dB a=some true:=by
 obtain ⟨l,due,grade,s,mass,n⟩:=a
 rw [fn_ln]
 simp only [Nat.zero_add,decN_encN,decF_encF]
 refine br_if (fun _=>rfl) (fun _=>br_if (fun _=>rfl) (fun _=>br_if (fun _=>rfl) (fun _=>br_if (fun _=>rfl) (fun _=>?_))))
 have hst:stagesV l due grade s=if errS l due grade s≠0 then ([],errS l due grade s) else (stgs l due grade s,0):=rfl
 by_cases he:errS l due grade s=0
 ·rw [if_neg (fun k=>k he)] at hst
  have hfr:fromV l due grade s n=match fromL (stgs l due grade s) n with
   | some m=>(m,0)
   | none=>(0,5):=by
   first | (unfold fromV;rw [if_neg (fun k=>k he)];done) | (unfold fromV;rw [if_neg (fun k=>k he)];cases fromL (stgs l due grade s) n<;>rfl)
  have hfl:fallsV l due grade s=match first (fallP (stgs l due grade s)) (stgs l due grade s).length with
   | some j=>(((stgs l due grade s).getD j default).lo,true,0)
   | none=>(0,false,0):=by
   first | (unfold fallsV;rw [hst];done) | (unfold fallsV;rw [hst];show (match first (fallP (stgs l due grade s)) (stgs l due grade s).length with | some j=>_ | none=>_)=_;cases first (fallP (stgs l due grade s)) (stgs l due grade s).length<;>rfl)
  have hlo:(endsV l due grade s).1=lowP (stgs l due grade s):=by unfold endsV;rw [hst]
  have hlen:=stgs_len (l:=l) (due:=due) (grade:=grade) (errS_ok he).2
  obtain ⟨b1,b2,b3,b4⟩:=span_ok (errS_ok he).2
  obtain ⟨k1,k2⟩:=st_ok (fun m=>penceL l due grade m) s.lo (s.hi+1 - s.lo).toNat
  have ek:s.lo+(((s.hi+1 - s.lo).toNat:Nat):Int)=s.hi+1:=by omega
  rw [ek] at k1
  have k1:Runs (fun m=>penceL l due grade m) s.lo (stgs l due grade s) (s.hi+1):=k1
  have k2:Apart (stgs l due grade s):=k2
  have f1:(fallsV l due grade s).2.2=0:=by rw [hfl];cases first (fallP (stgs l due grade s)) (stgs l due grade s).length<;>rfl
  have f2:(fallsV l due grade s).2.1=downAt (stgs l due grade s) (stgs l due grade s).length:=by
   rw [hfl,downAt_all];cases first (fallP (stgs l due grade s)) (stgs l due grade s).length<;>rfl
  have g:=bf_from n (stgs l due grade s) (frm:=(fromV l due grade s n).1) (h:=(fromV l due grade s n).2) hfr
  rw [hst,hlo,f2]
  generalize fromV l due grade s n=fv at g
  obtain ⟨frm,h⟩:=fv
  simp only at g ⊢
  obtain ⟨g1,g2,g3⟩:=g
  generalize stgs l due grade s=L at *
  obtain ⟨r1,r2⟩:=runs_at k1
  obtain ⟨_,r3⟩:=runs_hi k1
  have hpen:∀ m,0≤m∧m≤65536→penV l due grade m=(penceL l due grade m,0):=fun m hm=>by
   unfold penV;rw [if_neg (fun k=>k (errS_ok he).1),if_pos hm]
  have hloop:=L_ln_eq l due grade mass n true L (downAt L L.length) frm h s (lowP L) (highP L) (by omega) b1 (fun i x hx=>by
   obtain ⟨q1,q2,q3⟩:=r1 i x hx
   have hm:=List.mem_of_getElem? hx
   have q4:=r3 x hm
   refine ⟨q1,q2,by omega,fun m1 m2=>?_,?_,?_⟩
   ·rw [hpen mass (by omega)]
    exact congrArg (·,(0:Int)) (q3 mass m1 m2)
   ·have:=lowP_le hm;omega
   ·have:=highP_ge hm;omega) k2 g1 g2
  have ew:IntKind.i64.wrap (s.hi+1)=s.hi+1:=w64_in (by omega) (by omega)
  refine br_f rfl (br_f rfl (br_f (by rw [f1];rfl) ?_))
  rw [g3,← r2] at hloop
  rcases g1 with rfl | rfl
  ·refine br_f rfl (obs_step hloop ((T.run_inl _ _ _).trans (br_t rfl (br_t (by rw [ew];simp) (br_t (by simp) rfl)))))
  ·refine br_t rfl (br_f rfl (obs_step hloop ((T.run_inl _ _ _).trans (br_t rfl (br_t (by rw [ew];simp) (br_t (by simp) rfl))))))
 ·rw [if_pos he] at hst
  rw [hst]
  exact br_t (bne_iff_ne.2 he) rfl
end K
end Go.Proofs.YtkpligkggnjcoaaGreatDoor
