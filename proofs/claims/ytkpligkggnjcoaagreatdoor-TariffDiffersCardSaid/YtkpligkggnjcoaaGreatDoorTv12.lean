/- Parts of the proof, one behind the other: TWd, TWe, RA1, RA2, RA3, RA4, RA5, RA8, RA7, RA6, RA9, RAa, RAb, RAc, RAd, RAe, RAf, RAg, RAh, RAi, TH1, TH2, TNp, TO1, TO2, TO3, TOp, TO4, TO5. No conditions. -/
import Derived.Test.YtkpligkggnjcoaaGreatDoorTv11
/-! TWd -/
namespace Go.Proofs.YtkpligkggnjcoaaGreatDoor
open Ev K
set_option maxRecDepth 100000
namespace K
end K
end Go.Proofs.YtkpligkggnjcoaaGreatDoor
/-! TWe -/
namespace Go.Proofs.YtkpligkggnjcoaaGreatDoor
open Ev K
set_option maxRecDepth 100000
namespace K
theorem bill_at {l:List Rul} {c:List Lot} {i:Nat} {x:Chrg} (h:(billL l c)[i]?=some x):∃ d,x=⟨d,allL l d c⟩∧∀ c',(billL l c')[i]?=some ⟨d,allL l d c'⟩:=by
 unfold billL at h ⊢
 rw [List.getElem?_map] at h
 obtain ⟨d,hd,rfl⟩:=Option.map_eq_some_iff.1 h
 exact ⟨d,rfl,fun c'=>by rw [List.getElem?_map,hd];rfl⟩
end K
namespace K
end K
end Go.Proofs.YtkpligkggnjcoaaGreatDoor
/-! RA1 -/
namespace Go.Proofs.YtkpligkggnjcoaaGreatDoor
open Ev K
set_option maxRecDepth 100000
namespace K
end K
end Go.Proofs.YtkpligkggnjcoaaGreatDoor
/-! RA2 -/
namespace Go.Proofs.YtkpligkggnjcoaaGreatDoor
open Ev K
set_option maxRecDepth 100000
namespace K
end K
end Go.Proofs.YtkpligkggnjcoaaGreatDoor
/-! RA3 -/
namespace Go.Proofs.YtkpligkggnjcoaaGreatDoor
open Ev K
set_option maxRecDepth 100000
end Go.Proofs.YtkpligkggnjcoaaGreatDoor
/-! RA4 -/
namespace Go.Proofs.YtkpligkggnjcoaaGreatDoor
open Ev K
set_option maxRecDepth 100000
namespace K
end K
end Go.Proofs.YtkpligkggnjcoaaGreatDoor
/-! RA5 -/
namespace Go.Proofs.YtkpligkggnjcoaaGreatDoor
open Ev K
set_option maxRecDepth 100000
namespace K
end K
end Go.Proofs.YtkpligkggnjcoaaGreatDoor
/-! RA8 -/
namespace Go.Proofs.YtkpligkggnjcoaaGreatDoor
open Ev K
set_option maxRecDepth 100000
end Go.Proofs.YtkpligkggnjcoaaGreatDoor
/-! RA7 -/
namespace Go.Proofs.YtkpligkggnjcoaaGreatDoor
open Ev K
set_option maxRecDepth 100000
end Go.Proofs.YtkpligkggnjcoaaGreatDoor
/-! RA6 -/
namespace Go.Proofs.YtkpligkggnjcoaaGreatDoor
open Ev K
set_option maxRecDepth 100000
end Go.Proofs.YtkpligkggnjcoaaGreatDoor
/-! RA9 -/
namespace Go.Proofs.YtkpligkggnjcoaaGreatDoor
open Ev K
set_option maxRecDepth 100000
namespace K
end K
end Go.Proofs.YtkpligkggnjcoaaGreatDoor
/-! RAa -/
namespace Go.Proofs.YtkpligkggnjcoaaGreatDoor
open Ev K
set_option maxRecDepth 100000
namespace K
end K
end Go.Proofs.YtkpligkggnjcoaaGreatDoor
/-! RAb -/
namespace Go.Proofs.YtkpligkggnjcoaaGreatDoor
open Ev K
set_option maxRecDepth 100000
end Go.Proofs.YtkpligkggnjcoaaGreatDoor
/-! RAc -/
namespace Go.Proofs.YtkpligkggnjcoaaGreatDoor
open Ev K
set_option maxRecDepth 100000
namespace K
end K
end Go.Proofs.YtkpligkggnjcoaaGreatDoor
/-! RAd -/
namespace Go.Proofs.YtkpligkggnjcoaaGreatDoor
open Ev K
set_option maxRecDepth 100000
end Go.Proofs.YtkpligkggnjcoaaGreatDoor
/-! RAe -/
namespace Go.Proofs.YtkpligkggnjcoaaGreatDoor
open Ev K
set_option maxRecDepth 100000
namespace K
def rtrOk (a:List Rul × Str × Str × Int):Prop:=checkT a.1=0∧0≤a.2.2.2∧a.2.2.2≤65536
instance (a:List Rul × Str × Str × Int):Decidable (rtrOk a):=by unfold rtrOk;infer_instance
end K
end Go.Proofs.YtkpligkggnjcoaaGreatDoor
/-! RAf -/
namespace Go.Proofs.YtkpligkggnjcoaaGreatDoor
open Ev K
set_option maxRecDepth 100000
namespace K
end K
end Go.Proofs.YtkpligkggnjcoaaGreatDoor
/-! RAg -/
namespace Go.Proofs.YtkpligkggnjcoaaGreatDoor
open Ev K
set_option maxRecDepth 100000
namespace K
end K
end Go.Proofs.YtkpligkggnjcoaaGreatDoor
/-! RAh -/
namespace Go.Proofs.YtkpligkggnjcoaaGreatDoor
open Ev K
set_option maxRecDepth 100000
end Go.Proofs.YtkpligkggnjcoaaGreatDoor
/-! RAi -/
namespace Go.Proofs.YtkpligkggnjcoaaGreatDoor
open Ev K
set_option maxRecDepth 100000
namespace K
def rsgOk (a:List Rul × Str × Str × Spn):Prop:=checkT a.1=0∧spanL a.2.2.2=0
instance (a:List Rul × Str × Str × Spn):Decidable (rsgOk a):=by unfold rsgOk;infer_instance
theorem decN_appG {ρ:Type} (R:RowN ρ) (n m:Nat) (f g:Nat→Nat→AV):decN R (n+m) (appG n f g)=decN R n f ++ decN R m g:=by
 apply List.ext_getElem?
 intro i
 simp only [decN,List.getElem?_map]
 by_cases h:i<n
 ·have e:appG n f g i=f i:=by
   funext k;unfold appG;rw [show Nat.ble n i=false by rw [← Bool.not_eq_true,Nat.ble_eq];omega]
  rw [List.getElem?_append_left (by simp;exact h),List.getElem?_map,List.getElem?_range (by omega),List.getElem?_range h,Option.map_some,Option.map_some,e]
 ·have e:appG n f g i=g (i - n):=by
   funext k;unfold appG;rw [show Nat.ble n i=true by rw [Nat.ble_eq];omega]
  rw [List.getElem?_append_right (by simp;omega),List.getElem?_map]
  simp only [List.length_map,List.length_range]
  by_cases h2:i<n+m
  ·rw [List.getElem?_range h2,List.getElem?_range (by omega),Option.map_some,Option.map_some,e]
  ·rw [List.getElem?_eq_none (by simp;omega),List.getElem?_eq_none (by simp;omega)];rfl
theorem decN_part {ρ:Type} (R:RowN ρ) (l:List ρ) (a n:Nat) (h:a+n≤l.length):decN R n (fun i=>encN R l (a+i))=(l.drop a).take n:=by
 apply List.ext_getElem?
 intro i
 simp only [decN,List.getElem?_map]
 by_cases hi:i<n
 ·rw [List.getElem?_range hi,Option.map_some,List.getElem?_take,if_pos hi,List.getElem?_drop]
  have hy:l[a+i]?=some l[a+i]:=List.getElem?_eq_getElem (by omega)
  rw [encN_at hy,R.good,hy]
 ·rw [List.getElem?_eq_none (by simp;omega),List.getElem?_take,if_neg hi];rfl
end K
end Go.Proofs.YtkpligkggnjcoaaGreatDoor
/-! TH1 -/
namespace Go.Proofs.YtkpligkggnjcoaaGreatDoor
open Ev K
set_option maxRecDepth 100000
def D_pes:=DecL.cons dTar (.cons dS (.cons dS (.last dSpn 0)))
def S_en:=DecS.mk0 (.skips 8 (.unit (dLp 0 0 0 0) (.unit (dLp 1 0 0 0) (.cons (dInt) (.skips 11 (.cons (dRows rStg) (.cons (dInt) (.last (dInt) 28)))))))) (.flat 95 lStg (.flat 95 lStg .nil))
def X_en:=DecX.one (.exit 0) [8,9,10] (DecS.mk0 (.skips 8 (.unit (dLp 0 0 0 0) (.unit (dLp 1 0 0 0) (.last (dInt) 42)))) (.flat 95 lStg (.flat 95 lStg .nil)))
noncomputable def K.st_en:=loopT1 P BTWc1 30 45 25 [24,9,8,22,10,23] S_en X_en
theorem sl_en:∀ s,(K.st_en) s=T.run (
 let q11:=s.1.2.2.2;
 let q2:=(s.1.1,decF rStg (List.length s.1.2.1) fun i=>encF rStg s.1.2.1 ((0:Nat)+i),s.1.2.2.1,IntKind.wrap IntKind.i64 (q11+(1:Int)));
 let q3:=(0:Nat)+Int.toNat q11;
 let q6:=numOf (encF rStg s.1.2.1 q3 (0:Nat));
 let q5:=numOf (encF rStg s.1.2.1 q3 (nat_lit 1));
 let q4:=encF rStg s.1.2.1 q3 (nat_lit 2);
 let q1:=Sum.inl (q2,Stg.mk q6 q5 (numOf q4),Stg.mk q6 q5 (numOf q4),PUnit.unit);
 let q7:=decide (numOf q4 > Stg.pence s.2.2.1);
 let q8:=q11 == (0:Int);
 let q9:=Sum.inl (q2,Stg.mk q6 q5 (numOf q4),s.2.2.1,PUnit.unit);
 let q10:=Sum.inl (q2,s.2.1,Stg.mk q6 q5 (numOf q4),PUnit.unit);
  .br (decide (q11<s.1.2.2.1)) (
    .chk (decide ((0:Int)≤q11∧q11<(↑(List.length s.1.2.1):Int))) <|
    .br q8 (
      .br q8 (
        .ret q1) (
        .br q7 (
          .ret q1) (
          .ret q9))) (
      .br (decide (numOf q4<Stg.pence s.2.1)) (
        .br q8 (
          .ret q1) (
          .br q7 (
            .ret q1) (
            .ret q9))) (
        .br q8 (
          .ret q10) (
          .br q7 (
            .ret q10) (
            .ret (Sum.inl (q2,s.2.1,s.2.2.1,PUnit.unit))))))) (
    .ret (Sum.inr (s.1.1,s.2.1,s.2.2.1,PUnit.unit)))):=fun s=>by kernel_rfl
noncomputable def K.L_en:=lim K.st_en
noncomputable def BTH11:Tab:=BTWc1.addNode 45 25 (nodeE [24,9,8,22,10,23] S_en X_en (fun s=>.obs (K.L_en s) .ret))
theorem tTH11:TabOk P BTH11:=TabOk.addLoop (d:=30) okP tTWc1 (by kernel_rfl) (by kernel_rfl) (fun s r h=>obs_ret h)
def R_en:=dTup (.cons dStg (.cons dStg (.last dInt 0)))
theorem fn_en:∀ a,(callT1 P BTH11 30 45 D_pes R_en) a=T.run (
 .obs (L_en ((Prod.snd (stagesV (decN nRul (List.length a.1) fun i=>encN nRul a.1 ((0:Nat)+i)) a.2.1 a.2.2.1 a.2.2.2),decF rStg (List.length (Prod.fst (stagesV (decN nRul (List.length a.1) fun i=>encN nRul a.1 ((0:Nat)+i)) a.2.1 a.2.2.1 a.2.2.2))) fun i=>encF rStg (Prod.fst (stagesV (decN nRul (List.length a.1) fun i=>encN nRul a.1 ((0:Nat)+i)) a.2.1 a.2.2.1 a.2.2.2)) ((0:Nat)+i),(↑(clampL (List.length (Prod.fst (stagesV (decN nRul (List.length a.1) fun i=>encN nRul a.1 ((0:Nat)+i)) a.2.1 a.2.2.1 a.2.2.2)))):Int),(0:Int)),Stg.mk (0:Int) (0:Int) (0:Int),Stg.mk (0:Int) (0:Int) (0:Int),PUnit.unit)) fun x0=>
  .ret ((x0.2.1,x0.2.2.1,x0.1))):=fun a=>by kernel_rfl
def S_fl:=DecS.mk0 (.skips 11 (.cons (dRows rStg) (.cons (dInt) (.skips 10 (.cons (dRows rStg) (.cons (dInt) (.last (dInt) 22))))))) .nil
def X_fl:=DecX.or (DecX.one (.exit 0) [12] (DecS.mk0 (.skips 12 (.last (dInt) 35)) .nil)) (DecX.one .ret [8,9,10] (DecS.mk0 (.skips 8 (.cons (dInt) (.cons (dB) (.last (dInt) 37)))) .nil))
noncomputable def K.st_fl:=loopT1 P BTH11 30 47 25 [25,11,23,12,24] S_fl X_fl
theorem sl_fl:∀ s,(K.st_fl) s=T.run (
 let q3:=(0:Nat);
 let q2:=s.1.2.2.2.2;
 let q1:=Sum.inl ((decF rStg (List.length s.1.1) fun i=>encF rStg s.1.1 (q3+i),s.1.2.1,decF rStg (List.length s.1.2.2.1) fun i=>encF rStg s.1.2.2.1 (q3+i),s.1.2.2.2.1,IntKind.wrap IntKind.i64 (q2+(1:Int))),PUnit.unit);
  .br (decide (q2<s.1.2.2.2.1)) (
    .chk (decide ((0:Int)≤q2∧q2<(↑(List.length s.1.2.2.1):Int))) <|
    .br (decide (q2 > (0:Int))) (
      .chk (decide ((0:Int)≤IntKind.wrap IntKind.i64 (q2 - (1:Int))∧IntKind.wrap IntKind.i64 (q2 - (1:Int))<(↑(List.length s.1.1):Int))) <|
      .br (decide (numOf (encF rStg s.1.2.2.1 (q3+Int.toNat q2) (nat_lit 2))<numOf (encF rStg s.1.1 (q3+Int.toNat (IntKind.wrap IntKind.i64 (q2 - (1:Int)))) (nat_lit 2)))) (
        .ret (Sum.inr (Sum.inr ((numOf (encF rStg s.1.2.2.1 (q3+Int.toNat q2) q3),true,(0:Int)),PUnit.unit)))) (
        .ret q1)) (
      .ret q1)) (
    .ret (Sum.inr (Sum.inl (s.1.2.1,PUnit.unit))))):=fun s=>by kernel_rfl
noncomputable def K.L_fl:=lim K.st_fl
noncomputable def BTH12:Tab:=BTH11.addNode 47 25 (nodeE [25,11,23,12,24] S_fl X_fl (fun s=>.obs (K.L_fl s) .ret))
theorem tTH12:TabOk P BTH12:=TabOk.addLoop (d:=30) okP tTH11 (by kernel_rfl) (by kernel_rfl) (fun s r h=>obs_ret h)
def R_fl:=dTup (.cons dInt (.cons dB (.last dInt 0)))
theorem fn_fl:∀ a,(callT1 P BTH12 30 47 D_pes R_fl) a=T.run (
 let q1:=stagesV (decN nRul (List.length a.1) fun i=>encN nRul a.1 ((0:Nat)+i)) a.2.1 a.2.2.1 a.2.2.2;
 let q2:=List.length q1.1;
  .obs (L_fl ((decF rStg q2 fun i=>encF rStg q1.1 ((0:Nat)+i),q1.2,decF rStg q2 fun i=>encF rStg q1.1 ((0:Nat)+i),(↑(clampL q2):Int),(0:Int)),PUnit.unit)) fun x0=>
    .sum (x0) (fun x1=>
      .ret (((0:Int),false,x1.1))) (fun x1=>
      .ret x1.1)):=fun a=>by kernel_rfl
theorem fn_lw_span:∀ a,(callT1 P BTH12 30 42 (.last dSpn 0) dB) a=T.run (
 .br (decide (Spn.hi a<Spn.lo a)) (
  .ret (true)) (
  .br (decide (Spn.lo a<(0:Int))) (
   .ret (true)) (
   .br (decide (Spn.hi a > (65536:Int))) (
    .ret (true)) (
    .br (decide (IntKind.wrap IntKind.i64 (Spn.hi a - Spn.lo a)<(300:Int))) (
     .ret (true)) (
     .ret (decide (IntKind.wrap IntKind.i64 (Spn.hi a - Spn.lo a) ≥ (5000:Int)))))))):=fun a=>by kernel_rfl
noncomputable def K.lw_span (a:Spn):Bool:=(if (decide (Spn.hi a<Spn.lo a))=true then true else (if (decide (Spn.lo a<(0:Int)))=true then true else (if (decide (Spn.hi a > (65536:Int)))=true then true else (if (decide (IntKind.wrap IntKind.i64 (Spn.hi a - Spn.lo a)<(300:Int)))=true then true else decide (IntKind.wrap IntKind.i64 (Spn.hi a - Spn.lo a) ≥ (5000:Int))))))
theorem eq_lw_span (a:Spn):(callT1 P BTH12 30 42 (.last dSpn 0) dB) a=some (K.lw_span a):=(fn_lw_span a).trans (T.br_some rfl (T.br_some rfl (T.br_some rfl (T.br_some rfl rfl))))
noncomputable def BTH13:Tab:=BTH12.addCall 42 (callE (.last dSpn 0) dB (fun a=>.ret (K.lw_span a)))
theorem tTH13:TabOk P BTH13:=TabOk.addFn (d:=30) okP tTH12 (fun a r h=>by rw [eq_lw_span];exact congrArg some (ret_some h))
theorem fn_lw_brief:∀ a,(callT1 P BTH13 30 29 (.last dSpn 0) dB) a=T.run (
 .br (decide (Spn.hi a<Spn.lo a)) (
  .ret (true)) (
  .br (decide (Spn.lo a<(0:Int))) (
   .ret (true)) (
   .br (decide (Spn.hi a > (65536:Int))) (
    .ret (true)) (
    .br (decide (IntKind.wrap IntKind.i64 (Spn.hi a - Spn.lo a)<(60:Int))) (
     .ret (true)) (
     .ret (decide (IntKind.wrap IntKind.i64 (Spn.hi a - Spn.lo a) ≥ (5000:Int)))))))):=fun a=>by kernel_rfl
noncomputable def K.lw_brief (a:Spn):Bool:=(if (decide (Spn.hi a<Spn.lo a))=true then true else (if (decide (Spn.lo a<(0:Int)))=true then true else (if (decide (Spn.hi a > (65536:Int)))=true then true else (if (decide (IntKind.wrap IntKind.i64 (Spn.hi a - Spn.lo a)<(60:Int)))=true then true else decide (IntKind.wrap IntKind.i64 (Spn.hi a - Spn.lo a) ≥ (5000:Int))))))
theorem eq_lw_brief (a:Spn):(callT1 P BTH13 30 29 (.last dSpn 0) dB) a=some (K.lw_brief a):=(fn_lw_brief a).trans (T.br_some rfl (T.br_some rfl (T.br_some rfl (T.br_some rfl rfl))))
noncomputable def BTH14:Tab:=BTH13.addCall 29 (callE (.last dSpn 0) dB (fun a=>.ret (K.lw_brief a)))
theorem tTH14:TabOk P BTH14:=TabOk.addFn (d:=30) okP tTH13 (fun a r h=>by rw [eq_lw_brief];exact congrArg some (ret_some h))
end Go.Proofs.YtkpligkggnjcoaaGreatDoor
/-! TH2 -/
namespace Go.Proofs.YtkpligkggnjcoaaGreatDoor
open Ev K
set_option maxRecDepth 100000
namespace K
def lowP:List Stg→Stg
 | []=>⟨0,0,0⟩
 | x :: t=>lowL x t
def highP:List Stg→Stg
 | []=>⟨0,0,0⟩
 | x :: t=>highL x t
theorem lowP_snoc {l:List Stg} (h:l≠[]) (y:Stg):lowP (l ++ [y])=if y.pence<(lowP l).pence then y else lowP l:=by
 cases l with
 | nil=>exact absurd rfl h
 | cons x t=>
  show lowL x (t ++ [y])=_
  unfold lowL;rw [List.foldl_append];rfl
theorem highP_snoc {l:List Stg} (h:l≠[]) (y:Stg):highP (l ++ [y])=if y.pence > (highP l).pence then y else highP l:=by
 cases l with
 | nil=>exact absurd rfl h
 | cons x t=>
  show highL x (t ++ [y])=_
  unfold highL;rw [List.foldl_append];rfl
theorem L_en_eq (e:Int) (L:List Stg) (hL:L.length≤100000):L_en ((e,L,(L.length:Int),0),⟨0,0,0⟩,⟨0,0,0⟩,())=some (e,lowP L,highP L,()):=by
 have e1:lowP L=lowP (L.take L.length):=by rw [List.take_length]
 have e2:highP L=highP (L.take L.length):=by rw [List.take_length]
 rw [e1,e2]
 refine lim_all (fun i:Nat=>((e,L,(L.length:Int),(i:Int)),lowP (L.take i),highP (L.take i),())) L.length (fun i hi=>?_) ?_
 ·have hy:=List.getElem?_eq_getElem hi
  rw [sl_en,List.take_add_one,hy]
  generalize L[i]=x at hy
  simp only [Int.toNat_natCast,Nat.zero_add,stg_at hy,ng0,ng1,ng2,decF_encF,wi i (by omega),Option.toList_some]
  refine br_t (decide_eq_true (by omega)) (chk_step (decide_eq_true (by omega)) ?_)
  by_cases h0:i=0
  ·subst h0
   exact br_t rfl (br_t rfl rfl)
  ·have hne:L.take i≠[]:=fun h=>by
    have h2:(L.take i).length=0:=by rw [h];rfl
    rw [List.length_take] at h2
    omega
   have hb:((i:Int) == 0)=false:=beq_eq_false_iff_ne.2 (by omega)
   rw [lowP_snoc hne,highP_snoc hne]
   refine br_f hb ?_
   by_cases h1:x.pence<(lowP (L.take i)).pence
   ·rw [if_pos h1]
    refine br_t (decide_eq_true h1) (br_f hb ?_)
    by_cases h2:x.pence > (highP (L.take i)).pence
    ·rw [if_pos h2];exact br_t (decide_eq_true h2) rfl
    ·rw [if_neg h2];exact br_f (decide_eq_false h2) rfl
   ·rw [if_neg h1]
    refine br_f (decide_eq_false h1) (br_f hb ?_)
    by_cases h2:x.pence > (highP (L.take i)).pence
    ·rw [if_pos h2];exact br_t (decide_eq_true h2) rfl
    ·rw [if_neg h2];exact br_f (decide_eq_false h2) rfl
 ·rw [sl_en]
  exact br_f (decide_eq_false (by dsimp only;omega)) rfl
def endsV (l:List Rul) (due grade:Str) (a:Spn):Stg × Stg × Int:=(lowP (stagesV l due grade a).1,highP (stagesV l due grade a).1,(stagesV l due grade a).2)
theorem stagesV_len (l:List Rul) (due grade:Str) (a:Spn):(stagesV l due grade a).1.length≤5000:=by
 unfold stagesV
 by_cases h:errS l due grade a=0
 ·rw [if_neg (fun k=>k h)];exact stgs_len (errS_ok h).2
 ·rw [if_pos h];exact Nat.zero_le _
theorem en_eq (a:List Rul × Str × Str × Spn):callT1 P BTH11 30 45 D_pes R_en a=some (endsV a.1 a.2.1 a.2.2.1 a.2.2.2):=by
 rw [fn_en]
 have hl:=stagesV_len a.1 a.2.1 a.2.2.1 a.2.2.2
 simp only [Nat.zero_add,decN_encN,decF_encF]
 rw [cl (by omega)]
 exact obs_step (L_en_eq _ _ (by omega)) rfl
def fallP (L:List Stg) (i:Nat):Bool:=match i with
 | 0=>false
 | j+1=>decide ((L.getD (j+1) default).pence<(L.getD j default).pence)
theorem L_fl_eq (e:Int) (L:List Stg) (hL:L.length≤100000):L_fl ((L,e,L,(L.length:Int),0),())=some (match first (fallP L) L.length with
  | some j=>.inr (((L.getD j default).lo,true,0),())
  | none=>.inl (e,())):=by
 refine (lim_find (fun i:Nat=>((L,e,L,(L.length:Int),(i:Int)),())) L.length (fallP L) (fun j=>.inr (((L.getD j default).lo,true,0),())) (.inl (e,())) (fun i hi hp=>?_) (fun i hi hp=>?_) ?_).trans ?_
 ·rw [sl_fl]
  have hy:=List.getElem?_eq_getElem hi
  rw [List.getD_eq_getElem?_getD]
  cases i with
  | zero=>cases hp
  | succ j=>
   have hz:=List.getElem?_eq_getElem (l:=L) (i:=j) (by omega)
   unfold fallP at hp
   simp only [List.getD_eq_getElem?_getD] at hp
   rw [hy,hz] at hp
   rw [hy]
   generalize L[j+1]=x at hy hp
   generalize L[j]=y at hz hp
   have hw:IntKind.i64.wrap (((j+1:Nat):Int) - 1)=(j:Int):=by rw [w64_in (by omega) (by omega)];omega
   simp only [hw,Int.toNat_natCast,Nat.zero_add,stg_at hy,stg_at hz,ng0,ng2]
   exact br_t (decide_eq_true (by omega)) (chk_step (decide_eq_true (by omega)) (br_t (decide_eq_true (by omega)) (chk_step (decide_eq_true (by omega)) (br_t hp rfl))))
 ·rw [sl_fl]
  have hy:=List.getElem?_eq_getElem hi
  cases i with
  | zero=>
   simp only [Nat.zero_add,decF_encF,wi 0 (by omega)]
   exact br_t (decide_eq_true (by omega)) (chk_step (decide_eq_true (by omega)) (br_f rfl rfl))
  | succ j=>
   have hz:=List.getElem?_eq_getElem (l:=L) (i:=j) (by omega)
   unfold fallP at hp
   simp only [List.getD_eq_getElem?_getD] at hp
   rw [hy,hz] at hp
   generalize L[j+1]=x at hy hp
   generalize L[j]=y at hz hp
   have hw:IntKind.i64.wrap (((j+1:Nat):Int) - 1)=(j:Int):=by rw [w64_in (by omega) (by omega)];omega
   simp only [hw,Int.toNat_natCast,Nat.zero_add,stg_at hy,stg_at hz,ng0,ng2,decF_encF,wi (j+1) (by omega)]
   exact br_t (decide_eq_true (by omega)) (chk_step (decide_eq_true (by omega)) (br_t (decide_eq_true (by omega)) (chk_step (decide_eq_true (by omega)) (br_f hp rfl))))
 ·rw [sl_fl]
  simp only [Nat.zero_add,decF_encF]
  exact br_f (decide_eq_false (by omega)) rfl
 ·cases first (fallP L) L.length<;>rfl
def fallsV (l:List Rul) (due grade:Str) (a:Spn):Int × Bool × Int:=match first (fallP (stagesV l due grade a).1) (stagesV l due grade a).1.length with
 | some j=>(((stagesV l due grade a).1.getD j default).lo,true,0)
 | none=>(0,false,(stagesV l due grade a).2)
theorem fl_eq (a:List Rul × Str × Str × Spn):callT1 P BTH12 30 47 D_pes R_fl a=some (fallsV a.1 a.2.1 a.2.2.1 a.2.2.2):=by
 rw [fn_fl]
 have hl:=stagesV_len a.1 a.2.1 a.2.2.1 a.2.2.2
 simp only [Nat.zero_add,decN_encN,decF_encF]
 rw [cl (by omega)]
 refine obs_step (L_fl_eq _ _ (by omega)) ?_
 unfold fallsV
 cases first (fallP (stagesV a.1 a.2.1 a.2.2.1 a.2.2.2).1) (stagesV a.1 a.2.1 a.2.2.1 a.2.2.2).1.length<;>rfl
end K
noncomputable def BTH21:Tab:=BTH14.addCall 45 (callE D_pes R_en (fun a=>.ret (K.endsV a.1 a.2.1 a.2.2.1 a.2.2.2)))
theorem tTH21:TabOk P BTH21:=TabOk.addPC tTH14 (fun a _r h=>call_of okP tTH11 ((K.en_eq a).trans h))
noncomputable def BTH22:Tab:=BTH21.addCall 47 (callE D_pes R_fl (fun a=>.ret (K.fallsV a.1 a.2.1 a.2.2.1 a.2.2.2)))
theorem tTH22:TabOk P BTH22:=TabOk.addPC tTH21 (fun a _r h=>call_of okP tTH12 ((K.fl_eq a).trans h))
end Go.Proofs.YtkpligkggnjcoaaGreatDoor
/-! TNp -/
namespace Go.Proofs.YtkpligkggnjcoaaGreatDoor
open Ev K
set_option maxRecDepth 100000
namespace K
end K
end Go.Proofs.YtkpligkggnjcoaaGreatDoor
/-! TO1 -/
namespace Go.Proofs.YtkpligkggnjcoaaGreatDoor
open Ev K
set_option maxRecDepth 100000
theorem fn_a_paid:∀ a,(callT1 P BTH22 30 35 D_pen dInt) a=T.run (
 .ret (Prod.fst (penV (decN nRul (List.length a.1) fun i=>encN nRul a.1 ((0:Nat)+i)) a.2.1 a.2.2.1 a.2.2.2))):=fun a=>by kernel_rfl
noncomputable def K.a_paid (a:List Rul × List UInt8 × List UInt8 × Int):Int:=Prod.fst (penV (decN nRul (List.length a.1) fun i=>encN nRul a.1 ((0:Nat)+i)) a.2.1 a.2.2.1 a.2.2.2)
theorem eq_a_paid (a:List Rul × List UInt8 × List UInt8 × Int):(callT1 P BTH22 30 35 D_pen dInt) a=some (K.a_paid a):=(fn_a_paid a).trans rfl
noncomputable def BTO11:Tab:=BTH22.addCall 35 (callE D_pen dInt (fun a=>.ret (K.a_paid a)))
theorem tTO11:TabOk P BTO11:=TabOk.addFn (d:=30) okP tTH22 (fun a r h=>by rw [eq_a_paid];exact congrArg some (ret_some h))
theorem fn_lwo:∀ a,(callT1 P BTO11 30 36 D_wo dTar) a=T.run (
 let q6:=a.2+(1:Int);
 let q1:=List.length a.1 - Int.toNat (IntKind.wrap IntKind.i64 q6);
 let q3:=(0:Nat);
 let q2:=Int.toNat a.2 - q3;
 let q5:=List.length a.1;
 let q4:=decN nRul q5 fun i=>encN nRul a.1 (q3+i);
  .br (decide (a.2<(0:Int))) (
    .ret q4) (
    .br (decide (a.2 ≥ (↑(clampL q5):Int))) (
      .ret q4) (
      .chk (decide ((0:Int)≤a.2∧a.2≤(↑q5:Int))&&true) <|
      .chk (decide ((q3+q2) * (96:Nat)≤(140737488355328:Nat)∧q3+q2≤nat_lit 9223372036854775807)) <|
      .chk (true&&decide ((0:Int)≤IntKind.wrap IntKind.i64 q6∧IntKind.wrap IntKind.i64 q6≤(↑q5:Int))) <|
      .chk (decide ((q3+q2+q1) * (96:Nat)≤(140737488355328:Nat)∧q3+q2+q1≤nat_lit 9223372036854775807)) <|
      .ret (decN nRul (q3+q2+q1) fun i=>appG (q3+q2) (appG q3 (fun _x _x_1=>AV.top) fun i k=>encN nRul a.1 (nat_lit 0+i) k) (fun i k=>encN nRul a.1 (q3+Int.toNat (IntKind.wrap IntKind.i64 q6)+i) k) (q3+i))))):=fun a=>by kernel_rfl
def D_sum:=DecL.cons dTar (.cons dS (.last (dRows rLot) 0))
def S_su:=DecS.mk0 (.skip (.cons (dS) (.skips 5 (.cons (dRows rChrg) (.skip (.last (dInt) 24)))))) .nil
def X_su:=DecX.or (DecX.one (.exit 0) [] (DecS.mk0 (.tops 34) .nil)) (DecX.one .ret [6] (DecS.mk0 (.skips 6 (.last (dInt) 27)) .nil))
noncomputable def K.st_su:=loopT1 P BTO11 30 37 25 [9,7,1] S_su X_su
theorem sl_su:∀ s,(K.st_su) s=T.run (
 .br (decide (s.1.2.2<(↑(clampL (List.length s.1.2.1)):Int))) (
  .chk (decide ((0:Int)≤s.1.2.2∧s.1.2.2<(↑(List.length s.1.2.1):Int))) <|
  .br (textOf (encF rChrg s.1.2.1 ((0:Nat)+Int.toNat s.1.2.2) (nat_lit 0)) == s.1.1) (
   .chk (decide ((0:Int)≤s.1.2.2∧s.1.2.2<(↑(List.length s.1.2.1):Int))) <|
   .ret (Sum.inr (Sum.inr (numOf (encF rChrg s.1.2.1 ((0:Nat)+Int.toNat s.1.2.2) (nat_lit 1)),PUnit.unit)))) (
   .ret (Sum.inl ((s.1.1,decF rChrg (List.length s.1.2.1) fun i=>encF rChrg s.1.2.1 ((0:Nat)+i),IntKind.wrap IntKind.i64 (s.1.2.2+(1:Int))),PUnit.unit)))) (
  .ret (Sum.inr (Sum.inl (PUnit.unit,PUnit.unit))))):=fun s=>by kernel_rfl
noncomputable def K.L_su:=lim K.st_su
noncomputable def BTO12:Tab:=BTO11.addNode 37 25 (nodeE [9,7,1] S_su X_su (fun s=>.obs (K.L_su s) .ret))
theorem tTO12:TabOk P BTO12:=TabOk.addLoop (d:=30) okP tTO11 (by kernel_rfl) (by kernel_rfl) (fun s r h=>obs_ret h)
theorem fn_su:∀ a,(callT1 P BTO12 30 37 D_sum dInt) a=T.run (
 .obs (L_su ((a.2.1,decF rChrg (List.length (Prod.fst (billV (decN nRul (List.length a.1) fun i=>encN nRul a.1 ((0:Nat)+i)) (decF rLot (List.length a.2.2) fun i=>encF rLot a.2.2 ((0:Nat)+i))))) fun i=>encF rChrg (Prod.fst (billV (decN nRul (List.length a.1) fun i=>encN nRul a.1 ((0:Nat)+i)) (decF rLot (List.length a.2.2) fun i=>encF rLot a.2.2 ((0:Nat)+i)))) ((0:Nat)+i),(0:Int)),PUnit.unit)) fun x0=>
  .sum (x0) (fun _=>
   .ret ((0:Int))) (fun x1=>
   .ret x1.1)):=fun a=>by kernel_rfl
end Go.Proofs.YtkpligkggnjcoaaGreatDoor
/-! TO2 -/
namespace Go.Proofs.YtkpligkggnjcoaaGreatDoor
open Ev K
set_option maxRecDepth 100000
set_option maxHeartbeats 4000000
namespace K
theorem paid_eq (l:List Rul) (d g:Str) (m:Int):a_paid (l,d,g,m)=(penV l d g m).1:=by unfold a_paid;simp only [Nat.zero_add,decN_encN]
theorem lwo_ok (a:List Rul × Int) (r:List Rul) (h:(T.chk (decide (woOk a)) (.ret (eraseR a.1 a.2))).run=some r):callT1 P BTO11 30 36 D_wo dTar a=some r:=by
 obtain ⟨g,e⟩:=chk_ret h
 subst e
 obtain ⟨l,i⟩:=a
 obtain ⟨g1,g2,g3⟩:=of_decide_eq_true g
 simp only at g1 g2 g3
 obtain ⟨j,rfl⟩:∃ j:Nat,i=j:=⟨i.toNat,by omega⟩
 have hj:j<l.length:=by omega
 rw [fn_lwo]
 simp only [Nat.zero_add,Nat.sub_zero,wi j (by omega),Int.toNat_natCast,appG0,cl (show l.length≤1000000 by omega)]
 refine br_f (decide_eq_false (by omega)) (br_f (decide_eq_false (by omega)) (chk_step ?_ (chk_step (decide_eq_true (by omega)) (chk_step ?_ (chk_step (decide_eq_true (by omega)) ?_)))))
 ·simp only [Bool.and_true,decide_eq_true_eq];omega
 ·simp only [Bool.true_and,decide_eq_true_eq];omega
 ·have e1:decN nRul (j+(l.length - (j+1))) (appG j (encN nRul l) fun i k=>encN nRul l (j+1+i) k)=l.eraseIdx j:=by
   rw [decN_appG]
   have h1:=decN_part nRul l 0 j (by omega)
   simp only [Nat.zero_add,List.drop_zero] at h1
   have h2:=decN_part nRul l (j+1) (l.length - (j+1)) (by omega)
   rw [List.take_of_length_le (by rw [List.length_drop];exact Nat.le_refl _)] at h2
   rw [List.eraseIdx_eq_take_drop_succ]
   exact congr (congrArg _ h1) h2
  exact congrArg some e1
def dueC (d:Str) (x:Chrg):Bool:=x.due == d
def sumC (b:List Chrg) (d:Str):Int:=match first (atP b (dueC d)) b.length with
 | some j=>(b.getD j default).pence
 | none=>0
theorem bill_len1 (l:List Rul) (c:List Lot):(billV l c).1.length≤1000000:=by
 unfold billV
 by_cases h:errB l c=0
 ·rw [if_neg (fun k=>k h)]
  have h1:=(checkT_ok (errB_ok h).1).1
  have:=dues_len l
  show (billL l c).length≤_
  rw [bill_map,List.length_map];omega
 ·rw [if_pos h];exact Nat.zero_le _
theorem L_su_eq (d:Str) (b:List Chrg) (hb:b.length≤1000000):L_su ((d,b,0),())=some (match first (atP b (dueC d)) b.length with
  | some j=>.inr ((b.getD j default).pence,())
  | none=>.inl ((),())):=by
 refine (lim_find (fun j:Nat=>((d,b,(j:Int)),())) b.length (atP b (dueC d)) (fun j=>.inr ((b.getD j default).pence,())) (.inl ((),())) (fun j hj hp=>?_) (fun j hj hp=>?_) ?_).trans ?_
 ·rw [sl_su]
  have hy:=List.getElem?_eq_getElem hj
  rw [List.getD_eq_getElem?_getD]
  unfold atP at hp;rw [hy] at hp ⊢
  generalize b[j]=x at hy hp
  simp only [Int.toNat_natCast,Nat.zero_add,chrg_at hy,nc0,nc1,cl hb]
  exact br_t (decide_eq_true (by omega)) (chk_step (decide_eq_true (by omega)) (br_t hp (chk_step (decide_eq_true (by omega)) rfl)))
 ·rw [sl_su]
  have hy:=List.getElem?_eq_getElem hj
  unfold atP at hp;rw [hy] at hp
  generalize b[j]=x at hy hp
  simp only [Int.toNat_natCast,Nat.zero_add,chrg_at hy,nc0,decF_encF,wi j (by omega),cl hb]
  exact br_t (decide_eq_true (by omega)) (chk_step (decide_eq_true (by omega)) (br_f hp rfl))
 ·rw [sl_su]
  simp only [cl hb]
  exact br_f (decide_eq_false (by omega)) rfl
 ·cases first (atP b (dueC d)) b.length<;>rfl
theorem su_eq (a:List Rul × Str × List Lot):callT1 P BTO12 30 37 D_sum dInt a=some (sumC (billV a.1 a.2.2).1 a.2.1):=by
 rw [fn_su]
 simp only [Nat.zero_add,decN_encN,decF_encF]
 refine obs_step (L_su_eq a.2.1 _ (bill_len1 _ _)) ?_
 unfold sumC
 cases first (atP (billV a.1 a.2.2).1 (dueC a.2.1)) (billV a.1 a.2.2).1.length<;>rfl
theorem sum_all {l:List Rul} {c:List Lot} (h:errB l c=0) (d:Str):sumC (billV l c).1 d=allL l d c:=by
 have e:(billV l c).1=billL l c:=by unfold billV;rw [if_neg (fun k=>k h)]
 rw [e]
 unfold sumC
 cases hf:first (atP (billL l c) (dueC d)) (billL l c).length with
 | some j=>
  obtain ⟨h1,h2,_⟩:=first_spec hf
  unfold atP at h2
  have hy:=List.getElem?_eq_getElem h1
  rw [hy] at h2
  obtain ⟨e',hx,_⟩:=bill_at hy
  show ((billL l c).getD j default).pence=_
  rw [List.getD_eq_getElem?_getD,hy]
  show (billL l c)[j].pence=_
  rw [hx] at h2 ⊢
  have:e'=d:=beq_iff_eq.1 h2
  rw [this]
 | none=>
  have hn:=first_none' hf
  symm
  refine all_none (fun r hr hrd=>?_) c
  have hm:d ∈ duesT l:=mem_dues.2 ⟨r,hr,hrd⟩
  obtain ⟨j,hj,hjd⟩:=List.getElem_of_mem hm
  have hjl:j<(billL l c).length:=by rw [bill_map,List.length_map];exact hj
  have:=hn j hjl
  unfold atP at this
  rw [List.getElem?_eq_getElem hjl] at this
  have hb:(billL l c)[j]=chg l c d:=by
   simp only [bill_map,List.getElem_map,hjd]
  rw [hb] at this
  have:(d == d)=false:=this
  simp at this
end K
noncomputable def BTO21:Tab:=BTO12.addCall 35 (callE D_pen dInt (fun a=>.ret (K.a_paid a)))
theorem tTO21:TabOk P BTO21:=TabOk.addPC tTO12 (fun a _r h=>call_of okP tTH22 ((eq_a_paid a).trans h))
noncomputable def BTO22:Tab:=BTO21.addCall 36 (callE D_wo dTar (fun a=>.chk (decide (K.woOk a)) (.ret (K.eraseR a.1 a.2))))
theorem tTO22:TabOk P BTO22:=TabOk.addPC tTO21 (fun a r h=>call_of okP tTO11 (K.lwo_ok a r h))
noncomputable def BTO23:Tab:=BTO22.addCall 37 (callE D_sum dInt (fun a=>.ret (K.sumC (K.billV a.1 a.2.2).1 a.2.1)))
theorem tTO23:TabOk P BTO23:=TabOk.addPC tTO22 (fun a _r h=>call_of okP tTO12 ((K.su_eq a).trans h))
def D_ld:=DecL.cons dTar (.cons dTar (.cons dSpn (.cons dS (.cons dS (.cons dInt (.last (dRows rLot) 0))))))
def S_ld1:=DecS.mk0 (.skips 6 (.cons (dRows rLot) (.unit (dLp 0 0 0 0) (.skip (.unit (dLp 1 0 0 0) (.skips 5 (.cons (dB) (.skips 5 (.cons (dRows rInt) (.skip (.cons (dRows rInt) (.cons (dInt) (.last (dInt) 178))))))))))))) (.flat 25 lTar (.flat 53 lSpn .nil))
def X_ldr:=DecX.one .ret [14] (DecS.mk0 (.skips 14 (.last (dB) 189)) .nil)
def X_ld1:=DecX.or (DecX.one (.exit 0) [6,7,15,23,24] (DecS.mk0 (.skips 6 (.cons (dRows rLot) (.unit (dLp 0 0 0 0) (.skips 7 (.cons (dB) (.skips 7 (.cons (dRows rInt) (.last (dInt) 179)))))))) (.flat 25 lTar .nil))) X_ldr
noncomputable def K.st_ld1:=loopT1 P BTO23 30 6 129 [25,9,21,7,6,23,15,24] S_ld1 X_ld1
theorem sl_ld1:∀ s,(K.st_ld1) s=T.run (
 let q4:=List.length s.2.1;
 let q3:=(0:Nat);
 let q6:=decN nRul q4 fun i=>encN nRul s.2.1 (q3+i);
 let q8:=s.1.2.2.2.2.2;
 let q5:=encF rInt s.1.2.2.1 (q3+Int.toNat q8) q3;
 let q2:=eraseR q6 (numOf q5);
 let q1:=Prod.snd (Prod.snd (Prod.snd (sameV q6 (decN nRul (List.length q2) fun i=>encN nRul q2 (q3+i)) s.2.2.1)));
 let q7:=List.length s.1.2.2.1;
 let q9:=Sum.inr (Sum.inr (false,PUnit.unit));
  .br (decide (q8<(↑(clampL q7):Int))) (
    .chk (decide ((0:Int)≤q8∧q8<(↑q7:Int))) <|
    .chk (decide (woOk (decN nRul q4 fun i=>encN nRul s.2.1 (q3+i),numOf q5))) <|
    .br (q1.2 != (0:Int)) (
      .ret q9) (
      .br (!q1.1) (
        .ret q9) (
        .ret (Sum.inl ((decF rLot (List.length s.1.1) fun i=>encF rLot s.1.1 (q3+i),s.1.2.1,decF rInt q7 fun i=>encF rInt s.1.2.2.1 (q3+i),decF rInt (List.length s.1.2.2.2.1) fun i=>encF rInt s.1.2.2.2.1 (q3+i),s.1.2.2.2.2.1,IntKind.wrap IntKind.i64 (q8+(1:Int))),decN nRul q4 fun i=>encN nRul s.2.1 (q3+i),s.2.2.1,PUnit.unit))))) (
    .ret (Sum.inr (Sum.inl ((decF rLot (List.length s.1.1) fun i=>encF rLot s.1.1 (q3+i),s.1.2.1,decF rInt (List.length s.1.2.2.2.1) fun i=>encF rInt s.1.2.2.2.1 (q3+i),s.1.2.2.2.2.1),decN nRul q4 fun i=>encN nRul s.2.1 (q3+i),PUnit.unit))))):=fun s=>by kernel_rfl
noncomputable def K.L_ld1:=lim K.st_ld1
noncomputable def BTO24:Tab:=BTO23.addNode 6 129 (nodeE [25,9,21,7,6,23,15,24] S_ld1 X_ld1 (fun s=>.obs (K.L_ld1 s) .ret))
theorem tTO24:TabOk P BTO24:=TabOk.addLoop (d:=30) okP tTO23 (by kernel_rfl) (by kernel_rfl) (fun s r h=>obs_ret h)
def S_ld2:=DecS.mk0 (.skips 6 (.cons (dRows rLot) (.unit (dLp 0 0 0 0) (.skips 7 (.cons (dB) (.skips 7 (.cons (dRows rInt) (.cons (dInt) (.skips 6 (.last (dInt) 172)))))))))) (.flat 25 lTar .nil)
def X_ld2:=DecX.or (DecX.one (.exit 2) [15] (DecS.mk0 (.skips 15 (.last (dB) 188)) .nil)) X_ldr
noncomputable def K.st_ld2:=loopT1 P BTO24 30 6 177 [31,6,23,7,15,24] S_ld2 X_ld2
theorem sl_ld2:∀ s,(K.st_ld2) s=T.run (
 let q6:=(0:Nat);
 let q10:=s.1.2.2.2.2;
 let q1:=encF rInt s.1.2.2.1 (q6+Int.toNat q10) q6;
 let q7:=List.length s.2.1;
 let q2:=decN nRul q7 fun i=>encN nRul s.2.1 (q6+i);
 let q8:=List.length s.1.2.2.1;
 let q3:=decide ((0:Int)≤q10∧q10<(↑q8:Int));
 let q4:=textOf (encN nRul s.2.1 (q6+Int.toNat (numOf q1)) (nat_lit 1));
 let q5:=decF rLot (List.length s.1.1) fun i=>encF rLot s.1.1 (q6+i);
 let q9:=Sum.inr (Sum.inl (s.1.2.1,PUnit.unit));
  .br (decide (q10<(↑(clampL q8):Int))) (
    .br (s.1.2.2.2.1 == (0:Int)) (
      .chk q3 <|
      .chk (decide ((0:Int)≤numOf q1∧numOf q1<(↑q7:Int))) <|
      .chk q3 <|
      .chk (decide (woOk (decN nRul q7 fun i=>encN nRul s.2.1 (q6+i),numOf q1))) <|
      .br (sumC (Prod.fst (billV q2 q5)) q4 == sumC (Prod.fst (billV (decN nRul (List.length (eraseR q2 (numOf q1))) fun i=>encN nRul (eraseR q2 (numOf q1)) (q6+i)) q5)) q4) (
        .ret (Sum.inr (Sum.inr (false,PUnit.unit)))) (
        .ret (Sum.inl ((decF rLot (List.length s.1.1) fun i=>encF rLot s.1.1 (q6+i),s.1.2.1,decF rInt q8 fun i=>encF rInt s.1.2.2.1 (q6+i),s.1.2.2.2.1,IntKind.wrap IntKind.i64 (q10+(1:Int))),decN nRul q7 fun i=>encN nRul s.2.1 (q6+i),PUnit.unit)))) (
      .ret q9)) (
    .ret q9)):=fun s=>by kernel_rfl
noncomputable def K.L_ld2:=lim K.st_ld2
noncomputable def BTO25:Tab:=BTO24.addNode 6 177 (nodeE [31,6,23,7,15,24] S_ld2 X_ld2 (fun s=>.obs (K.L_ld2 s) .ret))
theorem tTO25:TabOk P BTO25:=TabOk.addLoop (d:=30) okP tTO24 (by kernel_rfl) (by kernel_rfl) (fun s r h=>obs_ret h)
end Go.Proofs.YtkpligkggnjcoaaGreatDoor
/-! TO3 -/
namespace Go.Proofs.YtkpligkggnjcoaaGreatDoor
open Ev K
set_option maxRecDepth 100000
set_option maxHeartbeats 4000000
theorem fn_ld:∀ a,(callT1 P BTO25 30 6 D_ld dB) a=T.run (
 let q19:=a.2.2.2.2.2.2;
 let q9:=(0:Nat);
 let q15:=List.length a.1;
 let q3:=decN nRul q15 fun i=>encN nRul a.1 (q9+i);
 let q16:=a.2.2.1;
 let q7:=decF rLot (List.length q19) fun i=>encF rLot q19 (q9+i);
 let q14:=(0:Int);
 let q1:=L_ld1 ((decF rLot (List.length q19) fun i=>encF rLot q19 (q9+i),true,decF rInt (List.length (Prod.fst (spareV q3 q16))) fun i=>encF rInt (Prod.fst (spareV q3 q16)) (q9+i),decF rInt (List.length (Prod.fst (restsV q3 q7))) fun i=>encF rInt (Prod.fst (restsV q3 q7)) (q9+i),Prod.snd (restsV q3 q7),q14),decN nRul q15 fun i=>encN nRul a.1 (q9+i),q16,PUnit.unit);
 let q17:=List.length a.2.1;
 let q13:=decN nRul q17 fun i=>encN nRul a.2.1 (q9+i);
 let q2:=sameV q3 q13 q16;
 let q6:=q2.2.2;
 let q4:=a_paid (decN nRul q15 fun i=>encN nRul a.1 (q9+i),q2.1,q2.2.1,q6.1) == a_paid (decN nRul q17 fun i=>encN nRul a.2.1 (q9+i),q2.1,q2.2.1,q6.1);
 let q8:=Prod.snd (spareV q3 q16) != q14;
 let q5:T _:=.br q8 (
                            .ret (false)) (
                            .obs q1 fun x0=>
                              .sum (x0) (fun x1=>
                                .obs (L_ld2 ((decF rLot (List.length x1.1.1) fun i=>encF rLot x1.1.1 (q9+i),x1.1.2.1,decF rInt (List.length x1.1.2.2.1) fun i=>encF rInt x1.1.2.2.1 (q9+i),x1.1.2.2.2,q14),decN nRul (List.length x1.2.1) fun i=>encN nRul x1.2.1 (q9+i),PUnit.unit)) fun x2=>
                                  .sum (x2) (fun x3=>
                                    .ret x3.1) (fun x3=>
                                    .ret x3.1)) (fun x1=>
                                .ret x1.1));
 let q10:=decide (q6.1<Spn.lo q16);
 let q11:=decide (q6.1 > Spn.hi q16);
 let q12:=!q6.2.1;
 let q18:=a.2.2.2.2.2.1;
  .br (!fewV q3) (
    .ret (true)) (
    .br (!fewV q13) (
      .ret (true)) (
      .br (!lw_brief q16) (
        .ret (true)) (
        .br (!lw_short a.2.2.2.1) (
          .ret (true)) (
          .br (!lw_short a.2.2.2.2.1) (
            .ret (true)) (
            .br (!cargoV q7) (
              .ret (true)) (
              .br (q6.2.2 != q14) (
                .ret (true)) (
                .br q6.2.1 (
                  .br (decide (q18 ≥ Spn.lo q16)) (
                    .br (decide (q18≤Spn.hi q16)) (
                      .br (a_paid (decN nRul q15 fun i=>encN nRul a.1 (q9+i),a.2.2.2.1,a.2.2.2.2.1,q18) != a_paid (decN nRul q17 fun i=>encN nRul a.2.1 (q9+i),a.2.2.2.1,a.2.2.2.2.1,q18)) (
                        .ret (false)) (
                        .br q12 (
                          .br q4 (
                            .ret (false)) (
                            .br q10 (
                              .ret (false)) (
                              .br q11 (
                                .ret (false)) (
                                .br q8 (
                                  .ret (false)) (
                                  .obs q1 fun x0=>
                                    .sum (x0) (fun x1=>
                                      .obs (L_ld2 ((decF rLot (List.length x1.1.1) fun i=>encF rLot x1.1.1 (q9+i),x1.1.2.1,decF rInt (List.length x1.1.2.2.1) fun i=>encF rInt x1.1.2.2.1 (q9+i),x1.1.2.2.2,q14),decN nRul (List.length x1.2.1) fun i=>encN nRul x1.2.1 (q9+i),PUnit.unit)) fun x2=>
                                        .sum (x2) (fun x3=>
                                          .ret x3.1) (fun x3=>
                                          .ret x3.1)) (fun x1=>
                                      .ret x1.1)))))) q5)) (
                      .br q12 (
                        .br q4 (
                          .ret (false)) (
                          .br q10 (
                            .ret (false)) (
                            .br q11 (
                              .ret (false)) (
                              .br q8 (
                                .ret (false)) (
                                .obs q1 fun x0=>
                                  .sum (x0) (fun x1=>
                                    .obs (L_ld2 ((decF rLot (List.length x1.1.1) fun i=>encF rLot x1.1.1 (q9+i),x1.1.2.1,decF rInt (List.length x1.1.2.2.1) fun i=>encF rInt x1.1.2.2.1 (q9+i),x1.1.2.2.2,q14),decN nRul (List.length x1.2.1) fun i=>encN nRul x1.2.1 (q9+i),PUnit.unit)) fun x2=>
                                      .sum (x2) (fun x3=>
                                        .ret x3.1) (fun x3=>
                                        .ret x3.1)) (fun x1=>
                                    .ret x1.1)))))) (
                        .br q8 (
                          .ret (false)) (
                          .obs q1 fun x0=>
                            .sum (x0) (fun x1=>
                              .obs (L_ld2 ((decF rLot (List.length x1.1.1) fun i=>encF rLot x1.1.1 (q9+i),x1.1.2.1,decF rInt (List.length x1.1.2.2.1) fun i=>encF rInt x1.1.2.2.1 (q9+i),x1.1.2.2.2,q14),decN nRul (List.length x1.2.1) fun i=>encN nRul x1.2.1 (q9+i),PUnit.unit)) fun x2=>
                                .sum (x2) (fun x3=>
                                  .ret x3.1) (fun x3=>
                                  .ret x3.1)) (fun x1=>
                              .ret x1.1))))) (
                    .br q12 (
                      .br q4 (
                        .ret (false)) (
                        .br q10 (
                          .ret (false)) (
                          .br q11 (
                            .ret (false)) (
                            .br q8 (
                              .ret (false)) (
                              .obs q1 fun x0=>
                                .sum (x0) (fun x1=>
                                  .obs (L_ld2 ((decF rLot (List.length x1.1.1) fun i=>encF rLot x1.1.1 (q9+i),x1.1.2.1,decF rInt (List.length x1.1.2.2.1) fun i=>encF rInt x1.1.2.2.1 (q9+i),x1.1.2.2.2,q14),decN nRul (List.length x1.2.1) fun i=>encN nRul x1.2.1 (q9+i),PUnit.unit)) fun x2=>
                                    .sum (x2) (fun x3=>
                                      .ret x3.1) (fun x3=>
                                      .ret x3.1)) (fun x1=>
                                  .ret x1.1)))))) (
                      .br q8 (
                        .ret (false)) (
                        .obs q1 fun x0=>
                          .sum (x0) (fun x1=>
                            .obs (L_ld2 ((decF rLot (List.length x1.1.1) fun i=>encF rLot x1.1.1 (q9+i),x1.1.2.1,decF rInt (List.length x1.1.2.2.1) fun i=>encF rInt x1.1.2.2.1 (q9+i),x1.1.2.2.2,q14),decN nRul (List.length x1.2.1) fun i=>encN nRul x1.2.1 (q9+i),PUnit.unit)) fun x2=>
                              .sum (x2) (fun x3=>
                                .ret x3.1) (fun x3=>
                                .ret x3.1)) (fun x1=>
                            .ret x1.1))))) (
                  .br q12 (
                    .br q4 (
                      .ret (false)) (
                      .br q10 (
                        .ret (false)) (
                        .br q11 (
                          .ret (false)) q5))) (
                    .br q8 (
                      .ret (false)) (
                      .obs q1 fun x0=>
                        .sum (x0) (fun x1=>
                          .obs (L_ld2 ((decF rLot (List.length x1.1.1) fun i=>encF rLot x1.1.1 (q9+i),x1.1.2.1,decF rInt (List.length x1.1.2.2.1) fun i=>encF rInt x1.1.2.2.1 (q9+i),x1.1.2.2.2,q14),decN nRul (List.length x1.2.1) fun i=>encN nRul x1.2.1 (q9+i),PUnit.unit)) fun x2=>
                            .sum (x2) (fun x3=>
                              .ret x3.1) (fun x3=>
                              .ret x3.1)) (fun x1=>
                          .ret x1.1)))))))))))):=fun a=>by kernel_rfl
end Go.Proofs.YtkpligkggnjcoaaGreatDoor
/-! TOp -/
namespace Go.Proofs.YtkpligkggnjcoaaGreatDoor
open Ev K
set_option maxRecDepth 100000
namespace K
theorem pence_none {l:List Rul} {d:Str} (h:∀ r ∈ l,r.due≠d) (g:Str) (m:Int):penceL l d g m=0:=by
 unfold penceL
 have e:(l.filter fun r=>forR r d g)=[]:=by
  rw [List.filter_eq_nil_iff]
  intro r hr
  unfold forR
  have:(r.due == d)=false:=beq_eq_false_iff_ne.2 (h r hr)
  rw [this];simp
 rw [e];rfl
theorem name_ne {g:Str} (h:nameB g=true):g≠[]:=by
 intro e;subst e
 unfold nameB at h
 simp at h
theorem pence_grade {l:List Rul} (hl:∀ r ∈ l,rulOk r) {g:Str} (hg:∀ r ∈ l,g ∉ r.grades) (d:Str) (m:Int):penceL l d g m=penceL l d [] m:=by
 unfold penceL
 have e:(l.filter fun r=>forR r d g)=l.filter fun r=>forR r d []:=by
  apply List.filter_congr
  intro r hr
  unfold forR
  have h1:r.grades.contains g=false:=by
   rw [← Bool.not_eq_true,List.contains_iff_mem];exact hg r hr
  have h2:r.grades.contains []=false:=by
   rw [← Bool.not_eq_true,List.contains_iff_mem]
   intro hm
   exact name_ne ((hl r hr).2.1 _ hm) rfl
  rw [h1,h2]
 rw [e]
theorem mem_masses {lo hi m:Int} (h:lo≤m∧m≤hi):m ∈ masses lo hi:=by
 unfold masses
 rw [List.mem_map]
 exact ⟨(m - lo).toNat,List.mem_range.2 (by omega),by omega⟩
theorem mem_duesAB {a b:List Rul} {d:Str}:d ∈ duesAB a b ↔ (∃ r ∈ a,r.due=d)∨∃ r ∈ b,r.due=d:=by
 unfold duesAB
 rw [(setS_spec _).2,List.mem_append,List.mem_map,List.mem_map]
theorem mem_gradesAB {a b:List Rul} {g:Str}:g ∈ gradesAB a b ↔ g=[]∨(∃ r ∈ a,g ∈ r.grades)∨∃ r ∈ b,g ∈ r.grades:=by
 unfold gradesAB
 rw [List.mem_cons,(setS_spec _).2,List.mem_append,List.mem_flatMap,List.mem_flatMap]
theorem differ_none {A B:List Rul} {lo hi:Int} (hA:checkT A=0) (hB:checkT B=0) (h:differL A B lo hi=none) {m:Int} (hm:lo≤m∧m≤hi) (d g:Str):penceL A d g m=penceL B d g m:=by
 unfold differL at h
 rw [List.findSome?_eq_none_iff] at h
 by_cases hd:d ∈ duesAB A B
 ·have h1:=h d hd
  rw [List.findSome?_eq_none_iff] at h1
  have key:∀ g ∈ gradesAB A B,penceL A d g m=penceL B d g m:=fun g hg=>by
   have h2:=h1 g hg
   rw [Option.map_eq_none_iff] at h2
   unfold firstD at h2
   rw [List.find?_eq_none] at h2
   have h3:=h2 m (mem_masses hm)
   simpa using h3
  by_cases hg:g ∈ gradesAB A B
  ·exact key g hg
  ·have hno:(∀ r ∈ A,g ∉ r.grades)∧∀ r ∈ B,g ∉ r.grades:=⟨fun r hr hc=>hg (mem_gradesAB.2 (.inr (.inl ⟨r,hr,hc⟩))),fun r hr hc=>hg (mem_gradesAB.2 (.inr (.inr ⟨r,hr,hc⟩)))⟩
   rw [pence_grade (checkT_ok hA).2 hno.1,pence_grade (checkT_ok hB).2 hno.2]
   exact key [] (mem_gradesAB.2 (.inl rfl))
 ·rw [pence_none (fun r hr e=>hd (mem_duesAB.2 (.inl ⟨r,hr,e⟩))),pence_none (fun r hr e=>hd (mem_duesAB.2 (.inr ⟨r,hr,e⟩)))]
theorem differ_some {A B:List Rul} {lo hi:Int} (hA:checkT A=0) (hB:checkT B=0) {d g:Str} {m:Int} (h:differL A B lo hi=some (d,g,m)):(lo≤m∧m≤hi)∧penceL A d g m≠penceL B d g m∧gradeB g=true:=by
 unfold differL at h
 obtain ⟨d',_,h1⟩:=List.exists_of_findSome?_eq_some h
 obtain ⟨g',hg,h2⟩:=List.exists_of_findSome?_eq_some h1
 obtain ⟨m',hm,h3⟩:=Option.map_eq_some_iff.1 h2
 injection h3 with e1 h3
 injection h3 with e2 e3
 subst e1;subst e2;subst e3
 unfold firstD at hm
 have hin:=List.mem_of_find?_eq_some hm
 have hne:=List.find?_some hm
 refine ⟨masses_in hin,by simpa using hne,?_⟩
 unfold gradeB
 rcases mem_gradesAB.1 hg with rfl | ⟨r,hr,hc⟩ | ⟨r,hr,hc⟩
 ·rfl
 ·rw [((checkT_ok hA).2 r hr).2.1 _ hc,Bool.or_true]
 ·rw [((checkT_ok hB).2 r hr).2.1 _ hc,Bool.or_true]
theorem paid_val {A:List Rul} (hA:checkT A=0) (d g:Str) {m:Int} (hm:0≤m∧m≤65536):(penV A d g m).1=if gradeB g=true then penceL A d g m else 0:=by
 unfold penV askL
 rw [if_neg (show ¬ (checkT A≠0) from fun k=>k hA)]
 by_cases h1:A.any (dueP d)=false
 ·rw [if_pos h1,if_pos (by decide)]
  have:penceL A d g m=0:=pence_none (fun r hr e=>by
   rw [← Bool.not_eq_true,List.any_eq_true] at h1
   exact h1 ⟨r,hr,beq_iff_eq.2 e⟩) g m
  rw [this];split<;>rfl
 ·rw [if_neg h1]
  by_cases h2:gradeB g=false
  ·rw [if_pos h2,if_pos (by decide),h2];rfl
  ·rw [if_neg h2,if_neg (by simp),if_pos hm,if_pos (by simpa using h2)]
end K
end Go.Proofs.YtkpligkggnjcoaaGreatDoor
/-! TO4 -/
namespace Go.Proofs.YtkpligkggnjcoaaGreatDoor
open Ev K
set_option maxRecDepth 100000
namespace K
theorem int_rd {l:List Int} {i:Nat} {x:Int} (h:l[i]?=some x):numOf (encF rInt l i 0)=x:=by rw [encF_at h];rfl
theorem L_ld1_eq (c:List Lot) (up:Bool) (SP R:List Int) (h:Int) (l:List Rul) (s:Spn) (hl:l.length≤30) (hS:SP.length≤1000000)
  (H:∀ (i:Nat) x,SP[i]?=some x→∃ k:Nat,x=(k:Int)∧k<l.length∧(sameV l (l.eraseIdx k) s).2.2.2=(true,0)) :
  L_ld1 ((c,up,SP,R,h,0),l,s,())=some (.inl ((c,up,R,h),l,())):=by
 refine lim_all (fun i:Nat=>((c,up,SP,R,h,(i:Int)),l,s,())) SP.length (fun i hi=>?_) ?_
 ·have hy:=List.getElem?_eq_getElem hi
  obtain ⟨k,hk,hkl,hsm⟩:=H i _ hy
  have hr:=int_rd hy
  rw [hk] at hr
  have e:eraseR l (k:Int)=l.eraseIdx k:=rfl
  rw [sl_ld1]
  simp only [Int.toNat_natCast,Nat.zero_add,cl hS,hr,e,decF_encF,decN_encN,wi i (by omega),hsm]
  exact br_t (decide_eq_true (by omega)) (chk_step (decide_eq_true (by omega)) (chk_step (decide_eq_true ⟨hl,by dsimp only;omega,by dsimp only;omega⟩) (br_f rfl (br_f rfl rfl))))
 ·rw [sl_ld1]
  simp only [Nat.zero_add,cl hS,decF_encF,decN_encN]
  exact br_f (decide_eq_false (by omega)) rfl
theorem L_ld2_eq (c:List Lot) (up:Bool) (R:List Int) (h:Int) (l:List Rul) (hl:l.length≤30) (hR:R.length≤1000000)
  (H:h=0→∀ (i:Nat) x,R[i]?=some x→∃ (k:Nat) (r:Rul),x=(k:Int)∧l[k]?=some r∧sumC (billV l c).1 r.due≠sumC (billV (l.eraseIdx k) c).1 r.due) :
  L_ld2 ((c,up,R,h,0),l,())=some (.inl (up,())):=by
 by_cases h0:h=0
 ·have H:=H h0
  refine lim_all (fun i:Nat=>((c,up,R,h,(i:Int)),l,())) R.length (fun i hi=>?_) ?_
  ·have hy:=List.getElem?_eq_getElem hi
   obtain ⟨k,r,hk,hr0,hne⟩:=H i _ hy
   have hr:=int_rd hy
   rw [hk] at hr
   have e:eraseR l (k:Int)=l.eraseIdx k:=rfl
   have hkl:=(List.getElem?_eq_some_iff.1 hr0).1
   rw [sl_ld2]
   simp only [Int.toNat_natCast,Nat.zero_add,cl hR,hr,e,decF_encF,decN_encN,wi i (by omega),rul_at hr0,nr1]
   exact br_t (decide_eq_true (by omega)) (br_t (by rw [h0];rfl) (chk_step (decide_eq_true (by omega)) (chk_step (decide_eq_true (by omega)) (chk_step (decide_eq_true (by omega)) (chk_step (decide_eq_true ⟨hl,by dsimp only;omega,by dsimp only;omega⟩) (br_f (beq_eq_false_iff_ne.2 hne) rfl))))))
  ·rw [sl_ld2]
   simp only [cl hR]
   exact br_f (decide_eq_false (by omega)) rfl
 ·refine lim_done ?_
  rw [sl_ld2]
  simp only [cl hR]
  exact br_if (fun _=>br_f (beq_eq_false_iff_ne.2 h0) rfl) (fun _=>rfl)
end K
end Go.Proofs.YtkpligkggnjcoaaGreatDoor
/-! TO5 -/
namespace Go.Proofs.YtkpligkggnjcoaaGreatDoor
open Ev K
set_option maxRecDepth 100000
set_option maxHeartbeats 4000000
namespace K
theorem mem_spare {l:List Rul} {lo hi x:Int} (h:x ∈ spareL l lo hi):∃ k:Nat,x=(k:Int)∧k<l.length∧differL l (l.eraseIdx k) lo hi=none:=by
 unfold spareL at h
 obtain ⟨k,hk,rfl⟩:=List.mem_map.1 h
 obtain ⟨h1,h2⟩:=List.mem_filter.1 hk
 exact ⟨k,rfl,List.mem_range.1 h1,by simpa using h2⟩
theorem mem_rests {l:List Rul} {c:List Lot} {x:Int} (h:x ∈ restsL l c):∃ (k:Nat) (r:Rul),x=(k:Int)∧l[k]?=some r∧allL (l.eraseIdx k) r.due c≠allL l r.due c:=by
 unfold restsL at h
 obtain ⟨k,hk,rfl⟩:=List.mem_map.1 h
 obtain ⟨h1,h2⟩:=List.mem_filter.1 hk
 have hk':=List.mem_range.1 h1
 have hy:=List.getElem?_eq_getElem hk'
 have e:l.getD k default=l[k]:=by rw [List.getD_eq_getElem?_getD,hy];rfl
 rw [e] at h2
 exact ⟨k,l[k],rfl,hy,by simpa using h2⟩
theorem same_zero {A B:List Rul} {s:Spn} (hA:checkT A=0) (hB:checkT B=0) (hs:spanL s=0):sameV A B s=((difV (differL A B s.lo s.hi)).1,(difV (differL A B s.lo s.hi)).2.1,(difV (differL A B s.lo s.hi)).2.2.1,(difV (differL A B s.lo s.hi)).2.2.2,0):=by
 have e:errM A B s=0:=by unfold errM;rw [if_neg (fun k=>k hA),if_neg (fun k=>k hB)];exact hs
 unfold sameV
 rw [if_neg (fun k=>k e)]
theorem errM_ok {A B:List Rul} {s:Spn} (h:errM A B s=0):checkT A=0∧checkT B=0∧spanL s=0:=by
 unfold errM at h
 split at h
 ·rename_i h1;exact absurd h h1
 ·rename_i h1
  split at h
  ·rename_i h2;exact absurd h h2
  ·rename_i h2;exact ⟨Classical.not_not.1 h1,Classical.not_not.1 h2,h⟩
theorem ld_eq (a:List Rul × List Rul × Spn × Str × Str × Int × List Lot):callT1 P BTO25 30 6 D_ld dB a=some true:=by
 obtain ⟨A,B,s,due,grade,mass,c⟩:=a
 rw [fn_ld]
 simp only [Nat.zero_add,decN_encN,decF_encF,paid_eq]
 refine br_if (fun _=>rfl) (fun _=>br_if (fun _=>rfl) (fun _=>br_if (fun _=>rfl) (fun _=>br_if (fun _=>rfl) (fun _=>br_if (fun _=>rfl) (fun _=>br_if (fun _=>rfl) (fun _=>?_))))))
 by_cases he:errM A B s=0
 ·obtain ⟨hA,hB,hs⟩:=errM_ok he
  obtain ⟨b1,b2,b3,b4⟩:=span_ok hs
  have hl:=(checkT_ok hA).1
  have hSP:spareV A s=(spareL A s.lo s.hi,0):=by
   have:errP A s=0:=by unfold errP;rw [if_neg (fun k=>k hA)];exact hs
   unfold spareV;rw [if_neg (fun k=>k this)]
  have hS:(spareL A s.lo s.hi).length≤1000000:=by
   unfold spareL
   rw [List.length_map]
   have:=List.length_filter_le (fun i=>(differL A (A.eraseIdx i) s.lo s.hi).isNone) (List.range A.length)
   rw [List.length_range] at this;omega
  have H1:∀ (i:Nat) x,(spareL A s.lo s.hi)[i]?=some x→∃ k:Nat,x=(k:Int)∧k<A.length∧(sameV A (A.eraseIdx k) s).2.2.2=(true,0):=fun i x hx=>by
   obtain ⟨k,rfl,h2,h3⟩:=mem_spare (List.mem_of_getElem? hx)
   refine ⟨k,rfl,h2,?_⟩
   rw [same_zero hA (check_erase hA k) hs,h3];rfl
  have hR:(restsV A c).1.length≤1000000:=by
   unfold restsV
   by_cases h:errB A c=0
   ·rw [if_neg (fun k=>k h)]
    have:=restsK_len A c A.length
    rw [restsK_all] at this
    show (restsL A c).length≤_
    omega
   ·rw [if_pos h];exact Nat.zero_le _
  have H2:(restsV A c).2=0→∀ (i:Nat) x,(restsV A c).1[i]?=some x→∃ (k:Nat) (r:Rul),x=(k:Int)∧A[k]?=some r∧sumC (billV A c).1 r.due≠sumC (billV (A.eraseIdx k) c).1 r.due:=fun h0 i x hx=>by
   by_cases h:errB A c=0
   ·have e:restsV A c=(restsL A c,0):=by unfold restsV;rw [if_neg (fun k=>k h)]
    rw [e] at hx
    obtain ⟨k,r,rfl,h2,h3⟩:=mem_rests (List.mem_of_getElem? hx)
    have h':errB (A.eraseIdx k) c=0:=by unfold errB;rw [if_neg (fun q=>q (check_erase hA k))];exact (errB_ok h).2
    refine ⟨k,r,rfl,h2,?_⟩
    rw [sum_all h,sum_all h']
    exact fun e=>h3 e.symm
   ·have e:restsV A c=([],errB A c):=by unfold restsV;rw [if_pos h]
    rw [e] at h0;exact absurd h0 h
  rw [same_zero hA hB hs,hSP]
  refine br_f rfl ?_
  cases hd:differL A B s.lo s.hi with
  | none=>
   refine br_t rfl ?_
   by_cases m1:mass ≥ s.lo
   ·refine br_t (decide_eq_true m1) ?_
    by_cases m2:mass≤s.hi
    ·refine br_t (decide_eq_true m2) (br_f (by rw [paid_val hA _ _ (by omega),paid_val hB _ _ (by omega),differ_none hA hB hd ⟨m1,m2⟩];simp) (br_f rfl ?_))
     exact br_f rfl (obs_step (L_ld1_eq c true _ _ _ A s hl hS H1) ((T.run_inl _ _ _).trans (obs_step (L_ld2_eq c true _ _ A hl hR H2) (T.run_inl _ _ _))))
    ·refine br_f (decide_eq_false m2) (br_f rfl ?_)
     exact br_f rfl (obs_step (L_ld1_eq c true _ _ _ A s hl hS H1) ((T.run_inl _ _ _).trans (obs_step (L_ld2_eq c true _ _ A hl hR H2) (T.run_inl _ _ _))))
   ·refine br_f (decide_eq_false m1) (br_f rfl ?_)
    exact br_f rfl (obs_step (L_ld1_eq c true _ _ _ A s hl hS H1) ((T.run_inl _ _ _).trans (obs_step (L_ld2_eq c true _ _ A hl hR H2) (T.run_inl _ _ _))))
  | some q=>
   obtain ⟨d,g,m⟩:=q
   obtain ⟨⟨q1,q2⟩,q3,q4⟩:=differ_some hA hB hd
   refine br_f rfl (br_t rfl (br_f ?_ (br_f (decide_eq_false (show ¬ m<s.lo by omega)) (br_f (decide_eq_false (show ¬ m > s.hi by omega)) ?_))))
   ·show ((penV A d g m).1 == (penV B d g m).1)=false
    rw [paid_val hA _ _ (by omega),paid_val hB _ _ (by omega),if_pos q4,if_pos q4]
    exact beq_eq_false_iff_ne.2 q3
   ·exact br_f rfl (obs_step (L_ld1_eq c true _ _ _ A s hl hS H1) ((T.run_inl _ _ _).trans (obs_step (L_ld2_eq c true _ _ A hl hR H2) (T.run_inl _ _ _))))
 ·have e:(sameV A B s).2.2.2.2=errM A B s:=by unfold sameV;rw [if_pos he]
  exact br_t (by rw [e];exact bne_iff_ne.2 he) rfl
end K
end Go.Proofs.YtkpligkggnjcoaaGreatDoor
