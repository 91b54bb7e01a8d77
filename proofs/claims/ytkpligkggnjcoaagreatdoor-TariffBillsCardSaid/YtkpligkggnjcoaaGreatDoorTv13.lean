/- Parts of the proof, one behind the other: RAl, RP3, RP4. No conditions. -/
import Derived.Test.YtkpligkggnjcoaaGreatDoorTv12
/-! RAl -/
namespace Go.Proofs.YtkpligkggnjcoaaGreatDoor
open Ev K
set_option maxRecDepth 100000
namespace K
theorem rbl_eq (a:List Rul × List Lot):callT1 P BRAk3 30 24 D_bil R_rbl a=some (billV a.1 a.2):=by
 rw [fn_rbl]
 simp only [decF_enc0,decN_enc0']
 unfold billV errB
 by_cases h1:checkT a.1=0
 ·rw [if_neg (show ¬ (checkT a.1≠0) from fun h=>h h1)]
  refine br_f (by rw [h1];rfl) ?_
  by_cases h2:lotsL a.2=0
  ·rw [if_neg (fun h=>h h2)]
   exact br_f (by rw [h2];rfl) (chk_step (decide_eq_true ⟨h1,h2⟩) rfl)
  ·rw [if_pos h2]
   exact br_t (bne_iff_ne.2 h2) rfl
 ·rw [if_pos h1,if_pos h1]
  exact br_t (bne_iff_ne.2 h1) rfl
theorem stgs_ne {l:List Rul} {due grade:Str} {a:Spn} (h:spanL a=0):stgs l due grade a≠[]:=by
 obtain ⟨b1,b2,b3,b4⟩:=span_ok h
 obtain ⟨k1,_⟩:=st_ok (fun m=>penceL l due grade m) a.lo (a.hi+1 - a.lo).toNat
 intro e
 have k1:Runs (fun m=>penceL l due grade m) a.lo (stgs l due grade a) (a.lo+(((a.hi+1 - a.lo).toNat:Nat):Int)):=k1
 rw [e] at k1
 have:a.lo+(((a.hi+1 - a.lo).toNat:Nat):Int)=a.lo:=k1
 omega
theorem L_ren_eq (z:Stg × Stg × Int) (e:Int) (L:List Stg) (hL:L.length≤100000) (hne:L≠[]):L_ren (1,z,(L,e),(lowP (L.take 1),highP (L.take 1),0),())=some ((),z,(lowP L,highP L,0),()):=by
 have e1:lowP L=lowP (L.take L.length):=by rw [List.take_length]
 have e2:highP L=highP (L.take L.length):=by rw [List.take_length]
 have hp:0<L.length:=List.length_pos_iff.2 hne
 rw [e1,e2]
 have key:=lim_all (step:=st_ren) (fun i:Nat=>(((i+1:Nat):Int),z,(L,e),(lowP (L.take (i+1)),highP (L.take (i+1)),(0:Int)),())) (L.length - 1) (r:=((),z,(lowP (L.take L.length),highP (L.take L.length),(0:Int)),())) (fun i hi=>?_) ?_
 ·exact key
 ·have hi:i+1<L.length:=by omega
  have hy:=List.getElem?_eq_getElem hi
  have hne2:L.take (i+1)≠[]:=fun h=>by
   have h2:(L.take (i+1)).length=0:=by rw [h];rfl
   rw [List.length_take] at h2;omega
  have ht:L.take (i+1+1)=L.take (i+1) ++ [L[i+1]]:=by rw [List.take_add_one,hy];rfl
  rw [sl_ren,ht,lowP_snoc hne2,highP_snoc hne2]
  generalize L[i+1]=x at hy
  simp only [Int.toNat_natCast,Nat.zero_add,stg_at hy,ng0,ng1,ng2,decF_encF,wi (i+1) (by omega),cl (show L.length≤1000000 by omega)]
  refine br_t (decide_eq_true (by omega)) (chk_step (decide_eq_true (by omega)) ?_)
  by_cases h1:x.pence<(lowP (L.take (i+1))).pence
  ·rw [if_pos h1]
   refine br_t (decide_eq_true h1) (chk_step (decide_eq_true (by omega)) (chk_step (decide_eq_true (by omega)) ?_))
   by_cases h2:x.pence > (highP (L.take (i+1))).pence
   ·rw [if_pos h2];exact br_t (decide_eq_true h2) (chk_step (decide_eq_true (by omega)) rfl)
   ·rw [if_neg h2];exact br_f (decide_eq_false h2) rfl
  ·rw [if_neg h1]
   refine br_f (decide_eq_false h1) (chk_step (decide_eq_true (by omega)) ?_)
   by_cases h2:x.pence > (highP (L.take (i+1))).pence
   ·rw [if_pos h2];exact br_t (decide_eq_true h2) (chk_step (decide_eq_true (by omega)) rfl)
   ·rw [if_neg h2];exact br_f (decide_eq_false h2) rfl
 ·have e3:L.length - 1+1=L.length:=by omega
  rw [sl_ren]
  simp only [e3,cl (show L.length≤1000000 by omega)]
  exact br_f (decide_eq_false (by omega)) rfl
theorem ren_eq (a:List Rul × Str × Str × Spn):callT1 P BRAk4 30 46 D_stg R_ren a=some (endsV a.1 a.2.1 a.2.2.1 a.2.2.2):=by
 rw [fn_ren]
 have hl:=stagesV_len a.1 a.2.1 a.2.2.1 a.2.2.2
 unfold endsV
 simp only [decN_enc0',decF_enc0,stages_err]
 by_cases h:errS a.1 a.2.1 a.2.2.1 a.2.2.2=0
 ·have e:(stagesV a.1 a.2.1 a.2.2.1 a.2.2.2).1=stgs a.1 a.2.1 a.2.2.1 a.2.2.2:=by unfold stagesV;rw [if_neg (fun k=>k h)]
  rw [e] at hl ⊢
  have hne:=stgs_ne (l:=a.1) (due:=a.2.1) (grade:=a.2.2.1) (errS_ok h).2
  rw [h]
  generalize stgs a.1 a.2.1 a.2.2.1 a.2.2.2=L at hl hne
  obtain ⟨x,t,rfl⟩:∃ x t,L=x :: t:=by cases L with
   | nil=>exact absurd rfl hne
   | cons x t=>exact ⟨x,t,rfl⟩
  have hx:(x :: t)[0]?=some x:=rfl
  simp only [stg_at hx,ng0,ng1,ng2]
  exact br_f rfl (chk_step (decide_eq_true (by simp only [List.length_cons];omega)) (chk_step (decide_eq_true (by simp only [List.length_cons];omega)) (obs_step (L_ren_eq _ _ (x :: t) (by omega) hne) rfl)))
 ·have e:(stagesV a.1 a.2.1 a.2.2.1 a.2.2.2).1=[]:=by unfold stagesV;rw [if_pos h]
  rw [e]
  exact br_t (bne_iff_ne.2 h) rfl
theorem L_rfl_eq (z:Int × Bool × Int) (e:Int) (L:List Stg) (hL:L.length≤100000):L_rfl (1,z,(L,e),())=some (match first (fallP L) L.length with
  | some j=>.inr ((),((L.getD j default).lo,true,0),())
  | none=>.inl ((),z,())):=by
 cases hn:L with
 | nil=>
  subst hn
  refine (lim_done (r:=.inl ((),z,())) ?_).trans rfl
  rw [sl_rfl]
  exact br_f rfl rfl
 | cons y t=>
  rw [← hn]
  have hp:0<L.length:=by rw [hn];simp
  have sh:first (fallP L) L.length=(first (fun i=>fallP L (i+1)) (L.length - 1)).map (·+1):=by
   cases hf:first (fun i=>fallP L (i+1)) (L.length - 1) with
   | none=>
    refine first_none fun i hi=>?_
    cases i with
    | zero=>rfl
    | succ j=>exact first_none' hf j (by omega)
   | some j=>
    obtain ⟨f1,f2,f3⟩:=first_spec hf
    show first (fallP L) L.length=some (j+1)
    refine first_some (by omega) f2 fun i hi=>?_
    cases i with
    | zero=>rfl
    | succ k=>exact f3 k (by omega)
  refine (lim_find (fun i:Nat=>(((i+1:Nat):Int),z,(L,e),())) (L.length - 1) (fun i=>fallP L (i+1)) (fun j=>.inr ((),((L.getD (j+1) default).lo,true,0),())) (.inl ((),z,())) (fun i hi hp=>?_) (fun i hi hp=>?_) ?_).trans ?_
  ·have hi1:i+1<L.length:=by omega
   have hy:=List.getElem?_eq_getElem hi1
   have hz:=List.getElem?_eq_getElem (l:=L) (i:=i) (by omega)
   rw [sl_rfl]
   rw [fallP_at hy hz] at hp
   rw [List.getD_eq_getElem?_getD,hy]
   generalize L[i+1]=x at hy hp
   generalize L[i]=y at hz hp
   have hw:IntKind.i64.wrap (((i+1:Nat):Int) - 1)=(i:Int):=by rw [w64_in (by omega) (by omega)];omega
   simp only [hw,Int.toNat_natCast,Nat.zero_add,stg_at hy,stg_at hz,ng0,ng2,cl (show L.length≤1000000 by omega)]
   exact br_t (decide_eq_true (by omega)) (chk_step (decide_eq_true (by omega)) (chk_step (decide_eq_true (by omega)) (br_t hp (chk_step (decide_eq_true (by omega)) rfl))))
  ·have hi1:i+1<L.length:=by omega
   have hy:=List.getElem?_eq_getElem hi1
   have hz:=List.getElem?_eq_getElem (l:=L) (i:=i) (by omega)
   rw [sl_rfl]
   rw [fallP_at hy hz] at hp
   generalize L[i+1]=x at hy hp
   generalize L[i]=y at hz hp
   have hw:IntKind.i64.wrap (((i+1:Nat):Int) - 1)=(i:Int):=by rw [w64_in (by omega) (by omega)];omega
   simp only [hw,Int.toNat_natCast,Nat.zero_add,stg_at hy,stg_at hz,ng0,ng2,decF_encF,wi (i+1) (by omega),cl (show L.length≤1000000 by omega)]
   exact br_t (decide_eq_true (by omega)) (chk_step (decide_eq_true (by omega)) (chk_step (decide_eq_true (by omega)) (br_f hp rfl)))
  ·have e3:L.length - 1+1=L.length:=by omega
   rw [sl_rfl]
   simp only [e3,cl (show L.length≤1000000 by omega)]
   exact br_f (decide_eq_false (by omega)) rfl
  ·rw [sh]
   cases first (fun i=>fallP L (i+1)) (L.length - 1)<;>rfl
theorem rfl_eq (a:List Rul × Str × Str × Spn):callT1 P BRAk5 30 48 D_stg R_rfl a=some (fallsV a.1 a.2.1 a.2.2.1 a.2.2.2):=by
 rw [fn_rfl]
 have hl:=stagesV_len a.1 a.2.1 a.2.2.1 a.2.2.2
 unfold fallsV
 simp only [decN_enc0',decF_enc0,stages_err]
 by_cases h:errS a.1 a.2.1 a.2.2.1 a.2.2.2=0
 ·rw [h]
  refine br_f rfl (obs_step (L_rfl_eq _ _ _ (by omega)) ?_)
  cases first (fallP (stagesV a.1 a.2.1 a.2.2.1 a.2.2.2).1) (stagesV a.1 a.2.1 a.2.2.1 a.2.2.2).1.length<;>rfl
 ·have e:(stagesV a.1 a.2.1 a.2.2.1 a.2.2.2).1=[]:=by unfold stagesV;rw [if_pos h]
  rw [e]
  exact br_t (bne_iff_ne.2 h) rfl
theorem L_rfr_eq (n e:Int) (L:List Stg) (hL:L.length≤100000):L_rfr ((n,0),(L,e),())=some (match first (atP L (geP n)) L.length with
  | some j=>.inr (((L.getD j default).lo,0),())
  | none=>.inl ((),())):=by
 refine (lim_find (fun j:Nat=>((n,(j:Int)),(L,e),())) L.length (atP L (geP n)) (fun j=>.inr (((L.getD j default).lo,0),())) (.inl ((),())) (fun j hj hp=>?_) (fun j hj hp=>?_) ?_).trans ?_
 ·rw [sl_rfr]
  have hy:=List.getElem?_eq_getElem hj
  rw [List.getD_eq_getElem?_getD]
  unfold atP at hp;rw [hy] at hp ⊢
  generalize L[j]=x at hy hp
  simp only [Int.toNat_natCast,Nat.zero_add,stg_at hy,ng0,ng2,cl (show L.length≤1000000 by omega)]
  exact br_t (decide_eq_true (by omega)) (chk_step (decide_eq_true (by omega)) (br_t hp (chk_step (decide_eq_true (by omega)) rfl)))
 ·rw [sl_rfr]
  have hy:=List.getElem?_eq_getElem hj
  unfold atP at hp;rw [hy] at hp
  generalize L[j]=x at hy hp
  simp only [Int.toNat_natCast,Nat.zero_add,stg_at hy,ng2,decF_encF,wi j (by omega),cl (show L.length≤1000000 by omega)]
  exact br_t (decide_eq_true (by omega)) (chk_step (decide_eq_true (by omega)) (br_f hp rfl))
 ·rw [sl_rfr]
  simp only [cl (show L.length≤1000000 by omega)]
  exact br_f (decide_eq_false (by omega)) rfl
 ·cases first (atP L (geP n)) L.length<;>rfl
theorem rfr_eq (a:List Rul × Str × Str × Spn × Int):callT1 P BRAk6 30 50 D_frm R_ii a=some (fromV a.1 a.2.1 a.2.2.1 a.2.2.2.1 a.2.2.2.2):=by
 rw [fn_rfr]
 have hl:=stagesV_len a.1 a.2.1 a.2.2.1 a.2.2.2.1
 unfold fromV
 simp only [decN_enc0',decF_enc0,stages_err]
 by_cases h:errS a.1 a.2.1 a.2.2.1 a.2.2.2.1=0
 ·rw [if_neg (fun k=>k h)]
  refine br_f (by rw [h];rfl) ?_
  have e:(stagesV a.1 a.2.1 a.2.2.1 a.2.2.2.1).1=stgs a.1 a.2.1 a.2.2.1 a.2.2.2.1:=by unfold stagesV;rw [if_neg (fun k=>k h)]
  rw [e] at hl ⊢
  refine obs_step (L_rfr_eq _ _ _ (by omega)) ?_
  unfold fromL
  have hff:=find_first (stgs a.1 a.2.1 a.2.2.1 a.2.2.2.1) (geP a.2.2.2.2)
  have hg:(fun s:Stg=>decide (s.pence ≥ a.2.2.2.2))=geP a.2.2.2.2:=rfl
  rw [hg,hff]
  cases hx:first (atP (stgs a.1 a.2.1 a.2.2.1 a.2.2.2.1) (geP a.2.2.2.2)) (stgs a.1 a.2.1 a.2.2.1 a.2.2.2.1).length with
  | none=>rfl
  | some j=>
   have hj:=(first_spec hx).1
   simp only [List.getD_eq_getElem?_getD,List.getElem?_eq_getElem hj];rfl
 ·rw [if_pos h]
  exact br_t (bne_iff_ne.2 h) rfl
end K
noncomputable def BRAl1:Tab:=BRAk6.addCall 24 (callE D_bil R_rbl (fun a=>.ret (K.billV a.1 a.2)))
theorem tRAl1:TabOk P BRAl1:=TabOk.addPC tRAk6 (fun a _r h=>call_of okP tRAk3 ((K.rbl_eq a).trans h))
noncomputable def BRAl2:Tab:=BRAl1.addCall 46 (callE D_stg R_ren (fun a=>.ret (K.endsV a.1 a.2.1 a.2.2.1 a.2.2.2)))
theorem tRAl2:TabOk P BRAl2:=TabOk.addPC tRAl1 (fun a _r h=>call_of okP tRAk4 ((K.ren_eq a).trans h))
noncomputable def BRAl3:Tab:=BRAl2.addCall 48 (callE D_stg R_rfl (fun a=>.ret (K.fallsV a.1 a.2.1 a.2.2.1 a.2.2.2)))
theorem tRAl3:TabOk P BRAl3:=TabOk.addPC tRAl2 (fun a _r h=>call_of okP tRAk5 ((K.rfl_eq a).trans h))
noncomputable def BRAl4:Tab:=BRAl3.addCall 50 (callE D_frm R_ii (fun a=>.ret (K.fromV a.1 a.2.1 a.2.2.1 a.2.2.2.1 a.2.2.2.2)))
theorem tRAl4:TabOk P BRAl4:=TabOk.addPC tRAl3 (fun a _r h=>call_of okP tRAk6 ((K.rfr_eq a).trans h))
noncomputable def BRAl5:Tab:=BRAl4.addCall 45 (callE D_pes R_en (fun a=>.ret (K.endsV a.1 a.2.1 a.2.2.1 a.2.2.2)))
theorem tRAl5:TabOk P BRAl5:=TabOk.addPC tRAl4 (fun a _r h=>call_of okP tTH11 ((K.en_eq a).trans h))
noncomputable def BRAl6:Tab:=BRAl5.addCall 47 (callE D_pes R_fl (fun a=>.ret (K.fallsV a.1 a.2.1 a.2.2.1 a.2.2.2)))
theorem tRAl6:TabOk P BRAl6:=TabOk.addPC tRAl5 (fun a _r h=>call_of okP tTH12 ((K.fl_eq a).trans h))
noncomputable def BRAl7:Tab:=BRAl6.addCall 42 (callE (.last dSpn 0) dB (fun a=>.ret (K.lw_span a)))
theorem tRAl7:TabOk P BRAl7:=TabOk.addPC tRAl6 (fun a _r h=>call_of okP tTH12 ((eq_lw_span a).trans h))
noncomputable def BRAl8:Tab:=BRAl7.addCall 29 (callE (.last dSpn 0) dB (fun a=>.ret (K.lw_brief a)))
theorem tRAl8:TabOk P BRAl8:=TabOk.addPC tRAl7 (fun a _r h=>call_of okP tTH13 ((eq_lw_brief a).trans h))
def D_cc:=DecL.cons (dRows rChrg) (.last (dRows rChrg) 0)
def S_sc:=DecS.mk0 (.cons (dRows rChrg) (.cons (dRows rChrg) (.skips 3 (.last (dInt) 20)))) .nil
def X_sc:=DecX.or (DecX.one (.exit 0) [] (DecS.mk0 (.tops 26) .nil)) (DecX.one .ret [4] (DecS.mk0 (.skips 4 (.last (dB) 21)) .nil))
noncomputable def K.st_sc:=loopT1 P BRAl8 30 27 33 [5,1,0] S_sc X_sc
theorem sl_sc:∀ s,(K.st_sc) s=T.run (
 .br (decide (s.1.2.2<(↑(clampL (List.length s.1.1)):Int))) (
  .chk (decide ((0:Int)≤s.1.2.2∧s.1.2.2<(↑(List.length s.1.1):Int))) <|
  .chk (decide ((0:Int)≤s.1.2.2∧s.1.2.2<(↑(List.length s.1.2.1):Int))) <|
  .br (!(textOf (encF rChrg s.1.1 ((0:Nat)+Int.toNat s.1.2.2) (0:Nat)) == textOf (encF rChrg s.1.2.1 ((0:Nat)+Int.toNat s.1.2.2) (0:Nat))&&numOf (encF rChrg s.1.1 ((0:Nat)+Int.toNat s.1.2.2) (nat_lit 1)) == numOf (encF rChrg s.1.2.1 ((0:Nat)+Int.toNat s.1.2.2) (nat_lit 1)))) (
   .ret (Sum.inr (Sum.inr (false,PUnit.unit)))) (
   .ret (Sum.inl ((decF rChrg (List.length s.1.1) fun i=>encF rChrg s.1.1 ((0:Nat)+i),decF rChrg (List.length s.1.2.1) fun i=>encF rChrg s.1.2.1 ((0:Nat)+i),IntKind.wrap IntKind.i64 (s.1.2.2+(1:Int))),PUnit.unit)))) (
  .ret (Sum.inr (Sum.inl (PUnit.unit,PUnit.unit))))):=fun s=>by kernel_rfl
noncomputable def K.L_sc:=lim K.st_sc
noncomputable def BRAl9:Tab:=BRAl8.addNode 27 33 (nodeE [5,1,0] S_sc X_sc (fun s=>.obs (K.L_sc s) .ret))
theorem tRAl9:TabOk P BRAl9:=TabOk.addLoop (d:=30) okP tRAl8 (by kernel_rfl) (by kernel_rfl) (fun s r h=>obs_ret h)
theorem fn_sc:∀ a,(callT1 P BRAl9 30 27 D_cc dB) a=T.run (
 .br ((↑(clampL (List.length a.1)):Int) != (↑(clampL (List.length a.2)):Int)) (
  .ret (false)) (
  .obs (L_sc ((decF rChrg (List.length a.1) fun i=>encF rChrg a.1 ((0:Nat)+i),decF rChrg (List.length a.2) fun i=>encF rChrg a.2 ((0:Nat)+i),(0:Int)),PUnit.unit)) fun x0=>
   .sum (x0) (fun _=>
    .ret (true)) (fun x1=>
    .ret x1.1))):=fun a=>by kernel_rfl
def D_nn:=DecL.cons (dRows rInt) (.last (dRows rInt) 0)
def S_in:=DecS.mk0 (.cons (dRows rInt) (.cons (dRows rInt) (.skips 3 (.last (dInt) 20)))) .nil
noncomputable def K.st_in:=loopT1 P BRAl9 30 28 33 [5,1,0] S_in X_sc
theorem sl_in:∀ s,(K.st_in) s=T.run (
 .br (decide (s.1.2.2<(↑(clampL (List.length s.1.1)):Int))) (
  .chk (decide ((0:Int)≤s.1.2.2∧s.1.2.2<(↑(List.length s.1.1):Int))) <|
  .chk (decide ((0:Int)≤s.1.2.2∧s.1.2.2<(↑(List.length s.1.2.1):Int))) <|
  .br (numOf (encF rInt s.1.1 ((0:Nat)+Int.toNat s.1.2.2) (0:Nat)) != numOf (encF rInt s.1.2.1 ((0:Nat)+Int.toNat s.1.2.2) (0:Nat))) (
   .ret (Sum.inr (Sum.inr (false,PUnit.unit)))) (
   .ret (Sum.inl ((decF rInt (List.length s.1.1) fun i=>encF rInt s.1.1 ((0:Nat)+i),decF rInt (List.length s.1.2.1) fun i=>encF rInt s.1.2.1 ((0:Nat)+i),IntKind.wrap IntKind.i64 (s.1.2.2+(1:Int))),PUnit.unit)))) (
  .ret (Sum.inr (Sum.inl (PUnit.unit,PUnit.unit))))):=fun s=>by kernel_rfl
noncomputable def K.L_in:=lim K.st_in
noncomputable def BRAl10:Tab:=BRAl9.addNode 28 33 (nodeE [5,1,0] S_in X_sc (fun s=>.obs (K.L_in s) .ret))
theorem tRAl10:TabOk P BRAl10:=TabOk.addLoop (d:=30) okP tRAl9 (by kernel_rfl) (by kernel_rfl) (fun s r h=>obs_ret h)
theorem fn_in:∀ a,(callT1 P BRAl10 30 28 D_nn dB) a=T.run (
 .br ((↑(clampL (List.length a.1)):Int) != (↑(clampL (List.length a.2)):Int)) (
  .ret (false)) (
  .obs (L_in ((decF rInt (List.length a.1) fun i=>encF rInt a.1 ((0:Nat)+i),decF rInt (List.length a.2) fun i=>encF rInt a.2 ((0:Nat)+i),(0:Int)),PUnit.unit)) fun x0=>
   .sum (x0) (fun _=>
    .ret (true)) (fun x1=>
    .ret x1.1))):=fun a=>by kernel_rfl
end Go.Proofs.YtkpligkggnjcoaaGreatDoor
/-! RP3 -/
namespace Go.Proofs.YtkpligkggnjcoaaGreatDoor
open Ev K
set_option maxRecDepth 100000
set_option maxHeartbeats 4000000
namespace K
theorem L_sc_eq (L:List Chrg) (hL:L.length≤1000000):L_sc ((L,L,0),())=some (.inl ((),())):=by
 refine lim_all (fun i:Nat=>((L,L,(i:Int)),())) L.length (fun i hi=>?_) ?_
 ·have hy:=List.getElem?_eq_getElem hi
  rw [sl_sc]
  generalize L[i]=x at hy
  simp only [Int.toNat_natCast,Nat.zero_add,cl hL,chrg_at hy,nc0,nc1,decF_encF,wi i (by omega)]
  exact br_t (decide_eq_true (by omega)) (chk_step (decide_eq_true (by omega)) (chk_step (decide_eq_true (by omega)) (br_f (by simp) rfl)))
 ·rw [sl_sc]
  simp only [cl hL]
  exact br_f (decide_eq_false (by omega)) rfl
theorem sc_ok (a:List Chrg × List Chrg) (v:Bool) (h:(T.chk (decide (a.1=a.2∧a.1.length≤1000000)) (.ret true)).run=some v):callT1 P BRAl9 30 27 D_cc dB a=some v:=by
 obtain ⟨g,e⟩:=chk_ret h
 subst e
 obtain ⟨x,y⟩:=a
 obtain ⟨g1,g2⟩:=of_decide_eq_true g
 simp only at g1 g2
 subst g1
 rw [fn_sc]
 simp only [Nat.zero_add,decF_encF]
 exact br_f (by simp) (obs_step (L_sc_eq x g2) (T.run_inl _ _ _))
theorem L_in_eq (L:List Int) (hL:L.length≤1000000):L_in ((L,L,0),())=some (.inl ((),())):=by
 refine lim_all (fun i:Nat=>((L,L,(i:Int)),())) L.length (fun i hi=>?_) ?_
 ·rw [sl_in]
  simp only [Int.toNat_natCast,Nat.zero_add,cl hL,decF_encF,wi i (by omega)]
  exact br_t (decide_eq_true (by omega)) (chk_step (decide_eq_true (by omega)) (chk_step (decide_eq_true (by omega)) (br_f (by simp) rfl)))
 ·rw [sl_in]
  simp only [cl hL]
  exact br_f (decide_eq_false (by omega)) rfl
theorem in_ok (a:List Int × List Int) (v:Bool) (h:(T.chk (decide (a.1=a.2∧a.1.length≤1000000)) (.ret true)).run=some v):callT1 P BRAl10 30 28 D_nn dB a=some v:=by
 obtain ⟨g,e⟩:=chk_ret h
 subst e
 obtain ⟨x,y⟩:=a
 obtain ⟨g1,g2⟩:=of_decide_eq_true g
 simp only at g1 g2
 subst g1
 rw [fn_in]
 simp only [Nat.zero_add,decF_encF]
 exact br_f (by simp) (obs_step (L_in_eq x g2) (T.run_inl _ _ _))
end K
noncomputable def BRP31:Tab:=BRAl10.addCall 27 (callE D_cc dB (fun a=>.chk (decide (a.1=a.2∧a.1.length≤1000000)) (.ret true)))
theorem tRP31:TabOk P BRP31:=TabOk.addPC tRAl10 (fun a r h=>call_of okP tRAl9 (K.sc_ok a r h))
noncomputable def BRP32:Tab:=BRP31.addCall 28 (callE D_nn dB (fun a=>.chk (decide (a.1=a.2∧a.1.length≤1000000)) (.ret true)))
theorem tRP32:TabOk P BRP32:=TabOk.addPC tRP31 (fun a r h=>call_of okP tRAl10 (K.in_ok a r h))
theorem fn_lb:∀ a,(callT1 P BRP32 30 4 D_bil dB) a=T.run (
 let q7:=(0:Nat);
 let q1:=decN nRul (List.length a.1) fun i=>encN nRul a.1 (q7+i);
 let q2:=decF rLot (List.length a.2) fun i=>encF rLot a.2 (q7+i);
 let q3:=Prod.fst (restsV q1 q2);
 let q5:=Prod.fst (billV q1 q2);
 let q4:=decF rChrg (List.length q5) fun i=>encF rChrg q5 (q7+i);
 let q6:=decF rInt (List.length q3) fun i=>encF rInt q3 (q7+i);
  .br (!fewV q1) (
    .ret (true)) (
    .br (!cargoV q2) (
      .ret (true)) (
      .chk (decide ((q4=decF rChrg (List.length q5) fun i=>encF rChrg q5 (q7+i))∧List.length q4≤(1000000:Nat))) <|
      .chk (decide ((q6=decF rInt (List.length q3) fun i=>encF rInt q3 (q7+i))∧List.length q6≤(1000000:Nat))) <|
      .br (Prod.snd (billV q1 q2) == Prod.snd (billV q1 q2)) (
        .ret (Prod.snd (restsV q1 q2) == Prod.snd (restsV q1 q2))) (
        .ret (false))))):=fun a=>by kernel_rfl
end Go.Proofs.YtkpligkggnjcoaaGreatDoor
/-! RP4 -/
namespace Go.Proofs.YtkpligkggnjcoaaGreatDoor
open Ev K
set_option maxRecDepth 100000
namespace K
theorem billV_len (l:List Rul) (c:List Lot):(billV l c).1.length≤1000000:=by
 unfold billV
 by_cases h:errB l c=0
 ·rw [if_neg (fun k=>k h)]
  have h1:=(checkT_ok (errB_ok h).1).1
  have:=dues_len l
  show (billL l c).length≤_
  rw [bill_map,List.length_map];omega
 ·rw [if_pos h];exact Nat.zero_le _
theorem restsV_len (l:List Rul) (c:List Lot):(restsV l c).1.length≤1000000:=by
 unfold restsV
 by_cases h:errB l c=0
 ·rw [if_neg (fun k=>k h)]
  have h1:=(checkT_ok (errB_ok h).1).1
  have:=restsK_len l c l.length
  rw [restsK_all] at this
  show (restsL l c).length≤_
  omega
 ·rw [if_pos h];exact Nat.zero_le _
theorem lb_eq (a:List Rul × List Lot):callT1 P BRP32 30 4 D_bil dB a=some true:=by
 rw [fn_lb]
 simp only [Nat.zero_add,decN_encN,decF_encF]
 refine br_if (fun _=>rfl) (fun _=>br_if (fun _=>rfl) (fun _=>chk_step (decide_eq_true ⟨trivial,billV_len ..⟩) (chk_step (decide_eq_true ⟨trivial,restsV_len ..⟩) ?_)))
 refine br_t (by simp) ?_
 show some _=_
 simp
end K
end Go.Proofs.YtkpligkggnjcoaaGreatDoor
