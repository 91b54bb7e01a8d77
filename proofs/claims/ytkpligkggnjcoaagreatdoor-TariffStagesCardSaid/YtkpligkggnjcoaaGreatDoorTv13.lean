/- Parts of the proof, one behind the other: RAl, RP3, RP4. No conditions. -/
import Derived.Test.YtkpligkggnjcoaaGreatDoorTv12
/-! RAl -/
namespace Go.Proofs.YtkpligkggnjcoaaGreatDoor
open Ev K
set_option maxRecDepth 100000
namespace K
theorem rbl_eq (a:List Rul × List Lot):callT1 P BRAk3 30 24 D_bil R_rbl a=some (billV a.1 a.2):=by
 rw [fn_rbl]
 simp only [decF_enc0,decN_enc0']
 unfold billV errB
 by_cases h1:checkT a.1=0
 ·rw [if_neg (show ¬ (checkT a.1≠0) from fun h=>h h1)]
  refine br_f (by rw [h1];rfl) ?_
  by_cases h2:lotsL a.2=0
  ·rw [if_neg (fun h=>h h2)]
   exact br_f (by rw [h2];rfl) (chk_step (decide_eq_true ⟨h1,h2⟩) rfl)
  ·rw [if_pos h2]
   exact br_t (bne_iff_ne.2 h2) rfl
 ·rw [if_pos h1,if_pos h1]
  exact br_t (bne_iff_ne.2 h1) rfl
theorem stgs_ne {l:List Rul} {due grade:Str} {a:Spn} (h:spanL a=0):stgs l due grade a≠[]:=by
 obtain ⟨b1,b2,b3,b4⟩:=span_ok h
 obtain ⟨k1,_⟩:=st_ok (fun m=>penceL l due grade m) a.lo (a.hi+1 - a.lo).toNat
 intro e
 have k1:Runs (fun m=>penceL l due grade m) a.lo (stgs l due grade a) (a.lo+(((a.hi+1 - a.lo).toNat:Nat):Int)):=k1
 rw [e] at k1
 have:a.lo+(((a.hi+1 - a.lo).toNat:Nat):Int)=a.lo:=k1
 omega
theorem L_ren_eq (z:Stg × Stg × Int) (e:Int) (L:List Stg) (hL:L.length≤100000) (hne:L≠[]):L_ren (1,z,(L,e),(lowP (L.take 1),highP (L.take 1),0),())=some ((),z,(lowP L,highP L,0),()):=by
 have e1:lowP L=lowP (L.take L.length):=by rw [List.take_length]
 have e2:highP L=highP (L.take L.length):=by rw [List.take_length]
 have hp:0<L.length:=List.length_pos_iff.2 hne
 rw [e1,e2]
 have key:=lim_all (step:=st_ren) (fun i:Nat=>(((i+1:Nat):Int),z,(L,e),(lowP (L.take (i+1)),highP (L.take (i+1)),(0:Int)),())) (L.length - 1) (r:=((),z,(lowP (L.take L.length),highP (L.take L.length),(0:Int)),())) (fun i hi=>?_) ?_
 ·exact key
 ·have hi:i+1<L.length:=by omega
  have hy:=List.getElem?_eq_getElem hi
  have hne2:L.take (i+1)≠[]:=fun h=>by
   have h2:(L.take (i+1)).length=0:=by rw [h];rfl
   rw [List.length_take] at h2;omega
  have ht:L.take (i+1+1)=L.take (i+1) ++ [L[i+1]]:=by rw [List.take_add_one,hy];rfl
  rw [sl_ren,ht,lowP_snoc hne2,highP_snoc hne2]
  generalize L[i+1]=x at hy
  simp only [Int.toNat_natCast,Nat.zero_add,stg_at hy,ng0,ng1,ng2,decF_encF,wi (i+1) (by omega),cl (show L.length≤1000000 by omega)]
  refine br_t (decide_eq_true (by omega)) (chk_step (decide_eq_true (by omega)) ?_)
  by_cases h1:x.pence<(lowP (L.take (i+1))).pence
  ·rw [if_pos h1]
   refine br_t (decide_eq_true h1) (chk_step (decide_eq_true (by omega)) (chk_step (decide_eq_true (by omega)) ?_))
   by_cases h2:x.pence > (highP (L.take (i+1))).pence
   ·rw [if_pos h2];exact br_t (decide_eq_true h2) (chk_step (decide_eq_true (by omega)) rfl)
   ·rw [if_neg h2];exact br_f (decide_eq_false h2) rfl
  ·rw [if_neg h1]
   refine br_f (decide_eq_false h1) (chk_step (decide_eq_true (by omega)) ?_)
   by_cases h2:x.pence > (highP (L.take (i+1))).pence
   ·rw [if_pos h2];exact br_t (decide_eq_true h2) (chk_step (decide_eq_true (by omega)) rfl)
   ·rw [if_neg h2];exact br_f (decide_eq_false h2) rfl
 ·have e3:L.length - 1+1=L.length:=by omega
  rw [sl_ren]
  simp only [e3,cl (show L.length≤1000000 by omega)]
  exact br_f (decide_eq_false (by omega)) rfl
theorem ren_eq (a:List Rul × Str × Str × Spn):callT1 P BRAk4 30 46 D_stg R_ren a=some (endsV a.1 a.2.1 a.2.2.1 a.2.2.2):=by
 rw [fn_ren]
 have hl:=stagesV_len a.1 a.2.1 a.2.2.1 a.2.2.2
 unfold endsV
 simp only [decN_enc0',decF_enc0,stages_err]
 by_cases h:errS a.1 a.2.1 a.2.2.1 a.2.2.2=0
 ·have e:(stagesV a.1 a.2.1 a.2.2.1 a.2.2.2).1=stgs a.1 a.2.1 a.2.2.1 a.2.2.2:=by unfold stagesV;rw [if_neg (fun k=>k h)]
  rw [e] at hl ⊢
  have hne:=stgs_ne (l:=a.1) (due:=a.2.1) (grade:=a.2.2.1) (errS_ok h).2
  rw [h]
  generalize stgs a.1 a.2.1 a.2.2.1 a.2.2.2=L at hl hne
  obtain ⟨x,t,rfl⟩:∃ x t,L=x :: t:=by cases L with
   | nil=>exact absurd rfl hne
   | cons x t=>exact ⟨x,t,rfl⟩
  have hx:(x :: t)[0]?=some x:=rfl
  simp only [stg_at hx,ng0,ng1,ng2]
  exact br_f rfl (chk_step (decide_eq_true (by simp only [List.length_cons];omega)) (chk_step (decide_eq_true (by simp only [List.length_cons];omega)) (obs_step (L_ren_eq _ _ (x :: t) (by omega) hne) rfl)))
 ·have e:(stagesV a.1 a.2.1 a.2.2.1 a.2.2.2).1=[]:=by unfold stagesV;rw [if_pos h]
  rw [e]
  exact br_t (bne_iff_ne.2 h) rfl
theorem L_rfl_eq (z:Int × Bool × Int) (e:Int) (L:List Stg) (hL:L.length≤100000):L_rfl (1,z,(L,e),())=some (match first (fallP L) L.length with
  | some j=>.inr ((),((L.getD j default).lo,true,0),())
  | none=>.inl ((),z,())):=by
 cases hn:L with
 | nil=>
  subst hn
  refine (lim_done (r:=.inl ((),z,())) ?_).trans rfl
  rw [sl_rfl]
  exact br_f rfl rfl
 | cons y t=>
  rw [← hn]
  have hp:0<L.length:=by rw [hn];simp
  have sh:first (fallP L) L.length=(first (fun i=>fallP L (i+1)) (L.length - 1)).map (·+1):=by
   cases hf:first (fun i=>fallP L (i+1)) (L.length - 1) with
   | none=>
    refine first_none fun i hi=>?_
    cases i with
    | zero=>rfl
    | succ j=>exact first_none' hf j (by omega)
   | some j=>
    obtain ⟨f1,f2,f3⟩:=first_spec hf
    show first (fallP L) L.length=some (j+1)
    refine first_some (by omega) f2 fun i hi=>?_
    cases i with
    | zero=>rfl
    | succ k=>exact f3 k (by omega)
  refine (lim_find (fun i:Nat=>(((i+1:Nat):Int),z,(L,e),())) (L.length - 1) (fun i=>fallP L (i+1)) (fun j=>.inr ((),((L.getD (j+1) default).lo,true,0),())) (.inl ((),z,())) (fun i hi hp=>?_) (fun i hi hp=>?_) ?_).trans ?_
  ·have hi1:i+1<L.length:=by omega
   have hy:=List.getElem?_eq_getElem hi1
   have hz:=List.getElem?_eq_getElem (l:=L) (i:=i) (by omega)
   rw [sl_rfl]
   rw [fallP_at hy hz] at hp
   rw [List.getD_eq_getElem?_getD,hy]
   generalize L[i+1]=x at hy hp
   generalize L[i]=y at hz hp
   have hw:IntKind.i64.wrap (((i+1:Nat):Int) - 1)=(i:Int):=by rw [w64_in (by omega) (by omega)];omega
   simp only [hw,Int.toNat_natCast,Nat.zero_add,stg_at hy,stg_at hz,ng0,ng2,cl (show L.length≤1000000 by omega)]
   exact br_t (decide_eq_true (by omega)) (chk_step (decide_eq_true (by omega)) (chk_step (decide_eq_true (by omega)) (br_t hp (chk_step (decide_eq_true (by omega)) rfl))))
  ·have hi1:i+1<L.length:=by omega
   have hy:=List.getElem?_eq_getElem hi1
   have hz:=List.getElem?_eq_getElem (l:=L) (i:=i) (by omega)
   rw [sl_rfl]
   rw [fallP_at hy hz] at hp
   generalize L[i+1]=x at hy hp
   generalize L[i]=y at hz hp
   have hw:IntKind.i64.wrap (((i+1:Nat):Int) - 1)=(i:Int):=by rw [w64_in (by omega) (by omega)];omega
   simp only [hw,Int.toNat_natCast,Nat.zero_add,stg_at hy,stg_at hz,ng0,ng2,decF_encF,wi (i+1) (by omega),cl (show L.length≤1000000 by omega)]
   exact br_t (decide_eq_true (by omega)) (chk_step (decide_eq_true (by omega)) (chk_step (decide_eq_true (by omega)) (br_f hp rfl)))
  ·have e3:L.length - 1+1=L.length:=by omega
   rw [sl_rfl]
   simp only [e3,cl (show L.length≤1000000 by omega)]
   exact br_f (decide_eq_false (by omega)) rfl
  ·rw [sh]
   cases first (fun i=>fallP L (i+1)) (L.length - 1)<;>rfl
theorem rfl_eq (a:List Rul × Str × Str × Spn):callT1 P BRAk5 30 48 D_stg R_rfl a=some (fallsV a.1 a.2.1 a.2.2.1 a.2.2.2):=by
 rw [fn_rfl]
 have hl:=stagesV_len a.1 a.2.1 a.2.2.1 a.2.2.2
 unfold fallsV
 simp only [decN_enc0',decF_enc0,stages_err]
 by_cases h:errS a.1 a.2.1 a.2.2.1 a.2.2.2=0
 ·rw [h]
  refine br_f rfl (obs_step (L_rfl_eq _ _ _ (by omega)) ?_)
  cases first (fallP (stagesV a.1 a.2.1 a.2.2.1 a.2.2.2).1) (stagesV a.1 a.2.1 a.2.2.1 a.2.2.2).1.length<;>rfl
 ·have e:(stagesV a.1 a.2.1 a.2.2.1 a.2.2.2).1=[]:=by unfold stagesV;rw [if_pos h]
  rw [e]
  exact br_t (bne_iff_ne.2 h) rfl
theorem L_rfr_eq (n e:Int) (L:List Stg) (hL:L.length≤100000):L_rfr ((n,0),(L,e),())=some (match first (atP L (geP n)) L.length with
  | some j=>.inr (((L.getD j default).lo,0),())
  | none=>.inl ((),())):=by
 refine (lim_find (fun j:Nat=>((n,(j:Int)),(L,e),())) L.length (atP L (geP n)) (fun j=>.inr (((L.getD j default).lo,0),())) (.inl ((),())) (fun j hj hp=>?_) (fun j hj hp=>?_) ?_).trans ?_
 ·rw [sl_rfr]
  have hy:=List.getElem?_eq_getElem hj
  rw [List.getD_eq_getElem?_getD]
  unfold atP at hp;rw [hy] at hp ⊢
  generalize L[j]=x at hy hp
  simp only [Int.toNat_natCast,Nat.zero_add,stg_at hy,ng0,ng2,cl (show L.length≤1000000 by omega)]
  exact br_t (decide_eq_true (by omega)) (chk_step (decide_eq_true (by omega)) (br_t hp (chk_step (decide_eq_true (by omega)) rfl)))
 ·rw [sl_rfr]
  have hy:=List.getElem?_eq_getElem hj
  unfold atP at hp;rw [hy] at hp
  generalize L[j]=x at hy hp
  simp only [Int.toNat_natCast,Nat.zero_add,stg_at hy,ng2,decF_encF,wi j (by omega),cl (show L.length≤1000000 by omega)]
  exact br_t (decide_eq_true (by omega)) (chk_step (decide_eq_true (by omega)) (br_f hp rfl))
 ·rw [sl_rfr]
  simp only [cl (show L.length≤1000000 by omega)]
  exact br_f (decide_eq_false (by omega)) rfl
 ·cases first (atP L (geP n)) L.length<;>rfl
theorem rfr_eq (a:List Rul × Str × Str × Spn × Int):callT1 P BRAk6 30 50 D_frm R_ii a=some (fromV a.1 a.2.1 a.2.2.1 a.2.2.2.1 a.2.2.2.2):=by
 rw [fn_rfr]
 have hl:=stagesV_len a.1 a.2.1 a.2.2.1 a.2.2.2.1
 unfold fromV
 simp only [decN_enc0',decF_enc0,stages_err]
 by_cases h:errS a.1 a.2.1 a.2.2.1 a.2.2.2.1=0
 ·rw [if_neg (fun k=>k h)]
  refine br_f (by rw [h];rfl) ?_
  have e:(stagesV a.1 a.2.1 a.2.2.1 a.2.2.2.1).1=stgs a.1 a.2.1 a.2.2.1 a.2.2.2.1:=by unfold stagesV;rw [if_neg (fun k=>k h)]
  rw [e] at hl ⊢
  refine obs_step (L_rfr_eq _ _ _ (by omega)) ?_
  unfold fromL
  have hff:=find_first (stgs a.1 a.2.1 a.2.2.1 a.2.2.2.1) (geP a.2.2.2.2)
  have hg:(fun s:Stg=>decide (s.pence ≥ a.2.2.2.2))=geP a.2.2.2.2:=rfl
  rw [hg,hff]
  cases hx:first (atP (stgs a.1 a.2.1 a.2.2.1 a.2.2.2.1) (geP a.2.2.2.2)) (stgs a.1 a.2.1 a.2.2.1 a.2.2.2.1).length with
  | none=>rfl
  | some j=>
   have hj:=(first_spec hx).1
   simp only [List.getD_eq_getElem?_getD,List.getElem?_eq_getElem hj];rfl
 ·rw [if_pos h]
  exact br_t (bne_iff_ne.2 h) rfl
end K
noncomputable def BRAl1:Tab:=BRAk6.addCall 24 (callE D_bil R_rbl (fun a=>.ret (K.billV a.1 a.2)))
theorem tRAl1:TabOk P BRAl1:=TabOk.addPC tRAk6 (fun a _r h=>call_of okP tRAk3 ((K.rbl_eq a).trans h))
noncomputable def BRAl2:Tab:=BRAl1.addCall 46 (callE D_stg R_ren (fun a=>.ret (K.endsV a.1 a.2.1 a.2.2.1 a.2.2.2)))
theorem tRAl2:TabOk P BRAl2:=TabOk.addPC tRAl1 (fun a _r h=>call_of okP tRAk4 ((K.ren_eq a).trans h))
noncomputable def BRAl3:Tab:=BRAl2.addCall 48 (callE D_stg R_rfl (fun a=>.ret (K.fallsV a.1 a.2.1 a.2.2.1 a.2.2.2)))
theorem tRAl3:TabOk P BRAl3:=TabOk.addPC tRAl2 (fun a _r h=>call_of okP tRAk5 ((K.rfl_eq a).trans h))
noncomputable def BRAl4:Tab:=BRAl3.addCall 50 (callE D_frm R_ii (fun a=>.ret (K.fromV a.1 a.2.1 a.2.2.1 a.2.2.2.1 a.2.2.2.2)))
theorem tRAl4:TabOk P BRAl4:=TabOk.addPC tRAl3 (fun a _r h=>call_of okP tRAk6 ((K.rfr_eq a).trans h))
noncomputable def BRAl5:Tab:=BRAl4.addCall 45 (callE D_pes R_en (fun a=>.ret (K.endsV a.1 a.2.1 a.2.2.1 a.2.2.2)))
theorem tRAl5:TabOk P BRAl5:=TabOk.addPC tRAl4 (fun a _r h=>call_of okP tTH11 ((K.en_eq a).trans h))
noncomputable def BRAl6:Tab:=BRAl5.addCall 47 (callE D_pes R_fl (fun a=>.ret (K.fallsV a.1 a.2.1 a.2.2.1 a.2.2.2)))
theorem tRAl6:TabOk P BRAl6:=TabOk.addPC tRAl5 (fun a _r h=>call_of okP tTH12 ((K.fl_eq a).trans h))
noncomputable def BRAl7:Tab:=BRAl6.addCall 42 (callE (.last dSpn 0) dB (fun a=>.ret (K.lw_span a)))
theorem tRAl7:TabOk P BRAl7:=TabOk.addPC tRAl6 (fun a _r h=>call_of okP tTH12 ((eq_lw_span a).trans h))
noncomputable def BRAl8:Tab:=BRAl7.addCall 29 (callE (.last dSpn 0) dB (fun a=>.ret (K.lw_brief a)))
theorem tRAl8:TabOk P BRAl8:=TabOk.addPC tRAl7 (fun a _r h=>call_of okP tTH13 ((eq_lw_brief a).trans h))
def D_cc:=DecL.cons (dRows rChrg) (.last (dRows rChrg) 0)
def S_sc:=DecS.mk0 (.cons (dRows rChrg) (.cons (dRows rChrg) (.skips 3 (.last (dInt) 20)))) .nil
def X_sc:=DecX.or (DecX.one (.exit 0) [] (DecS.mk0 (.tops 26) .nil)) (DecX.one .ret [4] (DecS.mk0 (.skips 4 (.last (dB) 21)) .nil))
noncomputable def K.st_sc:=loopT1 P BRAl8 30 27 33 [5,1,0] S_sc X_sc
theorem sl_sc:∀ s,(K.st_sc) s=T.run (
 .br (decide (s.1.2.2<(↑(clampL (List.length s.1.1)):Int))) (
  .chk (decide ((0:Int)≤s.1.2.2∧s.1.2.2<(↑(List.length s.1.1):Int))) <|
  .chk (decide ((0:Int)≤s.1.2.2∧s.1.2.2<(↑(List.length s.1.2.1):Int))) <|
  .br (!(textOf (encF rChrg s.1.1 ((0:Nat)+Int.toNat s.1.2.2) (0:Nat)) == textOf (encF rChrg s.1.2.1 ((0:Nat)+Int.toNat s.1.2.2) (0:Nat))&&numOf (encF rChrg s.1.1 ((0:Nat)+Int.toNat s.1.2.2) (nat_lit 1)) == numOf (encF rChrg s.1.2.1 ((0:Nat)+Int.toNat s.1.2.2) (nat_lit 1)))) (
   .ret (Sum.inr (Sum.inr (false,PUnit.unit)))) (
   .ret (Sum.inl ((decF rChrg (List.length s.1.1) fun i=>encF rChrg s.1.1 ((0:Nat)+i),decF rChrg (List.length s.1.2.1) fun i=>encF rChrg s.1.2.1 ((0:Nat)+i),IntKind.wrap IntKind.i64 (s.1.2.2+(1:Int))),PUnit.unit)))) (
  .ret (Sum.inr (Sum.inl (PUnit.unit,PUnit.unit))))):=fun s=>by kernel_rfl
noncomputable def K.L_sc:=lim K.st_sc
noncomputable def BRAl9:Tab:=BRAl8.addNode 27 33 (nodeE [5,1,0] S_sc X_sc (fun s=>.obs (K.L_sc s) .ret))
theorem tRAl9:TabOk P BRAl9:=TabOk.addLoop (d:=30) okP tRAl8 (by kernel_rfl) (by kernel_rfl) (fun s r h=>obs_ret h)
theorem fn_sc:∀ a,(callT1 P BRAl9 30 27 D_cc dB) a=T.run (
 .br ((↑(clampL (List.length a.1)):Int) != (↑(clampL (List.length a.2)):Int)) (
  .ret (false)) (
  .obs (L_sc ((decF rChrg (List.length a.1) fun i=>encF rChrg a.1 ((0:Nat)+i),decF rChrg (List.length a.2) fun i=>encF rChrg a.2 ((0:Nat)+i),(0:Int)),PUnit.unit)) fun x0=>
   .sum (x0) (fun _=>
    .ret (true)) (fun x1=>
    .ret x1.1))):=fun a=>by kernel_rfl
def D_nn:=DecL.cons (dRows rInt) (.last (dRows rInt) 0)
def S_in:=DecS.mk0 (.cons (dRows rInt) (.cons (dRows rInt) (.skips 3 (.last (dInt) 20)))) .nil
noncomputable def K.st_in:=loopT1 P BRAl9 30 28 33 [5,1,0] S_in X_sc
theorem sl_in:∀ s,(K.st_in) s=T.run (
 .br (decide (s.1.2.2<(↑(clampL (List.length s.1.1)):Int))) (
  .chk (decide ((0:Int)≤s.1.2.2∧s.1.2.2<(↑(List.length s.1.1):Int))) <|
  .chk (decide ((0:Int)≤s.1.2.2∧s.1.2.2<(↑(List.length s.1.2.1):Int))) <|
  .br (numOf (encF rInt s.1.1 ((0:Nat)+Int.toNat s.1.2.2) (0:Nat)) != numOf (encF rInt s.1.2.1 ((0:Nat)+Int.toNat s.1.2.2) (0:Nat))) (
   .ret (Sum.inr (Sum.inr (false,PUnit.unit)))) (
   .ret (Sum.inl ((decF rInt (List.length s.1.1) fun i=>encF rInt s.1.1 ((0:Nat)+i),decF rInt (List.length s.1.2.1) fun i=>encF rInt s.1.2.1 ((0:Nat)+i),IntKind.wrap IntKind.i64 (s.1.2.2+(1:Int))),PUnit.unit)))) (
  .ret (Sum.inr (Sum.inl (PUnit.unit,PUnit.unit))))):=fun s=>by kernel_rfl
noncomputable def K.L_in:=lim K.st_in
noncomputable def BRAl10:Tab:=BRAl9.addNode 28 33 (nodeE [5,1,0] S_in X_sc (fun s=>.obs (K.L_in s) .ret))
theorem tRAl10:TabOk P BRAl10:=TabOk.addLoop (d:=30) okP tRAl9 (by kernel_rfl) (by kernel_rfl) (fun s r h=>obs_ret h)
theorem fn_in:∀ a,(callT1 P BRAl10 30 28 D_nn dB) a=T.run (
 .br ((↑(clampL (List.length a.1)):Int) != (↑(clampL (List.length a.2)):Int)) (
  .ret (false)) (
  .obs (L_in ((decF rInt (List.length a.1) fun i=>encF rInt a.1 ((0:Nat)+i),decF rInt (List.length a.2) fun i=>encF rInt a.2 ((0:Nat)+i),(0:Int)),PUnit.unit)) fun x0=>
   .sum (x0) (fun _=>
    .ret (true)) (fun x1=>
    .ret x1.1))):=fun a=>by kernel_rfl
end Go.Proofs.YtkpligkggnjcoaaGreatDoor
/-! RP3 -/
namespace Go.Proofs.YtkpligkggnjcoaaGreatDoor
open Ev K
set_option maxRecDepth 100000
set_option maxHeartbeats 4000000
namespace K
theorem L_sc_eq (L:List Chrg) (hL:L.length≤1000000):L_sc ((L,L,0),())=some (.inl ((),())):=by
 refine lim_all (fun i:Nat=>((L,L,(i:Int)),())) L.length (fun i hi=>?_) ?_
 ·have hy:=List.getElem?_eq_getElem hi
  rw [sl_sc]
  generalize L[i]=x at hy
  simp only [Int.toNat_natCast,Nat.zero_add,cl hL,chrg_at hy,nc0,nc1,decF_encF,wi i (by omega)]
  exact br_t (decide_eq_true (by omega)) (chk_step (decide_eq_true (by omega)) (chk_step (decide_eq_true (by omega)) (br_f (by simp) rfl)))
 ·rw [sl_sc]
  simp only [cl hL]
  exact br_f (decide_eq_false (by omega)) rfl
theorem sc_ok (a:List Chrg × List Chrg) (v:Bool) (h:(T.chk (decide (a.1=a.2∧a.1.length≤1000000)) (.ret true)).run=some v):callT1 P BRAl9 30 27 D_cc dB a=some v:=by
 obtain ⟨g,e⟩:=chk_ret h
 subst e
 obtain ⟨x,y⟩:=a
 obtain ⟨g1,g2⟩:=of_decide_eq_true g
 simp only at g1 g2
 subst g1
 rw [fn_sc]
 simp only [Nat.zero_add,decF_encF]
 exact br_f (by simp) (obs_step (L_sc_eq x g2) (T.run_inl _ _ _))
theorem L_in_eq (L:List Int) (hL:L.length≤1000000):L_in ((L,L,0),())=some (.inl ((),())):=by
 refine lim_all (fun i:Nat=>((L,L,(i:Int)),())) L.length (fun i hi=>?_) ?_
 ·rw [sl_in]
  simp only [Int.toNat_natCast,Nat.zero_add,cl hL,decF_encF,wi i (by omega)]
  exact br_t (decide_eq_true (by omega)) (chk_step (decide_eq_true (by omega)) (chk_step (decide_eq_true (by omega)) (br_f (by simp) rfl)))
 ·rw [sl_in]
  simp only [cl hL]
  exact br_f (decide_eq_false (by omega)) rfl
theorem in_ok (a:List Int × List Int) (v:Bool) (h:(T.chk (decide (a.1=a.2∧a.1.length≤1000000)) (.ret true)).run=some v):callT1 P BRAl10 30 28 D_nn dB a=some v:=by
 obtain ⟨g,e⟩:=chk_ret h
 subst e
 obtain ⟨x,y⟩:=a
 obtain ⟨g1,g2⟩:=of_decide_eq_true g
 simp only at g1 g2
 subst g1
 rw [fn_in]
 simp only [Nat.zero_add,decF_encF]
 exact br_f (by simp) (obs_step (L_in_eq x g2) (T.run_inl _ _ _))
def stkL {α β:Type} (l:List α) (x:β):β:=match l with
 | []=>x
 | _ :: _=>x
theorem stkL_eq {α β:Type} (l:List α) (x:β):stkL l x=x:=by cases l<;>rfl
theorem stk_run {α β:Type} {l:List α} {x r:β} (h:(T.ret (stkL l x)).run=some r):some x=some r:=by rw [stkL_eq] at h;exact h
end K
noncomputable def BRP31:Tab:=BRAl10.addCall 27 (callE D_cc dB (fun a=>.chk (decide (a.1=a.2∧a.1.length≤1000000)) (.ret true)))
theorem tRP31:TabOk P BRP31:=TabOk.addPC tRAl10 (fun a r h=>call_of okP tRAl9 (K.sc_ok a r h))
noncomputable def BRP32:Tab:=BRP31.addCall 28 (callE D_nn dB (fun a=>.chk (decide (a.1=a.2∧a.1.length≤1000000)) (.ret true)))
theorem tRP32:TabOk P BRP32:=TabOk.addPC tRP31 (fun a r h=>call_of okP tRAl10 (K.in_ok a r h))
noncomputable def BRP33:Tab:=BRP32.addCall 43 (callE D_stg R_stg (fun a=>.ret (K.stkL a.1 (K.stagesV a.1 a.2.1 a.2.2.1 a.2.2.2))))
theorem tRP33:TabOk P BRP33:=TabOk.addPC tRP32 (fun a _r h=>call_of okP tTD41 ((K.sg_eq a).trans (K.stk_run h)))
noncomputable def BRP34:Tab:=BRP33.addCall 44 (callE D_stg R_rrn (fun a=>.ret (K.stkL a.1 (K.stagesV a.1 a.2.1 a.2.2.1 a.2.2.2))))
theorem tRP34:TabOk P BRP34:=TabOk.addPC tRP33 (fun a _r h=>call_of okP tRAj7 ((K.rrn_eq a).trans (K.stk_run h)))
noncomputable def BRP35:Tab:=BRP34.addCall 45 (callE D_pes R_en (fun a=>.ret (K.stkL a.1 (K.endsV a.1 a.2.1 a.2.2.1 a.2.2.2))))
theorem tRP35:TabOk P BRP35:=TabOk.addPC tRP34 (fun a _r h=>call_of okP tTH11 ((K.en_eq a).trans (K.stk_run h)))
noncomputable def BRP36:Tab:=BRP35.addCall 46 (callE D_stg R_ren (fun a=>.ret (K.stkL a.1 (K.endsV a.1 a.2.1 a.2.2.1 a.2.2.2))))
theorem tRP36:TabOk P BRP36:=TabOk.addPC tRP35 (fun a _r h=>call_of okP tRAk4 ((K.ren_eq a).trans (K.stk_run h)))
noncomputable def BRP37:Tab:=BRP36.addCall 47 (callE D_pes R_fl (fun a=>.ret (K.stkL a.1 (K.fallsV a.1 a.2.1 a.2.2.1 a.2.2.2))))
theorem tRP37:TabOk P BRP37:=TabOk.addPC tRP36 (fun a _r h=>call_of okP tTH12 ((K.fl_eq a).trans (K.stk_run h)))
noncomputable def BRP38:Tab:=BRP37.addCall 48 (callE D_stg R_rfl (fun a=>.ret (K.stkL a.1 (K.fallsV a.1 a.2.1 a.2.2.1 a.2.2.2))))
theorem tRP38:TabOk P BRP38:=TabOk.addPC tRP37 (fun a _r h=>call_of okP tRAk5 ((K.rfl_eq a).trans (K.stk_run h)))
noncomputable def BRP39:Tab:=BRP38.addCall 49 (callE D_frm R_ii (fun a=>.ret (K.stkL a.1 (K.fromV a.1 a.2.1 a.2.2.1 a.2.2.2.1 a.2.2.2.2))))
theorem tRP39:TabOk P BRP39:=TabOk.addPC tRP38 (fun a _r h=>call_of okP tTD52 ((K.fr_eq a).trans (K.stk_run h)))
noncomputable def BRP310:Tab:=BRP39.addCall 50 (callE D_frm R_ii (fun a=>.ret (K.stkL a.1 (K.fromV a.1 a.2.1 a.2.2.1 a.2.2.2.1 a.2.2.2.2))))
theorem tRP310:TabOk P BRP310:=TabOk.addPC tRP39 (fun a _r h=>call_of okP tRAk6 ((K.rfr_eq a).trans (K.stk_run h)))
def S_ls:=DecS.mk0 (.skips 11 (.cons (dB) (.cons (dRows rStg) (.skip (.unit (dLp 0 0 0 0) (.skips 12 (.last (dInt) 154))))))) (.flat 92 lStgs .nil)
def X_ls:=DecX.or (DecX.one (.exit 0) [11] (DecS.mk0 (.skips 11 (.last (dB) 170)) .nil)) (DecX.one .ret [10] (DecS.mk0 (.skips 10 (.last (dB) 171)) .nil))
noncomputable def K.st_ls:=loopT1 P BRP310 30 10 121 [27,14,12,11] S_ls X_ls
theorem sl_ls:∀ s,(K.st_ls) s=T.run (
 let q1:=(0:Nat)+Int.toNat s.1.2.2;
 let q2:=List.length s.1.2.1;
  .br (decide (s.1.2.2<(↑(clampL q2):Int))) (
    .chk (decide ((0:Int)≤s.1.2.2∧s.1.2.2<(↑q2:Int))) <|
    .chk (decide ((0:Int)≤s.1.2.2∧s.1.2.2<(↑(List.length s.2.1.1):Int))) <|
    .br (!(numOf (encF rStg s.1.2.1 q1 (0:Nat)) == numOf (encF rStg s.2.1.1 q1 (0:Nat))&&numOf (encF rStg s.1.2.1 q1 (nat_lit 1)) == numOf (encF rStg s.2.1.1 q1 (nat_lit 1))&&numOf (encF rStg s.1.2.1 q1 (nat_lit 2)) == numOf (encF rStg s.2.1.1 q1 (nat_lit 2)))) (
      .ret (Sum.inr (Sum.inr (false,PUnit.unit)))) (
      .ret (Sum.inl ((s.1.1,decF rStg q2 fun i=>encF rStg s.1.2.1 ((0:Nat)+i),IntKind.wrap IntKind.i64 (s.1.2.2+(1:Int))),(decF rStg (List.length s.2.1.1) fun i=>encF rStg s.2.1.1 ((0:Nat)+i),s.2.1.2),PUnit.unit)))) (
    .ret (Sum.inr (Sum.inl (s.1.1,PUnit.unit))))):=fun s=>by kernel_rfl
noncomputable def K.L_ls:=lim K.st_ls
noncomputable def BRP311:Tab:=BRP310.addNode 10 121 (nodeE [27,14,12,11] S_ls X_ls (fun s=>.obs (K.L_ls s) .ret))
theorem tRP311:TabOk P BRP311:=TabOk.addLoop (d:=30) okP tRP310 (by kernel_rfl) (by kernel_rfl) (fun s r h=>obs_ret h)
theorem fn_ls:∀ a,(callT1 P BRP311 30 10 D_frm dB) a=T.run (
 let q1:=decN nRul (List.length a.1) fun i=>encN nRul a.1 ((0:Nat)+i);
 let q2:=stkL q1 (endsV q1 a.2.1 a.2.2.1 a.2.2.2.1);
 let q3:=stkL q1 (stagesV q1 a.2.1 a.2.2.1 a.2.2.2.1);
 let q4:=stkL q1 (fallsV q1 a.2.1 a.2.2.1 a.2.2.2.1);
 let q5:=stkL q1 (fromV q1 a.2.1 a.2.2.1 a.2.2.2.1 a.2.2.2.2);
 let q6:=q2.2.1;
 let q7:=List.length q3.1;
 let q8:=q2.1;
 let q9:=q4.2;
  .br (!fewV q1) (
    .ret (true)) (
    .br (!lw_short a.2.1) (
      .ret (true)) (
      .br (!lw_short a.2.2.1) (
        .ret (true)) (
        .br (!lw_span a.2.2.2.1) (
          .ret (true)) (
          .br (q3.2 != q3.2) (
            .ret (false)) (
            .br ((↑(clampL q7):Int) != (↑(clampL q7):Int)) (
              .ret (false)) (
              .br (!(Stg.lo q8 == Stg.lo q8&&Stg.hi q8 == Stg.hi q8&&Stg.pence q8 == Stg.pence q8)) (
                .ret (false)) (
                .br (!(Stg.lo q6 == Stg.lo q6&&Stg.hi q6 == Stg.hi q6&&Stg.pence q6 == Stg.pence q6)) (
                  .ret (false)) (
                  .br (q2.2.2 != q2.2.2) (
                    .ret (false)) (
                    .br (q4.1 != q4.1) (
                      .ret (false)) (
                      .br (!q9.1 == q9.1) (
                        .ret (false)) (
                        .br (q9.2 != q9.2) (
                          .ret (false)) (
                          .br (q5.1 != q5.1) (
                            .ret (false)) (
                            .br (q5.2 != q5.2) (
                              .ret (false)) (
                              .obs (L_ls ((true,decF rStg q7 fun i=>encF rStg q3.1 ((0:Nat)+i),(0:Int)),(decF rStg q7 fun i=>encF rStg q3.1 ((0:Nat)+i),q3.2),PUnit.unit)) fun x0=>
                                .sum (x0) (fun x1=>
                                  .ret x1.1) (fun x1=>
                                  .ret x1.1)))))))))))))))):=fun a=>by kernel_rfl
end Go.Proofs.YtkpligkggnjcoaaGreatDoor
/-! RP4 -/
namespace Go.Proofs.YtkpligkggnjcoaaGreatDoor
open Ev K
set_option maxRecDepth 100000
namespace K
theorem L_ls_eq (up:Bool) (L:List Stg) (e:Int) (hL:L.length≤1000000):L_ls ((up,L,0),(L,e),())=some (.inl (up,())):=by
 refine lim_all (fun i:Nat=>((up,L,(i:Int)),(L,e),())) L.length (fun i hi=>?_) ?_
 ·have hy:=List.getElem?_eq_getElem hi
  rw [sl_ls]
  generalize L[i]=x at hy
  simp only [Int.toNat_natCast,Nat.zero_add,cl hL,stg_at hy,ng0,ng1,ng2,decF_encF,wi i (by omega)]
  exact br_t (decide_eq_true (by omega)) (chk_step (decide_eq_true (by omega)) (chk_step (decide_eq_true (by omega)) (br_f (by simp) rfl)))
 ·rw [sl_ls]
  simp only [cl hL]
  exact br_f (decide_eq_false (by omega)) rfl
theorem ls_eq (a:List Rul × Str × Str × Spn × Int):callT1 P BRP311 30 10 D_frm dB a=some true:=by
 rw [fn_ls]
 simp only [Nat.zero_add,decN_encN,decF_encF,stkL_eq]
 have hl:=stagesV_len a.1 a.2.1 a.2.2.1 a.2.2.2.1
 refine br_if (fun _=>rfl) (fun _=>br_if (fun _=>rfl) (fun _=>br_if (fun _=>rfl) (fun _=>br_if (fun _=>rfl) (fun _=>?_))))
 refine br_f (by simp) (br_f (by simp) (br_f (by simp) (br_f (by simp) (br_f (by simp) (br_f (by simp) (br_f (by simp) (br_f (by simp) (br_f (by simp) (br_f (by simp) ?_)))))))))
 exact obs_step (L_ls_eq true _ _ (by omega)) (T.run_inl _ _ _)
end K
end Go.Proofs.YtkpligkggnjcoaaGreatDoor
