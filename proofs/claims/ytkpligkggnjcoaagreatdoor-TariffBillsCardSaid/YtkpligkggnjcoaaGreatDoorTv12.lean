/- Parts of the proof, one behind the other: TWd, TWe, RA1, RA2, RA3, RA4, RA5, RA8, RA7, RA6, RA9, RAa, RAb, RAc, RAd, RAe, RAf, RAg, RAh, RAi, RAj, RAk, TH1, TH2, TNp. No conditions. -/
import Derived.Test.YtkpligkggnjcoaaGreatDoorTv11
/-! TWd -/
namespace Go.Proofs.YtkpligkggnjcoaaGreatDoor
open Ev K
set_option maxRecDepth 100000
namespace K
end K
end Go.Proofs.YtkpligkggnjcoaaGreatDoor
/-! TWe -/
namespace Go.Proofs.YtkpligkggnjcoaaGreatDoor
open Ev K
set_option maxRecDepth 100000
namespace K
theorem decF_appG {ρ:Type} (R:RowD ρ) (n m:Nat) (f g:Nat→Nat→AV):decF R (n+m) (appG n f g)=decF R n f ++ decF R m g:=by
 apply List.ext_getElem?
 intro i
 simp only [decF,List.getElem?_map]
 by_cases h:i<n
 ·have e:appG n f g i=f i:=by
   funext k;unfold appG;rw [show Nat.ble n i=false by rw [← Bool.not_eq_true,Nat.ble_eq];omega]
  rw [List.getElem?_append_left (by simp;exact h),List.getElem?_map,List.getElem?_range (by omega),List.getElem?_range h,Option.map_some,Option.map_some,e]
 ·have e:appG n f g i=g (i - n):=by
   funext k;unfold appG;rw [show Nat.ble n i=true by rw [Nat.ble_eq];omega]
  rw [List.getElem?_append_right (by simp;omega),List.getElem?_map]
  simp only [List.length_map,List.length_range]
  by_cases h2:i<n+m
  ·rw [List.getElem?_range h2,List.getElem?_range (by omega),Option.map_some,Option.map_some,e]
  ·rw [List.getElem?_eq_none (by simp;omega),List.getElem?_eq_none (by simp;omega)];rfl
theorem decF_part {ρ:Type} (R:RowD ρ) (l:List ρ) (a n:Nat) (h:a+n≤l.length):decF R n (fun i=>encF R l (a+i))=(l.drop a).take n:=by
 apply List.ext_getElem?
 intro i
 simp only [decF,List.getElem?_map]
 by_cases hi:i<n
 ·rw [List.getElem?_range hi,Option.map_some,List.getElem?_take,if_pos hi,List.getElem?_drop]
  have hy:l[a+i]?=some l[a+i]:=List.getElem?_eq_getElem (by omega)
  rw [encF_at hy,R.good,hy]
 ·rw [List.getElem?_eq_none (by simp;omega),List.getElem?_take,if_neg hi];rfl
end K
namespace K
end K
end Go.Proofs.YtkpligkggnjcoaaGreatDoor
/-! RA1 -/
namespace Go.Proofs.YtkpligkggnjcoaaGreatDoor
open Ev K
set_option maxRecDepth 100000
theorem fn_rres:∀ a,(callT1 P BTWc1 30 194 D_s dB) a=T.run (
 let q1:=(101:UInt8);
 let q2:=(111:UInt8);
 let q3:=(97:UInt8);
 let q4:=(116:UInt8);
 let q5:=(117:UInt8);
 let q6:=(112:UInt8);
 let q7:=(114:UInt8);
 let q8:=(110:UInt8);
  .br (a == [(100:UInt8),q5,q1]) (
    .ret (true)) (
    .br (a == [q2,(102:UInt8)]) (
      .ret (true)) (
      .br (a == [(102:UInt8),(108:UInt8),q3,q4]) (
        .ret (true)) (
        .br (a == [q6,q1,q7]) (
          .ret (true)) (
          .br (a == [q6,q3,(121:UInt8)]) (
            .ret (true)) (
            .br (a == [q3,(98:UInt8),q2,(118:UInt8),q1]) (
              .ret (true)) (
              .br (a == [q5,q6,q4,q2]) (
                .ret (true)) (
                .br (a == [q7,q1,(98:UInt8),q3,q4,q1]) (
                  .ret (true)) (
                  .br (a == [(105:UInt8),q8]) (
                    .ret (true)) (
                    .br (a == [(108:UInt8),q1,q3,(115:UInt8),q4]) (
                      .ret (true)) (
                      .br (a == [(109:UInt8),q2,(115:UInt8),q4]) (
                        .ret (true)) (
                        .br (a == [q7,q2,q5,q8,(100:UInt8)]) (
                          .ret (true)) (
                          .br (a == [q5,q6]) (
                            .ret (true)) (
                            .br (a == [(100:UInt8),q2,(119:UInt8),q8]) (
                              .ret (true)) (
                              .br (a == [q8,q1,q3,q7]) (
                                .ret (true)) (
                                .ret (false))))))))))))))))):=fun a=>by kernel_rfl
namespace K
theorem rres_eq (s:Str):callT1 P BTWc1 30 194 D_s dB s=some (words.contains s):=by
 rw [fn_rres]
 have key:∀ (w:Str) (ws:List Str) (t:T Bool),t.run=some (ws.contains s)→(T.br (s == w) (.ret true) t).run=some ((w :: ws).contains s):=fun w ws t h=>by
  rw [List.contains_cons]
  cases hb:s == w with
  | true=>rw [Bool.true_or];exact br_t rfl rfl
  | false=>rw [Bool.false_or];exact br_f rfl h
 unfold words
 repeat (refine key _ _ _ ?_)
 rfl
def resB (s:Str):Bool:=words.contains s
end K
noncomputable def BRA11:Tab:=BTWc1.addCall 194 (callE D_s dB (fun a=>.ret (K.resB a)))
theorem tRA11:TabOk P BRA11:=TabOk.addPC tTWc1 (fun a r h=>by rw [← ret_some h];exact call_of okP tTWc1 (K.rres_eq a))
def S_rn:=DecS.mk0 (.cons (dS) (.skips 2 (.last (dInt) 36))) .nil
def X_rn:=DecX.or (DecX.one (.exit 0) [] (DecS.mk0 (.tops 40) .nil)) (DecX.one .ret [2] (DecS.mk0 (.skips 2 (.last (dB) 37)) .nil))
noncomputable def K.st_rn:=loopT1 P BRA11 30 178 33 [3,0] S_rn X_rn
theorem sl_rn:∀ s,(K.st_rn) s=T.run (
 .br (decide (s.1.2<(↑(List.length s.1.1):Int))) (
  .chk (decide ((0:Int)≤s.1.2∧s.1.2<(↑(List.length s.1.1):Int))) <|
  .br (!a_small (↑(↑(BitVec.toFin (UInt8.toBitVec (Option.getD s.1.1[Int.toNat s.1.2]? (0:UInt8)))):Nat):Int)) (
   .chk (decide ((0:Int)≤s.1.2∧s.1.2<(↑(List.length s.1.1):Int))) <|
   .br (!a_rdigit (↑(↑(BitVec.toFin (UInt8.toBitVec (Option.getD s.1.1[Int.toNat s.1.2]? (0:UInt8)))):Nat):Int)) (
    .ret (Sum.inr (Sum.inr (false,PUnit.unit)))) (
    .ret (Sum.inl ((s.1.1,IntKind.wrap IntKind.i64 (s.1.2+(1:Int))),PUnit.unit)))) (
   .ret (Sum.inl ((s.1.1,IntKind.wrap IntKind.i64 (s.1.2+(1:Int))),PUnit.unit)))) (
  .ret (Sum.inr (Sum.inl (PUnit.unit,PUnit.unit))))):=fun s=>by kernel_rfl
noncomputable def K.L_rn:=lim K.st_rn
noncomputable def BRA12:Tab:=BRA11.addNode 178 33 (nodeE [3,0] S_rn X_rn (fun s=>.obs (K.L_rn s) .ret))
theorem tRA12:TabOk P BRA12:=TabOk.addLoop (d:=30) okP tRA11 (by kernel_rfl) (by kernel_rfl) (fun s r h=>obs_ret h)
theorem fn_rn:∀ a,(callT1 P BRA12 30 178 D_s dB) a=T.run (
 .br ((↑(List.length a):Int) == (0:Int)) (
  .ret (false)) (
  .br (decide ((↑(List.length a):Int) > (24:Int))) (
   .ret (false)) (
   .chk (decide ((0:Int)≤(0:Int)∧(0:Int)<(↑(List.length a):Int))) <|
   .br (!a_small (↑(↑(BitVec.toFin (UInt8.toBitVec (Option.getD a[nat_lit 0]? (0:UInt8)))):Nat):Int)) (
    .ret (false)) (
    .br (resB a) (
     .ret (false)) (
     .obs (L_rn ((a,(0:Int)),PUnit.unit)) fun x0=>
      .sum (x0) (fun _=>
       .ret (true)) (fun x1=>
       .ret x1.1)))))):=fun a=>by kernel_rfl
def S_ri:=DecS.mk0 (.cons (dRows rStr) (.cons (dS) (.skips 3 (.last (dInt) 12)))) .nil
def X_ri:=DecX.or (DecX.one (.exit 0) [] (DecS.mk0 (.tops 18) .nil)) (DecX.one .ret [4] (DecS.mk0 (.skips 4 (.last (dB) 13)) .nil))
noncomputable def K.st_ri:=loopT1 P BRA12 30 159 17 [5,1,0] S_ri X_ri
theorem sl_ri:∀ s,(K.st_ri) s=T.run (
 .br (decide (s.1.2.2<(↑(clampL (List.length s.1.1)):Int))) (
  .chk (decide ((0:Int)≤s.1.2.2∧s.1.2.2<(↑(List.length s.1.1):Int))) <|
  .br (textOf (encF rStr s.1.1 ((0:Nat)+Int.toNat s.1.2.2) (0:Nat)) == s.1.2.1) (
   .ret (Sum.inr (Sum.inr (true,PUnit.unit)))) (
   .ret (Sum.inl ((decF rStr (List.length s.1.1) fun i=>encF rStr s.1.1 ((0:Nat)+i),s.1.2.1,IntKind.wrap IntKind.i64 (s.1.2.2+(1:Int))),PUnit.unit)))) (
  .ret (Sum.inr (Sum.inl (PUnit.unit,PUnit.unit))))):=fun s=>by kernel_rfl
noncomputable def K.L_ri:=lim K.st_ri
noncomputable def BRA13:Tab:=BRA12.addNode 159 17 (nodeE [5,1,0] S_ri X_ri (fun s=>.obs (K.L_ri s) .ret))
theorem tRA13:TabOk P BRA13:=TabOk.addLoop (d:=30) okP tRA12 (by kernel_rfl) (by kernel_rfl) (fun s r h=>obs_ret h)
theorem fn_ri:∀ a,(callT1 P BRA13 30 159 D_ss dB) a=T.run (
 .obs (L_ri ((decF rStr (List.length a.1) fun i=>encF rStr a.1 ((0:Nat)+i),a.2,(0:Int)),PUnit.unit)) fun x0=>
  .sum (x0) (fun _=>
   .ret (false)) (fun x1=>
   .ret x1.1)):=fun a=>by kernel_rfl
theorem fn_rtm:∀ a,(callT1 P BRA13 30 179 (.last dTrm 0) dB) a=T.run (
 .br (decide (Trm.pay a<(0:Int))) (
  .ret (false)) (
  .br (decide (Trm.pay a > (10000:Int))) (
   .ret (false)) (
   .br (Trm.per a == (0:Int)) (
    .br (Trm.above a == (0:Int)) (
     .ret (Trm.upto a == (0:Int))) (
     .ret (false))) (
    .br (decide (Trm.per a > (0:Int))) (
     .br (decide (Trm.per a≤(65536:Int))) (
      .br (decide (Trm.above a ≥ (0:Int))) (
       .br (decide (Trm.above a<Trm.upto a)) (
        .ret (decide (Trm.upto a≤(65536:Int)))) (
        .ret (false))) (
       .ret (false))) (
      .ret (false))) (
     .ret (false)))))):=fun a=>by kernel_rfl
end Go.Proofs.YtkpligkggnjcoaaGreatDoor
/-! RA2 -/
namespace Go.Proofs.YtkpligkggnjcoaaGreatDoor
open Ev K
set_option maxRecDepth 100000
namespace K
theorem a_small_eq (b:UInt8):a_small ((b.toNat:Nat):Int)=smallB b:=by
 unfold a_small smallB
 apply Bool.eq_iff_iff.2
 by_cases h:(97:Int)≤b.toNat
 ·rw [if_pos (by simpa using h)];simp;omega
 ·rw [if_neg (by simpa using h)];simp;omega
theorem a_rdigit_eq (b:UInt8):a_rdigit ((b.toNat:Nat):Int)=digitB b:=by
 unfold a_rdigit digitB
 apply Bool.eq_iff_iff.2
 by_cases h:(48:Int)≤b.toNat
 ·rw [if_pos (by simpa using h)];simp;omega
 ·rw [if_neg (by simpa using h)];simp;omega
theorem L_rn_eq (s:Str) (hl:s.length≤1000000):L_rn ((s,0),())=some (if s.all plainB then .inl ((),()) else .inr (false,())):=by
 refine (lim_find (fun i:Nat=>((s,(i:Int)),())) s.length (atP s (fun b=>!plainB b)) (fun _=>.inr (false,())) (.inl ((),())) (fun i hi hp=>?_) (fun i hi hp=>?_) ?_).trans ?_
 ·rw [sl_rn]
  have hy:=List.getElem?_eq_getElem hi
  unfold atP at hp;rw [hy] at hp
  generalize s[i]=y at hy hp
  simp only [Int.toNat_natCast,hy,Option.getD_some]
  have hp:(!(smallB y || digitB y))=true:=hp
  rw [Bool.not_or,Bool.and_eq_true] at hp
  exact br_t (decide_eq_true (by omega)) (chk_step (decide_eq_true (by omega)) (br_t ((congrArg (!·) (a_small_eq y)).trans hp.1) (chk_step (decide_eq_true (by omega)) (br_t ((congrArg (!·) (a_rdigit_eq y)).trans hp.2) rfl))))
 ·rw [sl_rn]
  have hy:=List.getElem?_eq_getElem hi
  unfold atP at hp;rw [hy] at hp
  generalize s[i]=y at hy hp
  simp only [Int.toNat_natCast,hy,Option.getD_some,wi i (by omega)]
  have hp:(!(smallB y || digitB y))=false:=hp
  refine br_t (decide_eq_true (by omega)) (chk_step (decide_eq_true (by omega)) ?_)
  cases hs:smallB y with
  | true=>exact br_f ((congrArg (!·) (a_small_eq y)).trans (by rw [hs];rfl)) rfl
  | false=>
   rw [hs,Bool.false_or] at hp
   exact br_t ((congrArg (!·) (a_small_eq y)).trans (by rw [hs];rfl)) (chk_step (decide_eq_true (by omega)) (br_f ((congrArg (!·) (a_rdigit_eq y)).trans hp) rfl))
 ·rw [sl_rn]
  exact br_f (decide_eq_false (by dsimp only;omega)) rfl
 ·have e:=first_any s (fun b=>!plainB b)
  have e2:(s.any fun b=>!plainB b)=!(s.all plainB):=by rw [List.all_eq_not_any_not,Bool.not_not]
  rw [e2] at e
  cases hf:first (atP s fun b=>!plainB b) s.length with
  | some j=>rw [hf] at e;rw [show s.all plainB=false by simpa using e.symm];rfl
  | none=>rw [hf] at e;rw [show s.all plainB=true by simpa using e.symm];rfl
theorem rname_eq (a:Str):callT1 P BRA12 30 178 D_s dB a=some (nameB a):=by
 rw [fn_rn]
 unfold nameB
 cases a with
 | nil=>rfl
 | cons b t=>
  refine br_f rfl ?_
  by_cases hl:(b :: t).length≤24
  ·refine br_f (decide_eq_false (by omega)) (chk_step (decide_eq_true (by simp)) ?_)
   have e0:((b :: t)[0]?.getD 0)=b:=rfl
   have hd:decide (1≤(b :: t).length∧(b :: t).length≤24)=true:=decide_eq_true ⟨by simp,hl⟩
   rw [hd,e0]
   simp only [List.head?_cons,Option.any_some,Bool.true_and]
   cases hs:smallB b with
   | false=>exact br_t ((congrArg (!·) (a_small_eq b)).trans (by rw [hs];rfl)) rfl
   | true=>
    refine br_f ((congrArg (!·) (a_small_eq b)).trans (by rw [hs];rfl)) ?_
    rw [Bool.true_and]
    have er:resB (b :: t)=words.contains (b :: t):=rfl
    rw [← er]
    cases hr:resB (b :: t) with
    | true=>exact br_t rfl (by rw [Bool.not_true,Bool.and_false];rfl)
    | false=>
     refine br_f rfl (obs_step (L_rn_eq _ (by omega)) ?_)
     rw [Bool.not_false,Bool.and_true]
     cases (b :: t).all plainB<;>rfl
  ·refine br_t (decide_eq_true (by omega)) ?_
   rw [decide_eq_false (fun h=>hl h.2)];rfl
theorem L_ri_eq (l:List Str) (s:Str) (hl:l.length≤1000000):L_ri ((l,s,0),())=some (if inS l s then .inr (true,()) else .inl ((),())):=by
 refine (lim_find (fun i:Nat=>((l,s,(i:Int)),())) l.length (atP l (fun y=>s == y)) (fun _=>.inr (true,())) (.inl ((),())) (fun i hi hp=>?_) (fun i hi hp=>?_) ?_).trans ?_
 ·rw [sl_ri]
  have hy:=List.getElem?_eq_getElem hi
  unfold atP at hp;rw [hy] at hp
  generalize l[i]=y at hy hp
  simp only [Int.toNat_natCast,Nat.zero_add,str_at hy,ns0,cl hl]
  have hp:(s == y)=true:=hp
  exact br_t (decide_eq_true (by omega)) (chk_step (decide_eq_true (by omega)) (br_t (by rw [beq_iff_eq] at hp ⊢;exact hp.symm) rfl))
 ·rw [sl_ri]
  have hy:=List.getElem?_eq_getElem hi
  unfold atP at hp;rw [hy] at hp
  generalize l[i]=y at hy hp
  simp only [Int.toNat_natCast,Nat.zero_add,str_at hy,ns0,decF_encF,wi i (by omega),cl hl]
  have hp:(s == y)=false:=hp
  exact br_t (decide_eq_true (by omega)) (chk_step (decide_eq_true (by omega)) (br_f (by rw [beq_eq_false_iff_ne] at hp ⊢;exact fun h=>hp h.symm) rfl))
 ·rw [sl_ri]
  simp only [cl hl]
  exact br_f (decide_eq_false (by omega)) rfl
 ·have e:=first_any l (fun y=>s == y)
  have e:(first (atP l fun y=>s == y) l.length).isSome=inS l s:=e
  rw [← e]
  cases first (atP l fun y=>s == y) l.length<;>rfl
theorem ri_ok (a:List Str × Str) (r:Bool) (h:(M_ct a).run=some r):callT1 P BRA13 30 159 D_ss dB a=some r:=by
 obtain ⟨g,e⟩:=chk_ret h
 subst e
 have g:=of_decide_eq_true g
 rw [fn_ri]
 simp only [Nat.zero_add,decF_encF]
 refine obs_step (L_ri_eq a.1 a.2 g) ?_
 cases inS a.1 a.2<;>rfl
theorem rtm_no {t:Trm} (h:¬ trmOk t):(T.ret false).run=some (decide (trmOk t)):=by rw [decide_eq_false h];rfl
theorem rtm_is {t:Trm} {v:Bool} (h:v=true ↔ trmOk t):(T.ret v).run=some (decide (trmOk t)):=congrArg some (Bool.eq_iff_iff.2 (h.trans (decide_eq_true_iff).symm))
theorem rtm_eq (t:Trm):callT1 P BRA13 30 179 (.last dTrm 0) dB t=some (decide (trmOk t)):=by
 rw [fn_rtm]
 by_cases h1:t.pay<0
 ·exact br_t (decide_eq_true h1) (rtm_no fun h=>by unfold trmOk at h;omega)
 refine br_f (decide_eq_false h1) ?_
 by_cases h2:t.pay > 10000
 ·exact br_t (decide_eq_true h2) (rtm_no fun h=>by unfold trmOk at h;omega)
 refine br_f (decide_eq_false h2) ?_
 by_cases h3:t.per=0
 ·refine br_t (beq_iff_eq.2 h3) ?_
  by_cases h4:t.above=0
  ·refine br_t (beq_iff_eq.2 h4) (rtm_is ?_)
   unfold trmOk
   rw [beq_iff_eq,if_pos h3]
   omega
  ·exact br_f (beq_eq_false_iff_ne.2 h4) (rtm_no fun h=>by unfold trmOk at h;rw [if_pos h3] at h;omega)
 refine br_f (beq_eq_false_iff_ne.2 h3) ?_
 by_cases n4:¬ t.per > 0
 ·exact br_f (decide_eq_false n4) (rtm_no fun h=>by unfold trmOk at h;rw [if_neg h3] at h;omega)
 have h4:=Decidable.not_not.1 n4
 refine br_t (decide_eq_true h4) ?_
 by_cases n5:¬ t.per≤65536
 ·exact br_f (decide_eq_false n5) (rtm_no fun h=>by unfold trmOk at h;rw [if_neg h3] at h;omega)
 have h5:=Decidable.not_not.1 n5
 refine br_t (decide_eq_true h5) ?_
 by_cases n6:¬ t.above ≥ 0
 ·exact br_f (decide_eq_false n6) (rtm_no fun h=>by unfold trmOk at h;rw [if_neg h3] at h;omega)
 have h6:=Decidable.not_not.1 n6
 refine br_t (decide_eq_true h6) ?_
 by_cases n7:¬ t.above<t.upto
 ·exact br_f (decide_eq_false n7) (rtm_no fun h=>by unfold trmOk at h;rw [if_neg h3] at h;omega)
 have h7:=Decidable.not_not.1 n7
 refine br_t (decide_eq_true h7) ?_
 refine rtm_is ?_
 unfold trmOk
 rw [decide_eq_true_eq,if_neg h3]
 omega
end K
noncomputable def BRA21:Tab:=BRA13.addCall 178 (callE D_s dB (fun a=>.ret (K.nameB a)))
theorem tRA21:TabOk P BRA21:=TabOk.addPC tRA13 (fun a _r h=>call_of okP tRA12 ((K.rname_eq a).trans h))
noncomputable def BRA22:Tab:=BRA21.addCall 159 (callE D_ss dB K.M_ct)
theorem tRA22:TabOk P BRA22:=TabOk.addPC tRA21 (fun a r h=>call_of okP tRA13 (K.ri_ok a r h))
noncomputable def BRA23:Tab:=BRA22.addCall 179 (callE (.last dTrm 0) dB (fun a=>.ret (decide (K.trmOk a))))
theorem tRA23:TabOk P BRA23:=TabOk.addPC tRA22 (fun a _r h=>call_of okP tRA13 ((K.rtm_eq a).trans h))
end Go.Proofs.YtkpligkggnjcoaaGreatDoor
/-! RA3 -/
namespace Go.Proofs.YtkpligkggnjcoaaGreatDoor
open Ev K
set_option maxRecDepth 100000
theorem fn_rgr:∀ a,(callT1 P BRA23 30 152 D_s dB) a=T.run (
 .br (a == []) (
  .ret (true)) (
  .ret (nameB a))):=fun a=>by kernel_rfl
def D_rfor:DecL (Rul × Str × Str):=.cons dRul (.cons dS (.last dS 0))
theorem fn_rfor:∀ a,(callT1 P BRA23 30 163 D_rfor dB) a=T.run (
 .br (Rul.due a.1 == a.2.1) (
  .br ((↑(clampL (List.length (Rul.grades a.1))):Int) == (0:Int)) (
   .ret (true)) (
   .chk (decide (List.length (decF rStr (List.length (Rul.grades a.1)) fun i=>encF rStr (Rul.grades a.1) ((0:Nat)+i))≤(1000000:Nat))) <|
   .ret (inS (decF rStr (List.length (Rul.grades a.1)) fun i=>encF rStr (Rul.grades a.1) ((0:Nat)+i)) a.2.2))) (
  .ret (false))):=fun a=>by kernel_rfl
def D_rpaid:DecL (Trm × Int):=.cons dTrm (.last dInt 0)
theorem fn_rpaid:∀ a,(callT1 P BRA23 30 199 D_rpaid dInt) a=T.run (
 .br (Trm.per a.1 == (0:Int)) (
  .ret (Trm.pay a.1)) (
  .chk (!decide (Trm.per a.1=(0:Int))) <|
  .ret (IntKind.wrap IntKind.i64 (Trm.pay a.1 * IntKind.wrap IntKind.i64 (Int.tdiv (IntKind.wrap IntKind.i64 (IntKind.wrap IntKind.i64 ((if IntKind.wrap IntKind.i64 ((if Trm.upto a.1<a.2 then Trm.upto a.1 else a.2) - Trm.above a.1) > (0:Int) then IntKind.wrap IntKind.i64 ((if Trm.upto a.1<a.2 then Trm.upto a.1 else a.2) - Trm.above a.1) else (0:Int))+Trm.per a.1) - (1:Int))) (Trm.per a.1)))))):=fun a=>by kernel_rfl
end Go.Proofs.YtkpligkggnjcoaaGreatDoor
/-! RA4 -/
namespace Go.Proofs.YtkpligkggnjcoaaGreatDoor
open Ev K
set_option maxRecDepth 100000
namespace K
theorem rgr_eq (a:Str):callT1 P BRA23 30 152 D_s dB a=some (gradeB a):=by
 rw [fn_rgr]
 unfold gradeB
 cases a with
 | nil=>rfl
 | cons b t=>exact br_f rfl rfl
theorem rfor_ok (a:Rul × Str × Str) (r:Bool) (h:(T.chk (decide (a.1.grades.length≤1000000)) (.ret (forR a.1 a.2.1 a.2.2))).run=some r):callT1 P BRA23 30 163 D_rfor dB a=some r:=by
 obtain ⟨g,e⟩:=chk_ret h
 subst e
 have g:=of_decide_eq_true g
 rw [fn_rfor]
 simp only [Nat.zero_add,decF_encF,cl g]
 unfold forR
 refine br_if (fun h=>?_) fun h=>?_
 ·rw [h,Bool.true_and]
  refine br_if (fun h2=>?_) fun h2=>?_
  ·have:a.1.grades=[]:=List.length_eq_zero_iff.1 (by have:=beq_iff_eq.1 h2;omega)
   rw [this];rfl
  ·refine chk_step (decide_eq_true g) ?_
   have:a.1.grades.isEmpty=false:=by
    rw [← Bool.not_eq_true,List.isEmpty_iff]
    intro e;rw [e] at h2;cases h2
   rw [this,Bool.false_or,inS_eq];rfl
 ·rw [h];rfl
theorem rpaid_ok (a:Trm × Int) (r:Int) (h:(T.chk (decide (trmOk a.1∧0≤a.2∧a.2≤65536)) (.ret (paidT a.1 a.2))).run=some r):callT1 P BRA23 30 199 D_rpaid dInt a=some r:=by
 obtain ⟨g,e⟩:=chk_ret h
 subst e
 obtain ⟨g1,g2⟩:=of_decide_eq_true g
 rw [fn_rpaid]
 by_cases hp:a.1.per=0
 ·refine br_t (beq_iff_eq.2 hp) ?_
  unfold paidT;rw [if_pos hp];rfl
 ·refine br_f (beq_eq_false_iff_ne.2 hp) (chk_step (by rw [decide_eq_false hp];rfl) ?_)
  rw [paid_calc g1 hp g2];rfl
end K
noncomputable def BRA41:Tab:=BRA23.addCall 152 (callE D_s dB (fun a=>.ret (K.gradeB a)))
theorem tRA41:TabOk P BRA41:=TabOk.addPC tRA23 (fun a _r h=>call_of okP tRA23 ((K.rgr_eq a).trans h))
noncomputable def BRA42:Tab:=BRA41.addCall 163 (callE D_rfor dB (fun a=>.chk (decide (a.1.grades.length≤1000000)) (.ret (K.forR a.1 a.2.1 a.2.2))))
theorem tRA42:TabOk P BRA42:=TabOk.addPC tRA41 (fun a r h=>call_of okP tRA23 (K.rfor_ok a r h))
noncomputable def BRA43:Tab:=BRA42.addCall 199 (callE D_rpaid dInt (fun a=>.chk (decide (K.trmOk a.1∧0≤a.2∧a.2≤65536)) (.ret (K.paidT a.1 a.2))))
theorem tRA43:TabOk P BRA43:=TabOk.addPC tRA42 (fun a r h=>call_of okP tRA23 (K.rpaid_ok a r h))
def S_rf2:=DecS.mk0 (.skip (.unit (dLp 0 0 0 0) (.skip (.cons (dInt) (.last (dInt) 157))))) oRul
def X_rf2:=DecX.or (DecX.one (.exit 2) [3,1] (DecS.mk0 (.skip (.unit (dLp 0 0 0 0) (.skip (.last (dInt) 158)))) oRul)) (DecX.one .ret [2] (DecS.mk0 (.skips 2 (.last (dB) 159)) .nil))
noncomputable def K.st_rf2:=loopT1 P BRA43 30 116 73 [4,3,1] S_rf2 X_rf2
theorem sl_rf2:∀ s,(K.st_rf2) s=T.run (
 let q1:=Rul.grades s.2.1;
 let q4:=(0:Nat);
 let q2:=decF rTrm (List.length (Rul.terms s.2.1)) fun i=>encF rTrm (Rul.terms s.2.1) (q4+i);
 let q3:=decF rStr (List.length q1) fun i=>encF rStr q1 (q4+i);
  .br (decide (s.1.2<s.1.1)) (
    .chk (decide ((0:Int)≤s.1.2∧s.1.2<(↑(List.length q1):Int))) <|
    .chk (decide ((0:Int)≤s.1.1∧s.1.1<(↑(List.length q1):Int))) <|
    .br (textOf (encF rStr q1 (q4+Int.toNat s.1.2) q4) == textOf (encF rStr q1 (q4+Int.toNat s.1.1) q4)) (
      .ret (Sum.inr (Sum.inr (false,PUnit.unit)))) (
      .ret (Sum.inl ((s.1.1,IntKind.wrap IntKind.i64 (s.1.2+(1:Int))),Rul.mk (Rul.kind s.2.1) (Rul.due s.2.1) q3 q2 (Rul.n s.2.1) (Rul.d s.2.1) (Rul.way s.2.1),PUnit.unit)))) (
    .ret (Sum.inr (Sum.inl (s.1.1,Rul.mk (Rul.kind s.2.1) (Rul.due s.2.1) q3 q2 (Rul.n s.2.1) (Rul.d s.2.1) (Rul.way s.2.1),PUnit.unit))))):=fun s=>by kernel_rfl
noncomputable def K.L_rf2:=lim K.st_rf2
noncomputable def BRA44:Tab:=BRA43.addNode 116 73 (nodeE [4,3,1] S_rf2 X_rf2 (fun s=>.obs (K.L_rf2 s) .ret))
theorem tRA44:TabOk P BRA44:=TabOk.addLoop (d:=30) okP tRA43 (by kernel_rfl) (by kernel_rfl) (fun s r h=>obs_ret h)
def S_rf1:=DecS.mk0 (.skip (.unit (dLp 0 0 0 0) (.skip (.last (dInt) 158)))) oRul
def X_rf1:=DecX.or (DecX.one (.exit 0) [1] (DecS.mk0 (.skip (.unit (dLp 0 0 0 0) (.tops 160))) oRul)) (DecX.one .ret [2] (DecS.mk0 (.skips 2 (.last (dB) 159)) .nil))
noncomputable def K.st_rf1:=loopT1 P BRA44 30 116 33 [3,1] S_rf1 X_rf1
theorem sl_rf1:∀ s,(K.st_rf1) s=T.run (
 let q3:=Rul.grades s.2.1;
 let q4:=(0:Nat);
 let q1:=decF rStr (List.length q3) fun i=>encF rStr q3 (q4+i);
 let q2:=decF rTrm (List.length (Rul.terms s.2.1)) fun i=>encF rTrm (Rul.terms s.2.1) (q4+i);
  .br (decide (s.1<(↑(clampL (List.length q3)):Int))) (
    .chk (decide ((0:Int)≤s.1∧s.1<(↑(List.length q3):Int))) <|
    .br (!nameB (textOf (encF rStr q3 (q4+Int.toNat s.1) q4))) (
      .ret (Sum.inr (Sum.inr (false,PUnit.unit)))) (
      .obs (L_rf2 ((s.1,(0:Int)),Rul.mk (Rul.kind s.2.1) (Rul.due s.2.1) q1 q2 (Rul.n s.2.1) (Rul.d s.2.1) (Rul.way s.2.1),PUnit.unit)) fun x0=>
        .sum (x0) (fun x1=>
          .ret (Sum.inl (IntKind.wrap IntKind.i64 (x1.1+(1:Int)),Rul.mk (Rul.kind x1.2.1) (Rul.due x1.2.1) (decF rStr (List.length (Rul.grades x1.2.1)) fun i=>encF rStr (Rul.grades x1.2.1) (q4+i)) (decF rTrm (List.length (Rul.terms x1.2.1)) fun i=>encF rTrm (Rul.terms x1.2.1) (q4+i)) (Rul.n x1.2.1) (Rul.d x1.2.1) (Rul.way x1.2.1),PUnit.unit))) (fun x1=>
          .ret (Sum.inr (Sum.inr (x1.1,PUnit.unit)))))) (
    .ret (Sum.inr (Sum.inl (PUnit.unit,Rul.mk (Rul.kind s.2.1) (Rul.due s.2.1) q1 q2 (Rul.n s.2.1) (Rul.d s.2.1) (Rul.way s.2.1),PUnit.unit))))):=fun s=>by kernel_rfl
noncomputable def K.L_rf1:=lim K.st_rf1
noncomputable def BRA45:Tab:=BRA44.addNode 116 33 (nodeE [3,1] S_rf1 X_rf1 (fun s=>.obs (K.L_rf1 s) .ret))
theorem tRA45:TabOk P BRA45:=TabOk.addLoop (d:=30) okP tRA44 (by kernel_rfl) (by kernel_rfl) (fun s r h=>obs_ret h)
def S_rf3:=DecS.mk0 (.skip (.unit (dLp 0 0 0 0) (.skips 3 (.last (dInt) 156)))) oRul
def X_rf3:=DecX.or (DecX.one (.exit 4) [1] (DecS.mk0 (.skip (.unit (dLp 0 0 0 0) (.tops 160))) oRul)) (DecX.one .ret [2] (DecS.mk0 (.skips 2 (.last (dB) 159)) .nil))
noncomputable def K.st_rf3:=loopT1 P BRA45 30 116 121 [5,1] S_rf3 X_rf3
theorem sl_rf3:∀ s,(K.st_rf3) s=T.run (
 let q1:=Rul.terms s.2.1;
 let q2:=decF rStr (List.length (Rul.grades s.2.1)) fun i=>encF rStr (Rul.grades s.2.1) ((0:Nat)+i);
 let q3:=(0:Nat)+Int.toNat s.1;
 let q4:=decF rTrm (List.length q1) fun i=>encF rTrm q1 ((0:Nat)+i);
  .br (decide (s.1<(↑(clampL (List.length q1)):Int))) (
    .chk (decide ((0:Int)≤s.1∧s.1<(↑(List.length q1):Int))) <|
    .br (!decide (trmOk (Trm.mk (numOf (encF rTrm q1 q3 (0:Nat))) (numOf (encF rTrm q1 q3 (nat_lit 1))) (numOf (encF rTrm q1 q3 (nat_lit 2))) (numOf (encF rTrm q1 q3 (nat_lit 3)))))) (
      .ret (Sum.inr (Sum.inr (false,PUnit.unit)))) (
      .ret (Sum.inl (IntKind.wrap IntKind.i64 (s.1+(1:Int)),Rul.mk (Rul.kind s.2.1) (Rul.due s.2.1) q2 q4 (Rul.n s.2.1) (Rul.d s.2.1) (Rul.way s.2.1),PUnit.unit)))) (
    .ret (Sum.inr (Sum.inl (PUnit.unit,Rul.mk (Rul.kind s.2.1) (Rul.due s.2.1) q2 q4 (Rul.n s.2.1) (Rul.d s.2.1) (Rul.way s.2.1),PUnit.unit))))):=fun s=>by kernel_rfl
noncomputable def K.L_rf3:=lim K.st_rf3
noncomputable def BRA46:Tab:=BRA45.addNode 116 121 (nodeE [5,1] S_rf3 X_rf3 (fun s=>.obs (K.L_rf3 s) .ret))
theorem tRA46:TabOk P BRA46:=TabOk.addLoop (d:=30) okP tRA45 (by kernel_rfl) (by kernel_rfl) (fun s r h=>obs_ret h)
theorem fn_rfm:∀ a,(callT1 P BRA46 30 116 (.last dRul 0) dB) a=T.run (
 let q1:=(0:Int);
  .br (!nameB (Rul.due a)) (
    .ret (false)) (
    .br (decide ((↑(clampL (List.length (Rul.grades a))):Int) > (8:Int))) (
      .ret (false)) (
      .obs (L_rf1 (q1,Rul.mk (Rul.kind a) (Rul.due a) (decF rStr (List.length (Rul.grades a)) fun i=>encF rStr (Rul.grades a) ((0:Nat)+i)) (decF rTrm (List.length (Rul.terms a)) fun i=>encF rTrm (Rul.terms a) ((0:Nat)+i)) (Rul.n a) (Rul.d a) (Rul.way a),PUnit.unit)) fun x0=>
        .sum (x0) (fun x1=>
 let q2:=x1.2.1;
 let q3:=decide (Rul.n q2≤(10000:Int));
 let q4:=Rul.way q2 == q1;
          .br (Rul.kind q2 == (1:Int)) (
            .obs (L_rf3 (q1,Rul.mk (Rul.kind q2) (Rul.due q2) (decF rStr (List.length (Rul.grades q2)) fun i=>encF rStr (Rul.grades q2) ((0:Nat)+i)) (decF rTrm (List.length (Rul.terms q2)) fun i=>encF rTrm (Rul.terms q2) ((0:Nat)+i)) (Rul.n q2) (Rul.d q2) (Rul.way q2),PUnit.unit)) fun x2=>
              .sum (x2) (fun x3=>
 let q5:=clampL (List.length (Rul.terms x3.2.1));
                .br (decide ((↑q5:Int) ≥ (1:Int))) (
                  .br (decide ((↑q5:Int)≤(6:Int))) (
                    .br (Rul.n x3.2.1 == q1) (
                      .br (Rul.d x3.2.1 == q1) (
                        .ret (Rul.way x3.2.1 == q1)) (
                        .ret (false))) (
                      .ret (false))) (
                    .ret (false))) (
                  .ret (false))) (fun x3=>
                .ret x3.1)) (
            .br (decide ((↑(clampL (List.length (Rul.terms q2))):Int) > q1)) (
              .ret (false)) (
              .br (decide (Rul.n q2<q1)) (
                .ret (false)) (
                .br (Rul.kind q2 == (2:Int)) (
                  .br (decide (Rul.n q2≤Rul.d q2)) (
                    .br (decide (Rul.d q2 ≥ (1:Int))) (
                      .br (decide (Rul.d q2≤(1000:Int))) (
                        .ret q4) (
                        .ret (false))) (
                      .ret (false))) (
                    .ret (false))) (
                  .br (Rul.kind q2 == (3:Int)) (
                    .br q3 (
                      .br (Rul.d q2 == q1) (
                        .ret q4) (
                        .ret (false))) (
                      .ret (false))) (
                    .br (Rul.kind q2 == (4:Int)) (
                      .br q3 (
                        .br (Rul.d q2 == q1) (
                          .ret q4) (
                          .ret (false))) (
                        .ret (false))) (
                      .br (Rul.kind q2 == (5:Int)) (
                        .br (decide (Rul.n q2 ≥ (1:Int))) (
                          .br q3 (
                            .br (Rul.d q2 == q1) (
                              .br (decide (Rul.way q2 ≥ (1:Int))) (
                                .ret (decide (Rul.way q2≤(3:Int)))) (
                                .ret (false))) (
                              .ret (false))) (
                            .ret (false))) (
                          .ret (false))) (
                        .ret (false))))))))) (fun x1=>
          .ret x1.1)))):=fun a=>by kernel_rfl
end Go.Proofs.YtkpligkggnjcoaaGreatDoor
/-! RA5 -/
namespace Go.Proofs.YtkpligkggnjcoaaGreatDoor
open Ev K
set_option maxRecDepth 100000
namespace K
theorem L_rf2_eq (r:Rul) (i:Nat) (g:Str) (hg:r.grades[i]?=some g) (hl:r.grades.length≤1000000):L_rf2 (((i:Int),0),r,())=some (if inS (r.grades.take i) g=true then .inr (false,()) else .inl ((i:Int),r,())):=by
 have hi:=(List.getElem?_eq_some_iff.1 hg).1
 have hlen:(r.grades.take i).length=i:=by rw [List.length_take];omega
 have e0:=first_any (r.grades.take i) (fun y=>g == y)
 rw [hlen] at e0
 refine (lim_find (fun j:Nat=>(((i:Int),(j:Int)),r,())) i (atP (r.grades.take i) (fun y=>g == y)) (fun _=>.inr (false,())) (.inl ((i:Int),r,())) (fun j hj hp=>?_) (fun j hj hp=>?_) ?_).trans ?_
 ·rw [sl_rf2]
  have hy:(r.grades.take i)[j]?=some r.grades[j]:=by rw [List.getElem?_take_of_lt hj,List.getElem?_eq_getElem (by omega)]
  have hz:=List.getElem?_eq_getElem (l:=r.grades) (i:=j) (by omega)
  unfold atP at hp;rw [hy] at hp
  generalize r.grades[j]=y at hz hp
  simp only [Int.toNat_natCast,Nat.zero_add,str_at hz,str_at hg,ns0]
  have hp:(g == y)=true:=hp
  exact br_t (decide_eq_true (by omega)) (chk_step (decide_eq_true (by omega)) (chk_step (decide_eq_true (by omega)) (br_t (by rw [beq_iff_eq] at hp ⊢;exact hp.symm) rfl)))
 ·rw [sl_rf2]
  have hy:(r.grades.take i)[j]?=some r.grades[j]:=by rw [List.getElem?_take_of_lt hj,List.getElem?_eq_getElem (by omega)]
  have hz:=List.getElem?_eq_getElem (l:=r.grades) (i:=j) (by omega)
  unfold atP at hp;rw [hy] at hp
  generalize r.grades[j]=y at hz hp
  simp only [Int.toNat_natCast,Nat.zero_add,str_at hz,str_at hg,ns0,decF_encF,wi j (by omega)]
  have hp:(g == y)=false:=hp
  exact br_t (decide_eq_true (by omega)) (chk_step (decide_eq_true (by omega)) (chk_step (decide_eq_true (by omega)) (br_f (by rw [beq_eq_false_iff_ne] at hp ⊢;exact fun h=>hp h.symm) rfl)))
 ·rw [sl_rf2]
  simp only [Nat.zero_add,decF_encF]
  exact br_f (decide_eq_false (by omega)) rfl
 ·have e0:_=inS (r.grades.take i) g:=e0
  rw [← e0]
  cases first (atP (r.grades.take i) fun y=>g == y) i<;>rfl
theorem L_rf1_eq (r:Rul) (hl:r.grades.length≤1000):L_rf1 (0,r,())=some (if (∀ g ∈ r.grades,nameB g=true)∧r.grades.Nodup then .inl ((),r,()) else .inr (false,())):=by
 refine (lim_err (fun i:Nat=>((i:Int),r,())) r.grades.length (errG r.grades) (fun e=>.inr (e,())) (.inl ((),r,())) (fun i hi=>?_) ?_).trans ?_
 ·rw [sl_rf1]
  have hy:=List.getElem?_eq_getElem hi
  unfold errG;rw [hy]
  generalize r.grades[i]=g at hy
  simp only [Int.toNat_natCast,str_at hy,ns0,decF_enc0,show (0+i)=i from Nat.zero_add i,cl (n:=r.grades.length) (by omega)]
  refine br_t (decide_eq_true (by omega)) (chk_step (decide_eq_true (by omega)) ?_)
  cases hn:nameB g with
  | false=>exact br_t rfl rfl
  | true=>
   refine br_f rfl (obs_step (L_rf2_eq r i g hy (by omega)) ?_)
   cases hs:inS (r.grades.take i) g with
   | true=>rfl
   | false=>
    simp only [Bool.false_eq_true,if_false]
    show some _=_
    rw [wi i (by omega)];rfl
 ·rw [sl_rf1]
  simp only [decF_enc0,cl (n:=r.grades.length) (by omega)]
  exact br_f (decide_eq_false (by omega)) rfl
 ·rw [errG_all]
  by_cases h:(∀ g ∈ r.grades,nameB g=true)∧r.grades.Nodup
  ·rw [if_pos h,if_pos h];rfl
  ·rw [if_neg h,if_neg h];rfl
def anyK (r:Rul):Bool:=(first (atP r.terms badT) (clampL r.terms.length)).isSome
theorem cl_or (n:Nat):clampL n=n∨(6<clampL n∧6<n):=by
 by_cases h:n≤1000000
 ·exact .inl (cl h)
 ·have:=clampL_gt n 6 (by omega)
  rw [decide_eq_true (show n > 6 by omega)] at this
  have:=of_decide_eq_true this
  exact .inr ⟨by omega,by omega⟩
theorem anyK_cl {r:Rul} (h:clampL r.terms.length=r.terms.length):anyK r=r.terms.any badT:=by
 unfold anyK;rw [h];exact first_any _ _
theorem anyK_bad {r:Rul} (h:anyK r=true):r.terms.any badT=true:=by
 unfold anyK at h
 obtain ⟨i,hi⟩:=Option.isSome_iff_exists.1 h
 obtain ⟨h1,h2,_⟩:=first_spec hi
 have h1':i<r.terms.length:=Nat.lt_of_lt_of_le h1 (clampL_le' _)
 unfold atP at h2
 rw [List.getElem?_eq_getElem h1'] at h2
 exact List.any_eq_true.2 ⟨_,List.getElem_mem h1',h2⟩
theorem wiC {i n:Nat} (h:i<clampL n):IntKind.i64.wrap ((i:Int)+1)=((i+1:Nat):Int):=by
 have:=clampL_le n
 rw [w64_in (by omega) (by omega)];rfl
theorem L_rf3_eq (r:Rul):L_rf3 (0,r,())=some (if anyK r=true then .inr (false,()) else .inl ((),r,())):=by
 refine (lim_find (fun i:Nat=>((i:Int),r,())) (clampL r.terms.length) (atP r.terms badT) (fun _=>.inr (false,())) (.inl ((),r,())) (fun i hi hp=>?_) (fun i hi hp=>?_) ?_).trans ?_
 ·rw [sl_rf3]
  have hi':i<r.terms.length:=Nat.lt_of_lt_of_le hi (clampL_le' _)
  have hy:=List.getElem?_eq_getElem hi'
  unfold atP at hp;rw [hy] at hp
  generalize r.terms[i]=y at hy hp
  simp only [Int.toNat_natCast,Nat.zero_add,trm_at hy,nt0,nt1,nt2,nt3]
  exact br_t (decide_eq_true (by omega)) (chk_step (decide_eq_true (by omega)) (br_t hp rfl))
 ·rw [sl_rf3]
  have hi':i<r.terms.length:=Nat.lt_of_lt_of_le hi (clampL_le' _)
  have hy:=List.getElem?_eq_getElem hi'
  unfold atP at hp;rw [hy] at hp
  generalize r.terms[i]=y at hy hp
  simp only [Int.toNat_natCast,Nat.zero_add,trm_at hy,nt0,nt1,nt2,nt3,decF_encF,wiC hi]
  exact br_t (decide_eq_true (by omega)) (chk_step (decide_eq_true (by omega)) (br_f hp rfl))
 ·rw [sl_rf3]
  simp only [Nat.zero_add,decF_encF]
  exact br_f (decide_eq_false (by omega)) rfl
 ·unfold anyK
  cases first (atP r.terms badT) (clampL r.terms.length)<;>rfl
theorem rk_no {r:Rul} (h:¬ kindOk r):(T.ret false).run=some (decide (kindOk r)):=by rw [decide_eq_false h];rfl
theorem rk_is {r:Rul} {v:Bool} (h:v=true ↔ kindOk r):(T.ret v).run=some (decide (kindOk r)):=congrArg some (Bool.eq_iff_iff.2 (h.trans (decide_eq_true_iff).symm))
theorem rulOk_kind {r:Rul} (hn:nameB r.due=true) (hg:¬ r.grades.length > 8) (h:(∀ g ∈ r.grades,nameB g=true)∧r.grades.Nodup):decide (rulOk r)=decide (kindOk r):=by
 apply Bool.eq_iff_iff.2
 rw [decide_eq_true_eq,decide_eq_true_eq]
 exact ⟨fun hk:rulOk r=>hk.2.2.2,fun hk=>⟨⟨hn,by omega⟩,h.1,h.2,hk⟩⟩
theorem rfm_eq (r : Rul) : callT1 P BRA46 30 116 (.last dRul 0) dB r = some (decide (rulOk r)) := by
  rw [fn_rfm]
  have e1 := clampL_gt r.grades.length 8 (by omega)
  simp only [decF_enc0, show ((8 : Nat) : Int) = 8 from rfl] at e1 ⊢
  rw [e1]
  by_cases hn : nameB r.due = true
  · refine br_f (by rw [hn]; rfl) ?_
    by_cases hg : r.grades.length > 8
    · refine br_t (decide_eq_true hg) ?_
      rw [decide_eq_false (fun h : rulOk r => by have := h.1.2; omega)]; rfl
    · refine br_f (decide_eq_false hg) ?_
      refine obs_step (L_rf1_eq r (by omega)) ?_
      by_cases h : (∀ g ∈ r.grades, nameB g = true) ∧ r.grades.Nodup
      · rw [if_pos h, rulOk_kind hn hg h]
        have cg := cl_or r.terms.length
        by_cases k1 : r.kind = 1
        · refine br_t (beq_iff_eq.2 k1) ?_
          refine obs_step (L_rf3_eq r) ?_
          have hk : kindOk r ↔ (r.n = 0 ∧ r.d = 0 ∧ r.way = 0) ∧ (1 ≤ r.terms.length ∧ r.terms.length ≤ 6) ∧ ∀ t ∈ r.terms, trmOk t := by unfold kindOk; rw [if_pos k1]
          rw [← any_bad] at hk
          cases hb : anyK r with
          | true =>
            rw [if_pos rfl]
            exact rk_no fun h => by have := (hk.1 h).2.2; rw [anyK_bad hb] at this; cases this
          | false =>
            rw [if_neg (by simp)]
            rcases cg with cg | cg
            · rw [anyK_cl cg] at hb
              rw [hb] at hk
              repeat' (refine br_if (fun h => ?_) fun h => ?_)
              all_goals first
                | refine rk_is ?_
                  rw [hk]; simp only [decide_eq_true_eq, decide_eq_false_iff_not, beq_iff_eq, beq_eq_false_iff_ne, Bool.not_false, and_true, cg] at *
                  omega
                | refine rk_no ?_
                  rw [hk]; simp only [decide_eq_true_eq, decide_eq_false_iff_not, beq_iff_eq, beq_eq_false_iff_ne, Bool.not_false, and_true, cg] at *
                  omega
            · have hno : ¬ kindOk r := fun h => by have := (hk.1 h).2.1; omega
              repeat' (refine br_if (fun h => ?_) fun h => ?_)
              all_goals first
                | exact rk_no hno
                | exfalso; simp only [decide_eq_true_eq] at *; omega
        refine br_f (beq_eq_false_iff_ne.2 k1) ?_
        have hk : kindOk r ↔ r.terms = [] ∧ (
          if r.kind = 2 then (0 ≤ r.n ∧ r.n ≤ r.d) ∧ (1 ≤ r.d ∧ r.d ≤ 1000) ∧ r.way = 0
          else if r.kind = 3 ∨ r.kind = 4 then (0 ≤ r.n ∧ r.n ≤ 10000) ∧ r.d = 0 ∧ r.way = 0
          else r.kind = 5 ∧ (1 ≤ r.n ∧ r.n ≤ 10000) ∧ r.d = 0 ∧ (1 ≤ r.way ∧ r.way ≤ 3)) := by unfold kindOk; rw [if_neg k1]
        rw [← List.length_eq_zero_iff] at hk
        rcases cg with cg | cg
        · repeat' (refine br_if (fun h => ?_) fun h => ?_)
          all_goals first
            | refine rk_is ?_
              rw [hk]; simp only [decide_eq_true_eq, decide_eq_false_iff_not, beq_iff_eq, beq_eq_false_iff_ne, cg] at *
              split <;> (try split) <;> omega
            | refine rk_no ?_
              rw [hk]; simp only [decide_eq_true_eq, decide_eq_false_iff_not, beq_iff_eq, beq_eq_false_iff_ne, cg] at *
              split <;> (try split) <;> omega
        · refine br_if (fun _ => rk_no fun h => by have := (hk.1 h).1; omega) fun h => ?_
          exfalso
          simp only [decide_eq_false_iff_not] at h
          omega
      · rw [if_neg h, decide_eq_false (fun hk : rulOk r => h ⟨hk.2.1, hk.2.2.1⟩)]; rfl
  · rw [decide_eq_false (fun h : rulOk r => hn h.1.1)]
    exact br_t (by rw [Bool.not_eq_true'] ; simpa using hn) rfl
end K
noncomputable def BRA51:Tab:=BRA46.addCall 116 (callE (.last dRul 0) dB (fun r=>.ret (decide (K.rulOk r))))
theorem tRA51:TabOk P BRA51:=TabOk.addPC tRA46 (fun a _r h=>call_of okP tRA46 ((K.rfm_eq a).trans h))
end Go.Proofs.YtkpligkggnjcoaaGreatDoor
/-! RA8 -/
namespace Go.Proofs.YtkpligkggnjcoaaGreatDoor
open Ev K
set_option maxRecDepth 100000
def S_rpu:=DecS.mk0 (.cons (dRows rStr) (.cons (dS) (.skips 3 (.last (dInt) 42)))) .nil
def X_rpu:=DecX.one (.exit 0) [5,0,1] (DecS.mk0 (.cons (dRows rStr) (.cons (dS) (.skips 3 (.last (dInt) 42)))) .nil)
noncomputable def K.st_rpu:=loopT1 P BRA51 30 156 17 [5,0,1] S_rpu X_rpu
theorem sl_rpu:∀ s,(K.st_rpu) s=T.run (
 let q3:=s.1.2.2 - (1:Int);
 let q1:=ByteArray.mk (List.toArray (textOf (encF rStr s.1.1 ((0:Nat)+Int.toNat (IntKind.wrap IntKind.i64 q3)) (0:Nat))));
 let q5:=List.length s.1.1;
 let q2:=Sum.inr ((decF rStr q5 fun i=>encF rStr s.1.1 ((0:Nat)+i),s.1.2),PUnit.unit);
 let q4:=ByteArray.mk (List.toArray s.1.2.1);
  .br (decide (s.1.2.2 > (0:Int))) (
    .chk (decide ((0:Int)≤IntKind.wrap IntKind.i64 q3∧IntKind.wrap IntKind.i64 q3<(↑q5:Int))) <|
    .br (!(Op.bytesLess (ByteArray.toList q1) (ByteArray.toList q4) || ByteArray.toList q1 == ByteArray.toList q4)) (
      .ret (Sum.inl ((decF rStr q5 fun i=>encF rStr s.1.1 ((0:Nat)+i),s.1.2.1,IntKind.wrap IntKind.i64 q3),PUnit.unit))) (
      .ret q2)) (
    .ret q2)):=fun s=>by kernel_rfl
noncomputable def K.L_rpu:=lim K.st_rpu
noncomputable def BRA81:Tab:=BRA51.addNode 156 17 (nodeE [5,0,1] S_rpu X_rpu (fun s=>.obs (K.L_rpu s) .ret))
theorem tRA81:TabOk P BRA81:=TabOk.addLoop (d:=30) okP tRA51 (by kernel_rfl) (by kernel_rfl) (fun s r h=>obs_ret h)
theorem fn_rpu:∀ a,(callT1 P BRA81 30 156 D_ss (dRows rStr)) a=T.run (
 let q1:=(0:Nat);
 let q2:=(140737488355328:Nat);
 let q3:=(1:Nat);
 let q4:=(16:Nat);
 let q5:=(0:Int);
  .obs (L_rpu ((decF rStr (List.length a.1) fun i=>encF rStr a.1 (q1+i),a.2,(↑(clampL (List.length a.1)):Int)),PUnit.unit)) fun x0=>
 let q10:=x0.1.2.2;
 let q7:=Int.toNat q10 - q1;
 let q13:=List.length x0.1.1 - Int.toNat q10;
 let q6:=decF rStr (q1+q7+q3+q13) fun i=>appG (q1+q7+q3) (appG (q1+q7) (appG q1 (fun _x _x_1=>AV.top) fun i k=>encF rStr x0.1.1 (nat_lit 0+i) k) fun i k=>Option.getD [AV.str x0.1.2.1][(q1+i) * q3+k]? AV.top) (fun i k=>encF rStr x0.1.1 (q1+Int.toNat q10+i) k) (q1+i);
 let q8:=decide ((q1+q7+q3+q13) * q4≤q2∧q1+q7+q3+q13≤nat_lit 9223372036854775807);
 let q9:=List.length x0.1.1;
 let q11:=decide ((q1+q7+q3) * q4≤q2∧q1+q7+q3≤nat_lit 9223372036854775807);
 let q12:=decide ((q1+q7) * q4≤q2∧q1+q7≤nat_lit 9223372036854775807);
 let q14:=decide (q5≤q10∧q10≤(↑q9:Int))&&true;
 let q15:=true&&decide (q5≤q10∧q10≤(↑q9:Int));
 let q16:=q10 - (1:Int);
    .br (decide (q10 > q5)) (
      .chk (decide (q5≤IntKind.wrap IntKind.i64 q16∧IntKind.wrap IntKind.i64 q16<(↑q9:Int))) <|
      .br (textOf (encF rStr x0.1.1 (q1+Int.toNat (IntKind.wrap IntKind.i64 q16)) q1) == x0.1.2.1) (
        .ret (decF rStr q9 fun i=>encF rStr x0.1.1 (q1+i))) (
        .chk q14 <|
        .chk q12 <|
        .chk q11 <|
        .chk q15 <|
        .chk q8 <|
        .ret q6)) (
      .chk q14 <|
      .chk q12 <|
      .chk q11 <|
      .chk q15 <|
      .chk q8 <|
      .ret q6)):=fun a=>by kernel_rfl
end Go.Proofs.YtkpligkggnjcoaaGreatDoor
/-! RA7 -/
namespace Go.Proofs.YtkpligkggnjcoaaGreatDoor
open Ev K
set_option maxRecDepth 100000
def S_rnx:=DecS.mk0 (.skip (.cons (dInt) (.cons (dInt) (.unit (dLp 0 0 0 0) (.skips 3 (.last (dInt) 78)))))) oRul
def X_rnx:=DecX.one (.exit 1) [1] (DecS.mk0 (.skip (.last (dInt) 84)) .nil)
noncomputable def K.st_rnx:=loopT1 P BRA51 30 164 33 [7,2,3,1] S_rnx X_rnx
theorem sl_rnx:∀ s,(K.st_rnx) s=T.run (
 let q2:=Rul.terms s.2.1;
 let q3:=(0:Nat)+Int.toNat s.1.2.2;
 let q1:=Trm.mk (numOf (encF rTrm q2 q3 (0:Nat))) (numOf (encF rTrm q2 q3 (nat_lit 1))) (numOf (encF rTrm q2 q3 (nat_lit 2))) (numOf (encF rTrm q2 q3 (nat_lit 3)));
  .br (decide (s.1.2.2<(↑(clampL (List.length q2)):Int))) (
    .chk (decide ((0:Int)≤s.1.2.2∧s.1.2.2<(↑(List.length q2):Int))) <|
    .chk (decide (trmOk q1∧(0:Int)≤s.1.2.1∧s.1.2.1≤(65536:Int))) <|
    .ret (Sum.inl ((IntKind.wrap IntKind.i64 (s.1.1+paidT q1 s.1.2.1),s.1.2.1,IntKind.wrap IntKind.i64 (s.1.2.2+(1:Int))),Rul.mk (Rul.kind s.2.1) (Rul.due s.2.1) (decF rStr (List.length (Rul.grades s.2.1)) fun i=>encF rStr (Rul.grades s.2.1) ((0:Nat)+i)) (decF rTrm (List.length q2) fun i=>encF rTrm q2 ((0:Nat)+i)) (Rul.n s.2.1) (Rul.d s.2.1) (Rul.way s.2.1),PUnit.unit))) (
    .ret (Sum.inr (s.1.1,PUnit.unit)))):=fun s=>by kernel_rfl
noncomputable def K.L_rnx:=lim K.st_rnx
noncomputable def BRA71:Tab:=BRA51.addNode 164 33 (nodeE [7,2,3,1] S_rnx X_rnx (fun s=>.obs (K.L_rnx s) .ret))
theorem tRA71:TabOk P BRA71:=TabOk.addLoop (d:=30) okP tRA51 (by kernel_rfl) (by kernel_rfl) (fun s r h=>obs_ret h)
def D_rnx:DecL (Rul × Int × Int):=.cons dRul (.cons dInt (.last dInt 0))
theorem fn_rnx:∀ a,(callT1 P BRA71 30 164 D_rnx dInt) a=T.run (
 let q1:=a.2.1 - Int.tmod a.2.1 (Rul.n a.1);
 let q2:=IntKind.wrap IntKind.i64 (IntKind.wrap IntKind.i64 q1+Rul.n a.1);
 let q3:=IntKind.wrap IntKind.i64 q1;
  .br (Rul.kind a.1 == (1:Int)) (
    .obs (L_rnx ((a.2.1,a.2.2,(0:Int)),Rul.mk (Rul.kind a.1) (Rul.due a.1) (decF rStr (List.length (Rul.grades a.1)) fun i=>encF rStr (Rul.grades a.1) ((0:Nat)+i)) (decF rTrm (List.length (Rul.terms a.1)) fun i=>encF rTrm (Rul.terms a.1) ((0:Nat)+i)) (Rul.n a.1) (Rul.d a.1) (Rul.way a.1),PUnit.unit)) fun x0=>
      .ret x0.1) (
    .br (Rul.kind a.1 == (2:Int)) (
      .chk (!decide (Rul.d a.1=(0:Int))) <|
      .ret (IntKind.wrap IntKind.i64 (a.2.1 - IntKind.wrap IntKind.i64 (Int.tdiv (IntKind.wrap IntKind.i64 (a.2.1 * Rul.n a.1)) (Rul.d a.1))))) (
      .br (Rul.kind a.1 == (3:Int)) (
        .ret (if Rul.n a.1 > a.2.1 then Rul.n a.1 else a.2.1)) (
        .br (Rul.kind a.1 == (4:Int)) (
          .ret (if Rul.n a.1<a.2.1 then Rul.n a.1 else a.2.1)) (
          .chk (!decide (Rul.n a.1=(0:Int))) <|
          .br (a.2.1 == IntKind.wrap IntKind.i64 q1) (
            .ret q3) (
            .br (Rul.way a.1 == (2:Int)) (
              .ret q3) (
              .br (Rul.way a.1 == (3:Int)) (
                .br (decide (IntKind.wrap IntKind.i64 ((2:Int) * IntKind.wrap IntKind.i64 (a.2.1 - IntKind.wrap IntKind.i64 q1))<Rul.n a.1)) (
                  .ret q3) (
                  .ret q2)) (
                .ret q2)))))))):=fun a=>by kernel_rfl
end Go.Proofs.YtkpligkggnjcoaaGreatDoor
/-! RA6 -/
namespace Go.Proofs.YtkpligkggnjcoaaGreatDoor
open Ev K
set_option maxRecDepth 100000
def oTarB:DecB (List Rul × Unit):=.flat 25 lTar .nil
def S_rck:=DecS.mk0 (.skip (.unit (dLp 0 0 0 0) (.skip (.last (dInt) 18)))) oTarB
def X_rck:=DecX.or (DecX.one (.exit 0) [] (DecS.mk0 (.tops 22) .nil)) (DecX.one .ret [2] (DecS.mk0 (.skips 2 (.last (dInt) 19)) .nil))
noncomputable def K.st_rck:=loopT1 P BRA51 30 64 33 [3,1] S_rck X_rck
theorem sl_rck:∀ s,(K.st_rck) s=T.run (
 let q1:=(0:Nat)+Int.toNat s.1;
 let q2:=encN nRul s.2.1 q1 (nat_lit 2);
 let q3:=encN nRul s.2.1 q1 (nat_lit 3);
 let q4:=List.length s.2.1;
  .br (decide (s.1<(↑(clampL q4):Int))) (
    .chk (decide ((0:Int)≤s.1∧s.1<(↑q4:Int))) <|
    .br (!decide (rulOk (Rul.mk (numOf (encN nRul s.2.1 q1 (0:Nat))) (textOf (encN nRul s.2.1 q1 (nat_lit 1))) (decF rStr (slLen q2) fun i=>slF q2 (slRow q2+i)) (decF rTrm (slLen q3) fun i=>slF q3 (slRow q3+i)) (numOf (encN nRul s.2.1 q1 (nat_lit 4))) (numOf (encN nRul s.2.1 q1 (nat_lit 5))) (numOf (encN nRul s.2.1 q1 (nat_lit 6)))))) (
      .ret (Sum.inr (Sum.inr ((7:Int),PUnit.unit)))) (
      .ret (Sum.inl (IntKind.wrap IntKind.i64 (s.1+(1:Int)),decN nRul q4 fun i=>encN nRul s.2.1 ((0:Nat)+i),PUnit.unit)))) (
    .ret (Sum.inr (Sum.inl (PUnit.unit,PUnit.unit))))):=fun s=>by kernel_rfl
noncomputable def K.L_rck:=lim K.st_rck
noncomputable def BRA61:Tab:=BRA51.addNode 64 33 (nodeE [3,1] S_rck X_rck (fun s=>.obs (K.L_rck s) .ret))
theorem tRA61:TabOk P BRA61:=TabOk.addLoop (d:=30) okP tRA51 (by kernel_rfl) (by kernel_rfl) (fun s r h=>obs_ret h)
theorem fn_rck:∀ a,(callT1 P BRA61 30 64 (.last dTar 0) dInt) a=T.run (
 .br (decide ((↑(clampL (List.length a)):Int) > (30:Int))) (
  .ret ((2:Int))) (
  .obs (L_rck ((0:Int),decN nRul (List.length a) fun i=>encN nRul a ((0:Nat)+i),PUnit.unit)) fun x0=>
   .sum (x0) (fun _=>
    .ret ((0:Int))) (fun x1=>
    .ret x1.1))):=fun a=>by kernel_rfl
end Go.Proofs.YtkpligkggnjcoaaGreatDoor
/-! RA9 -/
namespace Go.Proofs.YtkpligkggnjcoaaGreatDoor
open Ev K
set_option maxRecDepth 100000
namespace K
theorem L_rck_eq (l:List Rul) (hl:l.length≤1000):L_rck (0,l,())=some (if ∀ r ∈ l,rulOk r then .inl ((),()) else .inr (7,())):=by
 refine (lim_err (fun i:Nat=>((i:Int),l,())) l.length (badR l) (fun e=>.inr (e,())) (.inl ((),())) (fun i hi=>?_) ?_).trans ?_
 ·rw [sl_rck]
  have hy:=List.getElem?_eq_getElem hi
  unfold badR;rw [hy]
  generalize l[i]=r at hy
  simp only [Int.toNat_natCast,show (0+i)=i from Nat.zero_add i,rul_at hy,nr0,nr1,nr2,nr3,nr4,nr5,nr6,so_rd,decN_enc0',wi i (by omega),cl (n:=l.length) (by omega)]
  refine br_t (decide_eq_true (by omega)) (chk_step (decide_eq_true (by omega)) ?_)
  by_cases h:rulOk r
  ·rw [if_pos h]
   exact br_f (by show (!decide (rulOk r))=false;rw [decide_eq_true h];rfl) rfl
  ·rw [if_neg h]
   exact br_t (by show (!decide (rulOk r))=true;rw [decide_eq_false h];rfl) rfl
 ·rw [sl_rck]
  simp only [cl (n:=l.length) (by omega)]
  exact br_f (decide_eq_false (by omega)) rfl
 ·rw [badR_all]
  by_cases h:∀ r ∈ l,rulOk r
  ·rw [if_pos h,if_pos h];rfl
  ·rw [if_neg h,if_neg h];rfl
theorem rcheck_eq (l:List Rul):callT1 P BRA61 30 64 (.last dTar 0) dInt l=some (checkT l):=by
 rw [fn_rck]
 have e1:=clampL_gt l.length 30 (by omega)
 simp only [decN_enc0',show ((30:Nat):Int)=30 from rfl] at e1 ⊢
 rw [e1]
 unfold checkT
 by_cases hl:l.length > 30
 ·rw [if_pos hl];exact br_t (decide_eq_true hl) rfl
 ·rw [if_neg hl]
  refine br_f (decide_eq_false hl) ?_
  refine obs_step (L_rck_eq l (by omega)) ?_
  by_cases h:∀ r ∈ l,rulOk r
  ·rw [if_pos h,if_pos h];rfl
  ·rw [if_neg h,if_neg h];rfl
theorem L_rnx_eq (r:Rul) (h:∀ t ∈ r.terms,trmOk t) (hl:r.terms.length≤6) (m:Int) (hm:0≤m∧m≤65536) (d:Nat):∀ (i:Nat) (a:Int),i+d=r.terms.length→0≤a→a≤130000000000+i * 655360000 →
  L_rnx ((a,m,(i:Int)),r,())=some (((r.terms.drop i).map fun t=>paidT t m).foldl (·+·) a,()):=by
 induction d with
 | zero=>
  intro i a hi _ _
  rw [List.drop_of_length_le (by omega)]
  refine lim_done ?_
  rw [sl_rnx]
  simp only [cl (n:=r.terms.length) (by omega)]
  exact br_f (decide_eq_false (by omega)) rfl
 | succ d ih=>
  intro i a hi h0 h1
  have hy:r.terms[i]?=some r.terms[i]:=List.getElem?_eq_getElem (by omega)
  have ht:=h r.terms[i] (List.getElem_mem _)
  have hb:=paidT_bd ht hm
  have ih:=ih (i+1) (a+paidT r.terms[i] m) (by omega) (by omega) (by omega)
  rw [List.drop_eq_getElem_cons (by omega),List.map_cons,List.foldl_cons]
  refine (lim_step ?_).trans ih
  rw [sl_rnx]
  generalize r.terms[i]=t at hy ht hb
  simp only [Int.toNat_natCast,show (0+i)=i from Nat.zero_add i,trm_at hy,nt0,nt1,nt2,nt3,decF_enc0,wi i (by omega),cl (n:=r.terms.length) (by omega)]
  refine br_t (decide_eq_true (by omega)) (chk_step (decide_eq_true (by omega)) (chk_step (decide_eq_true ⟨ht,hm⟩) ?_))
  rw [show Trm.mk t.per t.pay t.above t.upto=t from rfl] at *
  rw [w64_in (n:=a+paidT t m) (by omega) (by omega)];rfl
end K
end Go.Proofs.YtkpligkggnjcoaaGreatDoor
/-! RAa -/
namespace Go.Proofs.YtkpligkggnjcoaaGreatDoor
open Ev K
set_option maxRecDepth 100000
namespace K
theorem rnext_ok (a:Rul × Int × Int) (v:Int) (h:(T.chk (decide (behOk a)) (.ret (nextR a.1 a.2.1 a.2.2))).run=some v):callT1 P BRA71 30 164 D_rnx dInt a=some v:=by
 obtain ⟨g,e⟩:=chk_ret h
 subst e
 obtain ⟨hk,hm,ha⟩:=of_decide_eq_true g
 clear g h
 rw [fn_rnx]
 obtain ⟨r,a,m⟩:=a
 simp only at hk hm ha ⊢
 simp only [decF_enc0]
 have hkk:=hk
 unfold kindOk at hkk
 by_cases k1:r.kind=1
 ·rw [if_pos k1] at hkk
  refine br_t (beq_iff_eq.2 k1) (obs_step (L_rnx_eq r hkk.2.2 hkk.2.1.2 m hm r.terms.length 0 a (by omega) ha.1 (by omega)) ?_)
  rw [List.drop_zero]
  have e:nextR r a m=(r.terms.map fun t=>paidT t m).foldl (·+·) a:=by unfold nextR;rw [if_pos k1]
  rw [e];rfl
 rw [if_neg k1] at hkk
 refine br_f (beq_eq_false_iff_ne.2 k1) ?_
 obtain ⟨_,hkk⟩:=hkk
 by_cases k2:r.kind=2
 ·rw [if_pos k2] at hkk
  obtain ⟨⟨n1,n2⟩,⟨d1,d2⟩,_⟩:=hkk
  refine br_t (beq_iff_eq.2 k2) (chk_step (by rw [Bool.not_eq_true'];exact decide_eq_false (by omega)) ?_)
  have hmul:0≤a * r.n∧a * r.n≤130000000000 * 1000:=⟨Int.mul_nonneg ha.1 n1,Int.mul_le_mul ha.2 (by omega) n1 (by decide)⟩
  have hd:0≤(a * r.n).tdiv r.d:=Int.tdiv_nonneg hmul.1 (by omega)
  have hle:(a * r.n).tdiv r.d≤a:=by
   rw [Int.tdiv_eq_ediv_of_nonneg hmul.1]
   exact Int.ediv_le_of_le_mul (by omega) (Int.mul_le_mul_of_nonneg_left n2 ha.1)
  have e:nextR r a m=a - (a * r.n).tdiv r.d:=by unfold nextR;rw [if_neg k1,if_pos k2]
  rw [e,w64_in (n:=a * r.n) (by omega) (by omega)]
  generalize (a * r.n).tdiv r.d=q at hd hle
  rw [w64_in (n:=q) (by omega) (by omega),w64_in (by omega) (by omega)];rfl
 rw [if_neg k2] at hkk
 refine br_f (beq_eq_false_iff_ne.2 k2) ?_
 by_cases k3:r.kind=3
 ·refine br_t (beq_iff_eq.2 k3) ?_
  have e:nextR r a m=max a r.n:=by unfold nextR;rw [if_neg k1,if_neg k2,if_pos k3]
  rw [e]
  show some _=some _
  congr 1;split<;>omega
 refine br_f (beq_eq_false_iff_ne.2 k3) ?_
 by_cases k4:r.kind=4
 ·refine br_t (beq_iff_eq.2 k4) ?_
  have e:nextR r a m=min a r.n:=by unfold nextR;rw [if_neg k1,if_neg k2,if_neg k3,if_pos k4]
  rw [e]
  show some _=some _
  congr 1;split<;>omega
 rw [if_neg (fun h=>h.elim k3 k4)] at hkk
 refine br_f (beq_eq_false_iff_ne.2 k4) ?_
 have e:nextR r a m=roundV r.n r.way a:=by unfold nextR;rw [if_neg k1,if_neg k2,if_neg k3,if_neg k4]
 obtain ⟨_,⟨n1,n2⟩,_,w1,w2⟩:=hkk
 have h0:(!decide (r.n=0))=true:=by rw [Bool.not_eq_true'];exact decide_eq_false (by omega)
 have t1:0≤a.tmod r.n:=Int.tmod_nonneg _ ha.1
 have t2:a.tmod r.n<r.n:=Int.tmod_lt_of_pos _ (by omega)
 rw [e]
 unfold roundV
 refine chk_step h0 ?_
 generalize a.tmod r.n=q at t1 t2
 rw [w64_in (n:=a - q) (by omega) (by omega),w64_in (n:=a - (a - q)) (by omega) (by omega),w64_in (n:=2 * (a - (a - q))) (by omega) (by omega),w64_in (n:=a - q+r.n) (by omega) (by omega)]
 by_cases c1:a=a - q
 ·rw [if_pos (.inl c1)]
  exact br_t (beq_iff_eq.2 c1) rfl
 refine br_f (beq_eq_false_iff_ne.2 c1) ?_
 by_cases c2:r.way=2
 ·rw [if_pos (.inr (.inl c2))]
  exact br_t (beq_iff_eq.2 c2) rfl
 refine br_f (beq_eq_false_iff_ne.2 c2) ?_
 by_cases c3:r.way=3
 ·refine br_t (beq_iff_eq.2 c3) ?_
  by_cases c4:2 * (a - (a - q))<r.n
  ·rw [if_pos (.inr (.inr ⟨c3,c4⟩))]
   exact br_t (decide_eq_true c4) rfl
  ·rw [if_neg (fun h=>h.elim c1 fun h=>h.elim c2 fun h=>c4 h.2)]
   exact br_f (decide_eq_false c4) rfl
 ·rw [if_neg (fun h=>h.elim c1 fun h=>h.elim c2 fun h=>c3 h.1)]
  exact br_f (beq_eq_false_iff_ne.2 c3) rfl
def posK (l:List Str) (s:Str):Nat→Nat
 | 0=>0
 | k+1=>if ((l[k]?).any fun x=>!(ltS x s || x == s))=true then posK l s k else k+1
theorem posK_le (l:List Str) (s:Str):∀ k,posK l s k≤k
 | 0=>Nat.le_refl 0
 | k+1=>by unfold posK;split;exact Nat.le_succ_of_le (posK_le l s k);exact Nat.le_refl _
theorem bytes_of (l:Str):(ByteArray.mk l.toArray).toList=l:=by rw [ByteArray.toList_eq]
theorem L_rpu_eq (l:List Str) (s:Str) (hl:l.length≤1000000):∀ k,k≤l.length→L_rpu ((l,s,(k:Int)),())=some ((l,s,(posK l s k:Int)),())
 | 0,_=>by
  refine lim_done ?_
  rw [sl_rpu]
  simp only [Nat.zero_add,decF_encF]
  exact br_f (decide_eq_false (by omega)) rfl
 | k+1,hk=>by
  have hy:l[k]?=some l[k]:=List.getElem?_eq_getElem (by omega)
  have e1:IntKind.i64.wrap (((k+1:Nat):Int) - 1)=(k:Int):=by rw [w64_in (by omega) (by omega)];omega
  unfold posK
  rw [hy]
  generalize l[k]=y at hy
  have hs:st_rpu ((l,s,((k+1:Nat):Int)),())=if (!(ltS y s || y == s))=true then some (.inl ((l,s,(k:Int)),())) else some (.inr ((l,s,((k+1:Nat):Int)),())):=by
   rw [sl_rpu]
   simp only [e1,Int.toNat_natCast,Nat.zero_add,str_at hy,ns0,decF_encF,bytes_of]
   refine br_t (decide_eq_true (by omega)) (chk_step (decide_eq_true (by omega)) ?_)
   refine br_if (fun h=>?_) fun h=>?_
   ·have h:(!(ltS y s || y == s))=true:=h
    rw [if_pos h];rfl
   ·have h:(!(ltS y s || y == s))=false:=h
    rw [if_neg (by rw [h];simp)];rfl
  simp only [Option.any_some]
  by_cases h:(!(ltS y s || y == s))=true
  ·rw [if_pos h] at hs ⊢
   exact (lim_step hs).trans (L_rpu_eq l s hl k (by omega))
  ·rw [if_neg h] at hs ⊢
   exact lim_done hs
def putE (l:List Str) (s:Str):List Str:=if 0<posK l s l.length∧l[posK l s l.length - 1]?=some s then l else l.take (posK l s l.length) ++ s :: l.drop (posK l s l.length)
theorem put_dec (l:List Str) (s:Str) (k:Nat) (hk:k≤l.length):decF rStr (0+(k - 0)+1+(l.length - k)) (fun i=>appG (0+(k - 0)+1) (appG (0+(k - 0)) (appG 0 (fun _ _=>AV.top) fun i k=>encF rStr l (0+i) k) fun i k=>([AV.str s][(0+i) * 1+k]?).getD AV.top) (fun i k'=>encF rStr l (0+k+i) k') (0+i))=l.take k ++ s :: l.drop k:=by
 simp only [Nat.zero_add,Nat.sub_zero]
 have e1:=decF_appG rStr (k+1) (l.length - k) (appG k (appG 0 (fun _ _=>AV.top) fun i k=>encF rStr l i k) fun i k=>([AV.str s][i * 1+k]?).getD AV.top) (fun i k'=>encF rStr l (k+i) k')
 have e2:=decF_appG rStr k 1 (appG 0 (fun _ _=>AV.top) fun i k=>encF rStr l i k) (fun i k=>([AV.str s][i * 1+k]?).getD AV.top)
 have e3:=decF_appG rStr 0 k (fun _ _=>AV.top) (fun i k=>encF rStr l i k)
 have e4:=decF_part rStr l 0 k (by omega)
 have e5:=decF_part rStr l k (l.length - k) (by omega)
 simp only [Nat.zero_add,List.drop_zero] at e3 e4
 refine e1.trans ?_
 rw [e2,e3]
 have e6:decF rStr k (fun i k=>encF rStr l i k)=l.take k:=e4
 have e7:decF rStr (l.length - k) (fun i k'=>encF rStr l (k+i) k')=l.drop k:=by
  refine e5.trans ?_
  rw [List.take_of_length_le (by rw [List.length_drop];omega)]
 rw [e6,e7]
 have e8:decF rStr 1 (fun i k=>([AV.str s][i * 1+k]?).getD AV.top)=[s]:=rfl
 have e9:decF rStr 0 (fun _ _=>AV.top)=[]:=rfl
 rw [e8,e9,List.nil_append,List.append_assoc];rfl
theorem rput_ok (a:List Str × Str) (v:List Str) (h:(T.chk (decide (a.1.length≤1000000)) (.ret (putE a.1 a.2))).run=some v):callT1 P BRA81 30 156 D_ss (dRows rStr) a=some v:=by
 obtain ⟨g,e⟩:=chk_ret h
 subst e
 have g:=of_decide_eq_true g
 obtain ⟨l,s⟩:=a
 have g:l.length≤1000000:=g
 rw [fn_rpu]
 have hk:=posK_le l s l.length
 simp only [Nat.zero_add,decF_encF,cl g]
 refine obs_step (L_rpu_eq l s g l.length (Nat.le_refl _)) ?_
 unfold putE
 generalize posK l s l.length=k at hk
 have hd:=put_dec l s k hk
 have fin:∀ v,v=l.take k ++ s :: l.drop k→(T.ret (decF rStr (0+(k - 0)+1+(l.length - k)) (fun i=>appG (0+(k - 0)+1) (appG (0+(k - 0)) (appG 0 (fun _ _=>AV.top) fun i k=>encF rStr l (0+i) k) fun i k=>([AV.str s][(0+i) * 1+k]?).getD AV.top) (fun i k'=>encF rStr l (0+k+i) k') (0+i)))).run=some v:=fun v hv=>by rw [hd,hv];rfl
 simp only [Nat.zero_add,Nat.sub_zero] at fin
 by_cases h0:0<k
 ·have e1:IntKind.i64.wrap ((k:Int) - 1)=((k - 1:Nat):Int):=by rw [w64_in (by omega) (by omega)];omega
  have hy:l[k - 1]?=some l[k - 1]:=List.getElem?_eq_getElem (by omega)
  simp only [e1,Int.toNat_natCast,Nat.sub_zero,str_at hy,ns0]
  refine br_t (decide_eq_true (by omega)) (chk_step (decide_eq_true (by omega)) ?_)
  rw [hy]
  by_cases h1:l[k - 1]=s
  ·rw [if_pos ⟨h0,congrArg some h1⟩]
   exact br_t (beq_iff_eq.2 h1) rfl
  ·rw [if_neg (fun h=>h1 (Option.some.inj h.2))]
   refine br_f (beq_eq_false_iff_ne.2 h1) ?_
   refine chk_step (by simp;omega) (chk_step (decide_eq_true (by omega)) (chk_step (decide_eq_true (by omega)) (chk_step (by simp;omega) (chk_step (decide_eq_true (by omega)) ?_))))
   exact fin _ rfl
 ·rw [if_neg (fun h=>h0 h.1)]
  simp only [Int.toNat_natCast,Nat.sub_zero]
  refine br_f (decide_eq_false (by omega)) ?_
  refine chk_step (by simp;omega) (chk_step (decide_eq_true (by omega)) (chk_step (decide_eq_true (by omega)) (chk_step (by simp;omega) (chk_step (decide_eq_true (by omega)) ?_))))
  exact fin _ rfl
end K
end Go.Proofs.YtkpligkggnjcoaaGreatDoor
/-! RAb -/
namespace Go.Proofs.YtkpligkggnjcoaaGreatDoor
open Ev K
set_option maxRecDepth 100000
noncomputable def BRAb1:Tab:=BRA51.addCall 64 (callE (.last dTar 0) dInt (fun l=>.ret (K.checkT l)))
theorem tRAb1:TabOk P BRAb1:=TabOk.addPC tRA51 (fun a _r h=>call_of okP tRA61 ((K.rcheck_eq a).trans h))
noncomputable def BRAb2:Tab:=BRAb1.addCall 164 (callE D_rnx dInt (fun a=>.chk (decide (K.behOk a)) (.ret (K.nextR a.1 a.2.1 a.2.2))))
theorem tRAb2:TabOk P BRAb2:=TabOk.addPC tRAb1 (fun a r h=>call_of okP tRA71 (K.rnext_ok a r h))
noncomputable def BRAb3:Tab:=BRAb2.addCall 156 (callE D_ss (dRows rStr) (fun a=>.chk (decide (a.1.length≤1000000)) (.ret (K.putE a.1 a.2))))
theorem tRAb3:TabOk P BRAb3:=TabOk.addPC tRAb2 (fun a r h=>call_of okP tRA81 (K.rput_ok a r h))
def S_rdu:=DecS.mk0 (.skip (.unit (dLp 0 0 0 0) (.skip (.cons (dRows rStr) (.last (dInt) 16))))) oTarB
def X_rdu:=DecX.one (.exit 0) [3] (DecS.mk0 (.skips 3 (.last (dRows rStr) 17)) .nil)
noncomputable def K.st_rdu:=loopT1 P BRAb3 30 112 25 [4,1,3] S_rdu X_rdu
theorem sl_rdu:∀ s,(K.st_rdu) s=T.run (
 .br (decide (s.1.2<(↑(clampL (List.length s.2.1)):Int))) (
  .chk (decide ((0:Int)≤s.1.2∧s.1.2<(↑(List.length s.2.1):Int))) <|
  .chk (decide (List.length (decF rStr (List.length s.1.1) fun i=>encF rStr s.1.1 ((0:Nat)+i))≤(1000000:Nat))) <|
  .ret (Sum.inl ((decF rStr (List.length (putE (decF rStr (List.length s.1.1) fun i=>encF rStr s.1.1 ((0:Nat)+i)) (textOf (encN nRul s.2.1 ((0:Nat)+Int.toNat s.1.2) (nat_lit 1))))) fun i=>encF rStr (putE (decF rStr (List.length s.1.1) fun i=>encF rStr s.1.1 ((0:Nat)+i)) (textOf (encN nRul s.2.1 ((0:Nat)+Int.toNat s.1.2) (nat_lit 1)))) ((0:Nat)+i),IntKind.wrap IntKind.i64 (s.1.2+(1:Int))),decN nRul (List.length s.2.1) fun i=>encN nRul s.2.1 ((0:Nat)+i),PUnit.unit))) (
  .ret (Sum.inr (decF rStr (List.length s.1.1) fun i=>encF rStr s.1.1 ((0:Nat)+i),PUnit.unit)))):=fun s=>by kernel_rfl
noncomputable def K.L_rdu:=lim K.st_rdu
noncomputable def BRAb4:Tab:=BRAb3.addNode 112 25 (nodeE [4,1,3] S_rdu X_rdu (fun s=>.obs (K.L_rdu s) .ret))
theorem tRAb4:TabOk P BRAb4:=TabOk.addLoop (d:=30) okP tRAb3 (by kernel_rfl) (by kernel_rfl) (fun s r h=>obs_ret h)
theorem fn_rdu:∀ a,(callT1 P BRAb4 30 112 (.last dTar 0) (dRows rStr)) a=T.run (
 .obs (L_rdu (([],(0:Int)),decN nRul (List.length a) fun i=>encN nRul a ((0:Nat)+i),PUnit.unit)) fun x0=>
  .ret (decF rStr (List.length x0.1) fun i=>encF rStr x0.1 ((0:Nat)+i))):=fun a=>by kernel_rfl
end Go.Proofs.YtkpligkggnjcoaaGreatDoor
/-! RAc -/
namespace Go.Proofs.YtkpligkggnjcoaaGreatDoor
open Ev K
set_option maxRecDepth 100000
namespace K
theorem posK_spec (l:List Str) (s:Str):∀ k,k≤l.length→(∀ j x,posK l s k≤j→j<k→l[j]?=some x→ltS x s=false∧x≠s)∧(0<posK l s k→∃ x,l[posK l s k - 1]?=some x∧(ltS x s=true∨x=s))
 | 0,_=>⟨fun j x _ h=>absurd h (Nat.not_lt_zero j),fun h=>absurd h (Nat.lt_irrefl 0)⟩
 | k+1,hk=>by
  have hy:l[k]?=some l[k]:=List.getElem?_eq_getElem (by omega)
  obtain ⟨i1,i2⟩:=posK_spec l s k (by omega)
  unfold posK
  by_cases h:((l[k]?).any fun x=>!(ltS x s || x == s))=true
  ·rw [if_pos h]
   refine ⟨fun j x h1 h2 hx=>?_,i2⟩
   by_cases hj:j<k
   ·exact i1 j x h1 hj hx
   ·obtain rfl:j=k:=by omega
    rw [hx] at h
    simpa using h
  ·rw [if_neg h]
   refine ⟨fun j x h1 h2 _=>absurd h2 (by omega),fun _=>⟨l[k],hy,?_⟩⟩
   rw [hy] at h
   simp only [Option.any_some,Bool.not_eq_true',Bool.not_eq_false,Bool.or_eq_true,beq_iff_eq] at h
   exact h
theorem putE_asc {l:List Str} {s:Str} (h:Asc l):putE l s=putS l s:=by
 obtain ⟨a1,a2⟩:=putS_asc (s:=s) h
 obtain ⟨p1,p2⟩:=posK_spec l s l.length (Nat.le_refl _)
 have hk:=posK_le l s l.length
 have key:Asc (putE l s)∧∀ x,x ∈ putE l s ↔ x=s∨x ∈ l:=by
  unfold putE
  generalize posK l s l.length=k at p1 p2 hk
  by_cases hc:0<k∧l[k - 1]?=some s
  ·rw [if_pos hc]
   exact ⟨h,fun x=>⟨fun hx=>.inr hx,fun hx=>hx.elim (fun e=>e ▸ List.mem_of_getElem? hc.2) id⟩⟩
  ·rw [if_neg hc]
   have hs:=h
   rw [← List.take_append_drop k l] at hs
   obtain ⟨q1,q2,q3⟩:=List.pairwise_append.1 hs
   have hd:∀ y ∈ l.drop k,ltS s y=true:=fun y hy=>by
    obtain ⟨j,hj,rfl⟩:=List.mem_iff_getElem.1 hy
    rw [List.length_drop] at hj
    obtain ⟨n1,n2⟩:=p1 (k+j) (l.drop k)[j] (by omega) (by omega) (by rw [List.getElem_drop,List.getElem?_eq_getElem (by omega)])
    rcases ltS_tri (l.drop k)[j] s with h3 | h3 | h3
    ·rw [n1] at h3;cases h3
    ·exact absurd h3 n2
    ·exact h3
   have ht:∀ y ∈ l.take k,ltS y s=true:=fun y hy=>by
    obtain ⟨j,hj,rfl⟩:=List.mem_iff_getElem.1 hy
    rw [List.length_take] at hj
    have hk0:0<k:=by omega
    obtain ⟨x,hx,hx2⟩:=p2 hk0
    have hlt:ltS x s=true:=by
     rcases hx2 with e | e
     ·exact e
     ·subst e;exact absurd ⟨hk0,hx⟩ hc
    rw [List.getElem_take]
    obtain ⟨hb,hx⟩:=List.getElem?_eq_some_iff.1 hx
    by_cases hj2:j=k - 1
    ·subst hj2;rw [hx];exact hlt
    ·have:=List.pairwise_iff_getElem.1 h j (k - 1) (by omega) hb (by omega)
     rw [hx] at this
     exact ltS_trans this hlt
   refine ⟨List.pairwise_append.2 ⟨q1,List.pairwise_cons.2 ⟨hd,q2⟩,fun x hx y hy=>?_⟩,fun x=>?_⟩
   ·rcases List.mem_cons.1 hy with e | hy
    ·rw [e];exact ht x hx
    ·exact q3 x hx y hy
   ·conv=>rhs;rw [← List.take_append_drop k l]
    simp only [List.mem_append,List.mem_cons]
    constructor
    ·rintro (e | e | e);exact .inr (.inl e);exact .inl e;exact .inr (.inr e)
    ·rintro (e | e | e);exact .inr (.inl e);exact .inl e;exact .inr (.inr e)
 exact asc_uniq key.1 a1 fun x=>(key.2 x).trans (a2 x).symm
theorem putE_len (l:List Str) (s:Str):(putE l s).length≤l.length+1:=by
 unfold putE
 split
 ·omega
 ·simp only [List.length_append,List.length_cons,List.length_take,List.length_drop];omega
theorem L_rdu_eq (l:List Rul) (hl:l.length≤1000):∀ (d i:Nat) (acc:List Str),i+d=l.length→Asc acc→acc.length≤i →
  L_rdu ((acc,(i:Int)),l,())=some (((l.drop i).map (·.due)).foldl putS acc,())
 | 0,i,acc,h,_,_=>by
  rw [List.drop_of_length_le (by omega)]
  refine lim_done ?_
  rw [sl_rdu]
  simp only [cl (n:=l.length) (by omega),Nat.zero_add,decF_encF]
  exact br_f (decide_eq_false (by omega)) rfl
 | d+1,i,acc,h,ha,hlen=>by
  have hy:l[i]?=some l[i]:=List.getElem?_eq_getElem (by omega)
  have hn:=putE_len acc l[i].due
  have ih:=L_rdu_eq l hl d (i+1) (putS acc l[i].due) (by omega) (putS_asc ha).1 (by rw [← putE_asc ha];omega)
  rw [List.drop_eq_getElem_cons (by omega),List.map_cons,List.foldl_cons]
  refine (lim_step ?_).trans ih
  rw [sl_rdu]
  generalize l[i]=r at hy
  simp only [Int.toNat_natCast,show (0+i)=i from Nat.zero_add i,rul_at hy,nr1,decN_enc0',decF_enc0,wi i (by omega),cl (n:=l.length) (by omega),putE_asc ha]
  exact br_t (decide_eq_true (by omega)) (chk_step (decide_eq_true (by omega)) (chk_step (decide_eq_true (by omega)) rfl))
theorem rdu_ok (l:List Rul) (v:List Str) (h:(T.chk (decide (l.length≤1000)) (.ret (duesT l))).run=some v):callT1 P BRAb4 30 112 (.last dTar 0) (dRows rStr) l=some v:=by
 obtain ⟨g,e⟩:=chk_ret h
 subst e
 have g:=of_decide_eq_true g
 rw [fn_rdu]
 simp only [decN_enc0',decF_enc0]
 refine obs_step (L_rdu_eq l g l.length 0 [] (by omega) List.Pairwise.nil (Nat.le_refl 0)) ?_
 rw [List.drop_zero];rfl
end K
noncomputable def BRAc1:Tab:=BRAb4.addCall 112 (callE (.last dTar 0) (dRows rStr) (fun l=>.chk (decide (l.length≤1000)) (.ret (K.duesT l))))
theorem tRAc1:TabOk P BRAc1:=TabOk.addPC tRAb4 (fun a r h=>call_of okP tRAb4 (K.rdu_ok a r h))
end Go.Proofs.YtkpligkggnjcoaaGreatDoor
/-! RAd -/
namespace Go.Proofs.YtkpligkggnjcoaaGreatDoor
open Ev K
set_option maxRecDepth 100000
def S_rtr:=DecS.ghost 9 80 3 [.int .i64,.int .i64,.int .i64] (DecS.mk0 (.skip (.cons (dS) (.cons (dS) (.cons (dInt) (.unit (dLp 0 0 0 0) (.skips 4 (.cons (dO 1) (.cons (dInt) (.last (dInt) 33))))))))) (.flat 25 lTar (.rows 80 rEff .nil)))
def X_rtr:=DecX.one (.exit 0) [9] (DecS.mk0 (.skips 9 (.last (dO 0) 35)) (.rows 80 rEff .nil))
noncomputable def K.st_rtr:=loopT1 P BRAc1 30 102 33 [11,10,9,3,4,2,1] S_rtr X_rtr
theorem sl_rtr:∀ s,(K.st_rtr) s=T.run (
 let q6:=s.1.2.2.2.2.2;
 let q2:=(0:Nat)+Int.toNat q6;
 let q16:=numOf (encN nRul s.2.1 q2 (0:Nat));
 let q11:=textOf (encN nRul s.2.1 q2 (nat_lit 1));
 let q7:=encN nRul s.2.1 q2 (nat_lit 2);
 let q3:=decF rStr (slLen q7) fun i=>slF q7 (slRow q7+i);
 let q4:=encN nRul s.2.1 q2 (nat_lit 3);
 let q8:=decF rTrm (slLen q4) fun i=>slF q4 (slRow q4+i);
 let q12:=numOf (encN nRul s.2.1 q2 (nat_lit 4));
 let q13:=numOf (encN nRul s.2.1 q2 (nat_lit 5));
 let q14:=numOf (encN nRul s.2.1 q2 (nat_lit 6));
 let q1:=Rul.mk q16 q11 q3 q8 q12 q13 q14;
 let q9:=List.length s.2.1;
 let q5:=decide ((0:Int)≤q6∧q6<(↑q9:Int));
 let q10:=s.1.2.2.2.2.1;
 let q15:=List.length s.2.2.1;
 let q17:=encF rEff s.2.2.1;
 let q18:=List.length s.2.2.1+(1:Nat);
  .br (decide (q6<(↑(clampL q9):Int))) (
    .chk q5 <|
    .chk (decide (List.length q3≤(1000000:Nat))) <|
    .br (forR q1 s.1.1 s.1.2.1) (
      .chk q5 <|
      .chk (decide (behOk (Rul.mk q16 q11 q3 q8 q12 q13 q14,q10,s.1.2.2.1))) <|
      .chk (decide (q18 * (24:Nat)≤(140737488355328:Nat)∧List.length s.2.2.1+(1:Nat)≤nat_lit 9223372036854775807)) <|
      .ret (Sum.inl ((s.1.1,s.1.2.1,s.1.2.2.1,List.length s.2.2.1+(1:Nat),nextR q1 q10 s.1.2.2.1,IntKind.wrap IntKind.i64 (q6+(1:Int))),decN nRul q9 fun i=>encN nRul s.2.1 ((0:Nat)+i),decF rEff q18 (appG q15 q17 fun i k=>Option.getD [AV.int IntKind.i64 q6,AV.int IntKind.i64 q10,AV.int IntKind.i64 (nextR q1 q10 s.1.2.2.1)][((0:Nat)+i) * (3:Nat)+k]? AV.top),PUnit.unit))) (
      .ret (Sum.inl ((s.1.1,s.1.2.1,s.1.2.2.1,s.1.2.2.2.1,q10,IntKind.wrap IntKind.i64 (q6+(1:Int))),decN nRul q9 fun i=>encN nRul s.2.1 ((0:Nat)+i),decF rEff q15 q17,PUnit.unit)))) (
    .ret (Sum.inr (s.1.2.2.2.1,decF rEff q15 q17,PUnit.unit)))):=fun s=>by kernel_rfl
noncomputable def K.L_rtr:=lim K.st_rtr
noncomputable def BRAd1:Tab:=BRAc1.addNode 102 33 (nodeE [11,10,9,3,4,2,1] S_rtr X_rtr (fun s=>.obs (K.L_rtr s) .ret))
theorem tRAd1:TabOk P BRAd1:=TabOk.addLoop (d:=30) okP tRAc1 (by kernel_rfl) (by kernel_rfl) (fun s r h=>obs_ret h)
theorem fn_rtr:∀ a,(callT1 P BRAd1 30 102 D_pen (dRows rEff)) a=T.run (
 .obs (L_rtr ((a.2.1,a.2.2.1,a.2.2.2,(0:Nat),(0:Int),(0:Int)),decN nRul (List.length a.1) fun i=>encN nRul a.1 ((0:Nat)+i),decF rEff (0:Nat) fun _x _x_1=>AV.top,PUnit.unit)) fun x0=>
  .ret (decF rEff (List.length x0.2.1) fun i=>encF rEff x0.2.1 ((0:Nat)+i))):=fun a=>by kernel_rfl
end Go.Proofs.YtkpligkggnjcoaaGreatDoor
/-! RAe -/
namespace Go.Proofs.YtkpligkggnjcoaaGreatDoor
open Ev K
set_option maxRecDepth 100000
namespace K
theorem L_rtr_eq (l:List Rul) (due grade:Str) (m:Int) (hc:checkT l=0) (hm:0≤m∧m≤65536):L_rtr ((due,grade,m,0,0,0),l,[],())=some ((traceL l due grade m).length,traceL l due grade m,()):=by
 obtain ⟨h1,h2⟩:=checkT_ok hc
 unfold traceL
 refine lim_all (fun i:Nat=>((due,grade,m,(trc l due grade m i).2.length,(trc l due grade m i).1,(i:Int)),l,(trc l due grade m i).2,())) l.length (fun i hi=>?_) ?_
 ·have hy:=List.getElem?_eq_getElem hi
  have hr:=h2 l[i] (List.getElem_mem hi)
  have hb:=trc_bd hc due grade hm i
  have hlen:=trc_len l due grade m i
  rw [sl_rtr]
  simp only [trc]
  rw [hy]
  generalize l[i]=r at hy hr
  simp only [Int.toNat_natCast,show (0+i)=i from Nat.zero_add i,rul_at hy,nr0,nr1,nr2,nr3,nr4,nr5,nr6,so_rd,decN_enc0',decF_encF,wi i (by omega),cl (n:=l.length) (by omega)]
  refine br_t (decide_eq_true (by omega)) (chk_step (decide_eq_true (by omega)) (chk_step (decide_eq_true (by have:=hr.1.2;omega)) ?_))
  by_cases hf:forR r due grade=true
  ·rw [if_pos hf]
   refine br_t hf (chk_step (decide_eq_true (by omega)) (chk_step (decide_eq_true ⟨hr.2.2.2,hm,hb.1,by dsimp only;omega⟩) (chk_step (decide_eq_true (by omega)) ?_)))
   simp only [Nat.zero_add,pushE]
   rw [List.length_append,List.length_singleton];rfl
  ·rw [if_neg hf]
   exact br_f (by simpa using hf) rfl
 ·rw [sl_rtr]
  simp only [decF_encF,decN_enc0',cl (n:=l.length) (by omega)]
  exact br_f (decide_eq_false (by omega)) rfl
def rtrOk (a:List Rul × Str × Str × Int):Prop:=checkT a.1=0∧0≤a.2.2.2∧a.2.2.2≤65536
instance (a:List Rul × Str × Str × Int):Decidable (rtrOk a):=by unfold rtrOk;infer_instance
theorem rtr_ok (a:List Rul × Str × Str × Int) (v:List Effc) (h:(T.chk (decide (rtrOk a)) (.ret (traceL a.1 a.2.1 a.2.2.1 a.2.2.2))).run=some v):callT1 P BRAd1 30 102 D_pen (dRows rEff) a=some v:=by
 obtain ⟨g,e⟩:=chk_ret h
 subst e
 obtain ⟨hc,hm⟩:=of_decide_eq_true g
 rw [fn_rtr]
 simp only [decN_enc0',show decF rEff 0 (fun x x_1=>AV.top)=[] from rfl]
 refine obs_step (L_rtr_eq a.1 a.2.1 a.2.2.1 a.2.2.2 hc hm) ?_
 simp only [decF_enc0];rfl
end K
noncomputable def BRAe1:Tab:=BRAc1.addCall 102 (callE D_pen (dRows rEff) (fun a=>.chk (decide (K.rtrOk a)) (.ret (K.traceL a.1 a.2.1 a.2.2.1 a.2.2.2))))
theorem tRAe1:TabOk P BRAe1:=TabOk.addPC tRAc1 (fun a r h=>call_of okP tRAd1 (K.rtr_ok a r h))
theorem fn_rask:∀ a,(callT1 P BRAe1 30 97 D_ask dInt) a=T.run (
 let q1:=decN nRul (List.length a.1) fun i=>encN nRul a.1 ((0:Nat)+i);
 let q2:=decF rStr (List.length (duesT q1)) fun i=>encF rStr (duesT q1) ((0:Nat)+i);
  .br (checkT q1 != (0:Int)) (
    .ret (checkT q1)) (
    .chk (decide (List.length q1≤(1000:Nat))) <|
    .chk (decide (List.length q2≤(1000000:Nat))) <|
    .br (!inS q2 a.2.1) (
      .ret ((5:Int))) (
      .br (!gradeB a.2.2) (
        .ret ((1:Int))) (
        .ret ((0:Int)))))):=fun a=>by kernel_rfl
theorem fn_rpe:∀ a,(callT1 P BRAe1 30 99 D_pen dInt) a=T.run (
 let q1:=traceL (decN nRul (List.length a.1) fun i=>encN nRul a.1 ((0:Nat)+i)) a.2.1 a.2.2.1 a.2.2.2;
 let q2:=(↑(clampL (List.length q1)):Int) - (1:Int);
  .chk (decide (rtrOk (decN nRul (List.length a.1) fun i=>encN nRul a.1 ((0:Nat)+i),a.2))) <|
  .br ((↑(clampL (List.length q1)):Int) == (0:Int)) (
    .ret ((0:Int))) (
    .chk (decide ((0:Int)≤IntKind.wrap IntKind.i64 q2∧IntKind.wrap IntKind.i64 q2<(↑(List.length q1):Int))) <|
    .ret (numOf (encF rEff q1 ((0:Nat)+Int.toNat (IntKind.wrap IntKind.i64 q2)) (nat_lit 2))))):=fun a=>by kernel_rfl
end Go.Proofs.YtkpligkggnjcoaaGreatDoor
/-! RAf -/
namespace Go.Proofs.YtkpligkggnjcoaaGreatDoor
open Ev K
set_option maxRecDepth 100000
namespace K
theorem inS_dues (l:List Rul) (due:Str):inS (duesT l) due=l.any (dueP due):=by
 rw [inS_eq]
 apply Bool.eq_iff_iff.2
 rw [List.contains_iff_mem,List.any_eq_true]
 unfold duesT
 rw [(setS_spec _).2,List.mem_map]
 exact ⟨fun ⟨r,hr,e⟩=>⟨r,hr,beq_iff_eq.2 e⟩,fun ⟨r,hr,e⟩=>⟨r,hr,beq_iff_eq.1 e⟩⟩
theorem putS_len (l:List Str) (s:Str):(putS l s).length≤l.length+1:=by
 induction l with
 | nil=>simp [putS]
 | cons x t ih=>
  unfold putS
  split
  ·simp only [List.length_cons];omega
  ·split
   ·simp only [List.length_cons];omega
   ·simp only [List.length_cons];omega
theorem setS_len2 (l:List Str):(setS l).length≤l.length:=by
 have key:∀ (l acc:List Str),(l.foldl putS acc).length≤acc.length+l.length:=by
  intro l
  induction l with
  | nil=>intro acc;simp
  | cons x t ih=>
   intro acc
   have:=ih (putS acc x)
   have h2:=putS_len acc x
   simp only [List.foldl_cons,List.length_cons];omega
 have:=key l []
 simpa [setS] using this
theorem duesT_len (l:List Rul):(duesT l).length≤l.length:=by
 have:=setS_len2 (l.map (·.due))
 rw [List.length_map] at this
 exact this
theorem rask_eq (a:List Rul × Str × Str):callT1 P BRAe1 30 97 D_ask dInt a=some (askL a.1 a.2.1 a.2.2):=by
 rw [fn_rask]
 have e0:(decN nRul a.1.length fun i=>Get.f (Get.mk (RowN.tags nRul) (encN nRul a.1)) (0+i))=a.1:=decN_enc0' nRul a.1
 simp only [e0]
 unfold askL
 by_cases hc:checkT a.1=0
 ·rw [if_neg (fun h=>h hc)]
  have hl:=(checkT_ok hc).1
  have hd:=duesT_len a.1
  refine br_f (by rw [hc];rfl) (chk_step (decide_eq_true (by omega)) ?_)
  simp only [decF_enc0,inS_dues]
  refine chk_step (decide_eq_true (by omega)) ?_
  by_cases h1:a.1.any (dueP a.2.1)=false
  ·rw [if_pos h1];exact br_t (by rw [h1];rfl) rfl
  ·rw [if_neg h1]
   refine br_f (by simpa using h1) ?_
   by_cases h2:gradeB a.2.2=false
   ·rw [if_pos h2];exact br_t (by rw [h2];rfl) rfl
   ·rw [if_neg h2];exact br_f (by simpa using h2) rfl
 ·rw [if_pos hc]
  exact br_t (bne_iff_ne.2 hc) rfl
theorem rpe_ok (a:List Rul × Str × Str × Int) (v:Int) (h:(T.chk (decide (rtrOk a)) (.ret (penceL a.1 a.2.1 a.2.2.1 a.2.2.2))).run=some v):callT1 P BRAe1 30 99 D_pen dInt a=some v:=by
 obtain ⟨g,e⟩:=chk_ret h
 subst e
 have g:=of_decide_eq_true g
 have hl:=(checkT_ok g.1).1
 rw [fn_rpe]
 simp only [decN_enc0']
 refine chk_step (decide_eq_true g) ?_
 have e1:=trc_pence a.1 a.2.1 a.2.2.1 a.2.2.2
 have e2:=trc_last a.1 a.2.1 a.2.2.1 a.2.2.2 a.1.length
 have e3:=trc_len a.1 a.2.1 a.2.2.1 a.2.2.2 a.1.length
 rw [e1] at e2
 rw [e2]
 unfold traceL
 generalize (trc a.1 a.2.1 a.2.2.1 a.2.2.2 a.1.length).2=t at e3
 rw [cl (n:=t.length) (by omega)]
 cases hg:t.getLast? with
 | none=>
  rw [List.getLast?_eq_none_iff] at hg
  subst hg
  exact br_t rfl rfl
 | some x=>
  have hne:t≠[]:=by intro e;rw [e] at hg;cases hg
  have hp:0<t.length:=List.length_pos_iff.2 hne
  have ew:IntKind.i64.wrap ((t.length:Int) - 1)=((t.length - 1:Nat):Int):=by rw [w64_in (by omega) (by omega)];omega
  have hx:t[t.length - 1]?=some x:=by rw [← List.getLast?_eq_getElem?];exact hg
  rw [ew]
  refine br_f (beq_eq_false_iff_ne.2 (by omega)) (chk_step (decide_eq_true (by omega)) ?_)
  simp only [Int.toNat_natCast,Nat.zero_add,eff_at hx,ne2];rfl
end K
noncomputable def BRAf1:Tab:=BRAe1.addCall 97 (callE D_ask dInt (fun a=>.ret (K.askL a.1 a.2.1 a.2.2)))
theorem tRAf1:TabOk P BRAf1:=TabOk.addPC tRAe1 (fun a _r h=>call_of okP tRAe1 ((K.rask_eq a).trans h))
noncomputable def BRAf2:Tab:=BRAf1.addCall 99 (callE D_pen dInt (fun a=>.chk (decide (K.rtrOk a)) (.ret (K.penceL a.1 a.2.1 a.2.2.1 a.2.2.2))))
theorem tRAf2:TabOk P BRAf2:=TabOk.addPC tRAf1 (fun a r h=>call_of okP tRAe1 (K.rpe_ok a r h))
theorem fn_rPe:∀ a,(callT1 P BRAf2 30 39 D_pen R_ii) a=T.run (
 .br (askL (decN nRul (List.length a.1) fun i=>encN nRul a.1 ((0:Nat)+i)) a.2.1 a.2.2.1 != (0:Int)) (
  .ret (((0:Int),askL (decN nRul (List.length a.1) fun i=>encN nRul a.1 ((0:Nat)+i)) a.2.1 a.2.2.1))) (
  .br (!a_mass a.2.2.2) (
   .ret (((0:Int),(1:Int)))) (
   .chk (decide (rtrOk (decN nRul (List.length a.1) fun i=>encN nRul a.1 ((0:Nat)+i),a.2))) <|
   .ret ((penceL (decN nRul (List.length a.1) fun i=>encN nRul a.1 ((0:Nat)+i)) a.2.1 a.2.2.1 a.2.2.2,(0:Int)))))):=fun a=>by kernel_rfl
def R_rtr:=dAgg (.cons (dRows rEff) (.last dInt 0))
theorem fn_rTr:∀ a,(callT1 P BRAf2 30 41 D_pen R_rtr) a=T.run (
 .br (askL (decN nRul (List.length a.1) fun i=>encN nRul a.1 ((0:Nat)+i)) a.2.1 a.2.2.1 != (0:Int)) (
  .ret (([],askL (decN nRul (List.length a.1) fun i=>encN nRul a.1 ((0:Nat)+i)) a.2.1 a.2.2.1))) (
  .br (!a_mass a.2.2.2) (
   .ret (([],(1:Int)))) (
   .chk (decide (rtrOk (decN nRul (List.length a.1) fun i=>encN nRul a.1 ((0:Nat)+i),a.2))) <|
   .ret ((decF rEff (List.length (traceL (decN nRul (List.length a.1) fun i=>encN nRul a.1 ((0:Nat)+i)) a.2.1 a.2.2.1 a.2.2.2)) fun i=>encF rEff (traceL (decN nRul (List.length a.1) fun i=>encN nRul a.1 ((0:Nat)+i)) a.2.1 a.2.2.1 a.2.2.2) ((0:Nat)+i),(0:Int)))))):=fun a=>by kernel_rfl
end Go.Proofs.YtkpligkggnjcoaaGreatDoor
/-! RAg -/
namespace Go.Proofs.YtkpligkggnjcoaaGreatDoor
open Ev K
set_option maxRecDepth 100000
namespace K
theorem mass_eq (m:Int):a_mass m=decide (0≤m∧m≤65536):=by
 unfold a_mass
 by_cases h:m ≥ 0
 ·rw [if_pos (decide_eq_true h)]
  exact decide_eq_decide.2 ⟨fun k=>⟨h,k⟩,fun k=>k.2⟩
 ·rw [if_neg (by simpa using h)]
  exact (decide_eq_false fun k=>h k.1).symm
theorem rPe_eq (a:List Rul × Str × Str × Int):callT1 P BRAf2 30 39 D_pen R_ii a=some (penV a.1 a.2.1 a.2.2.1 a.2.2.2):=by
 rw [fn_rPe]
 simp only [decN_enc0',mass_eq]
 unfold penV
 by_cases ha:askL a.1 a.2.1 a.2.2.1=0
 ·rw [if_neg (fun h=>h ha)]
  refine br_f (by rw [ha];rfl) ?_
  by_cases hm:0≤a.2.2.2∧a.2.2.2≤65536
  ·rw [if_pos hm]
   exact br_f (by rw [decide_eq_true hm];rfl) (chk_step (decide_eq_true ⟨(ask_ok ha).1,hm⟩) rfl)
  ·rw [if_neg hm]
   exact br_t (by rw [decide_eq_false hm];rfl) rfl
 ·rw [if_pos ha]
  exact br_t (bne_iff_ne.2 ha) rfl
theorem rTr_eq (a:List Rul × Str × Str × Int):callT1 P BRAf2 30 41 D_pen R_rtr a=some (traceV a.1 a.2.1 a.2.2.1 a.2.2.2):=by
 rw [fn_rTr]
 simp only [decN_enc0',mass_eq,decF_enc0]
 unfold traceV
 by_cases ha:askL a.1 a.2.1 a.2.2.1=0
 ·refine br_f (by rw [ha];rfl) ?_
  by_cases hm:0≤a.2.2.2∧a.2.2.2≤65536
  ·have e:(penV a.1 a.2.1 a.2.2.1 a.2.2.2).2=0:=by unfold penV;rw [if_neg (fun h=>h ha),if_pos hm]
   rw [if_neg (fun h=>h e)]
   exact br_f (by rw [decide_eq_true hm];rfl) (chk_step (decide_eq_true ⟨(ask_ok ha).1,hm⟩) rfl)
  ·have e:(penV a.1 a.2.1 a.2.2.1 a.2.2.2).2=1:=by unfold penV;rw [if_neg (fun h=>h ha),if_neg hm]
   rw [e,if_pos (by decide)]
   exact br_t (by rw [decide_eq_false hm];rfl) rfl
 ·have e:(penV a.1 a.2.1 a.2.2.1 a.2.2.2).2=askL a.1 a.2.1 a.2.2.1:=by unfold penV;rw [if_pos ha]
  rw [e,if_pos ha]
  exact br_t (bne_iff_ne.2 ha) rfl
end K
noncomputable def BRAg1:Tab:=BRAf2.addCall 39 (callE D_pen R_ii (fun a=>.ret (K.penV a.1 a.2.1 a.2.2.1 a.2.2.2)))
theorem tRAg1:TabOk P BRAg1:=TabOk.addPC tRAf2 (fun a _r h=>call_of okP tRAf2 ((K.rPe_eq a).trans h))
noncomputable def BRAg2:Tab:=BRAg1.addCall 41 (callE D_pen R_rtr (fun a=>.ret (K.traceV a.1 a.2.1 a.2.2.1 a.2.2.2)))
theorem tRAg2:TabOk P BRAg2:=TabOk.addPC tRAg1 (fun a _r h=>call_of okP tRAf2 ((K.rTr_eq a).trans h))
end Go.Proofs.YtkpligkggnjcoaaGreatDoor
/-! RAh -/
namespace Go.Proofs.YtkpligkggnjcoaaGreatDoor
open Ev K
set_option maxRecDepth 100000
def S_rcg:=DecS.mk0 (.cons (dRows rLot) (.skips 2 (.last (dInt) 25))) .nil
def X_rcg:=DecX.or (DecX.one (.exit 0) [] (DecS.mk0 (.tops 29) .nil)) (DecX.one .ret [2] (DecS.mk0 (.skips 2 (.last (dInt) 26)) .nil))
noncomputable def K.st_rcg:=loopT1 P BRAg2 30 83 33 [3,0] S_rcg X_rcg
theorem sl_rcg:∀ s,(K.st_rcg) s=T.run (
 .br (decide (s.1.2<(↑(clampL (List.length s.1.1)):Int))) (
  .chk (decide ((0:Int)≤s.1.2∧s.1.2<(↑(List.length s.1.1):Int))) <|
  .br (!gradeB (textOf (encF rLot s.1.1 ((0:Nat)+Int.toNat s.1.2) (nat_lit 0)))) (
   .ret (Sum.inr (Sum.inr ((1:Int),PUnit.unit)))) (
   .chk (decide ((0:Int)≤s.1.2∧s.1.2<(↑(List.length s.1.1):Int))) <|
   .br (!a_mass (numOf (encF rLot s.1.1 ((0:Nat)+Int.toNat s.1.2) (nat_lit 1)))) (
    .ret (Sum.inr (Sum.inr ((1:Int),PUnit.unit)))) (
    .ret (Sum.inl ((decF rLot (List.length s.1.1) fun i=>encF rLot s.1.1 ((0:Nat)+i),IntKind.wrap IntKind.i64 (s.1.2+(1:Int))),PUnit.unit))))) (
  .ret (Sum.inr (Sum.inl (PUnit.unit,PUnit.unit))))):=fun s=>by kernel_rfl
noncomputable def K.L_rcg:=lim K.st_rcg
noncomputable def BRAh1:Tab:=BRAg2.addNode 83 33 (nodeE [3,0] S_rcg X_rcg (fun s=>.obs (K.L_rcg s) .ret))
theorem tRAh1:TabOk P BRAh1:=TabOk.addLoop (d:=30) okP tRAg2 (by kernel_rfl) (by kernel_rfl) (fun s r h=>obs_ret h)
theorem fn_rcg:∀ a,(callT1 P BRAh1 30 83 D_lots dInt) a=T.run (
 .br (decide ((↑(clampL (List.length a)):Int) > (12:Int))) (
  .ret ((2:Int))) (
  .obs (L_rcg ((decF rLot (List.length a) fun i=>encF rLot a ((0:Nat)+i),(0:Int)),PUnit.unit)) fun x0=>
   .sum (x0) (fun _=>
    .ret ((0:Int))) (fun x1=>
    .ret x1.1))):=fun a=>by kernel_rfl
def D_ral:=DecL.cons dTar (.cons dS (.last (dRows rLot) 0))
def S_ral:=DecS.mk0 (.skip (.cons (dS) (.cons (dRows rLot) (.unit (dLp 0 0 0 0) (.skips 3 (.cons (dInt) (.last (dInt) 22))))))) oTarB
def X_ral:=DecX.one (.exit 0) [7] (DecS.mk0 (.skips 7 (.last (dInt) 23)) .nil)
noncomputable def K.st_ral:=loopT1 P BRAh1 30 88 25 [8,2,1,3,7] S_ral X_ral
theorem sl_ral:∀ s,(K.st_ral) s=T.run (
 let q1:=(0:Nat)+Int.toNat s.1.2.2.2;
 let q3:=List.length s.1.2.1;
 let q2:=decide ((0:Int)≤s.1.2.2.2∧s.1.2.2.2<(↑q3:Int));
 let q4:=List.length s.2.1;
 let q5:=encF rLot s.1.2.1 q1 (nat_lit 0);
 let q6:=encF rLot s.1.2.1 q1 (nat_lit 1);
  .br (decide (s.1.2.2.2<(↑(clampL q3):Int))) (
    .chk q2 <|
    .chk q2 <|
    .chk (decide (rtrOk (decN nRul q4 fun i=>encN nRul s.2.1 ((0:Nat)+i),s.1.1,textOf q5,numOf q6))) <|
    .ret (Sum.inl ((s.1.1,decF rLot q3 fun i=>encF rLot s.1.2.1 ((0:Nat)+i),IntKind.wrap IntKind.i64 (s.1.2.2.1+penceL (decN nRul q4 fun i=>encN nRul s.2.1 ((0:Nat)+i)) s.1.1 (textOf q5) (numOf q6)),IntKind.wrap IntKind.i64 (s.1.2.2.2+(1:Int))),decN nRul q4 fun i=>encN nRul s.2.1 ((0:Nat)+i),PUnit.unit))) (
    .ret (Sum.inr (s.1.2.2.1,PUnit.unit)))):=fun s=>by kernel_rfl
noncomputable def K.L_ral:=lim K.st_ral
noncomputable def BRAh2:Tab:=BRAh1.addNode 88 25 (nodeE [8,2,1,3,7] S_ral X_ral (fun s=>.obs (K.L_ral s) .ret))
theorem tRAh2:TabOk P BRAh2:=TabOk.addLoop (d:=30) okP tRAh1 (by kernel_rfl) (by kernel_rfl) (fun s r h=>obs_ret h)
theorem fn_ral:∀ a,(callT1 P BRAh2 30 88 D_ral dInt) a=T.run (
 .obs (L_ral ((a.2.1,decF rLot (List.length a.2.2) fun i=>encF rLot a.2.2 ((0:Nat)+i),(0:Int),(0:Int)),decN nRul (List.length a.1) fun i=>encN nRul a.1 ((0:Nat)+i),PUnit.unit)) fun x0=>
  .ret x0.1):=fun a=>by kernel_rfl
theorem fn_rwo:∀ a,(callT1 P BRAh2 30 89 D_wo dTar) a=T.run (
 let q4:=a.2+(1:Int);
 let q1:=List.length a.1 - Int.toNat (IntKind.wrap IntKind.i64 q4);
 let q3:=(0:Nat);
 let q2:=Int.toNat a.2 - q3;
  .chk (decide ((0:Int)≤a.2∧a.2≤(↑(List.length a.1):Int))&&true) <|
  .chk (decide ((q3+q2) * (96:Nat)≤(140737488355328:Nat)∧q3+q2≤nat_lit 9223372036854775807)) <|
  .chk (true&&decide ((0:Int)≤IntKind.wrap IntKind.i64 q4∧IntKind.wrap IntKind.i64 q4≤(↑(List.length a.1):Int))) <|
  .chk (decide ((q3+q2+q1) * (96:Nat)≤(140737488355328:Nat)∧q3+q2+q1≤nat_lit 9223372036854775807)) <|
  .ret (decN nRul (q3+q2+q1) fun i=>appG (q3+q2) (appG q3 (fun _x _x_1=>AV.top) fun i k=>encN nRul a.1 (nat_lit 0+i) k) (fun i k=>encN nRul a.1 (q3+Int.toNat (IntKind.wrap IntKind.i64 q4)+i) k) (q3+i))):=fun a=>by kernel_rfl
theorem fn_r_span:∀ a,(callT1 P BRAh2 30 92 D_spn dInt) a=T.run (
 .br (decide (Spn.lo a<(0:Int))) (
  .ret ((1:Int))) (
  .br (decide (Spn.lo a > Spn.hi a)) (
   .ret ((1:Int))) (
   .br (decide (Spn.hi a > (65536:Int))) (
    .ret ((1:Int))) (
    .br (decide (IntKind.wrap IntKind.i64 (Spn.hi a - Spn.lo a) ≥ (5000:Int))) (
     .ret ((2:Int))) (
     .ret ((0:Int))))))):=fun a=>by kernel_rfl
noncomputable def K.r_span (a:Spn):Int:=(if (decide (Spn.lo a<(0:Int)))=true then (1:Int) else (if (decide (Spn.lo a > Spn.hi a))=true then (1:Int) else (if (decide (Spn.hi a > (65536:Int)))=true then (1:Int) else (if (decide (IntKind.wrap IntKind.i64 (Spn.hi a - Spn.lo a) ≥ (5000:Int)))=true then (2:Int) else (0:Int)))))
theorem eq_r_span (a:Spn):(callT1 P BRAh2 30 92 D_spn dInt) a=some (K.r_span a):=(fn_r_span a).trans (T.br_some rfl (T.br_some rfl (T.br_some rfl (T.br_some rfl rfl))))
noncomputable def BRAh3:Tab:=BRAh2.addCall 92 (callE D_spn dInt (fun a=>.ret (K.r_span a)))
theorem tRAh3:TabOk P BRAh3:=TabOk.addFn (d:=30) okP tRAh2 (fun a r h=>by rw [eq_r_span];exact congrArg some (ret_some h))
def S_rsg:=DecS.ghost 9 95 3 [.int .i64,.int .i64,.int .i64] (DecS.mk0 (.skip (.cons (dS) (.cons (dS) (.skip (.unit (dLp 0 0 0 0) (.skips 2 (.unit (dLp 1 0 0 0) (.skip (.cons (dO 2) (.last (dInt) 45)))))))))) (.flat 25 lTar (.flat 53 lSpn (.rows 95 rStg .nil))))
def X_rsg:=DecX.one (.exit 0) [9] (DecS.mk0 (.skips 9 (.last (dO 0) 46)) (.rows 95 rStg .nil))
noncomputable def K.st_rsg:=loopT1 P BRAh3 30 105 25 [10,9,2,1,4,7] S_rsg X_rsg
theorem sl_rsg:∀ s,(K.st_rsg) s=T.run (
 let q6:=s.2.2.2.1;
 let q8:=s.1.2.2.2;
 let q7:=List.length s.2.1;
 let q5:=decN nRul q7 fun i=>encN nRul s.2.1 ((0:Nat)+i);
 let q1:=Sum.inl ((s.1.1,s.1.2.1,List.length q6+(1:Nat),IntKind.wrap IntKind.i64 (q8+(1:Int))),decN nRul q7 fun i=>encN nRul s.2.1 ((0:Nat)+i),s.2.2.1,decF rStg (List.length q6+(1:Nat)) (appG (List.length q6) (encF rStg q6) fun i k=>Option.getD [AV.int IntKind.i64 q8,AV.int IntKind.i64 q8,AV.int IntKind.i64 (penceL q5 s.1.1 s.1.2.1 q8)][((0:Nat)+i) * (3:Nat)+k]? AV.top),PUnit.unit);
 let q4:=(↑s.1.2.2.1:Int) - (1:Int);
 let q2:=decide ((0:Int)≤IntKind.wrap IntKind.i64 q4∧IntKind.wrap IntKind.i64 q4<(↑s.1.2.2.1:Int));
 let q3:=decide ((List.length q6+(1:Nat)) * (24:Nat)≤(140737488355328:Nat)∧List.length q6+(1:Nat)≤nat_lit 9223372036854775807);
 let q9:=Int.toNat (IntKind.wrap IntKind.i64 q4);
  .br (decide (q8≤Spn.hi s.2.2.1)) (
    .chk (decide (rtrOk (decN nRul q7 fun i=>encN nRul s.2.1 ((0:Nat)+i),s.1.1,s.1.2.1,q8))) <|
    .br (decide ((↑s.1.2.2.1:Int) > (0:Int))) (
      .chk q2 <|
      .br (numOf (encF rStg q6 q9 (nat_lit 2)) == penceL q5 s.1.1 s.1.2.1 q8) (
        .chk q2 <|
        .ret (Sum.inl ((s.1.1,s.1.2.1,s.1.2.2.1,IntKind.wrap IntKind.i64 (q8+(1:Int))),decN nRul q7 fun i=>encN nRul s.2.1 ((0:Nat)+i),s.2.2.1,decF rStg (List.length q6) (setR q9 (nat_lit 1) (nat_lit 1) [AV.int IntKind.i64 q8] (encF rStg q6)),PUnit.unit))) (
        .chk q3 <|
        .ret q1)) (
      .chk q3 <|
      .ret q1)) (
    .ret (Sum.inr (s.1.2.2.1,decF rStg (List.length q6) (encF rStg q6),PUnit.unit)))):=fun s=>by kernel_rfl
noncomputable def K.L_rsg:=lim K.st_rsg
noncomputable def BRAh4:Tab:=BRAh3.addNode 105 25 (nodeE [10,9,2,1,4,7] S_rsg X_rsg (fun s=>.obs (K.L_rsg s) .ret))
theorem tRAh4:TabOk P BRAh4:=TabOk.addLoop (d:=30) okP tRAh3 (by kernel_rfl) (by kernel_rfl) (fun s r h=>obs_ret h)
theorem fn_rsg:∀ a,(callT1 P BRAh4 30 105 D_stg (dRows rStg)) a=T.run (
 .obs (L_rsg ((a.2.1,a.2.2.1,(0:Nat),Spn.lo a.2.2.2),decN nRul (List.length a.1) fun i=>encN nRul a.1 ((0:Nat)+i),a.2.2.2,decF rStg (0:Nat) fun _x _x_1=>AV.top,PUnit.unit)) fun x0=>
  .ret (decF rStg (List.length x0.2.1) fun i=>encF rStg x0.2.1 ((0:Nat)+i))):=fun a=>by kernel_rfl
end Go.Proofs.YtkpligkggnjcoaaGreatDoor
/-! RAi -/
namespace Go.Proofs.YtkpligkggnjcoaaGreatDoor
open Ev K
set_option maxRecDepth 100000
namespace K
theorem L_rcg_eq (l:List Lot) (hl:l.length≤1000):L_rcg ((l,0),())=some (if ∀ x ∈ l,lotOk x then .inl ((),()) else .inr (1,())):=by
 refine (lim_err (fun i:Nat=>((l,(i:Int)),())) l.length (badI lotOk 1 l) (fun e=>.inr (e,())) (.inl ((),())) (fun i hi=>?_) ?_).trans ?_
 ·rw [sl_rcg]
  have hy:=List.getElem?_eq_getElem hi
  unfold badI;rw [hy]
  generalize l[i]=x at hy
  simp only [Int.toNat_natCast,Nat.zero_add,lot_at hy,nl0,nl1,decF_encF,wi i (by omega),mass_eq,cl (n:=l.length) (by omega)]
  refine br_t (decide_eq_true (by omega)) (chk_step (decide_eq_true (by omega)) ?_)
  by_cases hg:gradeB x.grade=true
  ·refine br_f (by rw [hg];rfl) (chk_step (decide_eq_true (by omega)) ?_)
   by_cases hm:0≤x.mass∧x.mass≤65536
   ·rw [if_pos ⟨hg,hm⟩]
    exact br_f (by rw [decide_eq_true hm];rfl) rfl
   ·rw [if_neg (fun h:lotOk x=>hm h.2)]
    exact br_t (by rw [decide_eq_false hm];rfl) rfl
  ·rw [if_neg (fun h:lotOk x=>hg h.1)]
   exact br_t (by rw [Bool.not_eq_true'];simpa using hg) rfl
 ·rw [sl_rcg]
  simp only [cl (n:=l.length) (by omega)]
  exact br_f (decide_eq_false (by omega)) rfl
 ·rw [badI_all]
  by_cases h:∀ x ∈ l,lotOk x
  ·rw [if_pos h,if_pos h];rfl
  ·rw [if_neg h,if_neg h];rfl
theorem rcg_eq (l:List Lot):callT1 P BRAh1 30 83 D_lots dInt l=some (lotsL l):=by
 rw [fn_rcg]
 have e1:=clampL_gt l.length 12 (by omega)
 simp only [decF_enc0,show ((12:Nat):Int)=12 from rfl] at e1 ⊢
 rw [e1]
 unfold lotsL
 by_cases hl:l.length > 12
 ·rw [if_pos hl];exact br_t (decide_eq_true hl) rfl
 ·rw [if_neg hl]
  refine br_f (decide_eq_false hl) ?_
  refine obs_step (L_rcg_eq l (by omega)) ?_
  by_cases h:∀ x ∈ l,lotOk x
  ·rw [if_pos h,if_pos h];rfl
  ·rw [if_neg h,if_neg h];rfl
theorem L_ral_eq (l:List Rul) (c:List Lot) (hl:checkT l=0) (hc:lotsL c=0) (d:Str):L_ral ((d,c,0,0),l,())=some (allL l d c,()):=by
 obtain ⟨c1,c2⟩:=lots_ok hc
 have e:allL l d c=allL l d (c.take c.length):=by rw [List.take_length]
 rw [e]
 refine lim_all (fun j:Nat=>((d,c,allL l d (c.take j),(j:Int)),l,())) c.length (fun j hj=>?_) ?_
 ·have hy:=List.getElem?_eq_getElem hj
  have hx:=c2 c[j] (List.getElem_mem hj)
  have hb:=all_take hl d hc (j+1)
  rw [sl_ral]
  rw [List.take_add_one,hy] at hb ⊢
  generalize c[j]=x at hy hx hb
  rw [Option.toList_some] at hb ⊢
  simp only [Int.toNat_natCast,Nat.zero_add,lot_at hy,nl0,nl1,decF_encF,decN_encN,wi j (by omega),cl (n:=c.length) (by omega)]
  rw [all_snoc] at hb ⊢
  refine br_t (decide_eq_true (by omega)) (chk_step (decide_eq_true (by omega)) (chk_step (decide_eq_true (by omega)) (chk_step (decide_eq_true ⟨hl,hx.2⟩) ?_)))
  rw [w64_in (by omega) (by omega)];rfl
 ·rw [sl_ral]
  simp only [cl (n:=c.length) (by omega)]
  exact br_f (decide_eq_false (by omega)) rfl
theorem ral_ok (a:List Rul × Str × List Lot) (r:Int) (h:(T.chk (decide (bilOk (a.1,a.2.2))) (.ret (allL a.1 a.2.1 a.2.2))).run=some r):callT1 P BRAh2 30 88 D_ral dInt a=some r:=by
 obtain ⟨g,e⟩:=chk_ret h
 subst e
 obtain ⟨g1,g2⟩:=of_decide_eq_true g
 rw [fn_ral]
 simp only [Nat.zero_add,decF_encF,decN_encN]
 exact obs_step (L_ral_eq a.1 a.2.2 g1 g2 a.2.1) rfl
theorem rspan_eq (a:Spn):r_span a=spanL a:=by
 unfold r_span spanL
 have hw:∀ h:0≤a.lo∧a.lo≤a.hi∧a.hi≤65536,IntKind.i64.wrap (a.hi - a.lo)=a.hi - a.lo:=fun h=>w64_in (by omega) (by omega)
 by_cases h1:a.lo<0
 ·rw [if_pos (decide_eq_true h1),if_neg (by omega)]
 ·rw [if_neg (by simpa using h1)]
  by_cases h2:a.lo > a.hi
  ·rw [if_pos (decide_eq_true h2),if_neg (by omega)]
  ·rw [if_neg (by simpa using h2)]
   by_cases h3:a.hi > 65536
   ·rw [if_pos (decide_eq_true h3),if_neg (by omega)]
   ·rw [if_neg (by simpa using h3),if_pos (show 0≤a.lo∧a.lo≤a.hi∧a.hi≤65536 by omega),hw (by omega)]
    by_cases h4:a.hi - a.lo ≥ 5000
    ·rw [if_pos (decide_eq_true h4),if_neg (by omega)]
    ·rw [if_neg (by simpa using h4),if_pos (by omega)]
theorem L_rsg_eq (l:List Rul) (due grade:Str) (a:Spn) (hc:checkT l=0) (ha:spanL a=0):L_rsg ((due,grade,0,a.lo),l,a,[],())=some ((stgs l due grade a).length,stgs l due grade a,()):=by
 obtain ⟨b1,b2,b3,b4⟩:=span_ok ha
 unfold stgs stagesL
 have e0:a.lo=a.lo+((0:Nat):Int):=by simp
 have key:∀ (f:Int→Int) (lo:Int) (k:Nat),(stagesK f lo k).length≤k:=by
  intro f lo k
  induction k with
  | zero=>exact Nat.le_refl _
  | succ k ih=>
   have:=stStep_len (stagesK f lo k) (lo+k) (f (lo+k))
   show (stStep _ _ _).length≤_
   omega
 have e1:((due,grade,0,a.lo),l,a,[],())=((due,grade,(stagesK (fun m=>penceL l due grade m) a.lo 0).length,a.lo+((0:Nat):Int)),l,a,stagesK (fun m=>penceL l due grade m) a.lo 0,()):=by rw [← e0];rfl
 rw [e1]
 refine lim_all (fun k:Nat=>((due,grade,(stagesK (fun m=>penceL l due grade m) a.lo k).length,a.lo+(k:Int)),l,a,stagesK (fun m=>penceL l due grade m) a.lo k,())) (a.hi+1 - a.lo).toNat (fun k hk=>?_) ?_
 ·have hlen:=key (fun m=>penceL l due grade m) a.lo k
  rw [sl_rsg]
  show _=some (Sum.inl ((due,grade,(stStep (stagesK (fun m=>penceL l due grade m) a.lo k) (a.lo+k) (penceL l due grade (a.lo+k))).length,a.lo+((k+1:Nat):Int)),l,a,stStep (stagesK (fun m=>penceL l due grade m) a.lo k) (a.lo+k) (penceL l due grade (a.lo+k)),()))
  generalize stagesK (fun m=>penceL l due grade m) a.lo k=out at hlen
  have ew:IntKind.i64.wrap (a.lo+(k:Int)+1)=a.lo+((k+1:Nat):Int):=by rw [w64_in (by omega) (by omega)];omega
  have hin:0≤a.lo+(k:Int)∧a.lo+(k:Int)≤65536:=by omega
  simp only [Nat.zero_add,decN_encN,decF_encF,pushG,ew]
  refine br_t (decide_eq_true (by omega)) (chk_step (decide_eq_true ⟨hc,hin⟩) ?_)
  generalize penceL l due grade (a.lo+(k:Int))=n
  generalize a.lo+(k:Int)=x
  cases hl:out.getLast? with
  | none=>
   have e:out=[]:=List.getLast?_eq_none_iff.1 hl
   subst e
   exact br_f rfl (chk_step (decide_eq_true (by simp)) rfl)
  | some s=>
   obtain ⟨L,rfl⟩:=List.getLast?_eq_some_iff.1 hl
   have hlen:(L ++ [s]).length=L.length+1:=by simp
   have hs:(L ++ [s])[L.length]?=some s:=by rw [List.getElem?_append_right (Nat.le_refl _),Nat.sub_self];rfl
   have hw:IntKind.i64.wrap (((L ++ [s]).length:Int) - 1)=(L.length:Int):=by rw [w64_in (by omega) (by omega)];omega
   refine br_t (decide_eq_true (by omega)) ?_
   rw [hw]
   simp only [Int.toNat_natCast,stg_at hs,ng2]
   refine chk_step (decide_eq_true (by omega)) ?_
   unfold stStep
   rw [hl]
   simp only
   by_cases hp:s.pence=n
   ·rw [if_pos hp]
    refine br_t (beq_iff_eq.2 hp) (chk_step (decide_eq_true (by omega)) ?_)
    rw [setHi,List.dropLast_concat,hp]
    have:(L ++ [(⟨s.lo,x,n⟩:Stg)]).length=(L ++ [s]).length:=by simp
    rw [this];rfl
   ·rw [if_neg hp]
    refine br_f (beq_eq_false_iff_ne.2 hp) (chk_step (decide_eq_true (by omega)) ?_)
    have e3:(L ++ [s] ++ [(⟨x,x,n⟩:Stg)]).length=(L ++ [s]).length+1:=by simp
    rw [e3];rfl
 ·rw [sl_rsg]
  simp only [decF_encF]
  exact br_f (decide_eq_false (by omega)) rfl
def rsgOk (a:List Rul × Str × Str × Spn):Prop:=checkT a.1=0∧spanL a.2.2.2=0
instance (a:List Rul × Str × Str × Spn):Decidable (rsgOk a):=by unfold rsgOk;infer_instance
theorem rsg_ok (a:List Rul × Str × Str × Spn) (v:List Stg) (h:(T.chk (decide (rsgOk a)) (.ret (stgs a.1 a.2.1 a.2.2.1 a.2.2.2))).run=some v):callT1 P BRAh4 30 105 D_stg (dRows rStg) a=some v:=by
 obtain ⟨g,e⟩:=chk_ret h
 subst e
 obtain ⟨g1,g2⟩:=of_decide_eq_true g
 rw [fn_rsg]
 simp only [decN_enc0',show decF rStg 0 (fun x x_1=>AV.top)=[] from rfl]
 refine obs_step (L_rsg_eq a.1 a.2.1 a.2.2.1 a.2.2.2 g1 g2) ?_
 simp only [decF_enc0];rfl
theorem decN_appG {ρ:Type} (R:RowN ρ) (n m:Nat) (f g:Nat→Nat→AV):decN R (n+m) (appG n f g)=decN R n f ++ decN R m g:=by
 apply List.ext_getElem?
 intro i
 simp only [decN,List.getElem?_map]
 by_cases h:i<n
 ·have e:appG n f g i=f i:=by
   funext k;unfold appG;rw [show Nat.ble n i=false by rw [← Bool.not_eq_true,Nat.ble_eq];omega]
  rw [List.getElem?_append_left (by simp;exact h),List.getElem?_map,List.getElem?_range (by omega),List.getElem?_range h,Option.map_some,Option.map_some,e]
 ·have e:appG n f g i=g (i - n):=by
   funext k;unfold appG;rw [show Nat.ble n i=true by rw [Nat.ble_eq];omega]
  rw [List.getElem?_append_right (by simp;omega),List.getElem?_map]
  simp only [List.length_map,List.length_range]
  by_cases h2:i<n+m
  ·rw [List.getElem?_range h2,List.getElem?_range (by omega),Option.map_some,Option.map_some,e]
  ·rw [List.getElem?_eq_none (by simp;omega),List.getElem?_eq_none (by simp;omega)];rfl
theorem decN_part {ρ:Type} (R:RowN ρ) (l:List ρ) (a n:Nat) (h:a+n≤l.length):decN R n (fun i=>encN R l (a+i))=(l.drop a).take n:=by
 apply List.ext_getElem?
 intro i
 simp only [decN,List.getElem?_map]
 by_cases hi:i<n
 ·rw [List.getElem?_range hi,Option.map_some,List.getElem?_take,if_pos hi,List.getElem?_drop]
  have hy:l[a+i]?=some l[a+i]:=List.getElem?_eq_getElem (by omega)
  rw [encN_at hy,R.good,hy]
 ·rw [List.getElem?_eq_none (by simp;omega),List.getElem?_take,if_neg hi];rfl
theorem rwo_ok (a:List Rul × Int) (r:List Rul) (h:(T.chk (decide (woOk a)) (.ret (eraseR a.1 a.2))).run=some r):callT1 P BRAh2 30 89 D_wo dTar a=some r:=by
 obtain ⟨g,e⟩:=chk_ret h
 subst e
 obtain ⟨l,i⟩:=a
 obtain ⟨g1,g2,g3⟩:=of_decide_eq_true g
 simp only at g1 g2 g3
 obtain ⟨j,rfl⟩:∃ j:Nat,i=j:=⟨i.toNat,by omega⟩
 have hj:j<l.length:=by omega
 rw [fn_rwo]
 simp only [Nat.zero_add,Nat.sub_zero,wi j (by omega),Int.toNat_natCast,appG0]
 refine chk_step ?_ (chk_step (decide_eq_true (by omega)) (chk_step ?_ (chk_step (decide_eq_true (by omega)) ?_)))
 ·simp only [Bool.and_true,decide_eq_true_eq];omega
 ·simp only [Bool.true_and,decide_eq_true_eq];omega
 ·have e1:decN nRul (j+(l.length - (j+1))) (appG j (encN nRul l) fun i k=>encN nRul l (j+1+i) k)=l.eraseIdx j:=by
   rw [decN_appG]
   have h1:=decN_part nRul l 0 j (by omega)
   simp only [Nat.zero_add,List.drop_zero] at h1
   have h2:=decN_part nRul l (j+1) (l.length - (j+1)) (by omega)
   rw [List.take_of_length_le (by rw [List.length_drop];exact Nat.le_refl _)] at h2
   rw [List.eraseIdx_eq_take_drop_succ]
   exact congr (congrArg _ h1) h2
  exact congrArg some e1
end K
end Go.Proofs.YtkpligkggnjcoaaGreatDoor
/-! RAj -/
namespace Go.Proofs.YtkpligkggnjcoaaGreatDoor
open Ev K
set_option maxRecDepth 100000
noncomputable def BRAj1:Tab:=BRAh4.addCall 83 (callE D_lots dInt (fun a=>.ret (K.lotsL a)))
theorem tRAj1:TabOk P BRAj1:=TabOk.addPC tRAh4 (fun a _r h=>call_of okP tRAh1 ((K.rcg_eq a).trans h))
noncomputable def BRAj2:Tab:=BRAj1.addCall 88 (callE D_ral dInt (fun a=>.chk (decide (K.bilOk (a.1,a.2.2))) (.ret (K.allL a.1 a.2.1 a.2.2))))
theorem tRAj2:TabOk P BRAj2:=TabOk.addPC tRAj1 (fun a r h=>call_of okP tRAh2 (K.ral_ok a r h))
noncomputable def BRAj3:Tab:=BRAj2.addCall 89 (callE D_wo dTar (fun a=>.chk (decide (K.woOk a)) (.ret (K.eraseR a.1 a.2))))
theorem tRAj3:TabOk P BRAj3:=TabOk.addPC tRAj2 (fun a r h=>call_of okP tRAh2 (K.rwo_ok a r h))
noncomputable def BRAj4:Tab:=BRAj3.addCall 105 (callE D_stg (dRows rStg) (fun a=>.chk (decide (K.rsgOk a)) (.ret (K.stgs a.1 a.2.1 a.2.2.1 a.2.2.2))))
theorem tRAj4:TabOk P BRAj4:=TabOk.addPC tRAj3 (fun a r h=>call_of okP tRAh4 (K.rsg_ok a r h))
theorem fn_r_over:∀ a,(callT1 P BRAj4 30 104 D_stg dInt) a=T.run (
 .br (askL (decN nRul (List.length a.1) fun i=>encN nRul a.1 ((0:Nat)+i)) a.2.1 a.2.2.1 != (0:Int)) (
  .ret (askL (decN nRul (List.length a.1) fun i=>encN nRul a.1 ((0:Nat)+i)) a.2.1 a.2.2.1)) (
  .ret (r_span a.2.2.2))):=fun a=>by kernel_rfl
noncomputable def K.r_over (a:List Rul × List UInt8 × List UInt8 × Spn):Int:=(if (askL (decN nRul (List.length a.1) fun i=>encN nRul a.1 ((0:Nat)+i)) a.2.1 a.2.2.1 != (0:Int))=true then askL (decN nRul (List.length a.1) fun i=>encN nRul a.1 ((0:Nat)+i)) a.2.1 a.2.2.1 else r_span a.2.2.2)
theorem eq_r_over (a:List Rul × List UInt8 × List UInt8 × Spn):(callT1 P BRAj4 30 104 D_stg dInt) a=some (K.r_over a):=(fn_r_over a).trans (T.br_some rfl rfl)
noncomputable def BRAj5:Tab:=BRAj4.addCall 104 (callE D_stg dInt (fun a=>.ret (K.r_over a)))
theorem tRAj5:TabOk P BRAj5:=TabOk.addFn (d:=30) okP tRAj4 (fun a r h=>by rw [eq_r_over];exact congrArg some (ret_some h))
def S_rbi:=DecS.ghost 6 83 2 [.str,.int .i64] (DecS.mk0 (.skip (.cons (dRows rLot) (.unit (dLp 0 0 0 0) (.skips 2 (.cons (dRows rStr) (.cons (dO 1) (.last (dInt) 24))))))) (.flat 25 lTar (.rows 83 rChrg .nil)))
def X_rbi:=DecX.one (.exit 0) [6] (DecS.mk0 (.skips 6 (.last (dO 0) 25)) (.rows 83 rChrg .nil))
noncomputable def K.st_rbi:=loopT1 P BRAj5 30 84 33 [7,1,5,2,6] S_rbi X_rbi
theorem sl_rbi:∀ s,(K.st_rbi) s=T.run (
 let q4:=List.length s.1.2.1;
 let q1:=decide ((0:Int)≤s.1.2.2.2∧s.1.2.2.2<(↑q4:Int));
 let q3:=(0:Nat);
 let q2:=textOf (encF rStr s.1.2.1 (q3+Int.toNat s.1.2.2.2) q3);
 let q5:=List.length s.2.1;
 let q6:=List.length s.1.1;
 let q7:=List.length s.2.2.1+(1:Nat);
  .br (decide (s.1.2.2.2<(↑(clampL q4):Int))) (
    .chk q1 <|
    .chk q1 <|
    .chk (decide (bilOk (decN nRul q5 fun i=>encN nRul s.2.1 (q3+i),decF rLot q6 fun i=>encF rLot s.1.1 (q3+i)))) <|
    .chk (decide (q7 * (24:Nat)≤(140737488355328:Nat)∧List.length s.2.2.1+(1:Nat)≤nat_lit 9223372036854775807)) <|
    .ret (Sum.inl ((decF rLot q6 fun i=>encF rLot s.1.1 (q3+i),decF rStr q4 fun i=>encF rStr s.1.2.1 (q3+i),List.length s.2.2.1+(1:Nat),IntKind.wrap IntKind.i64 (s.1.2.2.2+(1:Int))),decN nRul q5 fun i=>encN nRul s.2.1 (q3+i),decF rChrg q7 (appG (List.length s.2.2.1) (encF rChrg s.2.2.1) fun i k=>Option.getD [AV.str q2,AV.int IntKind.i64 (allL (decN nRul q5 fun i=>encN nRul s.2.1 (q3+i)) q2 (decF rLot q6 fun i=>encF rLot s.1.1 (q3+i)))][(q3+i) * (2:Nat)+k]? AV.top),PUnit.unit))) (
    .ret (Sum.inr (s.1.2.2.1,decF rChrg (List.length s.2.2.1) (encF rChrg s.2.2.1),PUnit.unit)))):=fun s=>by kernel_rfl
noncomputable def K.L_rbi:=lim K.st_rbi
noncomputable def BRAj6:Tab:=BRAj5.addNode 84 33 (nodeE [7,1,5,2,6] S_rbi X_rbi (fun s=>.obs (K.L_rbi s) .ret))
theorem tRAj6:TabOk P BRAj6:=TabOk.addLoop (d:=30) okP tRAj5 (by kernel_rfl) (by kernel_rfl) (fun s r h=>obs_ret h)
theorem fn_rbi:∀ a,(callT1 P BRAj6 30 84 D_bil (dRows rChrg)) a=T.run (
 .chk (decide (List.length (decN nRul (List.length a.1) fun i=>encN nRul a.1 ((0:Nat)+i))≤(1000:Nat))) <|
 .obs (L_rbi ((decF rLot (List.length a.2) fun i=>encF rLot a.2 ((0:Nat)+i),decF rStr (List.length (duesT (decN nRul (List.length a.1) fun i=>encN nRul a.1 ((0:Nat)+i)))) fun i=>encF rStr (duesT (decN nRul (List.length a.1) fun i=>encN nRul a.1 ((0:Nat)+i))) ((0:Nat)+i),(0:Nat),(0:Int)),decN nRul (List.length a.1) fun i=>encN nRul a.1 ((0:Nat)+i),decF rChrg (0:Nat) fun _x _x_1=>AV.top,PUnit.unit)) fun x0=>
  .ret (decF rChrg (List.length x0.2.1) fun i=>encF rChrg x0.2.1 ((0:Nat)+i))):=fun a=>by kernel_rfl
def lInts:=DecL.cons (dRows rInt) (.last dInt 0)
def oRre:DecB (List Rul × (List Int × Int) × List Int × Unit):=.flat 25 lTar (.flat 47 lInts (.rows 3 rInt .nil))
def S_rre:=DecS.ghost 6 3 1 [.int .i64] (DecS.mk0 (.skip (.cons (dRows rLot) (.unit (dLp 0 0 0 0) (.skip (.unit (dLp 1 0 0 0) (.skip (.cons (dO 2) (.last (dInt) 43)))))))) oRre)
def X_rre:=DecX.one (.exit 0) [4,6] (DecS.mk0 (.skips 4 (.unit (dLp 0 0 0 0) (.skip (.last (dO 1) 44)))) (.flat 47 lInts (.rows 3 rInt .nil)))
noncomputable def K.st_rre:=loopT1 P BRAj6 30 26 73 [7,6,1,2,4] S_rre X_rre
theorem sl_rre:∀ s,(K.st_rre) s=T.run (
 let q3:=List.length s.2.1;
 let q4:=(0:Nat);
 let q1:=decN nRul q3 fun i=>encN nRul s.2.1 (q4+i);
 let q2:=(decF rInt (List.length s.2.2.1.1) fun i=>encF rInt s.2.2.1.1 (q4+i),s.2.2.1.2);
 let q5:=List.length s.1.1;
 let q10:=s.1.2.2;
 let q6:=textOf (encN nRul s.2.1 (q4+Int.toNat q10) (nat_lit 1));
 let q7:=s.2.2.2.1;
 let q8:=eraseR q1 q10;
 let q9:=decF rLot q5 fun i=>encF rLot s.1.1 (q4+i);
  .br (decide (q10<(↑(clampL q3):Int))) (
    .chk (decide ((0:Int)≤q10∧q10<(↑q3:Int))) <|
    .chk (decide (woOk (decN nRul q3 fun i=>encN nRul s.2.1 (q4+i),q10))) <|
    .chk (decide (bilOk (decN nRul (List.length q8) fun i=>encN nRul q8 (q4+i),decF rLot q5 fun i=>encF rLot s.1.1 (q4+i)))) <|
    .chk (decide (bilOk (decN nRul q3 fun i=>encN nRul s.2.1 (q4+i),decF rLot q5 fun i=>encF rLot s.1.1 (q4+i)))) <|
    .br (allL (decN nRul (List.length q8) fun i=>encN nRul q8 (q4+i)) q6 q9 != allL q1 q6 q9) (
      .chk (decide ((List.length q7+(1:Nat)) * (8:Nat)≤(140737488355328:Nat)∧List.length q7+(1:Nat)≤nat_lit 9223372036854775807)) <|
      .ret (Sum.inl ((decF rLot q5 fun i=>encF rLot s.1.1 (q4+i),List.length q7+(1:Nat),IntKind.wrap IntKind.i64 (q10+(1:Int))),decN nRul q3 fun i=>encN nRul s.2.1 (q4+i),q2,decF rInt (List.length q7+(1:Nat)) (appG (List.length q7) (encF rInt q7) fun i k=>Option.getD [AV.int IntKind.i64 q10][(q4+i) * (1:Nat)+k]? AV.top),PUnit.unit))) (
      .ret (Sum.inl ((decF rLot q5 fun i=>encF rLot s.1.1 (q4+i),s.1.2.1,IntKind.wrap IntKind.i64 (q10+(1:Int))),decN nRul q3 fun i=>encN nRul s.2.1 (q4+i),q2,decF rInt (List.length q7) (encF rInt q7),PUnit.unit)))) (
    .ret (Sum.inr (s.1.2.1,q2,decF rInt (List.length q7) (encF rInt q7),PUnit.unit)))):=fun s=>by kernel_rfl
noncomputable def K.L_rre:=lim K.st_rre
noncomputable def BRAj7:Tab:=BRAj6.addNode 26 73 (nodeE [7,6,1,2,4] S_rre X_rre (fun s=>.obs (K.L_rre s) .ret))
theorem tRAj7:TabOk P BRAj7:=TabOk.addLoop (d:=30) okP tRAj6 (by kernel_rfl) (by kernel_rfl) (fun s r h=>obs_ret h)
def R_rre:=dAgg lInts
theorem fn_rre:∀ a,(callT1 P BRAj7 30 26 D_bil R_rre) a=T.run (
 .br (checkT (decN nRul (List.length a.1) fun i=>encN nRul a.1 ((0:Nat)+i)) != (0:Int)) (
  .ret (([],checkT (decN nRul (List.length a.1) fun i=>encN nRul a.1 ((0:Nat)+i))))) (
  .br (lotsL (decF rLot (List.length a.2) fun i=>encF rLot a.2 ((0:Nat)+i)) != (0:Int)) (
   .ret (([],lotsL (decF rLot (List.length a.2) fun i=>encF rLot a.2 ((0:Nat)+i))))) (
   .obs (L_rre ((decF rLot (List.length a.2) fun i=>encF rLot a.2 ((0:Nat)+i),(0:Nat),(0:Int)),decN nRul (List.length a.1) fun i=>encN nRul a.1 ((0:Nat)+i),([],(0:Int)),decF rInt (0:Nat) fun _x _x_1=>AV.top,PUnit.unit)) fun x0=>
    .ret ((decF rInt (List.length x0.2.2.1) fun i=>encF rInt x0.2.2.1 ((0:Nat)+i),(0:Int)))))):=fun a=>by kernel_rfl
def lStgs:=DecL.cons (dRows rStg) (.last dInt 0)
def R_rrn:=dAgg lStgs
theorem fn_rrn:∀ a,(callT1 P BRAj7 30 44 D_stg R_rrn) a=T.run (
 .br (r_over (decN nRul (List.length a.1) fun i=>encN nRul a.1 ((0:Nat)+i),a.2) != (0:Int)) (
  .ret (([],r_over (decN nRul (List.length a.1) fun i=>encN nRul a.1 ((0:Nat)+i),a.2)))) (
  .chk (decide (rsgOk (decN nRul (List.length a.1) fun i=>encN nRul a.1 ((0:Nat)+i),a.2))) <|
  .ret ((decF rStg (List.length (stgs (decN nRul (List.length a.1) fun i=>encN nRul a.1 ((0:Nat)+i)) a.2.1 a.2.2.1 a.2.2.2)) fun i=>encF rStg (stgs (decN nRul (List.length a.1) fun i=>encN nRul a.1 ((0:Nat)+i)) a.2.1 a.2.2.1 a.2.2.2) ((0:Nat)+i),(0:Int))))):=fun a=>by kernel_rfl
end Go.Proofs.YtkpligkggnjcoaaGreatDoor
/-! RAk -/
namespace Go.Proofs.YtkpligkggnjcoaaGreatDoor
open Ev K
set_option maxRecDepth 100000
namespace K
theorem rover_eq (l:List Rul) (due grade:Str) (a:Spn):r_over (l,due,grade,a)=errS l due grade a:=by
 unfold r_over errS
 simp only [decN_enc0',rspan_eq]
 by_cases h:askL l due grade=0
 ·rw [if_neg (show ¬ (askL l due grade != 0)=true by rw [h];decide),if_neg (show ¬ (askL l due grade≠0) from fun k=>k h)]
 ·rw [if_pos (show (askL l due grade != 0)=true from bne_iff_ne.2 h),if_pos h]
theorem rrn_eq (a:List Rul × Str × Str × Spn):callT1 P BRAj7 30 44 D_stg R_rrn a=some (stagesV a.1 a.2.1 a.2.2.1 a.2.2.2):=by
 obtain ⟨l,d,g,s⟩:=a
 rw [fn_rrn]
 simp only [decN_enc0',decF_enc0,rover_eq]
 unfold stagesV
 by_cases h:errS l d g s=0
 ·rw [if_neg (fun k=>k h)]
  exact br_f (by rw [h];rfl) (chk_step (decide_eq_true ⟨(ask_ok (errS_ok h).1).1,(errS_ok h).2⟩) rfl)
 ·rw [if_pos h]
  exact br_t (bne_iff_ne.2 h) rfl
theorem L_rbi_eq (l:List Rul) (c:List Lot) (hl:checkT l=0) (hc:lotsL c=0) (D:List Str) (hD:D.length≤1000) :
  L_rbi ((c,D,0,0),l,[],())=some ((D.map (chg l c)).length,D.map (chg l c),()):=by
 have e:D.map (chg l c)=(D.take D.length).map (chg l c):=by rw [List.take_length]
 rw [e]
 refine lim_all (fun i:Nat=>((c,D,((D.take i).map (chg l c)).length,(i:Int)),l,(D.take i).map (chg l c),())) D.length (fun i hi=>?_) ?_
 ·have hy:=List.getElem?_eq_getElem hi
  rw [sl_rbi]
  have ht:D.take (i+1)=D.take i ++ [D[i]]:=by rw [List.take_add_one,hy];rfl
  have hlen:((D.take i).map (chg l c)).length=i:=by rw [List.length_map,List.length_take];omega
  rw [ht]
  generalize D[i]=d at hy
  simp only [Int.toNat_natCast,Nat.zero_add,str_at hy,ns0,decF_encF,decN_encN,cl (show D.length≤1000000 by omega),wi i (by omega),pushC]
  refine br_t (decide_eq_true (by omega)) (chk_step (decide_eq_true (by omega)) (chk_step (decide_eq_true (by omega)) (chk_step (decide_eq_true ⟨hl,hc⟩) (chk_step (decide_eq_true (by omega)) ?_))))
  rw [List.map_append,List.length_append];rfl
 ·rw [sl_rbi]
  simp only [decF_encF,cl (show D.length≤1000000 by omega)]
  exact br_f (decide_eq_false (by omega)) rfl
theorem rbi_ok (a:List Rul × List Lot) (r:List Chrg) (h:(T.chk (decide (bilOk a)) (.ret (billL a.1 a.2))).run=some r):callT1 P BRAj6 30 84 D_bil (dRows rChrg) a=some r:=by
 obtain ⟨g,e⟩:=chk_ret h
 subst e
 obtain ⟨g1,g2⟩:=of_decide_eq_true g
 have hl:=(checkT_ok g1).1
 have hd:=dues_len a.1
 rw [fn_rbi]
 simp only [decF_enc0,decN_enc0',show decF rChrg 0 (fun x x_1=>AV.top)=[] from rfl]
 refine chk_step (decide_eq_true (by omega)) (obs_step (L_rbi_eq a.1 a.2 g1 g2 (duesT a.1) (by omega)) ?_)
 simp only;rfl
theorem L_rre_eq (l:List Rul) (c:List Lot) (z:List Int × Int) (hl:checkT l=0) (hc:lotsL c=0) :
  L_rre ((c,0,0),l,z,[],())=some ((restsK l c l.length).length,z,restsK l c l.length,()):=by
 obtain ⟨h1,_⟩:=checkT_ok hl
 refine lim_all (fun i:Nat=>((c,(restsK l c i).length,(i:Int)),l,z,restsK l c i,())) l.length (fun i hi=>?_) ?_
 ·have hlen:=restsK_len l c i
  have hy:=List.getElem?_eq_getElem hi
  have e:eraseR l (i:Int)=l.eraseIdx i:=rfl
  have e2:l.getD i default=l[i]:=by rw [List.getD_eq_getElem?_getD,hy];rfl
  rw [sl_rre,restsK_succ]
  unfold restP
  rw [e2]
  generalize l[i]=r at hy
  simp only [Int.toNat_natCast,Nat.zero_add,decF_encF,decN_encN,e,rul_at hy,nr1,wi i (by omega),cl (show l.length≤1000000 by omega),pushN]
  refine br_t (decide_eq_true (by omega)) (chk_step (decide_eq_true (by omega)) (chk_step (decide_eq_true ⟨h1,by dsimp only;omega,by dsimp only;omega⟩) (chk_step (decide_eq_true ⟨check_erase hl i,hc⟩) (chk_step (decide_eq_true ⟨hl,hc⟩) ?_))))
  by_cases hp:(allL (l.eraseIdx i) r.due c != allL l r.due c)=true
  ·rw [if_pos hp]
   refine br_t hp (chk_step (decide_eq_true (by omega)) ?_)
   rw [List.length_append,List.length_singleton];rfl
  ·rw [if_neg hp]
   exact br_f (by simpa using hp) rfl
 ·rw [sl_rre]
  simp only [Nat.zero_add,decF_encF,cl (show l.length≤1000000 by omega)]
  exact br_f (decide_eq_false (by omega)) rfl
theorem rre_eq (a:List Rul × List Lot):callT1 P BRAj7 30 26 D_bil R_rre a=some (restsV a.1 a.2):=by
 rw [fn_rre]
 simp only [decF_enc0,decN_enc0',show decF rInt 0 (fun x x_1=>AV.top)=[] from rfl]
 unfold restsV errB
 by_cases h1:checkT a.1=0
 ·rw [if_neg (show ¬ (checkT a.1≠0) from fun h=>h h1)]
  refine br_f (by rw [h1];rfl) ?_
  by_cases h2:lotsL a.2=0
  ·rw [if_neg (fun h=>h h2)]
   refine br_f (by rw [h2];rfl) (obs_step (L_rre_eq a.1 a.2 _ h1 h2) ?_)
   simp only;rfl
  ·rw [if_pos h2]
   exact br_t (bne_iff_ne.2 h2) rfl
 ·rw [if_pos h1,if_pos h1]
  exact br_t (bne_iff_ne.2 h1) rfl
end K
noncomputable def BRAk1:Tab:=BRAj7.addCall 84 (callE D_bil (dRows rChrg) (fun a=>.chk (decide (K.bilOk a)) (.ret (K.billL a.1 a.2))))
theorem tRAk1:TabOk P BRAk1:=TabOk.addPC tRAj7 (fun a r h=>call_of okP tRAj6 (K.rbi_ok a r h))
noncomputable def BRAk2:Tab:=BRAk1.addCall 26 (callE D_bil R_rre (fun a=>.ret (K.restsV a.1 a.2)))
theorem tRAk2:TabOk P BRAk2:=TabOk.addPC tRAk1 (fun a _r h=>call_of okP tRAj7 ((K.rre_eq a).trans h))
noncomputable def BRAk3:Tab:=BRAk2.addCall 44 (callE D_stg R_rrn (fun a=>.ret (K.stagesV a.1 a.2.1 a.2.2.1 a.2.2.2)))
theorem tRAk3:TabOk P BRAk3:=TabOk.addPC tRAk2 (fun a _r h=>call_of okP tRAj7 ((K.rrn_eq a).trans h))
def R_rbl:=dAgg (DecL.cons (dRows rChrg) (.last dInt 0))
theorem fn_rbl:∀ a,(callT1 P BRAk3 30 24 D_bil R_rbl) a=T.run (
 let q1:=decN nRul (List.length a.1) fun i=>encN nRul a.1 ((0:Nat)+i);
 let q2:=decF rLot (List.length a.2) fun i=>encF rLot a.2 ((0:Nat)+i);
  .br (checkT q1 != (0:Int)) (
    .ret (([],checkT q1))) (
    .br (lotsL q2 != (0:Int)) (
      .ret (([],lotsL q2))) (
      .chk (decide (bilOk (decN nRul (List.length a.1) fun i=>encN nRul a.1 ((0:Nat)+i),decF rLot (List.length a.2) fun i=>encF rLot a.2 ((0:Nat)+i)))) <|
      .ret ((decF rChrg (List.length (billL q1 q2)) fun i=>encF rChrg (billL q1 q2) ((0:Nat)+i),(0:Int)))))):=fun a=>by kernel_rfl
def lExt:DecL (Stg × Stg × Int):=(DecL.cons dInt (.cons dInt (.cons dInt (.cons dInt (.cons dInt (.cons dInt (.last dInt 0))))))).iso (fun p=>(⟨p.1,p.2.1,p.2.2.1⟩,⟨p.2.2.2.1,p.2.2.2.2.1,p.2.2.2.2.2.1⟩,p.2.2.2.2.2.2)) (fun s=>(s.1.lo,s.1.hi,s.1.pence,s.2.1.lo,s.2.1.hi,s.2.1.pence,s.2.2)) (fun _=>rfl)
def oRen:DecB ((Stg × Stg × Int) × (List Stg × Int) × (Stg × Stg × Int) × Unit):=.flat 99 lExt (.flat 92 lStgs (.flat 99 lExt .nil))
def S_ren:=DecS.mk0 (.skips 8 (.unit (dLp 0 0 0 0) (.unit (dLp 1 0 0 0) (.unit (dLp 2 0 0 0) (.last (dInt) 60))))) oRen
def X_ren:=DecX.one (.exit 0) [8,10] (DecS.mk0 (.skips 8 (.unit (dLp 0 0 0 0) (.skip (.unit (dLp 1 0 0 0) (.tops 61))))) (.flat 99 lExt (.flat 99 lExt .nil)))
noncomputable def K.st_ren:=loopT1 P BRAk3 30 46 49 [11,10,9,8] S_ren X_ren
theorem sl_ren:∀ s,(K.st_ren) s=T.run (
 let q6:=(0:Nat)+Int.toNat s.1;
 let q1:=encF rStg s.2.2.1.1 q6 (nat_lit 2);
 let q9:=List.length s.2.2.1.1;
 let q2:=decide ((0:Int)≤s.1∧s.1<(↑q9:Int));
 let q3:=(decF rStg q9 fun i=>encF rStg s.2.2.1.1 ((0:Nat)+i),s.2.2.1.2);
 let q4:=numOf (encF rStg s.2.2.1.1 q6 (nat_lit 1));
 let q5:=numOf (encF rStg s.2.2.1.1 q6 (0:Nat));
 let q7:=decide (numOf q1 > Stg.pence s.2.2.2.1.2.1);
 let q8:=s.1+(1:Int);
  .br (decide (s.1<(↑(clampL q9):Int))) (
    .chk q2 <|
    .br (decide (numOf q1<Stg.pence s.2.2.2.1.1)) (
      .chk q2 <|
      .chk q2 <|
      .br q7 (
        .chk q2 <|
        .ret (Sum.inl (IntKind.wrap IntKind.i64 q8,s.2.1,q3,(Stg.mk q5 q4 (numOf q1),Stg.mk q5 q4 (numOf q1),s.2.2.2.1.2.2),PUnit.unit))) (
        .ret (Sum.inl (IntKind.wrap IntKind.i64 q8,s.2.1,q3,(Stg.mk q5 q4 (numOf q1),s.2.2.2.1.2),PUnit.unit)))) (
      .chk q2 <|
      .br q7 (
        .chk q2 <|
        .ret (Sum.inl (IntKind.wrap IntKind.i64 q8,s.2.1,q3,(s.2.2.2.1.1,Stg.mk q5 q4 (numOf q1),s.2.2.2.1.2.2),PUnit.unit))) (
        .ret (Sum.inl (IntKind.wrap IntKind.i64 q8,s.2.1,q3,s.2.2.2.1,PUnit.unit))))) (
    .ret (Sum.inr (PUnit.unit,s.2.1,s.2.2.2.1,PUnit.unit)))):=fun s=>by kernel_rfl
noncomputable def K.L_ren:=lim K.st_ren
noncomputable def BRAk4:Tab:=BRAk3.addNode 46 49 (nodeE [11,10,9,8] S_ren X_ren (fun s=>.obs (K.L_ren s) .ret))
theorem tRAk4:TabOk P BRAk4:=TabOk.addLoop (d:=30) okP tRAk3 (by kernel_rfl) (by kernel_rfl) (fun s r h=>obs_ret h)
def R_ren:=dAgg lExt
theorem fn_ren:∀ a,(callT1 P BRAk4 30 46 D_stg R_ren) a=T.run (
 let q1:=stagesV (decN nRul (List.length a.1) fun i=>encN nRul a.1 ((0:Nat)+i)) a.2.1 a.2.2.1 a.2.2.2;
 let q2:=(0:Int);
 let q3:=q1.1;
 let q4:=decide (q2≤q2∧q2<(↑(List.length q3):Int));
 let q5:=numOf (encF rStg q3 (nat_lit 0) (nat_lit 1));
 let q6:=numOf (encF rStg q3 (nat_lit 0) (nat_lit 2));
 let q7:=numOf (encF rStg q3 (nat_lit 0) (0:Nat));
  .br (q1.2 != q2) (
    .ret ((Stg.mk q2 q2 q2,Stg.mk q2 q2 q2,q1.2))) (
    .chk q4 <|
    .chk q4 <|
    .obs (L_ren ((1:Int),(Stg.mk q2 q2 q2,Stg.mk q2 q2 q2,q2),(decF rStg (List.length q3) fun i=>encF rStg q3 ((0:Nat)+i),q1.2),(Stg.mk q7 q5 q6,Stg.mk q7 q5 q6,q2),PUnit.unit)) fun x0=>
      .ret x0.2.2.1)):=fun a=>by kernel_rfl
def lFal:=DecL.cons dInt (.cons dB (.last dInt 0))
def S_rfl:=DecS.mk0 (.skips 8 (.unit (dLp 0 0 0 0) (.unit (dLp 1 0 0 0) (.last (dInt) 41)))) (.flat 104 lFal (.flat 92 lStgs .nil))
def X_rfl:=DecX.or (DecX.one (.exit 0) [8] (DecS.mk0 (.skips 8 (.unit (dLp 0 0 0 0) (.tops 43))) (.flat 104 lFal .nil))) (DecX.one .ret [8] (DecS.mk0 (.skips 8 (.unit (dLp 0 0 0 0) (.tops 43))) (.flat 104 lFal .nil)))
noncomputable def K.st_rfl:=loopT1 P BRAk4 30 48 41 [8,10,9] S_rfl X_rfl
theorem sl_rfl:∀ s,(K.st_rfl) s=T.run (
 let q1:=List.length s.2.2.1.1;
 let q2:=decide ((0:Int)≤s.1∧s.1<(↑q1:Int));
 let q3:=s.1 - (1:Int);
  .br (decide (s.1<(↑(clampL q1):Int))) (
    .chk q2 <|
    .chk (decide ((0:Int)≤IntKind.wrap IntKind.i64 q3∧IntKind.wrap IntKind.i64 q3<(↑q1:Int))) <|
    .br (decide (numOf (encF rStg s.2.2.1.1 ((0:Nat)+Int.toNat s.1) (nat_lit 2))<numOf (encF rStg s.2.2.1.1 ((0:Nat)+Int.toNat (IntKind.wrap IntKind.i64 q3)) (nat_lit 2)))) (
      .chk q2 <|
      .ret (Sum.inr (Sum.inr (PUnit.unit,(numOf (encF rStg s.2.2.1.1 ((0:Nat)+Int.toNat s.1) (nat_lit 0)),true,(0:Int)),PUnit.unit)))) (
      .ret (Sum.inl (IntKind.wrap IntKind.i64 (s.1+(1:Int)),s.2.1,(decF rStg q1 fun i=>encF rStg s.2.2.1.1 ((0:Nat)+i),s.2.2.1.2),PUnit.unit)))) (
    .ret (Sum.inr (Sum.inl (PUnit.unit,s.2.1,PUnit.unit))))):=fun s=>by kernel_rfl
noncomputable def K.L_rfl:=lim K.st_rfl
noncomputable def BRAk5:Tab:=BRAk4.addNode 48 41 (nodeE [8,10,9] S_rfl X_rfl (fun s=>.obs (K.L_rfl s) .ret))
theorem tRAk5:TabOk P BRAk5:=TabOk.addLoop (d:=30) okP tRAk4 (by kernel_rfl) (by kernel_rfl) (fun s r h=>obs_ret h)
def R_rfl:=dAgg lFal
theorem fn_rfl:∀ a,(callT1 P BRAk5 30 48 D_stg R_rfl) a=T.run (
 .br (Prod.snd (stagesV (decN nRul (List.length a.1) fun i=>encN nRul a.1 ((0:Nat)+i)) a.2.1 a.2.2.1 a.2.2.2) != (0:Int)) (
  .ret (((0:Int),false,Prod.snd (stagesV (decN nRul (List.length a.1) fun i=>encN nRul a.1 ((0:Nat)+i)) a.2.1 a.2.2.1 a.2.2.2)))) (
  .obs (L_rfl ((1:Int),((0:Int),false,(0:Int)),(decF rStg (List.length (Prod.fst (stagesV (decN nRul (List.length a.1) fun i=>encN nRul a.1 ((0:Nat)+i)) a.2.1 a.2.2.1 a.2.2.2))) fun i=>encF rStg (Prod.fst (stagesV (decN nRul (List.length a.1) fun i=>encN nRul a.1 ((0:Nat)+i)) a.2.1 a.2.2.1 a.2.2.2)) ((0:Nat)+i),Prod.snd (stagesV (decN nRul (List.length a.1) fun i=>encN nRul a.1 ((0:Nat)+i)) a.2.1 a.2.2.1 a.2.2.2)),PUnit.unit)) fun x0=>
   .sum (x0) (fun _=>
    .ret (((0:Int),false,(0:Int)))) (fun x1=>
    .ret x1.2.1))):=fun a=>by kernel_rfl
def S_rfr:=DecS.mk0 (.skips 4 (.cons (dInt) (.skips 7 (.unit (dLp 0 0 0 0) (.last (dInt) 32))))) (.flat 92 lStgs .nil)
def X_rfr:=DecX.or (DecX.one (.exit 0) [] (DecS.mk0 (.tops 46) .nil)) (DecX.one .ret [10,11] (DecS.mk0 (.skips 10 (.cons (dInt) (.last (dInt) 34))) .nil))
noncomputable def K.st_rfr:=loopT1 P BRAk5 30 50 41 [13,12,4] S_rfr X_rfr
theorem sl_rfr:∀ s,(K.st_rfr) s=T.run (
 .br (decide (s.1.2<(↑(clampL (List.length s.2.1.1)):Int))) (
  .chk (decide ((0:Int)≤s.1.2∧s.1.2<(↑(List.length s.2.1.1):Int))) <|
  .br (decide (numOf (encF rStg s.2.1.1 ((0:Nat)+Int.toNat s.1.2) (nat_lit 2)) ≥ s.1.1)) (
   .chk (decide ((0:Int)≤s.1.2∧s.1.2<(↑(List.length s.2.1.1):Int))) <|
   .ret (Sum.inr (Sum.inr ((numOf (encF rStg s.2.1.1 ((0:Nat)+Int.toNat s.1.2) (nat_lit 0)),(0:Int)),PUnit.unit)))) (
   .ret (Sum.inl ((s.1.1,IntKind.wrap IntKind.i64 (s.1.2+(1:Int))),(decF rStg (List.length s.2.1.1) fun i=>encF rStg s.2.1.1 ((0:Nat)+i),s.2.1.2),PUnit.unit)))) (
  .ret (Sum.inr (Sum.inl (PUnit.unit,PUnit.unit))))):=fun s=>by kernel_rfl
noncomputable def K.L_rfr:=lim K.st_rfr
noncomputable def BRAk6:Tab:=BRAk5.addNode 50 41 (nodeE [13,12,4] S_rfr X_rfr (fun s=>.obs (K.L_rfr s) .ret))
theorem tRAk6:TabOk P BRAk6:=TabOk.addLoop (d:=30) okP tRAk5 (by kernel_rfl) (by kernel_rfl) (fun s r h=>obs_ret h)
theorem fn_rfr:∀ a,(callT1 P BRAk6 30 50 D_frm R_ii) a=T.run (
 .br (Prod.snd (stagesV (decN nRul (List.length a.1) fun i=>encN nRul a.1 ((0:Nat)+i)) a.2.1 a.2.2.1 a.2.2.2.1) != (0:Int)) (
  .ret (((0:Int),Prod.snd (stagesV (decN nRul (List.length a.1) fun i=>encN nRul a.1 ((0:Nat)+i)) a.2.1 a.2.2.1 a.2.2.2.1)))) (
  .obs (L_rfr ((a.2.2.2.2,(0:Int)),(decF rStg (List.length (Prod.fst (stagesV (decN nRul (List.length a.1) fun i=>encN nRul a.1 ((0:Nat)+i)) a.2.1 a.2.2.1 a.2.2.2.1))) fun i=>encF rStg (Prod.fst (stagesV (decN nRul (List.length a.1) fun i=>encN nRul a.1 ((0:Nat)+i)) a.2.1 a.2.2.1 a.2.2.2.1)) ((0:Nat)+i),Prod.snd (stagesV (decN nRul (List.length a.1) fun i=>encN nRul a.1 ((0:Nat)+i)) a.2.1 a.2.2.1 a.2.2.2.1)),PUnit.unit)) fun x0=>
   .sum (x0) (fun _=>
    .ret (((0:Int),(5:Int)))) (fun x1=>
    .ret x1.1))):=fun a=>by kernel_rfl
end Go.Proofs.YtkpligkggnjcoaaGreatDoor
/-! TH1 -/
namespace Go.Proofs.YtkpligkggnjcoaaGreatDoor
open Ev K
set_option maxRecDepth 100000
def D_pes:=DecL.cons dTar (.cons dS (.cons dS (.last dSpn 0)))
def S_en:=DecS.mk0 (.skips 8 (.unit (dLp 0 0 0 0) (.unit (dLp 1 0 0 0) (.cons (dInt) (.skips 11 (.cons (dRows rStg) (.cons (dInt) (.last (dInt) 28)))))))) (.flat 95 lStg (.flat 95 lStg .nil))
def X_en:=DecX.one (.exit 0) [8,9,10] (DecS.mk0 (.skips 8 (.unit (dLp 0 0 0 0) (.unit (dLp 1 0 0 0) (.last (dInt) 42)))) (.flat 95 lStg (.flat 95 lStg .nil)))
noncomputable def K.st_en:=loopT1 P BTWc1 30 45 25 [24,9,8,22,10,23] S_en X_en
theorem sl_en:∀ s,(K.st_en) s=T.run (
 let q11:=s.1.2.2.2;
 let q2:=(s.1.1,decF rStg (List.length s.1.2.1) fun i=>encF rStg s.1.2.1 ((0:Nat)+i),s.1.2.2.1,IntKind.wrap IntKind.i64 (q11+(1:Int)));
 let q3:=(0:Nat)+Int.toNat q11;
 let q6:=numOf (encF rStg s.1.2.1 q3 (0:Nat));
 let q5:=numOf (encF rStg s.1.2.1 q3 (nat_lit 1));
 let q4:=encF rStg s.1.2.1 q3 (nat_lit 2);
 let q1:=Sum.inl (q2,Stg.mk q6 q5 (numOf q4),Stg.mk q6 q5 (numOf q4),PUnit.unit);
 let q7:=decide (numOf q4 > Stg.pence s.2.2.1);
 let q8:=q11 == (0:Int);
 let q9:=Sum.inl (q2,Stg.mk q6 q5 (numOf q4),s.2.2.1,PUnit.unit);
 let q10:=Sum.inl (q2,s.2.1,Stg.mk q6 q5 (numOf q4),PUnit.unit);
  .br (decide (q11<s.1.2.2.1)) (
    .chk (decide ((0:Int)≤q11∧q11<(↑(List.length s.1.2.1):Int))) <|
    .br q8 (
      .br q8 (
        .ret q1) (
        .br q7 (
          .ret q1) (
          .ret q9))) (
      .br (decide (numOf q4<Stg.pence s.2.1)) (
        .br q8 (
          .ret q1) (
          .br q7 (
            .ret q1) (
            .ret q9))) (
        .br q8 (
          .ret q10) (
          .br q7 (
            .ret q10) (
            .ret (Sum.inl (q2,s.2.1,s.2.2.1,PUnit.unit))))))) (
    .ret (Sum.inr (s.1.1,s.2.1,s.2.2.1,PUnit.unit)))):=fun s=>by kernel_rfl
noncomputable def K.L_en:=lim K.st_en
noncomputable def BTH11:Tab:=BTWc1.addNode 45 25 (nodeE [24,9,8,22,10,23] S_en X_en (fun s=>.obs (K.L_en s) .ret))
theorem tTH11:TabOk P BTH11:=TabOk.addLoop (d:=30) okP tTWc1 (by kernel_rfl) (by kernel_rfl) (fun s r h=>obs_ret h)
def R_en:=dTup (.cons dStg (.cons dStg (.last dInt 0)))
theorem fn_en:∀ a,(callT1 P BTH11 30 45 D_pes R_en) a=T.run (
 .obs (L_en ((Prod.snd (stagesV (decN nRul (List.length a.1) fun i=>encN nRul a.1 ((0:Nat)+i)) a.2.1 a.2.2.1 a.2.2.2),decF rStg (List.length (Prod.fst (stagesV (decN nRul (List.length a.1) fun i=>encN nRul a.1 ((0:Nat)+i)) a.2.1 a.2.2.1 a.2.2.2))) fun i=>encF rStg (Prod.fst (stagesV (decN nRul (List.length a.1) fun i=>encN nRul a.1 ((0:Nat)+i)) a.2.1 a.2.2.1 a.2.2.2)) ((0:Nat)+i),(↑(clampL (List.length (Prod.fst (stagesV (decN nRul (List.length a.1) fun i=>encN nRul a.1 ((0:Nat)+i)) a.2.1 a.2.2.1 a.2.2.2)))):Int),(0:Int)),Stg.mk (0:Int) (0:Int) (0:Int),Stg.mk (0:Int) (0:Int) (0:Int),PUnit.unit)) fun x0=>
  .ret ((x0.2.1,x0.2.2.1,x0.1))):=fun a=>by kernel_rfl
def S_fl:=DecS.mk0 (.skips 11 (.cons (dRows rStg) (.cons (dInt) (.skips 10 (.cons (dRows rStg) (.cons (dInt) (.last (dInt) 22))))))) .nil
def X_fl:=DecX.or (DecX.one (.exit 0) [12] (DecS.mk0 (.skips 12 (.last (dInt) 35)) .nil)) (DecX.one .ret [8,9,10] (DecS.mk0 (.skips 8 (.cons (dInt) (.cons (dB) (.last (dInt) 37)))) .nil))
noncomputable def K.st_fl:=loopT1 P BTH11 30 47 25 [25,11,23,12,24] S_fl X_fl
theorem sl_fl:∀ s,(K.st_fl) s=T.run (
 let q3:=(0:Nat);
 let q2:=s.1.2.2.2.2;
 let q1:=Sum.inl ((decF rStg (List.length s.1.1) fun i=>encF rStg s.1.1 (q3+i),s.1.2.1,decF rStg (List.length s.1.2.2.1) fun i=>encF rStg s.1.2.2.1 (q3+i),s.1.2.2.2.1,IntKind.wrap IntKind.i64 (q2+(1:Int))),PUnit.unit);
  .br (decide (q2<s.1.2.2.2.1)) (
    .chk (decide ((0:Int)≤q2∧q2<(↑(List.length s.1.2.2.1):Int))) <|
    .br (decide (q2 > (0:Int))) (
      .chk (decide ((0:Int)≤IntKind.wrap IntKind.i64 (q2 - (1:Int))∧IntKind.wrap IntKind.i64 (q2 - (1:Int))<(↑(List.length s.1.1):Int))) <|
      .br (decide (numOf (encF rStg s.1.2.2.1 (q3+Int.toNat q2) (nat_lit 2))<numOf (encF rStg s.1.1 (q3+Int.toNat (IntKind.wrap IntKind.i64 (q2 - (1:Int)))) (nat_lit 2)))) (
        .ret (Sum.inr (Sum.inr ((numOf (encF rStg s.1.2.2.1 (q3+Int.toNat q2) q3),true,(0:Int)),PUnit.unit)))) (
        .ret q1)) (
      .ret q1)) (
    .ret (Sum.inr (Sum.inl (s.1.2.1,PUnit.unit))))):=fun s=>by kernel_rfl
noncomputable def K.L_fl:=lim K.st_fl
noncomputable def BTH12:Tab:=BTH11.addNode 47 25 (nodeE [25,11,23,12,24] S_fl X_fl (fun s=>.obs (K.L_fl s) .ret))
theorem tTH12:TabOk P BTH12:=TabOk.addLoop (d:=30) okP tTH11 (by kernel_rfl) (by kernel_rfl) (fun s r h=>obs_ret h)
def R_fl:=dTup (.cons dInt (.cons dB (.last dInt 0)))
theorem fn_fl:∀ a,(callT1 P BTH12 30 47 D_pes R_fl) a=T.run (
 let q1:=stagesV (decN nRul (List.length a.1) fun i=>encN nRul a.1 ((0:Nat)+i)) a.2.1 a.2.2.1 a.2.2.2;
 let q2:=List.length q1.1;
  .obs (L_fl ((decF rStg q2 fun i=>encF rStg q1.1 ((0:Nat)+i),q1.2,decF rStg q2 fun i=>encF rStg q1.1 ((0:Nat)+i),(↑(clampL q2):Int),(0:Int)),PUnit.unit)) fun x0=>
    .sum (x0) (fun x1=>
      .ret (((0:Int),false,x1.1))) (fun x1=>
      .ret x1.1)):=fun a=>by kernel_rfl
theorem fn_lw_span:∀ a,(callT1 P BTH12 30 42 (.last dSpn 0) dB) a=T.run (
 .br (decide (Spn.hi a<Spn.lo a)) (
  .ret (true)) (
  .br (decide (Spn.lo a<(0:Int))) (
   .ret (true)) (
   .br (decide (Spn.hi a > (65536:Int))) (
    .ret (true)) (
    .br (decide (IntKind.wrap IntKind.i64 (Spn.hi a - Spn.lo a)<(300:Int))) (
     .ret (true)) (
     .ret (decide (IntKind.wrap IntKind.i64 (Spn.hi a - Spn.lo a) ≥ (5000:Int)))))))):=fun a=>by kernel_rfl
noncomputable def K.lw_span (a:Spn):Bool:=(if (decide (Spn.hi a<Spn.lo a))=true then true else (if (decide (Spn.lo a<(0:Int)))=true then true else (if (decide (Spn.hi a > (65536:Int)))=true then true else (if (decide (IntKind.wrap IntKind.i64 (Spn.hi a - Spn.lo a)<(300:Int)))=true then true else decide (IntKind.wrap IntKind.i64 (Spn.hi a - Spn.lo a) ≥ (5000:Int))))))
theorem eq_lw_span (a:Spn):(callT1 P BTH12 30 42 (.last dSpn 0) dB) a=some (K.lw_span a):=(fn_lw_span a).trans (T.br_some rfl (T.br_some rfl (T.br_some rfl (T.br_some rfl rfl))))
noncomputable def BTH13:Tab:=BTH12.addCall 42 (callE (.last dSpn 0) dB (fun a=>.ret (K.lw_span a)))
theorem tTH13:TabOk P BTH13:=TabOk.addFn (d:=30) okP tTH12 (fun a r h=>by rw [eq_lw_span];exact congrArg some (ret_some h))
theorem fn_lw_brief:∀ a,(callT1 P BTH13 30 29 (.last dSpn 0) dB) a=T.run (
 .br (decide (Spn.hi a<Spn.lo a)) (
  .ret (true)) (
  .br (decide (Spn.lo a<(0:Int))) (
   .ret (true)) (
   .br (decide (Spn.hi a > (65536:Int))) (
    .ret (true)) (
    .br (decide (IntKind.wrap IntKind.i64 (Spn.hi a - Spn.lo a)<(60:Int))) (
     .ret (true)) (
     .ret (decide (IntKind.wrap IntKind.i64 (Spn.hi a - Spn.lo a) ≥ (5000:Int)))))))):=fun a=>by kernel_rfl
noncomputable def K.lw_brief (a:Spn):Bool:=(if (decide (Spn.hi a<Spn.lo a))=true then true else (if (decide (Spn.lo a<(0:Int)))=true then true else (if (decide (Spn.hi a > (65536:Int)))=true then true else (if (decide (IntKind.wrap IntKind.i64 (Spn.hi a - Spn.lo a)<(60:Int)))=true then true else decide (IntKind.wrap IntKind.i64 (Spn.hi a - Spn.lo a) ≥ (5000:Int))))))
theorem eq_lw_brief (a:Spn):(callT1 P BTH13 30 29 (.last dSpn 0) dB) a=some (K.lw_brief a):=(fn_lw_brief a).trans (T.br_some rfl (T.br_some rfl (T.br_some rfl (T.br_some rfl rfl))))
end Go.Proofs.YtkpligkggnjcoaaGreatDoor
/-! TH2 -/
namespace Go.Proofs.YtkpligkggnjcoaaGreatDoor
open Ev K
set_option maxRecDepth 100000
namespace K
def lowP:List Stg→Stg
 | []=>⟨0,0,0⟩
 | x :: t=>lowL x t
def highP:List Stg→Stg
 | []=>⟨0,0,0⟩
 | x :: t=>highL x t
theorem lowP_snoc {l:List Stg} (h:l≠[]) (y:Stg):lowP (l ++ [y])=if y.pence<(lowP l).pence then y else lowP l:=by
 cases l with
 | nil=>exact absurd rfl h
 | cons x t=>
  show lowL x (t ++ [y])=_
  unfold lowL;rw [List.foldl_append];rfl
theorem highP_snoc {l:List Stg} (h:l≠[]) (y:Stg):highP (l ++ [y])=if y.pence > (highP l).pence then y else highP l:=by
 cases l with
 | nil=>exact absurd rfl h
 | cons x t=>
  show highL x (t ++ [y])=_
  unfold highL;rw [List.foldl_append];rfl
theorem L_en_eq (e:Int) (L:List Stg) (hL:L.length≤100000):L_en ((e,L,(L.length:Int),0),⟨0,0,0⟩,⟨0,0,0⟩,())=some (e,lowP L,highP L,()):=by
 have e1:lowP L=lowP (L.take L.length):=by rw [List.take_length]
 have e2:highP L=highP (L.take L.length):=by rw [List.take_length]
 rw [e1,e2]
 refine lim_all (fun i:Nat=>((e,L,(L.length:Int),(i:Int)),lowP (L.take i),highP (L.take i),())) L.length (fun i hi=>?_) ?_
 ·have hy:=List.getElem?_eq_getElem hi
  rw [sl_en,List.take_add_one,hy]
  generalize L[i]=x at hy
  simp only [Int.toNat_natCast,Nat.zero_add,stg_at hy,ng0,ng1,ng2,decF_encF,wi i (by omega),Option.toList_some]
  refine br_t (decide_eq_true (by omega)) (chk_step (decide_eq_true (by omega)) ?_)
  by_cases h0:i=0
  ·subst h0
   exact br_t rfl (br_t rfl rfl)
  ·have hne:L.take i≠[]:=fun h=>by
    have h2:(L.take i).length=0:=by rw [h];rfl
    rw [List.length_take] at h2
    omega
   have hb:((i:Int) == 0)=false:=beq_eq_false_iff_ne.2 (by omega)
   rw [lowP_snoc hne,highP_snoc hne]
   refine br_f hb ?_
   by_cases h1:x.pence<(lowP (L.take i)).pence
   ·rw [if_pos h1]
    refine br_t (decide_eq_true h1) (br_f hb ?_)
    by_cases h2:x.pence > (highP (L.take i)).pence
    ·rw [if_pos h2];exact br_t (decide_eq_true h2) rfl
    ·rw [if_neg h2];exact br_f (decide_eq_false h2) rfl
   ·rw [if_neg h1]
    refine br_f (decide_eq_false h1) (br_f hb ?_)
    by_cases h2:x.pence > (highP (L.take i)).pence
    ·rw [if_pos h2];exact br_t (decide_eq_true h2) rfl
    ·rw [if_neg h2];exact br_f (decide_eq_false h2) rfl
 ·rw [sl_en]
  exact br_f (decide_eq_false (by dsimp only;omega)) rfl
def endsV (l:List Rul) (due grade:Str) (a:Spn):Stg × Stg × Int:=(lowP (stagesV l due grade a).1,highP (stagesV l due grade a).1,(stagesV l due grade a).2)
theorem stagesV_len (l:List Rul) (due grade:Str) (a:Spn):(stagesV l due grade a).1.length≤5000:=by
 unfold stagesV
 by_cases h:errS l due grade a=0
 ·rw [if_neg (fun k=>k h)];exact stgs_len (errS_ok h).2
 ·rw [if_pos h];exact Nat.zero_le _
theorem en_eq (a:List Rul × Str × Str × Spn):callT1 P BTH11 30 45 D_pes R_en a=some (endsV a.1 a.2.1 a.2.2.1 a.2.2.2):=by
 rw [fn_en]
 have hl:=stagesV_len a.1 a.2.1 a.2.2.1 a.2.2.2
 simp only [Nat.zero_add,decN_encN,decF_encF]
 rw [cl (by omega)]
 exact obs_step (L_en_eq _ _ (by omega)) rfl
def fallP (L:List Stg) (i:Nat):Bool:=match i with
 | 0=>false
 | j+1=>decide ((L.getD (j+1) default).pence<(L.getD j default).pence)
theorem L_fl_eq (e:Int) (L:List Stg) (hL:L.length≤100000):L_fl ((L,e,L,(L.length:Int),0),())=some (match first (fallP L) L.length with
  | some j=>.inr (((L.getD j default).lo,true,0),())
  | none=>.inl (e,())):=by
 refine (lim_find (fun i:Nat=>((L,e,L,(L.length:Int),(i:Int)),())) L.length (fallP L) (fun j=>.inr (((L.getD j default).lo,true,0),())) (.inl (e,())) (fun i hi hp=>?_) (fun i hi hp=>?_) ?_).trans ?_
 ·rw [sl_fl]
  have hy:=List.getElem?_eq_getElem hi
  rw [List.getD_eq_getElem?_getD]
  cases i with
  | zero=>cases hp
  | succ j=>
   have hz:=List.getElem?_eq_getElem (l:=L) (i:=j) (by omega)
   unfold fallP at hp
   simp only [List.getD_eq_getElem?_getD] at hp
   rw [hy,hz] at hp
   rw [hy]
   generalize L[j+1]=x at hy hp
   generalize L[j]=y at hz hp
   have hw:IntKind.i64.wrap (((j+1:Nat):Int) - 1)=(j:Int):=by rw [w64_in (by omega) (by omega)];omega
   simp only [hw,Int.toNat_natCast,Nat.zero_add,stg_at hy,stg_at hz,ng0,ng2]
   exact br_t (decide_eq_true (by omega)) (chk_step (decide_eq_true (by omega)) (br_t (decide_eq_true (by omega)) (chk_step (decide_eq_true (by omega)) (br_t hp rfl))))
 ·rw [sl_fl]
  have hy:=List.getElem?_eq_getElem hi
  cases i with
  | zero=>
   simp only [Nat.zero_add,decF_encF,wi 0 (by omega)]
   exact br_t (decide_eq_true (by omega)) (chk_step (decide_eq_true (by omega)) (br_f rfl rfl))
  | succ j=>
   have hz:=List.getElem?_eq_getElem (l:=L) (i:=j) (by omega)
   unfold fallP at hp
   simp only [List.getD_eq_getElem?_getD] at hp
   rw [hy,hz] at hp
   generalize L[j+1]=x at hy hp
   generalize L[j]=y at hz hp
   have hw:IntKind.i64.wrap (((j+1:Nat):Int) - 1)=(j:Int):=by rw [w64_in (by omega) (by omega)];omega
   simp only [hw,Int.toNat_natCast,Nat.zero_add,stg_at hy,stg_at hz,ng0,ng2,decF_encF,wi (j+1) (by omega)]
   exact br_t (decide_eq_true (by omega)) (chk_step (decide_eq_true (by omega)) (br_t (decide_eq_true (by omega)) (chk_step (decide_eq_true (by omega)) (br_f hp rfl))))
 ·rw [sl_fl]
  simp only [Nat.zero_add,decF_encF]
  exact br_f (decide_eq_false (by omega)) rfl
 ·cases first (fallP L) L.length<;>rfl
def fallsV (l:List Rul) (due grade:Str) (a:Spn):Int × Bool × Int:=match first (fallP (stagesV l due grade a).1) (stagesV l due grade a).1.length with
 | some j=>(((stagesV l due grade a).1.getD j default).lo,true,0)
 | none=>(0,false,(stagesV l due grade a).2)
theorem fl_eq (a:List Rul × Str × Str × Spn):callT1 P BTH12 30 47 D_pes R_fl a=some (fallsV a.1 a.2.1 a.2.2.1 a.2.2.2):=by
 rw [fn_fl]
 have hl:=stagesV_len a.1 a.2.1 a.2.2.1 a.2.2.2
 simp only [Nat.zero_add,decN_encN,decF_encF]
 rw [cl (by omega)]
 refine obs_step (L_fl_eq _ _ (by omega)) ?_
 unfold fallsV
 cases first (fallP (stagesV a.1 a.2.1 a.2.2.1 a.2.2.2).1) (stagesV a.1 a.2.1 a.2.2.1 a.2.2.2).1.length<;>rfl
end K
end Go.Proofs.YtkpligkggnjcoaaGreatDoor
/-! TNp -/
namespace Go.Proofs.YtkpligkggnjcoaaGreatDoor
open Ev K
set_option maxRecDepth 100000
namespace K
theorem fallP_at {L:List Stg} {j:Nat} {x y:Stg} (hx:L[j+1]?=some x) (hy:L[j]?=some y):fallP L (j+1)=decide (x.pence<y.pence):=by
 unfold fallP
 simp only [List.getD_eq_getElem?_getD,hx,hy];rfl
end K
end Go.Proofs.YtkpligkggnjcoaaGreatDoor
