/- Parts of the proof, one behind the other: TU4, TU5, TU6, TU7, TU8, TU9, TUa, TUb, TUc, TUd, TV0, TV1, TV2, TV3, TV4, TV5, TV6, TV7, TV8, TV9, TVa, TVb, TX0, TVc, TVd, TWa, TWb, TWc. No conditions. -/
import Derived.Test.YtkpligkggnjcoaaGreatDoorTv9
import Derived.KernelRfl
/-! TU4 -/
namespace Go.Proofs.YtkpligkggnjcoaaGreatDoor
open Ev K
set_option maxRecDepth 100000
namespace K
structure Tok where
 kind:Int
 text:Str
 pos:Int
 deriving DecidableEq,Repr,Inhabited
end K
def V_tk:DecL Str:=.last (dP 1 lS1 0) 0
def S_tk:=DecS.yld (.unit (dYv) (.cons (dP 1 lS1 0) (.skip (.last (dInt) 84)))) .nil
def X_tk:=DecX.or (DecX.one .ret [] (DecS.yld (.tops 88) .nil)) (DecX.one (.exit 0) [] (DecS.yld (.tops 88) .nil))
noncomputable def BTU41:Tab:=BTU31.addInl 132
theorem tTU41:TabOk P BTU41:=TabOk.addInl tTU31
noncomputable def K.st_tk:=loopT1 P BTU41 30 125 9 [3,1,0] S_tk X_tk
theorem sl_tk:∀ s,(K.st_tk) s=T.run (
 let q17:=s.2.2.1;
 let q23:=(0:Int);
 let q34:=s.1.2;
 let q28:=s.2.2.2;
 let q5:=List.length q28;
 let q1:=Sum.inr (Sum.inl (PUnit.unit,PUnit.unit,q17,([AV.agg [AV.int IntKind.i64 q23,AV.str [],AV.int IntKind.i64 q34]],q17 q5) :: q28));
 let q2:=Int.toNat q34;
 let q20:=q34+(1:Int);
 let q37:=s.1.1;
 let q19:=List.length q37;
 let q27:=IntKind.wrap IntKind.i64 q20;
 let q3:=decide (q23≤IntKind.wrap IntKind.i64 q20∧IntKind.wrap IntKind.i64 q20≤(↑q19:Int))&&decide (q23≤q34∧q34≤(↑(Int.toNat q27):Int));
 let q4:=List.drop q2 (List.take (Int.toNat q27) q37);
 let q6:=BitVec.toFin (UInt8.toBitVec (Option.getD q37[Int.toNat q34]? (0:UInt8)));
 let q22:=runV plainB q37 q2;
 let q7:=List.drop q2 (List.take (Int.toNat (↑q22:Int)) q37);
 let q10:=runV digitB q37 q2;
 let q18:=List.drop q2 (List.take (Int.toNat (↑q10:Int)) q37);
 let q8:=([AV.agg [AV.int IntKind.i64 (2:Int),AV.str q18,AV.int IntKind.i64 q34]],q17 q5);
 let q9:=decide (q23≤(↑q10:Int)∧(↑q10:Int)≤(↑q19:Int))&&decide (q23≤q34∧q34≤(↑(Int.toNat (↑q10:Int)):Int));
 let q11:=([AV.agg [AV.int IntKind.i64 (2:Int),AV.str q4,AV.int IntKind.i64 q34]],q17 q5);
 let q12:=(q37,IntKind.wrap IntKind.i64 q20);
 let q13:T _:=.ret (Sum.inr (Sum.inl (PUnit.unit,PUnit.unit,q17,([AV.agg [AV.int IntKind.i64 q23,AV.str [],AV.int IntKind.i64 q27]],q17 q5) :: q28)));
 let q14:=decide (List.length q37≤(1000000:Nat)∧q23≤q34∧q34≤(↑q19:Int));
 let q15:T _:=.ret (Sum.inr (Sum.inl (PUnit.unit,PUnit.unit,q17,([AV.agg [AV.int IntKind.i64 q23,AV.str [],AV.int IntKind.i64 (↑q10:Int)]],q17 q5) :: q28)));
 let q16:T _:=.ret (Sum.inr (Sum.inl (PUnit.unit,PUnit.unit,q17,([AV.agg [AV.int IntKind.i64 q23,AV.str q7,AV.int IntKind.i64 q34]],q17 q5) :: q28)));
 let q29:=!q17 q5;
 let q21:T _:=.br q29 (
                      .ret q1) (
                      .ret q1);
 let q24:=([AV.agg [AV.int IntKind.i64 (3:Int),AV.str q7,AV.int IntKind.i64 q34]],q17 q5);
 let q25:=([AV.agg [AV.int IntKind.i64 (1:Int),AV.str q7,AV.int IntKind.i64 q34]],q17 q5);
 let q26:=([AV.agg [AV.int IntKind.i64 (3:Int),AV.str q4,AV.int IntKind.i64 q34]],q17 q5);
 let q30:=Sum.inl (q12,PUnit.unit,s.2.2);
 let q31:=Sum.inl ((q37,(↑q10:Int)),PUnit.unit,q17,q8 :: q28);
 let q32:=Sum.inr (Sum.inl (PUnit.unit,PUnit.unit,q17,q11 :: q28));
 let q33:=Sum.inr (Sum.inl (PUnit.unit,PUnit.unit,q17,q8 :: q28));
 let q35:=Sum.inl (q12,PUnit.unit,q17,q11 :: q28);
 let q36:=decide (q23≤q34∧q34<(↑q19:Int));
  .br (decide (q34<(↑q19:Int))) (
    .chk q36 <|
    .br ((↑(↑q6:Nat):Int) == (32:Int)) (
      .ret q30) (
      .br ((↑(↑q6:Nat):Int) == (9:Int)) (
        .ret q30) (
        .br ((↑(↑q6:Nat):Int) == (10:Int)) (
          .ret q30) (
          .br ((↑(↑q6:Nat):Int) == (35:Int)) (
            .chk q14 <|
            .ret (Sum.inl ((q37,(↑(runV lineB q37 q2):Int)),PUnit.unit,s.2.2))) (
            .br (a_letter (↑(↑q6:Nat):Int)) (
              .chk q14 <|
              .chk (decide (q23≤(↑q22:Int)∧(↑q22:Int)≤(↑q19:Int))&&decide (q23≤q34∧q34≤(↑(Int.toNat (↑q22:Int)):Int))) <|
              .br (inS words q7) (
                .br q29 (
                  .ret (Sum.inr (Sum.inl (PUnit.unit,PUnit.unit,q17,q24 :: q28)))) (
                  .ret (Sum.inl ((q37,(↑q22:Int)),PUnit.unit,q17,q24 :: q28)))) (
                .br (decide ((↑(List.length q7):Int)≤(24:Int))) (
                  .br q29 (
                    .ret (Sum.inr (Sum.inl (PUnit.unit,PUnit.unit,q17,q25 :: q28)))) (
                    .ret (Sum.inl ((q37,(↑q22:Int)),PUnit.unit,q17,q25 :: q28)))) (
                  .br q29 q16 q16))) (
              .br (a_digit (↑(↑q6:Nat):Int)) (
                .chk q36 <|
                .br ((↑(↑q6:Nat):Int) != (48:Int)) (
                  .chk q14 <|
                  .chk q9 <|
                  .chk (decide (List.length q18≤(1000000:Nat)∧atoiOk q18=true)) <|
                  .br (decide (atoiN q18 > (65536:Int))) q21 (
                    .br (decide ((↑q10:Int)<(↑q19:Int))) (
                      .chk (decide (q23≤(↑q10:Int)∧(↑q10:Int)<(↑q19:Int))) <|
                      .br (a_plain (↑(↑(BitVec.toFin (UInt8.toBitVec (Option.getD q37[Int.toNat (↑q10:Int)]? (0:UInt8)))):Nat):Int)) (
                        .br q29 q15 q15) (
                        .chk q9 <|
                        .br q29 (
                          .ret q33) (
                          .ret q31))) (
                      .chk q9 <|
                      .br q29 (
                        .ret q33) (
                        .ret q31)))) (
                  .chk q3 <|
                  .chk (decide (List.length q4≤(1000000:Nat)∧atoiOk q4=true)) <|
                  .br (decide (atoiN q4 > (65536:Int))) q21 (
                    .br (decide (IntKind.wrap IntKind.i64 q20<(↑q19:Int))) (
                      .chk (decide (q23≤IntKind.wrap IntKind.i64 q20∧IntKind.wrap IntKind.i64 q20<(↑q19:Int))) <|
                      .br (a_plain (↑(↑(BitVec.toFin (UInt8.toBitVec (Option.getD q37[Int.toNat q27]? (0:UInt8)))):Nat):Int)) (
                        .br q29 q13 q13) (
                        .chk q3 <|
                        .br q29 (
                          .ret q32) (
                          .ret q35))) (
                      .chk q3 <|
                      .br q29 (
                        .ret q32) (
                        .ret q35))))) (
                .br (decide (ixB ([(58:UInt8),(59:UInt8),(44:UInt8)],(↑(↑q6:Nat):Int)) ≥ q23)) (
                  .chk q3 <|
                  .br q29 (
                    .ret (Sum.inr (Sum.inl (PUnit.unit,PUnit.unit,q17,q26 :: q28)))) (
                    .ret (Sum.inl (q12,PUnit.unit,q17,q26 :: q28)))) (
                  .br q29 (
                    .ret q1) (
                    .ret q1))))))))) (
    .ret (Sum.inr (Sum.inr (PUnit.unit,PUnit.unit,s.2.2))))):=fun s=>by kernel_rfl
end Go.Proofs.YtkpligkggnjcoaaGreatDoor
/-! TU5 -/
namespace Go.Proofs.YtkpligkggnjcoaaGreatDoor
open Ev K
set_option maxRecDepth 100000
namespace K
inductive TSt where
 | fin
 | skip (j:Nat)
 | tok (t:Tok) (j:Nat)
 | bad (t:Tok)
 | fail
 deriving DecidableEq,Repr
def cutS (s:Str) (i j:Nat):Str:=(s.take j).drop i
def numSt (s:Str) (i e:Nat):TSt:=
 if (cutS s i e).length≤1000000∧atoiOk (cutS s i e)=true then
  if atoiN (cutS s i e) > 65536 then .bad ⟨0,[],i⟩
  else if e<s.length∧plainB ((s[e]?).getD 0)=true then .bad ⟨0,[],e⟩
  else .tok ⟨2,cutS s i e,i⟩ e
 else .fail
def tokSt (s:Str) (i:Nat):TSt:=
 if i<s.length then
  let b:=(s[i]?).getD 0
  if b=32∨b=9∨b=10 then .skip (i+1)
  else if b=35 then .skip (runV lineB s i)
  else if smallB b=true then
   let e:=runV plainB s i
   if inS words (cutS s i e)=true then .tok ⟨3,cutS s i e,i⟩ e
   else if (cutS s i e).length≤24 then .tok ⟨1,cutS s i e,i⟩ e
   else .bad ⟨0,cutS s i e,i⟩
  else if digitB b=true then numSt s i (if b=48 then i+1 else runV digitB s i)
  else if 0≤ixB ([58,59,44],(b.toNat:Int)) then .tok ⟨3,cutS s i (i+1),i⟩ (i+1)
  else .bad ⟨0,[],i⟩
 else .fin
def lexF:Nat→Str→Nat→Option (List Tok)
 | 0,_,_=>none
 | n+1,s,i=>match tokSt s i with
  | .fin=>some []
  | .skip j=>lexF n s j
  | .tok t j=>(lexF n s j).map (t :: ·)
  | .bad t=>some [t]
  | .fail=>none
end K
end Go.Proofs.YtkpligkggnjcoaaGreatDoor
/-! TU6 -/
namespace Go.Proofs.YtkpligkggnjcoaaGreatDoor
open Ev K
set_option maxRecDepth 100000
namespace K
def eTok (t:Tok):List AV:=[.agg [.int .i64 t.kind,.str t.text,.int .i64 t.pos]]
abbrev tkS:=(Str × Int) × Unit × (Nat→Bool) × List (List AV × Bool)
abbrev tkR:=Unit × Unit × (Nat→Bool) × List (List AV × Bool)
def tkV (s:Str) (bs:Nat→Bool) (out:List (List AV × Bool)):TSt→Option (tkS ⊕ tkR ⊕ tkR)
 | .fin=>some (.inr (.inr ((),(),bs,out)))
 | .skip j=>some (.inl ((s,(j:Int)),(),bs,out))
 | .tok t j=>some (if bs out.length=true then .inl ((s,(j:Int)),(),bs,(eTok t,true) :: out) else .inr (.inl ((),(),bs,(eTok t,false) :: out)))
 | .bad t=>some (.inr (.inl ((),(),bs,(eTok t,bs out.length) :: out)))
 | .fail=>none
theorem tk_y {s:Str} {bs:Nat→Bool} {out:List (List AV × Bool)} (t:Tok) (j:Nat) (ji:Int) (h:ji=j) :
  (T.br (!bs out.length) (.ret (Sum.inr (Sum.inl ((),(),bs,(eTok t,bs out.length) :: out)):tkS ⊕ tkR ⊕ tkR)) (.ret (Sum.inl ((s,ji),(),bs,(eTok t,bs out.length) :: out)))).run=tkV s bs out (.tok t j):=by
 subst h
 unfold tkV
 cases bs out.length<;>rfl
theorem tk_b {s:Str} {bs:Nat→Bool} {out:List (List AV × Bool)} (t:Tok) :
  (T.br (!bs out.length) (.ret (Sum.inr (Sum.inl ((),(),bs,(eTok t,bs out.length) :: out)):tkS ⊕ tkR ⊕ tkR)) (.ret (Sum.inr (Sum.inl ((),(),bs,(eTok t,bs out.length) :: out))))).run=tkV s bs out (.bad t):=by
 unfold tkV
 cases bs out.length<;>rfl
theorem runV_ge (p:UInt8→Bool) (s:Str) (i:Nat):i≤runV p s i:=Nat.le_add_right _ _
theorem runV_le (p:UInt8→Bool) (s:Str) (i:Nat) (h:i≤s.length):runV p s i≤s.length:=by
 unfold runV
 have h2:((s.drop i).takeWhile p).length≤(s.drop i).length:=(List.takeWhile_prefix p).length_le
 rw [List.length_drop] at h2;omega
theorem eqB (b:UInt8) (n:UInt8):((((b.toNat:Nat):Int) == ((n.toNat:Nat):Int)):Bool)=decide (b=n):=by
 apply Bool.eq_iff_iff.2
 rw [beq_iff_eq,decide_eq_true_iff]
 constructor
 ·intro h;exact UInt8.toNat_inj.1 (by omega)
 ·rintro rfl;rfl
theorem tk_step (s:Str) (hs:s.length≤1000000) (i:Nat) (hi:i≤s.length) (bs:Nat→Bool) (out:List (List AV × Bool)) (hf:tokSt s i≠.fail) :
  st_tk ((s,(i:Int)),(),bs,out)=tkV s bs out (tokSt s i):=by
 rw [sl_tk]
 unfold tokSt at hf ⊢
 by_cases hlt:i<s.length
 ·rw [if_pos hlt] at hf ⊢
  refine br_t (decide_eq_true (by dsimp only;omega)) (chk_step (decide_eq_true (by dsimp only;omega)) ?_)
  obtain ⟨b,hb⟩:∃ b,(s[i]?).getD 0=b:=⟨_,rfl⟩
  simp only [Int.toNat_natCast,byteI,hb] at hf ⊢
  have w1:=wi i (by omega)
  simp only [w1,Int.toNat_natCast] at hf ⊢
  by_cases h32:b=32
  ·rw [if_pos (.inl h32)]
   exact br_t (by rw [h32];rfl) rfl
  refine br_f ((eqB b 32).trans (decide_eq_false h32)) ?_
  by_cases h9:b=9
  ·rw [if_pos (.inr (.inl h9))]
   exact br_t (by rw [h9];rfl) rfl
  refine br_f ((eqB b 9).trans (decide_eq_false h9)) ?_
  by_cases h10:b=10
  ·rw [if_pos (.inr (.inr h10))]
   exact br_t (by rw [h10];rfl) rfl
  refine br_f ((eqB b 10).trans (decide_eq_false h10)) ?_
  rw [if_neg (by rintro (h | h | h);exact h32 h;exact h9 h;exact h10 h)] at hf ⊢
  by_cases h35:b=35
  ·rw [if_pos h35]
   exact br_t (by rw [h35];rfl) (chk_step (decide_eq_true (by omega)) rfl)
  refine br_f ((eqB b 35).trans (decide_eq_false h35)) ?_
  rw [if_neg h35] at hf ⊢
  have cut:∀ j:Nat,(s.take j).drop i=cutS s i j:=fun _=>rfl
  simp only [cut] at hf ⊢
  have q1:=runV_ge plainB s i
  have q2:=runV_le plainB s i hi
  have q3:=runV_ge digitB s i
  have q4:=runV_le digitB s i hi
  cases hsm:smallB b with
  | true=>
   rw [if_pos hsm] at hf
   rw [if_pos rfl]
   refine br_t ((a_letter_eq b).trans hsm) (chk_step (decide_eq_true (by omega)) (chk_step (by rw [Bool.and_eq_true];exact ⟨decide_eq_true (by omega),decide_eq_true (by omega)⟩) ?_))
   cases hw:inS words (cutS s i (runV plainB s i)) with
   | true=>
    rw [if_pos rfl]
    exact br_t rfl (tk_y ⟨3,cutS s i (runV plainB s i),i⟩ _ _ rfl)
   | false=>
    rw [if_neg Bool.false_ne_true]
    refine br_f rfl ?_
    by_cases h24:(cutS s i (runV plainB s i)).length≤24
    ·rw [if_pos h24]
     exact br_t (decide_eq_true (by omega)) (tk_y ⟨1,cutS s i (runV plainB s i),i⟩ _ _ rfl)
    ·rw [if_neg h24]
     exact br_f (decide_eq_false (by omega)) (tk_b ⟨0,cutS s i (runV plainB s i),i⟩)
  | false=>
   rw [if_neg (by rw [hsm];exact Bool.false_ne_true)] at hf
   rw [if_neg Bool.false_ne_true]
   refine br_f ((a_letter_eq b).trans hsm) ?_
   cases hd:digitB b with
   | true=>
    rw [if_pos hd] at hf
    rw [if_pos rfl]
    refine br_t ((a_digit_eq b).trans hd) (chk_step (decide_eq_true (by omega)) ?_)
    by_cases h48:b=48
    ·rw [if_pos h48] at hf ⊢
     refine br_f (by rw [h48];rfl) ?_
     unfold numSt at hf ⊢
     by_cases ha:(cutS s i (i+1)).length≤1000000∧atoiOk (cutS s i (i+1))=true
     ·rw [if_pos ha]
      refine chk_step (by rw [Bool.and_eq_true];exact ⟨decide_eq_true (by omega),decide_eq_true (by omega)⟩) (chk_step (decide_eq_true ha) ?_)
      by_cases hbig:atoiN (cutS s i (i+1)) > 65536
      ·rw [if_pos hbig]
       exact br_t (decide_eq_true hbig) (tk_b ⟨0,[],i⟩)
      rw [if_neg hbig]
      refine br_f (decide_eq_false hbig) ?_
      by_cases hlt2:(i+1)<s.length
      ·refine br_t (decide_eq_true (by omega)) (chk_step (decide_eq_true (by omega)) ?_)
       cases hp:plainB ((s[(i+1)]?).getD 0) with
       | true=>
        rw [if_pos ⟨hlt2,rfl⟩]
        exact br_t ((a_plain_eq _).trans hp) (tk_b ⟨0,[],(((i+1:Nat)):Int)⟩)
       | false=>
        rw [if_neg (by rintro ⟨_,h⟩;cases h)]
        exact br_f ((a_plain_eq _).trans hp) (chk_step (by rw [Bool.and_eq_true];exact ⟨decide_eq_true (by omega),decide_eq_true (by omega)⟩) (tk_y ⟨2,cutS s i (i+1),i⟩ _ _ rfl))
      ·rw [if_neg (by rintro ⟨h,_⟩;exact hlt2 h)]
       exact br_f (decide_eq_false (by omega)) (chk_step (by rw [Bool.and_eq_true];exact ⟨decide_eq_true (by omega),decide_eq_true (by omega)⟩) (tk_y ⟨2,cutS s i (i+1),i⟩ _ _ rfl))
     ·exact absurd (if_neg ha) hf
    ·rw [if_neg h48] at hf ⊢
     refine br_t (congrArg not ((eqB b 48).trans (decide_eq_false h48))) ?_
     unfold numSt at hf ⊢
     by_cases ha:(cutS s i (runV digitB s i)).length≤1000000∧atoiOk (cutS s i (runV digitB s i))=true
     ·rw [if_pos ha]
      refine chk_step (decide_eq_true (by omega)) (chk_step (by rw [Bool.and_eq_true];exact ⟨decide_eq_true (by omega),decide_eq_true (by omega)⟩) (chk_step (decide_eq_true ha) ?_))
      by_cases hbig:atoiN (cutS s i (runV digitB s i)) > 65536
      ·rw [if_pos hbig]
       exact br_t (decide_eq_true hbig) (tk_b ⟨0,[],i⟩)
      rw [if_neg hbig]
      refine br_f (decide_eq_false hbig) ?_
      by_cases hlt2:(runV digitB s i)<s.length
      ·refine br_t (decide_eq_true (by omega)) (chk_step (decide_eq_true (by omega)) ?_)
       cases hp:plainB ((s[(runV digitB s i)]?).getD 0) with
       | true=>
        rw [if_pos ⟨hlt2,rfl⟩]
        exact br_t ((a_plain_eq _).trans hp) (tk_b ⟨0,[],((runV digitB s i:Nat):Int)⟩)
       | false=>
        rw [if_neg (by rintro ⟨_,h⟩;cases h)]
        exact br_f ((a_plain_eq _).trans hp) (chk_step (by rw [Bool.and_eq_true];exact ⟨decide_eq_true (by omega),decide_eq_true (by omega)⟩) (tk_y ⟨2,cutS s i (runV digitB s i),i⟩ _ _ rfl))
      ·rw [if_neg (by rintro ⟨h,_⟩;exact hlt2 h)]
       exact br_f (decide_eq_false (by omega)) (chk_step (by rw [Bool.and_eq_true];exact ⟨decide_eq_true (by omega),decide_eq_true (by omega)⟩) (tk_y ⟨2,cutS s i (runV digitB s i),i⟩ _ _ rfl))
     ·exact absurd (if_neg ha) hf
   | false=>
    rw [if_neg (by rw [hd];exact Bool.false_ne_true)] at hf
    rw [if_neg Bool.false_ne_true]
    refine br_f ((a_digit_eq b).trans hd) ?_
    by_cases hc:0≤ixB ([58,59,44],(b.toNat:Int))
    ·rw [if_pos hc]
     exact br_t (decide_eq_true hc) (chk_step (by rw [Bool.and_eq_true];exact ⟨decide_eq_true (by omega),decide_eq_true (by omega)⟩) (tk_y ⟨3,cutS s i (i+1),i⟩ _ _ rfl))
    ·rw [if_neg hc]
     exact br_f (decide_eq_false hc) (tk_b ⟨0,[],i⟩)
 ·rw [if_neg hlt]
  exact br_f (decide_eq_false (by dsimp only;omega)) rfl
end K
end Go.Proofs.YtkpligkggnjcoaaGreatDoor
/-! TU7 -/
namespace Go.Proofs.YtkpligkggnjcoaaGreatDoor
open Ev K
set_option maxRecDepth 100000
namespace K
theorem tokSt_j {s:Str} {i:Nat} (hi:i≤s.length):(∀ j,tokSt s i=.skip j→j≤s.length)∧∀ t j,tokSt s i=.tok t j→j≤s.length:=by
 have r1:=runV_le lineB s i hi
 have r2:=runV_le plainB s i hi
 have r3:=runV_le digitB s i hi
 unfold tokSt numSt
 by_cases hlt:i<s.length
 ·rw [if_pos hlt]
  constructor
  ·intro j h
   simp only at h
   repeat' split at h
   all_goals first | (injection h with h;omega) | cases h
  ·intro t j h
   simp only at h
   repeat' split at h
   all_goals first | (injection h with _ h;omega) | (injection h with _ h;subst h;split<;>omega) | cases h
 ·rw [if_neg hlt]
  constructor
  ·intro j h;cases h
  ·intro t j h;cases h
noncomputable def L_tk:=lim st_tk
theorem L_tk_all (s:Str) (hs:s.length≤1000000) (bs:Nat→Bool) (hb:∀ k,bs k=true):∀ (n i:Nat) (out:List (List AV × Bool)) (L:List Tok),i≤s.length→lexF n s i=some L →
  L_tk ((s,(i:Int)),(),bs,out)=some (.inl ((),(),bs,(L.map fun t=>(eTok t,true)).reverse ++ out))∨L_tk ((s,(i:Int)),(),bs,out)=some (.inr ((),(),bs,(L.map fun t=>(eTok t,true)).reverse ++ out))
 | 0,i,out,L,hi,h=>by cases h
 | n+1,i,out,L,hi,h=>by
  have hst:tokSt s i≠.fail:=by intro e;simp only [lexF,e] at h;cases h
  have hj:=tokSt_j (s:=s) hi
  have st:=tk_step s hs i hi bs out hst
  unfold lexF at h
  cases hk:tokSt s i with
  | fin=>
   rw [hk] at h st
   injection h with h;subst h
   exact .inr (lim_done st)
  | skip j=>
   rw [hk] at h st
   have:=L_tk_all s hs bs hb n j out L (hj.1 j hk) h
   unfold L_tk at this ⊢
   rw [lim_step st];exact this
  | tok t j=>
   rw [hk] at h st
   simp only at h
   obtain ⟨M,hM,rfl⟩:=Option.map_eq_some_iff.1 h
   have e:tkV s bs out (.tok t j)=some (.inl ((s,(j:Int)),(),bs,(eTok t,true) :: out)):=by simp only [tkV,hb,if_true]
   rw [e] at st
   have:=L_tk_all s hs bs hb n j ((eTok t,true) :: out) M (hj.2 t j hk) hM
   unfold L_tk at this ⊢
   rw [lim_step st,List.map_cons,List.reverse_cons,List.append_assoc];exact this
  | bad t=>
   rw [hk] at h st
   injection h with h;subst h
   have e:tkV s bs out (.bad t)=some (.inr (.inl ((),(),bs,(eTok t,true) :: out))):=by simp only [tkV,hb]
   rw [e] at st
   exact .inl (lim_done st)
  | fail=>exact absurd hk hst
end K
end Go.Proofs.YtkpligkggnjcoaaGreatDoor
/-! TU8 -/
namespace Go.Proofs.YtkpligkggnjcoaaGreatDoor
open Ev K
set_option maxRecDepth 100000
namespace K
theorem L_tk_stop (s:Str) (hs:s.length≤1000000) (bs:Nat→Bool) (m:Nat) (hb:∀ k,bs k=!(Nat.beq k m)) (y:Tok):∀ (n i:Nat) (out:List (List AV × Bool)) (L:List Tok),i≤s.length→lexF n s i=some L→out.length≤m→L[m - out.length]?=some y →
  L_tk ((s,(i:Int)),(),bs,out)=some (.inl ((),(),bs,(eTok y,false) :: (((L.take (m - out.length)).map fun t=>(eTok t,true)).reverse ++ out)))
 | 0,i,out,L,hi,h,_,_=>by cases h
 | n+1,i,out,L,hi,h,hm,hy=>by
  have hst:tokSt s i≠.fail:=by intro e;simp only [lexF,e] at h;cases h
  have hj:=tokSt_j (s:=s) hi
  have st:=tk_step s hs i hi bs out hst
  unfold lexF at h
  cases hk:tokSt s i with
  | fin=>
   rw [hk] at h st
   injection h with h;subst h
   simp at hy
  | skip j=>
   rw [hk] at h st
   have:=L_tk_stop s hs bs m hb y n j out L (hj.1 j hk) h hm hy
   unfold L_tk at this ⊢
   rw [lim_step st];exact this
  | tok t j=>
   rw [hk] at h st
   simp only at h
   obtain ⟨M,hM,rfl⟩:=Option.map_eq_some_iff.1 h
   by_cases he:out.length=m
   ·have hbf:bs out.length=false:=by rw [hb,he,show Nat.beq m m=true from by rw [Nat.beq_eq]];rfl
    have e:tkV s bs out (.tok t j)=some (.inr (.inl ((),(),bs,(eTok t,false) :: out))):=by simp only [tkV,hbf,Bool.false_eq_true,if_false]
    rw [e] at st
    rw [he,Nat.sub_self] at hy ⊢
    injection hy with hy;subst hy
    exact lim_done st
   ·have hbt:bs out.length=true:=by
     rw [hb,show Nat.beq out.length m=false by rw [← Bool.not_eq_true,Nat.beq_eq];exact he];rfl
    have e:tkV s bs out (.tok t j)=some (.inl ((s,(j:Int)),(),bs,(eTok t,true) :: out)):=by simp only [tkV,hbt,if_true]
    rw [e] at st
    obtain ⟨d,hd⟩:∃ d,m - out.length=d+1:=⟨m - out.length - 1,by omega⟩
    have hd2:m - ((eTok t,true) :: out).length=d:=by rw [List.length_cons];omega
    rw [hd] at hy ⊢
    have:=L_tk_stop s hs bs m hb y n j ((eTok t,true) :: out) M (hj.2 t j hk) hM (by rw [List.length_cons];omega) (by rw [hd2];exact hy)
    rw [hd2] at this
    unfold L_tk at this ⊢
    rw [lim_step st,List.take_succ_cons,List.map_cons,List.reverse_cons,List.append_assoc];exact this
  | bad t=>
   rw [hk] at h st
   injection h with h;subst h
   have h0:m - out.length=0:=by
    cases hx:m - out.length with
    | zero=>rfl
    | succ d=>rw [hx] at hy;simp at hy
   have he:out.length=m:=by omega
   have hbf:bs out.length=false:=by rw [hb,he,show Nat.beq m m=true from by rw [Nat.beq_eq]];rfl
   have e:tkV s bs out (.bad t)=some (.inr (.inl ((),(),bs,(eTok t,false) :: out))):=by simp only [tkV,hbf]
   rw [e] at st
   rw [h0] at hy ⊢
   injection hy with hy;subst hy
   exact lim_done st
  | fail=>exact absurd hk hst
end K
noncomputable def BTU81:Tab:=BTU41.addNode 125 9 (nodeE [3,1,0] S_tk X_tk (fun s=>.obs (K.L_tk s) .ret))
theorem tTU81:TabOk P BTU81:=TabOk.addLoop (d:=30) okP tTU41 (by kernel_rfl) (by kernel_rfl) (fun s r h=>obs_ret h)
noncomputable def I_tk (s:Str) (bs:Nat→Bool):=iterT1 P BTU81 30 125 [] (V_tk.enc s) bs
theorem it_tk:∀ s bs,(I_tk) s bs=T.run (
 .obs (L_tk ((s,(0:Int)),PUnit.unit,bs,[])) fun x0=>
  .sum (x0) (fun x1=>
   .ret (List.reverse x1.2.2.2)) (fun x1=>
   .ret (List.reverse x1.2.2.2))):=fun s bs=>by kernel_rfl
end Go.Proofs.YtkpligkggnjcoaaGreatDoor
/-! TU9 -/
namespace Go.Proofs.YtkpligkggnjcoaaGreatDoor
open Ev K
set_option maxRecDepth 100000
theorem icl_tk (s:Str) (hs:s.length≤1000000) (n:Nat) (L:List Tok) (h:lexF n s 0=some L):ICL P 125 [] (V_tk.enc s) (L.map eTok):=by
 refine iter_of okP tTU81 (d:=30) ?_ (fun m y hy=>?_)
 ·show I_tk s _=_
  rw [it_tk]
  rcases L_tk_all s hs (fun _=>true) (fun _=>rfl) n 0 [] L (Nat.zero_le _) h with e | e
  ·refine obs_step e ?_
   simp only [T.run_inl,T.run_ret,List.append_nil,List.reverse_reverse,List.map_map]
   rfl
  ·refine obs_step e ?_
   simp only [T.run_inr,T.run_ret,List.append_nil,List.reverse_reverse,List.map_map]
   rfl
 ·show I_tk s _=_
  rw [it_tk]
  rw [List.getElem?_map] at hy
  obtain ⟨t,ht,rfl⟩:=Option.map_eq_some_iff.1 hy
  refine obs_step (L_tk_stop s hs (fun k=>!(Nat.beq k m)) m (fun _=>rfl) t n 0 [] L (Nat.zero_le _) h (Nat.zero_le _) (by simpa using ht)) ?_
  simp only [T.run_inl,T.run_ret,List.append_nil,List.reverse_cons,List.reverse_reverse,List.length_nil,Nat.sub_zero,List.map_map,List.map_take]
  rfl
end Go.Proofs.YtkpligkggnjcoaaGreatDoor
/-! TUa -/
namespace Go.Proofs.YtkpligkggnjcoaaGreatDoor
open Ev K
set_option maxRecDepth 100000
namespace Ev
end Ev
def ghostP (t kc:Nat) (e:TypeId) (wd:Nat) (tags:List CK) (st:St):St:=
  match st.env[t]? with
  | some (.lptr j0 _ 0 0)=>match st.loc[j0]? with
   | some (.flat _ [.lptr j _ 0 0])=>match st.loc[j]? with
    | some (.flat ty cs)=>match cs[kc]? with
      | some .nilsl=>match Nat.blt 0 wd with
        | true=>{ st with loc:=st.loc.set j (.flat ty (cs.set kc (.osl st.loc.length 0 0))) ++ [.list e wd 0 0 ⟨tags,fun _ _=>.top⟩] }
        | false=>st
      | _=>st
    | _=>st
   | _=>st
  | _=>st
theorem ghostP_len (t kc:Nat) (e:TypeId) (wd:Nat) (tags:List CK) (st:St):(ghostP t kc e wd tags st).env.length=st.env.length:=by
 unfold ghostP
 repeat' split
 all_goals rfl
theorem ghostP_tidy (t kc:Nat) (e:TypeId) (wd:Nat) (tags:List CK) (st:St):Tidy st (ghostP t kc e wd tags st):=by
 unfold ghostP
 split
 case h_2=>exact ⟨rfl,fun X yl A0 r ds sv a w h=>⟨r,h⟩⟩
 rename_i j0 _ ht
 split
 case h_2=>exact ⟨rfl,fun X yl A0 r ds sv a w h=>⟨r,h⟩⟩
 rename_i ty0 j _ hj0
 split
 case h_2=>exact ⟨rfl,fun X yl A0 r ds sv a w h=>⟨r,h⟩⟩
 rename_i ty cs hj
 split
 case h_2=>exact ⟨rfl,fun X yl A0 r ds sv a w h=>⟨r,h⟩⟩
 rename_i hcell
 split
 case h_2=>exact ⟨rfl,fun X yl A0 r ds sv a w h=>⟨r,h⟩⟩
 rename_i hwd
 have hwd:0<wd:=by simpa [Nat.blt_eq] using hwd
 refine ⟨rfl,fun X yl A0 r ds sv a w h=>?_⟩
 have hnx:locOf st st.loc.length=none:=locOf_len st
 have hlt:j<st.loc.length:=(List.getElem?_eq_some_iff.1 hj).1
 obtain ⟨r',hv,k⟩:=h.grow2 (nx:=st.loc.length) (j:=st.loc.length) (v:=0) (n:=0) (e:=0) (c:=0) (wd:=wd) (t:=e) (get:=⟨tags,fun _ _=>.top⟩) (ob:=none) (xs:=[]) (w1:=w) (fun _=>hnx) (fun b hb=>by cases hb) (.inl ⟨rfl,rfl⟩)
  (World.ownsRow_nil w 0 e wd) (fun i k hi=>absurd hi (Nat.not_lt_zero _)) ⟨rfl,rfl,rfl,Nat.le_refl _,fun _ _ _=>rfl⟩ (fun b hb=>by cases hb) (fun _=>⟨rfl,rfl⟩) ⟨Nat.le_refl _,Nat.zero_le _⟩ hwd (dle.refl _) none
 have hlj:(locE ⟨none,.osl st.loc.length 0 0,some (st.loc.length,.list e wd 0 0 ⟨tags,fun _ _=>.top⟩)⟩ (locOf st)) j=some (.flat ty cs):=by
  simp only [locE]
  rw [if_neg (by omega)];exact hj
 have k2:=k.swap hlj (cs':=cs.set kc (.osl st.loc.length 0 0)) (fun us hus=>by
  refine ⟨by rw [List.length_set];exact hus.1,fun i x u hx hu=>?_⟩
  rw [List.getElem?_set] at hx
  split at hx
  ·rename_i e1
   subst e1
   split at hx
   ·injection hx with hx;subst hx
    have hn:=hus.2 kc _ u hcell hu
    have hu':u=.slice (slBase 0) 0 0:=by cases hn;rfl
    rw [hu'];exact hv
   ·cases hx
  ·exact hus.2 i x u hx hu)
 have el:locOf { st with loc:=st.loc.set j (.flat ty (cs.set kc (.osl st.loc.length 0 0))) ++ [.list e wd 0 0 ⟨tags,fun _ _=>.top⟩] }=fun k=>if k=j then some (.flat ty (cs.set kc (.osl st.loc.length 0 0))) else (locE ⟨none,.osl st.loc.length 0 0,some (st.loc.length,.list e wd 0 0 ⟨tags,fun _ _=>.top⟩)⟩ (locOf st)) k:=by
  funext i
  simp only [locOf,locE]
  by_cases hi:i=j
  ·subst hi
   rw [if_pos rfl,List.getElem?_append_left (by simpa using hlt),List.getElem?_set,if_pos rfl,if_pos hlt]
  ·rw [if_neg hi]
   by_cases hn:i=st.loc.length
   ·subst hn
    rw [List.getElem?_append_right (by simp)];simp
   ·rw [if_neg hn]
    by_cases hl2:i<st.loc.length
    ·rw [List.getElem?_append_left (by simpa using hl2),List.getElem?_set,if_neg (Ne.symm hi)]
    ·rw [List.getElem?_eq_none (by simp;omega),List.getElem?_eq_none (by omega)]
 exact ⟨r',by rw [el];exact k2⟩
def DecS.ghostPC {σ:Type} (t kc:Nat) (e:TypeId) (wd:Nat) (tags:List CK) (D:DecS σ):DecS σ where
 enc:=D.enc
 dec st:=forceS st fun st=>forceS (ghostP t kc e wd tags st) fun s1=>forceS (prune (List.range s1.env.length) s1) D.dec
 ok st s h:=by
  rw [forceS_eq,forceS_eq,forceS_eq] at h
  exact (ghostP_tidy t kc e wd tags st).trans ((prune_tidy _ _).trans (D.ok _ _ h))
 len st s h:=by
  rw [forceS_eq,forceS_eq,forceS_eq] at h
  rw [D.len _ _ h,prune_len,ghostP_len]
end Go.Proofs.YtkpligkggnjcoaaGreatDoor
/-! TUb -/
namespace Go.Proofs.YtkpligkggnjcoaaGreatDoor
open Ev K
set_option maxRecDepth 100000
def rTok:RowD Tok where
 wd:=3
 tags:=[.int .i64,.str,.int .i64]
 rd f:=⟨numOf (f 0),textOf (f 1),numOf (f 2)⟩
 wr a k:=match k with
  | 0=>.int .i64 a.kind
  | 1=>.str a.text
  | _=>.int .i64 a.pos
 ok f k hk:=by
  match k,hk with
  | 0,_=>rfl
  | 1,_=>rfl
  | 2,_=>rfl
  | k+3,hk=>omega
 good _:=rfl
def lPr:DecL (Nat × Int × Bool):=.cons (dO 5) (.cons dInt (.last dB 0))
def O_pr:DecB (List Rul × Int × Int × Unit × (Nat × Int × Bool) × List Tok × Unit):=.flat 25 lTar (.flat 26 lI1 (.flat 3 lI1 (.flat 150 (.unit (dLp 4 0 0 0) (.tops 0)) (.flat 153 lPr (.rows 158 rTok .nil)))))
def R_tk:=dFn 125 V_tk
def S_pr:=DecS.ghostPC 5 0 158 3 [.int .i64,.str,.int .i64] (DecS.mk0 (.cons (dS) (.skip (.unit (dLp 0 0 0 0) (.unit (dLp 1 0 0 0) (.unit (dLp 2 0 0 0) (.unit (dLp 3 0 0 0) (.skips 11 (.last (R_tk) 55)))))))) O_pr)
def X_pr:=DecX.one .ret [2,3,4] (DecS.mk0 (.skips 2 (.unit (dLp 0 0 0 0) (.unit (dLp 1 0 0 0) (.unit (dLp 2 0 0 0) (.tops 68))))) (.flat 25 lTar (.flat 26 lI1 (.flat 3 lI1 .nil))))
noncomputable def K.st_pr:=rangeT1 P BTU81 30 18 41 [17,2,3,4,5,0] S_pr X_pr eTok
theorem rg_pr:∀ s x,(K.st_pr) s x=T.run (
 .br (Tok.kind x == (0:Int)) (
  .ret (Sum.inr (PUnit.unit,[],(7:Int),Tok.pos x,PUnit.unit))) (
  .chk (decide ((List.length s.2.2.2.2.2.2.1+(1:Nat)) * (32:Nat)≤(140737488355328:Nat)∧List.length s.2.2.2.2.2.2.1+(1:Nat)≤nat_lit 9223372036854775807)) <|
  .ret (Sum.inl (s.1,decN nRul (List.length s.2.1) fun i=>encN nRul s.2.1 ((0:Nat)+i),s.2.2.1,s.2.2.2.1,PUnit.unit,(List.length s.2.2.2.2.2.2.1+(1:Nat),s.2.2.2.2.2.1.2),decF rTok (List.length s.2.2.2.2.2.2.1+(1:Nat)) (appG (List.length s.2.2.2.2.2.2.1) (encF rTok s.2.2.2.2.2.2.1) fun i k=>Option.getD [AV.int IntKind.i64 (Tok.kind x),AV.str (Tok.text x),AV.int IntKind.i64 (Tok.pos x)][((0:Nat)+i) * (3:Nat)+k]? AV.top),PUnit.unit)))):=fun s x=>by kernel_rfl
end Go.Proofs.YtkpligkggnjcoaaGreatDoor
/-! TUc -/
namespace Go.Proofs.YtkpligkggnjcoaaGreatDoor
open Ev K
set_option maxRecDepth 100000
namespace K
def lexT (s:Str):Option (List Tok):=lexF (s.length+1) s 0
abbrev prS:=(Str × Str) × List Rul × Int × Int × Unit × (Nat × Int × Bool) × List Tok × Unit
theorem pushK (l:List Tok) (t:Tok):decF rTok (l.length+1) (appG l.length (encF rTok l) fun i k=>([(.int .i64 t.kind:AV),.str t.text,.int .i64 t.pos][(0+i) * 3+k]?).getD .top)=l ++ [t]:=by
 have:=(decF_app rTok l 1 (fun i k=>([(.int .i64 t.kind:AV),.str t.text,.int .i64 t.pos][(0+i) * 3+k]?).getD .top))
 exact this.trans rfl
theorem st_pr_eq (s0:Str × Str) (l:List Rul) (e n:Int) (p:Int × Bool) (acc:List Tok) (t:Tok) (h:acc.length≤1000000) :
  st_pr (s0,l,e,n,(),(acc.length,p),acc,()) t=some (if t.kind=0 then .inr ((),[],7,t.pos,()) else .inl (s0,l,e,n,(),((acc ++ [t]).length,p),acc ++ [t],())):=by
 rw [rg_pr]
 simp only [decN_encN,Nat.zero_add]
 by_cases hk:t.kind=0
 ·rw [if_pos hk]
  exact br_t (by rw [hk];rfl) rfl
 ·rw [if_neg hk]
  refine br_f (beq_eq_false_iff_ne.2 hk) (chk_step (decide_eq_true (by omega)) ?_)
  have e1:(acc ++ [t]).length=acc.length+1:=by simp
  have:=pushK acc t
  simp only [Nat.zero_add] at this
  rw [this,e1];rfl
theorem fold_pr (s0:Str × Str) (l:List Rul) (e n:Int) (p:Int × Bool):∀ (M acc:List Tok),acc.length+M.length≤1000000 →
  foldS st_pr M (s0,l,e,n,(),(acc.length,p),acc,())=some (match M.find? fun t=>decide (t.kind=0) with
   | some t=>.inr ((),[],7,t.pos,())
   | none=>.inl (s0,l,e,n,(),((acc ++ M).length,p),acc ++ M,())):=by
 intro M
 induction M with
 | nil=>intro acc _;rw [List.append_nil];rfl
 | cons t M ih=>
  intro acc h
  rw [List.length_cons] at h
  simp only [foldS,st_pr_eq s0 l e n p acc t (by omega)]
  by_cases hk:t.kind=0
  ·rw [if_pos hk,List.find?_cons_of_pos (by exact decide_eq_true hk)]
  ·rw [if_neg hk,List.find?_cons_of_neg (by simpa using hk)]
   have:=ih (acc ++ [t]) (by rw [List.length_append,List.length_singleton];omega)
   rw [List.append_assoc,List.singleton_append] at this
   exact this
end K
end Go.Proofs.YtkpligkggnjcoaaGreatDoor
/-! TUd -/
namespace Go.Proofs.YtkpligkggnjcoaaGreatDoor
open Ev K
set_option maxRecDepth 100000
namespace K
def toksT (s:Str):List Tok:=(lexT s).getD []
def badTk (s:Str):Option Tok:=(toksT s).find? fun t=>decide (t.kind=0)
def badP (s:Str):Int:=match badTk s with
 | some t=>t.pos
 | none=>0
def isBad (s:Str):Bool:=(badTk s).isSome
def lexOk (s:Str):Bool:=(lexT s).isSome&&decide ((toksT s).length≤900000)
def prOk (s:prS):Prop:=(s.2.2.2.2.2.2.1=[]∧s.2.2.2.2.2.1.1=0)∧s.1.2.length≤1000000∧lexOk s.1.2=true
instance (s:prS):Decidable (prOk s):=by unfold prOk;infer_instance
theorem pr_ok (s:prS) (r) (h:(T.chk (decide (prOk s)) (.br (isBad s.1.2) (.ret (Sum.inr ((),[],7,badP s.1.2,()))) (.ret (Sum.inl (s.1,s.2.1,s.2.2.1,s.2.2.2.1,(),((toksT s.1.2).length,s.2.2.2.2.2.1.2),toksT s.1.2,()))))).run=some r) :
  foldS st_pr (toksT s.1.2) s=some r:=by
 have g:=chk_of h
 have h2:=(chk_step (t:=.br (isBad s.1.2) (.ret (Sum.inr ((),[],7,badP s.1.2,()))) (.ret (Sum.inl (s.1,s.2.1,s.2.2.1,s.2.2.2.1,(),((toksT s.1.2).length,s.2.2.2.2.2.1.2),toksT s.1.2,())))) (decide_eq_true g) rfl).symm.trans h
 rw [← h2]
 obtain ⟨s0,l,e,n,u,p,acc,v⟩:=s
 obtain ⟨⟨g1,g2⟩,g3,g4⟩:=g
 simp only at g1 g2 g3 g4
 subst g1
 obtain ⟨c,p⟩:=p
 simp only at g2
 subst g2
 have hlen:(toksT s0.2).length≤900000:=of_decide_eq_true (Bool.and_eq_true _ _ ▸ g4).2
 have:=fold_pr s0 l e n p (toksT s0.2) [] (by simp;omega)
 refine this.trans ?_
 unfold isBad badP badTk
 simp only
 cases (toksT s0.2).find? fun t=>decide (t.kind=0) with
 | none=>rfl
 | some t=>rfl
theorem icl_pr {s:Str} (h1:s.length≤1000000) (h:lexOk s=true):ICL P 125 [] (V_tk.enc s) ((toksT s).map eTok):=by
 obtain ⟨L,hL⟩:=Option.isSome_iff_exists.1 ((Bool.and_eq_true _ _ ▸ h:_∧_).1)
 have e:toksT s=L:=by unfold toksT;rw [hL];rfl
 rw [e]
 exact icl_tk s h1 _ L hL
end K
noncomputable def BTUd1:Tab:=BTU81.addNode 18 41 (rangeE [17,2,3,4,5,0] S_pr X_pr (fun s=>.chk (decide (K.prOk s)) (.br (K.isBad s.1.2) (.ret (.inr ((),[],7,K.badP s.1.2,()))) (.ret (.inl (s.1,s.2.1,s.2.2.1,s.2.2.2.1,(),((K.toksT s.1.2).length,s.2.2.2.2.2.1.2),K.toksT s.1.2,()))))))
theorem tTUd1:TabOk P BTUd1:=TabOk.addRange (d:=30) (enc:=eTok) (L:=(fun s=>K.toksT s.1.2)) okP tTU81 (by kernel_rfl) (by kernel_rfl) (fun s r h=>⟨_,_,_,(by kernel_rfl:_=some (125,[],V_tk.enc s.1.2)),by have b:=K.chk_of h;exact K.icl_pr b.2.1 b.2.2⟩) (fun s r h=>K.pr_ok s r h)
end Go.Proofs.YtkpligkggnjcoaaGreatDoor
/-! TV0 -/
namespace Go.Proofs.YtkpligkggnjcoaaGreatDoor
open Ev K
set_option maxRecDepth 100000
namespace K
structure Par where
 x:XS
 pos:Int
 wrong:Bool
def Par.l (p:Par):List Tok:=decF rTok p.x.len fun i=>p.x.f (p.x.row+i)
def parOk (p:Par):Prop:=0≤p.pos∧p.pos≤p.l.length∧p.l.length≤1000000∧(p.l.all fun t=>decide (t.text.length≤1000000))=true
instance (p:Par):Decidable (parOk p):=by unfold parOk;infer_instance
def Par.bad (p:Par):Par:=⟨p.x,p.pos,true⟩
def Par.nx (p:Par):Option Tok:=if p.wrong then none else p.l[p.pos.toNat]?
def Par.step (p:Par):Par:=match p.nx with
 | some _=>⟨p.x,p.pos+1,p.wrong⟩
 | none=>⟨p.x,p.pos+1,p.wrong⟩
theorem step_def (p:Par):p.step=⟨p.x,p.pos+1,p.wrong⟩:=by unfold Par.step;split<;>rfl
def textV (p:Par):Str:=match p.nx with
 | some t=>if t.kind=3 then t.text else []
 | none=>[]
def isV (p:Par) (m:Str):Par × Bool:=if textV p=m then (p.step,true) else (p,false)
def mustV (p:Par) (m:Str):Par:=if textV p=m then p.step else p.bad
def nextV (p:Par) (k:Int):Par × Str:=match p.nx with
 | some t=>if t.kind=k then (p.step,t.text) else (p.bad,[])
 | none=>(p.bad,[])
def atoiT (s:Str):Int:=match Lib.atoiAll s with
 | .ok v=>v
 | .range=>Lib.atoiSat s
 | _=>0
def numV (p:Par):Par × Int:=((nextV p 2).1,atoiT (nextV p 2).2)
def wOf:Str:=[111,102]
def wFlat:Str:=[102,108,97,116]
def wPer:Str:=[112,101,114]
def wPay:Str:=[112,97,121]
def wAbove:Str:=[97,98,111,118,101]
def wUpto:Str:=[117,112,116,111]
def wIn:Str:=[105,110]
def wDue:Str:=[100,117,101]
def wRebate:Str:=[114,101,98,97,116,101]
def wLeast:Str:=[108,101,97,115,116]
def wMost:Str:=[109,111,115,116]
def wRound:Str:=[114,111,117,110,100]
def wUp:Str:=[117,112]
def wDown:Str:=[100,111,119,110]
def wNear:Str:=[110,101,97,114]
def wComma:Str:=[44]
def wColon:Str:=[58]
def wSemi:Str:=[59]
def listV {α:Type} (f:Par→Par × α):Nat→Par→List α→Par × List α
 | 0,p,acc=>(p,acc)
 | n+1,p,acc=>if textV p=wComma then listV f n (f p.step).1 (acc ++ [(f p.step).2]) else (p,acc)
def fuelV (p:Par):Nat:=p.l.length+1
def nameV (p:Par):Par × Str:=nextV p 1
def headV (p:Par) (k:Int):Par × Rul:=
 let a:=nameV p
 if textV a.1=wOf then
  let g:=nameV a.1.step
  let r:=listV nameV (fuelV g.1) g.1 [g.2]
  (r.1,⟨k,a.2,r.2,[],0,0,0⟩)
 else (a.1,⟨k,a.2,[],[],0,0,0⟩)
def aboveV (p:Par):Par × Int:=if textV p=wAbove then numV p.step else (p,0)
def uptoV (p:Par):Par × Int:=if textV p=wUpto then numV p.step else (p,65536)
def termV (p:Par):Par × Trm:=
 if textV p=wFlat then ((numV p.step).1,⟨0,(numV p.step).2,0,0⟩) else
  let a:=numV (mustV p wPer)
  let b:=numV (mustV a.1 wPay)
  let c:=aboveV b.1
  let d:=uptoV c.1
  (d.1,⟨a.2,b.2,c.2,d.2⟩)
def dueV (p:Par):Par × Rul:=
 let h:=headV p 1
 let t:=termV (mustV h.1 wColon)
 let r:=listV termV (fuelV t.1) t.1 [t.2]
 (r.1,⟨h.2.kind,h.2.due,h.2.grades,r.2,0,0,0⟩)
def rebateV (p:Par):Par × Rul:=
 let h:=headV p 2
 let n:=numV h.1
 let d:=numV (mustV n.1 wIn)
 (d.1,⟨h.2.kind,h.2.due,h.2.grades,[],n.2,d.2,0⟩)
def leastV (p:Par):Par × Rul:=
 let h:=headV p 3
 let n:=numV h.1
 (n.1,⟨h.2.kind,h.2.due,h.2.grades,[],n.2,0,0⟩)
def mostV (p:Par):Par × Rul:=
 let h:=headV p 4
 let n:=numV h.1
 (n.1,⟨h.2.kind,h.2.due,h.2.grades,[],n.2,0,0⟩)
def wayV (s:Str):Int:=if s=[] then 0 else if s=wUp then 1 else if s=wDown then 2 else if s=wNear then 3 else -1
def rndV (p:Par):Par × Rul:=
 let h:=headV p 5
 let w:=wayV (textV h.1)
 if w<1 then (h.1.bad,⟨h.2.kind,h.2.due,h.2.grades,[],0,0,w⟩) else
  let n:=numV h.1.step
  (n.1,⟨h.2.kind,h.2.due,h.2.grades,[],n.2,0,w⟩)
def ruleV (w:Str) (p:Par):Option (Par × Rul):=if w=wDue then some (dueV p) else if w=wRebate then some (rebateV p) else if w=wLeast then some (leastV p) else if w=wMost then some (mostV p) else if w=wRound then some (rndV p) else none
def sourceF:Nat→Par→List Rul→Par × List Rul
 | 0,p,acc=>(p,acc)
 | n+1,p,acc=>if p.pos<p.l.length∧p.wrong=false then
   match ruleV (textV p) p.step with
   | some r=>sourceF n (mustV r.1 wSemi) (acc ++ [r.2])
   | none=>(p.bad,acc)
  else (p,acc)
def sourceV (p:Par):Par × List Rul:=sourceF (fuelV p) p []
def Adv (p q:Par):Prop:=q.x=p.x∧parOk q∧p.pos≤q.pos∧(p.wrong=true→q.wrong=true)
theorem Adv.refl {p:Par} (h:parOk p):Adv p p:=⟨rfl,h,Int.le_refl _,id⟩
theorem Adv.trans {a b c:Par} (h:Adv a b) (k:Adv b c):Adv a c:=⟨k.1.trans h.1,k.2.1,Int.le_trans h.2.2.1 k.2.2.1,fun e=>k.2.2.2 (h.2.2.2 e)⟩
theorem nx_some {p:Par} {t:Tok} (h:p.nx=some t) (hp:parOk p):p.wrong=false∧p.l[p.pos.toNat]?=some t∧p.pos<p.l.length:=by
 unfold Par.nx at h
 split at h
 ·cases h
 ·rename_i hw
  have:=(List.getElem?_eq_some_iff.1 h).1
  refine ⟨by simpa using hw,h,?_⟩
  have:=hp.1
  omega
theorem step_ok {p:Par} {t:Tok} (h:p.nx=some t) (hp:parOk p):Adv p p.step:=by
 obtain ⟨h1,h2,h3⟩:=nx_some h hp
 rw [step_def]
 refine ⟨rfl,⟨?_,?_,hp.2.2⟩,?_,id⟩
 ·show 0≤p.pos+1;have:=hp.1;omega
 ·show p.pos+1≤p.l.length;omega
 ·show p.pos≤p.pos+1;omega
theorem bad_ok {p:Par} (hp:parOk p):Adv p p.bad:=⟨rfl,hp,Int.le_refl _,fun _=>rfl⟩
theorem text_nx {p:Par} {m:Str} (h:textV p=m) (hm:m≠[]):∃ t,p.nx=some t∧t.kind=3∧t.text=m:=by
 unfold textV at h
 split at h
 ·rename_i t ht
  split at h
  ·rename_i hk;exact ⟨t,ht,hk,h⟩
  ·exact absurd h.symm hm
 ·exact absurd h.symm hm
theorem text_step {p:Par} {m:Str} (h:textV p=m) (hm:m≠[]) (hp:parOk p):Adv p p.step:=by
 obtain ⟨t,ht,_⟩:=text_nx h hm
 exact step_ok ht hp
theorem must_ok {p:Par} {m:Str} (hm:m≠[]) (hp:parOk p):Adv p (mustV p m):=by
 unfold mustV
 split
 ·rename_i h;exact text_step h hm hp
 ·exact bad_ok hp
theorem next_ok {p:Par} (k:Int) (hp:parOk p):Adv p (nextV p k).1:=by
 unfold nextV
 split
 ·rename_i t ht
  split
  ·exact step_ok ht hp
  ·exact bad_ok hp
 ·exact bad_ok hp
theorem num_ok {p:Par} (hp:parOk p):Adv p (numV p).1:=next_ok 2 hp
theorem name_ok {p:Par} (hp:parOk p):Adv p (nameV p).1:=next_ok 1 hp
theorem list_ok {α:Type} {f:Par→Par × α} (hf:∀ p,parOk p→Adv p (f p).1):∀ (n:Nat) (p:Par) (acc:List α),parOk p→Adv p (listV f n p acc).1
 | 0,p,acc,hp=>Adv.refl hp
 | n+1,p,acc,hp=>by
  unfold listV
  split
  ·rename_i h
   have h1:=text_step h (by decide) hp
   have h2:=hf _ h1.2.1
   exact (h1.trans h2).trans (list_ok hf n _ _ h2.2.1)
  ·exact Adv.refl hp
theorem head_ok {p:Par} (k:Int) (hp:parOk p):Adv p (headV p k).1:=by
 unfold headV
 have h1:=name_ok hp
 simp only
 split
 ·rename_i h
  have h2:=text_step h (by decide) h1.2.1
  have h3:=name_ok h2.2.1
  exact (h1.trans (h2.trans h3)).trans (list_ok (fun _ h=>name_ok h) _ _ _ h3.2.1)
 ·exact h1
theorem above_ok {p:Par} (hp:parOk p):Adv p (aboveV p).1:=by
 unfold aboveV
 split
 ·rename_i h
  have h1:=text_step h (by decide) hp
  exact h1.trans (num_ok h1.2.1)
 ·exact Adv.refl hp
theorem upto_ok {p:Par} (hp:parOk p):Adv p (uptoV p).1:=by
 unfold uptoV
 split
 ·rename_i h
  have h1:=text_step h (by decide) hp
  exact h1.trans (num_ok h1.2.1)
 ·exact Adv.refl hp
theorem term_ok {p:Par} (hp:parOk p):Adv p (termV p).1:=by
 unfold termV
 split
 ·rename_i h
  have h1:=text_step h (by decide) hp
  exact h1.trans (num_ok h1.2.1)
 ·have h1:=must_ok (m:=wPer) (by decide) hp
  have h2:=h1.trans (num_ok h1.2.1)
  have h3:=h2.trans (must_ok (m:=wPay) (by decide) h2.2.1)
  have h4:=h3.trans (num_ok h3.2.1)
  have h5:=h4.trans (above_ok h4.2.1)
  exact h5.trans (upto_ok h5.2.1)
theorem due_ok {p:Par} (hp:parOk p):Adv p (dueV p).1:=by
 have h1:=head_ok 1 hp
 have h2:=h1.trans (must_ok (m:=wColon) (by decide) h1.2.1)
 have h3:=h2.trans (term_ok h2.2.1)
 exact h3.trans (list_ok (fun _ h=>term_ok h) _ _ _ h3.2.1)
theorem rebate_ok {p:Par} (hp:parOk p):Adv p (rebateV p).1:=by
 have h1:=head_ok 2 hp
 have h2:=h1.trans (num_ok h1.2.1)
 have h3:=h2.trans (must_ok (m:=wIn) (by decide) h2.2.1)
 exact h3.trans (num_ok h3.2.1)
theorem least_ok {p:Par} (hp:parOk p):Adv p (leastV p).1:=by
 have h1:=head_ok 3 hp
 exact h1.trans (num_ok h1.2.1)
theorem most_ok {p:Par} (hp:parOk p):Adv p (mostV p).1:=by
 have h1:=head_ok 4 hp
 exact h1.trans (num_ok h1.2.1)
theorem way_pos {s:Str} (h:¬ wayV s<1):s≠[]:=fun e=>h (by subst e;decide)
theorem round_ok {p:Par} (hp:parOk p):Adv p (rndV p).1:=by
 have h1:=head_ok 5 hp
 unfold rndV
 simp only
 split
 ·exact h1.trans (bad_ok h1.2.1)
 ·rename_i h
  have h2:=text_step rfl (way_pos h) h1.2.1
  have h3:=h1.trans h2
  exact h3.trans (num_ok h3.2.1)
theorem rule_ok {w:Str} {p:Par} {r:Par × Rul} (h:ruleV w p=some r) (hp:parOk p):Adv p r.1:=by
 unfold ruleV at h
 (repeat' split at h)<;>first | (injection h with h;subst h;first | exact due_ok hp | exact rebate_ok hp | exact least_ok hp | exact most_ok hp | exact round_ok hp) | cases h
theorem rule_ne {w:Str} {p:Par} {r:Par × Rul} (h:ruleV w p=some r):w≠[]:=fun e=>by
 subst e
 simp [ruleV,wDue,wRebate,wLeast,wMost,wRound] at h
theorem next_len {p:Par} (k:Int) (hp:parOk p):(nextV p k).2.length≤1000000:=by
 unfold nextV
 split
 ·rename_i t ht
  split
  ·exact of_decide_eq_true (List.all_eq_true.1 hp.2.2.2 t (List.mem_of_getElem? (nx_some ht hp).2.1))
  ·exact Nat.zero_le _
 ·exact Nat.zero_le _
end K
end Go.Proofs.YtkpligkggnjcoaaGreatDoor
/-! TV1 -/
namespace Go.Proofs.YtkpligkggnjcoaaGreatDoor
open Ev K
set_option maxRecDepth 100000
def lPar:DecL K.Par:=(DecL.cons (dX 3 [.int .i64,.str,.int .i64]) (.cons dInt (.last dB 0))).iso (fun p=>⟨p.1,p.2.1,p.2.2⟩) (fun s=>(s.x,s.pos,s.wrong)) (fun _=>rfl)
theorem m_text:∀ a,(methT1 P BTUd1 30 139 153 0 lPar (.tops 0) dS) a=T.run (
 .br (!Par.wrong a.1) (
  .br (decide (Par.pos a.1<(↑(len (Par.x a.1)):Int))) (
   .chk (decide ((0:Int)≤Par.pos a.1∧Par.pos a.1<(↑(XS.len (Par.x a.1)):Int))) <|
   .br (XS.g (Par.x a.1) (Int.toNat (Par.pos a.1)) (0:Nat) == (3:Int)) (
    .chk (decide ((0:Int)≤Par.pos a.1∧Par.pos a.1<(↑(XS.len (Par.x a.1)):Int))) <|
    .ret ((a.1,textOf (XS.f (Par.x a.1) (XS.row (Par.x a.1)+Int.toNat (Par.pos a.1)) (nat_lit 1))))) (
    .ret ((a.1,[])))) (
   .ret ((a.1,[])))) (
  .ret ((a.1,[])))):=fun a=>by kernel_rfl
theorem m_next:∀ a,(methT1 P BTUd1 30 215 153 0 lPar (.last dInt 0) dS) a=T.run (
 let q1:=IntKind.wrap IntKind.i64 (Par.pos a.1+(1:Int)) - (1:Int);
 let q3:=Par.x a.1;
 let q2:=(Par.mk q3 (Par.pos a.1) true,[]);
  .br (Par.wrong a.1) (
    .ret q2) (
    .br (Par.pos a.1 == (↑(len q3):Int)) (
      .ret q2) (
      .chk (decide ((0:Int)≤Par.pos a.1∧Par.pos a.1<(↑(XS.len q3):Int))) <|
      .br (XS.g q3 (Int.toNat (Par.pos a.1)) (0:Nat) != a.2) (
        .ret q2) (
        .chk (decide ((0:Int)≤IntKind.wrap IntKind.i64 q1∧IntKind.wrap IntKind.i64 q1<(↑(XS.len q3):Int))) <|
        .ret ((Par.mk q3 (IntKind.wrap IntKind.i64 (Par.pos a.1+(1:Int))) (Par.wrong a.1),textOf (XS.f q3 (XS.row q3+Int.toNat (IntKind.wrap IntKind.i64 q1)) (nat_lit 1)))))))):=fun a=>by kernel_rfl
end Go.Proofs.YtkpligkggnjcoaaGreatDoor
/-! TV2 -/
namespace Go.Proofs.YtkpligkggnjcoaaGreatDoor
open Ev K
set_option maxRecDepth 100000
namespace K
theorem par_len (p:Par):p.l.length=p.x.len:=decF_length ..
theorem par_tok {p:Par} {i:Nat} {t:Tok} (h:p.l[i]?=some t):t=⟨XS.g p.x i 0,textOf (p.x.f (p.x.row+i) 1),XS.g p.x i 2⟩:=by
 have hi:=(List.getElem?_eq_some_iff.1 h).1
 rw [par_len] at hi
 unfold Par.l at h
 simp only [decF,List.getElem?_map,List.getElem?_range hi,Option.map_some] at h
 injection h with h
 exact h.symm
theorem nx_in {p:Par} (h:parOk p) (hw:p.wrong=false) (hl:p.pos<p.l.length):∃ t,p.nx=some t∧t=⟨XS.g p.x p.pos.toNat 0,textOf (p.x.f (p.x.row+p.pos.toNat) 1),XS.g p.x p.pos.toNat 2⟩:=by
 have hi:p.pos.toNat<p.l.length:=by have:=h.1;omega
 have e:p.l[p.pos.toNat]?=some p.l[p.pos.toNat]:=List.getElem?_eq_getElem hi
 exact ⟨p.l[p.pos.toNat],by unfold Par.nx;rw [hw];exact e,par_tok e⟩
theorem nx_out {p:Par} (hl:¬ p.pos<p.l.length):p.nx=none:=by
 unfold Par.nx
 split
 ·rfl
 ·exact List.getElem?_eq_none (by omega)
theorem nx_wrong {p:Par} (hw:p.wrong=true):p.nx=none:=by unfold Par.nx;rw [hw];rfl
theorem par_clamp {p:Par} (h:parOk p):len p.x=p.l.length:=by rw [par_len];have:=h.2.2.1;rw [par_len] at this;exact cl this
theorem text_eq (p:Par) (h:parOk p):methT1 P BTUd1 30 139 153 0 lPar (.tops 0) dS (p,())=some (p,textV p):=by
 rw [m_text]
 simp only [par_clamp h,← par_len]
 unfold textV
 cases hw:p.wrong with
 | true=>
  rw [nx_wrong hw]
  exact br_f rfl rfl
 | false=>
  refine br_t rfl ?_
  by_cases hl:p.pos<p.l.length
  ·obtain ⟨t,h1,h2⟩:=nx_in h hw hl
   rw [h1]
   subst h2
   simp only
   refine br_t (decide_eq_true hl) (chk_step (decide_eq_true ⟨h.1,hl⟩) ?_)
   by_cases hk:XS.g p.x p.pos.toNat 0=3
   ·rw [if_pos hk]
    exact br_t (beq_iff_eq.2 hk) (chk_step (decide_eq_true ⟨h.1,hl⟩) rfl)
   ·rw [if_neg hk]
    exact br_f (beq_eq_false_iff_ne.2 hk) rfl
  ·rw [nx_out hl]
   exact br_f (decide_eq_false hl) rfl
theorem next_eq (p:Par) (k:Int) (h:parOk p):methT1 P BTUd1 30 215 153 0 lPar (.last dInt 0) dS (p,k)=some (nextV p k):=by
 rw [m_next]
 simp only [par_clamp h,← par_len]
 have hp:=h.1;have hq:=h.2.1;have hr:=h.2.2.1
 have w1:IntKind.i64.wrap (p.pos+1)=p.pos+1:=w64_in (by omega) (by omega)
 have w2:IntKind.i64.wrap (p.pos+1 - 1)=p.pos:=by rw [w64_in (by omega) (by omega)];omega
 simp only [w1,w2]
 unfold nextV
 cases hw:p.wrong with
 | true=>
  rw [nx_wrong hw]
  exact br_t rfl rfl
 | false=>
  refine br_f rfl ?_
  by_cases hl:p.pos<p.l.length
  ·obtain ⟨t,h1,h2⟩:=nx_in h hw hl
   rw [h1]
   subst h2
   simp only
   refine br_f (beq_eq_false_iff_ne.2 (by omega)) (chk_step (decide_eq_true ⟨h.1,hl⟩) ?_)
   by_cases hk:XS.g p.x p.pos.toNat 0=k
   ·rw [if_pos hk]
    refine br_f (by rw [hk];simp) (chk_step (decide_eq_true ⟨h.1,hl⟩) ?_)
    rw [step_def,hw];rfl
   ·rw [if_neg hk]
    exact br_t (bne_iff_ne.2 hk) rfl
  ·rw [nx_out hl]
   exact br_t (beq_iff_eq.2 (by omega)) rfl
theorem mc_ret {ω ρ:Type} {p:Prop} [Decidable p] {v:ω × ρ} {o':ω} {r:ρ} {X:Option (ω × ρ)} (h:(T.chk (decide p) (.ret v)).run=some (o',r)) (k:p→X=some v):X=some (o',r):=by
 obtain ⟨g,e⟩:=chk_ret h
 rw [k (of_decide_eq_true g),e]
def stk {α:Type} (x:Par × α):Par × α:=match x.1.wrong with
 | true=>x
 | false=>x
theorem stk_eq {α:Type} (x:Par × α):stk x=x:=by unfold stk;split<;>rfl
theorem mc_stk {ρ:Type} {p:Prop} [Decidable p] {v:Par × ρ} {o':Par} {r:ρ} {X:Option (Par × ρ)} (h:(T.chk (decide p) (.ret (stk v))).run=some (o',r)) (k:p→X=some v):X=some (o',r):=by
 rw [stk_eq] at h
 exact mc_ret h k
end K
noncomputable def BTV21:Tab:=BTUd1.addTurn 139 (methC 153 lPar (.tops 0) dS (fun a=>.chk (decide (K.parOk a.1)) (.ret (a.1,K.textV a.1))))
theorem tTV21:TabOk P BTV21:=TabOk.addMC (wd:=0) (d:=30) okP tTUd1 tTUd1 (fun o _a _o' _r h=>K.mc_ret h (K.text_eq o))
noncomputable def BTV22:Tab:=BTV21.addTurn 215 (methC 153 lPar (.last dInt 0) dS (fun a=>.chk (decide (K.parOk a.1)) (.ret (K.nextV a.1 a.2))))
theorem tTV22:TabOk P BTV22:=TabOk.addMC (wd:=0) (d:=30) okP tTV21 tTUd1 (fun o a _o' _r h=>K.mc_ret h (K.next_eq o a))
theorem m_is:∀ a,(methT1 P BTV22 30 190 153 0 lPar (.last dS 0) dB) a=T.run (
 .chk (decide (parOk a.1)) <|
 .br (textV a.1 == a.2) (
  .ret ((Par.mk (Par.x a.1) (IntKind.wrap IntKind.i64 (Par.pos a.1+(1:Int))) (Par.wrong a.1),true))) (
  .ret ((a.1,false)))):=fun a=>by kernel_rfl
theorem m_name:∀ a,(methT1 P BTV22 30 214 153 0 lPar (.tops 0) dS) a=T.run (
 .chk (decide (parOk a.1)) <|
 .ret (nextV a.1 (1:Int))):=fun a=>by kernel_rfl
end Go.Proofs.YtkpligkggnjcoaaGreatDoor
/-! TV3 -/
namespace Go.Proofs.YtkpligkggnjcoaaGreatDoor
open Ev K Go.Own Go.Shelf Go.RowKit
set_option maxRecDepth 100000
def dErr:Dec Bool where
 enc b:=match b with
  | true=>.nilif
  | false=>.errif
 dec x:=match x with
  | .nilif=>some true
  | .errif=>some false
  | _=>none
 ok x a h w A r v hv:=by
  split at h
  ·injection h with h;subst h;exact hv
  ·injection h with h;subst h;exact hv
  ·cases h
def R_ax:=dTup (.cons dInt (.last dErr 0))
namespace K
def M_ax (s:Str):T (Int × Bool):=.chk (decide (s.length≤1000000)) (.br (atoiOk s) (.ret (atoiT s,true)) (.ret (atoiT s,false)))
theorem err_tup {w:World} {A:Nat→Prop} {n:Int} {t:TypeId} {u:Value}:VR w A noR (R_ax.enc (n,false)) (.tuple #[.int .i64 n,.iface t u]):=by
 refine .tup rfl fun i x u hx hu=>?_
 match i,hx,hu with
 | 0,hx,hu=>injection hx with hx;injection hu with hu;subst hx;subst hu;exact .int
 | 1,hx,hu=>injection hx with hx;injection hu with hu;subst hx;subst hu;exact .errif
 | i+2,hx,hu=>simp at hu
theorem glob_syn:P.globalNamed "strconv.ErrSyntax"≠none:=fun h=>absurd ((by kernel_rfl:(P.globalNamed "strconv.ErrSyntax").isSome=true)) (by rw [h];exact Bool.false_ne_true)
theorem glob_rng:P.globalNamed "strconv.ErrRange"≠none:=fun h=>absurd ((by kernel_rfl:(P.globalNamed "strconv.ErrRange").isSome=true)) (by rw [h];exact Bool.false_ne_true)
theorem ax_pc (s:Str) (r:Int × Bool) (h:(M_ax s).run=some r):PC P 186 (D_s.enc s) (R_ax.enc r):=by
 have g:=chk_of h
 have h2:(T.br (atoiOk s) (.ret (atoiT s,true)) (.ret (atoiT s,false)):T (Int × Bool)).run=some r:=(chk_step (decide_eq_true g) rfl).symm.trans h
 cases hx:Lib.atoiAll s with
 | ok v=>
  have e1:atoiOk s=true:=by unfold atoiOk atoiV;rw [hx];rfl
  have e2:atoiT s=v:=by unfold atoiT;rw [hx]
  rw [e1,e2] at h2
  have h2:some (v,true)=some r:=h2
  injection h2 with h2;subst h2
  have e3:atoiN s=v:=by unfold atoiN atoiV;rw [hx];rfl
  have:=at_pc s (v,()) (by unfold M_at;rw [e3];exact chk_step (decide_eq_true ⟨g,e1⟩) rfl)
  exact this
 | range=>
  have e1:atoiOk s=false:=by unfold atoiOk atoiV;rw [hx];rfl
  have e2:atoiT s=Lib.atoiSat s:=by unfold atoiT;rw [hx]
  rw [e1,e2] at h2
  have h2:some (Lib.atoiSat s,false)=some r:=h2
  injection h2 with h2;subst h2
  intro ro n A w us hG hA hus
  obtain ⟨u,rfl,hu⟩:=VRs.one_of hus
  cases hu
  obtain ⟨ev,hv,hev⟩:=hG.err _ (.inr rfl) glob_rng
  have key:=Any.strconv_Atoi_range Tryz.laysC172 ⟨s.toArray⟩ (by show s.toArray.size≤_;simp;omega) (by simpa using hx) ev w (by have h0:=World.var?_cell (Tryz.laysC172).m16 hv 0;simpa using h0) hev
  apply callsIn_round
  refine (callsIn_wide.2 key).mono ?_
  rintro e w' ⟨N,rfl,hN,hc,hb⟩
  exact ⟨_,rfl,by simpa using err_tup,⟨hb,.inl rfl⟩⟩
 | _=>
  have e1:atoiOk s=false:=by unfold atoiOk atoiV;rw [hx];rfl
  have e2:atoiT s=0:=by unfold atoiT;rw [hx]
  rw [e1,e2] at h2
  have h2:some ((0:Int),false)=some r:=h2
  injection h2 with h2;subst h2
  intro ro n A w us hG hA hus
  obtain ⟨u,rfl,hu⟩:=VRs.one_of hus
  cases hu
  obtain ⟨ev,hv,hev⟩:=hG.err _ (.inl rfl) glob_syn
  have key:=Any.strconv_Atoi_syntax Tryz.laysC172 ⟨s.toArray⟩ (by show s.toArray.size≤_;simp;omega) (by simpa using hx) ev w (by have h0:=World.var?_cell (Tryz.laysC172).m15 hv 0;simpa using h0) hev
  apply callsIn_round
  refine (callsIn_wide.2 key).mono ?_
  rintro e w' ⟨N,rfl,hN,hc,hb⟩
  exact ⟨_,rfl,err_tup,⟨hb,.inl rfl⟩⟩
theorem stp {p:Par} (h:parOk p):IntKind.i64.wrap (p.pos+1)=p.pos+1:=by
 have h1:=h.1;have h2:=h.2.1;have h3:=h.2.2.1
 exact w64_in (by omega) (by omega)
theorem is_eq (p:Par) (m:Str) (h:parOk p):methT1 P BTV22 30 190 153 0 lPar (.last dS 0) dB (p,m)=some (isV p m):=by
 rw [m_is]
 simp only [stp h]
 refine chk_step (decide_eq_true h) ?_
 unfold isV
 by_cases e:textV p=m
 ·rw [if_pos e,step_def];exact br_t (beq_iff_eq.2 e) rfl
 ·rw [if_neg e];exact br_f (beq_eq_false_iff_ne.2 e) rfl
theorem name_eq (p:Par) (h:parOk p):methT1 P BTV22 30 214 153 0 lPar (.tops 0) dS (p,())=some (nameV p):=by
 rw [m_name]
 exact chk_step (decide_eq_true h) rfl
theorem is_mc {p p':Par} {m:Str} {r:Bool} (h:(T.chk (decide (parOk p)) (.br (decide (textV p=m)) (.ret (p.step,true)) (.ret (p,false)))).run=some (p',r)):methT1 P BTV22 30 190 153 0 lPar (.last dS 0) dB (p,m)=some (p',r):=by
 have g:=chk_of h
 rw [is_eq p m g,← h]
 refine (chk_step (decide_eq_true g) ?_).symm
 unfold isV
 by_cases e:textV p=m
 ·rw [if_pos e];exact br_t (decide_eq_true e) rfl
 ·rw [if_neg e];exact br_f (decide_eq_false e) rfl
end K
noncomputable def BTV31:Tab:=BTV22.addTurn 190 (methC 153 lPar (.last dS 0) dB (fun a=>.chk (decide (K.parOk a.1)) (.br (decide (K.textV a.1=a.2)) (.ret (a.1.step,true)) (.ret (a.1,false)))))
theorem tTV31:TabOk P BTV31:=TabOk.addMC (wd:=0) (d:=30) okP tTV22 tTV22 (fun _o _a _o' _r h=>K.is_mc h)
noncomputable def BTV32:Tab:=BTV31.addTurn 214 (methC 153 lPar (.tops 0) dS (fun a=>.chk (decide (K.parOk a.1)) (.ret (K.nameV a.1))))
theorem tTV32:TabOk P BTV32:=TabOk.addMC (wd:=0) (d:=30) okP tTV31 tTV22 (fun o _a _o' _r h=>K.mc_ret h (K.name_eq o))
noncomputable def BTV33:Tab:=BTV32.addCall 186 (callE D_s R_ax K.M_ax)
theorem tTV33:TabOk P BTV33:=TabOk.addPC tTV32 (K.ax_pc)
theorem m_must:∀ a,(methT1 P BTV33 30 140 153 0 lPar (.last dS 0) (dTup (.tops 0))) a=T.run (
 .chk (decide (parOk a.1)) <|
 .br (decide (textV a.1=a.2)) (
  .br (!true) (
   .ret ((Par.mk (Par.x (Par.step a.1)) (Par.pos (Par.step a.1)) true,PUnit.unit))) (
   .ret ((Par.step a.1,PUnit.unit)))) (
  .br (!false) (
   .ret ((Par.mk (Par.x a.1) (Par.pos a.1) true,PUnit.unit))) (
   .ret ((a.1,PUnit.unit))))):=fun a=>by kernel_rfl
theorem m_num:∀ a,(methT1 P BTV33 30 191 153 0 lPar (.tops 0) dInt) a=T.run (
 .chk (decide (parOk a.1)) <|
 .chk (decide (List.length (Prod.snd (nextV a.1 (2:Int)))≤(1000000:Nat))) <|
 .br (atoiOk (Prod.snd (nextV a.1 (2:Int)))) (
  .ret ((Prod.fst (nextV a.1 (2:Int)),atoiT (Prod.snd (nextV a.1 (2:Int)))))) (
  .ret ((Prod.fst (nextV a.1 (2:Int)),atoiT (Prod.snd (nextV a.1 (2:Int))))))):=fun a=>by kernel_rfl
end Go.Proofs.YtkpligkggnjcoaaGreatDoor
/-! TV4 -/
namespace Go.Proofs.YtkpligkggnjcoaaGreatDoor
open Ev K
set_option maxRecDepth 100000
namespace K
theorem must_eq (p:Par) (m:Str) (h:parOk p):methT1 P BTV33 30 140 153 0 lPar (.last dS 0) (dTup (.tops 0)) (p,m)=some (mustV p m,()):=by
 rw [m_must]
 refine chk_step (decide_eq_true h) ?_
 unfold mustV
 by_cases e:textV p=m
 ·rw [if_pos e];exact br_t (decide_eq_true e) (br_f rfl rfl)
 ·rw [if_neg e];exact br_f (decide_eq_false e) (br_t rfl rfl)
theorem num_eq (p:Par) (h:parOk p):methT1 P BTV33 30 191 153 0 lPar (.tops 0) dInt (p,())=some (numV p):=by
 rw [m_num]
 refine chk_step (decide_eq_true h) (chk_step (decide_eq_true (next_len 2 h)) ?_)
 cases hb:atoiOk (nextV p 2).2 with
 | true=>exact br_t rfl rfl
 | false=>exact br_f rfl rfl
end K
noncomputable def BTV41:Tab:=BTV33.addTurn 140 (methC 153 lPar (.last dS 0) (dTup (.tops 0)) (fun a=>.chk (decide (K.parOk a.1)) (.ret (K.mustV a.1 a.2,()))))
theorem tTV41:TabOk P BTV41:=TabOk.addMC (wd:=0) (d:=30) okP tTV33 tTV33 (fun o a _o' _r h=>K.mc_ret h (K.must_eq o a))
noncomputable def BTV42:Tab:=BTV41.addTurn 191 (methC 153 lPar (.tops 0) dInt (fun a=>.chk (decide (K.parOk a.1)) (.ret (K.numV a.1))))
theorem tTV42:TabOk P BTV42:=TabOk.addMC (wd:=0) (d:=30) okP tTV41 tTV33 (fun o _a _o' _r h=>K.mc_ret h (K.num_eq o))
def dNilS:Dec Unit where
 enc _:=.nilsl
 dec x:=match x with
  | .nilsl=>some ()
  | _=>none
 ok x a h w A r v hv:=by
  split at h
  ·exact hv
  ·cases h
def R_hd:Dec (Int × Str × List Str × Unit):=dAgg (.cons dInt (.cons dStr (.cons (dRows rStr) (.unit dNilS (.unit (dK 0) (.unit (dK 0) (.unit (dK 0) (.tops 0))))))))
def lRG:DecL (Int × Str × Nat × Unit):=.cons dInt (.cons dStr (.cons (dO 3) (.unit dNilS (.unit (dK 0) (.unit (dK 0) (.unit (dK 0) (.tops 0)))))))
def O_hd:DecB (Par × Rul × (Int × Str × Nat × Unit) × List Str × Unit):=.flat 153 lPar (.flat 68 lRul (.flat 68 lRG (.rows 9 rStr .nil)))
def V_me:DecL Unit:=.unit (dLp 0 0 0 0) (.tops 0)
def S_hd:=DecS.rnd (.unit (dLp 0 0 0 0) (.skips 3 (.unit (dLp 1 0 0 0) (.unit (dLp 2 0 0 0) (.tops 23))))) O_hd V_me
def X_hd:=DecX.one (.exit 0) [0,4,5] S_hd
noncomputable def K.st_hd:=loopT1 P BTV42 30 188 33 [5,0,4] S_hd X_hd
theorem sl_hd:∀ s,(K.st_hd) s=T.run (
 let q3:=s.2.1.2.1;
 let q1:=decF rStr (List.length (Rul.grades q3)) fun i=>encF rStr (Rul.grades q3) ((0:Nat)+i);
 let q2:=decF rTrm (List.length (Rul.terms q3)) fun i=>encF rTrm (Rul.terms q3) ((0:Nat)+i);
 let q4:=s.2.1.2.2.2.1;
 let q5:=Par.step s.2.1.1;
  .chk (decide (parOk s.2.1.1)) <|
  .br (decide (textV s.2.1.1=[(44:UInt8)])) (
    .chk (decide (parOk q5)) <|
    .chk (decide ((List.length q4+(1:Nat)) * (16:Nat)≤(140737488355328:Nat)∧List.length q4+(1:Nat)≤nat_lit 9223372036854775807)) <|
    .ret (Sum.inl (PUnit.unit,(Prod.fst (nameV q5),Rul.mk (Rul.kind q3) (Rul.due q3) q1 q2 (Rul.n q3) (Rul.d q3) (Rul.way q3),(s.2.1.2.2.1.1,s.2.1.2.2.1.2.1,List.length q4+(1:Nat),PUnit.unit),decF rStr (List.length q4+(1:Nat)) (appG (List.length q4) (encF rStr q4) fun i k=>Option.getD [AV.str (Prod.snd (nameV q5))][((0:Nat)+i) * (1:Nat)+k]? AV.top),PUnit.unit),PUnit.unit))) (
    .ret (Sum.inr (PUnit.unit,(s.2.1.1,Rul.mk (Rul.kind q3) (Rul.due q3) q1 q2 (Rul.n q3) (Rul.d q3) (Rul.way q3),(s.2.1.2.2.1.1,s.2.1.2.2.1.2.1,s.2.1.2.2.1.2.2.1,PUnit.unit),decF rStr (List.length q4) (encF rStr q4),PUnit.unit),PUnit.unit)))):=fun s=>by kernel_rfl
noncomputable def K.L_hd:=lim K.st_hd
noncomputable def BTV43:Tab:=BTV42.addNode 188 33 (nodeE [5,0,4] S_hd X_hd (fun s=>.obs (K.L_hd s) .ret))
theorem tTV43:TabOk P BTV43:=TabOk.addLoop (d:=30) okP tTV42 (by kernel_rfl) (by kernel_rfl) (fun s r h=>obs_ret h)
theorem m_head:∀ a,(methT1 P BTV43 30 188 153 0 lPar (.last dInt 0) R_hd) a=T.run (
 let q1:=Prod.fst (nameV a.1);
  .chk (decide (parOk a.1)) <|
  .chk (decide (parOk q1)) <|
  .br (decide (textV q1=[(111:UInt8),(102:UInt8)])) (
    .chk (decide (parOk (Par.step q1))) <|
    .obs (L_hd (PUnit.unit,(Prod.fst (nameV (Par.step q1)),Rul.mk (0:Int) [] [] [] (0:Int) (0:Int) (0:Int),(a.2,Prod.snd (nameV a.1),(1:Nat),PUnit.unit),decF rStr (1:Nat) fun i k=>Option.getD [AV.str (Prod.snd (nameV (Par.step q1)))][((0:Nat)+i) * (1:Nat)+k]? AV.top,PUnit.unit),PUnit.unit)) fun x0=>
      .ret ((x0.2.1.1,x0.2.1.2.2.1.1,x0.2.1.2.2.1.2.1,decF rStr (List.length x0.2.1.2.2.2.1) fun i=>encF rStr x0.2.1.2.2.2.1 ((0:Nat)+i),PUnit.unit))) (
    .ret ((Prod.fst (nameV a.1),a.2,Prod.snd (nameV a.1),[],PUnit.unit)))):=fun a=>by kernel_rfl
end Go.Proofs.YtkpligkggnjcoaaGreatDoor
/-! TV5 -/
namespace Go.Proofs.YtkpligkggnjcoaaGreatDoor
open Ev K
set_option maxRecDepth 100000
namespace K
theorem pushS1 (l:List Str) (s:Str):decF rStr (l.length+1) (appG l.length (encF rStr l) fun i k=>([(.str s:AV)][i * 1+k]?).getD .top)=l ++ [s]:=(decF_app rStr l 1 _).trans rfl
theorem left_lt {p q:Par} (h:Adv p.step q) {m:Int} (hm:(p.l.length:Int) - p.pos<m+1):(q.l.length:Int) - q.pos<m∧(q.l.length:Int) - q.pos+1≤(p.l.length:Int) - p.pos:=by
 have e:q.l.length=p.l.length:=by have:=h.1;rw [step_def] at this;unfold Par.l;rw [this]
 have h1:p.pos+1≤q.pos:=by have:=h.2.2.1;rw [step_def] at this;exact this
 omega
theorem L_hd_eq (z:Rul) (k:Int) (d:Str):∀ (m:Nat) (p:Par) (g:List Str),parOk p→(p.l.length:Int) - p.pos<m→(g.length:Int)+((p.l.length:Int) - p.pos)≤1100000 →
  L_hd ((),(p,z,(k,d,g.length,()),g,()),())=some ((),((listV nameV m p g).1,z,(k,d,(listV nameV m p g).2.length,()),(listV nameV m p g).2,()),()):=by
 intro m
 induction m with
 | zero=>intro p g hp hm _;have:=hp.2.1;omega
 | succ m ih=>
  intro p g hp hm hg
  unfold listV
  have hq:=hp.2.1
  by_cases hc:textV p=wComma
  ·rw [if_pos hc]
   have h1:=text_step hc (by decide) hp
   have h2:=name_ok h1.2.1
   obtain ⟨r1,r2⟩:=left_lt h2 (m:=m) (by omega)
   have r3:((g ++ [(nameV p.step).2]).length:Int)=(g.length:Int)+1:=by rw [List.length_append];simp
   refine (lim_step ?_).trans (ih (nameV p.step).1 (g ++ [(nameV p.step).2]) h2.2.1 r1 (by omega))
   rw [sl_hd]
   simp only [Nat.zero_add,decF_encF]
   refine chk_step (decide_eq_true hp) (br_t (decide_eq_true hc) (chk_step (decide_eq_true h1.2.1) (chk_step (decide_eq_true (by omega)) ?_)))
   simp only [pushS1]
   rw [List.length_append,List.length_singleton];rfl
  ·rw [if_neg hc]
   refine lim_done ?_
   rw [sl_hd]
   simp only [Nat.zero_add,decF_encF]
   exact chk_step (decide_eq_true hp) (br_f (decide_eq_false hc) rfl)
theorem fuel_lt (p:Par) (h:parOk p):(p.l.length:Int) - p.pos<(fuelV p:Nat):=by unfold fuelV;have:=h.1;omega
def headW (p:Par) (k:Int):Par × Int × Str × List Str × Unit:=((headV p k).1,(headV p k).2.kind,(headV p k).2.due,(headV p k).2.grades,())
theorem head_eq (p:Par) (k:Int) (h:parOk p):methT1 P BTV43 30 188 153 0 lPar (.last dInt 0) R_hd (p,k)=some (headW p k):=by
 rw [m_head]
 have h1:=name_ok h
 unfold headW headV
 simp only [Nat.zero_add]
 refine chk_step (decide_eq_true h) (chk_step (decide_eq_true h1.2.1) ?_)
 by_cases hc:textV (nameV p).1=wOf
 ·rw [if_pos hc]
  have h2:=text_step hc (by decide) h1.2.1
  have h3:=name_ok h2.2.1
  refine br_t (decide_eq_true hc) (chk_step (decide_eq_true h2.2.1) ?_)
  refine obs_step (L_hd_eq _ _ _ (fuelV (nameV (nameV p).1.step).1) (nameV (nameV p).1.step).1 [(nameV (nameV p).1.step).2] h3.2.1 (fuel_lt _ h3.2.1) ?_) ?_
  rotate_left
  ·simp only [decF_encF];rfl
  have a:=h3.2.1.1;have b:=h3.2.1.2.2.1
  show (1:Int)+_≤_;omega
 ·rw [if_neg hc]
  exact br_f (decide_eq_false hc) rfl
end K
noncomputable def BTV51:Tab:=BTV43.addTurn 188 (methC 153 lPar (.last dInt 0) R_hd (fun a=>.chk (decide (K.parOk a.1)) (.ret (K.headW a.1 a.2))))
theorem tTV51:TabOk P BTV51:=TabOk.addMC (wd:=0) (d:=30) okP tTV43 tTV43 (fun o a _o' _r h=>K.mc_ret h (K.head_eq o a))
theorem m_term:∀ a,(methT1 P BTV51 30 189 153 0 lPar (.tops 0) dTrm) a=T.run (
 let q8:=(112:UInt8);
 let q2:=mustV a.1 [q8,(101:UInt8),(114:UInt8)];
 let q4:=mustV (Prod.fst (numV q2)) [q8,(97:UInt8),(121:UInt8)];
 let q1:=numV q4;
 let q5:=q1.1;
 let q3:=numV (Par.step q5);
 let q6:=Prod.snd (numV q2);
 let q7:=Par.step q3.1;
 let q9:=q1.2;
  .chk (decide (parOk a.1)) <|
  .br (decide (textV a.1=[(102:UInt8),(108:UInt8),(97:UInt8),(116:UInt8)])) (
    .chk (decide (parOk (Par.step a.1))) <|
    .ret ((Prod.fst (numV (Par.step a.1)),Trm.mk (0:Int) (Prod.snd (numV (Par.step a.1))) (0:Int) (0:Int)))) (
    .chk (decide (parOk a.1)) <|
    .chk (decide (parOk q2)) <|
    .chk (decide (parOk (Prod.fst (numV q2)))) <|
    .chk (decide (parOk q4)) <|
    .chk (decide (parOk q5)) <|
    .br (decide (textV q5=[(97:UInt8),(98:UInt8),(111:UInt8),(118:UInt8),(101:UInt8)])) (
      .chk (decide (parOk (Par.step q5))) <|
      .chk (decide (parOk q3.1)) <|
      .br (decide (textV q3.1=[(117:UInt8),q8,(116:UInt8),(111:UInt8)])) (
        .chk (decide (parOk q7)) <|
        .ret ((Prod.fst (numV q7),Trm.mk q6 q9 q3.2 (Prod.snd (numV q7))))) (
        .ret ((q3.1,Trm.mk q6 q9 q3.2 (65536:Int))))) (
      .chk (decide (parOk q5)) <|
      .br (decide (textV q5=[(117:UInt8),q8,(116:UInt8),(111:UInt8)])) (
        .chk (decide (parOk (Par.step q5))) <|
        .ret ((q3.1,Trm.mk q6 q9 (0:Int) q3.2))) (
        .ret ((q1.1,Trm.mk q6 q9 (0:Int) (65536:Int))))))):=fun a=>by kernel_rfl
theorem m_reb:∀ a,(methT1 P BTV51 30 135 153 0 lPar (.tops 0) dRul) a=T.run (
 .chk (decide (parOk a.1)) <|
 .chk (decide (parOk (Prod.fst (headW a.1 (2:Int))))) <|
 .chk (decide (parOk (Prod.fst (numV (Prod.fst (headW a.1 (2:Int))))))) <|
 .chk (decide (parOk (mustV (Prod.fst (numV (Prod.fst (headW a.1 (2:Int))))) [(105:UInt8),(110:UInt8)]))) <|
 .ret ((Prod.fst (numV (mustV (Prod.fst (numV (Prod.fst (headW a.1 (2:Int))))) [(105:UInt8),(110:UInt8)])),Rul.mk (Rul.kind (Prod.snd (headV a.1 (2:Int)))) (Rul.due (Prod.snd (headV a.1 (2:Int)))) (decF rStr (List.length (Rul.grades (Prod.snd (headV a.1 (2:Int))))) fun i=>encF rStr (Rul.grades (Prod.snd (headV a.1 (2:Int)))) ((0:Nat)+i)) [] (Prod.snd (numV (Prod.fst (headW a.1 (2:Int))))) (Prod.snd (numV (mustV (Prod.fst (numV (Prod.fst (headW a.1 (2:Int))))) [(105:UInt8),(110:UInt8)]))) (0:Int)))):=fun a=>by kernel_rfl
theorem m_lea:∀ a,(methT1 P BTV51 30 136 153 0 lPar (.tops 0) dRul) a=T.run (
 .chk (decide (parOk a.1)) <|
 .chk (decide (parOk (Prod.fst (headW a.1 (3:Int))))) <|
 .ret ((Prod.fst (numV (Prod.fst (headW a.1 (3:Int)))),Rul.mk (Rul.kind (Prod.snd (headV a.1 (3:Int)))) (Rul.due (Prod.snd (headV a.1 (3:Int)))) (decF rStr (List.length (Rul.grades (Prod.snd (headV a.1 (3:Int))))) fun i=>encF rStr (Rul.grades (Prod.snd (headV a.1 (3:Int)))) ((0:Nat)+i)) [] (Prod.snd (numV (Prod.fst (headW a.1 (3:Int))))) (0:Int) (0:Int)))):=fun a=>by kernel_rfl
theorem m_mos:∀ a,(methT1 P BTV51 30 137 153 0 lPar (.tops 0) dRul) a=T.run (
 .chk (decide (parOk a.1)) <|
 .chk (decide (parOk (Prod.fst (headW a.1 (4:Int))))) <|
 .ret ((Prod.fst (numV (Prod.fst (headW a.1 (4:Int)))),Rul.mk (Rul.kind (Prod.snd (headV a.1 (4:Int)))) (Rul.due (Prod.snd (headV a.1 (4:Int)))) (decF rStr (List.length (Rul.grades (Prod.snd (headV a.1 (4:Int))))) fun i=>encF rStr (Rul.grades (Prod.snd (headV a.1 (4:Int)))) ((0:Nat)+i)) [] (Prod.snd (numV (Prod.fst (headW a.1 (4:Int))))) (0:Int) (0:Int)))):=fun a=>by kernel_rfl
end Go.Proofs.YtkpligkggnjcoaaGreatDoor
/-! TV6 -/
namespace Go.Proofs.YtkpligkggnjcoaaGreatDoor
open Ev K
set_option maxRecDepth 100000
namespace K
theorem tmV_eq (p:Par) (h:parOk p):methT1 P BTV51 30 189 153 0 lPar (.tops 0) dTrm (p,())=some (termV p):=by
 rw [m_term]
 unfold termV
 refine chk_step (decide_eq_true h) ?_
 by_cases hf:textV p=wFlat
 ·rw [if_pos hf]
  exact br_t (decide_eq_true hf) (chk_step (decide_eq_true (text_step hf (by decide) h).2.1) rfl)
 ·rw [if_neg hf]
  refine br_f (decide_eq_false hf) ?_
  have h1:=must_ok (m:=wPer) (by decide) h
  have h2:=num_ok h1.2.1
  have h3:=must_ok (m:=wPay) (by decide) h2.2.1
  have h4:=num_ok h3.2.1
  refine chk_step (decide_eq_true h) (chk_step (decide_eq_true h1.2.1) (chk_step (decide_eq_true h2.2.1) (chk_step (decide_eq_true h3.2.1) (chk_step (decide_eq_true h4.2.1) ?_))))
  show _=some (_,Trm.mk _ _ _ _)
  simp only [show ([112,101,114]:Str)=wPer from rfl,show ([112,97,121]:Str)=wPay from rfl,show ([97,98,111,118,101]:Str)=wAbove from rfl,show ([117,112,116,111]:Str)=wUpto from rfl]
  generalize numV (mustV p wPer)=a at *
  generalize numV (mustV a.1 wPay)=b at *
  unfold aboveV uptoV
  by_cases ha:textV b.1=wAbove
  ·rw [if_pos ha]
   have h5:=text_step ha (by decide) h4.2.1
   have h6:=num_ok h5.2.1
   refine br_t (decide_eq_true ha) (chk_step (decide_eq_true h5.2.1) (chk_step (decide_eq_true h6.2.1) ?_))
   by_cases hu:textV (numV b.1.step).1=wUpto
   ·rw [if_pos hu]
    exact br_t (decide_eq_true hu) (chk_step (decide_eq_true (text_step hu (by decide) h6.2.1).2.1) rfl)
   ·rw [if_neg hu]
    exact br_f (decide_eq_false hu) rfl
  ·rw [if_neg ha]
   refine br_f (decide_eq_false ha) (chk_step (decide_eq_true h4.2.1) ?_)
   by_cases hu:textV b.1=wUpto
   ·rw [if_pos hu]
    exact br_t (decide_eq_true hu) (chk_step (decide_eq_true (text_step hu (by decide) h4.2.1).2.1) rfl)
   ·rw [if_neg hu]
    exact br_f (decide_eq_false hu) rfl
theorem reb_eq (p:Par) (h:parOk p):methT1 P BTV51 30 135 153 0 lPar (.tops 0) dRul (p,())=some (rebateV p):=by
 rw [m_reb]
 have h1:=head_ok 2 h
 have h2:=num_ok h1.2.1
 have h3:=must_ok (m:=wIn) (by decide) h2.2.1
 simp only [Nat.zero_add,decF_encF]
 exact chk_step (decide_eq_true h) (chk_step (decide_eq_true h1.2.1) (chk_step (decide_eq_true h2.2.1) (chk_step (decide_eq_true h3.2.1) rfl)))
theorem lea_eq (p:Par) (h:parOk p):methT1 P BTV51 30 136 153 0 lPar (.tops 0) dRul (p,())=some (leastV p):=by
 rw [m_lea]
 have h1:=head_ok 3 h
 simp only [Nat.zero_add,decF_encF]
 exact chk_step (decide_eq_true h) (chk_step (decide_eq_true h1.2.1) rfl)
theorem mos_eq (p:Par) (h:parOk p):methT1 P BTV51 30 137 153 0 lPar (.tops 0) dRul (p,())=some (mostV p):=by
 rw [m_mos]
 have h1:=head_ok 4 h
 simp only [Nat.zero_add,decF_encF]
 exact chk_step (decide_eq_true h) (chk_step (decide_eq_true h1.2.1) rfl)
end K
noncomputable def BTV61:Tab:=BTV51.addTurn 189 (methC 153 lPar (.tops 0) dTrm (fun a=>.chk (decide (K.parOk a.1)) (.ret (K.stk (K.termV a.1)))))
theorem tTV61:TabOk P BTV61:=TabOk.addMC (wd:=0) (d:=30) okP tTV51 tTV51 (fun o _a _o' _r h=>K.mc_stk h (K.tmV_eq o))
noncomputable def BTV62:Tab:=BTV61.addTurn 135 (methC 153 lPar (.tops 0) dRul (fun a=>.chk (decide (K.parOk a.1)) (.ret (K.stk (K.rebateV a.1)))))
theorem tTV62:TabOk P BTV62:=TabOk.addMC (wd:=0) (d:=30) okP tTV61 tTV51 (fun o _a _o' _r h=>K.mc_stk h (K.reb_eq o))
noncomputable def BTV63:Tab:=BTV62.addTurn 136 (methC 153 lPar (.tops 0) dRul (fun a=>.chk (decide (K.parOk a.1)) (.ret (K.stk (K.leastV a.1)))))
theorem tTV63:TabOk P BTV63:=TabOk.addMC (wd:=0) (d:=30) okP tTV62 tTV51 (fun o _a _o' _r h=>K.mc_stk h (K.lea_eq o))
noncomputable def BTV64:Tab:=BTV63.addTurn 137 (methC 153 lPar (.tops 0) dRul (fun a=>.chk (decide (K.parOk a.1)) (.ret (K.stk (K.mostV a.1)))))
theorem tTV64:TabOk P BTV64:=TabOk.addMC (wd:=0) (d:=30) okP tTV63 tTV51 (fun o _a _o' _r h=>K.mc_stk h (K.mos_eq o))
def lRT:DecL (Int × Str × List Str × Nat × Unit):=.cons dInt (.cons dStr (.cons (dRows rStr) (.cons (dO 3) (.unit (dK 0) (.unit (dK 0) (.unit (dK 0) (.tops 0)))))))
def O_du:DecB (Par × Rul × (Int × Str × List Str × Nat × Unit) × List Trm × Unit):=.flat 153 lPar (.flat 68 lRul (.flat 68 lRT (.rows 86 rTrm .nil)))
def S_du:=DecS.rnd (.unit (dLp 0 0 0 0) (.skip (.unit (dLp 1 0 0 0) (.unit (dLp 2 0 0 0) (.tops 21))))) O_du V_me
def X_du:=DecX.one (.exit 0) [0,2,3] S_du
noncomputable def K.st_du:=loopT1 P BTV64 30 134 33 [3,0,2] S_du X_du
theorem sl_du:∀ s,(K.st_du) s=T.run (
 let q7:=Par.step s.2.1.1;
 let q1:=Prod.snd (stk (termV q7));
 let q4:=s.2.1.2.1;
 let q2:=decF rStr (List.length (Rul.grades q4)) fun i=>encF rStr (Rul.grades q4) ((0:Nat)+i);
 let q3:=decF rTrm (List.length (Rul.terms q4)) fun i=>encF rTrm (Rul.terms q4) ((0:Nat)+i);
 let q5:=s.2.1.2.2.2.1;
 let q6:=s.2.1.2.2.1.2.2.1;
  .chk (decide (parOk s.2.1.1)) <|
  .br (decide (textV s.2.1.1=[(44:UInt8)])) (
    .chk (decide (parOk q7)) <|
    .chk (decide ((List.length q5+(1:Nat)) * (32:Nat)≤(140737488355328:Nat)∧List.length q5+(1:Nat)≤nat_lit 9223372036854775807)) <|
    .ret (Sum.inl (PUnit.unit,(Prod.fst (stk (termV q7)),Rul.mk (Rul.kind q4) (Rul.due q4) q2 q3 (Rul.n q4) (Rul.d q4) (Rul.way q4),(s.2.1.2.2.1.1,s.2.1.2.2.1.2.1,decF rStr (List.length q6) fun i=>encF rStr q6 ((0:Nat)+i),List.length q5+(1:Nat),PUnit.unit),decF rTrm (List.length q5+(1:Nat)) (appG (List.length q5) (encF rTrm q5) fun i k=>Option.getD [AV.int IntKind.i64 (Trm.per q1),AV.int IntKind.i64 (Trm.pay q1),AV.int IntKind.i64 (Trm.above q1),AV.int IntKind.i64 (Trm.upto q1)][((0:Nat)+i) * (4:Nat)+k]? AV.top),PUnit.unit),PUnit.unit))) (
    .ret (Sum.inr (PUnit.unit,(s.2.1.1,Rul.mk (Rul.kind q4) (Rul.due q4) q2 q3 (Rul.n q4) (Rul.d q4) (Rul.way q4),(s.2.1.2.2.1.1,s.2.1.2.2.1.2.1,decF rStr (List.length q6) fun i=>encF rStr q6 ((0:Nat)+i),s.2.1.2.2.1.2.2.2.1,PUnit.unit),decF rTrm (List.length q5) (encF rTrm q5),PUnit.unit),PUnit.unit)))):=fun s=>by kernel_rfl
noncomputable def K.L_du:=lim K.st_du
noncomputable def BTV65:Tab:=BTV64.addNode 134 33 (nodeE [3,0,2] S_du X_du (fun s=>.obs (K.L_du s) .ret))
theorem tTV65:TabOk P BTV65:=TabOk.addLoop (d:=30) okP tTV64 (by kernel_rfl) (by kernel_rfl) (fun s r h=>obs_ret h)
theorem m_due:∀ a,(methT1 P BTV65 30 134 153 0 lPar (.tops 0) dRul) a=T.run (
 let q3:=Prod.fst (headW a.1 (1:Int));
 let q1:=stk (termV (mustV q3 [(58:UInt8)]));
 let q2:=Prod.snd (headV a.1 (1:Int));
 let q4:=(0:Int);
 let q5:=q1.2;
  .chk (decide (parOk a.1)) <|
  .chk (decide (parOk q3)) <|
  .chk (decide (parOk (mustV q3 [(58:UInt8)]))) <|
  .obs (L_du (PUnit.unit,(q1.1,Rul.mk q4 [] [] [] q4 q4 q4,(Rul.kind q2,Rul.due q2,decF rStr (List.length (Rul.grades q2)) fun i=>encF rStr (Rul.grades q2) ((0:Nat)+i),(1:Nat),PUnit.unit),decF rTrm (1:Nat) fun i k=>Option.getD [AV.int IntKind.i64 (Trm.per q5),AV.int IntKind.i64 (Trm.pay q5),AV.int IntKind.i64 (Trm.above q5),AV.int IntKind.i64 (Trm.upto q5)][((0:Nat)+i) * (4:Nat)+k]? AV.top,PUnit.unit),PUnit.unit)) fun x0=>
    .ret ((x0.2.1.1,Rul.mk x0.2.1.2.2.1.1 x0.2.1.2.2.1.2.1 (decF rStr (List.length x0.2.1.2.2.1.2.2.1) fun i=>encF rStr x0.2.1.2.2.1.2.2.1 ((0:Nat)+i)) (decF rTrm (List.length x0.2.1.2.2.2.1) fun i=>encF rTrm x0.2.1.2.2.2.1 ((0:Nat)+i)) q4 q4 q4))):=fun a=>by kernel_rfl
end Go.Proofs.YtkpligkggnjcoaaGreatDoor
/-! TV7 -/
namespace Go.Proofs.YtkpligkggnjcoaaGreatDoor
open Ev K
set_option maxRecDepth 100000
namespace K
theorem pushT1 (l:List Trm) (a b c d:Int):decF rTrm (l.length+1) (appG l.length (encF rTrm l) fun i k=>([(.int .i64 a:AV),.int .i64 b,.int .i64 c,.int .i64 d][i * 4+k]?).getD .top)=l ++ [⟨a,b,c,d⟩]:=(decF_app rTrm l 1 _).trans rfl
theorem L_du_eq (z:Rul) (k:Int) (d:Str) (gr:List Str):∀ (m:Nat) (p:Par) (g:List Trm),parOk p→(p.l.length:Int) - p.pos<m→(g.length:Int)+((p.l.length:Int) - p.pos)≤1100000 →
  L_du ((),(p,z,(k,d,gr,g.length,()),g,()),())=some ((),((listV termV m p g).1,z,(k,d,gr,(listV termV m p g).2.length,()),(listV termV m p g).2,()),()):=by
 intro m
 induction m with
 | zero=>intro p g hp hm _;have:=hp.2.1;omega
 | succ m ih=>
  intro p g hp hm hg
  unfold listV
  have hq:=hp.2.1
  by_cases hc:textV p=wComma
  ·rw [if_pos hc]
   have h1:=text_step hc (by decide) hp
   have h2:=term_ok h1.2.1
   obtain ⟨r1,r2⟩:=left_lt h2 (m:=m) (by omega)
   have r3:((g ++ [(termV p.step).2]).length:Int)=(g.length:Int)+1:=by rw [List.length_append];simp
   refine (lim_step ?_).trans (ih (termV p.step).1 (g ++ [(termV p.step).2]) h2.2.1 r1 (by omega))
   rw [sl_du]
   simp only [Nat.zero_add,decF_encF,stk_eq]
   refine chk_step (decide_eq_true hp) (br_t (decide_eq_true hc) (chk_step (decide_eq_true h1.2.1) (chk_step (decide_eq_true (by omega)) ?_)))
   simp only [pushT1]
   rw [List.length_append,List.length_singleton];rfl
  ·rw [if_neg hc]
   refine lim_done ?_
   rw [sl_du]
   simp only [Nat.zero_add,decF_encF,stk_eq]
   exact chk_step (decide_eq_true hp) (br_f (decide_eq_false hc) rfl)
theorem due_eq (p:Par) (h:parOk p):methT1 P BTV65 30 134 153 0 lPar (.tops 0) dRul (p,())=some (dueV p):=by
 rw [m_due]
 have h1:=head_ok 1 h
 have h2:=must_ok (m:=wColon) (by decide) h1.2.1
 have h3:=term_ok h2.2.1
 simp only [Nat.zero_add,decF_encF,stk_eq]
 refine chk_step (decide_eq_true h) (chk_step (decide_eq_true h1.2.1) (chk_step (decide_eq_true h2.2.1) ?_))
 refine obs_step (L_du_eq _ _ _ _ (fuelV (termV (mustV (headV p 1).1 wColon)).1) (termV (mustV (headV p 1).1 wColon)).1 [(termV (mustV (headV p 1).1 wColon)).2] h3.2.1 (fuel_lt _ h3.2.1) ?_) ?_
 ·have a:=h3.2.1.1;have b:=h3.2.1.2.2.1
  show (1:Int)+_≤_;omega
 ·simp only;rfl
end K
noncomputable def BTV71:Tab:=BTV65.addTurn 134 (methC 153 lPar (.tops 0) dRul (fun a=>.chk (decide (K.parOk a.1)) (.ret (K.stk (K.dueV a.1)))))
theorem tTV71:TabOk P BTV71:=TabOk.addMC (wd:=0) (d:=30) okP tTV65 tTV65 (fun o _a _o' _r h=>K.mc_stk h (K.due_eq o))
noncomputable def BTV72:Tab:=BTV71.addInl 169
theorem tTV72:TabOk P BTV72:=TabOk.addInl tTV71
theorem m_rnd:∀ a,(methT1 P BTV72 30 138 153 0 lPar (.tops 0) dRul) a=T.run (
 let q2:=Prod.fst (headW a.1 (5:Int));
 let q1:=ixI (decF rStr (4:Nat) fun i k=>Option.getD [AV.str [],AV.str [(117:UInt8),(112:UInt8)],AV.str [(100:UInt8),(111:UInt8),(119:UInt8),(110:UInt8)],AV.str [(110:UInt8),(101:UInt8),(97:UInt8),(114:UInt8)]][((0:Nat)+i) * (1:Nat)+k]? AV.top) fun y=>textV q2 == y;
 let q3:=Prod.snd (headV a.1 (5:Int));
 let q4:=Par.mk (Par.x q2) (IntKind.wrap IntKind.i64 (Par.pos q2+(1:Int))) (Par.wrong q2);
 let q5:=decF rStr (List.length (Rul.grades q3)) fun i=>encF rStr (Rul.grades q3) ((0:Nat)+i);
  .chk (decide (parOk a.1)) <|
  .chk (decide (parOk q2)) <|
  .chk (decide (nat_lit 4≤(1000000:Nat))) <|
  .br (decide (q1<(1:Int))) (
    .ret ((Par.mk (Par.x q2) (Par.pos q2) true,Rul.mk (Rul.kind q3) (Rul.due q3) q5 [] (0:Int) (0:Int) q1))) (
    .chk (decide (parOk q4)) <|
    .ret ((Prod.fst (numV q4),Rul.mk (Rul.kind q3) (Rul.due q3) q5 [] (Prod.snd (numV q4)) (0:Int) q1)))):=fun a=>by kernel_rfl
end Go.Proofs.YtkpligkggnjcoaaGreatDoor
/-! TV8 -/
namespace Go.Proofs.YtkpligkggnjcoaaGreatDoor
open Ev K
set_option maxRecDepth 100000
namespace K
theorem way_ix (s:Str):ixI [[],wUp,wDown,wNear] (fun y=>s == y)=wayV s:=by
 unfold ixI wayV
 have e:first (atP [[],wUp,wDown,wNear] fun y=>s == y) ([[],wUp,wDown,wNear]:List Str).length=if s=[] then some 0 else if s=wUp then some 1 else if s=wDown then some 2 else if s=wNear then some 3 else none:=by
  show (List.range 4).find? _=_
  rw [show List.range 4=[0,1,2,3] from rfl]
  simp only [List.find?_cons,List.find?_nil,show atP [[],wUp,wDown,wNear] (fun y=>s == y) 0=(s == []) from rfl,show atP [[],wUp,wDown,wNear] (fun y=>s == y) 1=(s == wUp) from rfl,
   show atP [[],wUp,wDown,wNear] (fun y=>s == y) 2=(s == wDown) from rfl,show atP [[],wUp,wDown,wNear] (fun y=>s == y) 3=(s == wNear) from rfl]
  by_cases h0:s=[]
  ·rw [if_pos h0,beq_iff_eq.2 h0]
  ·rw [if_neg h0,beq_eq_false_iff_ne.2 h0]
   by_cases h1:s=wUp
   ·rw [if_pos h1,beq_iff_eq.2 h1]
   ·rw [if_neg h1,beq_eq_false_iff_ne.2 h1]
    by_cases h2:s=wDown
    ·rw [if_pos h2,beq_iff_eq.2 h2]
    ·rw [if_neg h2,beq_eq_false_iff_ne.2 h2]
     by_cases h3:s=wNear
     ·rw [if_pos h3,beq_iff_eq.2 h3]
     ·rw [if_neg h3,beq_eq_false_iff_ne.2 h3]
 rw [e]
 by_cases h0:s=[]
 ·rw [if_pos h0,if_pos h0];rfl
 rw [if_neg h0,if_neg h0]
 by_cases h1:s=wUp
 ·rw [if_pos h1,if_pos h1];rfl
 rw [if_neg h1,if_neg h1]
 by_cases h2:s=wDown
 ·rw [if_pos h2,if_pos h2];rfl
 rw [if_neg h2,if_neg h2]
 by_cases h3:s=wNear
 ·rw [if_pos h3,if_pos h3];rfl
 rw [if_neg h3,if_neg h3]
theorem rnd_eq (p:Par) (h:parOk p):methT1 P BTV72 30 138 153 0 lPar (.tops 0) dRul (p,())=some (rndV p):=by
 rw [m_rnd]
 have h1:=head_ok 5 h
 have hw:=stp h1.2.1
 have e4:(decF rStr 4 fun i k=>([(.str []:AV),.str [117,112],.str [100,111,119,110],.str [110,101,97,114]][(0+i) * 1+k]?).getD .top)=[[],wUp,wDown,wNear]:=rfl
 rw [e4]
 simp only [Nat.zero_add,decF_encF,way_ix,show (headW p 5).1=(headV p 5).1 from rfl,hw,← step_def]
 unfold rndV
 simp only
 refine chk_step (decide_eq_true h) (chk_step (decide_eq_true h1.2.1) (chk_step rfl ?_))
 by_cases hc:wayV (textV (headV p 5).1)<1
 ·rw [if_pos hc]
  exact br_t (decide_eq_true hc) rfl
 ·rw [if_neg hc]
  exact br_f (decide_eq_false hc) (chk_step (decide_eq_true (text_step rfl (way_pos hc) h1.2.1).2.1) rfl)
end K
noncomputable def BTV81:Tab:=BTV72.addTurn 138 (methC 153 lPar (.tops 0) dRul (fun a=>.chk (decide (K.parOk a.1)) (.ret (K.stk (K.rndV a.1)))))
theorem tTV81:TabOk P BTV81:=TabOk.addMC (wd:=0) (d:=30) okP tTV72 tTV72 (fun o _a _o' _r h=>K.mc_stk h (K.rnd_eq o))
def kRl:List AV:=[.str [100,117,101],.str [114,101,98,97,116,101],.str [108,101,97,115,116],.str [109,111,115,116],.str [114,111,117,110,100]]
def fRl:List AV:=[.fn (.func 134) [.lptr 0 0 0 0] [],.fn (.func 135) [.lptr 0 0 0 0] [],.fn (.func 136) [.lptr 0 0 0 0] [],.fn (.func 137) [.lptr 0 0 0 0] [],.fn (.func 138) [.lptr 0 0 0 0] []]
def lTO:DecL Nat:=.last (dO 3) 0
def O_so:DecB (Par × List Rul × Nat × List Rul × Unit):=.flat 153 lPar (.flat 25 lTar (.flat 25 lTO (.rowsN 68 nRul (.fmap 210 kRl fRl .nil))))
def S_so:=DecS.ghostF 3 0 68 7 [.int .i64,.str,.sl 1 [.str],.sl 4 [.int .i64,.int .i64,.int .i64,.int .i64],.int .i64,.int .i64,.int .i64] (DecS.rnd (.unit (dLp 0 0 0 0) (.skip (.unit (dLp 1 0 0 0) (.unit (dLp 2 0 0 0) (.unit (dMp 4) (.tops 60)))))) O_so V_me)
def X_so:=DecX.one (.exit 0) [0,2,3,4] S_so
noncomputable def K.st_so:=loopT1 P BTV81 30 75 25 [2,3,0,4] S_so X_so
theorem sl_so:∀ s,(K.st_so) s=T.run (
 let q17:=s.2.1.1;
 let q1:=Par.mk (Par.x q17) (IntKind.wrap IntKind.i64 (Par.pos q17+(1:Int))) (Par.wrong q17);
 let q3:=s.2.1.2.2.2.1;
 let q14:=(1:Nat);
 let q11:=List.length q3+q14;
 let q2:=decide (q11 * (96:Nat)≤(140737488355328:Nat)∧List.length q3+q14≤nat_lit 9223372036854775807);
 let q21:=stk (rebateV q1);
 let q4:=q21.2;
 let q22:=stk (leastV q1);
 let q5:=q22.2;
 let q6:=Prod.snd (stk (mostV q1));
 let q7:=Prod.snd (stk (dueV q1));
 let q8:=Prod.snd (stk (rndV q1));
 let q18:=s.2.1.2.1;
 let q12:=List.length q18;
 let q10:=(0:Nat);
 let q13:=List.length q3;
 let q15:=encN nRul q3;
 let q9:=Sum.inr (PUnit.unit,(q17,decN nRul q12 fun i=>encN nRul q18 (q10+i),s.2.1.2.2.1,decN nRul q13 q15,PUnit.unit),PUnit.unit);
 let q16:=decide (parOk q1);
 let q19:=(59:UInt8);
 let q20:=(101:UInt8);
  .br (decide (Par.pos q17<(↑(len (Par.x q17)):Int))) (
    .br (!Par.wrong q17) (
      .chk (decide (parOk q17)) <|
      .br (textV q17 == [(100:UInt8),(117:UInt8),q20]) (
        .chk q16 <|
        .chk q2 <|
        .chk (decide (parOk (Prod.fst (stk (dueV q1))))) <|
        .ret (Sum.inl (PUnit.unit,(mustV (Prod.fst (stk (dueV q1))) [q19],decN nRul q12 fun i=>encN nRul q18 (q10+i),List.length q3+q14,decN nRul q11 (appG q13 q15 fun i k=>Option.getD [AV.int IntKind.i64 (Rul.kind q7),AV.str (Rul.due q7),AV.xsl q14 (List.length (Rul.grades q7)) (Get.mk [CK.str] (encF rStr (Rul.grades q7))) q10 (List.length (Rul.grades q7)) none,AV.xsl (4:Nat) (List.length (Rul.terms q7)) (Get.mk [CK.int IntKind.i64,CK.int IntKind.i64,CK.int IntKind.i64,CK.int IntKind.i64] (encF rTrm (Rul.terms q7))) q10 (List.length (Rul.terms q7)) none,AV.int IntKind.i64 (Rul.n q7),AV.int IntKind.i64 (Rul.d q7),AV.int IntKind.i64 (Rul.way q7)][(q10+i) * (7:Nat)+k]? AV.top),PUnit.unit),PUnit.unit))) (
        .br (textV q17 == [(114:UInt8),q20,(98:UInt8),(97:UInt8),(116:UInt8),q20]) (
          .chk q16 <|
          .chk q2 <|
          .chk (decide (parOk q21.1)) <|
          .ret (Sum.inl (PUnit.unit,(mustV q21.1 [q19],decN nRul q12 fun i=>encN nRul q18 (q10+i),List.length q3+q14,decN nRul q11 (appG q13 q15 fun i k=>Option.getD [AV.int IntKind.i64 (Rul.kind q4),AV.str (Rul.due q4),AV.xsl q14 (List.length (Rul.grades q4)) (Get.mk [CK.str] (encF rStr (Rul.grades q4))) q10 (List.length (Rul.grades q4)) none,AV.xsl (4:Nat) (List.length (Rul.terms q4)) (Get.mk [CK.int IntKind.i64,CK.int IntKind.i64,CK.int IntKind.i64,CK.int IntKind.i64] (encF rTrm (Rul.terms q4))) q10 (List.length (Rul.terms q4)) none,AV.int IntKind.i64 (Rul.n q4),AV.int IntKind.i64 (Rul.d q4),AV.int IntKind.i64 (Rul.way q4)][(q10+i) * (7:Nat)+k]? AV.top),PUnit.unit),PUnit.unit))) (
          .br (textV q17 == [(108:UInt8),q20,(97:UInt8),(115:UInt8),(116:UInt8)]) (
            .chk q16 <|
            .chk q2 <|
            .chk (decide (parOk q22.1)) <|
            .ret (Sum.inl (PUnit.unit,(mustV q22.1 [q19],decN nRul q12 fun i=>encN nRul q18 (q10+i),List.length q3+q14,decN nRul q11 (appG q13 q15 fun i k=>Option.getD [AV.int IntKind.i64 (Rul.kind q5),AV.str (Rul.due q5),AV.xsl q14 (List.length (Rul.grades q5)) (Get.mk [CK.str] (encF rStr (Rul.grades q5))) q10 (List.length (Rul.grades q5)) none,AV.xsl (4:Nat) (List.length (Rul.terms q5)) (Get.mk [CK.int IntKind.i64,CK.int IntKind.i64,CK.int IntKind.i64,CK.int IntKind.i64] (encF rTrm (Rul.terms q5))) q10 (List.length (Rul.terms q5)) none,AV.int IntKind.i64 (Rul.n q5),AV.int IntKind.i64 (Rul.d q5),AV.int IntKind.i64 (Rul.way q5)][(q10+i) * (7:Nat)+k]? AV.top),PUnit.unit),PUnit.unit))) (
            .br (textV q17 == [(109:UInt8),(111:UInt8),(115:UInt8),(116:UInt8)]) (
              .chk q16 <|
              .chk q2 <|
              .chk (decide (parOk (Prod.fst (stk (mostV q1))))) <|
              .ret (Sum.inl (PUnit.unit,(mustV (Prod.fst (stk (mostV q1))) [q19],decN nRul q12 fun i=>encN nRul q18 (q10+i),List.length q3+q14,decN nRul q11 (appG q13 q15 fun i k=>Option.getD [AV.int IntKind.i64 (Rul.kind q6),AV.str (Rul.due q6),AV.xsl q14 (List.length (Rul.grades q6)) (Get.mk [CK.str] (encF rStr (Rul.grades q6))) q10 (List.length (Rul.grades q6)) none,AV.xsl (4:Nat) (List.length (Rul.terms q6)) (Get.mk [CK.int IntKind.i64,CK.int IntKind.i64,CK.int IntKind.i64,CK.int IntKind.i64] (encF rTrm (Rul.terms q6))) q10 (List.length (Rul.terms q6)) none,AV.int IntKind.i64 (Rul.n q6),AV.int IntKind.i64 (Rul.d q6),AV.int IntKind.i64 (Rul.way q6)][(q10+i) * (7:Nat)+k]? AV.top),PUnit.unit),PUnit.unit))) (
              .br (textV q17 == [(114:UInt8),(111:UInt8),(117:UInt8),(110:UInt8),(100:UInt8)]) (
                .chk q16 <|
                .chk q2 <|
                .chk (decide (parOk (Prod.fst (stk (rndV q1))))) <|
                .ret (Sum.inl (PUnit.unit,(mustV (Prod.fst (stk (rndV q1))) [q19],decN nRul q12 fun i=>encN nRul q18 (q10+i),List.length q3+q14,decN nRul q11 (appG q13 q15 fun i k=>Option.getD [AV.int IntKind.i64 (Rul.kind q8),AV.str (Rul.due q8),AV.xsl q14 (List.length (Rul.grades q8)) (Get.mk [CK.str] (encF rStr (Rul.grades q8))) q10 (List.length (Rul.grades q8)) none,AV.xsl (4:Nat) (List.length (Rul.terms q8)) (Get.mk [CK.int IntKind.i64,CK.int IntKind.i64,CK.int IntKind.i64,CK.int IntKind.i64] (encF rTrm (Rul.terms q8))) q10 (List.length (Rul.terms q8)) none,AV.int IntKind.i64 (Rul.n q8),AV.int IntKind.i64 (Rul.d q8),AV.int IntKind.i64 (Rul.way q8)][(q10+i) * (7:Nat)+k]? AV.top),PUnit.unit),PUnit.unit))) (
                .ret (Sum.inr (PUnit.unit,(Par.mk (Par.x q17) (Par.pos q17) true,decN nRul q12 fun i=>encN nRul q18 (q10+i),s.2.1.2.2.1,decN nRul q13 q15,PUnit.unit),PUnit.unit)))))))) (
      .ret q9)) (
    .ret q9)):=fun s=>by kernel_rfl
end Go.Proofs.YtkpligkggnjcoaaGreatDoor
/-! TV9 -/
namespace Go.Proofs.YtkpligkggnjcoaaGreatDoor
open Ev K
set_option maxRecDepth 100000
namespace Ev
def frzP (t kc:Nat) (st:St):Option St:=match st.env[t]? with
 | some (.lptr j0 _ 0 0)=>match st.loc[j0]? with
  | some (.flat _ [.lptr j _ 0 0])=>match st.loc[j]? with
   | some (.flat _ cs)=>match cs[kc]? with
    | some (.osl i _ _)=>freeze i st
    | _=>none
   | _=>none
  | _=>none
 | _=>none
theorem frzP_freeze {t kc:Nat} {st s1:St} (h:frzP t kc st=some s1):∃ i,freeze i st=some s1:=by
 unfold frzP at h
 (repeat' split at h)<;>first | (cases h;done) | exact ⟨_,h⟩
def DecS.frzPC {σ:Type} (t kc:Nat) (D:DecS σ):DecS σ where
 enc:=D.enc
 dec st:=forceS st fun st=>match frzP t kc st with
  | some s1=>forceS (prune (List.range s1.env.length) s1) D.dec
  | none=>D.dec st
 ok st s h:=by
  rw [forceS_eq] at h
  split at h
  ·rename_i hs
   obtain ⟨i,hi⟩:=frzP_freeze hs
   rw [forceS_eq] at h
   exact (freeze_tidy hi).trans ((prune_tidy _ _).trans (D.ok _ _ h))
  ·exact D.ok _ _ h
 len st s h:=by
  rw [forceS_eq] at h
  split at h
  ·rename_i hs
   obtain ⟨i,hi⟩:=frzP_freeze hs
   rw [forceS_eq] at h
   rw [D.len _ _ h,prune_len,(freeze_len hi).1]
  ·exact D.len _ _ h
end Ev
namespace K
theorem pushR (l:List Rul) (r:Rul):decN nRul (l.length+1) (appG l.length (encN nRul l) fun i k=>([(.int .i64 r.kind:AV),.str r.due,.xsl 1 r.grades.length ⟨[.str],encF rStr r.grades⟩ 0 r.grades.length none,.xsl 4 r.terms.length ⟨[.int .i64,.int .i64,.int .i64,.int .i64],encF rTrm r.terms⟩ 0 r.terms.length none,.int .i64 r.n,.int .i64 r.d,.int .i64 r.way][i * 7+k]?).getD .top)=l ++ [r]:=by
 refine (decN_app nRul l 1 _).trans ?_
 have:nRul.rd (nRul.wr r)=r:=nRul.good r
 exact congrArg (fun x=>l ++ [x]) this
theorem st_so_eq (p:Par) (z acc:List Rul) (hp:parOk p) (hl:p.pos<p.l.length) (hw:p.wrong=false) (ha:acc.length≤1100000) :
  st_so ((),(p,z,acc.length,acc,()),())=some (match ruleV (textV p) p.step with
   | some r=>.inl ((),(mustV r.1 wSemi,z,(acc ++ [r.2]).length,acc ++ [r.2],()),())
   | none=>.inr ((),(p.bad,z,acc.length,acc,()),())):=by
 rw [sl_so]
 have hs:=stp hp
 simp only [Nat.zero_add,decN_encN,par_clamp hp,hs,← step_def,stk_eq,pushR,List.length_append,List.length_singleton]
 refine br_t (decide_eq_true hl) (br_t (by rw [hw];rfl) (chk_step (decide_eq_true hp) ?_))
 have go:∀ m:Str,textV p=m→m≠[]→parOk p.step:=fun m h1 h2=>(text_step h1 h2 hp).2.1
 unfold ruleV
 by_cases e1:textV p=wDue
 ·rw [if_pos e1]
  have g:=go _ e1 (by decide)
  exact br_t (beq_iff_eq.2 e1) (chk_step (decide_eq_true g) (chk_step (decide_eq_true (by omega)) (chk_step (decide_eq_true (due_ok g).2.1) rfl)))
 rw [if_neg e1]
 refine br_f (beq_eq_false_iff_ne.2 e1) ?_
 by_cases e2:textV p=wRebate
 ·rw [if_pos e2]
  have g:=go _ e2 (by decide)
  exact br_t (beq_iff_eq.2 e2) (chk_step (decide_eq_true g) (chk_step (decide_eq_true (by omega)) (chk_step (decide_eq_true (rebate_ok g).2.1) rfl)))
 rw [if_neg e2]
 refine br_f (beq_eq_false_iff_ne.2 e2) ?_
 by_cases e3:textV p=wLeast
 ·rw [if_pos e3]
  have g:=go _ e3 (by decide)
  exact br_t (beq_iff_eq.2 e3) (chk_step (decide_eq_true g) (chk_step (decide_eq_true (by omega)) (chk_step (decide_eq_true (least_ok g).2.1) rfl)))
 rw [if_neg e3]
 refine br_f (beq_eq_false_iff_ne.2 e3) ?_
 by_cases e4:textV p=wMost
 ·rw [if_pos e4]
  have g:=go _ e4 (by decide)
  exact br_t (beq_iff_eq.2 e4) (chk_step (decide_eq_true g) (chk_step (decide_eq_true (by omega)) (chk_step (decide_eq_true (most_ok g).2.1) rfl)))
 rw [if_neg e4]
 refine br_f (beq_eq_false_iff_ne.2 e4) ?_
 by_cases e5:textV p=wRound
 ·rw [if_pos e5]
  have g:=go _ e5 (by decide)
  exact br_t (beq_iff_eq.2 e5) (chk_step (decide_eq_true g) (chk_step (decide_eq_true (by omega)) (chk_step (decide_eq_true (round_ok g).2.1) rfl)))
 rw [if_neg e5]
 exact br_f (beq_eq_false_iff_ne.2 e5) rfl
noncomputable def L_so:=lim st_so
theorem L_so_eq (z:List Rul):∀ (m:Nat) (p:Par) (acc:List Rul),parOk p→(p.l.length:Int) - p.pos<m→(acc.length:Int)+((p.l.length:Int) - p.pos)≤1100000 →
  L_so ((),(p,z,acc.length,acc,()),())=some ((),((sourceF m p acc).1,z,(sourceF m p acc).2.length,(sourceF m p acc).2,()),()):=by
 intro m
 induction m with
 | zero=>intro p acc hp hm _;have:=hp.2.1;omega
 | succ m ih=>
  intro p acc hp hm hg
  unfold sourceF
  have hq:=hp.2.1
  by_cases hl:p.pos<p.l.length∧p.wrong=false
  ·rw [if_pos hl]
   have hst:=st_so_eq p z acc hp hl.1 hl.2 (by omega)
   cases hr:ruleV (textV p) p.step with
   | none=>
    rw [hr] at hst
    exact lim_done hst
   | some r=>
    rw [hr] at hst
    have h1:=text_step rfl (rule_ne hr) hp
    have h2:=rule_ok hr h1.2.1
    have h3:=must_ok (m:=wSemi) (by decide) h2.2.1
    obtain ⟨r1,r2⟩:=left_lt (h2.trans h3) (m:=m) (by omega)
    have r3:((acc ++ [r.2]).length:Int)=(acc.length:Int)+1:=by rw [List.length_append];simp
    exact (lim_step hst).trans (ih (mustV r.1 wSemi) (acc ++ [r.2]) h3.2.1 r1 (by omega))
  ·rw [if_neg hl]
   refine lim_done ?_
   rw [sl_so]
   simp only [Nat.zero_add,decN_encN,par_clamp hp]
   by_cases hp1:p.pos<p.l.length
   ·have hw:p.wrong=true:=by
     cases hw:p.wrong with
     | true=>rfl
     | false=>exact absurd ⟨hp1,hw⟩ hl
    exact br_t (decide_eq_true hp1) (br_f (by rw [hw];rfl) rfl)
   ·exact br_f (decide_eq_false hp1) rfl
end K
noncomputable def BTV91:Tab:=BTV81.addNode 75 25 (nodeE [2,3,0,4] S_so X_so (fun s=>.obs (K.L_so s) .ret))
theorem tTV91:TabOk P BTV91:=TabOk.addLoop (d:=30) okP tTV81 (by kernel_rfl) (by kernel_rfl) (fun s r h=>obs_ret h)
theorem m_src:∀ a,(methT1 P BTV91 30 75 153 0 lPar (.tops 0) dTar) a=T.run (
 .obs (L_so (PUnit.unit,(a.1,[],(0:Nat),decN nRul (0:Nat) fun _x _x_1=>AV.top,PUnit.unit),PUnit.unit)) fun x0=>
  .ret ((x0.2.1.1,decN nRul (List.length x0.2.1.2.2.2.1) fun i=>encN nRul x0.2.1.2.2.2.1 ((0:Nat)+i)))):=fun a=>by kernel_rfl
end Go.Proofs.YtkpligkggnjcoaaGreatDoor
/-! TVa -/
namespace Go.Proofs.YtkpligkggnjcoaaGreatDoor
open Ev K
set_option maxRecDepth 100000
namespace K
theorem src_eq (p:Par) (h:parOk p):methT1 P BTV91 30 75 153 0 lPar (.tops 0) dTar (p,())=some (sourceV p):=by
 rw [m_src]
 have e:(decN nRul 0 fun x x_1=>AV.top)=[]:=rfl
 rw [e]
 refine obs_step (L_so_eq [] (fuelV p) p [] h (fuel_lt p h) ?_) ?_
 ·have a:=h.1;have b:=h.2.2.1
  show (0:Int)+_≤_;omega
 ·simp only [Nat.zero_add,decN_encN];rfl
end K
noncomputable def BTVa1:Tab:=BTV91.addTurn 75 (methC 153 lPar (.tops 0) dTar (fun a=>.chk (decide (K.parOk a.1)) (.ret (K.stk (K.sourceV a.1)))))
theorem tTVa1:TabOk P BTVa1:=TabOk.addMC (wd:=0) (d:=30) okP tTV91 tTV91 (fun o _a _o' _r h=>K.mc_stk h (K.src_eq o))
def O_c9:DecB (List Rul × Int × Int × Unit × Par × Unit):=.flat 25 lTar (.flat 26 lI1 (.flat 3 lI1 (.flat 150 (.unit (dLp 4 0 0 0) (.tops 0)) (.flat 153 lPar .nil))))
def S_c9:=DecS.frzPC 5 0 (DecS.mk0 (.cons (dS) (.skip (.unit (dLp 0 0 0 0) (.unit (dLp 1 0 0 0) (.unit (dLp 2 0 0 0) (.unit (dLp 3 0 0 0) (.tops 67))))))) O_c9)
theorem fn_c9:∀ s,(cutT1 P BTVa1 30 18 72 S_c9 X_pr) s=T.run (
 let q1:=stk (sourceV s.2.2.2.2.2.1);
 let q4:=q1.2;
 let q2:=decN nRul (List.length q4) fun i=>encN nRul q4 ((0:Nat)+i);
 let q3:=q1.1;
  .chk (decide (parOk s.2.2.2.2.2.1)) <|
  .br (Par.wrong q3) (
    .br (decide (Par.pos q3<(↑(len (Par.x q3)):Int))) (
      .chk (decide ((0:Int)≤Par.pos q3∧Par.pos q3<(↑(XS.len (Par.x q3)):Int))) <|
      .ret ((PUnit.unit,[],(7:Int),XS.g (Par.x q3) (Int.toNat (Par.pos q3)) (2:Nat),PUnit.unit))) (
      .ret ((PUnit.unit,[],(7:Int),(↑(List.length s.1.1):Int),PUnit.unit)))) (
    .br (checkT q2 != (0:Int)) (
      .ret ((PUnit.unit,[],checkT q2,(0:Int),PUnit.unit))) (
      .ret ((PUnit.unit,decN nRul (List.length q4) fun i=>encN nRul q4 ((0:Nat)+i),(0:Int),(0:Int),PUnit.unit))))):=fun s=>by kernel_rfl
end Go.Proofs.YtkpligkggnjcoaaGreatDoor
/-! TVb -/
namespace Go.Proofs.YtkpligkggnjcoaaGreatDoor
open Ev K
set_option maxRecDepth 100000
namespace K
def errAt (s:Str) (p:Par):Int:=match p.l[p.pos.toNat]? with
 | some t=>t.pos
 | none=>s.length
def afterV (s:Str) (q:Par × List Rul):List Rul × Int × Int:=if q.1.wrong=true then ([],7,errAt s q.1) else if checkT q.2≠0 then ([],checkT q.2,0) else (q.2,0,0)
theorem source_ok (n:Nat):∀ (p:Par) (acc:List Rul),parOk p→Adv p (sourceF n p acc).1:=by
 induction n with
 | zero=>intro p acc hp;exact Adv.refl hp
 | succ n ih=>
  intro p acc hp
  unfold sourceF
  by_cases hl:p.pos<p.l.length∧p.wrong=false
  ·rw [if_pos hl]
   cases hr:ruleV (textV p) p.step with
   | none=>exact bad_ok hp
   | some r=>
    have h1:=text_step rfl (rule_ne hr) hp
    have h2:=rule_ok hr h1.2.1
    have h3:=must_ok (m:=wSemi) (by decide) h2.2.1
    exact ((h1.trans h2).trans h3).trans (ih _ _ h3.2.1)
  ·rw [if_neg hl];exact Adv.refl hp
theorem c9_eq (s:Str) (z:List Rul) (e n:Int) (p:Par) (h:parOk p):cutT1 P BTVa1 30 18 72 S_c9 X_pr (((s,()):Str × Unit),z,e,n,(),p,())=some ((),(afterV s (sourceV p)).1,(afterV s (sourceV p)).2.1,(afterV s (sourceV p)).2.2,()):=by
 rw [fn_c9]
 have hq:=(source_ok (fuelV p) p [] h).2.1
 simp only [Nat.zero_add,decN_encN,stk_eq]
 refine chk_step (decide_eq_true h) ?_
 have hq:parOk (sourceV p).1:=hq
 unfold afterV
 generalize sourceV p=q at *
 simp only [par_clamp hq,← par_len]
 cases hw:q.1.wrong with
 | true=>
  rw [if_pos rfl]
  refine br_t rfl ?_
  unfold errAt
  by_cases hl:q.1.pos<q.1.l.length
  ·have hi:q.1.pos.toNat<q.1.l.length:=by have:=hq.1;omega
   have e1:=List.getElem?_eq_getElem hi
   rw [e1]
   have:=par_tok e1
   rw [this]
   exact br_t (decide_eq_true hl) (chk_step (decide_eq_true ⟨hq.1,hl⟩) rfl)
  ·rw [List.getElem?_eq_none (by omega)]
   exact br_f (decide_eq_false hl) rfl
 | false=>
  rw [if_neg (by simp)]
  refine br_f rfl ?_
  by_cases hc:checkT q.2=0
  ·rw [if_neg (fun k=>k hc)]
   exact br_f (by rw [hc];rfl) rfl
  ·rw [if_pos hc]
   exact br_t (bne_iff_ne.2 hc) rfl
theorem c9_ok (s:(Str × Unit) × List Rul × Int × Int × Unit × Par × Unit) (r) (h:(T.chk (decide (parOk s.2.2.2.2.2.1)) (.ret ((),(afterV s.1.1 (sourceV s.2.2.2.2.2.1)).1,(afterV s.1.1 (sourceV s.2.2.2.2.2.1)).2.1,(afterV s.1.1 (sourceV s.2.2.2.2.2.1)).2.2,()))).run=some r):cutT1 P BTVa1 30 18 72 S_c9 X_pr s=some r:=by
 obtain ⟨g,e⟩:=chk_ret h
 rw [← e]
 exact c9_eq _ _ _ _ _ (of_decide_eq_true g)
end K
noncomputable def BTVb1:Tab:=(BTVa1.addNode 18 72 (nodeE [0,2,3,4,5] S_c9 X_pr (fun s=>.chk (decide (K.parOk s.2.2.2.2.2.1)) (.ret ((),(K.afterV s.1.1 (K.sourceV s.2.2.2.2.2.1)).1,(K.afterV s.1.1 (K.sourceV s.2.2.2.2.2.1)).2.1,(K.afterV s.1.1 (K.sourceV s.2.2.2.2.2.1)).2.2,()))))).addCut 18 72
theorem tTVb1:TabOk P BTVb1:=TabOk.addCut (d:=30) okP tTVa1 (by kernel_rfl) (fun s r h=>K.c9_ok s r h)
def R_pa:=dTup (.cons dTar (.cons dInt (.last dInt 0)))
theorem fn_Pa:∀ a,(callT1 P BTVb1 30 18 D_s R_pa) a=T.run (
 let q1:=Par.mk (XS.mk (List.length (toksT a)) (0:Nat) (List.length (toksT a)) none (encF rTok (toksT a))) (0:Int) false;
 let q2:=afterV a (sourceV q1);
  .br (decide ((↑(List.length a):Int) > (6000:Int))) (
    .ret (([],(2:Int),(0:Int)))) (
    .chk (decide (prOk ((a,a),[],(0:Int),(0:Int),PUnit.unit,((0:Nat),(0:Int),false),decF rTok (0:Nat) fun _x _x_1=>AV.top,PUnit.unit))) <|
    .br (isBad a) (
      .ret ((decN nRul (nat_lit 0) fun i=>encN nRul [] ((0:Nat)+i),(7:Int),badP a))) (
      .chk (decide (parOk q1)) <|
      .ret ((decN nRul (List.length q2.1) fun i=>encN nRul q2.1 ((0:Nat)+i),q2.2))))):=fun a=>by kernel_rfl
end Go.Proofs.YtkpligkggnjcoaaGreatDoor
/-! TX0 -/
namespace Go.Proofs.YtkpligkggnjcoaaGreatDoor
open Ev K
set_option maxRecDepth 100000
namespace K
end K
end Go.Proofs.YtkpligkggnjcoaaGreatDoor
/-! TVc -/
namespace Go.Proofs.YtkpligkggnjcoaaGreatDoor
open Ev K
set_option maxRecDepth 100000
namespace K
def parT (L:List Tok):Par:=⟨⟨L.length,0,L.length,none,encF rTok L⟩,0,false⟩
def parseV (s:Str):List Rul × Int × Int:=if s.length > 6000 then ([],2,0) else if isBad s=true then ([],7,badP s) else afterV s (sourceV (parT (toksT s)))
def paOk (s:Str):Prop:=s.length≤6000→lexOk s=true∧parOk (parT (toksT s))
instance (s:Str):Decidable (paOk s):=by unfold paOk;infer_instance
theorem Pa_ok (s:Str) (r) (h:(T.chk (decide (paOk s)) (.ret (parseV s))).run=some r):callT1 P BTVb1 30 18 D_s R_pa s=some r:=by
 obtain ⟨g,e⟩:=chk_ret h
 subst e
 have g:=of_decide_eq_true g
 rw [fn_Pa]
 unfold parseV
 by_cases hl:s.length > 6000
 ·rw [if_pos hl]
  exact br_t (decide_eq_true (by omega)) rfl
 ·rw [if_neg hl]
  obtain ⟨g1,g2⟩:=g (by omega)
  refine br_f (decide_eq_false (by omega)) (chk_step (decide_eq_true ⟨⟨rfl,rfl⟩,by show s.length≤_;omega,g1⟩) ?_)
  cases hb:isBad s with
  | true=>
   rw [if_pos rfl]
   exact br_t rfl rfl
  | false=>
   rw [if_neg (by simp)]
   simp only [Nat.zero_add,decN_encN]
   exact br_f rfl (chk_step (decide_eq_true g2) rfl)
end K
noncomputable def BTVc1:Tab:=BTVb1.addCall 18 (callE D_s R_pa (fun s=>.chk (decide (K.paOk s)) (.ret (K.parseV s))))
theorem tTVc1:TabOk P BTVc1:=TabOk.addPC tTVb1 (fun s r h=>call_of okP tTVb1 (K.Pa_ok s r h))
end Go.Proofs.YtkpligkggnjcoaaGreatDoor
/-! TVd -/
namespace Go.Proofs.YtkpligkggnjcoaaGreatDoor
open Ev K
set_option maxRecDepth 100000
namespace K
theorem top_eq (a:Unit):callT1 P BTVc1 30 17 (.tops 0) dB a=some true:=by
 cases a
 kernel_rfl
end K
noncomputable def BTVd1:Tab:=BTVc1.addCall 17 (callE (.tops 0) dB (fun a=>.ret ((fun _=>true) a)))
theorem tTVd1:TabOk P BTVd1:=TabOk.addPC tTVc1 (fun a r h=>by rw [← ret_some h];exact call_of okP tTVc1 (K.top_eq a))
end Go.Proofs.YtkpligkggnjcoaaGreatDoor
/-! TWa -/
namespace Go.Proofs.YtkpligkggnjcoaaGreatDoor
open Ev K
set_option maxRecDepth 100000
theorem fn_lw_short:∀ a,(callT1 P BTVd1 30 34 D_s dB) a=T.run (
 .ret (decide ((↑(List.length a):Int)≤(40:Int)))):=fun a=>by kernel_rfl
noncomputable def K.lw_short (a:List UInt8):Bool:=decide ((↑(List.length a):Int)≤(40:Int))
theorem eq_lw_short (a:List UInt8):(callT1 P BTVd1 30 34 D_s dB) a=some (K.lw_short a):=(fn_lw_short a).trans rfl
noncomputable def BTWa1:Tab:=BTVd1.addCall 34 (callE D_s dB (fun a=>.ret (K.lw_short a)))
theorem tTWa1:TabOk P BTWa1:=TabOk.addFn (d:=30) okP tTVd1 (fun a r h=>by rw [eq_lw_short];exact congrArg some (ret_some h))
def S_sz:=DecS.mk0 (.skip (.unit (dLp 0 0 0 0) (.skip (.cons (dInt) (.last (dInt) 24))))) (.flat 68 lRul .nil)
def X_sz:=DecX.one (.exit 0) [3] (DecS.mk0 (.skips 3 (.last (dInt) 25)) .nil)
noncomputable def K.st_sz:=loopT1 P BTWa1 30 79 25 [4,1,3] S_sz X_sz
theorem sl_sz:∀ s,(K.st_sz) s=T.run (
 .br (decide (s.1.2<(↑(clampL (List.length (Rul.grades s.2.1))):Int))) (
  .chk (decide ((0:Int)≤s.1.2∧s.1.2<(↑(List.length (Rul.grades s.2.1)):Int))) <|
  .ret (Sum.inl ((IntKind.wrap IntKind.i64 (IntKind.wrap IntKind.i64 (s.1.1+(1:Int))+(↑(List.length (textOf (encF rStr (Rul.grades s.2.1) ((0:Nat)+Int.toNat s.1.2) (0:Nat)))):Int)),IntKind.wrap IntKind.i64 (s.1.2+(1:Int))),Rul.mk (Rul.kind s.2.1) (Rul.due s.2.1) (decF rStr (List.length (Rul.grades s.2.1)) fun i=>encF rStr (Rul.grades s.2.1) ((0:Nat)+i)) (decF rTrm (List.length (Rul.terms s.2.1)) fun i=>encF rTrm (Rul.terms s.2.1) ((0:Nat)+i)) (Rul.n s.2.1) (Rul.d s.2.1) (Rul.way s.2.1),PUnit.unit))) (
  .ret (Sum.inr (s.1.1,PUnit.unit)))):=fun s=>by kernel_rfl
noncomputable def K.L_sz:=lim K.st_sz
noncomputable def BTWa2:Tab:=BTWa1.addNode 79 25 (nodeE [4,1,3] S_sz X_sz (fun s=>.obs (K.L_sz s) .ret))
theorem tTWa2:TabOk P BTWa2:=TabOk.addLoop (d:=30) okP tTWa1 (by kernel_rfl) (by kernel_rfl) (fun s r h=>obs_ret h)
theorem fn_sz:∀ a,(callT1 P BTWa2 30 79 (.last dRul 0) dInt) a=T.run (
 .obs (L_sz ((IntKind.wrap IntKind.i64 ((↑(clampL (List.length (Rul.terms a))):Int)+(↑(List.length (Rul.due a)):Int)),(0:Int)),Rul.mk (Rul.kind a) (Rul.due a) (decF rStr (List.length (Rul.grades a)) fun i=>encF rStr (Rul.grades a) ((0:Nat)+i)) (decF rTrm (List.length (Rul.terms a)) fun i=>encF rTrm (Rul.terms a) ((0:Nat)+i)) (Rul.n a) (Rul.d a) (Rul.way a),PUnit.unit)) fun x0=>
  .ret x0.1):=fun a=>by kernel_rfl
def S_cg:=DecS.mk0 (.cons (dRows rLot) (.skips 2 (.last (dInt) 16))) .nil
def X_cg:=DecX.or (DecX.one (.exit 0) [0] (DecS.mk0 (.last (dRows rLot) 19) .nil)) (DecX.one .ret [2] (DecS.mk0 (.skips 2 (.last (dB) 17)) .nil))
noncomputable def K.st_cg:=loopT1 P BTWa2 30 22 17 [3,0] S_cg X_cg
theorem sl_cg:∀ s,(K.st_cg) s=T.run (
 .br (decide (s.1.2<(↑(clampL (List.length s.1.1)):Int))) (
  .chk (decide ((0:Int)≤s.1.2∧s.1.2<(↑(List.length s.1.1):Int))) <|
  .br (!lw_short (textOf (encF rLot s.1.1 ((0:Nat)+Int.toNat s.1.2) (nat_lit 0)))) (
   .ret (Sum.inr (Sum.inr (false,PUnit.unit)))) (
   .ret (Sum.inl ((decF rLot (List.length s.1.1) fun i=>encF rLot s.1.1 ((0:Nat)+i),IntKind.wrap IntKind.i64 (s.1.2+(1:Int))),PUnit.unit)))) (
  .ret (Sum.inr (Sum.inl (decF rLot (List.length s.1.1) fun i=>encF rLot s.1.1 ((0:Nat)+i),PUnit.unit))))):=fun s=>by kernel_rfl
noncomputable def K.L_cg:=lim K.st_cg
noncomputable def BTWa3:Tab:=BTWa2.addNode 22 17 (nodeE [3,0] S_cg X_cg (fun s=>.obs (K.L_cg s) .ret))
theorem tTWa3:TabOk P BTWa3:=TabOk.addLoop (d:=30) okP tTWa2 (by kernel_rfl) (by kernel_rfl) (fun s r h=>obs_ret h)
theorem fn_cg:∀ a,(callT1 P BTWa3 30 22 (.last (dRows rLot) 0) dB) a=T.run (
 .obs (L_cg ((decF rLot (List.length a) fun i=>encF rLot a ((0:Nat)+i),(0:Int)),PUnit.unit)) fun x0=>
  .sum (x0) (fun x1=>
   .ret (decide ((↑(clampL (List.length x1.1)):Int)≤(20:Int)))) (fun x1=>
   .ret x1.1)):=fun a=>by kernel_rfl
end Go.Proofs.YtkpligkggnjcoaaGreatDoor
/-! TWb -/
namespace Go.Proofs.YtkpligkggnjcoaaGreatDoor
open Ev K
set_option maxRecDepth 100000
namespace K
theorem wiL {i n:Nat} (h:i<clampL n):IntKind.i64.wrap ((i:Int)+1)=((i+1:Nat):Int):=by
 have:=clampL_le n
 rw [w64_in (by omega) (by omega)];rfl
def sizeK (gs:List Str) (n:Int):Nat→Int
 | 0=>n
 | i+1=>IntKind.i64.wrap (IntKind.i64.wrap (sizeK gs n i+1)+(((gs[i]?).getD []).length:Nat))
def sizeV (r:Rul):Int:=sizeK r.grades (IntKind.i64.wrap ((clampL r.terms.length:Nat)+(r.due.length:Nat))) (clampL r.grades.length)
theorem L_sz_eq (r:Rul) (n:Int):L_sz ((n,0),r,())=some (sizeK r.grades n (clampL r.grades.length),()):=by
 refine lim_all (fun i:Nat=>((sizeK r.grades n i,(i:Int)),r,())) (clampL r.grades.length) (fun i hi=>?_) ?_
 ·have hi':i<r.grades.length:=Nat.lt_of_lt_of_le hi (clampL_le' _)
  have hy:=List.getElem?_eq_getElem hi'
  rw [sl_sz]
  simp only [sizeK]
  rw [hy]
  simp only [Int.toNat_natCast,Nat.zero_add,str_at hy,ns0,decF_encF,wiL hi,Option.getD_some]
  exact br_t (decide_eq_true (by omega)) (chk_step (decide_eq_true (by omega)) rfl)
 ·rw [sl_sz]
  exact br_f (decide_eq_false (by dsimp only;omega)) rfl
theorem sz_eq (r:Rul):callT1 P BTWa2 30 79 (.last dRul 0) dInt r=some (sizeV r):=by
 rw [fn_sz]
 simp only [Nat.zero_add,decF_encF]
 exact obs_step (L_sz_eq r _) rfl
noncomputable def cargoV (l:List Lot):Bool:=match first (atP l fun x=>!lw_short x.grade) (clampL l.length) with
 | some _=>false
 | none=>decide ((clampL l.length:Int)≤20)
theorem L_cg_eq (l:List Lot):L_cg ((l,0),())=some (match first (atP l fun x=>!lw_short x.grade) (clampL l.length) with
  | some _=>.inr (false,())
  | none=>.inl (l,())):=by
 refine (lim_find (fun i:Nat=>((l,(i:Int)),())) (clampL l.length) (atP l fun x=>!lw_short x.grade) (fun _=>.inr (false,())) (.inl (l,())) (fun i hi hp=>?_) (fun i hi hp=>?_) ?_).trans ?_
 ·have hi':i<l.length:=Nat.lt_of_lt_of_le hi (clampL_le' _)
  have hy:=List.getElem?_eq_getElem hi'
  unfold atP at hp;rw [hy] at hp
  rw [sl_cg]
  generalize l[i]=y at hy hp
  simp only [Int.toNat_natCast,Nat.zero_add,lot_at hy,nl0]
  exact br_t (decide_eq_true (by omega)) (chk_step (decide_eq_true (by omega)) (br_t hp rfl))
 ·have hi':i<l.length:=Nat.lt_of_lt_of_le hi (clampL_le' _)
  have hy:=List.getElem?_eq_getElem hi'
  unfold atP at hp;rw [hy] at hp
  rw [sl_cg]
  generalize l[i]=y at hy hp
  simp only [Int.toNat_natCast,Nat.zero_add,lot_at hy,nl0,decF_encF,wiL hi]
  exact br_t (decide_eq_true (by omega)) (chk_step (decide_eq_true (by omega)) (br_f hp rfl))
 ·rw [sl_cg]
  simp only [Nat.zero_add,decF_encF]
  exact br_f (decide_eq_false (by omega)) rfl
 ·cases first (atP l fun x=>!lw_short x.grade) (clampL l.length)<;>rfl
theorem cg_eq (l:List Lot):callT1 P BTWa3 30 22 (.last (dRows rLot) 0) dB l=some (cargoV l):=by
 rw [fn_cg]
 simp only [Nat.zero_add,decF_encF]
 refine obs_step (L_cg_eq l) ?_
 unfold cargoV
 cases first (atP l fun x=>!lw_short x.grade) (clampL l.length)<;>rfl
end K
noncomputable def BTWb1:Tab:=BTWa3.addCall 79 (callE (.last dRul 0) dInt (fun a=>.ret (K.sizeV a)))
theorem tTWb1:TabOk P BTWb1:=TabOk.addPC tTWa3 (fun a r h=>by rw [← ret_some h];exact call_of okP tTWa2 (K.sz_eq a))
noncomputable def BTWb2:Tab:=BTWb1.addCall 22 (callE (.last (dRows rLot) 0) dB (fun a=>.ret (K.cargoV a)))
theorem tTWb2:TabOk P BTWb2:=TabOk.addPC tTWb1 (fun a r h=>by rw [← ret_some h];exact call_of okP tTWa3 (K.cg_eq a))
def S_fw:=DecS.mk0 (.skip (.unit (dLp 0 0 0 0) (.skip (.cons (dInt) (.last (dInt) 35))))) (.flat 25 lTar .nil)
def X_fw:=DecX.one (.exit 0) [1,3] (DecS.mk0 (.skip (.unit (dLp 0 0 0 0) (.skip (.last (dInt) 36)))) (.flat 25 lTar .nil))
noncomputable def K.st_fw:=loopT1 P BTWb2 30 21 25 [4,1,3] S_fw X_fw
theorem sl_fw:∀ s,(K.st_fw) s=T.run (
 let q1:=(0:Nat)+Int.toNat s.1.2;
 let q2:=encN nRul s.2.1 q1 (nat_lit 2);
 let q3:=encN nRul s.2.1 q1 (nat_lit 3);
 let q4:=List.length s.2.1;
  .br (decide (s.1.2<(↑(clampL q4):Int))) (
    .chk (decide ((0:Int)≤s.1.2∧s.1.2<(↑q4:Int))) <|
    .ret (Sum.inl ((IntKind.wrap IntKind.i64 (s.1.1+sizeV (Rul.mk (numOf (encN nRul s.2.1 q1 (0:Nat))) (textOf (encN nRul s.2.1 q1 (nat_lit 1))) (decF rStr (slLen q2) fun i=>slF q2 (slRow q2+i)) (decF rTrm (slLen q3) fun i=>slF q3 (slRow q3+i)) (numOf (encN nRul s.2.1 q1 (nat_lit 4))) (numOf (encN nRul s.2.1 q1 (nat_lit 5))) (numOf (encN nRul s.2.1 q1 (nat_lit 6))))),IntKind.wrap IntKind.i64 (s.1.2+(1:Int))),decN nRul q4 fun i=>encN nRul s.2.1 ((0:Nat)+i),PUnit.unit))) (
    .ret (Sum.inr (s.1.1,decN nRul q4 fun i=>encN nRul s.2.1 ((0:Nat)+i),PUnit.unit)))):=fun s=>by kernel_rfl
noncomputable def K.L_fw:=lim K.st_fw
noncomputable def BTWb3:Tab:=BTWb2.addNode 21 25 (nodeE [4,1,3] S_fw X_fw (fun s=>.obs (K.L_fw s) .ret))
theorem tTWb3:TabOk P BTWb3:=TabOk.addLoop (d:=30) okP tTWb2 (by kernel_rfl) (by kernel_rfl) (fun s r h=>obs_ret h)
theorem fn_fw:∀ a,(callT1 P BTWb3 30 21 (.last dTar 0) dB) a=T.run (
 .obs (L_fw (((0:Int),(0:Int)),decN nRul (List.length a) fun i=>encN nRul a ((0:Nat)+i),PUnit.unit)) fun x0=>
  .br (decide (x0.1≤(1500:Int))) (
   .br (decide ((↑(clampL (List.length x0.2.1)):Int)≤(12:Int))) (
    .ret (true)) (
    .br (decide ((↑(clampL (List.length x0.2.1)):Int) > (30:Int))) (
     .ret (decide ((↑(clampL (List.length x0.2.1)):Int)≤(50:Int)))) (
     .ret (false)))) (
   .ret (false))):=fun a=>by kernel_rfl
end Go.Proofs.YtkpligkggnjcoaaGreatDoor
/-! TWc -/
namespace Go.Proofs.YtkpligkggnjcoaaGreatDoor
open Ev K
set_option maxRecDepth 100000
set_option maxHeartbeats 40000000
namespace K
def fewK (l:List Rul):Nat→Int
 | 0=>0
 | i+1=>IntKind.i64.wrap (fewK l i+sizeV ((l[i]?).getD ⟨0,[],[],[],0,0,0⟩))
def fewV (l:List Rul):Bool:=decide (fewK l (clampL l.length)≤1500)&&(decide ((clampL l.length:Int)≤12) || decide ((clampL l.length:Int) > 30)&&decide ((clampL l.length:Int)≤50))
theorem L_fw_eq (l:List Rul):L_fw ((0,0),l,())=some (fewK l (clampL l.length),l,()):=by
 refine lim_all (fun i:Nat=>((fewK l i,(i:Int)),l,())) (clampL l.length) (fun i hi=>?_) ?_
 ·have hi':i<l.length:=Nat.lt_of_lt_of_le hi (clampL_le' _)
  have hy:=List.getElem?_eq_getElem hi'
  rw [sl_fw]
  simp only [fewK]
  rw [hy]
  generalize l[i]=r at hy
  simp only [Int.toNat_natCast,Nat.zero_add,rul_at hy,nr0,nr1,nr2,nr3,nr4,nr5,nr6,so_len,so_f,so_row,decF_encF,decN_encN,wiL hi,Option.getD_some]
  exact br_t (decide_eq_true (by omega)) (chk_step (decide_eq_true (by omega)) rfl)
 ·rw [sl_fw]
  simp only [Nat.zero_add,decN_encN]
  exact br_f (decide_eq_false (by omega)) rfl
theorem fw_eq (l:List Rul):callT1 P BTWb3 30 21 (.last dTar 0) dB l=some (fewV l):=by
 rw [fn_fw]
 simp only [Nat.zero_add,decN_encN]
 refine obs_step (L_fw_eq l) ?_
 by_cases h1:fewK l (clampL l.length)≤1500
 ·refine br_t (decide_eq_true h1) ?_
  by_cases h2:(clampL l.length:Int)≤12
  ·refine (br_t (decide_eq_true h2) rfl).trans ?_
   unfold fewV;rw [decide_eq_true h1,decide_eq_true h2];rfl
  ·refine br_f (decide_eq_false h2) ?_
   by_cases h3:(clampL l.length:Int) > 30
   ·refine (br_t (decide_eq_true h3) rfl).trans ?_
    unfold fewV;rw [decide_eq_true h1,decide_eq_false h2,decide_eq_true h3];rfl
   ·refine (br_f (decide_eq_false h3) rfl).trans ?_
    unfold fewV;rw [decide_eq_true h1,decide_eq_false h2,decide_eq_false h3];rfl
 ·refine (br_f (decide_eq_false h1) rfl).trans ?_
  unfold fewV;rw [decide_eq_false h1];rfl
end K
noncomputable def BTWc1:Tab:=BTWb3.addCall 21 (callE (.last dTar 0) dB (fun a=>.ret (K.fewV a)))
theorem tTWc1:TabOk P BTWc1:=TabOk.addPC tTWb3 (fun a r h=>by rw [← ret_some h];exact call_of okP tTWb3 (K.fw_eq a))
def D_tt:=DecL.cons dTar (.cons dS (.cons dS (.cons dInt (.cons (dRows rLot) (.last (dI .u8) 0)))))
def S_lt:=DecS.mk0 (.skips 4 (.cons (dRows rLot) (.cons (dI .u8) (.unit (dLp 0 0 0 0) (.skips 6 (.cons (dB) (.cons (dRows rEff) (.skip (.cons (dInt) (.skip (.cons (dInt) (.last (dInt) 229)))))))))))) (.flat 25 lTar .nil)
def X_lt:=DecX.or (DecX.one (.exit 0) [4,5,6,13,16,18] (DecS.mk0 (.skips 4 (.cons (dRows rLot) (.cons (dI .u8) (.unit (dLp 0 0 0 0) (.skips 6 (.cons (dB) (.skips 2 (.cons (dInt) (.skip (.last (dInt) 230)))))))))) (.flat 25 lTar .nil))) (DecX.one .ret [12] (DecS.mk0 (.skips 12 (.last (dB) 236)) .nil))
noncomputable def K.st_lt:=loopT1 P BTWc1 30 8 81 [19,14,18,13,4,6,5,16] S_lt X_lt
theorem sl_lt:∀ s,(K.st_lt) s=T.run (
 let q5:=(0:Nat);
 let q6:=s.1.2.2.2.1;
 let q4:=List.length q6;
 let q3:=s.1.2.2.2.2.2.2;
 let q8:=q5+Int.toNat q3;
 let q1:=Sum.inl ((decF rLot (List.length s.1.1) fun i=>encF rLot s.1.1 (q5+i),s.1.2.1,s.1.2.2.1,decF rEff q4 fun i=>encF rEff q6 (q5+i),s.1.2.2.2.2.1,numOf (encF rEff q6 q8 (nat_lit 2)),IntKind.wrap IntKind.i64 (q3+(1:Int))),decN nRul (List.length s.2.1) fun i=>encN nRul s.2.1 (q5+i),PUnit.unit);
 let q2:=decide ((0:Int)≤q3∧q3<(↑q4:Int));
 let q7:=Sum.inr (Sum.inr (false,PUnit.unit));
  .br (decide (q3<(↑(clampL q4):Int))) (
    .chk q2 <|
    .br (numOf (encF rEff q6 q8 (nat_lit 1)) != s.1.2.2.2.2.2.1) (
      .ret q7) (
      .br (decide (q3 > (0:Int))) (
        .chk q2 <|
        .chk (decide ((0:Int)≤IntKind.wrap IntKind.i64 (q3 - (1:Int))∧IntKind.wrap IntKind.i64 (q3 - (1:Int))<(↑q4:Int))) <|
        .br (decide (numOf (encF rEff q6 q8 (nat_lit 0))≤numOf (encF rEff q6 (q5+Int.toNat (IntKind.wrap IntKind.i64 (q3 - (1:Int)))) (nat_lit 0)))) (
          .ret q7) (
          .chk q2 <|
          .ret q1)) (
        .chk q2 <|
        .ret q1))) (
    .ret (Sum.inr (Sum.inl ((decF rLot (List.length s.1.1) fun i=>encF rLot s.1.1 (q5+i),s.1.2.1,s.1.2.2.1,s.1.2.2.2.2.1,s.1.2.2.2.2.2.1),decN nRul (List.length s.2.1) fun i=>encN nRul s.2.1 (q5+i),PUnit.unit))))):=fun s=>by kernel_rfl
noncomputable def K.L_lt:=lim K.st_lt
noncomputable def BTWc2:Tab:=BTWc1.addNode 8 81 (nodeE [19,14,18,13,4,6,5,16] S_lt X_lt (fun s=>.obs (K.L_lt s) .ret))
def S_lu:=DecS.mk0 (.skips 13 (.cons (dB) (.skips 6 (.cons (dRows rChrg) (.skips 2 (.cons (dRows rChrg) (.skip (.cons (dRows rChrg) (.skip (.cons (dRows rChrg) (.skip (.last (dInt) 219)))))))))))) .nil
def X_lu:=DecX.or (DecX.one (.exit 2) [13] (DecS.mk0 (.skips 13 (.last (dB) 235)) .nil)) (DecX.one .ret [12] (DecS.mk0 (.skips 12 (.last (dB) 236)) .nil))
noncomputable def K.st_lu:=loopT1 P BTWc2 30 8 217 [29,20,25,23,27,13] S_lu X_lu
theorem sl_lu:∀ s,(K.st_lu) s=T.run (
 let q9:=(0:Nat);
 let q3:=s.1.2.2.2.2.2;
 let q1:=q9+Int.toNat q3;
 let q8:=List.length s.1.2.1;
 let q2:=decide ((0:Int)≤q3∧q3<(↑q8:Int));
 let q4:=Sum.inr (Sum.inr (false,PUnit.unit));
 let q12:=s.1.2.2.2.1;
 let q5:=decide ((0:Int)≤q3∧q3<(↑(List.length q12):Int));
 let q6:=decide ((0:Int)≤q3∧q3<(↑(List.length s.1.2.2.1):Int));
 let q7:=s.1.2.2.2.2.1;
 let q10:=encF rChrg s.1.2.1 q1 (nat_lit 0);
 let q11:=encF rChrg s.1.2.1 q1 (nat_lit 1);
  .br (decide (q3<(↑(clampL q8):Int))) (
    .chk q6 <|
    .chk q2 <|
    .br (!textOf (encF rChrg s.1.2.2.1 q1 (nat_lit 0)) == textOf q10) (
      .ret q4) (
      .chk q5 <|
      .chk q2 <|
      .br (!textOf (encF rChrg q12 q1 (nat_lit 0)) == textOf q10) (
        .ret q4) (
        .chk (decide ((0:Int)≤q3∧q3<(↑(List.length q7):Int))) <|
        .chk q2 <|
        .br (!(textOf (encF rChrg q7 q1 q9) == textOf (encF rChrg s.1.2.1 q1 q9)&&numOf (encF rChrg q7 q1 (nat_lit 1)) == numOf q11)) (
          .ret q4) (
          .chk q6 <|
          .chk q5 <|
          .chk q2 <|
          .br (IntKind.wrap IntKind.i64 (numOf (encF rChrg s.1.2.2.1 q1 (nat_lit 1))+numOf (encF rChrg q12 q1 (nat_lit 1))) != numOf q11) (
            .ret q4) (
            .ret (Sum.inl ((s.1.1,decF rChrg q8 fun i=>encF rChrg s.1.2.1 (q9+i),decF rChrg (List.length s.1.2.2.1) fun i=>encF rChrg s.1.2.2.1 (q9+i),decF rChrg (List.length q12) fun i=>encF rChrg q12 (q9+i),decF rChrg (List.length q7) fun i=>encF rChrg q7 (q9+i),IntKind.wrap IntKind.i64 (q3+(1:Int))),PUnit.unit))))))) (
    .ret (Sum.inr (Sum.inl (s.1.1,PUnit.unit))))):=fun s=>by kernel_rfl
noncomputable def K.L_lu:=lim K.st_lu
noncomputable def BTWc3:Tab:=BTWc2.addNode 8 217 (nodeE [29,20,25,23,27,13] S_lu X_lu (fun s=>.obs (K.L_lu s) .ret))
noncomputable def BTWc4:Tab:=BTWc3.addPiv 8 [21,22,23]
theorem fn_lwTt:∀ a,(callT1 P BTWc4 30 8 D_tt dB) a=T.run (
 let q1:=(0:Nat);
 let q2:=decN nRul (List.length a.1) fun i=>encN nRul a.1 (q1+i);
 let q3:=(1:Int);
 let q4:=(0:Int);
 let q5:=traceV q2 a.2.1 a.2.2.1 a.2.2.2.1;
 let q6:=(140737488355328:Nat);
 let q7:=penV q2 a.2.1 a.2.2.1 a.2.2.2.1;
  .br (!fewV q2) (
    .ret (true)) (
    .br (!lw_short a.2.1) (
      .ret (true)) (
      .br (!lw_short a.2.2.1) (
        .ret (true)) (
        .br (!cargoV (decF rLot (List.length a.2.2.2.2.1) fun i=>encF rLot a.2.2.2.2.1 (q1+i))) (
          .ret (true)) (
          .br (q5.2 != q7.2) (
            .ret (false)) (
            .obs (L_lt ((decF rLot (List.length a.2.2.2.2.1) fun i=>encF rLot a.2.2.2.2.1 (q1+i),a.2.2.2.2.2,true,decF rEff (List.length q5.1) fun i=>encF rEff q5.1 (q1+i),q7.1,q4,q4),decN nRul (List.length a.1) fun i=>encN nRul a.1 (q1+i),PUnit.unit)) fun x0=>
              .sum (x0) (fun x1=>
 let q15:=IntKind.wrap IntKind.i64 x1.1.2.1;
 let q17:=List.length x1.1.1;
 let q11:=IntKind.wrap IntKind.i64 ((↑(clampL q17):Int)+q3);
 let q8:=Int.tmod q15 q11;
 let q9:=decN nRul (List.length x1.2.1) fun i=>encN nRul x1.2.1 (q1+i);
 let q16:=List.length x1.1.1 - Int.toNat q8;
 let q18:=Int.toNat q8 - q1;
 let q10:=billV q9 (decF rLot (q1+q16+q18) fun i=>appG (q1+q16) (appG q1 (fun _x _x_1=>AV.top) fun i k=>encF rLot x1.1.1 (q1+Int.toNat q8+i) k) (fun i k=>encF rLot x1.1.1 (nat_lit 0+i) k) (q1+i));
 let q12:=billV q9 (decF rLot (q1+q16) fun i=>appG q1 (fun _x _x_1=>AV.top) (fun i k=>encF rLot x1.1.1 (q1+Int.toNat q8+i) k) (q1+i));
 let q13:=billV q9 (decF rLot (q1+q18) fun i=>appG q1 (fun _x _x_1=>AV.top) (fun i k=>encF rLot x1.1.1 (nat_lit 0+i) k) (q1+i));
 let q14:=billV q9 (decF rLot q17 fun i=>encF rLot x1.1.1 (q1+i));
 let q19:=decide ((q1+q16) * (24:Nat)≤q6∧q1+q16≤nat_lit 9223372036854775807);
 let q20:=List.length q14.1;
 let q21:=decide (q4≤Int.tmod q15 q11∧Int.tmod q15 q11≤(↑q17:Int))&&true;
 let q22:=true&&decide (q4≤Int.tmod q15 q11∧Int.tmod q15 q11≤(↑q17:Int));
                .br (x1.1.2.2.2.2 != x1.1.2.2.2.1) (
                  .ret (false)) (
                  .br (q14.2 != q4) (
                    .ret x1.1.2.2.1) (
                    .chk (!decide (IntKind.wrap IntKind.i64 ((↑(clampL q17):Int)+q3)=q4)) <|
                    .chk q21 <|
                    .chk (decide ((q1+q18) * (24:Nat)≤q6∧q1+q18≤nat_lit 9223372036854775807)) <|
                    .chk q22 <|
                    .chk q19 <|
                    .chk q22 <|
                    .chk q19 <|
                    .chk q21 <|
                    .chk (decide ((q1+q16+q18) * (24:Nat)≤q6∧q1+q16+q18≤nat_lit 9223372036854775807)) <|
                    .br (q13.2 != q4) (
                      .ret (false)) (
                      .br (q12.2 != q4) (
                        .ret (false)) (
                        .br (q10.2 != q4) (
                          .ret (false)) (
                          .br ((↑(clampL (List.length q13.1)):Int) != (↑(clampL q20):Int)) (
                            .ret (false)) (
                            .br ((↑(clampL (List.length q12.1)):Int) != (↑(clampL q20):Int)) (
                              .ret (false)) (
                              .br ((↑(clampL (List.length q10.1)):Int) != (↑(clampL q20):Int)) (
                                .ret (false)) (
                                .obs (L_lu ((x1.1.2.2.1,decF rChrg q20 fun i=>encF rChrg q14.1 (q1+i),decF rChrg (List.length q13.1) fun i=>encF rChrg q13.1 (q1+i),decF rChrg (List.length q12.1) fun i=>encF rChrg q12.1 (q1+i),decF rChrg (List.length q10.1) fun i=>encF rChrg q10.1 (q1+i),q4),PUnit.unit)) fun x2=>
                                  .sum (x2) (fun x3=>
                                    .ret x3.1) (fun x3=>
                                    .ret x3.1)))))))))) (fun x1=>
                .ret x1.1))))))):=fun a=>by kernel_rfl
end Go.Proofs.YtkpligkggnjcoaaGreatDoor
