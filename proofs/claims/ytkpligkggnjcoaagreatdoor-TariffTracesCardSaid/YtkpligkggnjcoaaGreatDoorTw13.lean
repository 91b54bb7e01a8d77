/- Parts of the proof, one behind the other: TV8, TV9, TVa, TVb, TX0, TVc, TVd, TWa, TWb, TWc, TWd, TWe. No conditions. -/
import Derived.Test.YtkpligkggnjcoaaGreatDoorTw12
import Derived.KernelRfl
/-! TV8 -/
namespace Go.Proofs.YtkpligkggnjcoaaGreatDoor
open Ev K
set_option maxRecDepth 100000
namespace K
theorem way_ix (s : Str) : ixI [[], wUp, wDown, wNear] (fun y => s == y) = wayV s := by
  unfold ixI wayV
  have e : first (atP [[], wUp, wDown, wNear] fun y => s == y) ([[], wUp, wDown, wNear] : List Str).length = if s = [] then some 0 else if s = wUp then some 1 else if s = wDown then some 2 else if s = wNear then some 3 else none := by
    show (List.range 4).find? _ = _
    rw [show List.range 4 = [0, 1, 2, 3] from rfl]
    simp only [List.find?_cons, List.find?_nil, show atP [[], wUp, wDown, wNear] (fun y => s == y) 0 = (s == []) from rfl, show atP [[], wUp, wDown, wNear] (fun y => s == y) 1 = (s == wUp) from rfl,
      show atP [[], wUp, wDown, wNear] (fun y => s == y) 2 = (s == wDown) from rfl, show atP [[], wUp, wDown, wNear] (fun y => s == y) 3 = (s == wNear) from rfl]
    by_cases h0 : s = []
    · rw [if_pos h0, beq_iff_eq.2 h0]
    · rw [if_neg h0, beq_eq_false_iff_ne.2 h0]
      by_cases h1 : s = wUp
      · rw [if_pos h1, beq_iff_eq.2 h1]
      · rw [if_neg h1, beq_eq_false_iff_ne.2 h1]
        by_cases h2 : s = wDown
        · rw [if_pos h2, beq_iff_eq.2 h2]
        · rw [if_neg h2, beq_eq_false_iff_ne.2 h2]
          by_cases h3 : s = wNear
          · rw [if_pos h3, beq_iff_eq.2 h3]
          · rw [if_neg h3, beq_eq_false_iff_ne.2 h3]
  rw [e]
  by_cases h0 : s = []
  · rw [if_pos h0, if_pos h0]; rfl
  rw [if_neg h0, if_neg h0]
  by_cases h1 : s = wUp
  · rw [if_pos h1, if_pos h1]; rfl
  rw [if_neg h1, if_neg h1]
  by_cases h2 : s = wDown
  · rw [if_pos h2, if_pos h2]; rfl
  rw [if_neg h2, if_neg h2]
  by_cases h3 : s = wNear
  · rw [if_pos h3, if_pos h3]; rfl
  rw [if_neg h3, if_neg h3]
theorem rnd_eq (p : Par) (h : parOk p) : methT1 P BTV72 30 138 153 0 lPar (.tops 0) dRul (p, ()) = some (rndV p) := by
  rw [m_rnd]
  have h1 := head_ok 5 h
  have hw := stp h1.2.1
  have e4 : (decF rStr 4 fun i k => ([(.str [] : AV), .str [117, 112], .str [100, 111, 119, 110], .str [110, 101, 97, 114]][(0 + i) * 1 + k]?).getD .top) = [[], wUp, wDown, wNear] := rfl
  rw [e4]
  simp only [Nat.zero_add, decF_encF, way_ix, show (headW p 5).1 = (headV p 5).1 from rfl, hw, ← step_def]
  unfold rndV
  simp only
  refine chk_step (decide_eq_true h) (chk_step (decide_eq_true h1.2.1) (chk_step rfl ?_))
  by_cases hc : wayV (textV (headV p 5).1) < 1
  · rw [if_pos hc]
    exact br_t (decide_eq_true hc) rfl
  · rw [if_neg hc]
    exact br_f (decide_eq_false hc) (chk_step (decide_eq_true (text_step rfl (way_pos hc) h1.2.1).2.1) rfl)
end K
noncomputable def BTV81 : Tab := BTV72.addTurn 138 (methC 153 lPar (.tops 0) dRul (fun a => .chk (decide (K.parOk a.1)) (.ret (K.stk (K.rndV a.1)))))
theorem tTV81 : TabOk P BTV81 := TabOk.addMC (wd := 0) (d := 30) okP tTV72 tTV72 (fun o _a _o' _r h => K.mc_stk h (K.rnd_eq o))
def kRl : List AV := [.str [100, 117, 101], .str [114, 101, 98, 97, 116, 101], .str [108, 101, 97, 115, 116], .str [109, 111, 115, 116], .str [114, 111, 117, 110, 100]]
def fRl : List AV := [.fn (.func 134) [.lptr 0 0 0 0] [], .fn (.func 135) [.lptr 0 0 0 0] [], .fn (.func 136) [.lptr 0 0 0 0] [], .fn (.func 137) [.lptr 0 0 0 0] [], .fn (.func 138) [.lptr 0 0 0 0] []]
def lTO : DecL Nat := .last (dO 3) 0
def O_so : DecB (Par × List Rul × Nat × List Rul × Unit) := .flat 153 lPar (.flat 25 lTar (.flat 25 lTO (.rowsN 68 nRul (.fmap 210 kRl fRl .nil))))
def S_so := DecS.ghostF 3 0 68 7 [.int .i64, .str, .sl 1 [.str], .sl 4 [.int .i64, .int .i64, .int .i64, .int .i64], .int .i64, .int .i64, .int .i64] (DecS.rnd (.unit (dLp 0 0 0 0) (.skip (.unit (dLp 1 0 0 0) (.unit (dLp 2 0 0 0) (.unit (dMp 4) (.tops 60)))))) O_so V_me)
def X_so := DecX.one (.exit 0) [0, 2, 3, 4] S_so
noncomputable def K.st_so := loopT1 P BTV81 30 75 25 [2, 3, 0, 4] S_so X_so
theorem sl_so : ∀ s, (K.st_so) s = T.run (
 let q17 := s.2.1.1;
 let q1 := Par.mk (Par.x q17) (IntKind.wrap IntKind.i64 (Par.pos q17 + (1 : Int))) (Par.wrong q17);
 let q3 := s.2.1.2.2.2.1;
 let q14 := (1 : Nat);
 let q11 := List.length q3 + q14;
 let q2 := decide (q11 * (96 : Nat) ≤ (140737488355328 : Nat) ∧ List.length q3 + q14 ≤ nat_lit 9223372036854775807);
 let q21 := stk (rebateV q1);
 let q4 := q21.2;
 let q22 := stk (leastV q1);
 let q5 := q22.2;
 let q6 := Prod.snd (stk (mostV q1));
 let q7 := Prod.snd (stk (dueV q1));
 let q8 := Prod.snd (stk (rndV q1));
 let q18 := s.2.1.2.1;
 let q12 := List.length q18;
 let q10 := (0 : Nat);
 let q13 := List.length q3;
 let q15 := encN nRul q3;
 let q9 := Sum.inr (PUnit.unit, (q17, decN nRul q12 fun i => encN nRul q18 (q10 + i), s.2.1.2.2.1, decN nRul q13 q15, PUnit.unit), PUnit.unit);
 let q16 := decide (parOk q1);
 let q19 := (59 : UInt8);
 let q20 := (101 : UInt8);
  .br (decide (Par.pos q17 < (↑(len (Par.x q17)) : Int))) (
    .br (!Par.wrong q17) (
      .chk (decide (parOk q17)) <|
      .br (textV q17 == [(100 : UInt8), (117 : UInt8), q20]) (
        .chk q16 <|
        .chk q2 <|
        .chk (decide (parOk (Prod.fst (stk (dueV q1))))) <|
        .ret (Sum.inl (PUnit.unit, (mustV (Prod.fst (stk (dueV q1))) [q19], decN nRul q12 fun i => encN nRul q18 (q10 + i), List.length q3 + q14, decN nRul q11 (appG q13 q15 fun i k => Option.getD [AV.int IntKind.i64 (Rul.kind q7), AV.str (Rul.due q7), AV.xsl q14 (List.length (Rul.grades q7)) (Get.mk [CK.str] (encF rStr (Rul.grades q7))) q10 (List.length (Rul.grades q7)) none, AV.xsl (4 : Nat) (List.length (Rul.terms q7)) (Get.mk [CK.int IntKind.i64, CK.int IntKind.i64, CK.int IntKind.i64, CK.int IntKind.i64] (encF rTrm (Rul.terms q7))) q10 (List.length (Rul.terms q7)) none, AV.int IntKind.i64 (Rul.n q7), AV.int IntKind.i64 (Rul.d q7), AV.int IntKind.i64 (Rul.way q7)][(q10 + i) * (7 : Nat) + k]? AV.top), PUnit.unit), PUnit.unit))) (
        .br (textV q17 == [(114 : UInt8), q20, (98 : UInt8), (97 : UInt8), (116 : UInt8), q20]) (
          .chk q16 <|
          .chk q2 <|
          .chk (decide (parOk q21.1)) <|
          .ret (Sum.inl (PUnit.unit, (mustV q21.1 [q19], decN nRul q12 fun i => encN nRul q18 (q10 + i), List.length q3 + q14, decN nRul q11 (appG q13 q15 fun i k => Option.getD [AV.int IntKind.i64 (Rul.kind q4), AV.str (Rul.due q4), AV.xsl q14 (List.length (Rul.grades q4)) (Get.mk [CK.str] (encF rStr (Rul.grades q4))) q10 (List.length (Rul.grades q4)) none, AV.xsl (4 : Nat) (List.length (Rul.terms q4)) (Get.mk [CK.int IntKind.i64, CK.int IntKind.i64, CK.int IntKind.i64, CK.int IntKind.i64] (encF rTrm (Rul.terms q4))) q10 (List.length (Rul.terms q4)) none, AV.int IntKind.i64 (Rul.n q4), AV.int IntKind.i64 (Rul.d q4), AV.int IntKind.i64 (Rul.way q4)][(q10 + i) * (7 : Nat) + k]? AV.top), PUnit.unit), PUnit.unit))) (
          .br (textV q17 == [(108 : UInt8), q20, (97 : UInt8), (115 : UInt8), (116 : UInt8)]) (
            .chk q16 <|
            .chk q2 <|
            .chk (decide (parOk q22.1)) <|
            .ret (Sum.inl (PUnit.unit, (mustV q22.1 [q19], decN nRul q12 fun i => encN nRul q18 (q10 + i), List.length q3 + q14, decN nRul q11 (appG q13 q15 fun i k => Option.getD [AV.int IntKind.i64 (Rul.kind q5), AV.str (Rul.due q5), AV.xsl q14 (List.length (Rul.grades q5)) (Get.mk [CK.str] (encF rStr (Rul.grades q5))) q10 (List.length (Rul.grades q5)) none, AV.xsl (4 : Nat) (List.length (Rul.terms q5)) (Get.mk [CK.int IntKind.i64, CK.int IntKind.i64, CK.int IntKind.i64, CK.int IntKind.i64] (encF rTrm (Rul.terms q5))) q10 (List.length (Rul.terms q5)) none, AV.int IntKind.i64 (Rul.n q5), AV.int IntKind.i64 (Rul.d q5), AV.int IntKind.i64 (Rul.way q5)][(q10 + i) * (7 : Nat) + k]? AV.top), PUnit.unit), PUnit.unit))) (
            .br (textV q17 == [(109 : UInt8), (111 : UInt8), (115 : UInt8), (116 : UInt8)]) (
              .chk q16 <|
              .chk q2 <|
              .chk (decide (parOk (Prod.fst (stk (mostV q1))))) <|
              .ret (Sum.inl (PUnit.unit, (mustV (Prod.fst (stk (mostV q1))) [q19], decN nRul q12 fun i => encN nRul q18 (q10 + i), List.length q3 + q14, decN nRul q11 (appG q13 q15 fun i k => Option.getD [AV.int IntKind.i64 (Rul.kind q6), AV.str (Rul.due q6), AV.xsl q14 (List.length (Rul.grades q6)) (Get.mk [CK.str] (encF rStr (Rul.grades q6))) q10 (List.length (Rul.grades q6)) none, AV.xsl (4 : Nat) (List.length (Rul.terms q6)) (Get.mk [CK.int IntKind.i64, CK.int IntKind.i64, CK.int IntKind.i64, CK.int IntKind.i64] (encF rTrm (Rul.terms q6))) q10 (List.length (Rul.terms q6)) none, AV.int IntKind.i64 (Rul.n q6), AV.int IntKind.i64 (Rul.d q6), AV.int IntKind.i64 (Rul.way q6)][(q10 + i) * (7 : Nat) + k]? AV.top), PUnit.unit), PUnit.unit))) (
              .br (textV q17 == [(114 : UInt8), (111 : UInt8), (117 : UInt8), (110 : UInt8), (100 : UInt8)]) (
                .chk q16 <|
                .chk q2 <|
                .chk (decide (parOk (Prod.fst (stk (rndV q1))))) <|
                .ret (Sum.inl (PUnit.unit, (mustV (Prod.fst (stk (rndV q1))) [q19], decN nRul q12 fun i => encN nRul q18 (q10 + i), List.length q3 + q14, decN nRul q11 (appG q13 q15 fun i k => Option.getD [AV.int IntKind.i64 (Rul.kind q8), AV.str (Rul.due q8), AV.xsl q14 (List.length (Rul.grades q8)) (Get.mk [CK.str] (encF rStr (Rul.grades q8))) q10 (List.length (Rul.grades q8)) none, AV.xsl (4 : Nat) (List.length (Rul.terms q8)) (Get.mk [CK.int IntKind.i64, CK.int IntKind.i64, CK.int IntKind.i64, CK.int IntKind.i64] (encF rTrm (Rul.terms q8))) q10 (List.length (Rul.terms q8)) none, AV.int IntKind.i64 (Rul.n q8), AV.int IntKind.i64 (Rul.d q8), AV.int IntKind.i64 (Rul.way q8)][(q10 + i) * (7 : Nat) + k]? AV.top), PUnit.unit), PUnit.unit))) (
                .ret (Sum.inr (PUnit.unit, (Par.mk (Par.x q17) (Par.pos q17) true, decN nRul q12 fun i => encN nRul q18 (q10 + i), s.2.1.2.2.1, decN nRul q13 q15, PUnit.unit), PUnit.unit)))))))) (
      .ret q9)) (
    .ret q9)) := fun s => by kernel_rfl
end Go.Proofs.YtkpligkggnjcoaaGreatDoor
/-! TV9 -/
namespace Go.Proofs.YtkpligkggnjcoaaGreatDoor
open Ev K
set_option maxRecDepth 100000
namespace Ev
def frzP (t kc : Nat) (st : St) : Option St := match st.env[t]? with
  | some (.lptr j0 _ 0 0) => match st.loc[j0]? with
    | some (.flat _ [.lptr j _ 0 0]) => match st.loc[j]? with
      | some (.flat _ cs) => match cs[kc]? with
        | some (.osl i _ _) => freeze i st
        | _ => none
      | _ => none
    | _ => none
  | _ => none
theorem frzP_freeze {t kc : Nat} {st s1 : St} (h : frzP t kc st = some s1) : ∃ i, freeze i st = some s1 := by
  unfold frzP at h
  (repeat' split at h) <;> first | (cases h; done) | exact ⟨_, h⟩
def DecS.frzPC {σ : Type} (t kc : Nat) (D : DecS σ) : DecS σ where
  enc := D.enc
  dec st := forceS st fun st => match frzP t kc st with
    | some s1 => forceS (prune (List.range s1.env.length) s1) D.dec
    | none => D.dec st
  ok st s h := by
    rw [forceS_eq] at h
    split at h
    · rename_i hs
      obtain ⟨i, hi⟩ := frzP_freeze hs
      rw [forceS_eq] at h
      exact (freeze_tidy hi).trans ((prune_tidy _ _).trans (D.ok _ _ h))
    · exact D.ok _ _ h
  len st s h := by
    rw [forceS_eq] at h
    split at h
    · rename_i hs
      obtain ⟨i, hi⟩ := frzP_freeze hs
      rw [forceS_eq] at h
      rw [D.len _ _ h, prune_len, (freeze_len hi).1]
    · exact D.len _ _ h
end Ev
namespace K
theorem pushR (l : List Rul) (r : Rul) : decN nRul (l.length + 1) (appG l.length (encN nRul l) fun i k => ([(.int .i64 r.kind : AV), .str r.due, .xsl 1 r.grades.length ⟨[.str], encF rStr r.grades⟩ 0 r.grades.length none, .xsl 4 r.terms.length ⟨[.int .i64, .int .i64, .int .i64, .int .i64], encF rTrm r.terms⟩ 0 r.terms.length none, .int .i64 r.n, .int .i64 r.d, .int .i64 r.way][i * 7 + k]?).getD .top) = l ++ [r] := by
  refine (decN_app nRul l 1 _).trans ?_
  have : nRul.rd (nRul.wr r) = r := nRul.good r
  exact congrArg (fun x => l ++ [x]) this
theorem st_so_eq (p : Par) (z acc : List Rul) (hp : parOk p) (hl : p.pos < p.l.length) (hw : p.wrong = false) (ha : acc.length ≤ 1100000) :
    st_so ((), (p, z, acc.length, acc, ()), ()) = some (match ruleV (textV p) p.step with
      | some r => .inl ((), (mustV r.1 wSemi, z, (acc ++ [r.2]).length, acc ++ [r.2], ()), ())
      | none => .inr ((), (p.bad, z, acc.length, acc, ()), ())) := by
  rw [sl_so]
  have hs := stp hp
  simp only [Nat.zero_add, decN_encN, par_clamp hp, hs, ← step_def, stk_eq, pushR, List.length_append, List.length_singleton]
  refine br_t (decide_eq_true hl) (br_t (by rw [hw]; rfl) (chk_step (decide_eq_true hp) ?_))
  have go : ∀ m : Str, textV p = m → m ≠ [] → parOk p.step := fun m h1 h2 => (text_step h1 h2 hp).2.1
  unfold ruleV
  by_cases e1 : textV p = wDue
  · rw [if_pos e1]
    have g := go _ e1 (by decide)
    exact br_t (beq_iff_eq.2 e1) (chk_step (decide_eq_true g) (chk_step (decide_eq_true (by omega)) (chk_step (decide_eq_true (due_ok g).2.1) rfl)))
  rw [if_neg e1]
  refine br_f (beq_eq_false_iff_ne.2 e1) ?_
  by_cases e2 : textV p = wRebate
  · rw [if_pos e2]
    have g := go _ e2 (by decide)
    exact br_t (beq_iff_eq.2 e2) (chk_step (decide_eq_true g) (chk_step (decide_eq_true (by omega)) (chk_step (decide_eq_true (rebate_ok g).2.1) rfl)))
  rw [if_neg e2]
  refine br_f (beq_eq_false_iff_ne.2 e2) ?_
  by_cases e3 : textV p = wLeast
  · rw [if_pos e3]
    have g := go _ e3 (by decide)
    exact br_t (beq_iff_eq.2 e3) (chk_step (decide_eq_true g) (chk_step (decide_eq_true (by omega)) (chk_step (decide_eq_true (least_ok g).2.1) rfl)))
  rw [if_neg e3]
  refine br_f (beq_eq_false_iff_ne.2 e3) ?_
  by_cases e4 : textV p = wMost
  · rw [if_pos e4]
    have g := go _ e4 (by decide)
    exact br_t (beq_iff_eq.2 e4) (chk_step (decide_eq_true g) (chk_step (decide_eq_true (by omega)) (chk_step (decide_eq_true (most_ok g).2.1) rfl)))
  rw [if_neg e4]
  refine br_f (beq_eq_false_iff_ne.2 e4) ?_
  by_cases e5 : textV p = wRound
  · rw [if_pos e5]
    have g := go _ e5 (by decide)
    exact br_t (beq_iff_eq.2 e5) (chk_step (decide_eq_true g) (chk_step (decide_eq_true (by omega)) (chk_step (decide_eq_true (round_ok g).2.1) rfl)))
  rw [if_neg e5]
  exact br_f (beq_eq_false_iff_ne.2 e5) rfl
noncomputable def L_so := lim st_so
theorem L_so_eq (z : List Rul) : ∀ (m : Nat) (p : Par) (acc : List Rul), parOk p → (p.l.length : Int) - p.pos < m → (acc.length : Int) + ((p.l.length : Int) - p.pos) ≤ 1100000 →
    L_so ((), (p, z, acc.length, acc, ()), ()) = some ((), ((sourceF m p acc).1, z, (sourceF m p acc).2.length, (sourceF m p acc).2, ()), ()) := by
  intro m
  induction m with
  | zero => intro p acc hp hm _; have := hp.2.1; omega
  | succ m ih =>
    intro p acc hp hm hg
    unfold sourceF
    have hq := hp.2.1
    by_cases hl : p.pos < p.l.length ∧ p.wrong = false
    · rw [if_pos hl]
      have hst := st_so_eq p z acc hp hl.1 hl.2 (by omega)
      cases hr : ruleV (textV p) p.step with
      | none =>
        rw [hr] at hst
        exact lim_done hst
      | some r =>
        rw [hr] at hst
        have h1 := text_step rfl (rule_ne hr) hp
        have h2 := rule_ok hr h1.2.1
        have h3 := must_ok (m := wSemi) (by decide) h2.2.1
        obtain ⟨r1, r2⟩ := left_lt (h2.trans h3) (m := m) (by omega)
        have r3 : ((acc ++ [r.2]).length : Int) = (acc.length : Int) + 1 := by rw [List.length_append]; simp
        exact (lim_step hst).trans (ih (mustV r.1 wSemi) (acc ++ [r.2]) h3.2.1 r1 (by omega))
    · rw [if_neg hl]
      refine lim_done ?_
      rw [sl_so]
      simp only [Nat.zero_add, decN_encN, par_clamp hp]
      by_cases hp1 : p.pos < p.l.length
      · have hw : p.wrong = true := by
          cases hw : p.wrong with
          | true => rfl
          | false => exact absurd ⟨hp1, hw⟩ hl
        exact br_t (decide_eq_true hp1) (br_f (by rw [hw]; rfl) rfl)
      · exact br_f (decide_eq_false hp1) rfl
end K
noncomputable def BTV91 : Tab := BTV81.addNode 75 25 (nodeE [2, 3, 0, 4] S_so X_so (fun s => .obs (K.L_so s) .ret))
theorem tTV91 : TabOk P BTV91 := TabOk.addLoop (d := 30) okP tTV81 (by kernel_rfl) (by kernel_rfl) (fun s r h => obs_ret h)
theorem m_src : ∀ a, (methT1 P BTV91 30 75 153 0 lPar (.tops 0) dTar) a = T.run (
  .obs (L_so (PUnit.unit, (a.1, [], (0 : Nat), decN nRul (0 : Nat) fun _x _x_1 => AV.top, PUnit.unit), PUnit.unit)) fun x0 =>
    .ret ((x0.2.1.1, decN nRul (List.length x0.2.1.2.2.2.1) fun i => encN nRul x0.2.1.2.2.2.1 ((0 : Nat) + i)))) := fun a => by kernel_rfl
end Go.Proofs.YtkpligkggnjcoaaGreatDoor
/-! TVa -/
namespace Go.Proofs.YtkpligkggnjcoaaGreatDoor
open Ev K
set_option maxRecDepth 100000
namespace K
theorem src_eq (p : Par) (h : parOk p) : methT1 P BTV91 30 75 153 0 lPar (.tops 0) dTar (p, ()) = some (sourceV p) := by
  rw [m_src]
  have e : (decN nRul 0 fun x x_1 => AV.top) = [] := rfl
  rw [e]
  refine obs_step (L_so_eq [] (fuelV p) p [] h (fuel_lt p h) ?_) ?_
  · have a := h.1; have b := h.2.2.1
    show (0 : Int) + _ ≤ _; omega
  · simp only [Nat.zero_add, decN_encN]; rfl
end K
noncomputable def BTVa1 : Tab := BTV91.addTurn 75 (methC 153 lPar (.tops 0) dTar (fun a => .chk (decide (K.parOk a.1)) (.ret (K.stk (K.sourceV a.1)))))
theorem tTVa1 : TabOk P BTVa1 := TabOk.addMC (wd := 0) (d := 30) okP tTV91 tTV91 (fun o _a _o' _r h => K.mc_stk h (K.src_eq o))
def O_c9 : DecB (List Rul × Int × Int × Unit × Par × Unit) := .flat 25 lTar (.flat 26 lI1 (.flat 3 lI1 (.flat 150 (.unit (dLp 4 0 0 0) (.tops 0)) (.flat 153 lPar .nil))))
def S_c9 := DecS.frzPC 5 0 (DecS.mk0 (.cons (dS) (.skip (.unit (dLp 0 0 0 0) (.unit (dLp 1 0 0 0) (.unit (dLp 2 0 0 0) (.unit (dLp 3 0 0 0) (.tops 67))))))) O_c9)
theorem fn_c9 : ∀ s, (cutT1 P BTVa1 30 18 72 S_c9 X_pr) s = T.run (
 let q1 := stk (sourceV s.2.2.2.2.2.1);
 let q4 := q1.2;
 let q2 := decN nRul (List.length q4) fun i => encN nRul q4 ((0 : Nat) + i);
 let q3 := q1.1;
  .chk (decide (parOk s.2.2.2.2.2.1)) <|
  .br (Par.wrong q3) (
    .br (decide (Par.pos q3 < (↑(len (Par.x q3)) : Int))) (
      .chk (decide ((0 : Int) ≤ Par.pos q3 ∧ Par.pos q3 < (↑(XS.len (Par.x q3)) : Int))) <|
      .ret ((PUnit.unit, [], (7 : Int), XS.g (Par.x q3) (Int.toNat (Par.pos q3)) (2 : Nat), PUnit.unit))) (
      .ret ((PUnit.unit, [], (7 : Int), (↑(List.length s.1.1) : Int), PUnit.unit)))) (
    .br (checkT q2 != (0 : Int)) (
      .ret ((PUnit.unit, [], checkT q2, (0 : Int), PUnit.unit))) (
      .ret ((PUnit.unit, decN nRul (List.length q4) fun i => encN nRul q4 ((0 : Nat) + i), (0 : Int), (0 : Int), PUnit.unit))))) := fun s => by kernel_rfl
end Go.Proofs.YtkpligkggnjcoaaGreatDoor
/-! TVb -/
namespace Go.Proofs.YtkpligkggnjcoaaGreatDoor
open Ev K
set_option maxRecDepth 100000
namespace K
def errAt (s : Str) (p : Par) : Int := match p.l[p.pos.toNat]? with
  | some t => t.pos
  | none => s.length
def afterV (s : Str) (q : Par × List Rul) : List Rul × Int × Int := if q.1.wrong = true then ([], 7, errAt s q.1) else if checkT q.2 ≠ 0 then ([], checkT q.2, 0) else (q.2, 0, 0)
theorem source_ok (n : Nat) : ∀ (p : Par) (acc : List Rul), parOk p → Adv p (sourceF n p acc).1 := by
  induction n with
  | zero => intro p acc hp; exact Adv.refl hp
  | succ n ih =>
    intro p acc hp
    unfold sourceF
    by_cases hl : p.pos < p.l.length ∧ p.wrong = false
    · rw [if_pos hl]
      cases hr : ruleV (textV p) p.step with
      | none => exact bad_ok hp
      | some r =>
        have h1 := text_step rfl (rule_ne hr) hp
        have h2 := rule_ok hr h1.2.1
        have h3 := must_ok (m := wSemi) (by decide) h2.2.1
        exact ((h1.trans h2).trans h3).trans (ih _ _ h3.2.1)
    · rw [if_neg hl]; exact Adv.refl hp
theorem c9_eq (s : Str) (z : List Rul) (e n : Int) (p : Par) (h : parOk p) : cutT1 P BTVa1 30 18 72 S_c9 X_pr (((s, ()) : Str × Unit), z, e, n, (), p, ()) = some ((), (afterV s (sourceV p)).1, (afterV s (sourceV p)).2.1, (afterV s (sourceV p)).2.2, ()) := by
  rw [fn_c9]
  have hq := (source_ok (fuelV p) p [] h).2.1
  simp only [Nat.zero_add, decN_encN, stk_eq]
  refine chk_step (decide_eq_true h) ?_
  have hq : parOk (sourceV p).1 := hq
  unfold afterV
  generalize sourceV p = q at *
  simp only [par_clamp hq, ← par_len]
  cases hw : q.1.wrong with
  | true =>
    rw [if_pos rfl]
    refine br_t rfl ?_
    unfold errAt
    by_cases hl : q.1.pos < q.1.l.length
    · have hi : q.1.pos.toNat < q.1.l.length := by have := hq.1; omega
      have e1 := List.getElem?_eq_getElem hi
      rw [e1]
      have := par_tok e1
      rw [this]
      exact br_t (decide_eq_true hl) (chk_step (decide_eq_true ⟨hq.1, hl⟩) rfl)
    · rw [List.getElem?_eq_none (by omega)]
      exact br_f (decide_eq_false hl) rfl
  | false =>
    rw [if_neg (by simp)]
    refine br_f rfl ?_
    by_cases hc : checkT q.2 = 0
    · rw [if_neg (fun k => k hc)]
      exact br_f (by rw [hc]; rfl) rfl
    · rw [if_pos hc]
      exact br_t (bne_iff_ne.2 hc) rfl
theorem c9_ok (s : (Str × Unit) × List Rul × Int × Int × Unit × Par × Unit) (r) (h : (T.chk (decide (parOk s.2.2.2.2.2.1)) (.ret ((), (afterV s.1.1 (sourceV s.2.2.2.2.2.1)).1, (afterV s.1.1 (sourceV s.2.2.2.2.2.1)).2.1, (afterV s.1.1 (sourceV s.2.2.2.2.2.1)).2.2, ()))).run = some r) : cutT1 P BTVa1 30 18 72 S_c9 X_pr s = some r := by
  obtain ⟨g, e⟩ := chk_ret h
  rw [← e]
  exact c9_eq _ _ _ _ _ (of_decide_eq_true g)
end K
noncomputable def BTVb1 : Tab := (BTVa1.addNode 18 72 (nodeE [0, 2, 3, 4, 5] S_c9 X_pr (fun s => .chk (decide (K.parOk s.2.2.2.2.2.1)) (.ret ((), (K.afterV s.1.1 (K.sourceV s.2.2.2.2.2.1)).1, (K.afterV s.1.1 (K.sourceV s.2.2.2.2.2.1)).2.1, (K.afterV s.1.1 (K.sourceV s.2.2.2.2.2.1)).2.2, ()))))).addCut 18 72
theorem tTVb1 : TabOk P BTVb1 := TabOk.addCut (d := 30) okP tTVa1 (by kernel_rfl) (fun s r h => K.c9_ok s r h)
def R_pa := dTup (.cons dTar (.cons dInt (.last dInt 0)))
theorem fn_Pa : ∀ a, (callT1 P BTVb1 30 18 D_s R_pa) a = T.run (
 let q1 := Par.mk (XS.mk (List.length (toksT a)) (0 : Nat) (List.length (toksT a)) none (encF rTok (toksT a))) (0 : Int) false;
 let q2 := afterV a (sourceV q1);
  .br (decide ((↑(List.length a) : Int) > (6000 : Int))) (
    .ret (([], (2 : Int), (0 : Int)))) (
    .chk (decide (prOk ((a, a), [], (0 : Int), (0 : Int), PUnit.unit, ((0 : Nat), (0 : Int), false), decF rTok (0 : Nat) fun _x _x_1 => AV.top, PUnit.unit))) <|
    .br (isBad a) (
      .ret ((decN nRul (nat_lit 0) fun i => encN nRul [] ((0 : Nat) + i), (7 : Int), badP a))) (
      .chk (decide (parOk q1)) <|
      .ret ((decN nRul (List.length q2.1) fun i => encN nRul q2.1 ((0 : Nat) + i), q2.2))))) := fun a => by kernel_rfl
end Go.Proofs.YtkpligkggnjcoaaGreatDoor
/-! TX0 -/
namespace Go.Proofs.YtkpligkggnjcoaaGreatDoor
open Ev K
set_option maxRecDepth 100000
namespace K
end K
end Go.Proofs.YtkpligkggnjcoaaGreatDoor
/-! TVc -/
namespace Go.Proofs.YtkpligkggnjcoaaGreatDoor
open Ev K
set_option maxRecDepth 100000
namespace K
def parT (L : List Tok) : Par := ⟨⟨L.length, 0, L.length, none, encF rTok L⟩, 0, false⟩
def parseV (s : Str) : List Rul × Int × Int := if s.length > 6000 then ([], 2, 0) else if isBad s = true then ([], 7, badP s) else afterV s (sourceV (parT (toksT s)))
def paOk (s : Str) : Prop := s.length ≤ 6000 → lexOk s = true ∧ parOk (parT (toksT s))
instance (s : Str) : Decidable (paOk s) := by unfold paOk; infer_instance
theorem Pa_ok (s : Str) (r) (h : (T.chk (decide (paOk s)) (.ret (parseV s))).run = some r) : callT1 P BTVb1 30 18 D_s R_pa s = some r := by
  obtain ⟨g, e⟩ := chk_ret h
  subst e
  have g := of_decide_eq_true g
  rw [fn_Pa]
  unfold parseV
  by_cases hl : s.length > 6000
  · rw [if_pos hl]
    exact br_t (decide_eq_true (by omega)) rfl
  · rw [if_neg hl]
    obtain ⟨g1, g2⟩ := g (by omega)
    refine br_f (decide_eq_false (by omega)) (chk_step (decide_eq_true ⟨⟨rfl, rfl⟩, by show s.length ≤ _; omega, g1⟩) ?_)
    cases hb : isBad s with
    | true =>
      rw [if_pos rfl]
      exact br_t rfl rfl
    | false =>
      rw [if_neg (by simp)]
      simp only [Nat.zero_add, decN_encN]
      exact br_f rfl (chk_step (decide_eq_true g2) rfl)
end K
noncomputable def BTVc1 : Tab := BTVb1.addCall 18 (callE D_s R_pa (fun s => .chk (decide (K.paOk s)) (.ret (K.parseV s))))
theorem tTVc1 : TabOk P BTVc1 := TabOk.addPC tTVb1 (fun s r h => call_of okP tTVb1 (K.Pa_ok s r h))
end Go.Proofs.YtkpligkggnjcoaaGreatDoor
/-! TVd -/
namespace Go.Proofs.YtkpligkggnjcoaaGreatDoor
open Ev K
set_option maxRecDepth 100000
namespace K
theorem top_eq (a : Unit) : callT1 P BTVc1 30 17 (.tops 0) dB a = some true := by
  cases a
  kernel_rfl
end K
noncomputable def BTVd1 : Tab := BTVc1.addCall 17 (callE (.tops 0) dB (fun a => .ret ((fun _ => true) a)))
theorem tTVd1 : TabOk P BTVd1 := TabOk.addPC tTVc1 (fun a r h => by rw [← ret_some h]; exact call_of okP tTVc1 (K.top_eq a))
end Go.Proofs.YtkpligkggnjcoaaGreatDoor
/-! TWa -/
namespace Go.Proofs.YtkpligkggnjcoaaGreatDoor
open Ev K
set_option maxRecDepth 100000
theorem fn_lw_short : ∀ a, (callT1 P BTVd1 30 34 D_s dB) a = T.run (
  .ret (decide ((↑(List.length a) : Int) ≤ (40 : Int)))) := fun a => by kernel_rfl
noncomputable def K.lw_short (a : List UInt8) : Bool := decide ((↑(List.length a) : Int) ≤ (40 : Int))
theorem eq_lw_short (a : List UInt8) : (callT1 P BTVd1 30 34 D_s dB) a = some (K.lw_short a) := (fn_lw_short a).trans rfl
noncomputable def BTWa1 : Tab := BTVd1.addCall 34 (callE D_s dB (fun a => .ret (K.lw_short a)))
theorem tTWa1 : TabOk P BTWa1 := TabOk.addFn (d := 30) okP tTVd1 (fun a r h => by rw [eq_lw_short]; exact congrArg some (ret_some h))
def S_sz := DecS.mk0 (.skip (.unit (dLp 0 0 0 0) (.skip (.cons (dInt) (.last (dInt) 24))))) (.flat 68 lRul .nil)
def X_sz := DecX.one (.exit 0) [3] (DecS.mk0 (.skips 3 (.last (dInt) 25)) .nil)
noncomputable def K.st_sz := loopT1 P BTWa1 30 79 25 [4, 1, 3] S_sz X_sz
theorem sl_sz : ∀ s, (K.st_sz) s = T.run (
  .br (decide (s.1.2 < (↑(clampL (List.length (Rul.grades s.2.1))) : Int))) (
    .chk (decide ((0 : Int) ≤ s.1.2 ∧ s.1.2 < (↑(List.length (Rul.grades s.2.1)) : Int))) <|
    .ret (Sum.inl ((IntKind.wrap IntKind.i64 (IntKind.wrap IntKind.i64 (s.1.1 + (1 : Int)) + (↑(List.length (textOf (encF rStr (Rul.grades s.2.1) ((0 : Nat) + Int.toNat s.1.2) (0 : Nat)))) : Int)), IntKind.wrap IntKind.i64 (s.1.2 + (1 : Int))), Rul.mk (Rul.kind s.2.1) (Rul.due s.2.1) (decF rStr (List.length (Rul.grades s.2.1)) fun i => encF rStr (Rul.grades s.2.1) ((0 : Nat) + i)) (decF rTrm (List.length (Rul.terms s.2.1)) fun i => encF rTrm (Rul.terms s.2.1) ((0 : Nat) + i)) (Rul.n s.2.1) (Rul.d s.2.1) (Rul.way s.2.1), PUnit.unit))) (
    .ret (Sum.inr (s.1.1, PUnit.unit)))) := fun s => by kernel_rfl
noncomputable def K.L_sz := lim K.st_sz
noncomputable def BTWa2 : Tab := BTWa1.addNode 79 25 (nodeE [4, 1, 3] S_sz X_sz (fun s => .obs (K.L_sz s) .ret))
theorem tTWa2 : TabOk P BTWa2 := TabOk.addLoop (d := 30) okP tTWa1 (by kernel_rfl) (by kernel_rfl) (fun s r h => obs_ret h)
theorem fn_sz : ∀ a, (callT1 P BTWa2 30 79 (.last dRul 0) dInt) a = T.run (
  .obs (L_sz ((IntKind.wrap IntKind.i64 ((↑(clampL (List.length (Rul.terms a))) : Int) + (↑(List.length (Rul.due a)) : Int)), (0 : Int)), Rul.mk (Rul.kind a) (Rul.due a) (decF rStr (List.length (Rul.grades a)) fun i => encF rStr (Rul.grades a) ((0 : Nat) + i)) (decF rTrm (List.length (Rul.terms a)) fun i => encF rTrm (Rul.terms a) ((0 : Nat) + i)) (Rul.n a) (Rul.d a) (Rul.way a), PUnit.unit)) fun x0 =>
    .ret x0.1) := fun a => by kernel_rfl
def S_cg := DecS.mk0 (.cons (dRows rLot) (.skips 2 (.last (dInt) 16))) .nil
def X_cg := DecX.or (DecX.one (.exit 0) [0] (DecS.mk0 (.last (dRows rLot) 19) .nil)) (DecX.one .ret [2] (DecS.mk0 (.skips 2 (.last (dB) 17)) .nil))
noncomputable def K.st_cg := loopT1 P BTWa2 30 22 17 [3, 0] S_cg X_cg
theorem sl_cg : ∀ s, (K.st_cg) s = T.run (
  .br (decide (s.1.2 < (↑(clampL (List.length s.1.1)) : Int))) (
    .chk (decide ((0 : Int) ≤ s.1.2 ∧ s.1.2 < (↑(List.length s.1.1) : Int))) <|
    .br (!lw_short (textOf (encF rLot s.1.1 ((0 : Nat) + Int.toNat s.1.2) (nat_lit 0)))) (
      .ret (Sum.inr (Sum.inr (false, PUnit.unit)))) (
      .ret (Sum.inl ((decF rLot (List.length s.1.1) fun i => encF rLot s.1.1 ((0 : Nat) + i), IntKind.wrap IntKind.i64 (s.1.2 + (1 : Int))), PUnit.unit)))) (
    .ret (Sum.inr (Sum.inl (decF rLot (List.length s.1.1) fun i => encF rLot s.1.1 ((0 : Nat) + i), PUnit.unit))))) := fun s => by kernel_rfl
noncomputable def K.L_cg := lim K.st_cg
noncomputable def BTWa3 : Tab := BTWa2.addNode 22 17 (nodeE [3, 0] S_cg X_cg (fun s => .obs (K.L_cg s) .ret))
theorem tTWa3 : TabOk P BTWa3 := TabOk.addLoop (d := 30) okP tTWa2 (by kernel_rfl) (by kernel_rfl) (fun s r h => obs_ret h)
theorem fn_cg : ∀ a, (callT1 P BTWa3 30 22 (.last (dRows rLot) 0) dB) a = T.run (
  .obs (L_cg ((decF rLot (List.length a) fun i => encF rLot a ((0 : Nat) + i), (0 : Int)), PUnit.unit)) fun x0 =>
    .sum (x0) (fun x1 =>
      .ret (decide ((↑(clampL (List.length x1.1)) : Int) ≤ (20 : Int)))) (fun x1 =>
      .ret x1.1)) := fun a => by kernel_rfl
end Go.Proofs.YtkpligkggnjcoaaGreatDoor
/-! TWb -/
namespace Go.Proofs.YtkpligkggnjcoaaGreatDoor
open Ev K
set_option maxRecDepth 100000
namespace K
theorem wiL {i n : Nat} (h : i < clampL n) : IntKind.i64.wrap ((i : Int) + 1) = ((i + 1 : Nat) : Int) := by
  have := clampL_le n
  rw [w64_in (by omega) (by omega)]; rfl
def sizeK (gs : List Str) (n : Int) : Nat → Int
  | 0 => n
  | i + 1 => IntKind.i64.wrap (IntKind.i64.wrap (sizeK gs n i + 1) + (((gs[i]?).getD []).length : Nat))
def sizeV (r : Rul) : Int := sizeK r.grades (IntKind.i64.wrap ((clampL r.terms.length : Nat) + (r.due.length : Nat))) (clampL r.grades.length)
theorem L_sz_eq (r : Rul) (n : Int) : L_sz ((n, 0), r, ()) = some (sizeK r.grades n (clampL r.grades.length), ()) := by
  refine lim_all (fun i : Nat => ((sizeK r.grades n i, (i : Int)), r, ())) (clampL r.grades.length) (fun i hi => ?_) ?_
  · have hi' : i < r.grades.length := Nat.lt_of_lt_of_le hi (clampL_le' _)
    have hy := List.getElem?_eq_getElem hi'
    rw [sl_sz]
    simp only [sizeK]
    rw [hy]
    simp only [Int.toNat_natCast, Nat.zero_add, str_at hy, ns0, decF_encF, wiL hi, Option.getD_some]
    exact br_t (decide_eq_true (by omega)) (chk_step (decide_eq_true (by omega)) rfl)
  · rw [sl_sz]
    exact br_f (decide_eq_false (by dsimp only; omega)) rfl
theorem sz_eq (r : Rul) : callT1 P BTWa2 30 79 (.last dRul 0) dInt r = some (sizeV r) := by
  rw [fn_sz]
  simp only [Nat.zero_add, decF_encF]
  exact obs_step (L_sz_eq r _) rfl
noncomputable def cargoV (l : List Lot) : Bool := match first (atP l fun x => !lw_short x.grade) (clampL l.length) with
  | some _ => false
  | none => decide ((clampL l.length : Int) ≤ 20)
theorem L_cg_eq (l : List Lot) : L_cg ((l, 0), ()) = some (match first (atP l fun x => !lw_short x.grade) (clampL l.length) with
    | some _ => .inr (false, ())
    | none => .inl (l, ())) := by
  refine (lim_find (fun i : Nat => ((l, (i : Int)), ())) (clampL l.length) (atP l fun x => !lw_short x.grade) (fun _ => .inr (false, ())) (.inl (l, ())) (fun i hi hp => ?_) (fun i hi hp => ?_) ?_).trans ?_
  · have hi' : i < l.length := Nat.lt_of_lt_of_le hi (clampL_le' _)
    have hy := List.getElem?_eq_getElem hi'
    unfold atP at hp; rw [hy] at hp
    rw [sl_cg]
    generalize l[i] = y at hy hp
    simp only [Int.toNat_natCast, Nat.zero_add, lot_at hy, nl0]
    exact br_t (decide_eq_true (by omega)) (chk_step (decide_eq_true (by omega)) (br_t hp rfl))
  · have hi' : i < l.length := Nat.lt_of_lt_of_le hi (clampL_le' _)
    have hy := List.getElem?_eq_getElem hi'
    unfold atP at hp; rw [hy] at hp
    rw [sl_cg]
    generalize l[i] = y at hy hp
    simp only [Int.toNat_natCast, Nat.zero_add, lot_at hy, nl0, decF_encF, wiL hi]
    exact br_t (decide_eq_true (by omega)) (chk_step (decide_eq_true (by omega)) (br_f hp rfl))
  · rw [sl_cg]
    simp only [Nat.zero_add, decF_encF]
    exact br_f (decide_eq_false (by omega)) rfl
  · cases first (atP l fun x => !lw_short x.grade) (clampL l.length) <;> rfl
theorem cg_eq (l : List Lot) : callT1 P BTWa3 30 22 (.last (dRows rLot) 0) dB l = some (cargoV l) := by
  rw [fn_cg]
  simp only [Nat.zero_add, decF_encF]
  refine obs_step (L_cg_eq l) ?_
  unfold cargoV
  cases first (atP l fun x => !lw_short x.grade) (clampL l.length) <;> rfl
end K
noncomputable def BTWb1 : Tab := BTWa3.addCall 79 (callE (.last dRul 0) dInt (fun a => .ret (K.sizeV a)))
theorem tTWb1 : TabOk P BTWb1 := TabOk.addPC tTWa3 (fun a r h => by rw [← ret_some h]; exact call_of okP tTWa2 (K.sz_eq a))
noncomputable def BTWb2 : Tab := BTWb1.addCall 22 (callE (.last (dRows rLot) 0) dB (fun a => .ret (K.cargoV a)))
theorem tTWb2 : TabOk P BTWb2 := TabOk.addPC tTWb1 (fun a r h => by rw [← ret_some h]; exact call_of okP tTWa3 (K.cg_eq a))
def S_fw := DecS.mk0 (.skip (.unit (dLp 0 0 0 0) (.skip (.cons (dInt) (.last (dInt) 35))))) (.flat 25 lTar .nil)
def X_fw := DecX.one (.exit 0) [1, 3] (DecS.mk0 (.skip (.unit (dLp 0 0 0 0) (.skip (.last (dInt) 36)))) (.flat 25 lTar .nil))
noncomputable def K.st_fw := loopT1 P BTWb2 30 21 25 [4, 1, 3] S_fw X_fw
theorem sl_fw : ∀ s, (K.st_fw) s = T.run (
 let q1 := (0 : Nat) + Int.toNat s.1.2;
 let q2 := encN nRul s.2.1 q1 (nat_lit 2);
 let q3 := encN nRul s.2.1 q1 (nat_lit 3);
 let q4 := List.length s.2.1;
  .br (decide (s.1.2 < (↑(clampL q4) : Int))) (
    .chk (decide ((0 : Int) ≤ s.1.2 ∧ s.1.2 < (↑q4 : Int))) <|
    .ret (Sum.inl ((IntKind.wrap IntKind.i64 (s.1.1 + sizeV (Rul.mk (numOf (encN nRul s.2.1 q1 (0 : Nat))) (textOf (encN nRul s.2.1 q1 (nat_lit 1))) (decF rStr (slLen q2) fun i => slF q2 (slRow q2 + i)) (decF rTrm (slLen q3) fun i => slF q3 (slRow q3 + i)) (numOf (encN nRul s.2.1 q1 (nat_lit 4))) (numOf (encN nRul s.2.1 q1 (nat_lit 5))) (numOf (encN nRul s.2.1 q1 (nat_lit 6))))), IntKind.wrap IntKind.i64 (s.1.2 + (1 : Int))), decN nRul q4 fun i => encN nRul s.2.1 ((0 : Nat) + i), PUnit.unit))) (
    .ret (Sum.inr (s.1.1, decN nRul q4 fun i => encN nRul s.2.1 ((0 : Nat) + i), PUnit.unit)))) := fun s => by kernel_rfl
noncomputable def K.L_fw := lim K.st_fw
noncomputable def BTWb3 : Tab := BTWb2.addNode 21 25 (nodeE [4, 1, 3] S_fw X_fw (fun s => .obs (K.L_fw s) .ret))
theorem tTWb3 : TabOk P BTWb3 := TabOk.addLoop (d := 30) okP tTWb2 (by kernel_rfl) (by kernel_rfl) (fun s r h => obs_ret h)
theorem fn_fw : ∀ a, (callT1 P BTWb3 30 21 (.last dTar 0) dB) a = T.run (
  .obs (L_fw (((0 : Int), (0 : Int)), decN nRul (List.length a) fun i => encN nRul a ((0 : Nat) + i), PUnit.unit)) fun x0 =>
    .br (decide (x0.1 ≤ (1500 : Int))) (
      .br (decide ((↑(clampL (List.length x0.2.1)) : Int) ≤ (12 : Int))) (
        .ret (true)) (
        .br (decide ((↑(clampL (List.length x0.2.1)) : Int) > (30 : Int))) (
          .ret (decide ((↑(clampL (List.length x0.2.1)) : Int) ≤ (50 : Int)))) (
          .ret (false)))) (
      .ret (false))) := fun a => by kernel_rfl
end Go.Proofs.YtkpligkggnjcoaaGreatDoor
/-! TWc -/
namespace Go.Proofs.YtkpligkggnjcoaaGreatDoor
open Ev K
set_option maxRecDepth 100000
set_option maxHeartbeats 40000000
namespace K
def fewK (l : List Rul) : Nat → Int
  | 0 => 0
  | i + 1 => IntKind.i64.wrap (fewK l i + sizeV ((l[i]?).getD ⟨0, [], [], [], 0, 0, 0⟩))
def fewV (l : List Rul) : Bool := decide (fewK l (clampL l.length) ≤ 1500) && (decide ((clampL l.length : Int) ≤ 12) || decide ((clampL l.length : Int) > 30) && decide ((clampL l.length : Int) ≤ 50))
theorem L_fw_eq (l : List Rul) : L_fw ((0, 0), l, ()) = some (fewK l (clampL l.length), l, ()) := by
  refine lim_all (fun i : Nat => ((fewK l i, (i : Int)), l, ())) (clampL l.length) (fun i hi => ?_) ?_
  · have hi' : i < l.length := Nat.lt_of_lt_of_le hi (clampL_le' _)
    have hy := List.getElem?_eq_getElem hi'
    rw [sl_fw]
    simp only [fewK]
    rw [hy]
    generalize l[i] = r at hy
    simp only [Int.toNat_natCast, Nat.zero_add, rul_at hy, nr0, nr1, nr2, nr3, nr4, nr5, nr6, so_len, so_f, so_row, decF_encF, decN_encN, wiL hi, Option.getD_some]
    exact br_t (decide_eq_true (by omega)) (chk_step (decide_eq_true (by omega)) rfl)
  · rw [sl_fw]
    simp only [Nat.zero_add, decN_encN]
    exact br_f (decide_eq_false (by omega)) rfl
theorem fw_eq (l : List Rul) : callT1 P BTWb3 30 21 (.last dTar 0) dB l = some (fewV l) := by
  rw [fn_fw]
  simp only [Nat.zero_add, decN_encN]
  refine obs_step (L_fw_eq l) ?_
  by_cases h1 : fewK l (clampL l.length) ≤ 1500
  · refine br_t (decide_eq_true h1) ?_
    by_cases h2 : (clampL l.length : Int) ≤ 12
    · refine (br_t (decide_eq_true h2) rfl).trans ?_
      unfold fewV; rw [decide_eq_true h1, decide_eq_true h2]; rfl
    · refine br_f (decide_eq_false h2) ?_
      by_cases h3 : (clampL l.length : Int) > 30
      · refine (br_t (decide_eq_true h3) rfl).trans ?_
        unfold fewV; rw [decide_eq_true h1, decide_eq_false h2, decide_eq_true h3]; rfl
      · refine (br_f (decide_eq_false h3) rfl).trans ?_
        unfold fewV; rw [decide_eq_true h1, decide_eq_false h2, decide_eq_false h3]; rfl
  · refine (br_f (decide_eq_false h1) rfl).trans ?_
    unfold fewV; rw [decide_eq_false h1]; rfl
end K
noncomputable def BTWc1 : Tab := BTWb3.addCall 21 (callE (.last dTar 0) dB (fun a => .ret (K.fewV a)))
theorem tTWc1 : TabOk P BTWc1 := TabOk.addPC tTWb3 (fun a r h => by rw [← ret_some h]; exact call_of okP tTWb3 (K.fw_eq a))
def D_tt := DecL.cons dTar (.cons dS (.cons dS (.cons dInt (.cons (dRows rLot) (.last (dI .u8) 0)))))
def S_lt := DecS.mk0 (.skips 4 (.cons (dRows rLot) (.cons (dI .u8) (.unit (dLp 0 0 0 0) (.skips 6 (.cons (dB) (.cons (dRows rEff) (.skip (.cons (dInt) (.skip (.cons (dInt) (.last (dInt) 229)))))))))))) (.flat 25 lTar .nil)
def X_lt := DecX.or (DecX.one (.exit 0) [4, 5, 6, 13, 16, 18] (DecS.mk0 (.skips 4 (.cons (dRows rLot) (.cons (dI .u8) (.unit (dLp 0 0 0 0) (.skips 6 (.cons (dB) (.skips 2 (.cons (dInt) (.skip (.last (dInt) 230)))))))))) (.flat 25 lTar .nil))) (DecX.one .ret [12] (DecS.mk0 (.skips 12 (.last (dB) 236)) .nil))
noncomputable def K.st_lt := loopT1 P BTWc1 30 8 81 [19, 14, 18, 13, 4, 6, 5, 16] S_lt X_lt
theorem sl_lt : ∀ s, (K.st_lt) s = T.run (
 let q5 := (0 : Nat);
 let q6 := s.1.2.2.2.1;
 let q4 := List.length q6;
 let q3 := s.1.2.2.2.2.2.2;
 let q8 := q5 + Int.toNat q3;
 let q1 := Sum.inl ((decF rLot (List.length s.1.1) fun i => encF rLot s.1.1 (q5 + i), s.1.2.1, s.1.2.2.1, decF rEff q4 fun i => encF rEff q6 (q5 + i), s.1.2.2.2.2.1, numOf (encF rEff q6 q8 (nat_lit 2)), IntKind.wrap IntKind.i64 (q3 + (1 : Int))), decN nRul (List.length s.2.1) fun i => encN nRul s.2.1 (q5 + i), PUnit.unit);
 let q2 := decide ((0 : Int) ≤ q3 ∧ q3 < (↑q4 : Int));
 let q7 := Sum.inr (Sum.inr (false, PUnit.unit));
  .br (decide (q3 < (↑(clampL q4) : Int))) (
    .chk q2 <|
    .br (numOf (encF rEff q6 q8 (nat_lit 1)) != s.1.2.2.2.2.2.1) (
      .ret q7) (
      .br (decide (q3 > (0 : Int))) (
        .chk q2 <|
        .chk (decide ((0 : Int) ≤ IntKind.wrap IntKind.i64 (q3 - (1 : Int)) ∧ IntKind.wrap IntKind.i64 (q3 - (1 : Int)) < (↑q4 : Int))) <|
        .br (decide (numOf (encF rEff q6 q8 (nat_lit 0)) ≤ numOf (encF rEff q6 (q5 + Int.toNat (IntKind.wrap IntKind.i64 (q3 - (1 : Int)))) (nat_lit 0)))) (
          .ret q7) (
          .chk q2 <|
          .ret q1)) (
        .chk q2 <|
        .ret q1))) (
    .ret (Sum.inr (Sum.inl ((decF rLot (List.length s.1.1) fun i => encF rLot s.1.1 (q5 + i), s.1.2.1, s.1.2.2.1, s.1.2.2.2.2.1, s.1.2.2.2.2.2.1), decN nRul (List.length s.2.1) fun i => encN nRul s.2.1 (q5 + i), PUnit.unit))))) := fun s => by kernel_rfl
noncomputable def K.L_lt := lim K.st_lt
noncomputable def BTWc2 : Tab := BTWc1.addNode 8 81 (nodeE [19, 14, 18, 13, 4, 6, 5, 16] S_lt X_lt (fun s => .obs (K.L_lt s) .ret))
theorem tTWc2 : TabOk P BTWc2 := TabOk.addLoop (d := 30) okP tTWc1 (by kernel_rfl) (by kernel_rfl) (fun s r h => obs_ret h)
def S_lu := DecS.mk0 (.skips 13 (.cons (dB) (.skips 6 (.cons (dRows rChrg) (.skips 2 (.cons (dRows rChrg) (.skip (.cons (dRows rChrg) (.skip (.cons (dRows rChrg) (.skip (.last (dInt) 219)))))))))))) .nil
def X_lu := DecX.or (DecX.one (.exit 2) [13] (DecS.mk0 (.skips 13 (.last (dB) 235)) .nil)) (DecX.one .ret [12] (DecS.mk0 (.skips 12 (.last (dB) 236)) .nil))
noncomputable def K.st_lu := loopT1 P BTWc2 30 8 217 [29, 20, 25, 23, 27, 13] S_lu X_lu
theorem sl_lu : ∀ s, (K.st_lu) s = T.run (
 let q9 := (0 : Nat);
 let q3 := s.1.2.2.2.2.2;
 let q1 := q9 + Int.toNat q3;
 let q8 := List.length s.1.2.1;
 let q2 := decide ((0 : Int) ≤ q3 ∧ q3 < (↑q8 : Int));
 let q4 := Sum.inr (Sum.inr (false, PUnit.unit));
 let q12 := s.1.2.2.2.1;
 let q5 := decide ((0 : Int) ≤ q3 ∧ q3 < (↑(List.length q12) : Int));
 let q6 := decide ((0 : Int) ≤ q3 ∧ q3 < (↑(List.length s.1.2.2.1) : Int));
 let q7 := s.1.2.2.2.2.1;
 let q10 := encF rChrg s.1.2.1 q1 (nat_lit 0);
 let q11 := encF rChrg s.1.2.1 q1 (nat_lit 1);
  .br (decide (q3 < (↑(clampL q8) : Int))) (
    .chk q6 <|
    .chk q2 <|
    .br (!textOf (encF rChrg s.1.2.2.1 q1 (nat_lit 0)) == textOf q10) (
      .ret q4) (
      .chk q5 <|
      .chk q2 <|
      .br (!textOf (encF rChrg q12 q1 (nat_lit 0)) == textOf q10) (
        .ret q4) (
        .chk (decide ((0 : Int) ≤ q3 ∧ q3 < (↑(List.length q7) : Int))) <|
        .chk q2 <|
        .br (!(textOf (encF rChrg q7 q1 q9) == textOf (encF rChrg s.1.2.1 q1 q9) && numOf (encF rChrg q7 q1 (nat_lit 1)) == numOf q11)) (
          .ret q4) (
          .chk q6 <|
          .chk q5 <|
          .chk q2 <|
          .br (IntKind.wrap IntKind.i64 (numOf (encF rChrg s.1.2.2.1 q1 (nat_lit 1)) + numOf (encF rChrg q12 q1 (nat_lit 1))) != numOf q11) (
            .ret q4) (
            .ret (Sum.inl ((s.1.1, decF rChrg q8 fun i => encF rChrg s.1.2.1 (q9 + i), decF rChrg (List.length s.1.2.2.1) fun i => encF rChrg s.1.2.2.1 (q9 + i), decF rChrg (List.length q12) fun i => encF rChrg q12 (q9 + i), decF rChrg (List.length q7) fun i => encF rChrg q7 (q9 + i), IntKind.wrap IntKind.i64 (q3 + (1 : Int))), PUnit.unit))))))) (
    .ret (Sum.inr (Sum.inl (s.1.1, PUnit.unit))))) := fun s => by kernel_rfl
noncomputable def K.L_lu := lim K.st_lu
noncomputable def BTWc3 : Tab := BTWc2.addNode 8 217 (nodeE [29, 20, 25, 23, 27, 13] S_lu X_lu (fun s => .obs (K.L_lu s) .ret))
theorem tTWc3 : TabOk P BTWc3 := TabOk.addLoop (d := 30) okP tTWc2 (by kernel_rfl) (by kernel_rfl) (fun s r h => obs_ret h)
noncomputable def BTWc4 : Tab := BTWc3.addPiv 8 [21, 22, 23]
theorem tTWc4 : TabOk P BTWc4 := TabOk.addPiv tTWc3
theorem fn_lwTt : ∀ a, (callT1 P BTWc4 30 8 D_tt dB) a = T.run (
 let q1 := (0 : Nat);
 let q2 := decN nRul (List.length a.1) fun i => encN nRul a.1 (q1 + i);
 let q3 := (1 : Int);
 let q4 := (0 : Int);
 let q5 := traceV q2 a.2.1 a.2.2.1 a.2.2.2.1;
 let q6 := (140737488355328 : Nat);
 let q7 := penV q2 a.2.1 a.2.2.1 a.2.2.2.1;
  .br (!fewV q2) (
    .ret (true)) (
    .br (!lw_short a.2.1) (
      .ret (true)) (
      .br (!lw_short a.2.2.1) (
        .ret (true)) (
        .br (!cargoV (decF rLot (List.length a.2.2.2.2.1) fun i => encF rLot a.2.2.2.2.1 (q1 + i))) (
          .ret (true)) (
          .br (q5.2 != q7.2) (
            .ret (false)) (
            .obs (L_lt ((decF rLot (List.length a.2.2.2.2.1) fun i => encF rLot a.2.2.2.2.1 (q1 + i), a.2.2.2.2.2, true, decF rEff (List.length q5.1) fun i => encF rEff q5.1 (q1 + i), q7.1, q4, q4), decN nRul (List.length a.1) fun i => encN nRul a.1 (q1 + i), PUnit.unit)) fun x0 =>
              .sum (x0) (fun x1 =>
 let q15 := IntKind.wrap IntKind.i64 x1.1.2.1;
 let q17 := List.length x1.1.1;
 let q11 := IntKind.wrap IntKind.i64 ((↑(clampL q17) : Int) + q3);
 let q8 := Int.tmod q15 q11;
 let q9 := decN nRul (List.length x1.2.1) fun i => encN nRul x1.2.1 (q1 + i);
 let q16 := List.length x1.1.1 - Int.toNat q8;
 let q18 := Int.toNat q8 - q1;
 let q10 := billV q9 (decF rLot (q1 + q16 + q18) fun i => appG (q1 + q16) (appG q1 (fun _x _x_1 => AV.top) fun i k => encF rLot x1.1.1 (q1 + Int.toNat q8 + i) k) (fun i k => encF rLot x1.1.1 (nat_lit 0 + i) k) (q1 + i));
 let q12 := billV q9 (decF rLot (q1 + q16) fun i => appG q1 (fun _x _x_1 => AV.top) (fun i k => encF rLot x1.1.1 (q1 + Int.toNat q8 + i) k) (q1 + i));
 let q13 := billV q9 (decF rLot (q1 + q18) fun i => appG q1 (fun _x _x_1 => AV.top) (fun i k => encF rLot x1.1.1 (nat_lit 0 + i) k) (q1 + i));
 let q14 := billV q9 (decF rLot q17 fun i => encF rLot x1.1.1 (q1 + i));
 let q19 := decide ((q1 + q16) * (24 : Nat) ≤ q6 ∧ q1 + q16 ≤ nat_lit 9223372036854775807);
 let q20 := List.length q14.1;
 let q21 := decide (q4 ≤ Int.tmod q15 q11 ∧ Int.tmod q15 q11 ≤ (↑q17 : Int)) && true;
 let q22 := true && decide (q4 ≤ Int.tmod q15 q11 ∧ Int.tmod q15 q11 ≤ (↑q17 : Int));
                .br (x1.1.2.2.2.2 != x1.1.2.2.2.1) (
                  .ret (false)) (
                  .br (q14.2 != q4) (
                    .ret x1.1.2.2.1) (
                    .chk (!decide (IntKind.wrap IntKind.i64 ((↑(clampL q17) : Int) + q3) = q4)) <|
                    .chk q21 <|
                    .chk (decide ((q1 + q18) * (24 : Nat) ≤ q6 ∧ q1 + q18 ≤ nat_lit 9223372036854775807)) <|
                    .chk q22 <|
                    .chk q19 <|
                    .chk q22 <|
                    .chk q19 <|
                    .chk q21 <|
                    .chk (decide ((q1 + q16 + q18) * (24 : Nat) ≤ q6 ∧ q1 + q16 + q18 ≤ nat_lit 9223372036854775807)) <|
                    .br (q13.2 != q4) (
                      .ret (false)) (
                      .br (q12.2 != q4) (
                        .ret (false)) (
                        .br (q10.2 != q4) (
                          .ret (false)) (
                          .br ((↑(clampL (List.length q13.1)) : Int) != (↑(clampL q20) : Int)) (
                            .ret (false)) (
                            .br ((↑(clampL (List.length q12.1)) : Int) != (↑(clampL q20) : Int)) (
                              .ret (false)) (
                              .br ((↑(clampL (List.length q10.1)) : Int) != (↑(clampL q20) : Int)) (
                                .ret (false)) (
                                .obs (L_lu ((x1.1.2.2.1, decF rChrg q20 fun i => encF rChrg q14.1 (q1 + i), decF rChrg (List.length q13.1) fun i => encF rChrg q13.1 (q1 + i), decF rChrg (List.length q12.1) fun i => encF rChrg q12.1 (q1 + i), decF rChrg (List.length q10.1) fun i => encF rChrg q10.1 (q1 + i), q4), PUnit.unit)) fun x2 =>
                                  .sum (x2) (fun x3 =>
                                    .ret x3.1) (fun x3 =>
                                    .ret x3.1)))))))))) (fun x1 =>
                .ret x1.1))))))) := fun a => by kernel_rfl
end Go.Proofs.YtkpligkggnjcoaaGreatDoor
/-! TWd -/
namespace Go.Proofs.YtkpligkggnjcoaaGreatDoor
open Ev K
set_option maxRecDepth 100000
namespace K
def befE (x : List Effc) : Nat → Int
  | 0 => 0
  | i + 1 => ((x[i]?).getD ⟨0, 0, 0⟩).after
theorem befE_app {x y : List Effc} : ∀ {i : Nat}, i ≤ x.length → befE (x ++ y) i = befE x i
  | 0, _ => rfl
  | i + 1, h => by
    show (((x ++ y)[i]?).getD ⟨0, 0, 0⟩).after = ((x[i]?).getD ⟨0, 0, 0⟩).after
    rw [List.getElem?_append_left (by omega)]
theorem befE_last (x : List Effc) : befE x x.length = match x.getLast? with
    | some e => e.after
    | none => 0 := by
  rw [List.getLast?_eq_getElem?]
  cases x with
  | nil => rfl
  | cons a t =>
    show ((((a :: t)[t.length]?).getD ⟨0, 0, 0⟩).after) = _
    have h : (a :: t).length - 1 = t.length := by simp
    rw [h, List.getElem?_eq_getElem (by simp)]; rfl
def ChainE (x : List Effc) : Prop := ∀ (i : Nat) e, x[i]? = some e → e.before = befE x i ∧ ∀ j e', i = j + 1 → x[j]? = some e' → e'.rule < e.rule
theorem trc_chain (l : List Rul) (due grade : Str) (m : Int) : ∀ k, ChainE (trc l due grade m k).2 ∧ ∀ (i : Nat) e, (trc l due grade m k).2[i]? = some e → e.rule < k
  | 0 => by
    have e0 : (trc l due grade m 0).2 = [] := rfl
    rw [e0]
    exact ⟨fun i e h => by simp at h, fun i e h => by simp at h⟩
  | k + 1 => by
    obtain ⟨ih1, ih2⟩ := trc_chain l due grade m k
    have up : ∀ (i : Nat) e, (trc l due grade m k).2[i]? = some e → e.rule < ((k + 1 : Nat) : Int) := fun i e h => by have := ih2 i e h; omega
    have hlast := trc_last l due grade m k
    unfold trc
    cases l[k]? with
    | none => exact ⟨ih1, up⟩
    | some r =>
      by_cases hf : forR r due grade = true
      · simp only [if_pos hf]
        generalize trc l due grade m k = q at *
        obtain ⟨a, X⟩ := q
        simp only at *
        have hlast : a = befE X X.length := hlast.trans (befE_last X).symm
        refine ⟨fun i e h => ?_, fun i e h => ?_⟩
        · by_cases hi : i < X.length
          · rw [List.getElem?_append_left hi] at h
            obtain ⟨g1, g2⟩ := ih1 i e h
            refine ⟨by rw [befE_app (by omega)]; exact g1, fun j e' hj he' => g2 j e' hj ?_⟩
            rw [List.getElem?_append_left (by omega)] at he'; exact he'
          · have hlt := (List.getElem?_eq_some_iff.1 h).1
            rw [List.length_append, List.length_singleton] at hlt
            obtain rfl : i = X.length := by omega
            rw [List.getElem?_append_right (Nat.le_refl _), Nat.sub_self] at h
            injection h with h; subst h
            refine ⟨by rw [befE_app (Nat.le_refl _)]; exact hlast, fun j e' hj he' => ?_⟩
            rw [List.getElem?_append_left (by omega)] at he'
            exact ih2 j e' he'
        · by_cases hi : i < X.length
          · rw [List.getElem?_append_left hi] at h
            exact up i e h
          · have hlt := (List.getElem?_eq_some_iff.1 h).1
            rw [List.length_append, List.length_singleton] at hlt
            obtain rfl : i = X.length := by omega
            rw [List.getElem?_append_right (Nat.le_refl _), Nat.sub_self] at h
            injection h with h; subst h
            show (k : Int) < _; omega
      · simp only [if_neg hf]; exact ⟨ih1, up⟩
theorem L_lt_eq (c : List Lot) (cut : Int) (up : Bool) (x : List Effc) (n : Int) (l : List Rul) (hx : x.length ≤ 1000000) (h : ChainE x) : L_lt ((c, cut, up, x, n, 0, 0), l, ()) = some (.inl ((c, cut, up, n, befE x x.length), l, ())) := by
  refine lim_all (fun i : Nat => ((c, cut, up, x, n, befE x i, (i : Int)), l, ())) x.length (fun i hi => ?_) ?_
  · have hy := List.getElem?_eq_getElem hi
    obtain ⟨g1, g2⟩ := h i _ hy
    have hb : befE x (i + 1) = x[i].after := by show ((x[i]?).getD _).after = _; rw [hy]; rfl
    rw [sl_lt]
    rw [hb]
    generalize x[i] = e at hy g1 g2
    simp only [Int.toNat_natCast, Nat.zero_add, cl hx, eff_at hy, ne0, ne1, ne2, decF_encF, decN_encN, wi i (by omega)]
    refine br_t (decide_eq_true (by omega)) (chk_step (decide_eq_true (by omega)) (br_f (by rw [g1]; simp) ?_))
    cases i with
    | zero => exact br_f (decide_eq_false (by decide)) (chk_step (decide_eq_true (by omega)) rfl)
    | succ j =>
      have hj : j < x.length := by omega
      have hy' := List.getElem?_eq_getElem hj
      have g3 := g2 j _ rfl hy'
      have hw : IntKind.i64.wrap (((j + 1 : Nat) : Int) - 1) = (j : Int) := by rw [w64_in (by omega) (by omega)]; omega
      generalize x[j] = e' at hy' g3
      simp only [hw, Int.toNat_natCast, eff_at hy', ne0]
      exact br_t (decide_eq_true (by omega)) (chk_step (decide_eq_true (by omega)) (chk_step (decide_eq_true (by omega)) (br_f (decide_eq_false (by omega)) (chk_step (decide_eq_true (by omega)) rfl))))
  · rw [sl_lt]
    simp only [Nat.zero_add, cl hx, decF_encF, decN_encN]
    exact br_f (decide_eq_false (by omega)) rfl
theorem L_lu_eq (up : Bool) (w f la tu : List Chrg) (hw : w.length ≤ 1000000) (h : ∀ (i : Nat) x, w[i]? = some x → tu[i]? = some x ∧ ∃ y z, f[i]? = some y ∧ la[i]? = some z ∧ y.due = x.due ∧ z.due = x.due ∧ IntKind.i64.wrap (y.pence + z.pence) = x.pence) :
    L_lu ((up, w, f, la, tu, 0), ()) = some (.inl (up, ())) := by
  refine lim_all (fun i : Nat => ((up, w, f, la, tu, (i : Int)), ())) w.length (fun i hi => ?_) ?_
  · have hy := List.getElem?_eq_getElem hi
    obtain ⟨g1, y, z, g2, g3, g4, g5, g6⟩ := h i _ hy
    have l1 := (List.getElem?_eq_some_iff.1 g1).1
    have l2 := (List.getElem?_eq_some_iff.1 g2).1
    have l3 := (List.getElem?_eq_some_iff.1 g3).1
    rw [sl_lu]
    generalize w[i] = x at hy g1 g4 g5 g6
    simp only [Int.toNat_natCast, Nat.zero_add, cl hw, chrg_at hy, chrg_at g1, chrg_at g2, chrg_at g3, nc0, nc1, decF_encF, wi i (by omega), g4, g5, g6]
    have ck : ∀ n : Nat, i < n → decide ((0 : Int) ≤ (i : Int) ∧ (i : Int) < (n : Int)) = true := fun n hn => decide_eq_true (by omega)
    exact br_t (decide_eq_true (by omega)) (chk_step (ck _ l2) (chk_step (ck _ hi) (br_f (by simp) (chk_step (ck _ l3) (chk_step (ck _ hi) (br_f (by simp) (chk_step (ck _ l1) (chk_step (ck _ hi) (br_f (by simp)
      (chk_step (ck _ l2) (chk_step (ck _ l3) (chk_step (ck _ hi) (br_f (by simp) rfl)))))))))))))
  · rw [sl_lu]
    simp only [cl hw]
    exact br_f (decide_eq_false (by omega)) rfl
end K
end Go.Proofs.YtkpligkggnjcoaaGreatDoor
/-! TWe -/
namespace Go.Proofs.YtkpligkggnjcoaaGreatDoor
open Ev K
set_option maxRecDepth 100000
namespace K
theorem u8_bd (n : Int) : 0 ≤ IntKind.u8.wrap n ∧ IntKind.u8.wrap n ≤ 255 := by
  unfold IntKind.wrap
  simp [IntKind.bits, IntKind.signed]
  omega
theorem decF_appG {ρ : Type} (R : RowD ρ) (n m : Nat) (f g : Nat → Nat → AV) : decF R (n + m) (appG n f g) = decF R n f ++ decF R m g := by
  apply List.ext_getElem?
  intro i
  simp only [decF, List.getElem?_map]
  by_cases h : i < n
  · have e : appG n f g i = f i := by
      funext k; unfold appG; rw [show Nat.ble n i = false by rw [← Bool.not_eq_true, Nat.ble_eq]; omega]
    rw [List.getElem?_append_left (by simp; exact h), List.getElem?_map, List.getElem?_range (by omega), List.getElem?_range h, Option.map_some, Option.map_some, e]
  · have e : appG n f g i = g (i - n) := by
      funext k; unfold appG; rw [show Nat.ble n i = true by rw [Nat.ble_eq]; omega]
    rw [List.getElem?_append_right (by simp; omega), List.getElem?_map]
    simp only [List.length_map, List.length_range]
    by_cases h2 : i < n + m
    · rw [List.getElem?_range h2, List.getElem?_range (by omega), Option.map_some, Option.map_some, e]
    · rw [List.getElem?_eq_none (by simp; omega), List.getElem?_eq_none (by simp; omega)]; rfl
theorem decF_part {ρ : Type} (R : RowD ρ) (l : List ρ) (a n : Nat) (h : a + n ≤ l.length) : decF R n (fun i => encF R l (a + i)) = (l.drop a).take n := by
  apply List.ext_getElem?
  intro i
  simp only [decF, List.getElem?_map]
  by_cases hi : i < n
  · rw [List.getElem?_range hi, Option.map_some, List.getElem?_take, if_pos hi, List.getElem?_drop]
    have hy : l[a + i]? = some l[a + i] := List.getElem?_eq_getElem (by omega)
    rw [encF_at hy, R.good, hy]
  · rw [List.getElem?_eq_none (by simp; omega), List.getElem?_take, if_neg hi]; rfl
theorem lots_sub {c c' : List Lot} (h : lotsL c = 0) (hl : c'.length ≤ c.length) (hs : ∀ x ∈ c', x ∈ c) : lotsL c' = 0 := by
  obtain ⟨h1, h2⟩ := lots_ok h
  unfold lotsL
  rw [if_neg (by omega), if_pos (fun x hx => h2 x (hs x hx))]
theorem bill_sub {l : List Rul} {c c' : List Lot} (h : errB l c = 0) (hl : c'.length ≤ c.length) (hs : ∀ x ∈ c', x ∈ c) : billV l c' = (billL l c', 0) := by
  obtain ⟨h1, h2⟩ := errB_ok h
  have h3 := lots_sub h2 hl hs
  have h4 : errB l c' = 0 := by unfold errB; rw [if_neg (fun k => k h1)]; exact h3
  unfold billV
  rw [if_neg (fun k => k h4)]
theorem bill_len (l : List Rul) (c : List Lot) : (billL l c).length = (duesT l).length := by unfold billL; rw [List.length_map]
theorem bill_at {l : List Rul} {c : List Lot} {i : Nat} {x : Chrg} (h : (billL l c)[i]? = some x) : ∃ d, x = ⟨d, allL l d c⟩ ∧ ∀ c', (billL l c')[i]? = some ⟨d, allL l d c'⟩ := by
  unfold billL at h ⊢
  rw [List.getElem?_map] at h
  obtain ⟨d, hd, rfl⟩ := Option.map_eq_some_iff.1 h
  exact ⟨d, rfl, fun c' => by rw [List.getElem?_map, hd]; rfl⟩
set_option maxHeartbeats 1000000 in
theorem tt_eq (a : List Rul × Str × Str × Int × List Lot × Int) (hc : 0 ≤ a.2.2.2.2.2 ∧ a.2.2.2.2.2 ≤ 255) : callT1 P BTWc4 30 8 D_tt dB a = some true := by
  obtain ⟨l, d, g, m, c, cut⟩ := a
  simp only at hc
  rw [fn_lwTt]
  simp only [Nat.zero_add, Nat.sub_zero, decF_encF, decN_encN]
  refine br_if (fun _ => rfl) (fun _ => br_if (fun _ => rfl) (fun _ => br_if (fun _ => rfl) (fun _ => br_if (fun _ => rfl) (fun _ => ?_))))
  have e2 : (traceV l d g m).2 = (penV l d g m).2 := by
    unfold traceV
    by_cases hp : (penV l d g m).2 = 0
    · rw [if_neg (fun k => k hp)]; exact hp.symm
    · rw [if_pos hp]
  have e1 : ChainE (traceV l d g m).1 ∧ (traceV l d g m).1.length ≤ 1000000 ∧ befE (traceV l d g m).1 (traceV l d g m).1.length = (penV l d g m).1 := by
    unfold traceV
    by_cases hp : (penV l d g m).2 = 0
    · rw [if_neg (fun k => k hp)]
      obtain ⟨k1, k2⟩ := pen_ok hp
      have hl := (checkT_ok (ask_ok k1).1).1
      refine ⟨(trc_chain l d g m l.length).1, ?_, ?_⟩
      · have := trc_len l d g m l.length
        show (trc l d g m l.length).2.length ≤ _; omega
      · have h1 : (trc l d g m l.length).1 = befE (traceL l d g m) (traceL l d g m).length := (trc_last l d g m l.length).trans (befE_last _).symm
        show befE (traceL l d g m) (traceL l d g m).length = _
        rw [← h1, trc_pence]
        unfold penV
        rw [if_neg (fun k => k k1), if_pos k2]
    · rw [if_pos hp]
      refine ⟨fun i e h => by simp at h, Nat.zero_le _, ?_⟩
      show (0 : Int) = _
      unfold penV at hp ⊢
      by_cases ha : askL l d g = 0
      · rw [if_neg (fun k => k ha)] at hp ⊢
        by_cases hm : 0 ≤ m ∧ m ≤ 65536
        · rw [if_pos hm] at hp; exact absurd rfl hp
        · rw [if_neg hm]
      · rw [if_pos ha]
  obtain ⟨e3, e4, e5⟩ := e1
  refine br_f (by rw [e2]; simp) (obs_step (L_lt_eq c cut true (traceV l d g m).1 (penV l d g m).1 l e4 e3) ((T.run_inl _ _ _).trans ?_))
  refine br_f (by dsimp only; rw [e5]; simp) ?_
  refine br_if (fun _ => rfl) (fun hb => ?_)
  have hb0 : (billV l c).2 = 0 := by simpa using hb
  have herr : errB l c = 0 := by
    unfold billV at hb0
    by_cases h : errB l c = 0
    · exact h
    · rw [if_pos h] at hb0; exact hb0
  obtain ⟨hck, hlo⟩ := errB_ok herr
  obtain ⟨hl30, hrul⟩ := checkT_ok hck
  obtain ⟨hc12, hlots⟩ := lots_ok hlo
  have hcl : clampL c.length = c.length := cl (by omega)
  have w1 : IntKind.i64.wrap cut = cut := w64_in (by omega) (by omega)
  have w2 : IntKind.i64.wrap ((c.length : Int) + 1) = (c.length : Int) + 1 := w64_in (by omega) (by omega)
  obtain ⟨k, hk, hkl⟩ : ∃ k : Nat, Int.tmod cut ((c.length : Int) + 1) = (k : Int) ∧ k ≤ c.length := by
    have h1 := Int.tmod_nonneg ((c.length : Int) + 1) hc.1
    have h2 := Int.tmod_lt_of_pos cut (show (0 : Int) < (c.length : Int) + 1 by omega)
    exact ⟨(Int.tmod cut ((c.length : Int) + 1)).toNat, by omega, by omega⟩
  simp only [hcl, w1, w2, hk, Int.toNat_natCast]
  have hA : (decF rLot k fun i => appG 0 (fun _ _ => AV.top) (fun i k => encF rLot c i k) i) = c.take k := by
    have := decF_appG rLot 0 k (fun _ _ => AV.top) (fun i k => encF rLot c i k)
    rw [Nat.zero_add] at this
    refine this.trans ?_
    show decF rLot k (encF rLot c) = _
    have h2 := decF_part rLot c 0 k (by omega)
    simp only [Nat.zero_add, List.drop_zero] at h2
    exact h2
  have hB : (decF rLot (c.length - k) fun i => appG 0 (fun _ _ => AV.top) (fun i j => encF rLot c (k + i) j) i) = c.drop k := by
    have := decF_appG rLot 0 (c.length - k) (fun _ _ => AV.top) (fun i j => encF rLot c (k + i) j)
    rw [Nat.zero_add] at this
    refine this.trans ?_
    show decF rLot (c.length - k) (fun i => encF rLot c (k + i)) = _
    rw [decF_part rLot c k (c.length - k) (by omega), List.take_of_length_le (by rw [List.length_drop]; exact Nat.le_refl _)]
  have hC : (decF rLot (c.length - k + k) fun i => appG (c.length - k) (appG 0 (fun _ _ => AV.top) fun i j => encF rLot c (k + i) j) (fun i k => encF rLot c i k) i) = c.drop k ++ c.take k := by
    refine (decF_appG rLot (c.length - k) k _ _).trans ?_
    have h2 := decF_part rLot c 0 k (by omega)
    simp only [Nat.zero_add, List.drop_zero] at h2
    exact congr (congrArg _ hB) h2
  rw [hA, hB, hC]
  have b0 : billV l c = (billL l c, 0) := bill_sub herr (Nat.le_refl _) (fun _ h => h)
  have b1 := bill_sub (c' := c.take k) herr (List.length_take_le' ..) (fun _ h => List.mem_of_mem_take h)
  have b2 := bill_sub (c' := c.drop k) herr (by rw [List.length_drop]; omega) (fun _ h => List.mem_of_mem_drop h)
  have b3 := bill_sub (c' := c.drop k ++ c.take k) herr (by rw [List.length_append, List.length_drop, List.length_take]; omega) (fun x h => by
    rcases List.mem_append.1 h with h | h
    · exact List.mem_of_mem_drop h
    · exact List.mem_of_mem_take h)
  have ck : decide ((0 : Int) ≤ (k : Int) ∧ (k : Int) ≤ ((c.length : Nat) : Int)) = true := decide_eq_true (by omega)
  have hdl := dues_len l
  refine chk_step (by rw [decide_eq_false (by omega)]; rfl) (chk_step (by rw [ck]; rfl) (chk_step (decide_eq_true (by omega)) (chk_step (by rw [ck]; rfl) (chk_step (decide_eq_true (by omega)) (chk_step (by rw [ck]; rfl) (chk_step (decide_eq_true (by omega)) (chk_step (by rw [ck]; rfl) (chk_step (decide_eq_true (by omega)) ?_))))))))
  rw [b0, b1, b2, b3]
  simp only [bill_len]
  refine br_f (by simp) (br_f (by simp) (br_f (by simp) (br_f (by simp) (br_f (by simp) (br_f (by simp) ?_)))))
  refine obs_step (L_lu_eq true (billL l c) _ _ _ (by rw [bill_len]; omega) (fun i x hx => ?_)) (T.run_inl _ _ _)
  obtain ⟨e, rfl, hall⟩ := bill_at hx
  have hsum : allL l e (c.take k) + allL l e (c.drop k) = allL l e c := by rw [← all_app, List.take_append_drop]
  have hbd := all_bd hrul e (c := c) (fun x hx => (hlots x hx).2)
  refine ⟨?_, _, _, hall _, hall _, rfl, rfl, ?_⟩
  · rw [hall (c.drop k ++ c.take k), all_app, Int.add_comm, hsum]
  · show IntKind.i64.wrap (allL l e (c.take k) + allL l e (c.drop k)) = allL l e c
    rw [hsum]
    have h3 : (c.length : Int) * ((l.length : Int) * 4000000000) ≤ 12 * (30 * 4000000000) := Int.mul_le_mul (by omega) (by omega) (by omega) (by omega)
    exact w64_in (by omega) (by omega)
end K
def D_tw := DecL.cons dTar (.cons dS (.cons dS (.cons dInt (.cons (dRows rLot) (.last (dW .u8) 0)))))
namespace K
theorem lwTt_eq (a : List Rul × Str × Str × Int × List Lot × Int) : callT1 P BTWc4 30 8 D_tw dB a = some true :=
  tt_eq (a.1, a.2.1, a.2.2.1, a.2.2.2.1, a.2.2.2.2.1, IntKind.u8.wrap a.2.2.2.2.2) (u8_bd _)
end K
end Go.Proofs.YtkpligkggnjcoaaGreatDoor
