/- Parts of the proof, one behind the other: LT0, LR0, LR1, EvT, LS1, LS2, LSs, LT1, LQ0, LP0, LP1, LA0, LA1. No conditions. -/
import Derived.Test.YtelpdkojdfnmiaaGreatLw9
/-! LT0 -/
namespace Go.Proofs.YtelpdkojdfnmiaaGreat
open Ev K
set_option maxRecDepth 100000
namespace K
@[ext] structure Stm where (before after : Int) (lines : List Pst)
 deriving DecidableEq, Inhabited
end K
def lStm : DecL Stm := (DecL.cons dInt (.cons dInt (.last (dRows rPost) 0))).iso (fun p => ⟨p.1, p.2.1, p.2.2⟩) (fun s => (s.before, s.after, s.lines)) (fun _ => rfl)
def dStm : Dec Stm := dAgg lStm
def D_state := DecL.cons (dRows rItem) (.cons dInt (.cons dSpan (.last dInt 0)))
def R_state := dTup (.cons dStm (.last dInt 0))
def lStmO (j : Nat) : DecL (Int × Int × Nat) := .cons dInt (.cons dInt (.last (dO j) 0))
def E_sta : DecL (Int × List Pst × Int × Int) := .skip (.cons dInt (.skips 4 (.unit (dLp 0 0 0 0) (.skip (.unit (dLp 1 0 0 0) (.skips 3 (.unit (dLp 2 0 0 0) (.skips 52 (.cons (dRows rPost) (.cons dInt (.last dInt 27)))))))))))
def O_sta : DecB (Span × (Unit × ((Int × Int × Nat) × List Pst × Unit))) := .flat 45 lSpan (.flat 41 (.tops 3) (.flat 41 (lStmO 3) (.rows 23 rPost .nil)))
def S_sta := DecS.ghostF 12 2 23 4 [.int .i64, .int .i64, .int .i64, .int .i64] (DecS.mk0 E_sta O_sta)
def X_sta := DecX.one (.exit 0) [12, 8] (DecS.mk0 (.skips 8 (.unit (dLp 0 0 0 0) (.skips 3 (.unit (dLp 1 0 0 0) (.tops 82))))) (.flat 41 (.tops 3) (.flat 41 (lStmO 2) (.rows 23 rPost .nil))))
noncomputable def K.st_sta := loopT1 P BLN16 30 22 73 [67, 12, 6, 1, 65, 8, 66] S_sta X_sta
theorem sl_sta : ∀ s, (K.st_sta) s = T.run (
 let q1 := (s.1.1, decF rPost (List.length s.1.2.1) fun i => encF rPost s.1.2.1 ((0 : Nat) + i), s.1.2.2.1, IntKind.wrap IntKind.i64 (s.1.2.2.2 + (1 : Int)));
 let q2 := (0 : Nat) + Int.toNat s.1.2.2.2;
 let q4 := s.2.2.2.2.1;
 let q3 := Sum.inl (q1, s.2.1, PUnit.unit, s.2.2.2.1, decF rPost (List.length q4) (encF rPost q4), PUnit.unit);
 let q5 := encF rPost s.1.2.1 q2 (nat_lit 2);
 let q6 := encF rPost s.1.2.1 q2 (nat_lit 1);
 .br (decide (s.1.2.2.2 < s.1.2.2.1)) (
  .chk (decide ((0 : Int) ≤ s.1.2.2.2 ∧ s.1.2.2.2 < (↑(List.length s.1.2.1) : Int))) <|
  .br (numOf q5 == s.1.1) (
   .br (l_within (numOf q6, Span.lo s.2.1, Span.hi s.2.1)) (
    .chk (decide ((List.length q4 + (1 : Nat)) * (32 : Nat) ≤ (140737488355328 : Nat) ∧ List.length q4 + (1 : Nat) ≤ nat_lit 9223372036854775807)) <|
    .ret (Sum.inl (q1, s.2.1, PUnit.unit, (s.2.2.2.1.1, s.2.2.2.1.2.1, List.length q4 + (1 : Nat)), decF rPost (List.length q4 + (1 : Nat)) (appG (List.length q4) (encF rPost q4) fun i k => Option.getD [AV.int IntKind.i64 (numOf (encF rPost s.1.2.1 q2 (0 : Nat))), AV.int IntKind.i64 (numOf q6), AV.int IntKind.i64 (numOf q5), AV.int IntKind.i64 (numOf (encF rPost s.1.2.1 q2 (nat_lit 3)))][((0 : Nat) + i) * (4 : Nat) + k]? AV.top), PUnit.unit))) (
    .ret q3)) (
   .ret q3)) (
  .ret (Sum.inr (PUnit.unit, PUnit.unit, s.2.2.2.1, decF rPost (List.length q4) (encF rPost q4), PUnit.unit)))) := fun s => by kernel_rfl
noncomputable def K.L_sta := lim K.st_sta
noncomputable def BLT01 : Tab := BLN16.addNode 22 73 (nodeE [67, 12, 6, 1, 65, 8, 66] S_sta X_sta (fun s => .obs (K.L_sta s) .ret))
theorem tLT01 : TabOk P BLT01 := TabOk.addLoop (d := 30) okP tLN16 (by kernel_rfl) (by kernel_rfl) (fun s r h => obs_ret h)
namespace K
theorem pushP (l : List Pst) (a b c d : Int) : decF rPost (l.length + 1) (appG l.length (encF rPost l) fun i k => ([(.int .i64 a : AV), .int .i64 b, .int .i64 c, .int .i64 d][i * 4 + k]?).getD .top) = l ++ [⟨a, b, c, d⟩] := decF_push' (decF_encF rPost l) _
def onLine (acc : Int) (sp : Span) (p : Pst) : Bool := decide (p.account = acc ∧ sp.lo ≤ p.day ∧ p.day ≤ sp.hi)
theorem L_sta_eq (acc : Int) (l : List Pst) (sp : Span) (b a : Int) (hl : l.length ≤ 1000) : ∀ (d i : Nat) (out : List Pst), i + d = l.length → out.length ≤ i →
  L_sta ((acc, l, (l.length : Int), (i : Int)), sp, (), (b, a, out.length), out, ()) = some ((), (), (b, a, (out ++ (l.drop i).filter (onLine acc sp)).length), out ++ (l.drop i).filter (onLine acc sp), ())
 | 0, i, out, h, ho => by
  refine lim_done ?_
  rw [sl_sta]
  simp only [decF_encF]
  refine br_f (decide_eq_false (by omega)) ?_
  rw [List.drop_of_length_le (by omega)]; simp; rfl
 | d + 1, i, out, h, ho => by
  have hi : i < l.length := by omega
  have hx := List.getElem?_eq_getElem hi
  have hdrop := List.drop_eq_getElem_cons hi
  generalize l[i] = x at hx hdrop
  have w : IntKind.i64.wrap ((i : Int) + 1) = ((i + 1 : Nat) : Int) := by rw [w64_in (by omega) (by omega)]; rfl
  have hid : (⟨x.item, x.day, x.account, x.amount⟩ : Pst) = x := rfl
  by_cases hf : onLine acc sp x = true
  ·have hf' := of_decide_eq_true hf
   have e : out ++ (l.drop i).filter (onLine acc sp) = (out ++ [x]) ++ (l.drop (i + 1)).filter (onLine acc sp) := by rw [hdrop, List.filter_cons_of_pos hf]; simp
   rw [e]
   refine (lim_step ?_).trans (L_sta_eq acc l sp b a hl d (i + 1) (out ++ [x]) (by omega) (by simp; omega))
   rw [sl_sta]
   simp only [Int.toNat_natCast, Nat.zero_add, post_at hx, pw0, pw1, pw2, pw3, decF_encF, w, pushP, hid]
   refine br_t (decide_eq_true (by omega)) (chk_step (decide_eq_true (by omega)) (br_t (beq_iff_eq.2 hf'.1) (br_t ((l_within_iff _ _ _).2 hf'.2) (chk_step (decide_eq_true (by omega)) ?_))))
   rw [List.length_append]; rfl
  ·have hf' : ¬ (x.account = acc ∧ sp.lo ≤ x.day ∧ x.day ≤ sp.hi) := fun h => hf (decide_eq_true h)
   have e : (l.drop i).filter (onLine acc sp) = (l.drop (i + 1)).filter (onLine acc sp) := by rw [hdrop, List.filter_cons_of_neg hf]
   rw [e]
   refine (lim_step ?_).trans (L_sta_eq acc l sp b a hl d (i + 1) out (by omega) (by omega))
   rw [sl_sta]
   simp only [Int.toNat_natCast, Nat.zero_add, post_at hx, pw0, pw1, pw2, pw3, decF_encF, w, pushP, hid]
   refine br_t (decide_eq_true (by omega)) (chk_step (decide_eq_true (by omega)) ?_)
   by_cases ha : x.account = acc
   ·exact br_t (beq_iff_eq.2 ha) (br_f (by rw [← Bool.not_eq_true]; exact fun h => hf' ⟨ha, (l_within_iff _ _ _).1 h⟩) rfl)
   ·exact br_f (by rw [beq_eq_false_iff_ne]; exact ha) rfl
def spanOk (sp : Span) : Prop := dayOk sp.lo ∧ dayOk sp.hi ∧ sp.lo ≤ sp.hi
instance (sp : Span) : Decidable (spanOk sp) := by unfold spanOk; infer_instance
def stateE (l : List Itm) (acc : Int) (sp : Span) (known : Int) : Int := orV (orV (askedV l [known]) (accountE acc)) (if spanOk sp then 0 else 1)
def stm (ps : List Pst) (acc : Int) (sp : Span) : Stm := ⟨lookM (sumP ps (sp.lo - 1)) acc, lookM (sumP ps sp.hi) acc, stB (ps.filter (onLine acc sp))⟩
def stateV (l : List Itm) (acc : Int) (sp : Span) (known : Int) : Stm × Int := (if stateE l acc sp known = 0 then stm (readB l known).posts acc sp else ⟨0, 0, []⟩, stateE l acc sp known)
end K
end Go.Proofs.YtelpdkojdfnmiaaGreat
/-! LR0 -/
namespace Go.Proofs.YtelpdkojdfnmiaaGreat
open Ev K
set_option maxRecDepth 100000
section
variable {H : Type} {enc : TypeId × Value → H} {w : World}
theorem fl_item : flat P 8 73 = some (List.replicate 7 (.int .i64)) := by kernel_rfl
theorem fl_posting : flat P 8 23 = some (List.replicate 4 (.int .i64)) := by kernel_rfl
theorem fl_int : flat P 8 3 = some [.int .i64] := by kernel_rfl
theorem fl_items : flat P 8 29 = some [.sl 73] := by kernel_rfl
theorem ag_int : aggB P 3 = some false := by kernel_rfl
theorem ag_items : aggB P 29 = some false := by kernel_rfl
theorem rx_items {v : Value} (h : CellR enc P w (.sl 73) v) : RdV w (dRows rItem) v := by
 obtain ⟨a, ha⟩ := rd_sl fl_item (by kernel_rfl) (by decide) (by decide) h
 exact ⟨decF rItem a.len fun i => a.f (a.row + i), (dRows rItem).ok _ _ rfl _ _ _ _ ha⟩
theorem rx_posts {v : Value} (h : CellR enc P w (.sl 23) v) : RdV w (dRows rPost) v := by
 obtain ⟨a, ha⟩ := rd_sl fl_posting (by kernel_rfl) (by decide) (by decide) h
 exact ⟨decF rPost a.len fun i => a.f (a.row + i), (dRows rPost).ok _ _ rfl _ _ _ _ ha⟩
variable {r : Reach} {b : Nat} {v : Value} {d : DataW H} {p : List MemPlace}
theorem rp_items (hok : Value.okWide P w r b 29 v) (h : DataW.Trod enc P w 0 (fun _ => true) true 29 v d p) : RdV w (dRows rItem) v := rx_items (param_cell fl_items ag_items hok h)
theorem rp_int (hok : Value.okWide P w r b 3 v) (h : DataW.Trod enc P w 0 (fun _ => true) true 3 v d p) : RdV w (dI .i64) v := rd_int (param_cell fl_int ag_int hok h)
end
end Go.Proofs.YtelpdkojdfnmiaaGreat
/-! LR1 -/
namespace Go.Proofs.YtelpdkojdfnmiaaGreat
open Ev K
set_option maxRecDepth 100000
section
variable {H : Type} {enc : TypeId × Value → H} {w : World}
theorem fl_span : flat P 8 45 = some (List.replicate 2 (.int .i64)) := by kernel_rfl
theorem ag_span : aggB P 45 = some true := by kernel_rfl
theorem fl_stm : flat P 8 41 = some [.int .i64, .int .i64, .sl 23] := by kernel_rfl
theorem ag_stm : aggB P 41 = some true := by kernel_rfl
theorem rl_span {cs : List Value} (h : Cells enc P w (List.replicate 2 (.int .i64)) cs) : RdL w lSpan cs := by
 obtain ⟨v0, cs0, rfl, c0, h⟩ := cells_cons h
 obtain ⟨v1, cs1, rfl, c1, h⟩ := cells_cons h
 obtain rfl := cells_nil h
 exact rdL_iso (rdL_cons (rd_int c0) (rdL_last (rd_int c1)))
theorem rl_stm {cs : List Value} (h : Cells enc P w [.int .i64, .int .i64, .sl 23] cs) : RdL w lStm cs := by
 obtain ⟨v0, cs0, rfl, c0, h⟩ := cells_cons h
 obtain ⟨v1, cs1, rfl, c1, h⟩ := cells_cons h
 obtain ⟨v2, cs2, rfl, c2, h⟩ := cells_cons h
 obtain rfl := cells_nil h
 exact rdL_iso (rdL_cons (rd_int c0) (rdL_cons (rd_int c1) (rdL_last (rx_posts c2))))
variable {r : Reach} {b : Nat} {v : Value} {d : DataW H} {p : List MemPlace}
theorem rp_span (hok : Value.okWide P w r b 45 v) (h : DataW.Trod enc P w 0 (fun _ => true) true 45 v d p) : RdV w dSpan v := by
 obtain ⟨cs, rfl, hc⟩ := param_agg fl_span ag_span hok h
 exact rdV_agg (rl_span hc)
theorem rp_stm (hok : Value.okWide P w r b 41 v) (h : DataW.Trod enc P w 0 (fun _ => true) true 41 v d p) : RdV w dStm v := by
 obtain ⟨cs, rfl, hc⟩ := param_agg fl_stm ag_stm hok h
 exact rdV_agg (rl_stm hc)
end
end Go.Proofs.YtelpdkojdfnmiaaGreat
/-! EvT -/
namespace Go.Proofs.YtelpdkojdfnmiaaGreat.Ev
open Go.RowKit
def turnSt (fn : Func) (t : TypeId) (wd n : Nat) (g : Get AV) (xs : List AV) : St := { env := (.osl 0 0 n :: xs) ++ List.replicate (fn.ntmps - (xs.length + 1)) .top, loc := [.list t wd 0 n g], sav := [.osl 0 0 n] }
def turnEnd (st : St) (wd : Nat) : Option (TypeId × Get AV) := match st.sav with
 | [.osl j v _] => match st.loc[j]? with
  | some (.list t wd' v' _ g) => match Nat.beq wd' wd && Nat.beq v' v with
   | true => some (t, g)
   | false => none
  | _ => none
 | _ => none
def turnR (n e c : Nat) : Rr := fun k => match k with
 | .lo 0 0 => some e
 | .lc 0 0 => some c
 | .ln 0 0 => some n
 | _ => none
theorem turnR_lo {n e c j v b : Nat} (h : turnR n e c (.lo j v) = some b) : j = 0 ∧ v = 0 ∧ b = e := by
 unfold turnR at h
 split at h
 ·rename_i h1; injection h1 with h1 h2; subst h1; subst h2; injection h with h; exact ⟨rfl, rfl, h.symm⟩
 ·rename_i h1; cases h1
 ·rename_i h1; cases h1
 ·cases h
theorem turnR_any {n e c j v b : Nat} (h : turnR n e c (.lo j v) = some b ∨ turnR n e c (.lc j v) = some b ∨ turnR n e c (.ln j v) = some b) : j = 0 ∧ v = 0 := by
 rcases h with h | h | h
 ·exact ⟨(turnR_lo h).1, (turnR_lo h).2.1⟩
 ·unfold turnR at h
  split at h
  ·rename_i h1; cases h1
  ·rename_i h1; injection h1 with h1 h2; exact ⟨h1, h2⟩
  ·rename_i h1; cases h1
  ·cases h
 ·unfold turnR at h
  split at h
  ·rename_i h1; cases h1
  ·rename_i h1; cases h1
  ·rename_i h1; injection h1 with h1 h2; exact ⟨h1, h2⟩
  ·cases h
theorem turnR_obj {n e c j b : Nat} (h : turnR n e c (.obj j) = some b) : False := by simp [turnR] at h
theorem turnR_own {n e c b : Nat} (h : OwnR (turnR n e c) b) : e = b + 1 := by
 rcases h with ⟨j, h⟩ | ⟨j, v, h⟩
 ·exact (turnR_obj h).elim
 ·exact (turnR_lo h).2.2.symm
theorem MC.of_ldN {P : Program} {f : FuncId} {fn : Func} {c : Code} {xs : List AV} {wd n : Nat} {g g' : Get AV} {S : TypeId → Exit → St → Prop} (hf : P.funcs[f]? = some fn) (hb : fn.body = some c) (hres : fn.results.toList = []) (h : ∀ t, LdN P c (turnSt fn t wd n g xs) (S t))
  (hS : ∀ t e st', S t e st' → (e = .normal ∨ e = .ret) ∧ ∃ g1, turnEnd st' wd = some (t, g1) ∧ ∀ i k, i < n → k < wd → g1.cell i k = g'.cell i k) : MC P f wd n g g' xs := by
 intro ro m A w t e c0 rows us hA hAe h0 hnc hwd hown hrows hus
 apply callsIn_round
 refine callsIn_of_wp_marks hf hb trivial ?_
 let A1 : Nat → Prop := fun b => A b ∧ e ≠ b + 1
 let r0 : Rr := turnR n e c0
 let X : Fx := fun A0 O w' => (∀ b, A b → e ≠ b + 1 → A0 b) ∧ (w.grownBy w' (obOf e) ∧ w.drawn ≤ w'.drawn) ∧ ∀ b, O b → e = b + 1 ∨ w.heap.size ≤ b
 have hob : ∀ k, some k ≠ obOf e → e ≠ k + 1 := fun k hk he => hk (by rw [he]; rfl)
 have hSt : Stands X := fun A0 O O' w1 w2 hX ht hO => ⟨hX.1, ⟨⟨ht.os.trans hX.2.1.1.os, ht.tape.trans hX.2.1.1.tape, ht.output.trans hX.2.1.1.output, Nat.le_trans hX.2.1.1.size ht.size, fun k hk hne => by
   rw [ht.block k (Nat.lt_of_lt_of_le hk hX.2.1.1.size) (fun ho => by rcases hX.2.2 k ho with h1 | h1; exact hob k hne h1; omega)]; exact hX.2.1.1.block k hk hne⟩, Nat.le_trans hX.2.1.2 ht.drawn⟩,
  fun b hb => by
   rcases hO b hb with h1 | h1
   ·exact hX.2.2 b h1
   ·exact .inr (Nat.le_trans hX.2.1.1.size h1)⟩
 have hown0 : ∀ b, own r0 [] b → e = b + 1 := fun b hb => by
  rcases hb with hb | hb
  ·exact turnR_own hb
  ·simp at hb
 have hk : Keeps A (AR A1 r0 []) w w := ⟨Nat.le_refl _, fun _ _ _ => rfl, fun b hb => by
  rcases hb with hb | hb
  ·exact .inl hb.1
  ·exact .inl (hAe b (hown0 b hb))⟩
 have hosl : VR w (AR A1 r0 []) r0 (.osl 0 0 n) (.slice (slBase e) n c0) := .osl rfl rfl rfl h0 hnc
 have hX0 : X A1 (own r0 []) w := ⟨fun b h1 h2 => ⟨h1, h2⟩, ⟨⟨rfl, rfl, rfl, Nat.le_refl _, fun _ _ _ => rfl⟩, Nat.le_refl _⟩, fun b hb => .inl (hown0 b hb)⟩
 have hargs : VRs w (AR A1 r0 []) r0 (.osl 0 0 n :: xs) (#[.slice (slBase e) n c0] ++ us) := by
  have := (VRs.one hosl).append (hus.mono hk (r' := r0) (fun j b h => by simp [noR] at h))
  simpa using this
 have hsz : (#[Value.slice (slBase e) n c0] ++ us).size = xs.length + 1 := by rw [← hargs.1]; rfl
 have hfr : FR X none A1 (turnSt fn t wd n g xs).sav #[.slice (slBase e) n c0] (turnSt fn t wd n g xs).env (locOf (turnSt fn t wd n g xs)) r0 [] { tmps := (#[.slice (slBase e) n c0] ++ us) ++ Array.replicate (fn.ntmps - (#[Value.slice (slBase e) n c0] ++ us).size) undef, defers := [] } w := by
  refine ⟨?_, VRs.one hosl, fun j k hj => ?_, fun j b hj => (turnR_obj hj).elim, fun j v b hj => ?_, fun i j b hi _ => (turnR_obj hi).elim, fun i j v u b hi hj => ?_, fun i j v b hi _ => (turnR_obj hi).elim, fun b hb h1 => h1.2 (turnR_own hb), fun b hb => hA b (hAe b (turnR_own hb)), fun b _ hb => by simp at hb, fun b hb => hA b hb.1, hX0, hSt, rfl, List.nodup_nil, fun q hq => by simp at hq, rfl⟩
  ·rw [hsz]
   exact hargs.append (VRs.tops _ undef)
  ·simp only [locOf, turnSt] at hj
   cases j with
   | succ j => simp at hj
   | zero =>
    simp only [List.getElem?_cons_zero, Option.some.injEq] at hj
    subst hj
    exact ⟨e, c0, rows, rfl, rfl, rfl, h0, hnc, hwd, hown, rows_keep hrows hk⟩
  ·obtain ⟨rfl, rfl⟩ := turnR_any hj
   exact ⟨.list t wd 0 n g, rfl, Nat.le_refl _⟩
  ·rw [(turnR_lo hi).1, (turnR_lo hj).1]
 have hwp := (h t).2 none [] (fun _ => X) (by simp [turnSt]) ⟨fun _ => hSt, fun i x b hi => by simp at hi⟩ none m (fun l hl => by cases hl) A1 r0 [] #[.slice (slBase e) n c0] _ w hfr
 refine wpIn_mono hwp ?_
 rintro e' a' w' ⟨st', hs, A0', r', ds', hfr'⟩
 obtain ⟨he, g1, hr, hgg⟩ := hS t _ _ hs
 have hleave : LeavesInM (WF none) m P fn a'.tmps (fun en w' => en = .returned (.tuple #[]) ∧ ∃ rows', (w.grownBy w' (obOf e) ∧ w.drawn ≤ w'.drawn) ∧ w'.ownsRow 0 t wd (.slice (slBase e) n c0) n rows' ∧ RowsR w' A g' n wd rows') a'.defers .returning w' := by
  refine leaves_marks ds' a' w' hfr' (fun a2 w2 ht h2 => ?_)
  unfold turnEnd at hr
  split at hr
  ·rename_i j v n1 hsav
   split at hr
   ·rename_i t1 wd1 v1 n2 g2 hloc
    split at hr
    ·rename_i hbq
     simp only [Bool.and_eq_true] at hbq
     have e1 := Nat.eq_of_beq_eq_true hbq.1; have e2 := Nat.eq_of_beq_eq_true hbq.2; subst e1; subst e2
     injection hr with hr; injection hr with hr1 hr2; subst hr1; subst hr2
     obtain ⟨e3, c3, xs3, m1, m2, m3, m4, m5, m6, m7, m8⟩ := h2.mem _ _ hloc
     have hsv := h2.sav
     rw [hsav] at hsv
     have hv := hsv.2 0 _ _ rfl rfl
     have hfit : e3 = e ∧ n2 = n ∧ c3 = c0 := by
      generalize hz : Value.slice (slBase e) n c0 = z at hv
      cases hv with
      | osl b1 b2 b3 b4 b5 =>
       rw [m1] at b1; injection b1 with b1; subst b1
       rw [m2] at b2; injection b2 with b2; subst b2
       rw [m3] at b3; injection b3 with b3; subst b3
       injection hz with z1 z2 z3
       refine ⟨?_, z2.symm, z3.symm⟩
       cases e <;> cases e3 <;> simp [slBase] at z1 ⊢
       exact z1.symm
     obtain ⟨rfl, rfl, rfl⟩ := hfit
     have hA' : ∀ b, A b → AR A0' r' [] b := fun b hb => by
      by_cases hbe : e3 = b + 1
      ·exact .inr (.inl (.inr ⟨_, _, by rw [m1, hbe]⟩))
      ·exact .inl (h2.inv.1 b hb hbe)
     refine ⟨.tuple #[], ?_, rfl, xs3, h2.inv.2.1, ?_, fun i k hi hk' => ?_⟩
     ·rw [results_eq, hres]; rfl
     ·exact m7
     ·obtain ⟨u, hu1, hu2⟩ := m8 i k hi hk'
      rw [hgg i k hi hk'] at hu2
      exact ⟨u, hu1, hu2.mono ⟨Nat.le_refl _, fun _ _ _ => rfl, fun b hb => .inl (hA' b hb)⟩ (fun _ _ h => h)⟩
    ·cases hr
   ·cases hr
  ·cases hr
 rcases he with rfl | rfl
 ·exact hleave
 ·exact hleave
def turnBody (P : Program) (C : Cfg) (f : FuncId) (t : TypeId) (wd n : Nat) (g : Get AV) (xs : List AV) : T (TypeId × Get AV) := match P.funcs[f]? with
 | some fn => match fn.body, fn.results.toList with
  | some c, [] => (DT P C c (turnSt fn t wd n g xs)).bind fun p => match endOk p.1 && p.2.out.isEmpty with
   | true => match turnEnd p.2 wd with
    | some q => .ret q
    | none => .fail
   | false => .fail
  | _, _ => .fail
 | none => .fail
section
variable {ρ α : Type}
def turnT1 (P : Program) (B : Tab) (d : Nat) (f : FuncId) (D : DecL α) (R : RowD ρ) (a : TypeId × List ρ × α) : Option (TypeId × List ρ) := ((turnBody P (mkCfg B (lvl P B d) f) f a.1 R.wd a.2.1.length ⟨R.tags, encF R a.2.1⟩ (D.enc a.2.2)).bind fun q => match ckLEq q.2.tag R.tags with
 | true => .ret (q.1, decF R a.2.1.length q.2.f)
 | false => .fail).run
def turnE (D : DecL α) (R : RowD ρ) (M : List ρ × α → T (List ρ)) : List AV → Option (T AV)
 | .osl _ _ _ :: .xsl wd n g _ _ _ :: xs => match Nat.beq wd R.wd && ckLEq g.tag R.tags with
  | true => match D.dec xs with
   | some a => some ((M (decF R n g.f, a)).bind fun l => .ret (.xsl R.wd n ⟨R.tags, encF R l⟩ 0 n none))
   | none => none
  | false => none
 | _ => none
theorem turn_of {P : Program} {B : Tab} {f : FuncId} {d : Nat} {D : DecL α} {R : RowD ρ} (hP : okProg P = true) (h : TabOk P B) {l l' : List ρ} {a : α} (hr : ∀ t, turnT1 P B d f D R (t, l, a) = some (t, l')) : MC P f R.wd l.length ⟨R.tags, encF R l⟩ ⟨R.tags, encF R l'⟩ (D.enc a) := by
 have h0 := hr 0
 unfold turnT1 turnBody at h0
 split at h0
 case h_2 => simp [T.bind, T.run] at h0
 rename_i fn hf
 split at h0
 case h_2 => simp [T.bind, T.run] at h0
 rename_i c hb hres
 have key : ∀ t, ∃ e st g1, (DT P (mkCfg B (lvl P B d) f) c (turnSt fn t R.wd l.length ⟨R.tags, encF R l⟩ (D.enc a))).run = some (e, st) ∧ endOk e = true ∧ st.out = [] ∧ turnEnd st R.wd = some (t, g1) ∧ g1.tag = R.tags ∧ decF R l.length g1.f = l' := by
  intro t
  have ht := hr t
  unfold turnT1 turnBody at ht
  rw [hf] at ht
  simp only [hb, hres] at ht
  obtain ⟨⟨t1, g1⟩, h1, h2⟩ := T.run_bind ht
  obtain ⟨⟨e, st⟩, h3, h4⟩ := T.run_bind h1
  simp only at h4
  split at h4
  case h_2 => simp [T.run] at h4
  rename_i hc
  simp only [Bool.and_eq_true, List.isEmpty_iff] at hc
  split at h4
  case h_2 => simp [T.run] at h4
  rename_i q hq
  simp only [T.run, Option.some.injEq] at h4; subst h4
  simp only at h2
  split at h2
  case h_2 => simp [T.run] at h2
  rename_i ht1
  simp only [T.run, Option.some.injEq, Prod.mk.injEq] at h2
  obtain ⟨rfl, h2⟩ := h2
  exact ⟨e, st, g1, h3, hc.1, hc.2, hq, ckLEq_eq ht1, h2⟩
 refine MC.of_ldN (S := fun t e st => (DT P (mkCfg B (lvl P B d) f) c (turnSt fn t R.wd l.length ⟨R.tags, encF R l⟩ (D.enc a))).run = some (e, st)) hf hb hres (fun t => ?_) (fun t e st hs => ?_)
 ·obtain ⟨e, st, g1, h1, h2, h3, h4, h5, h6⟩ := key t
  have hld := DT_ld (lvl_ok hP h d f) (okProg_mixed hP) c (okProg_code hP hf hb) (fun x hx => by simpa [nodesFn, hf, hb] using hx) _ _ _ h1
  have hq : (fun (e' : Exit) (s' : St) => (DT P (mkCfg B (lvl P B d) f) c (turnSt fn t R.wd l.length ⟨R.tags, encF R l⟩ (D.enc a))).run = some (e', s')) = fun e' s' => e' = e ∧ s' = st := by
   funext e' s'
   rw [h1]
   exact propext ⟨fun h => by injection h with h; injection h with h h'; exact ⟨h.symm, h'.symm⟩, fun h => by rw [h.1, h.2]⟩
  rw [hq]
  exact LdN.of hld (by rw [h3]; rfl)
 ·obtain ⟨e1, st1, g1, h1, h2, h3, h4, h5, h6⟩ := key t
  rw [h1] at hs
  injection hs with hs; injection hs with hs1 hs2
  subst hs1; subst hs2
  refine ⟨endOk_or h2, g1, h4, fun i k hi hk => ?_⟩
  rw [← h6]
  simp only [Get.cell]
  rw [encF_dec hi hk, h5]
theorem turnE_cc {P : Program} {f : FuncId} {D : DecL α} {R : RowD ρ} {M : List ρ × α → T (List ρ)} (hM : ∀ l a l', (M (l, a)).run = some l' → MC P f R.wd l.length ⟨R.tags, encF R l⟩ ⟨R.tags, encF R l'⟩ (D.enc a)) (args : List AV) (u : T AV) (v : AV) (hu : turnE D R M args = some u) (hr : u.run = some v) : CC P f args v := by
 unfold turnE at hu
 split at hu
 case h_2 => cases hu
 rename_i wd n g _ _ _ xs
 split at hu
 case h_2 => cases hu
 rename_i hb
 simp only [Bool.and_eq_true] at hb
 have e1 := Nat.eq_of_beq_eq_true hb.1; have e2 := ckLEq_eq hb.2; subst e1
 split at hu
 case h_2 => cases hu
 rename_i a ha
 injection hu with hu; subst hu
 obtain ⟨l', h1, h2⟩ := T.run_bind hr
 simp [T.run] at h2; subst h2
 have hm := hM _ _ _ h1
 rw [decF_length] at hm
 intro ro m A w t e c rows us hA hAe h0 hnc hwd hown hrows hus
 refine hm ro m A w t e c rows us hA hAe h0 hnc hwd hown (fun i k hi hk => ?_) (D.ok _ _ ha _ _ _ _ hus)
 obtain ⟨z, hz1, hz2⟩ := hrows i k hi hk
 refine ⟨z, hz1, ?_⟩
 simp only [Get.cell] at hz2 ⊢
 rw [encF_dec hi hk, ← e2]; exact hz2
def DecB.rowsT (R : RowD ρ) (E : DecB α) : DecB ((TypeId × List ρ) × α) where
 enc p := .list p.1.1 R.wd 0 p.1.2.length ⟨R.tags, encF R p.1.2⟩ :: E.enc p.2
 dec x := match x with
  | .list t' wd' v n g :: ys => match Nat.beq wd' R.wd && (Nat.beq v 0 && ckLEq g.tag R.tags) with
   | true => match E.dec ys with
    | some b => some ((t', decF R n g.f), b)
    | none => none
   | false => none
  | _ => none
 len x a h := by
  split at h
  ·split at h
   ·split at h
    ·rename_i b hb; injection h with h; subst h; simp [E.len _ _ hb]
    ·simp at h
   ·simp at h
  ·simp at h
 ok x a h j k k' hk hk' := by
  split at h
  case h_2 => simp at h
  rename_i t' wd' v n g ys
  split at h
  case h_2 => simp at h
  rename_i hc
  simp only [Bool.and_eq_true] at hc
  have c2 := Nat.eq_of_beq_eq_true hc.1; have c3 := Nat.eq_of_beq_eq_true hc.2.1; have c4 := ckLEq_eq hc.2.2
  subst c2; subst c3
  split at h
  case h_2 => simp at h
  rename_i b hb
  injection h with h; subst h
  exact (DecB.rows t' R E).ok (.list t' R.wd 0 n g :: ys) (decF R n g.f, b) (by
   show (match (Nat.beq t' t' && Nat.beq R.wd R.wd) && (Nat.beq 0 0 && ckLEq g.tag R.tags) with
    | true => (match E.dec ys with
     | some b => some (decF R n g.f, b)
     | none => none)
    | false => none) = _
   have h1 : Nat.beq t' t' = true := by simp
   have h2 : Nat.beq R.wd R.wd = true := by simp
   rw [h1, h2, hc.2.2, hb]; rfl) j k k' hk hk'
end
end Go.Proofs.YtelpdkojdfnmiaaGreat.Ev
/-! LS1 -/
namespace Go.Proofs.YtelpdkojdfnmiaaGreat
open Ev K
set_option maxRecDepth 100000
def D_pst2 := DecL.cons dPosting (.last dPosting 0)
theorem fn_cmpD : ∀ a, (callT1 P BLD47 30 70 D_pst2 dInt) a = T.run (
 .ret (l_cmp (Pst.day a.1, Pst.day a.2))) := fun a => by kernel_rfl
noncomputable def K.cmpD (a : Pst × Pst) : Int := l_cmp (Pst.day a.1, Pst.day a.2)
theorem eq_cmpD (a : Pst × Pst) : (callT1 P BLD47 30 70 D_pst2 dInt) a = some (K.cmpD a) := (fn_cmpD a).trans rfl
noncomputable def BLS11 : Tab := BLD47.addCall 70 (callE D_pst2 dInt (fun a => .ret (K.cmpD a)))
theorem tLS11 : TabOk P BLS11 := TabOk.addFn (d := 30) okP tLD47 (fun a r h => by rw [eq_cmpD]; exact congrArg some (ret_some h))
def F_cmpD : Dec Unit := dFn 70 (.tops 0)
def V_own : DecL Nat := .last (dO 0) 0
def O_pT : DecB ((TypeId × List Pst) × Unit) := .rowsT rPost .nil
def E_in9 : DecL (Nat × Int × Int × Int) := .cons (dO 0) (.cons dInt (.cons dInt (.unit F_cmpD (.skips 4 (.last dInt 44)))))
def S_in33 := DecS.rnd (.cons (dO 0) (.cons dInt (.cons dInt (.unit F_cmpD (.skips 4 (.cons dInt (.last dInt 43))))))) O_pT V_own
def X_in33 := DecX.one (.exit 2) [0, 8, 3, 1, 2] (DecS.rnd E_in9 O_pT V_own)
noncomputable def K.st_in33 := loopT1 P BLS11 30 124 33 [9, 0, 3, 1, 2, 8] S_in33 X_in33
theorem sl_in33 : ∀ s, (K.st_in33) s = T.run (
 let q16 := s.1.2.2.2.2;
 let q7 := q16 - (1 : Int);
 let q1 := Int.toNat (IntKind.wrap IntKind.i64 q7);
 let q2 := decide ((0 : Int) ≤ IntKind.wrap IntKind.i64 q7 ∧ IntKind.wrap IntKind.i64 q7 < (↑s.1.1 : Int));
 let q3 := Int.toNat q16;
 let q6 := s.2.1.1.2;
 let q4 := Sum.inr ((s.1.1, s.1.2.1, s.1.2.2.1, s.1.2.2.2.1), ((s.2.1.1.1, decF rPost (List.length q6) (encF rPost q6)), PUnit.unit), s.2.2);
 let q5 := decide ((0 : Int) ≤ q16 ∧ q16 < (↑s.1.1 : Int));
 let q8 := numOf (encF rPost q6 q3 (nat_lit 1));
 let q9 := numOf (encF rPost q6 q3 (nat_lit 2));
 let q10 := numOf (encF rPost q6 q3 (nat_lit 3));
 let q11 := numOf (encF rPost q6 q1 (nat_lit 1));
 let q12 := numOf (encF rPost q6 q1 (nat_lit 2));
 let q13 := numOf (encF rPost q6 q1 (nat_lit 3));
 let q14 := numOf (encF rPost q6 q3 (0 : Nat));
 let q15 := numOf (encF rPost q6 q1 (0 : Nat));
 .br (decide (q16 > s.1.2.1)) (
  .chk q5 <|
  .chk q2 <|
  .br (decide (cmpD (Pst.mk q14 q8 q9 q10, Pst.mk q15 q11 q12 q13) < (0 : Int))) (
   .chk q2 <|
   .chk q5 <|
   .chk q5 <|
   .chk q2 <|
   .ret (Sum.inl ((s.1.1, s.1.2.1, s.1.2.2.1, s.1.2.2.2.1, IntKind.wrap IntKind.i64 q7), ((s.2.1.1.1, decF rPost (List.length q6) (setR q1 (0 : Nat) (nat_lit 4) [AV.int IntKind.i64 q14, AV.int IntKind.i64 q8, AV.int IntKind.i64 q9, AV.int IntKind.i64 q10] (setR q3 (0 : Nat) (nat_lit 4) [AV.int IntKind.i64 q15, AV.int IntKind.i64 q11, AV.int IntKind.i64 q12, AV.int IntKind.i64 q13] (encF rPost q6)))), PUnit.unit), s.2.2))) (
   .ret q4)) (
  .ret q4)) := fun s => by kernel_rfl
noncomputable def K.L_in33 := lim K.st_in33
noncomputable def BLS12 : Tab := BLS11.addNode 124 33 (nodeE [9, 0, 3, 1, 2, 8] S_in33 X_in33 (fun s => .obs (K.L_in33 s) .ret))
theorem tLS12 : TabOk P BLS12 := TabOk.addLoop (d := 30) okP tLS11 (by kernel_rfl) (by kernel_rfl) (fun s r h => obs_ret h)
def S_in9 := DecS.rnd E_in9 O_pT V_own
def X_in9 := DecX.one (.exit 0) [] (DecS.rnd (.tops 53) O_pT V_own)
noncomputable def K.st_in9 := loopT1 P BLS12 30 124 9 [0, 8, 3, 1, 2] S_in9 X_in9
theorem sl_in9 : ∀ s, (K.st_in9) s = T.run (
 .br (decide (s.1.2.2.2 < s.1.2.2.1)) (
  .obs (L_in33 ((s.1.1, s.1.2.1, s.1.2.2.1, s.1.2.2.2, s.1.2.2.2), ((s.2.1.1.1, decF rPost (List.length s.2.1.1.2) (encF rPost s.2.1.1.2)), PUnit.unit), s.2.2)) fun x0 =>
   .ret (Sum.inl ((x0.1.1, x0.1.2.1, x0.1.2.2.1, IntKind.wrap IntKind.i64 (x0.1.2.2.2 + (1 : Int))), ((x0.2.1.1.1, decF rPost (List.length x0.2.1.1.2) (encF rPost x0.2.1.1.2)), PUnit.unit), x0.2.2))) (
  .ret (Sum.inr (PUnit.unit, ((s.2.1.1.1, decF rPost (List.length s.2.1.1.2) (encF rPost s.2.1.1.2)), PUnit.unit), s.2.2)))) := fun s => by kernel_rfl
noncomputable def K.L_in9 := lim K.st_in9
noncomputable def BLS13 : Tab := BLS12.addNode 124 9 (nodeE [0, 8, 3, 1, 2] S_in9 X_in9 (fun s => .obs (K.L_in9 s) .ret))
theorem tLS13 : TabOk P BLS13 := TabOk.addLoop (d := 30) okP tLS12 (by kernel_rfl) (by kernel_rfl) (fun s r h => obs_ret h)
def D_ins : DecL (Int × Int) := (DecL.cons dInt (.cons dInt (.unit F_cmpD (.tops 0)))).iso (fun p => (p.1, p.2.1)) (fun p => (p.1, p.2, ())) (fun _ => rfl)
theorem fn_ins : ∀ a, (turnT1 P BLS13 30 124 D_ins rPost) a = T.run (
 .obs (L_in9 ((List.length a.2.1, a.2.2.1, a.2.2.2, IntKind.wrap IntKind.i64 (a.2.2.1 + (1 : Int))), ((a.1, decF rPost (List.length a.2.1) (encF rPost a.2.1)), PUnit.unit), List.length a.2.1)) fun x0 =>
  .ret ((x0.2.1.1.1, decF rPost (List.length a.2.1) (encF rPost x0.2.1.1.2)))) := fun a => by kernel_rfl
end Go.Proofs.YtelpdkojdfnmiaaGreat
/-! LS2 -/
namespace Go.Proofs.YtelpdkojdfnmiaaGreat
open Ev K
set_option maxRecDepth 100000
namespace K
theorem decF_setP (n i : Nat) (a b c d : Int) (f : Nat → Nat → AV) : decF rPost n (setR i 0 4 [.int .i64 a, .int .i64 b, .int .i64 c, .int .i64 d] f) = (decF rPost n f).set i ⟨a, b, c, d⟩ := by
 apply List.ext_getElem?
 intro j
 by_cases hj : j < n
 ·rw [List.getElem?_set]
  simp only [decF, List.getElem?_map, List.getElem?_range hj, Option.map_some, List.length_map, List.length_range]
  by_cases e : i = j
  ·subst e
   rw [if_pos rfl, if_pos hj]
   have hb : Nat.beq i i = true := by simp
   simp only [rPost, setR, hb]; rfl
  ·rw [if_neg e]
   have hb : Nat.beq j i = false := by rw [← Bool.not_eq_true, Nat.beq_eq]; omega
   simp only [rPost, setR, hb]; rfl
 ·rw [List.getElem?_eq_none (by simp [decF]; omega), List.getElem?_eq_none (by simp [decF]; omega)]
theorem cmpD_neg (x y : Pst) : cmpD (x, y) < 0 ↔ x.day < y.day := by
 unfold cmpD; rw [l_cmp_eq]
 split
 ·rename_i h; exact ⟨fun _ => h, fun _ => by decide⟩
 ·rename_i h
  refine ⟨fun h2 => ?_, fun h2 => absurd h2 h⟩
  split at h2
  ·exact absurd h2 (by decide)
  ·exact absurd h2 (by decide)
theorem mid_swap {P Q : List Pst} {x y : Pst} : ((P ++ y :: x :: Q).set (P.length + 1) y).set P.length x = P ++ x :: y :: Q := by
 have h : P ++ y :: x :: Q = (P ++ [y]) ++ x :: Q := by simp
 rw [h, show P.length + 1 = (P ++ [y]).length by simp, set_mid, List.append_assoc]
 exact set_mid
theorem get_mid2 {P Q : List Pst} {x y : Pst} : (P ++ y :: x :: Q)[P.length + 1]? = some x := by
 have h : P ++ y :: x :: Q = (P ++ [y]) ++ x :: Q := by simp
 rw [h, show P.length + 1 = (P ++ [y]).length by simp]; exact get_mid
def insP (A : List Pst) (x : Pst) : List Pst := (A.dropWhile fun y => decide (x.day < y.day)).reverse ++ x :: (A.takeWhile fun y => decide (x.day < y.day)).reverse
theorem L_in33_eq (t : TypeId) (pre : List Pst) (b i : Int) (v : Nat) (x : Pst) : ∀ (A C : List Pst), pre.length + A.length + C.length ≤ 1000000 →
  L_in33 (((pre ++ (A.reverse ++ x :: C)).length, (pre.length : Int), b, i, ((pre.length + A.length : Nat) : Int)), ((t, pre ++ (A.reverse ++ x :: C)), ()), v) = some (((pre ++ (A.reverse ++ x :: C)).length, (pre.length : Int), b, i), ((t, pre ++ (insP A x ++ C)), ()), v)
 | [], C, _ => by
  refine lim_done ?_
  rw [sl_in33]
  simp only [decF_encF]
  exact br_f (decide_eq_false (by simp)) rfl
 | y :: A, C, hl => by
  have hlen : (pre ++ ((y :: A).reverse ++ x :: C)).length = pre.length + A.length + C.length + 2 := by simp; omega
  simp only [List.length_cons] at hl
  have e0 : pre ++ ((y :: A).reverse ++ x :: C) = (pre ++ A.reverse) ++ y :: x :: C := by simp
  have el : (pre ++ A.reverse).length = pre.length + A.length := by simp
  have gy : (pre ++ ((y :: A).reverse ++ x :: C))[pre.length + A.length]? = some y := by rw [e0, ← el]; exact get_mid
  have gx : (pre ++ ((y :: A).reverse ++ x :: C))[pre.length + A.length + 1]? = some x := by rw [e0, ← el]; exact get_mid2
  have w1 : IntKind.i64.wrap (((pre.length + (A.length + 1) : Nat) : Int) - 1) = ((pre.length + A.length : Nat) : Int) := by rw [w64_in (by omega) (by omega)]; omega
  have hsw : ((pre ++ ((y :: A).reverse ++ x :: C)).set (pre.length + A.length + 1) y).set (pre.length + A.length) x = pre ++ (A.reverse ++ x :: y :: C) := by
   rw [e0, ← el, mid_swap, List.append_assoc]
  generalize hR : pre ++ ((y :: A).reverse ++ x :: C) = R at hlen gy gx hsw ⊢
  rw [show (y :: A).length = A.length + 1 from rfl]
  have gx' : R[pre.length + (A.length + 1)]? = some x := gx
  by_cases h : x.day < y.day
  ·have hs : st_in33 ((R.length, (pre.length : Int), b, i, ((pre.length + (A.length + 1) : Nat) : Int)), ((t, R), ()), v) = some (.inl ((R.length, (pre.length : Int), b, i, ((pre.length + A.length : Nat) : Int)), ((t, pre ++ (A.reverse ++ x :: y :: C)), ()), v)) := by
    rw [sl_in33]
    simp only [Int.toNat_natCast, w1, post_at gx', post_at gy, pw0, pw1, pw2, pw3, decF_setP, decF_encF]
    refine br_t (decide_eq_true (by omega)) (chk_step (decide_eq_true (by omega)) (chk_step (decide_eq_true (by omega)) (br_t (decide_eq_true ((cmpD_neg x y).2 h)) ?_)))
    refine chk_step (decide_eq_true (by omega)) (chk_step (decide_eq_true (by omega)) (chk_step (decide_eq_true (by omega)) (chk_step (decide_eq_true (by omega)) ?_)))
    rw [show pre.length + (A.length + 1) = pre.length + A.length + 1 from rfl, hsw]; rfl
   refine (lim_step hs).trans ?_
   have ih := L_in33_eq t pre b i v x A (y :: C) (by simp; omega)
   have hl2 : (pre ++ (A.reverse ++ x :: y :: C)).length = R.length := by rw [hlen]; simp; omega
   rw [hl2] at ih
   rw [show lim st_in33 = L_in33 from rfl, ih]
   have e2 : insP (y :: A) x ++ C = insP A x ++ y :: C := by
    unfold insP
    rw [List.dropWhile_cons_of_pos (by simpa using h), List.takeWhile_cons_of_pos (by simpa using h)]; simp
   rw [e2]
  ·refine lim_done ?_
   rw [sl_in33]
   simp only [Int.toNat_natCast, w1, post_at gx', post_at gy, pw0, pw1, pw2, pw3, decF_encF]
   refine br_t (decide_eq_true (by omega)) (chk_step (decide_eq_true (by omega)) (chk_step (decide_eq_true (by omega)) (br_f (decide_eq_false (fun hc => h ((cmpD_neg x y).1 hc))) ?_)))
   have e2 : insP (y :: A) x ++ C = (y :: A).reverse ++ x :: C := by
    unfold insP
    rw [List.dropWhile_cons_of_neg (by simpa using h), List.takeWhile_cons_of_neg (by simpa using h)]; simp
   rw [e2, hR]; rfl
theorem L_in9_eq (t : TypeId) (pre post : List Pst) (v : Nat) : ∀ (T S : List Pst), Sd S → pre.length + S.length + T.length + post.length ≤ 1000000 → ∃ R, Sd R ∧ StEq (S ++ T) R ∧
  L_in9 (((pre ++ (S ++ (T ++ post))).length, (pre.length : Int), ((pre.length + S.length + T.length : Nat) : Int), ((pre.length + S.length : Nat) : Int)), ((t, pre ++ (S ++ (T ++ post))), ()), v) = some ((), ((t, pre ++ (R ++ post)), ()), v)
 | [], S, hs, _ => by
  refine ⟨S, hs, by rw [List.append_nil]; exact StEq.refl S, lim_done ?_⟩
  rw [sl_in9]
  simp only [decF_encF]
  exact br_f (decide_eq_false (by simp)) rfl
 | x :: T, S, hs, hl => by
  simp only [List.length_cons] at hl
  have h33 := L_in33_eq t pre ((pre.length + S.length + (T.length + 1) : Nat) : Int) ((pre.length + S.length : Nat) : Int) v x S.reverse (T ++ post) (by simp; omega)
  rw [List.reverse_reverse, List.length_reverse] at h33
  have hins := st_insert (A := S.reverse) (x := x) (by rw [List.reverse_reverse]; exact hs)
  rw [List.reverse_reverse] at hins
  change Sd (insP S.reverse x) ∧ StEq (S ++ [x]) (insP S.reverse x) at hins
  generalize hI : insP S.reverse x = I at h33 hins
  have hIl : I.length = S.length + 1 := by have := hins.2.len; simp at this; exact this.symm
  obtain ⟨R, r1, r2, r3⟩ := L_in9_eq t pre post v T I hins.1 (by omega)
  refine ⟨R, r1, ?_, ?_⟩
  ·have e : S ++ x :: T = (S ++ [x]) ++ T := by simp
   rw [e]
   exact (hins.2.app (StEq.refl T)).trans r2
  ·have w1 : IntKind.i64.wrap (((pre.length + S.length : Nat) : Int) + 1) = ((pre.length + I.length : Nat) : Int) := by rw [w64_in (by omega) (by omega), hIl]; omega
   have hlen : (pre ++ (S ++ (x :: T ++ post))).length = (pre ++ (I ++ (T ++ post))).length := by simp [hIl]; omega
   have hs : st_in9 (((pre ++ (S ++ (x :: T ++ post))).length, (pre.length : Int), ((pre.length + S.length + (x :: T).length : Nat) : Int), ((pre.length + S.length : Nat) : Int)), ((t, pre ++ (S ++ (x :: T ++ post))), ()), v) =
     some (.inl (((pre ++ (I ++ (T ++ post))).length, (pre.length : Int), ((pre.length + I.length + T.length : Nat) : Int), ((pre.length + I.length : Nat) : Int)), ((t, pre ++ (I ++ (T ++ post))), ()), v)) := by
    rw [sl_in9]
    simp only [decF_encF]
    refine br_t (decide_eq_true (by simp only [List.length_cons]; omega)) (obs_step h33 ?_)
    simp only [w1]
    rw [show pre.length + S.length + (T.length + 1) = pre.length + I.length + T.length by omega, show (pre ++ (S ++ x :: (T ++ post))).length = (pre ++ (I ++ (T ++ post))).length from hlen]; rfl
   refine (lim_step hs).trans ?_
   exact r3
def sortSeg (l : List Pst) (a b : Nat) : List Pst := l.take a ++ (stB ((l.drop a).take (b - a)) ++ l.drop b)
theorem seg_split {l : List Pst} {a b : Nat} (h1 : a ≤ b) (_h2 : b ≤ l.length) : l = l.take a ++ ((l.drop a).take (b - a) ++ l.drop b) := by
 have e : l.drop b = (l.drop a).drop (b - a) := by rw [List.drop_drop, show a + (b - a) = b by omega]
 rw [e, List.take_append_drop, List.take_append_drop]
theorem sd_one (x : Pst) : Sd [x] := List.pairwise_singleton ..
theorem ins_turn (t : TypeId) (l : List Pst) (a b : Nat) (h1 : a ≤ b) (h2 : b ≤ l.length) (h3 : l.length ≤ 1000000) : turnT1 P BLS13 30 124 D_ins rPost (t, l, (a : Int), (b : Int)) = some (t, sortSeg l a b) := by
 rw [fn_ins]
 have hsp := seg_split h1 h2
 unfold sortSeg
 have hl1 : (l.take a).length = a := by rw [List.length_take]; omega
 have hl2 : ((l.drop a).take (b - a)).length = b - a := by rw [List.length_take, List.length_drop]; omega
 have hl3 : (l.drop b).length = l.length - b := List.length_drop
 generalize l.take a = pre at hsp hl1 ⊢
 generalize (l.drop a).take (b - a) = T at hsp hl2 ⊢
 generalize l.drop b = post at hsp hl3 ⊢
 simp only [decF_encF]
 have w1 : IntKind.i64.wrap ((a : Int) + 1) = ((a + 1 : Nat) : Int) := by rw [w64_in (by omega) (by omega)]; rfl
 rw [w1]
 cases T with
 | nil =>
  simp only [List.length_nil] at hl2
  have hs : stB [] = [] := List.mergeSort_nil
  rw [hs]
  refine obs_step (x := ((), ((t, l), ()), l.length)) (lim_done ?_) ?_
  ·rw [sl_in9]
   simp only [decF_encF]
   exact br_f (decide_eq_false (by omega)) rfl
  ·simp only [decF_encF]; rw [← hsp]; rfl
 | cons x T =>
  simp only [List.length_cons] at hl2
  obtain ⟨R, r1, r2, r3⟩ := L_in9_eq t pre post l.length T [x] (sd_one x) (by simp; omega)
  have hR : R = stB (x :: T) := stB_of r2 r1
  subst hR
  have e1 : pre ++ ([x] ++ (T ++ post)) = l := by rw [hsp]; simp
  rw [e1, hl1, show a + [x].length + T.length = b by simp; omega, show a + [x].length = a + 1 from rfl] at r3
  refine obs_step r3 ?_
  have hlen : (pre ++ (stB (x :: T) ++ post)).length = l.length := by rw [List.length_append, List.length_append, stB_len, hl1, hl3, List.length_cons]; omega
  simp only
  rw [← hlen, decF_encF]; rfl
def M_ins (a : List Pst × Int × Int) : T (List Pst) := .chk (decide (0 ≤ a.2.1 ∧ a.2.1 ≤ a.2.2 ∧ a.2.2 ≤ a.1.length ∧ a.1.length ≤ 1000000)) (.ret (sortSeg a.1 a.2.1.toNat a.2.2.toNat))
theorem ins_mc (l : List Pst) (a : Int × Int) (l' : List Pst) (h : (M_ins (l, a)).run = some l') : MC P 124 rPost.wd l.length ⟨rPost.tags, encF rPost l⟩ ⟨rPost.tags, encF rPost l'⟩ (D_ins.enc a) := by
 obtain ⟨x, y⟩ := a
 obtain ⟨g, e⟩ := chk_ret h
 subst e
 have g := of_decide_eq_true g
 simp only at g
 obtain ⟨a, rfl⟩ : ∃ a : Nat, x = a := ⟨x.toNat, by omega⟩
 obtain ⟨b, rfl⟩ : ∃ b : Nat, y = b := ⟨y.toNat, by omega⟩
 exact turn_of (d := 30) okP tLS13 fun t => ins_turn t l a b (by omega) (by omega) g.2.2.2
end K
noncomputable def BLS2i : Tab := BLS13.addTurn 124 (turnE D_ins rPost K.M_ins)
theorem tLS2i : TabOk P BLS2i := TabOk.addTurn tLS13 (turnE_cc K.ins_mc)
end Go.Proofs.YtelpdkojdfnmiaaGreat
/-! LSs -/
namespace Go.Proofs.YtelpdkojdfnmiaaGreat
open Ev K
set_option maxRecDepth 100000
noncomputable abbrev K.fSu : FuncId := 105
def S_u17 := DecS.rnd (.cons (dO 0) (.cons (dInt) (.unit (F_cmpD) (.skips 3 (.cons (dInt) (.cons (dInt) (.last (dInt) 54))))))) O_pT V_own
def X_u17 := DecX.one (.exit 0) [0, 7, 1, 2, 6] (DecS.rnd (.cons (dO 0) (.cons (dInt) (.unit (F_cmpD) (.skips 3 (.cons (dInt) (.last (dInt) 55)))))) O_pT V_own)
noncomputable def K.st_u17 := loopT1 P BLS2i 30 fSu 17 [6, 8, 2, 7, 0, 1] S_u17 X_u17
theorem sl_u17 : ∀ s, (K.st_u17) s = T.run (
 .br (decide (s.1.2.2.2.2 ≤ s.1.2.1)) (
  .chk (decide ((0 : Int) ≤ s.1.2.2.2.1 ∧ s.1.2.2.2.1 ≤ s.1.2.2.2.2 ∧ s.1.2.2.2.2 ≤ (↑(List.length (decF rPost (List.length s.2.1.1.2) (encF rPost s.2.1.1.2))) : Int) ∧ List.length (decF rPost (List.length s.2.1.1.2) (encF rPost s.2.1.1.2)) ≤ (1000000 : Nat))) <|
  .ret (Sum.inl ((s.1.1, s.1.2.1, s.1.2.2.1, s.1.2.2.2.2, IntKind.wrap IntKind.i64 (s.1.2.2.2.2 + s.1.2.2.1)), ((s.2.1.1.1, decF rPost (List.length s.2.1.1.2) (encF rPost (sortSeg (decF rPost (List.length s.2.1.1.2) (encF rPost s.2.1.1.2)) (Int.toNat s.1.2.2.2.1) (Int.toNat s.1.2.2.2.2)))), PUnit.unit), s.2.2))) (
  .ret (Sum.inr ((s.1.1, s.1.2.1, s.1.2.2.1, s.1.2.2.2.1), ((s.2.1.1.1, decF rPost (List.length s.2.1.1.2) (encF rPost s.2.1.1.2)), PUnit.unit), s.2.2)))) := fun s => by kernel_rfl
noncomputable def K.L_u17 := lim K.st_u17
noncomputable def BLSs1 : Tab := BLS2i.addNode 105 17 (nodeE [6, 8, 2, 7, 0, 1] S_u17 X_u17 (fun s => .obs (K.L_u17 s) .ret))
theorem tLSs1 : TabOk P BLSs1 := TabOk.addLoop (d := 30) okP tLS2i (by kernel_rfl) (by kernel_rfl) (fun s r h => obs_ret h)
def X_u73 := DecX.one (.exit 4) [0, 7, 1, 2, 6] (DecS.rnd (.cons (dO 0) (.cons (dInt) (.unit (F_cmpD) (.skips 3 (.cons (dInt) (.last (dInt) 55)))))) O_pT V_own)
noncomputable def K.st_u73 := loopT1 P BLSs1 30 fSu 73 [6, 8, 2, 7, 0, 1] S_u17 X_u73
noncomputable def K.L_u73 := lim K.st_u73
noncomputable def BLSs2 : Tab := BLSs1.addNode 105 73 (nodeE [6, 8, 2, 7, 0, 1] S_u17 X_u73 (fun s => .obs (K.L_u73 s) .ret))
theorem tLSs2 : TabOk P BLSs2 := TabOk.addLoop (d := 30) okP tLSs1 (by kernel_rfl) (by kernel_rfl) (fun s r h => obs_ret h)
def S_u57 := DecS.rnd (.cons (dO 0) (.cons (dInt) (.unit (F_cmpD) (.skips 3 (.last (dInt) 56))))) O_pT V_own
def X_u57 := DecX.one (.exit 2) [] (DecS.rnd (.tops 63) O_pT V_own)
noncomputable def K.st_u57 := loopT1 P BLSs2 30 fSu 57 [6, 2, 0, 1] S_u57 X_u57
theorem sl_u57 : ∀ s, (K.st_u57) s = T.run (
 .br (decide (s.1.2.2 < s.1.2.1)) (
  .obs (L_u73 ((s.1.1, s.1.2.1, s.1.2.2, (0 : Int), IntKind.wrap IntKind.i64 ((2 : Int) * s.1.2.2)), ((s.2.1.1.1, decF rPost (List.length s.2.1.1.2) (encF rPost s.2.1.1.2)), PUnit.unit), s.2.2)) fun x0 =>
   .br (decide (IntKind.wrap IntKind.i64 (x0.1.2.2.2 + x0.1.2.2.1) < x0.1.2.1)) (
    .fail) (
    .ret (Sum.inl ((x0.1.1, x0.1.2.1, IntKind.wrap IntKind.i64 (x0.1.2.2.1 * (2 : Int))), ((x0.2.1.1.1, decF rPost (List.length x0.2.1.1.2) (encF rPost x0.2.1.1.2)), PUnit.unit), x0.2.2)))) (
  .ret (Sum.inr (PUnit.unit, ((s.2.1.1.1, decF rPost (List.length s.2.1.1.2) (encF rPost s.2.1.1.2)), PUnit.unit), s.2.2)))) := fun s => by kernel_rfl
noncomputable def K.L_u57 := lim K.st_u57
noncomputable def BLSs3 : Tab := BLSs2.addNode 105 57 (nodeE [6, 2, 0, 1] S_u57 X_u57 (fun s => .obs (K.L_u57 s) .ret))
theorem tLSs3 : TabOk P BLSs3 := TabOk.addLoop (d := 30) okP tLSs2 (by kernel_rfl) (by kernel_rfl) (fun s r h => obs_ret h)
def D_stu : DecL Int := (DecL.cons dInt (.unit F_cmpD (.tops 0))).iso (fun p => p.1) (fun p => (p, ())) (fun _ => rfl)
theorem fn_stu : ∀ a, (turnT1 P BLSs3 30 fSu D_stu rPost) a = T.run (
 .obs (L_u17 ((List.length a.2.1, a.2.2, (20 : Int), (0 : Int), (20 : Int)), ((a.1, decF rPost (List.length a.2.1) (encF rPost a.2.1)), PUnit.unit), List.length a.2.1)) fun x0 =>
  .chk (decide ((0 : Int) ≤ x0.1.2.2.2 ∧ x0.1.2.2.2 ≤ x0.1.2.1 ∧ x0.1.2.1 ≤ (↑(List.length (decF rPost (List.length x0.2.1.1.2) (encF rPost x0.2.1.1.2))) : Int) ∧ List.length (decF rPost (List.length x0.2.1.1.2) (encF rPost x0.2.1.1.2)) ≤ (1000000 : Nat))) <|
  .obs (L_u57 ((x0.1.1, x0.1.2.1, x0.1.2.2.1), ((x0.2.1.1.1, decF rPost (List.length x0.2.1.1.2) (encF rPost (sortSeg (decF rPost (List.length x0.2.1.1.2) (encF rPost x0.2.1.1.2)) (Int.toNat x0.1.2.2.2) (Int.toNat x0.1.2.1)))), PUnit.unit), x0.2.2)) fun x1 =>
   .ret ((x1.2.1.1.1, decF rPost (List.length a.2.1) (encF rPost x1.2.1.1.2)))) := fun a => by kernel_rfl
namespace K
theorem hdecU {n : Nat} {l : List Pst} (h : l.length = n) : decF rPost n (encF rPost l) = l := by rw [← h, decF_encF]
theorem seg_all (l : List Pst) : sortSeg l 0 l.length = stB l := by
 unfold sortSeg; rw [List.take_zero, List.drop_zero, List.drop_length, Nat.sub_zero, List.take_length]; simp
theorem stu_turn (t : TypeId) (l : List Pst) (h : l.length < 20) : turnT1 P BLSs3 30 fSu D_stu rPost (t, l, (l.length : Int)) = some (t, stB l) := by
 rw [fn_stu]
 simp only [decF_encF]
 have h1 : L_u17 ((l.length, (l.length : Int), 20, 0, 20), ((t, l), ()), l.length) = some ((l.length, (l.length : Int), 20, 0), ((t, l), ()), l.length) := by
  refine lim_done ?_
  rw [sl_u17]
  simp only [decF_encF]
  exact br_f (decide_eq_false (by omega)) rfl
 refine obs_step h1 ?_
 simp only [Int.toNat_natCast]
 refine chk_step (decide_eq_true (by omega)) ?_
 rw [show Int.toNat 0 = 0 from rfl, seg_all]
 have hd : decF rPost l.length (encF rPost (stB l)) = stB l := by have := decF_encF rPost (stB l); rw [stB_len] at this; exact this
 rw [hd]
 have h2 : L_u57 ((l.length, (l.length : Int), 20), ((t, stB l), ()), l.length) = some ((), ((t, stB l), ()), l.length) := by
  refine lim_done ?_
  rw [sl_u57]
  simp only [decF_encF]
  exact br_f (decide_eq_false (by omega)) rfl
 refine obs_step h2 ?_
 simp only [hd]; rfl
def M_stu (a : List Pst × Int) : T (List Pst) := .chk (decide (a.2 = a.1.length ∧ a.1.length < 20)) (.ret (stB a.1))
theorem stu_mc (l : List Pst) (a : Int) (l' : List Pst) (h : (M_stu (l, a)).run = some l') : MC P fSu rPost.wd l.length ⟨rPost.tags, encF rPost l⟩ ⟨rPost.tags, encF rPost l'⟩ (D_stu.enc a) := by
 obtain ⟨g, e⟩ := chk_ret h
 subst e
 have g := of_decide_eq_true g
 simp only at g
 obtain ⟨rfl, g2⟩ := g
 exact turn_of (d := 30) okP tLSs3 fun t => stu_turn t l g2
end K
noncomputable def BLSsu : Tab := BLSs3.addTurn K.fSu (turnE D_stu rPost K.M_stu)
theorem tLSsu : TabOk P BLSsu := TabOk.addTurn tLSs3 (turnE_cc K.stu_mc)
def D_ssu : DecL Unit := (DecL.unit F_cmpD (.tops 0)).iso (fun _ => ()) (fun _ => ()) (fun _ => rfl)
theorem fn_ssu : ∀ a, (turnT1 P BLSsu 30 69 D_ssu rPost) a = T.run (
 .chk (decide ((↑(List.length a.2.1) : Int) = (↑(List.length (decF rPost (List.length a.2.1) (encF rPost a.2.1))) : Int) ∧ List.length (decF rPost (List.length a.2.1) (encF rPost a.2.1)) < (20 : Nat))) <|
 .ret ((a.1, decF rPost (List.length a.2.1) (encF rPost (stB (decF rPost (List.length a.2.1) (encF rPost a.2.1))))))) := fun a => by kernel_rfl
namespace K
def M_ssu (a : List Pst × Unit) : T (List Pst) := .chk (decide (a.1.length < 20)) (.ret (stB a.1))
theorem ssu_mc (l : List Pst) (a : Unit) (l' : List Pst) (h : (M_ssu (l, a)).run = some l') : MC P 69 rPost.wd l.length ⟨rPost.tags, encF rPost l⟩ ⟨rPost.tags, encF rPost l'⟩ (D_ssu.enc a) := by
 obtain ⟨g, e⟩ := chk_ret h
 subst e
 have g := of_decide_eq_true g
 refine turn_of (d := 30) okP tLSsu fun t => (fn_ssu (t, l, a)).trans ?_
 have hd : decF rPost l.length (encF rPost (stB l)) = stB l := by have := decF_encF rPost (stB l); rw [stB_len] at this; exact this
 simp only [decF_encF]
 refine chk_step (decide_eq_true ⟨trivial, g⟩) ?_
 simp only [hd]; rfl
end K
end Go.Proofs.YtelpdkojdfnmiaaGreat
/-! LT1 -/
namespace Go.Proofs.YtelpdkojdfnmiaaGreat
open Ev K
set_option maxRecDepth 100000
noncomputable def BLT1u : Tab := BLT01.addTurn 69 (turnE D_ssu rPost K.M_ssu)
theorem tLT1u : TabOk P BLT1u := TabOk.addTurn tLT01 (turnE_cc K.ssu_mc)
theorem fn_stateu : ∀ a, (callT1 P BLT1u 30 22 D_state R_state) a = T.run (
 let q13 := (0 : Nat);
 let q4 := decF rItem (List.length a.1) fun i => encF rItem a.1 (q13 + i);
 let q8 := Bk.posts (readB q4 a.2.2.2);
 let q1 := decF rPost (List.length q8) fun i => encF rPost q8 (q13 + i);
 let q10 := (0 : Int);
 let q12 := a.2.2.1;
 let q7 := sumP q1 (IntKind.wrap IntKind.i64 (Span.lo q12 - (1 : Int)));
 let q11 := Get.mk [CK.int IntKind.i64, CK.int IntKind.i64] (encF rPII q7);
 let q15 := Span.hi q12;
 let q9 := Get.mk [CK.int IntKind.i64, CK.int IntKind.i64] (encF rPII (sumP q1 q15));
 let q2 := L_sta ((a.2.1, decF rPost (List.length q8) fun i => encF rPost q8 (q13 + i), (↑(clampL (List.length q8)) : Int), q10), q12, PUnit.unit, (numOf (mraw q11 (mfind q11 (AV.int IntKind.i64 a.2.1) (List.length q7)) (AV.int IntKind.i64 q10) (1 : Nat)), numOf (mraw q9 (mfind q9 (AV.int IntKind.i64 a.2.1) (List.length (sumP q1 q15))) (AV.int IntKind.i64 q10) (1 : Nat)), q13), decF rPost q13 fun _x _x_1 => AV.top, PUnit.unit);
 let q6 := (Stm.mk q10 q10 [], (1 : Int));
 let q14 := decide (Span.lo q12 > Span.hi q12);
 let q3 : T _ := .br (!l_day (Span.lo q12)) (
    .ret q6) (
    .br (!l_day q15) (
     .ret q6) (
     .br q14 (
      .ret q6) (
      .chk (rdOk q4) <|
      .chk (balOk q1) <|
      .chk (balOk q1) <|
      .obs q2 fun x0 =>
 let q16 := decF rPost (List.length x0.2.2.2.1) (encF rPost x0.2.2.2.1);
       .chk (decide (List.length q16 < (20 : Nat))) <|
       .ret ((Stm.mk x0.2.2.1.1 x0.2.2.1.2.1 (decF rPost (List.length x0.2.2.2.1) fun i => encF rPost (stB q16) (q13 + i)), q10)))));
 let q5 := decF rInt (1 : Nat) fun i k => Option.getD [AV.int IntKind.i64 a.2.2.2][(q13 + i) * (1 : Nat) + k]? AV.top;
 .chk (decide (nat_lit 1 ≤ (1000 : Nat))) <|
 .br (askedV q4 q5 != q10) (
  .br (askedV q4 q5 != q10) (
   .ret ((Stm.mk q10 q10 [], askedV q4 q5))) q3) (
  .br (l_account a.2.1 != q10) (
   .br (l_account a.2.1 != q10) (
    .ret ((Stm.mk q10 q10 [], l_account a.2.1))) (
    .br (!l_day (Span.lo q12)) (
     .ret q6) (
     .br (!l_day q15) (
      .ret q6) (
      .br q14 (
       .ret q6) (
       .chk (rdOk q4) <|
       .chk (balOk q1) <|
       .chk (balOk q1) <|
       .obs q2 fun x0 =>
 let q17 := decF rPost (List.length x0.2.2.2.1) (encF rPost x0.2.2.2.1);
        .chk (decide (List.length q17 < (20 : Nat))) <|
        .ret ((Stm.mk x0.2.2.1.1 x0.2.2.1.2.1 (decF rPost (List.length x0.2.2.2.1) fun i => encF rPost (stB q17) (q13 + i)), q10))))))) q3)) := fun a => by kernel_rfl
namespace K
theorem stateu_eq (a : List Itm × Int × Span × Int) (hsm : ((readB a.1 a.2.2.2).posts.filter (onLine a.2.1 a.2.2.1)).length < 20) : callT1 P BLT1u 30 22 D_state R_state a = some (stateV a.1 a.2.1 a.2.2.1 a.2.2.2) := by
 obtain ⟨l, acc, sp, known⟩ := a
 simp only at hsm
 rw [fn_stateu]; unfold stateV stateE orV
 simp only [Nat.zero_add, decF_encF, dInt1, find_M, raw_M, l_account_eq]
 refine chk_step rfl ?_
 by_cases h : askedV l [known] = 0
 ·simp only [h, ne_eq, not_true, if_false]
  refine br_f (by decide) ?_
  by_cases h2 : accountE acc = 0
  ·simp only [h2, not_true, if_false]
   refine br_f (by decide) ?_
   by_cases h3 : dayOk sp.lo
   ·refine br_f (by rw [(l_day_iff _).2 h3]; rfl) ?_
    by_cases h4 : dayOk sp.hi
    ·refine br_f (by rw [(l_day_iff _).2 h4]; rfl) ?_
     by_cases h5 : sp.lo ≤ sp.hi
     ·have hsp : spanOk sp := ⟨h3, h4, h5⟩
      have hb := chk_bal (ask_check h).1 known
      have hpl : (readB l known).posts.length ≤ 1000 := (of_decide_eq_true hb).1
      have w : IntKind.i64.wrap (sp.lo - 1) = sp.lo - 1 := by unfold dayOk at h3; exact w64_in (by omega) (by omega)
      simp only [hsp, if_true, w]
      refine br_f (decide_eq_false (by omega)) (chk_step (chk_rd (ask_check h).1) (chk_step hb (chk_step hb ?_)))
      rw [clampL_eq (show (readB l known).posts.length ≤ maxL by unfold maxL; omega)]
      have key := L_sta_eq acc (readB l known).posts sp (lookM (sumP (readB l known).posts (sp.lo - 1)) acc) (lookM (sumP (readB l known).posts sp.hi) acc) hpl (readB l known).posts.length 0 [] (by omega) (by simp)
      simp only [List.drop_zero, List.nil_append] at key
      refine obs_step key ?_
      have hfl := List.length_filter_le (onLine acc sp) (readB l known).posts
      simp only
      refine chk_step (decide_eq_true (by omega)) ?_
      rw [hdecU (stB_len _)]; rfl
     ·have hsp : ¬ spanOk sp := fun h => h5 h.2.2
      simp only [hsp, if_false]
      exact br_t (decide_eq_true (by omega)) rfl
    ·have hsp : ¬ spanOk sp := fun h => h4 h.2.1
     simp only [hsp, if_false]
     exact br_t (by rw [Bool.not_eq_true', ← Bool.not_eq_true]; exact fun h => h4 ((l_day_iff _).1 h)) rfl
   ·have hsp : ¬ spanOk sp := fun h => h3 h.1
    simp only [hsp, if_false]
    exact br_t (by rw [Bool.not_eq_true', ← Bool.not_eq_true]; exact fun h => h3 ((l_day_iff _).1 h)) rfl
  ·simp only [h2, not_false_eq_true, if_true, if_false]
   exact br_t (ne_t h2) (br_t (ne_t h2) rfl)
 ·simp only [h, ne_eq, not_false_eq_true, if_true, if_false]
  exact br_t (ne_t h) (br_t (ne_t h) rfl)
def M_stateu (a : List Itm × Int × Span × Int) : T (Stm × Int) := .chk (decide (((readB a.1 a.2.2.2).posts.filter (onLine a.2.1 a.2.2.1)).length < 20)) (.ret (stateV a.1 a.2.1 a.2.2.1 a.2.2.2))
theorem stateu_pc (a : List Itm × Int × Span × Int) (r : Stm × Int) (h : (M_stateu a).run = some r) : PC P 22 (D_state.enc a) (R_state.enc r) := by
 obtain ⟨g, e⟩ := chk_ret h
 subst e
 exact call_of okP tLT1u (stateu_eq a (of_decide_eq_true g))
end K
noncomputable def BLT11 : Tab := BLT1u.addCall 22 (callE D_state R_state K.M_stateu)
theorem tLT11 : TabOk P BLT11 := TabOk.addPC tLT1u (K.stateu_pc)
end Go.Proofs.YtelpdkojdfnmiaaGreat
/-! LQ0 -/
namespace Go.Proofs.YtelpdkojdfnmiaaGreat
open Ev K
set_option maxRecDepth 100000
theorem fn_san : ∀ a, (callT1 P BLT11 30 18 (DecL.tops 0) dB) a = T.run (
 .br ((↑(clampL (List.length (stB (List.filter (onLine (20 : Int) (Span.mk (5 : Int) (8 : Int))) (Bk.posts (readB (decF rItem (nat_lit 6) fun i => encF rItem exL ((0 : Nat) + i)) (9 : Int))))))) : Int) != (2 : Int)) (
  .ret (false)) (
  .ret (true))) := fun a => by kernel_rfl
namespace K
theorem lines_two : ((readB exL 9).posts.filter (onLine 20 ⟨5, 8⟩)).length = 2 := by kernel_rfl
theorem san_eq (a : Unit) : callT1 P BLT11 30 18 (DecL.tops 0) dB a = some true := by
 rw [fn_san]
 have e : decF rItem 6 (fun i => encF rItem exL (0 + i)) = exL := by have := decF_enc0 rItem exL; exact this
 rw [e, stB_len, lines_two]; rfl
end K
noncomputable def BLQ01 : Tab := BLT11.addCall 18 (callE (DecL.tops 0) dB (fun _a => .ret (true)))
theorem tLQ01 : TabOk P BLQ01 := TabOk.addPC tLT11 (fun a r h => by rw [← ret_some h]; exact call_of okP tLT11 (K.san_eq a))
theorem fn_l_few : ∀ a, (callT1 P BLQ01 30 19 D_l dB) a = T.run (
 .br (decide ((↑(clampL (List.length a)) : Int) ≤ (30 : Int))) (
  .ret (true)) (
  .br (decide ((↑(clampL (List.length a)) : Int) > (60 : Int))) (
   .ret (decide ((↑(clampL (List.length a)) : Int) ≤ (80 : Int)))) (
   .ret (false)))) := fun a => by kernel_rfl
noncomputable def K.l_few (a : List Itm) : Bool := (if (decide ((↑(clampL (List.length a)) : Int) ≤ (30 : Int))) = true then true else (if (decide ((↑(clampL (List.length a)) : Int) > (60 : Int))) = true then decide ((↑(clampL (List.length a)) : Int) ≤ (80 : Int)) else false))
theorem eq_l_few (a : List Itm) : (callT1 P BLQ01 30 19 D_l dB) a = some (K.l_few a) := (fn_l_few a).trans (T.br_some rfl (T.br_some rfl rfl))
noncomputable def BLQ02 : Tab := BLQ01.addCall 19 (callE D_l dB (fun a => .ret (K.l_few a)))
theorem tLQ02 : TabOk P BLQ02 := TabOk.addFn (d := 30) okP tLQ01 (fun a r h => by rw [eq_l_few]; exact congrArg some (ret_some h))
end Go.Proofs.YtelpdkojdfnmiaaGreat
/-! LP0 -/
namespace Go.Proofs.YtelpdkojdfnmiaaGreat
open Ev K
open Go.Sort Go.Proofs
set_option maxRecDepth 100000
namespace K
def ltK (x y : Itm) : Prop := x.known < y.known ∨ x.known = y.known ∧ x.id < y.id
instance (x y : Itm) : Decidable (ltK x y) := by unfold ltK; infer_instance
theorem sortI_spec (l : List Itm) : (sortI l).Perm l ∧ (sortI l).Pairwise fun x y => ¬ ltK y x := by
 obtain ⟨h1, h2⟩ := sortF_spec swoI l
 exact ⟨h1, h2.imp fun h => by rw [ltI, decide_eq_false_iff_not] at h; exact h⟩
theorem sortB_spec (l : List Bal) : (sortB l).Perm l ∧ (sortB l).Pairwise fun x y => ¬ y.account < x.account := by
 obtain ⟨h1, h2⟩ := sortF_spec swoB l
 exact ⟨h1, h2.imp fun h => by rw [ltB, decide_eq_false_iff_not] at h; exact h⟩
theorem uniq_of {α : Type} {R : α → α → Prop} (has : ∀ a b, R a b → R b a → False) : ∀ {l l' : List α}, l.Pairwise R → l'.Pairwise R → (∀ x, x ∈ l ↔ x ∈ l') → l = l'
 | [], [], _, _, _ => rfl
 | [], y :: t, _, _, h => by have := (h y).2 (List.mem_cons_self ..); cases this
 | x :: t, [], _, _, h => by have := (h x).1 (List.mem_cons_self ..); cases this
 | x :: t, y :: t', h1, h2, h => by
  have a1 := List.pairwise_cons.1 h1
  have a2 := List.pairwise_cons.1 h2
  have e : x = y := Classical.byContradiction fun hne => by
   have hx := (h x).1 (List.mem_cons_self ..)
   have hy := (h y).2 (List.mem_cons_self ..)
   rcases List.mem_cons.1 hx with e | hx
   ·exact hne e
   rcases List.mem_cons.1 hy with e | hy
   ·exact hne e.symm
   exact has _ _ (a1.1 y hy) (a2.1 x hx)
  subst e
  congr 1
  refine uniq_of has a1.2 a2.2 fun z => ⟨fun hz => ?_, fun hz => ?_⟩
  ·rcases List.mem_cons.1 ((h z).1 (List.mem_cons_of_mem _ hz)) with e | h3
   ·subst e; exact (has _ _ (a1.1 z hz) (a1.1 z hz)).elim
   ·exact h3
  ·rcases List.mem_cons.1 ((h z).2 (List.mem_cons_of_mem _ hz)) with e | h3
   ·subst e; exact (has _ _ (a2.1 z hz) (a2.1 z hz)).elim
   ·exact h3
theorem ltK_as (a b : Itm) (h1 : ltK a b) (h2 : ltK b a) : False := by unfold ltK at *; omega
theorem ltK_tr {a b c : Itm} (h1 : ltK a b) (h2 : ltK b c) : ltK a c := by unfold ltK at *; omega
def One (l : List Itm) : Prop := ∀ x ∈ l, ∀ y ∈ l, x.id = y.id → x = y
theorem One.sub {l l' : List Itm} (h : One l) (hs : ∀ x ∈ l', x ∈ l) : One l' := fun x hx y hy => h x (hs x hx) y (hs y hy)
theorem cp_sorted {l : List Itm} (ho : One l) (hs : l.Pairwise fun x y => ¬ ltK y x) : (cp l).Pairwise ltK ∧ ∀ x, x ∈ cp l ↔ x ∈ l := by
 have key : ∀ (l acc : List Itm), One (acc ++ l) → (acc ++ l).Pairwise (fun x y => ¬ ltK y x) → acc.Pairwise ltK → (l.foldl cpi acc).Pairwise ltK ∧ ∀ x, x ∈ l.foldl cpi acc ↔ x ∈ acc ∨ x ∈ l := by
  intro l
  induction l with
  | nil => intro acc _ _ h; exact ⟨h, fun x => by simp⟩
  | cons x l ih =>
   intro acc ho hs ha
   rw [List.foldl_cons]
   by_cases hx : acc.getLast? = some x
   ·have e : cpi acc x = acc := if_pos hx
    have hm : x ∈ acc := List.mem_of_getLast? hx
    rw [e]
    obtain ⟨h1, h2⟩ := ih acc (ho.sub fun y hy => by rcases List.mem_append.1 hy with h | h; exact List.mem_append_left _ h; exact List.mem_append_right _ (List.mem_cons_of_mem _ h))
     (hs.sublist (List.Sublist.append_left (List.sublist_cons_self _ _) _)) ha
    refine ⟨h1, fun y => (h2 y).trans ⟨fun h => ?_, fun h => ?_⟩⟩
    ·rcases h with h | h; exact .inl h; exact .inr (List.mem_cons_of_mem _ h)
    ·rcases h with h | h
     ·exact .inl h
     ·rcases List.mem_cons.1 h with e | h
      ·subst e; exact .inl hm
      ·exact .inr h
   ·have e : cpi acc x = acc ++ [x] := if_neg hx
    rw [e]
    have hs2 : ((acc ++ [x]) ++ l).Pairwise (fun x y => ¬ ltK y x) := by rw [List.append_assoc]; exact hs
    have hp : (acc ++ [x]).Pairwise ltK := by
     refine List.pairwise_append.2 ⟨ha, List.pairwise_singleton .., fun y hy z hz => ?_⟩
     simp only [List.mem_singleton] at hz; subst hz
     have h3 := (List.pairwise_append.1 hs).2.2 y hy z (List.mem_cons_self ..)
     have hne : y.id = z.id → False := by
      intro hid
      have hyz : y = z := ho y (List.mem_append_left _ hy) z (List.mem_append_right _ (List.mem_cons_self ..)) hid
      subst hyz
      obtain ⟨w, hw⟩ : ∃ w, acc.getLast? = some w := by
       cases h : acc.getLast? with
       | none => rw [List.getLast?_eq_none_iff] at h; subst h; cases hy
       | some w => exact ⟨w, rfl⟩
      have hwm : w ∈ acc := List.mem_of_getLast? hw
      have hwx := (List.pairwise_append.1 hs).2.2 w hwm y (List.mem_cons_self ..)
      obtain ⟨L, hL⟩ := List.getLast?_eq_some_iff.1 hw
      rw [hL] at hy ha
      rcases List.mem_append.1 hy with h | h
      ·exact hwx ((List.pairwise_append.1 ha).2.2 y h w (by simp))
      ·simp only [List.mem_singleton] at h; subst h; exact hx hw
     have hne' : y.id ≠ z.id := hne
     show ltK y z
     unfold ltK at h3 ⊢
     omega
    obtain ⟨h1, h2⟩ := ih (acc ++ [x]) (ho.sub fun y hy => by rw [List.append_assoc] at hy; exact hy) hs2 hp
    exact ⟨h1, fun y => (h2 y).trans (by simp [or_assoc])⟩
 obtain ⟨h1, h2⟩ := key l [] (by simpa using ho) (by simpa using hs) List.Pairwise.nil
 exact ⟨h1, fun x => (h2 x).trans (by simp)⟩
theorem srt_sorted {l : List Itm} (ho : One l) : (srt l).Pairwise ltK ∧ ∀ x, x ∈ srt l ↔ x ∈ l := by
 obtain ⟨h1, h2⟩ := sortI_spec l
 obtain ⟨h3, h4⟩ := cp_sorted (ho.sub fun x hx => h1.mem_iff.1 hx) h2
 exact ⟨h3, fun x => (h4 x).trans h1.mem_iff⟩
theorem srt_unique {l l' : List Itm} (ho : One l) (h : l'.Pairwise ltK) (hm : ∀ x, x ∈ l' ↔ x ∈ l) : srt l = l' := by
 obtain ⟨h3, h4⟩ := srt_sorted ho
 exact uniq_of ltK_as h3 h fun x => (h4 x).trans (hm x).symm
theorem known_filter {known : Int} : ∀ {l : List Itm}, l.Pairwise ltK → knownOn known l = l.filter fun x => decide (x.known ≤ known)
 | [], _ => rfl
 | x :: l, h => by
  have a := List.pairwise_cons.1 h
  by_cases hx : x.known ≤ known
  ·unfold knownOn
   rw [List.takeWhile_cons_of_pos (by simpa using hx), List.filter_cons_of_pos (by simpa using hx)]
   congr 1
   exact known_filter a.2
  ·unfold knownOn
   rw [List.takeWhile_cons_of_neg (by simpa using hx), List.filter_cons_of_neg (by simpa using hx)]
   symm
   rw [List.filter_eq_nil_iff]
   intro y hy
   have := a.1 y hy
   unfold ltK at this
   simp only [decide_eq_true_eq]; omega
def insR (l : List Itm) (x : Itm) : List Itm := match l with
 | [] => [x]
 | y :: t => if ltK y x then y :: insR t x else if y = x then y :: t else x :: y :: t
theorem insR_sorted : ∀ {l : List Itm} {x : Itm}, l.Pairwise ltK → One (x :: l) → (insR l x).Pairwise ltK ∧ ∀ z, z ∈ insR l x ↔ z = x ∨ z ∈ l
 | [], x, _, _ => ⟨List.pairwise_singleton .., fun z => by simp [insR]⟩
 | y :: t, x, h, ho => by
  have a := List.pairwise_cons.1 h
  unfold insR
  by_cases h1 : ltK y x
  ·rw [if_pos h1]
   obtain ⟨b1, b2⟩ := insR_sorted (x := x) a.2 (ho.sub fun z hz => by rcases List.mem_cons.1 hz with e | hz; exact e ▸ List.mem_cons_self ..; exact List.mem_cons_of_mem _ (List.mem_cons_of_mem _ hz))
   refine ⟨List.pairwise_cons.2 ⟨fun z hz => ?_, b1⟩, fun z => ?_⟩
   ·rcases (b2 z).1 hz with e | hz
    ·subst e; exact h1
    ·exact a.1 z hz
   ·simp only [List.mem_cons, b2]
    constructor
    ·rintro (h | h | h); exact .inr (.inl h); exact .inl h; exact .inr (.inr h)
    ·rintro (h | h | h); exact .inr (.inl h); exact .inl h; exact .inr (.inr h)
  ·rw [if_neg h1]
   by_cases h2 : y = x
   ·rw [if_pos h2]; subst h2
    exact ⟨h, fun z => by simp⟩
   ·rw [if_neg h2]
    have hid : y.id ≠ x.id := fun e => h2 (ho y (by simp) x (by simp) e)
    have hxy : ltK x y := by unfold ltK at *; omega
    refine ⟨List.pairwise_cons.2 ⟨fun z hz => ?_, h⟩, fun z => by simp⟩
    rcases List.mem_cons.1 hz with e | hz
    ·subst e; exact hxy
    ·exact ltK_tr hxy (a.1 z hz)
def sortedR (l : List Itm) : List Itm := l.foldl insR []
theorem sortedR_eq {l : List Itm} (ho : One l) : sortedR l = srt l := by
 have key : ∀ (l acc : List Itm), acc.Pairwise ltK → One (acc ++ l) → (l.foldl insR acc).Pairwise ltK ∧ ∀ z, z ∈ l.foldl insR acc ↔ z ∈ acc ∨ z ∈ l := by
  intro l
  induction l with
  | nil => intro acc h _; exact ⟨h, fun z => by simp⟩
  | cons x l ih =>
   intro acc h ho
   rw [List.foldl_cons]
   obtain ⟨a, b⟩ := insR_sorted (x := x) h (ho.sub fun z hz => by rcases List.mem_cons.1 hz with e | hz; exact e ▸ List.mem_append_right _ (List.mem_cons_self ..); exact List.mem_append_left _ hz)
   obtain ⟨c, d⟩ := ih (insR acc x) a (ho.sub fun z hz => by
    rcases List.mem_append.1 hz with hz | hz
    ·rcases (b z).1 hz with e | hz
     ·subst e; exact List.mem_append_right _ (List.mem_cons_self ..)
     ·exact List.mem_append_left _ hz
    ·exact List.mem_append_right _ (List.mem_cons_of_mem _ hz))
   refine ⟨c, fun z => (d z).trans ?_⟩
   rw [b, List.mem_cons]
   constructor
   ·rintro ((h | h) | h); exact .inr (.inl h); exact .inl h; exact .inr (.inr h)
   ·rintro (h | h | h); exact .inl (.inr h); exact .inl (.inl h); exact .inr h
 obtain ⟨h1, h2⟩ := key l [] List.Pairwise.nil (by simpa using ho)
 exact (srt_unique ho h1 fun x => (h2 x).trans (by simp)).symm
end K
end Go.Proofs.YtelpdkojdfnmiaaGreat
/-! LP1 -/
namespace Go.Proofs.YtelpdkojdfnmiaaGreat
open Ev K
set_option maxRecDepth 100000
namespace K
@[ext] structure RB where (number day account : Int) (l : List Chg)
 deriving DecidableEq, Inhabited
@[ext] structure RBk where
 closed : Int
 p : List Pst
 refused : List Int
 bills : List RB
 paid : List Bal
 bonds : List Bal
 stands : List Itm
 deriving DecidableEq, Inhabited
def heldB (l : List Bal) (a : Int) : Int := match l.find? fun b => b.account == a with
 | some b => b.amount
 | none => 0
def moreB (l : List Bal) (a m : Int) : List Bal := match l with
 | [] => [⟨a, m⟩]
 | b :: t => if b.account < a then b :: moreB t a m else if b.account = a then ⟨a, b.amount + m⟩ :: t else ⟨a, m⟩ :: b :: t
def addL (l : List Int) (n : Int) : List Int := match l with
 | [] => [n]
 | b :: t => if b < n then b :: addL t n else n :: b :: t
def billR (l : List RB) (n : Int) : Option Nat := l.findIdx? fun b => b.number == n
def badR (b : RBk) (x : Itm) : Bool :=
 if x.kind = 7 then decide (x.day ≤ b.closed) else
 decide (b.closed + 1 > 728) || (decide (x.kind = 1) && (billR b.bills x.bill).isSome) || (decide (x.kind = 2) && !(billR b.bills x.bill).isSome) ||
  (decide (x.kind = 4) && decide (heldB b.paid x.account < x.amount)) || (decide (x.kind = 6) && decide (heldB b.bonds x.account < x.amount))
def twoR (b : RBk) (x : Itm) (day a c m : Int) : RBk := { b with p := b.p ++ [⟨x.id, max day (b.closed + 1), a, m⟩, ⟨x.id, max day (b.closed + 1), c, 0 - m⟩] }
def lastA (l : List Chg) : Int := (l.getLastD default).amount
def doneR (b : RBk) (x : Itm) : RBk :=
 if badR b x then { b with refused := addL b.refused x.id } else
 let b := { b with stands := b.stands ++ [x] }
 if x.kind = 1 then twoR { b with bills := b.bills ++ [⟨x.bill, x.day, x.account, [⟨x.known, x.amount⟩]⟩] } x x.day x.account 2 x.amount
 else if x.kind = 2 then (match billR b.bills x.bill with
  | some q => twoR { b with bills := b.bills.set q { b.bills.getD q default with l := (b.bills.getD q default).l ++ [⟨x.known, x.amount⟩] } } x (b.bills.getD q default).day (b.bills.getD q default).account 2 (x.amount - lastA (b.bills.getD q default).l)
  | none => b)
 else if x.kind = 3 then twoR { b with paid := moreB b.paid x.account x.amount } x x.day 1 x.account x.amount
 else if x.kind = 4 then twoR { b with paid := moreB b.paid x.account (0 - x.amount) } x x.day x.account 1 x.amount
 else if x.kind = 5 then twoR { b with bonds := moreB b.bonds x.account x.amount } x x.day 1 3 x.amount
 else if x.kind = 6 then twoR { b with bonds := moreB b.bonds x.account (0 - x.amount) } x x.day 3 1 x.amount
 else { b with closed := x.day }
def rb0 : RBk := ⟨-1, [], [], [], [], [], []⟩
def keepR (l : List Itm) (known : Int) : RBk := ((srt l).filter fun x => decide (x.known ≤ known)).foldl doneR rb0
structure Mp (m : List (Int × Int)) (l : List Bal) : Prop where
 keys : (m.map (·.1)).Nodup
 sorted : l.Pairwise fun x y => x.account < y.account
 mem : ∀ b, b ∈ l ↔ (b.account, b.amount) ∈ m
theorem Mp.nil : Mp [] [] := ⟨List.nodup_nil, List.Pairwise.nil, fun b => by simp⟩
theorem keys_uniq {m : List (Int × Int)} (h : (m.map (·.1)).Nodup) {a v w : Int} (h1 : (a, v) ∈ m) (h2 : (a, w) ∈ m) : v = w := by
 obtain ⟨i, hi, e1⟩ := List.getElem_of_mem h1
 obtain ⟨j, hj, e2⟩ := List.getElem_of_mem h2
 have := (List.getElem_inj (h₀ := by simpa using hi) (h₁ := by simpa using hj) h).1 (by simp [e1, e2])
 subst this; rw [e1] at e2; injection e2
theorem lookM_mem {m : List (Int × Int)} (h : (m.map (·.1)).Nodup) {a v : Int} (h1 : (a, v) ∈ m) : lookM m a = v := by
 unfold lookM
 cases hf : fM m a with
 | none =>
  unfold fM at hf
  rw [List.findIdx?_eq_none_iff] at hf
  have := hf _ h1
  simp at this
 | some i =>
  have hi := fM_some hf
  unfold fM at hf
  rw [List.findIdx?_eq_some_iff_getElem] at hf
  have hk : m[i].1 = a := (beq_iff_eq.1 hf.2.1).symm
  simp only
  rw [List.getD_eq_getElem?_getD, List.getElem?_eq_getElem hi]
  refine keys_uniq h (a := a) ?_ h1
  have : m[i] = (a, m[i].2) := by rw [← hk]
  simp only [Option.getD_some]
  rw [← this]; exact List.getElem_mem hi
theorem lookM_none {m : List (Int × Int)} {a : Int} (h : ∀ v, (a, v) ∉ m) : lookM m a = 0 := by
 unfold lookM
 cases hf : fM m a with
 | none => rfl
 | some i =>
  have hi := fM_some hf
  unfold fM at hf
  rw [List.findIdx?_eq_some_iff_getElem] at hf
  have hk : m[i].1 = a := (beq_iff_eq.1 hf.2.1).symm
  exfalso
  exact h m[i].2 (by rw [← hk]; exact List.getElem_mem hi)
theorem Mp.held {m : List (Int × Int)} {l : List Bal} (h : Mp m l) (a : Int) : heldB l a = lookM m a := by
 unfold heldB
 cases hf : l.find? fun b => b.account == a with
 | none =>
  rw [List.find?_eq_none] at hf
  refine (lookM_none fun v hv => ?_).symm
  have := hf ⟨a, v⟩ ((h.mem _).2 hv)
  simp at this
 | some b =>
  have hb := List.mem_of_find?_eq_some hf
  have he := List.find?_some hf
  simp only [beq_iff_eq] at he
  subst he
  exact (lookM_mem h.keys ((h.mem b).1 hb)).symm
theorem put_mem {m : List (Int × Int)} (h : (m.map (·.1)).Nodup) (n v : Int) (p : Int × Int) : p ∈ putM m n v ↔ p = (n, v) ∨ (p ∈ m ∧ p.1 ≠ n) := by
 unfold putM
 cases hf : fM m n with
 | none =>
  unfold fM at hf
  rw [List.findIdx?_eq_none_iff] at hf
  simp only [List.mem_append, List.mem_singleton]
  constructor
  ·rintro (h1 | h1)
   ·have := hf p h1
    exact .inr ⟨h1, fun e => by simp [e] at this⟩
   ·exact .inl h1
  ·rintro (h1 | h1)
   ·exact .inr h1
   ·exact .inl h1.1
 | some i =>
  have hi := fM_some hf
  unfold fM at hf
  rw [List.findIdx?_eq_some_iff_getElem] at hf
  have hk : m[i].1 = n := (beq_iff_eq.1 hf.2.1).symm
  simp only
  constructor
  ·intro hp
   obtain ⟨j, hj, e⟩ := List.getElem_of_mem hp
   rw [List.length_set] at hj
   rw [List.getElem_set] at e
   split at e
   ·exact .inl e.symm
   ·rename_i hne
    refine .inr ⟨e ▸ List.getElem_mem hj, fun e2 => hne ?_⟩
    exact (List.getElem_inj (h₀ := by simpa using hi) (h₁ := by simpa using hj) h).1 (by simp [hk, e, e2])
  ·rintro (e | ⟨hp, hne⟩)
   ·subst e; exact List.mem_set hi _
   ·obtain ⟨j, hj, e⟩ := List.getElem_of_mem hp
    have hij : i ≠ j := fun e2 => by subst e2; exact hne (by rw [← e]; exact hk)
    have : (m.set i (n, v))[j]'(by simpa using hj) = p := by rw [List.getElem_set_ne hij]; exact e
    rw [← this]; exact List.getElem_mem _
theorem moreB_mem : ∀ {l : List Bal} {a m : Int}, l.Pairwise (fun x y => x.account < y.account) → (moreB l a m).Pairwise (fun x y => x.account < y.account) ∧ ∀ b, b ∈ moreB l a m ↔ b = ⟨a, heldB l a + m⟩ ∨ (b ∈ l ∧ b.account ≠ a)
 | [], a, m, _ => ⟨List.pairwise_singleton .., fun b => by simp [moreB, heldB]⟩
 | c :: t, a, m, h => by
  have hh := List.pairwise_cons.1 h
  unfold moreB
  by_cases h1 : c.account < a
  ·rw [if_pos h1]
   obtain ⟨b1, b2⟩ := moreB_mem (a := a) (m := m) hh.2
   have he : heldB (c :: t) a = heldB t a := by
    unfold heldB; rw [List.find?_cons_of_neg (by simp; omega)]
   refine ⟨List.pairwise_cons.2 ⟨fun z hz => ?_, b1⟩, fun b => ?_⟩
   ·rcases (b2 z).1 hz with e | hz
    ·subst e; exact h1
    ·exact hh.1 z hz.1
   ·rw [he, List.mem_cons, b2, List.mem_cons]
    constructor
    ·rintro (e | e | e)
     ·subst e; exact .inr ⟨.inl rfl, by omega⟩
     ·exact .inl e
     ·exact .inr ⟨.inr e.1, e.2⟩
    ·rintro (e | ⟨e | e, h2⟩)
     ·exact .inr (.inl e)
     ·exact .inl e
     ·exact .inr (.inr ⟨e, h2⟩)
  ·rw [if_neg h1]
   by_cases h2 : c.account = a
   ·rw [if_pos h2]
    have he : heldB (c :: t) a = c.amount := by
     unfold heldB; rw [List.find?_cons_of_pos (by simpa using h2)]
    refine ⟨List.pairwise_cons.2 ⟨fun z hz => by have := hh.1 z hz; show a < _; omega, hh.2⟩, fun b => ?_⟩
    rw [he, List.mem_cons, List.mem_cons]
    constructor
    ·rintro (e | e)
     ·exact .inl e
     ·exact .inr ⟨.inr e, by have := hh.1 b e; omega⟩
    ·rintro (e | ⟨e | e, h3⟩)
     ·exact .inl e
     ·subst e; exact absurd h2 h3
     ·exact .inr e
   ·rw [if_neg h2]
    have he : heldB (c :: t) a = 0 := by
     unfold heldB
     rw [List.find?_eq_none.2]
     intro b hb
     rcases List.mem_cons.1 hb with e | hb
     ·subst e; simpa using h2
     ·have := hh.1 b hb; simp; omega
    refine ⟨List.pairwise_cons.2 ⟨fun z hz => ?_, h⟩, fun b => ?_⟩
    ·rcases List.mem_cons.1 hz with e | hz
     ·subst e; show a < _; omega
     ·have := hh.1 z hz; show a < _; omega
    ·rw [he, Int.zero_add, List.mem_cons]
     constructor
     ·rintro (e | e)
      ·exact .inl e
      ·refine .inr ⟨e, ?_⟩
       rcases List.mem_cons.1 e with e | e
       ·subst e; exact h2
       ·have := hh.1 b e; omega
     ·rintro (e | e)
      ·exact .inl e
      ·exact .inr e.1
theorem Mp.more {m : List (Int × Int)} {l : List Bal} (h : Mp m l) (a v w : Int) (hw : w = lookM m a + v) : Mp (putM m a w) (moreB l a v) := by
 subst hw
 obtain ⟨h1, h2⟩ := moreB_mem (a := a) (m := v) h.sorted
 refine ⟨nodup_put h.keys, h1, fun b => ?_⟩
 rw [h2, put_mem h.keys, h.held, h.mem]
 constructor
 ·rintro (e | e)
  ·subst e; exact .inl rfl
  ·exact .inr e
 ·rintro (e | e)
  ·injection e with e1 e2; exact .inl (Bal.ext e1 e2)
  ·exact .inr e
theorem Mp.list {m : List (Int × Int)} {l : List Bal} (h : Mp m l) : listB m = l := by
 obtain ⟨h1, h2⟩ := sortB_spec (m.map balOf)
 have hk : (listB m).Pairwise fun x y => x.account < y.account := by
  have hn : ((listB m).map (·.account)).Nodup := by
   refine (h1.map _).nodup_iff.2 ?_
   rw [List.map_map]; exact h.keys
  have := (List.pairwise_map.1 hn).and h2
  exact this.imp fun ⟨a, b⟩ => by omega
 refine uniq_of (R := fun x y : Bal => x.account < y.account) (fun a b h1 h2 => by omega) hk h.sorted fun b => ?_
 rw [h.mem]
 refine h1.mem_iff.trans ?_
 rw [List.mem_map]
 constructor
 ·rintro ⟨p, hp, rfl⟩; exact hp
 ·intro hp; exact ⟨_, hp, rfl⟩
theorem addL_spec : ∀ {l : List Int} {n : Int}, l.Pairwise (· ≤ ·) → (addL l n).Pairwise (· ≤ ·) ∧ (addL l n).Perm (l ++ [n])
 | [], n, _ => ⟨List.pairwise_singleton .., List.Perm.refl _⟩
 | b :: t, n, h => by
  have hh := List.pairwise_cons.1 h
  unfold addL
  by_cases h1 : b < n
  ·rw [if_pos h1]
   obtain ⟨a1, a2⟩ := addL_spec (n := n) hh.2
   refine ⟨List.pairwise_cons.2 ⟨fun z hz => ?_, a1⟩, a2.cons b⟩
   rcases List.mem_append.1 (a2.mem_iff.1 hz) with hz | hz
   ·exact hh.1 z hz
   ·simp only [List.mem_singleton] at hz; omega
  ·rw [if_neg h1]
   refine ⟨List.pairwise_cons.2 ⟨fun z hz => ?_, h⟩, List.perm_append_comm (l₁ := [n])⟩
   rcases List.mem_cons.1 hz with e | hz
   ·omega
   ·have := hh.1 z hz; omega
def rbOf (b : Std × List Chg) : RB := ⟨b.1.no, b.1.item.day, b.1.item.account, b.2⟩
structure Rel (k : Bk) (b : RBk) : Prop where
 closed : b.closed = k.closed
 p : b.p = k.posts
 refused : b.refused.Pairwise (· ≤ ·) ∧ b.refused.Perm k.refused
 bills : b.bills = k.bills.map rbOf
 last : ∀ s ∈ k.bills, lastA s.2 = s.1.amount ∧ (0 ≤ s.1.item.day ∧ s.1.item.day ≤ 728)
 paid : Mp k.paid b.paid
 bonds : Mp k.bonds b.bonds
 stands : b.stands = k.taken
 low : -1 ≤ k.closed
theorem Rel.zero : Rel bk0 rb0 := ⟨rfl, rfl, ⟨List.Pairwise.nil, List.Perm.refl _⟩, rfl, (fun s h => by cases h), Mp.nil, Mp.nil, rfl, by decide⟩
theorem Rel.refuse {k : Bk} {b : RBk} (h : Rel k b) (x : Itm) : Rel (refuse k x) { b with refused := addL b.refused x.id } := by
 obtain ⟨a1, a2⟩ := addL_spec (n := x.id) h.refused.1
 exact ⟨h.closed, h.p, ⟨a1, a2.trans (h.refused.2.append_right _)⟩, h.bills, h.last, h.paid, h.bonds, h.stands, h.low⟩
theorem billR_eq {k : Bk} {b : RBk} (h : Rel k b) (n : Int) : billR b.bills n = fb k n := by
 unfold billR fb
 rw [h.bills, List.findIdx?_map]
 congr 1
 funext s
 show (s.1.no == n) = (n == s.1.no)
 exact Bool.beq_comm
theorem max_on (k : Bk) (b : RBk) (h : Rel k b) (d : Int) : max d (b.closed + 1) = onDay k d := by
 unfold onDay; rw [h.closed]; omega
theorem Rel.done {k : Bk} {b : RBk} (h : Rel k b) {x : Itm} (hx : x.Fm) : Rel (doItem k x) (doneR b x) := by
 have hm := max_on k b h
 have hl := h.low
 have hd := hx.2.2.1
 have hk := hx.2.2.2.2
 have hP : ∀ d, (onDay k d > 728 ↔ (k.closed + 1 > 728 ∨ d > 728)) := fun d => by unfold onDay; split <;> omega
 have hneg : ∀ m : Int, 0 - m = -m := fun m => by omega
 unfold doItem doneR
 by_cases k1 : x.kind = 1
 ·rw [if_pos k1]
  have hbad : badR b x = (decide (k.closed + 1 > 728) || (fb k x.bill).isSome) := by
   unfold badR; rw [if_neg (by omega), h.closed, billR_eq h]; simp [k1]
  unfold doBill
  cases hf : fb k x.bill with
  | some q =>
   show Rel (K.refuse k x) _
   rw [if_pos (by rw [hbad, hf]; simp)]; exact h.refuse x
  | none =>
   simp only
   by_cases h7 : onDay k x.day > 728
   ·rw [if_pos h7, if_pos (by rw [hbad, hf]; have := (hP x.day).1 h7; simp; omega)]; exact h.refuse x
   ·rw [if_neg h7, if_neg (by rw [hbad, hf]; have := mt (hP x.day).2 h7; simp; omega)]
    simp only [k1, if_true]
    refine ⟨h.closed, ?_, h.refused, ?_, fun s hs => ?_, h.paid, h.bonds, ?_, hl⟩
    ·simp only [twoR, stand, hm, h.p, hneg]
    ·simp only [twoR, h.bills, List.map_append]; rfl
    ·rcases List.mem_append.1 hs with hs | hs
     ·exact h.last s hs
     ·simp only [List.mem_singleton] at hs; subst hs; exact ⟨rfl, hd⟩
    ·simp only [twoR, stand, h.stands]
 rw [if_neg k1]
 by_cases k2 : x.kind = 2
 ·rw [if_pos k2]
  have hbad : badR b x = (decide (k.closed + 1 > 728) || !(fb k x.bill).isSome) := by
   unfold badR; rw [if_neg (by omega), h.closed, billR_eq h]; simp [k2]
  unfold doMend
  cases hf : fb k x.bill with
  | none =>
   show Rel (K.refuse k x) _
   rw [if_pos (by rw [hbad, hf]; simp)]; exact h.refuse x
  | some q =>
   have hq := fb_some hf
   have hg : k.bills.getD q default = k.bills[q] := by rw [List.getD_eq_getElem?_getD, List.getElem?_eq_getElem hq]; rfl
   have hmem := List.getElem_mem hq
   have hg2 : b.bills.getD q default = rbOf k.bills[q] := by rw [List.getD_eq_getElem?_getD, h.bills, List.getElem?_map, List.getElem?_eq_getElem hq]; rfl
   simp only [hg]
   generalize k.bills[q] = s at hmem hg2
   obtain ⟨e1, e2⟩ := h.last s hmem
   by_cases h7 : onDay k s.1.item.day > 728
   ·rw [if_pos h7, if_pos (by rw [hbad, hf]; have := (hP s.1.item.day).1 h7; simp; omega)]; exact h.refuse x
   ·rw [if_neg h7, if_neg (by rw [hbad, hf]; have := mt (hP s.1.item.day).2 h7; simp; omega), if_neg k1, if_pos k2]
    have e3 : billR b.bills x.bill = some q := (billR_eq h x.bill).trans hf
    simp only [e3, hg2]
    refine ⟨h.closed, ?_, h.refused, ?_, fun s' hs => ?_, h.paid, h.bonds, ?_, hl⟩
    ·simp only [twoR, stand, hm, h.p, hneg, rbOf, e1]
    ·simp only [twoR, h.bills, List.map_set]; rfl
    ·rcases List.mem_or_eq_of_mem_set hs with hs | hs
     ·exact h.last s' hs
     ·subst hs; exact ⟨by simp [lastA], e2⟩
    ·simp only [twoR, stand, h.stands]
 rw [if_neg k2]
 by_cases k3 : x.kind = 3
 ·rw [if_pos k3]
  have hbad : badR b x = decide (k.closed + 1 > 728) := by
   unfold badR; rw [if_neg (by omega), h.closed]; simp [k3]
  unfold doPay
  by_cases h7 : onDay k x.day > 728
  ·rw [if_pos h7, if_pos (by rw [hbad]; have := (hP x.day).1 h7; simp; omega)]; exact h.refuse x
  ·rw [if_neg h7, if_neg (by rw [hbad]; have := mt (hP x.day).2 h7; simp; omega), if_neg k1, if_neg k2, if_pos k3]
   refine ⟨h.closed, ?_, h.refused, h.bills, h.last, h.paid.more _ _ _ rfl, h.bonds, ?_, hl⟩
   ·simp only [twoR, stand, hm, h.p, hneg]
   ·simp only [twoR, stand, h.stands]
 rw [if_neg k3]
 by_cases k4 : x.kind = 4
 ·rw [if_pos k4]
  have hbad : badR b x = (decide (k.closed + 1 > 728) || decide (lookM k.paid x.account < x.amount)) := by
   unfold badR; rw [if_neg (by omega), h.closed, h.paid.held]; simp [k4]
  unfold doRefund
  by_cases h6 : lookM k.paid x.account < x.amount
  ·rw [if_pos h6, if_pos (by rw [hbad]; simp [h6])]; exact h.refuse x
  rw [if_neg h6]
  by_cases h7 : onDay k x.day > 728
  ·rw [if_pos h7, if_pos (by rw [hbad]; have := (hP x.day).1 h7; simp; omega)]; exact h.refuse x
  ·rw [if_neg h7, if_neg (by rw [hbad]; have := mt (hP x.day).2 h7; simp; omega), if_neg k1, if_neg k2, if_neg k3, if_pos k4]
   refine ⟨h.closed, ?_, h.refused, h.bills, h.last, h.paid.more _ _ _ (by omega), h.bonds, ?_, hl⟩
   ·simp only [twoR, stand, hm, h.p, hneg]
   ·simp only [twoR, stand, h.stands]
 rw [if_neg k4]
 by_cases k5 : x.kind = 5
 ·rw [if_pos k5]
  have hbad : badR b x = decide (k.closed + 1 > 728) := by
   unfold badR; rw [if_neg (by omega), h.closed]; simp [k5]
  unfold doBond
  by_cases h7 : onDay k x.day > 728
  ·rw [if_pos h7, if_pos (by rw [hbad]; have := (hP x.day).1 h7; simp; omega)]; exact h.refuse x
  ·rw [if_neg h7, if_neg (by rw [hbad]; have := mt (hP x.day).2 h7; simp; omega), if_neg k1, if_neg k2, if_neg k3, if_neg k4, if_pos k5]
   refine ⟨h.closed, ?_, h.refused, h.bills, h.last, h.paid, h.bonds.more _ _ _ rfl, ?_, hl⟩
   ·simp only [twoR, stand, hm, h.p, hneg]
   ·simp only [twoR, stand, h.stands]
 rw [if_neg k5]
 by_cases k6 : x.kind = 6
 ·rw [if_pos k6]
  have hbad : badR b x = (decide (k.closed + 1 > 728) || decide (lookM k.bonds x.account < x.amount)) := by
   unfold badR; rw [if_neg (by omega), h.closed, h.bonds.held]; simp [k6]
  unfold doFree
  by_cases h6 : lookM k.bonds x.account < x.amount
  ·rw [if_pos h6, if_pos (by rw [hbad]; simp [h6])]; exact h.refuse x
  rw [if_neg h6]
  by_cases h7 : onDay k x.day > 728
  ·rw [if_pos h7, if_pos (by rw [hbad]; have := (hP x.day).1 h7; simp; omega)]; exact h.refuse x
  ·rw [if_neg h7, if_neg (by rw [hbad]; have := mt (hP x.day).2 h7; simp; omega), if_neg k1, if_neg k2, if_neg k3, if_neg k4, if_neg k5, if_pos k6]
   refine ⟨h.closed, ?_, h.refused, h.bills, h.last, h.paid, h.bonds.more _ _ _ (by omega), ?_, hl⟩
   ·simp only [twoR, stand, hm, h.p, hneg]
   ·simp only [twoR, stand, h.stands]
 rw [if_neg k6]
 have k7 : x.kind = 7 := by omega
 have hbad : badR b x = decide (x.day ≤ k.closed) := by
  unfold badR; rw [if_pos k7, h.closed]
 unfold doShut
 by_cases h7 : x.day ≤ k.closed
 ·rw [if_pos h7, if_pos (by rw [hbad]; simpa using h7)]; exact h.refuse x
 ·rw [if_neg h7, if_neg (by rw [hbad]; simpa using h7), if_neg k1, if_neg k2, if_neg k3, if_neg k4, if_neg k5, if_neg k6]
  exact ⟨rfl, h.p, h.refused, h.bills, h.last, h.paid, h.bonds, by simp [h.stands], by show -1 ≤ x.day; omega⟩
theorem rel_fold : ∀ (l : List Itm) (k : Bk) (b : RBk), (∀ x ∈ l, x.Fm) → Rel k b → Rel (l.foldl doItem k) (l.foldl doneR b)
 | [], _, _, _, h => h
 | x :: l, _, _, hf, h => rel_fold l _ _ (fun y hy => hf y (List.mem_cons_of_mem _ hy)) (h.done (hf x (List.mem_cons_self ..)))
theorem rel_keep {l : List Itm} (hf : ∀ x ∈ l, x.Fm) (ho : One l) (known : Int) : Rel (foldB (knownOn known (srt l))) (keepR l known) := by
 unfold keepR foldB
 rw [known_filter (srt_sorted ho).1]
 exact rel_fold _ _ _ (fun x hx => hf x (((srt_sorted ho).2 x).1 (List.mem_filter.1 hx).1)) Rel.zero
end K
end Go.Proofs.YtelpdkojdfnmiaaGreat
/-! LA0 -/
namespace Go.Proofs.YtelpdkojdfnmiaaGreat
open Ev K
set_option maxRecDepth 100000
def S_rc2 := DecS.mk0 (.cons (dRows rItem) (.skips 2 (.cons (dInt) (.skip (.last (dInt) 43))))) .nil
def X_rc2 := DecX.or (DecX.one (.exit 2) [0, 3] (DecS.mk0 (.cons (dRows rItem) (.skips 2 (.last (dInt) 45))) .nil)) (DecX.one .ret [2] (DecS.mk0 (.skips 2 (.last (dInt) 46)) .nil))
noncomputable def K.st_rc2 := loopT1 P BLQ02 30 56 81 [5, 3, 0] S_rc2 X_rc2
theorem sl_rc2 : ∀ s, (K.st_rc2) s = T.run (
 let q8 := (0 : Nat);
 let q1 := q8 + Int.toNat s.1.2.2;
 let q2 := q8 + Int.toNat s.1.2.1;
 let q7 := s.1.1;
 let q4 := List.length q7;
 let q3 := Sum.inl ((decF rItem q4 fun i => encF rItem q7 (q8 + i), s.1.2.1, IntKind.wrap IntKind.i64 (s.1.2.2 + (1 : Int))), PUnit.unit);
 let q5 := decide ((0 : Int) ≤ s.1.2.2 ∧ s.1.2.2 < (↑q4 : Int));
 let q6 := decide ((0 : Int) ≤ s.1.2.1 ∧ s.1.2.1 < (↑q4 : Int));
 .br (decide (s.1.2.2 < s.1.2.1)) (
  .chk q5 <|
  .chk q6 <|
  .br (numOf (encF rItem q7 q1 (nat_lit 0)) == numOf (encF rItem q7 q2 (nat_lit 0))) (
   .chk q5 <|
   .chk q6 <|
   .br (!(numOf (encF rItem q7 q1 q8) == numOf (encF rItem q7 q2 q8) && (numOf (encF rItem q7 q1 (nat_lit 1)) == numOf (encF rItem q7 q2 (nat_lit 1)) && (numOf (encF rItem q7 q1 (nat_lit 2)) == numOf (encF rItem q7 q2 (nat_lit 2)) && (numOf (encF rItem q7 q1 (nat_lit 3)) == numOf (encF rItem q7 q2 (nat_lit 3)) && (numOf (encF rItem q7 q1 (nat_lit 4)) == numOf (encF rItem q7 q2 (nat_lit 4)) && (numOf (encF rItem q7 q1 (nat_lit 5)) == numOf (encF rItem q7 q2 (nat_lit 5)) && numOf (encF rItem q7 q1 (nat_lit 6)) == numOf (encF rItem q7 q2 (nat_lit 6))))))))) (
    .ret (Sum.inr (Sum.inr ((6 : Int), PUnit.unit)))) (
    .ret q3)) (
   .ret q3)) (
  .ret (Sum.inr (Sum.inl ((decF rItem q4 fun i => encF rItem q7 (q8 + i), s.1.2.1), PUnit.unit))))) := fun s => by kernel_rfl
noncomputable def K.L_rc2 := lim K.st_rc2
noncomputable def BLA01 : Tab := BLQ02.addNode 56 81 (nodeE [5, 3, 0] S_rc2 X_rc2 (fun s => .obs (K.L_rc2 s) .ret))
theorem tLA01 : TabOk P BLA01 := TabOk.addLoop (d := 30) okP tLQ02 (by kernel_rfl) (by kernel_rfl) (fun s r h => obs_ret h)
def S_rc1 := DecS.mk0 (.cons (dRows rItem) (.skips 2 (.last (dInt) 45))) .nil
def X_rc1 := DecX.or (DecX.one (.exit 0) [] (DecS.mk0 (.tops 49) .nil)) (DecX.one .ret [2] (DecS.mk0 (.skips 2 (.last (dInt) 46)) .nil))
noncomputable def K.st_rc1 := loopT1 P BLA01 30 56 33 [3, 0] S_rc1 X_rc1
theorem sl_rc1 : ∀ s, (K.st_rc1) s = T.run (
 let q1 := (0 : Nat) + Int.toNat s.1.2;
 let q2 := List.length s.1.1;
 .br (decide (s.1.2 < (↑(clampL q2) : Int))) (
  .chk (decide ((0 : Int) ≤ s.1.2 ∧ s.1.2 < (↑q2 : Int))) <|
  .br (!r_formed (Itm.mk (numOf (encF rItem s.1.1 q1 (0 : Nat))) (numOf (encF rItem s.1.1 q1 (nat_lit 1))) (numOf (encF rItem s.1.1 q1 (nat_lit 2))) (numOf (encF rItem s.1.1 q1 (nat_lit 3))) (numOf (encF rItem s.1.1 q1 (nat_lit 4))) (numOf (encF rItem s.1.1 q1 (nat_lit 5))) (numOf (encF rItem s.1.1 q1 (nat_lit 6))))) (
   .ret (Sum.inr (Sum.inr ((1 : Int), PUnit.unit)))) (
   .obs (L_rc2 ((decF rItem q2 fun i => encF rItem s.1.1 ((0 : Nat) + i), s.1.2, (0 : Int)), PUnit.unit)) fun x0 =>
    .sum (x0) (fun x1 =>
     .ret (Sum.inl ((decF rItem (List.length x1.1.1) fun i => encF rItem x1.1.1 ((0 : Nat) + i), IntKind.wrap IntKind.i64 (x1.1.2 + (1 : Int))), PUnit.unit))) (fun x1 =>
     .ret (Sum.inr (Sum.inr (x1.1, PUnit.unit)))))) (
  .ret (Sum.inr (Sum.inl (PUnit.unit, PUnit.unit))))) := fun s => by kernel_rfl
noncomputable def K.L_rc1 := lim K.st_rc1
noncomputable def BLA02 : Tab := BLA01.addNode 56 33 (nodeE [3, 0] S_rc1 X_rc1 (fun s => .obs (K.L_rc1 s) .ret))
theorem tLA02 : TabOk P BLA02 := TabOk.addLoop (d := 30) okP tLA01 (by kernel_rfl) (by kernel_rfl) (fun s r h => obs_ret h)
theorem fn_rcheck : ∀ a, (callT1 P BLA02 30 56 D_l dInt) a = T.run (
 .br (decide ((↑(clampL (List.length a)) : Int) > (60 : Int))) (
  .ret ((2 : Int))) (
  .obs (L_rc1 ((decF rItem (List.length a) fun i => encF rItem a ((0 : Nat) + i), (0 : Int)), PUnit.unit)) fun x0 =>
   .sum (x0) (fun _ =>
    .ret ((0 : Int))) (fun x1 =>
    .ret x1.1))) := fun a => by kernel_rfl
namespace K
theorem L_rc2_eq (l : List Itm) (hl : l.length ≤ 1000) (i : Nat) (x : Itm) (hx : l[i]? = some x) : L_rc2 ((l, (i : Int), 0), ()) = some (if (l.take i).any (fun y => decide (y.id = x.id ∧ y ≠ x)) then .inr (6, ()) else .inl ((l, (i : Int)), ())) := by
 obtain ⟨hi, _⟩ := List.getElem?_eq_some_iff.1 hx
 rw [any_first]
 have hlen : (l.take i).length = i := by rw [List.length_take]; omega
 rw [hlen]
 have get : ∀ j, j < i → (l.take i)[j]? = l[j]? := fun j hj => List.getElem?_take_of_lt hj
 refine (lim_find (fun j : Nat => ((l, (i : Int), (j : Int)), ())) i (pIx (l.take i) x) (fun _ => .inr (6, ())) (.inl ((l, (i : Int)), ())) (fun j hj hp => ?_) (fun j hj hp => ?_) ?_).trans ?_
 ·rw [sl_rc2]
  have hy := List.getElem?_eq_getElem (show j < l.length by omega)
  unfold pIx at hp; rw [get j hj, hy] at hp
  generalize l[j] = y at hy hp
  simp only [decide_eq_true_eq] at hp
  simp only [Int.toNat_natCast, Nat.zero_add, item_at hy, item_at hx, wr0, wr1, wr2, wr3, wr4, wr5, wr6, decF_encF]
  refine br_t (decide_eq_true (by omega)) (chk_step (decide_eq_true (by omega)) (chk_step (decide_eq_true (by omega)) (br_t (beq_iff_eq.2 hp.1) (chk_step (decide_eq_true (by omega)) (chk_step (decide_eq_true (by omega)) (br_t ?_ rfl))))))
  rw [Bool.not_eq_true', ← Bool.not_eq_true]; exact fun h => hp.2 ((sameI_iff y x).1 h)
 ·rw [sl_rc2]
  have hy := List.getElem?_eq_getElem (show j < l.length by omega)
  unfold pIx at hp; rw [get j hj, hy] at hp
  generalize l[j] = y at hy hp
  simp only [decide_eq_false_iff_not] at hp
  have w : IntKind.i64.wrap ((j : Int) + 1) = ((j + 1 : Nat) : Int) := by rw [w64_in (by omega) (by omega)]; rfl
  simp only [Int.toNat_natCast, Nat.zero_add, item_at hy, item_at hx, wr0, wr1, wr2, wr3, wr4, wr5, wr6, decF_encF, w]
  refine br_t (decide_eq_true (by omega)) (chk_step (decide_eq_true (by omega)) (chk_step (decide_eq_true (by omega)) ?_))
  by_cases he : y.id = x.id
  ·have hxy : y = x := Classical.byContradiction fun hne => hp ⟨he, hne⟩
   exact br_t (beq_iff_eq.2 he) (chk_step (decide_eq_true (by omega)) (chk_step (decide_eq_true (by omega)) (br_f (by rw [Bool.not_eq_false']; exact (sameI_iff y x).2 hxy) rfl)))
  ·exact br_f (by rw [beq_eq_false_iff_ne]; exact he) rfl
 ·rw [sl_rc2]
  simp only [Nat.zero_add, decF_encF]
  exact br_f (decide_eq_false (by omega)) rfl
 ·cases first (pIx (l.take i) x) i <;> rfl
theorem L_rc1_eq (l : List Itm) (hl : l.length ≤ 1000) : L_rc1 ((l, 0), ()) = some (match (List.range l.length).findSome? (errAt l) with
  | some e => .inr (e, ())
  | none => .inl ((), ())) := by
 refine (lim_err (fun i : Nat => ((l, (i : Int)), ())) l.length (errAt l) (fun e => .inr (e, ())) (.inl ((), ())) (fun i hi => ?_) ?_).trans ?_
 ·rw [sl_rc1]
  have hy := List.getElem?_eq_getElem hi
  unfold errAt; rw [hy]
  generalize l[i] = x at hy
  have hid : (⟨x.id, x.known, x.kind, x.day, x.bill, x.account, x.amount⟩ : Itm) = x := rfl
  have w : IntKind.i64.wrap ((i : Int) + 1) = ((i + 1 : Nat) : Int) := by rw [w64_in (by omega) (by omega)]; rfl
  simp only [Int.toNat_natCast, Nat.zero_add, item_at hy, wr0, wr1, wr2, wr3, wr4, wr5, wr6, decF_encF, hid, clampL_eq (show l.length ≤ maxL by unfold maxL; omega)]
  refine br_t (decide_eq_true (by omega)) (chk_step (decide_eq_true (by omega)) ?_)
  by_cases hf : x.Fm
  ·refine br_f (by rw [Bool.not_eq_false']; exact (r_formed_iff x).2 hf) ?_
   rw [if_pos hf]
   refine obs_step (L_rc2_eq l hl i x hy) ?_
   by_cases ha : (l.take i).any (fun y => decide (y.id = x.id ∧ y ≠ x)) = true
   ·rw [if_pos ha, if_pos ha]; rfl
   ·rw [if_neg ha, if_neg ha]
    refine (T.run_inl _ _ _).trans ?_
    simp only [w]; rfl
  ·rw [if_neg hf]
   exact br_t (by rw [Bool.not_eq_true', ← Bool.not_eq_true]; exact fun h => hf ((r_formed_iff x).1 h)) rfl
 ·rw [sl_rc1]
  simp only [clampL_eq (show l.length ≤ maxL by unfold maxL; omega)]
  exact br_f (decide_eq_false (by omega)) rfl
 ·cases (List.range l.length).findSome? (errAt l) <;> rfl
theorem rcheck_eq (l : List Itm) : callT1 P BLA02 30 56 D_l dInt l = some (checkV l) := by
 rw [fn_rcheck]
 unfold checkV
 by_cases h : l.length > 60
 ·rw [if_pos h]
  refine br_t (decide_eq_true ?_) rfl
  unfold clampL maxL; split <;> omega
 ·rw [if_neg h]
  simp only [clampL_eq (show l.length ≤ maxL by unfold maxL; omega), Nat.zero_add, decF_encF]
  refine br_f (decide_eq_false (by omega)) ?_
  refine obs_step (L_rc1_eq l (by omega)) ?_
  cases (List.range l.length).findSome? (errAt l) <;> rfl
end K
noncomputable def BLA03 : Tab := BLA02.addCall 56 (callE D_l dInt (fun a => .ret (K.checkV a)))
theorem tLA03 : TabOk P BLA03 := TabOk.addPC tLA02 (fun a r h => by rw [← ret_some h]; exact call_of okP tLA02 (K.rcheck_eq a))
theorem fn_r_ahead : ∀ a, (callT1 P BLA03 30 107 D_itm2 dB) a = T.run (
 .br (decide (Itm.known a.1 < Itm.known a.2)) (
  .ret (true)) (
  .br (Itm.known a.1 == Itm.known a.2) (
   .ret (decide (Itm.id a.1 < Itm.id a.2))) (
   .ret (false)))) := fun a => by kernel_rfl
noncomputable def K.r_ahead (a : Itm × Itm) : Bool := (if (decide (Itm.known a.1 < Itm.known a.2)) = true then true else (if (Itm.known a.1 == Itm.known a.2) = true then decide (Itm.id a.1 < Itm.id a.2) else false))
theorem eq_r_ahead (a : Itm × Itm) : (callT1 P BLA03 30 107 D_itm2 dB) a = some (K.r_ahead a) := (fn_r_ahead a).trans (T.br_some rfl (T.br_some rfl rfl))
noncomputable def BLA04 : Tab := BLA03.addCall 107 (callE D_itm2 dB (fun a => .ret (K.r_ahead a)))
theorem tLA04 : TabOk P BLA04 := TabOk.addFn (d := 30) okP tLA03 (fun a r h => by rw [eq_r_ahead]; exact congrArg some (ret_some h))
def S_rs2 := DecS.mk0 (.cons (dRows rItem) (.skips 2 (.cons (dO 0) (.cons (dInt) (.last (dInt) 54))))) (.rows 73 rItem .nil)
def X_rs2 := DecX.one (.exit 2) [0, 3, 4, 5] (DecS.mk0 (.cons (dRows rItem) (.skips 2 (.cons (dO 0) (.cons (dInt) (.last (dInt) 54))))) (.rows 73 rItem .nil))
noncomputable def K.st_rs2 := loopT1 P BLA04 30 72 49 [5, 3, 0, 4] S_rs2 X_rs2
theorem sl_rs2 : ∀ s, (K.st_rs2) s = T.run (
 let q1 := (0 : Nat) + Int.toNat s.1.2.2.1;
 let q4 := List.length s.1.1;
 let q2 := Sum.inr ((decF rItem q4 fun i => encF rItem s.1.1 ((0 : Nat) + i), s.1.2), decF rItem (List.length s.2.1) (encF rItem s.2.1), PUnit.unit);
 let q3 := Int.toNat s.1.2.2.2;
 .br (decide (s.1.2.2.2 < (↑s.1.2.1 : Int))) (
  .chk (decide ((0 : Int) ≤ s.1.2.2.2 ∧ s.1.2.2.2 < (↑s.1.2.1 : Int))) <|
  .chk (decide ((0 : Int) ≤ s.1.2.2.1 ∧ s.1.2.2.1 < (↑q4 : Int))) <|
  .br (r_ahead (Itm.mk (numOf (encF rItem s.2.1 q3 (0 : Nat))) (numOf (encF rItem s.2.1 q3 (nat_lit 1))) (numOf (encF rItem s.2.1 q3 (nat_lit 2))) (numOf (encF rItem s.2.1 q3 (nat_lit 3))) (numOf (encF rItem s.2.1 q3 (nat_lit 4))) (numOf (encF rItem s.2.1 q3 (nat_lit 5))) (numOf (encF rItem s.2.1 q3 (nat_lit 6))), Itm.mk (numOf (encF rItem s.1.1 q1 (0 : Nat))) (numOf (encF rItem s.1.1 q1 (nat_lit 1))) (numOf (encF rItem s.1.1 q1 (nat_lit 2))) (numOf (encF rItem s.1.1 q1 (nat_lit 3))) (numOf (encF rItem s.1.1 q1 (nat_lit 4))) (numOf (encF rItem s.1.1 q1 (nat_lit 5))) (numOf (encF rItem s.1.1 q1 (nat_lit 6))))) (
   .ret (Sum.inl ((decF rItem q4 fun i => encF rItem s.1.1 ((0 : Nat) + i), s.1.2.1, s.1.2.2.1, IntKind.wrap IntKind.i64 (s.1.2.2.2 + (1 : Int))), decF rItem (List.length s.2.1) (encF rItem s.2.1), PUnit.unit))) (
   .ret q2)) (
  .ret q2)) := fun s => by kernel_rfl
noncomputable def K.L_rs2 := lim K.st_rs2
noncomputable def BLA05 : Tab := BLA04.addNode 72 49 (nodeE [5, 3, 0, 4] S_rs2 X_rs2 (fun s => .obs (K.L_rs2 s) .ret))
theorem tLA05 : TabOk P BLA05 := TabOk.addLoop (d := 30) okP tLA04 (by kernel_rfl) (by kernel_rfl) (fun s r h => obs_ret h)
def S_rs1 := DecS.ghost 3 73 7 [.int .i64, .int .i64, .int .i64, .int .i64, .int .i64, .int .i64, .int .i64] (DecS.mk0 (.cons (dRows rItem) (.skips 2 (.cons (dO 0) (.last (dInt) 55)))) (.rows 73 rItem .nil))
def X_rs1 := DecX.one (.exit 0) [3] (DecS.mk0 (.skips 3 (.last (dO 0) 56)) (.rows 73 rItem .nil))
noncomputable def K.st_rs1 := loopT1 P BLA05 30 72 25 [4, 3, 0] S_rs1 X_rs1
theorem sl_rs1 : ∀ s, (K.st_rs1) s = T.run (
 let q1 := (0 : Nat);
 let q2 := (140737488355328 : Nat);
 let q3 := (1 : Nat);
 let q4 := (0 : Int);
 let q5 := (56 : Nat);
 .br (decide (s.1.2.2 < (↑(clampL (List.length s.1.1)) : Int))) (
  .obs (L_rs2 ((decF rItem (List.length s.1.1) fun i => encF rItem s.1.1 (q1 + i), s.1.2.1, s.1.2.2, q4), decF rItem (List.length s.2.1) (encF rItem s.2.1), PUnit.unit)) fun x0 =>
 let q16 := x0.1.1;
 let q26 := List.length q16;
 let q9 := x0.1.2.2.2;
 let q7 := Int.toNat q9 - q1;
 let q15 := x0.1.2.1 - Int.toNat q9;
 let q27 := x0.1.2.2.1;
 let q19 := x0.2.1;
 let q8 := q1 + Int.toNat q27;
 let q20 := encF rItem q16 q8 (nat_lit 1);
 let q21 := encF rItem q16 q8 (nat_lit 2);
 let q22 := encF rItem q16 q8 (nat_lit 3);
 let q23 := encF rItem q16 q8 (nat_lit 4);
 let q24 := encF rItem q16 q8 (nat_lit 5);
 let q25 := encF rItem q16 q8 (nat_lit 6);
 let q6 := Sum.inl ((decF rItem q26 fun i => encF rItem q16 (q1 + i), q1 + q7 + q3 + q15, IntKind.wrap IntKind.i64 (q27 + (1 : Int))), decF rItem (q1 + q7 + q3 + q15) (appG (q1 + q7 + q3) (appG (q1 + q7) (appG q1 (fun _x _x_1 => AV.top) fun i k => encF rItem q19 (q1 + i) k) fun i k => Option.getD [AV.int IntKind.i64 (numOf (encF rItem q16 q8 q1)), AV.int IntKind.i64 (numOf q20), AV.int IntKind.i64 (numOf q21), AV.int IntKind.i64 (numOf q22), AV.int IntKind.i64 (numOf q23), AV.int IntKind.i64 (numOf q24), AV.int IntKind.i64 (numOf q25)][(q1 + i) * (7 : Nat) + k]? AV.top) fun i k => encF rItem q19 (Int.toNat q9 + i) k), PUnit.unit);
 let q10 := decide (q4 ≤ q27 ∧ q27 < (↑q26 : Int));
 let q11 := decide ((q1 + q7 + q3 + q15) * q5 ≤ q2 ∧ q1 + q7 + q3 + q15 ≤ nat_lit 9223372036854775807);
 let q12 := decide ((q1 + q7 + q3) * q5 ≤ q2 ∧ q1 + q7 + q3 ≤ nat_lit 9223372036854775807);
 let q13 := decide ((q1 + q7) * q5 ≤ q2 ∧ q1 + q7 ≤ nat_lit 9223372036854775807);
 let q14 := Int.toNat q9;
 let q17 := decide (q4 ≤ q9 ∧ q9 ≤ (↑x0.1.2.1 : Int)) && true;
 let q18 := true && decide (q4 ≤ q9 ∧ q9 ≤ (↑x0.1.2.1 : Int));
   .br (decide (q9 < (↑x0.1.2.1 : Int))) (
    .chk (decide (q4 ≤ q9 ∧ q9 < (↑x0.1.2.1 : Int))) <|
    .chk q10 <|
    .br (numOf (encF rItem q19 q14 q1) == numOf (encF rItem q16 q8 q1) && (numOf (encF rItem q19 q14 (nat_lit 1)) == numOf q20 && (numOf (encF rItem q19 q14 (nat_lit 2)) == numOf q21 && (numOf (encF rItem q19 q14 (nat_lit 3)) == numOf q22 && (numOf (encF rItem q19 q14 (nat_lit 4)) == numOf q23 && (numOf (encF rItem q19 q14 (nat_lit 5)) == numOf q24 && numOf (encF rItem q19 q14 (nat_lit 6)) == numOf q25)))))) (
     .ret (Sum.inl ((decF rItem q26 fun i => encF rItem q16 (q1 + i), x0.1.2.1, IntKind.wrap IntKind.i64 (q27 + (1 : Int))), decF rItem (List.length q19) (encF rItem q19), PUnit.unit))) (
     .chk q17 <|
     .chk q13 <|
     .chk q10 <|
     .chk q12 <|
     .chk q18 <|
     .chk q11 <|
     .ret q6)) (
    .chk q17 <|
    .chk q13 <|
    .chk q10 <|
    .chk q12 <|
    .chk q18 <|
    .chk q11 <|
    .ret q6)) (
  .ret (Sum.inr (s.1.2.1, decF rItem (List.length s.2.1) (encF rItem s.2.1), PUnit.unit)))) := fun s => by kernel_rfl
noncomputable def K.L_rs1 := lim K.st_rs1
noncomputable def BLA06 : Tab := BLA05.addNode 72 25 (nodeE [4, 3, 0] S_rs1 X_rs1 (fun s => .obs (K.L_rs1 s) .ret))
theorem tLA06 : TabOk P BLA06 := TabOk.addLoop (d := 30) okP tLA05 (by kernel_rfl) (by kernel_rfl) (fun s r h => obs_ret h)
theorem fn_rsorted : ∀ a, (freshT1 P BLA06 30 72 73 D_l rItem) a = T.run (
 .obs (L_rs1 ((decF rItem (List.length a) fun i => encF rItem a ((0 : Nat) + i), (0 : Nat), (0 : Int)), decF rItem (0 : Nat) fun _x _x_1 => AV.top, PUnit.unit)) fun x0 =>
  .ret (decF rItem (List.length x0.2.1) fun i => encF rItem x0.2.1 ((0 : Nat) + i))) := fun a => by kernel_rfl
end Go.Proofs.YtelpdkojdfnmiaaGreat
/-! LA1 -/
namespace Go.Proofs.YtelpdkojdfnmiaaGreat
open Ev K
set_option maxRecDepth 100000
def nBill : RowN RB where
 wd := 4
 tags := [.int .i64, .int .i64, .int .i64, .sl 2 [.int .i64, .int .i64]]
 rd f := ⟨numOf (f 0), numOf (f 1), numOf (f 2), listOf rChg (sliceOf 2 [.int .i64, .int .i64] (f 3))⟩
 wr a k := match k with
  | 0 => .int .i64 a.number
  | 1 => .int .i64 a.day
  | 2 => .int .i64 a.account
  | _ => slOf rChg a.l
 ok f k hk w A u h := by
  match k, hk, h with
  | 0, _, h => exact h
  | 1, _, h => exact h
  | 2, _, h => exact h
  | 3, _, h => exact slOf_rel (H := rChg) (x := sliceOf 2 [.int .i64, .int .i64] (f 3)) rfl h
  | k + 4, hk, _ => omega
 good a := by
  show (⟨a.number, a.day, a.account, listOf rChg (slOf rChg a.l)⟩ : RB) = a
  rw [listOf_slOf]
def lBkR : DecL RBk := (DecL.cons dInt (.cons (dRows rPost) (.cons (dRows rInt) (.cons (dRowsN nBill) (.cons (dRows rBal) (.cons (dRows rBal) (.last (dRows rItem) 0))))))).iso (fun p => ⟨p.1, p.2.1, p.2.2.1, p.2.2.2.1, p.2.2.2.2.1, p.2.2.2.2.2.1, p.2.2.2.2.2.2⟩) (fun k => (k.closed, k.p, k.refused, k.bills, k.paid, k.bonds, k.stands)) (fun _ => rfl)
def dBkR : Dec RBk := dAgg lBkR
def D_rbill := DecL.cons dBkR (.last dInt 0)
def S_bi := DecS.mk0 (.skip (.cons (dInt) (.unit (dLp 0 0 0 0) (.skips 2 (.last (dInt) 16))))) (.flat 52 lBkR .nil)
def X_bi := DecX.or (DecX.one (.exit 0) [] (DecS.mk0 (.tops 22) .nil)) (DecX.one .ret [4] (DecS.mk0 (.skips 4 (.last (dInt) 17)) .nil))
noncomputable def K.st_bi := loopT1 P BLA06 30 74 17 [5, 1, 2] S_bi X_bi
theorem sl_bi : ∀ s, (K.st_bi) s = T.run (
 let q1 := RBk.bills s.2.1;
 let q2 := (0 : Nat);
 .br (decide (s.1.2 < (↑(clampL (List.length q1)) : Int))) (
  .chk (decide ((0 : Int) ≤ s.1.2 ∧ s.1.2 < (↑(List.length q1) : Int))) <|
  .br (numOf (encN nBill q1 (q2 + Int.toNat s.1.2) (nat_lit 0)) == s.1.1) (
   .ret (Sum.inr (Sum.inr (s.1.2, PUnit.unit)))) (
   .ret (Sum.inl ((s.1.1, IntKind.wrap IntKind.i64 (s.1.2 + (1 : Int))), RBk.mk (RBk.closed s.2.1) (decF rPost (List.length (RBk.p s.2.1)) fun i => encF rPost (RBk.p s.2.1) (q2 + i)) (decF rInt (List.length (RBk.refused s.2.1)) fun i => encF rInt (RBk.refused s.2.1) (q2 + i)) (decN nBill (List.length q1) fun i => encN nBill q1 (q2 + i)) (decF rBal (List.length (RBk.paid s.2.1)) fun i => encF rBal (RBk.paid s.2.1) (q2 + i)) (decF rBal (List.length (RBk.bonds s.2.1)) fun i => encF rBal (RBk.bonds s.2.1) (q2 + i)) (decF rItem (List.length (RBk.stands s.2.1)) fun i => encF rItem (RBk.stands s.2.1) (q2 + i)), PUnit.unit)))) (
  .ret (Sum.inr (Sum.inl (PUnit.unit, PUnit.unit))))) := fun s => by kernel_rfl
noncomputable def K.L_bi := lim K.st_bi
noncomputable def BLA11 : Tab := BLA06.addNode 74 17 (nodeE [5, 1, 2] S_bi X_bi (fun s => .obs (K.L_bi s) .ret))
theorem tLA11 : TabOk P BLA11 := TabOk.addLoop (d := 30) okP tLA06 (by kernel_rfl) (by kernel_rfl) (fun s r h => obs_ret h)
theorem fn_rbill : ∀ a, (callT1 P BLA11 30 74 D_rbill dInt) a = T.run (
 .obs (L_bi ((a.2, (0 : Int)), RBk.mk (RBk.closed a.1) (decF rPost (List.length (RBk.p a.1)) fun i => encF rPost (RBk.p a.1) ((0 : Nat) + i)) (decF rInt (List.length (RBk.refused a.1)) fun i => encF rInt (RBk.refused a.1) ((0 : Nat) + i)) (decN nBill (List.length (RBk.bills a.1)) fun i => encN nBill (RBk.bills a.1) ((0 : Nat) + i)) (decF rBal (List.length (RBk.paid a.1)) fun i => encF rBal (RBk.paid a.1) ((0 : Nat) + i)) (decF rBal (List.length (RBk.bonds a.1)) fun i => encF rBal (RBk.bonds a.1) ((0 : Nat) + i)) (decF rItem (List.length (RBk.stands a.1)) fun i => encF rItem (RBk.stands a.1) ((0 : Nat) + i)), PUnit.unit)) fun x0 =>
  .sum (x0) (fun _ =>
   .ret ((-1 : Int))) (fun x1 =>
   .ret x1.1)) := fun a => by kernel_rfl
def D_held := DecL.cons (dRows rBal) (.last dInt 0)
def S_he := DecS.mk0 (.cons (dRows rBal) (.cons (dInt) (.skips 3 (.last (dInt) 18)))) .nil
def X_he := DecX.or (DecX.one (.exit 0) [] (DecS.mk0 (.tops 24) .nil)) (DecX.one .ret [4] (DecS.mk0 (.skips 4 (.last (dInt) 19)) .nil))
noncomputable def K.st_he := loopT1 P BLA11 30 126 17 [5, 0, 1] S_he X_he
theorem sl_he : ∀ s, (K.st_he) s = T.run (
 .br (decide (s.1.2.2 < (↑(clampL (List.length s.1.1)) : Int))) (
  .chk (decide ((0 : Int) ≤ s.1.2.2 ∧ s.1.2.2 < (↑(List.length s.1.1) : Int))) <|
  .br (numOf (encF rBal s.1.1 ((0 : Nat) + Int.toNat s.1.2.2) (nat_lit 0)) == s.1.2.1) (
   .chk (decide ((0 : Int) ≤ s.1.2.2 ∧ s.1.2.2 < (↑(List.length s.1.1) : Int))) <|
   .ret (Sum.inr (Sum.inr (numOf (encF rBal s.1.1 ((0 : Nat) + Int.toNat s.1.2.2) (nat_lit 1)), PUnit.unit)))) (
   .ret (Sum.inl ((decF rBal (List.length s.1.1) fun i => encF rBal s.1.1 ((0 : Nat) + i), s.1.2.1, IntKind.wrap IntKind.i64 (s.1.2.2 + (1 : Int))), PUnit.unit)))) (
  .ret (Sum.inr (Sum.inl (PUnit.unit, PUnit.unit))))) := fun s => by kernel_rfl
noncomputable def K.L_he := lim K.st_he
noncomputable def BLA12 : Tab := BLA11.addNode 126 17 (nodeE [5, 0, 1] S_he X_he (fun s => .obs (K.L_he s) .ret))
theorem tLA12 : TabOk P BLA12 := TabOk.addLoop (d := 30) okP tLA11 (by kernel_rfl) (by kernel_rfl) (fun s r h => obs_ret h)
theorem fn_held : ∀ a, (callT1 P BLA12 30 126 D_held dInt) a = T.run (
 .obs (L_he ((decF rBal (List.length a.1) fun i => encF rBal a.1 ((0 : Nat) + i), a.2, (0 : Int)), PUnit.unit)) fun x0 =>
  .sum (x0) (fun _ =>
   .ret ((0 : Int))) (fun x1 =>
   .ret x1.1)) := fun a => by kernel_rfl
def D_more := DecL.cons (dRows rBal) (.cons dInt (.last dInt 0))
def S_mo := DecS.mk0 (.cons (dRows rBal) (.cons (dInt) (.cons (dInt) (.skips 4 (.last (dInt) 58))))) .nil
def X_mo := DecX.one (.exit 0) [0, 1, 2, 7] S_mo
noncomputable def K.st_mo := loopT1 P BLA12 30 78 17 [7, 2, 0, 1] S_mo X_mo
theorem sl_mo : ∀ s, (K.st_mo) s = T.run (
 .br (decide (s.1.2.2.2 < (↑(clampL (List.length s.1.1)) : Int))) (
  .chk (decide ((0 : Int) ≤ s.1.2.2.2 ∧ s.1.2.2.2 < (↑(List.length s.1.1) : Int))) <|
  .br (decide (numOf (encF rBal s.1.1 ((0 : Nat) + Int.toNat s.1.2.2.2) (nat_lit 0)) < s.1.2.1)) (
   .ret (Sum.inl ((decF rBal (List.length s.1.1) fun i => encF rBal s.1.1 ((0 : Nat) + i), s.1.2.1, s.1.2.2.1, IntKind.wrap IntKind.i64 (s.1.2.2.2 + (1 : Int))), PUnit.unit))) (
   .ret (Sum.inr ((decF rBal (List.length s.1.1) fun i => encF rBal s.1.1 ((0 : Nat) + i), s.1.2), PUnit.unit)))) (
  .ret (Sum.inr ((decF rBal (List.length s.1.1) fun i => encF rBal s.1.1 ((0 : Nat) + i), s.1.2), PUnit.unit)))) := fun s => by kernel_rfl
noncomputable def K.L_mo := lim K.st_mo
noncomputable def BLA13 : Tab := BLA12.addNode 78 17 (nodeE [7, 2, 0, 1] S_mo X_mo (fun s => .obs (K.L_mo s) .ret))
theorem tLA13 : TabOk P BLA13 := TabOk.addLoop (d := 30) okP tLA12 (by kernel_rfl) (by kernel_rfl) (fun s r h => obs_ret h)
theorem fn_more : ∀ a, (freshT1 P BLA13 30 78 38 D_more rBal) a = T.run (
 let q1 := (0 : Nat);
 let q2 := (140737488355328 : Nat);
 let q3 := (1 : Nat);
 let q4 := (0 : Int);
 let q5 := (16 : Nat);
 .obs (L_mo ((decF rBal (List.length a.1) fun i => encF rBal a.1 (q1 + i), a.2.1, a.2.2, q4), PUnit.unit)) fun x0 =>
 let q9 := x0.1.2.2.2;
 let q7 := Int.toNat q9 - q1;
 let q14 := List.length x0.1.1 - Int.toNat q9;
 let q6 := decF rBal (q1 + q7 + q3 + q14) fun i => appG (q1 + q7 + q3) (appG (q1 + q7) (appG q1 (fun _x _x_1 => AV.top) fun i k => encF rBal x0.1.1 (nat_lit 0 + i) k) fun i k => Option.getD [AV.int IntKind.i64 x0.1.2.1, AV.int IntKind.i64 x0.1.2.2.1][(q1 + i) * (2 : Nat) + k]? AV.top) (fun i k => encF rBal x0.1.1 (q1 + Int.toNat q9 + i) k) (q1 + i);
 let q8 := decide ((q1 + q7 + q3 + q14) * q5 ≤ q2 ∧ q1 + q7 + q3 + q14 ≤ nat_lit 9223372036854775807);
 let q10 := List.length x0.1.1;
 let q11 := decide ((q1 + q7 + q3) * q5 ≤ q2 ∧ q1 + q7 + q3 ≤ nat_lit 9223372036854775807);
 let q12 := decide ((q1 + q7) * q5 ≤ q2 ∧ q1 + q7 ≤ nat_lit 9223372036854775807);
 let q13 := q1 + List.length x0.1.1;
 let q15 := decide (q4 ≤ q9 ∧ q9 ≤ (↑q10 : Int)) && true;
 let q16 := true && decide (q4 ≤ q9 ∧ q9 ≤ (↑q10 : Int));
 let q17 := decide (q4 ≤ q9 ∧ q9 < (↑q13 : Int));
  .chk (decide (q13 * q5 ≤ q2 ∧ q1 + List.length x0.1.1 ≤ nat_lit 9223372036854775807)) <|
  .br (decide (q9 < (↑(clampL q10) : Int))) (
   .chk (decide (q4 ≤ q9 ∧ q9 < (↑q10 : Int))) <|
   .br (numOf (encF rBal x0.1.1 (q1 + Int.toNat q9) (nat_lit 0)) == x0.1.2.1) (
    .chk q17 <|
    .chk q17 <|
    .ret (decF rBal q13 fun i => setR (Int.toNat q9) (nat_lit 1) (nat_lit 1) [AV.int IntKind.i64 (IntKind.wrap IntKind.i64 (numOf (appG q1 (fun _x _x_1 => AV.top) (fun i k => encF rBal x0.1.1 (q1 + i) k) (Int.toNat q9) (nat_lit 1)) + x0.1.2.2.1))] (appG q1 (fun _x _x_1 => AV.top) fun i k => encF rBal x0.1.1 (q1 + i) k) (q1 + i))) (
    .chk q15 <|
    .chk q12 <|
    .chk q11 <|
    .chk q16 <|
    .chk q8 <|
    .ret q6)) (
   .chk q15 <|
   .chk q12 <|
   .chk q11 <|
   .chk q16 <|
   .chk q8 <|
   .ret q6)) := fun a => by kernel_rfl
def D_add := DecL.cons (dRows rInt) (.last dInt 0)
def S_ad := DecS.mk0 (.cons (dRows rInt) (.cons (dInt) (.skips 3 (.last (dInt) 26)))) .nil
def X_ad := DecX.one (.exit 0) [0, 1, 5] S_ad
noncomputable def K.st_ad := loopT1 P BLA13 30 85 17 [5, 0, 1] S_ad X_ad
theorem sl_ad : ∀ s, (K.st_ad) s = T.run (
 .br (decide (s.1.2.2 < (↑(clampL (List.length s.1.1)) : Int))) (
  .chk (decide ((0 : Int) ≤ s.1.2.2 ∧ s.1.2.2 < (↑(List.length s.1.1) : Int))) <|
  .br (decide (numOf (encF rInt s.1.1 ((0 : Nat) + Int.toNat s.1.2.2) (0 : Nat)) < s.1.2.1)) (
   .ret (Sum.inl ((decF rInt (List.length s.1.1) fun i => encF rInt s.1.1 ((0 : Nat) + i), s.1.2.1, IntKind.wrap IntKind.i64 (s.1.2.2 + (1 : Int))), PUnit.unit))) (
   .ret (Sum.inr ((decF rInt (List.length s.1.1) fun i => encF rInt s.1.1 ((0 : Nat) + i), s.1.2), PUnit.unit)))) (
  .ret (Sum.inr ((decF rInt (List.length s.1.1) fun i => encF rInt s.1.1 ((0 : Nat) + i), s.1.2), PUnit.unit)))) := fun s => by kernel_rfl
noncomputable def K.L_ad := lim K.st_ad
noncomputable def BLA14 : Tab := BLA13.addNode 85 17 (nodeE [5, 0, 1] S_ad X_ad (fun s => .obs (K.L_ad s) .ret))
theorem tLA14 : TabOk P BLA14 := TabOk.addLoop (d := 30) okP tLA13 (by kernel_rfl) (by kernel_rfl) (fun s r h => obs_ret h)
theorem fn_add : ∀ a, (freshT1 P BLA14 30 85 3 D_add rInt) a = T.run (
 let q1 := (0 : Nat);
 let q2 := (1 : Nat);
 .obs (L_ad ((decF rInt (List.length a.1) fun i => encF rInt a.1 (q1 + i), a.2, (0 : Int)), PUnit.unit)) fun x0 =>
 let q5 := x0.1.2.2;
 let q3 := Int.toNat q5 - q1;
 let q4 := List.length x0.1.1 - Int.toNat q5;
  .chk (decide ((0 : Int) ≤ q5 ∧ q5 ≤ (↑(List.length x0.1.1) : Int)) && true) <|
  .chk (decide ((q1 + q3) * (8 : Nat) ≤ (140737488355328 : Nat) ∧ q1 + q3 ≤ nat_lit 9223372036854775807)) <|
  .chk (decide ((q1 + q3 + q2) * (8 : Nat) ≤ (140737488355328 : Nat) ∧ q1 + q3 + q2 ≤ nat_lit 9223372036854775807)) <|
  .chk (true && decide ((0 : Int) ≤ q5 ∧ q5 ≤ (↑(List.length x0.1.1) : Int))) <|
  .chk (decide ((q1 + q3 + q2 + q4) * (8 : Nat) ≤ (140737488355328 : Nat) ∧ q1 + q3 + q2 + q4 ≤ nat_lit 9223372036854775807)) <|
  .ret (decF rInt (q1 + q3 + q2 + q4) fun i => appG (q1 + q3 + q2) (appG (q1 + q3) (appG q1 (fun _x _x_1 => AV.top) fun i k => encF rInt x0.1.1 (nat_lit 0 + i) k) fun i k => Option.getD [AV.int IntKind.i64 x0.1.2.1][(q1 + i) * q2 + k]? AV.top) (fun i k => encF rInt x0.1.1 (q1 + Int.toNat q5 + i) k) (q1 + i))) := fun a => by kernel_rfl
end Go.Proofs.YtelpdkojdfnmiaaGreat
