/- SurveySeveral: for every input the law returns true, and the input reads as it did. No conditions. -/
import Derived.Test.YtkajafmphemedaaRows
import Derived.Test.YtkajafmphemedaaBs6
/-! KY3 -/
namespace Go.Proofs.Ytkajafmphemedaa
open Ev K
set_option maxRecDepth 100000
noncomputable def K.massesL (s : Ship) (b : Bulbs) (x : XS) : List (Int × Span) := (List.range (len x)).map fun i => ((svy x i).id, massOf s b (svy x i))
noncomputable def K.massesOk (s : Ship) (x : XS) : Bool := (List.range (len x)).all fun i => massOk s (svy x i)
theorem K.massesOk_at {s : Ship} {x : XS} (h : massesOk s x = true) {i : Nat} (hi : i < len x) : massOk s (svy x i) = true := List.all_eq_true.1 h i (List.mem_range.2 hi)
section
variable (s : Ship) (b : Bulbs) (x : XS) {bs : Nat → Bool} (ok : massesOk s x = true)
abbrev K.Sm (s : Ship) (b : Bulbs) (x : XS) (bs : Nat → Bool) (i : Nat) (out : List (List AV × Bool)) := ((s, b, x, (len x : Int), (i : Int)), PUnit.unit, bs, out)
noncomputable abbrev K.em (s : Ship) (b : Bulbs) (x : XS) (i : Nat) : List AV := eMass ((svy x i).id, massOf s b (svy x i))
include ok
theorem mss_y (i : Nat) (hi : i < K.len x) (out : List (List AV × Bool)) (hb : bs out.length = true) : st_mss (Sm s b x bs i out) = some (.inl (Sm s b x bs (i + 1) ((em s b x i, true) :: out))) := by
  have e1 := K.len_le x; have e2 := K.len_le' x
  rw [sl_mss]
  refine Eq.trans (T.run_br _ _ _) ?_
  rw [if_pos (by simp only [decide_eq_true_eq]; omega)]
  refine chk_step (by simp only [decide_eq_true_eq]; omega) (chk_step (by rw [Int.toNat_natCast]; exact massesOk_at ok hi) ?_)
  simp only [T.run_br, T.run_ret, hb]
  rw [if_neg (by simp), w64_in (by omega) (by omega)]
  rfl
theorem mss_s (i : Nat) (hi : i < K.len x) (out : List (List AV × Bool)) (hb : bs out.length = false) : st_mss (Sm s b x bs i out) = some (.inr (.inl ((), (), bs, (em s b x i, false) :: out))) := by
  have e1 := K.len_le x; have e2 := K.len_le' x
  rw [sl_mss]
  refine Eq.trans (T.run_br _ _ _) ?_
  rw [if_pos (by simp only [decide_eq_true_eq]; omega)]
  refine chk_step (by simp only [decide_eq_true_eq]; omega) (chk_step (by rw [Int.toNat_natCast]; exact massesOk_at ok hi) ?_)
  simp only [T.run_br, T.run_ret, hb]
  rw [if_pos (by simp)]
  rfl
omit ok in
theorem mss_e (out) : st_mss (Sm s b x bs (K.len x) out) = some (.inr (.inr ((), (), bs, out))) := by
  rw [sl_mss]
  simp only [T.run_br, T.run_chk, T.run_ret, decide_eq_true_eq]
  rw [if_neg (by omega)]
theorem icl_mss : ICL P 109 [] (V_mss.enc (x, s, b)) ((massesL s b x).map eMass) := by
  refine iter_of okP tKY23  (d := 30) ?_ (fun m y hy => ?_)
  · show I_mss (x, s, b) _ = _
    rw [it_mss]
    show T.run (.obs (lim st_mss (Sm s b x _ 0 [])) _) = _
    rw [lim_yields_all (Sm s b x _) (n := K.len x) (fun _ => true) (em s b x) (fun o => Sum.inr ((), (), (fun _ => true), o)) (fun i hi out hp => by cases hp) (fun i hi out hp hb => mss_y s b x ok i hi out hb) (fun out => mss_e s b x out) (fun _ => rfl) (K.len x) 0 [] (by omega)]
    simp only [T.run_some, T.run_inr, T.run_ret, List.append_nil, List.reverse_reverse, massesL, List.map_map, ← List.range_eq_range', filter_all]
    rfl
  · show I_mss (x, s, b) _ = _
    rw [it_mss]
    show T.run (.obs (lim st_mss (Sm s b x _ 0 [])) _) = _
    have hy' : (((List.range' 0 (K.len x)).filter (fun _ => true)).map (em s b x))[m - ([] : List (List AV × Bool)).length]? = some y := by
      rw [← List.range_eq_range']; simpa [massesL, List.map_map, Function.comp_def, filter_all] using hy
    rw [lim_yields_stop (Sm s b x _) (n := K.len x) (fun _ => true) (em s b x) (fun o => Sum.inl ((), (), (fun k => !(Nat.beq k m)), o)) (fun i hi out hp => by cases hp) (fun i hi out hp hb => mss_y s b x ok i hi out hb) (fun i hi out hp hb => mss_s s b x ok i hi out hb) (fun _ => rfl) (K.len x) 0 [] (by omega) (by simp) hy']
    simp only [T.run_some, T.run_inl, T.run_ret, List.append_nil, List.reverse_cons, List.reverse_reverse, List.length_nil, Nat.sub_zero, ← List.range_eq_range', massesL, List.map_map, filter_all]
    rfl
end
def D_mss := DecL.cons (dShip) (.cons (dBulbs) (.last (dX 18 [.int .i64, .int .i64, .int .i64, .int .i64, .int .i64, .int .i64, .int .i64, .int .i64, .int .i64, .int .i64, .int .i64, .int .i64, .int .i64, .int .i64, .int .i64, .int .i64, .int .i64, .int .i64]) 0))
def R_mss := dFn 109 V_mss
theorem fn_mss : ∀ a, (callT1 P BKY23 30 79 D_mss R_mss) a = T.run (
  .ret ((Prod.snd (Prod.snd a), Prod.fst a, Prod.fst (Prod.snd a)))) := fun a => by kernel_rfl
noncomputable def BKY31 : Tab := BKY23.addCall 79 (callE D_mss R_mss (fun a => .ret (a.2.2, a.1, a.2.1)))
theorem tKY31 : TabOk P BKY31 := TabOk.addFn (d := 30) okP tKY23 (fun a r h => by rw [fn_mss]; exact h)
def S_tog := DecS.mk0 (.skips 6 (.unit (dLp 0 0 0 0) (.unit (dLp 1 0 0 0) (.skips 10 (.last R_mss 6))))) (.flat 33 lSpan (.flat 33 lSpan .nil))
noncomputable def K.st_tog := rangeT1 P BKY31 30 58 25 [18, 6, 7] S_tog DecX.no eMass
theorem rg_tog : ∀ s x, (K.st_tog) s x = T.run (
  .ret (Sum.inl (Prod.fst s, Prod.fst (Prod.snd s), meet (Prod.fst (Prod.snd (Prod.snd s))) (Prod.snd x), PUnit.unit))) := fun s x => by kernel_rfl
theorem st_tog_eq (s) (p : Int × Span) : st_tog s p = some (.inl (s.1, s.2.1, meet s.2.2.1 p.2, ())) := by
  rw [rg_tog]; rfl
theorem fold_tog (L : List (Int × Span)) (a : XS × Ship × Bulbs) (r c : Span) : L.foldl (fun (s : (XS × Ship × Bulbs) × Span × Span × Unit) p => (s.1, s.2.1, meet s.2.2.1 p.2, ())) (a, r, c, ()) = (a, r, L.foldl (fun c p => meet c p.2) c, ()) := by
  induction L generalizing c with
  | nil => rfl
  | cons x L ih => simp only [List.foldl_cons]; exact ih _
noncomputable def BKY32 : Tab := BKY31.addNode 58 25 (rangeE [18, 6, 7] S_tog DecX.no (fun s => .chk (massesOk s.1.2.1 s.1.1) (.ret (.inl (s.1, s.2.1, (massesL s.1.2.1 s.1.2.2 s.1.1).foldl (fun c p => meet c p.2) s.2.2.1, ())))))
theorem tKY32 : TabOk P BKY32 := TabOk.addRange (d := 30) (enc := eMass) (L := (fun s => massesL s.1.2.1 s.1.2.2 s.1.1)) okP tKY31 (by kernel_rfl) (by kernel_rfl) (fun s r h => ⟨_, _, _, (by kernel_rfl : _ = some (109, [], V_mss.enc s.1)), icl_mss s.1.2.1 s.1.2.2 s.1.1 (chk_ret h).1⟩) (fun s r h => by have e := (chk_ret h).2; subst e; rw [← fold_tog]; exact foldS_total st_tog_eq _ _)
def D_tog := D_mss
theorem fn_tog : ∀ a, (callT1 P BKY32 30 58 D_tog dSpan) a = T.run (
  .chk (massesOk (Prod.fst a) (Prod.snd (Prod.snd a))) <|
  .ret (List.foldl (fun c p => meet c (Prod.snd p)) (Span.mk (Ship.light (Prod.fst a)) (rooms (Prod.fst a))) (massesL (Prod.fst a) (Prod.fst (Prod.snd a)) (Prod.snd (Prod.snd a))))) := fun a => by kernel_rfl
noncomputable def K.togetherOf (s : Ship) (b : Bulbs) (x : XS) : Span := (massesL s b x).foldl (fun c p => meet c p.2) ⟨s.light, rooms s⟩
noncomputable def BKY33 : Tab := BKY32.addCall 58 (callE D_tog dSpan (fun a => .chk (massesOk a.1 a.2.2) (.ret (togetherOf a.1 a.2.1 a.2.2))))
theorem tKY33 : TabOk P BKY33 := TabOk.addFn (d := 30) okP tKY32 (fun a r h => by rw [fn_tog]; exact h)
theorem fn_Tog : ∀ a, (callT1 P BKY33 30 31 D_tog R_off) a = T.run (
  .br (listed1 a != (0 : Int)) (
    .ret ((Span.mk (0 : Int) (0 : Int), listed1 a))) (
    .chk (massesOk (Prod.fst a) (Prod.snd (Prod.snd a))) <|
    .br (void (togetherOf (Prod.fst a) (Prod.fst (Prod.snd a)) (Prod.snd (Prod.snd a)))) (
      .ret ((Span.mk (0 : Int) (0 : Int), (9 : Int)))) (
      .ret ((togetherOf (Prod.fst a) (Prod.fst (Prod.snd a)) (Prod.snd (Prod.snd a)), (0 : Int)))))) := fun a => by kernel_rfl
end Go.Proofs.Ytkajafmphemedaa
/-! KU0 -/
namespace Go.Proofs.Ytkajafmphemedaa
open Ev K
set_option maxRecDepth 100000
namespace K
theorem idx_lt {p : Nat → Bool} {n i : Nat} (hi : i < n) (hp : p i = true) : decide (idx p n < (i : Int)) = (first p i).isSome := by
  unfold idx
  cases hf : first p n with
  | none => have := first_none' hf i hi; rw [hp] at this; cases this
  | some j =>
    obtain ⟨h1, h2, h3⟩ := first_spec hf
    have hji : j ≤ i := by
      rcases Nat.lt_or_ge i j with h | h
      · have := h3 i h; rw [hp] at this; cases this
      · exact h
    rcases Nat.lt_or_eq_of_le hji with h | h
    · rw [first_some h h2 h3, decide_eq_true (show (j : Int) < i by omega)]; rfl
    · subst h
      rw [first_none h3, decide_eq_false (show ¬ (j : Int) < j by omega)]; rfl
theorem find_lst1_idx (x : XS) (i : Nat) : (find_lst1 (svy x i) x).2 = idx (fun j => x.g j 0 == x.g i 0) (len x) := by
  unfold find_lst1; rw [found_idx]; rfl
theorem svyE_ne (b : Bulbs) (x : XS) (i : Nat) (e : Int) (h : svyE b x i = some e) : e ≠ 0 := by
  unfold svyE at h
  split at h
  · rename_i hc; injection h with h; subst h; simpa using hc
  split at h
  · injection h with h; omega
  · cases h
/-- What a list without an error is. -/
structure ListOk (b : Bulbs) (x : XS) : Prop where
  pos : 0 < len x
  le : len x ≤ 12
  each : ∀ i, i < len x → check (b, svy x i) = 0
  apart : ∀ i j, i < len x → j < i → x.g j 0 ≠ x.g i 0
theorem listO_ne (b : Bulbs) (x : XS) (e : Int) (h : listO b x = some e) : e ≠ 0 := by
  unfold listO at h
  split at h
  · injection h with h; omega
  split at h
  · injection h with h; omega
  · exact findSome_ne (svyE_ne b x) e h
theorem listO_ok {b : Bulbs} {x : XS} (h : listO b x = none) : ListOk b x := by
  unfold listO at h
  split at h
  · cases h
  rename_i h1
  split at h
  · cases h
  rename_i h2
  have h1 : ¬ (len x : Int) = 0 := by simpa using h1
  have h2 : ¬ (len x : Int) > 12 := by simpa using h2
  have hn := none_all h
  have he : ∀ i, i < len x → check (b, svy x i) = 0 := fun i hi => by
    have := hn i hi
    unfold svyE at this
    split at this
    · cases this
    · rename_i hc; simpa using hc
  refine ⟨by omega, by omega, he, fun i j hi hj heq => ?_⟩
  have := hn i hi
  unfold svyE at this
  rw [he i hi] at this
  simp only [bne_self_eq_false, Bool.false_eq_true, if_false] at this
  split at this
  · cases this
  rename_i hc
  rw [find_lst1_idx, idx_lt hi (by simp)] at hc
  apply hc
  cases hf : first (fun j => x.g j 0 == x.g i 0) i with
  | some k => rfl
  | none => have := first_none' hf j hj; simp at this; exact absurd heq this
theorem orr_zero' {o : Option Int} (hne : ∀ x, o = some x → x ≠ 0) : K.orr id 0 o = 0 ↔ o = none := ⟨fun h => orr_zero h hne, fun h => by rw [h]; rfl⟩
theorem list_ok {s : Ship} {b : Bulbs} {x : XS} (h : listed1 (s, b, x) = 0) : ShipOk s ∧ CheckBulbs b = 0 ∧ ListOk b x := by
  unfold listed1 at h
  obtain ⟨h1, h⟩ := ite_err h
  obtain ⟨h2, h⟩ := ite_err h
  exact ⟨ship_ok h1, h2, listO_ok ((orr_zero' (listO_ne b x)).1 h)⟩
theorem list2_ok {s : Ship} {b : Bulbs} {x y : XS} (h : listed2 (s, b, x, y) = 0) : ShipOk s ∧ CheckBulbs b = 0 ∧ ListOk b x ∧ ListOk b y := by
  unfold listed2 at h
  obtain ⟨h1, h⟩ := ite_err h
  obtain ⟨h2, h⟩ := ite_err h
  cases hx : listO b x with
  | some e => rw [hx] at h; exact absurd h (listO_ne b x e hx)
  | none => rw [hx] at h; exact ⟨ship_ok h1, h2, listO_ok hx, listO_ok ((orr_zero' (listO_ne b y)).1 h)⟩
theorem svy_ok {b : Bulbs} {x : XS} (l : ListOk b x) {i : Nat} (hi : i < len x) : Good (svy x i) ∧ (density (b, svy x i)).2 = 0 ∧ (extremes (svy x i)).2 = true := check_ok (l.each i hi)
theorem massesOk_is {s : Ship} {b : Bulbs} {x : XS} (hs : ShipOk s) (l : ListOk b x) : massesOk s x = true := by
  unfold massesOk
  rw [List.all_eq_true]
  intro i hi
  obtain ⟨g, d, e⟩ := svy_ok l (List.mem_range.1 hi)
  exact (massOk_is hs g e).1
theorem foldl_same {α β : Type} {f g : β → α → β} : ∀ (l : List α) (a : β), (∀ a x, x ∈ l → f a x = g a x) → l.foldl f a = l.foldl g a
  | [], a, h => rfl
  | x :: l, a, h => by
    rw [List.foldl_cons, List.foldl_cons, h a x (by simp)]
    exact foldl_same l _ (fun a y hy => h a y (by simp [hy]))
/-- Equal, or both empty. -/
def Alike (c d : Span) : Prop := c = d ∨ (void c = true ∧ void d = true)
theorem meet_void {c m : Span} (h : void c = true) : void (meet c m) = true := by
  have h := void_true.1 h
  apply void_true.2
  unfold meet; simp only
  split <;> split <;> omega
theorem fold_alike (ms : List Span) : ∀ {c d : Span}, Alike c d → Alike (ms.foldl meet c) (ms.foldl meet d) := by
  induction ms with
  | nil => intro c d h; exact h
  | cons m ms ih =>
    intro c d h
    simp only [List.foldl_cons]
    apply ih
    rcases h with h | ⟨h1, h2⟩
    · exact .inl (by rw [h])
    · exact .inr ⟨meet_void h1, meet_void h2⟩
theorem meet_again (z l : Span) : meet l (meet z l) = meet z l := by
  unfold meet
  apply Span.ext
  · simp only; split <;> split <;> omega
  · simp only; split <;> split <;> omega
end K
end Go.Proofs.Ytkajafmphemedaa
/-! KUa -/
namespace Go.Proofs.Ytkajafmphemedaa
open Ev K
set_option maxRecDepth 100000
noncomputable def K.sTog (a : Ship × Bulbs × XS) : Span × Int := if (listed1 a != 0) = true then (⟨0, 0⟩, listed1 a) else if void (togetherOf a.1 a.2.1 a.2.2) = true then (⟨0, 0⟩, 9) else (togetherOf a.1 a.2.1 a.2.2, 0)
theorem K.sTog_eq (a : Ship × Bulbs × XS) : callT1 P BKY33 30 31 D_tog R_off a = some (sTog a) := by
  obtain ⟨s, b, x⟩ := a
  rw [fn_Tog]; unfold sTog
  refine br_step (fun _ => rfl) (fun h => ?_)
  obtain ⟨hs, hb, l⟩ := list_ok (bne_zero h)
  exact chk_step (massesOk_is hs l) (br_step (fun _ => rfl) (fun _ => rfl))
noncomputable def BKUa1 : Tab := BKY33.addCall 31 (callE D_tog R_off (fun a => .ret (sTog a)))
theorem tKUa1 : TabOk P BKUa1 := TabOk.addPC tKY33 (fun a r h => by rw [← ret_some h]; exact call_of okP tKY33 (sTog_eq a))
namespace K
theorem sTog_ok {s : Ship} {b : Bulbs} {x : XS} (h : (sTog (s, b, x)).2 = 0) : ShipOk s ∧ CheckBulbs b = 0 ∧ ListOk b x ∧ void (togetherOf s b x) = false ∧ (sTog (s, b, x)).1 = togetherOf s b x := by
  unfold sTog at h ⊢
  by_cases h1 : (listed1 (s, b, x) != 0) = true
  · rw [if_pos h1] at h; have h : listed1 (s, b, x) = 0 := h; rw [h] at h1; exact absurd h1 (by decide)
  rw [if_neg h1] at h ⊢
  obtain ⟨hs, hb, l⟩ := list_ok (bne_zero h1)
  refine ⟨hs, hb, l, ?_⟩
  by_cases h2 : void (togetherOf s b x) = true
  · rw [if_pos h2] at h; cases h
  rw [if_neg h2]
  exact ⟨by simpa using h2, rfl⟩
end K
def D_tkn := DecL.cons (dShip) (.cons (dBulbs) (.cons (dX 18 [.int .i64, .int .i64, .int .i64, .int .i64, .int .i64, .int .i64, .int .i64, .int .i64, .int .i64, .int .i64, .int .i64, .int .i64, .int .i64, .int .i64, .int .i64, .int .i64, .int .i64, .int .i64]) (.last (dX 18 [.int .i64, .int .i64, .int .i64, .int .i64, .int .i64, .int .i64, .int .i64, .int .i64, .int .i64, .int .i64, .int .i64, .int .i64, .int .i64, .int .i64, .int .i64, .int .i64, .int .i64, .int .i64]) 0)))
theorem fn_Tkn : ∀ a, (callT1 P BKUa1 30 33 D_tkn R_off) a = T.run (
  .br (listed2 a != (0 : Int)) (
    .ret ((Span.mk (0 : Int) (0 : Int), listed2 a))) (
    .chk (massesOk (Prod.fst a) (Prod.fst (Prod.snd (Prod.snd a)))) <|
    .chk (massesOk (Prod.fst a) (Prod.snd (Prod.snd (Prod.snd a)))) <|
    .br (void (togetherOf (Prod.fst a) (Prod.fst (Prod.snd a)) (Prod.fst (Prod.snd (Prod.snd a))))) (
      .ret ((Span.mk (0 : Int) (0 : Int), (9 : Int)))) (
      .br (void (togetherOf (Prod.fst a) (Prod.fst (Prod.snd a)) (Prod.snd (Prod.snd (Prod.snd a))))) (
        .ret ((Span.mk (0 : Int) (0 : Int), (9 : Int)))) (
        .ret ((Span.mk (IntKind.wrap IntKind.i64 (Span.lo (togetherOf (Prod.fst a) (Prod.fst (Prod.snd a)) (Prod.fst (Prod.snd (Prod.snd a)))) - Span.hi (togetherOf (Prod.fst a) (Prod.fst (Prod.snd a)) (Prod.snd (Prod.snd (Prod.snd a)))))) (IntKind.wrap IntKind.i64 (Span.hi (togetherOf (Prod.fst a) (Prod.fst (Prod.snd a)) (Prod.fst (Prod.snd (Prod.snd a)))) - Span.lo (togetherOf (Prod.fst a) (Prod.fst (Prod.snd a)) (Prod.snd (Prod.snd (Prod.snd a)))))), (0 : Int))))))) := fun a => by kernel_rfl
/-- What was taken, by what is possible before and behind. -/
noncomputable def K.takenOf (m n : Span) : Span × Int := if void m = true then (⟨0, 0⟩, 9) else if void n = true then (⟨0, 0⟩, 9) else (⟨IntKind.i64.wrap (m.lo - n.hi), IntKind.i64.wrap (m.hi - n.lo)⟩, 0)
noncomputable def K.sTaken (a : Ship × Bulbs × XS × XS) : Span × Int := if (listed2 a != 0) = true then (⟨0, 0⟩, listed2 a) else takenOf (togetherOf a.1 a.2.1 a.2.2.1) (togetherOf a.1 a.2.1 a.2.2.2)
theorem K.sTaken_eq (a : Ship × Bulbs × XS × XS) : callT1 P BKUa1 30 33 D_tkn R_off a = some (sTaken a) := by
  obtain ⟨s, b, x, y⟩ := a
  rw [fn_Tkn]; unfold sTaken takenOf
  refine br_step (fun _ => rfl) (fun h => ?_)
  obtain ⟨hs, hb, l, l2⟩ := list2_ok (bne_zero h)
  exact chk_step (massesOk_is hs l) (chk_step (massesOk_is hs l2) (br_step (fun _ => rfl) (fun _ => br_step (fun _ => rfl) (fun _ => rfl))))
noncomputable def BKUa2 : Tab := BKUa1.addCall 33 (callE D_tkn R_off (fun a => .ret (sTaken a)))
theorem tKUa2 : TabOk P BKUa2 := TabOk.addPC tKUa1 (fun a r h => by rw [← ret_some h]; exact call_of okP tKUa1 (sTaken_eq a))
def D_list := DecL.last xSurveys 0
theorem fn_list : ∀ a, (callT1 P BKUa2 30 30 D_list dB) a = T.run (
  .br (decide ((↑(len a) : Int) ≤ (5 : Int))) (
    .ret (true)) (
    .br (decide ((↑(len a) : Int) > (12 : Int))) (
      .ret (decide ((↑(len a) : Int) ≤ (20 : Int)))) (
      .ret (false)))) := fun a => by kernel_rfl
noncomputable def K.list (a : XS) : Bool := (if (decide ((↑(len a) : Int) ≤ (5 : Int))) = true then true else (if (decide ((↑(len a) : Int) > (12 : Int))) = true then decide ((↑(len a) : Int) ≤ (20 : Int)) else false))
theorem eq_list (a : XS) : (callT1 P BKUa2 30 30 D_list dB) a = some (K.list a) := (fn_list a).trans (T.br_some rfl (T.br_some rfl rfl))
noncomputable def BKUa3 : Tab := BKUa2.addCall 30 (callE D_list dB (fun a => .ret (K.list a)))
theorem tKUa3 : TabOk P BKUa3 := TabOk.addFn (d := 30) okP tKUa2 (fun a r h => by rw [eq_list]; exact congrArg some (ret_some h))
end Go.Proofs.Ytkajafmphemedaa
/-! KN12 -/
namespace Go.Proofs.Ytkajafmphemedaa
open Ev K
set_option maxRecDepth 100000
theorem fn_r_ready : ∀ a, (callT1 P BKN112 30 43 D_rrdy (dI .i64)) a = T.run (
  .br (r_ship (Prod.fst a) != (0 : Int)) (
    .ret (r_ship (Prod.fst a))) (
    .ret (r_check (Prod.fst (Prod.snd a)) (Prod.snd (Prod.snd a))))) := fun a => by kernel_rfl
noncomputable def K.r_ready (a : Ship × Bulbs × Survey) : Int := (if (r_ship (Prod.fst a) != (0 : Int)) = true then r_ship (Prod.fst a) else r_check (Prod.fst (Prod.snd a)) (Prod.snd (Prod.snd a)))
theorem eq_r_ready (a : Ship × Bulbs × Survey) : (callT1 P BKN112 30 43 D_rrdy (dI .i64)) a = some (K.r_ready a) := (fn_r_ready a).trans (T.br_some rfl rfl)
noncomputable def BKN121 : Tab := BKN112.addCall 43 (callE D_rrdy (dI .i64) (fun a => .ret (K.r_ready a)))
theorem tKN121 : TabOk P BKN121 := TabOk.addFn (d := 30) okP tKN112 (fun a r h => by rw [eq_r_ready]; exact congrArg some (ret_some h))
def R_rVol := dTup (.cons dRange (.last (dI .i64) 0))
def D_rpos := DecL.cons (dShip) (.cons (dBulbs) (.cons (dSurvey) (.last (dI .i64) 0)))
def R_rpos := dTup (.cons dB (.last (dI .i64) 0))
theorem fn_rVol : ∀ a, (callT1 P BKN121 30 15 D_rrdy R_rVol) a = T.run (
  .br (r_ready a != (0 : Int)) (
    .ret ((Range.mk (Frac.mk (0 : Int) (0 : Int)) (Frac.mk (0 : Int) (0 : Int)), r_ready a))) (
    .chk (r_volOk (Prod.fst a) (Prod.snd (Prod.snd a))) <|
    .br (!Prod.snd (r_volumes (Prod.fst a) (Prod.snd (Prod.snd a)))) (
      .ret ((Range.mk (Frac.mk (0 : Int) (0 : Int)) (Frac.mk (0 : Int) (0 : Int)), (9 : Int)))) (
      .ret ((Prod.fst (r_volumes (Prod.fst a) (Prod.snd (Prod.snd a))), (0 : Int)))))) := fun a => by kernel_rfl
theorem fn_rMas : ∀ a, (callT1 P BKN121 30 16 D_rrdy R_off) a = T.run (
  .br (r_ready a != (0 : Int)) (
    .ret ((Span.mk (0 : Int) (0 : Int), r_ready a))) (
    .chk (r_massOk (Prod.fst a) (Prod.snd (Prod.snd a))) <|
    .br (r_none (r_mass (Prod.fst a) (Prod.fst (Prod.snd a)) (Prod.snd (Prod.snd a)))) (
      .ret ((Span.mk (0 : Int) (0 : Int), (9 : Int)))) (
      .ret ((r_mass (Prod.fst a) (Prod.fst (Prod.snd a)) (Prod.snd (Prod.snd a)), (0 : Int)))))) := fun a => by kernel_rfl
theorem fn_rPos : ∀ a, (callT1 P BKN121 30 18 D_rpos R_rpos) a = T.run (
  .br (r_ready (Prod.fst a, Prod.fst (Prod.snd a), Prod.fst (Prod.snd (Prod.snd a))) != (0 : Int)) (
    .ret ((false, r_ready (Prod.fst a, Prod.fst (Prod.snd a), Prod.fst (Prod.snd (Prod.snd a)))))) (
    .chk (r_massOk (Prod.fst a) (Prod.fst (Prod.snd (Prod.snd a)))) <|
    .br (decide (Prod.snd (Prod.snd (Prod.snd a)) ≥ Span.lo (r_mass (Prod.fst a) (Prod.fst (Prod.snd a)) (Prod.fst (Prod.snd (Prod.snd a)))))) (
      .ret ((decide (Prod.snd (Prod.snd (Prod.snd a)) ≤ Span.hi (r_mass (Prod.fst a) (Prod.fst (Prod.snd a)) (Prod.fst (Prod.snd (Prod.snd a))))), (0 : Int)))) (
      .ret ((false, (0 : Int)))))) := fun a => by kernel_rfl
def D_sck := DecL.cons (dShip) (.cons (dBulbs) (.last (dSurvey) 0))
theorem fn_checked : ∀ a, (callT1 P BKN121 30 38 D_sck (dI .i64)) a = T.run (
  .br (hullCheck (Prod.fst a) != (0 : Int)) (
    .ret (hullCheck (Prod.fst a))) (
    .ret (Check (Prod.snd a)))) := fun a => by kernel_rfl
noncomputable def K.checked (a : Ship × Bulbs × Survey) : Int := (if (hullCheck (Prod.fst a) != (0 : Int)) = true then hullCheck (Prod.fst a) else Check (Prod.snd a))
theorem eq_checked (a : Ship × Bulbs × Survey) : (callT1 P BKN121 30 38 D_sck (dI .i64)) a = some (K.checked a) := (fn_checked a).trans (T.br_some rfl rfl)
noncomputable def BKN122 : Tab := BKN121.addCall 38 (callE D_sck (dI .i64) (fun a => .ret (K.checked a)))
theorem tKN122 : TabOk P BKN122 := TabOk.addFn (d := 30) okP tKN121 (fun a r h => by rw [eq_checked]; exact congrArg some (ret_some h))
theorem fn_sVol : ∀ a, (callT1 P BKN122 30 14 D_rrdy R_rVol) a = T.run (
  .br (checked a != (0 : Int)) (
    .ret ((Range.mk (Frac.mk (0 : Int) (0 : Int)) (Frac.mk (0 : Int) (0 : Int)), checked a))) (
    .chk (decide ((0 : Nat) < len (Curve.knots (Ship.mean (Prod.fst a))))) <|
    .br (!Prod.snd (volumes (Prod.fst a) (Prod.snd (Prod.snd a)))) (
      .ret ((Range.mk (Frac.mk (0 : Int) (0 : Int)) (Frac.mk (0 : Int) (0 : Int)), (9 : Int)))) (
      .chk (lowOk (Prod.fst (Prod.fst (volumes (Prod.fst a) (Prod.snd (Prod.snd a)))))) <|
      .chk (lowOk (Prod.snd (Prod.fst (volumes (Prod.fst a) (Prod.snd (Prod.snd a)))))) <|
      .ret ((Range.mk (r_low (Prod.fst (Prod.fst (volumes (Prod.fst a) (Prod.snd (Prod.snd a)))))) (r_low (Prod.snd (Prod.fst (volumes (Prod.fst a) (Prod.snd (Prod.snd a)))))), (0 : Int)))))) := fun a => by kernel_rfl
theorem fn_sMas : ∀ a, (callT1 P BKN122 30 12 D_rrdy R_off) a = T.run (
  .br (checked a != (0 : Int)) (
    .ret ((Span.mk (0 : Int) (0 : Int), checked a))) (
    .chk (massOk (Prod.fst a) (Prod.snd (Prod.snd a))) <|
    .br (void (massOf (Prod.fst a) (Prod.fst (Prod.snd a)) (Prod.snd (Prod.snd a)))) (
      .ret ((Span.mk (0 : Int) (0 : Int), (9 : Int)))) (
      .ret ((massOf (Prod.fst a) (Prod.fst (Prod.snd a)) (Prod.snd (Prod.snd a)), (0 : Int)))))) := fun a => by kernel_rfl
theorem fn_sPos : ∀ a, (callT1 P BKN122 30 17 D_rpos R_rpos) a = T.run (
  .br (checked (Prod.fst a, Prod.fst (Prod.snd a), Prod.fst (Prod.snd (Prod.snd a))) != (0 : Int)) (
    .ret ((false, checked (Prod.fst a, Prod.fst (Prod.snd a), Prod.fst (Prod.snd (Prod.snd a)))))) (
    .chk (massOk (Prod.fst a) (Prod.fst (Prod.snd (Prod.snd a)))) <|
    .ret ((within (Prod.snd (Prod.snd (Prod.snd a))) (Span.lo (massOf (Prod.fst a) (Prod.fst (Prod.snd a)) (Prod.fst (Prod.snd (Prod.snd a))))) (Span.hi (massOf (Prod.fst a) (Prod.fst (Prod.snd a)) (Prod.fst (Prod.snd (Prod.snd a))))), (0 : Int))))) := fun a => by kernel_rfl
end Go.Proofs.Ytkajafmphemedaa
/-! KW1 -/
namespace Go.Proofs.Ytkajafmphemedaa
open Ev K
set_option maxRecDepth 100000
namespace K
theorem r_ready_is (a : Ship × Bulbs × Survey) : r_ready a = checked a := by
  unfold r_ready checked
  rw [r_ship_is, r_check_is]
theorem checked_ok {s : Ship} {b : Bulbs} {x : Survey} (h : checked (s, b, x) = 0) : ShipOk s ∧ CheckBulbs b = 0 ∧ Good x ∧ (density (b, x)).2 = 0 ∧ (extremes x).2 = true := by
  unfold checked at h
  obtain ⟨h1, h2⟩ := ite_err h
  exact ⟨ship_ok h1, Check_ok h2⟩
theorem ready_ok {s : Ship} {b : Bulbs} {x : Survey} (h : r_ready (s, b, x) = 0) : ShipOk s ∧ CheckBulbs b = 0 ∧ Good x ∧ (density (b, x)).2 = 0 ∧ (extremes x).2 = true := by
  rw [r_ready_is] at h; exact checked_ok h
end K
noncomputable def K.rVolumes (a : Ship × Bulbs × Survey) : Range × Int := if (r_ready a != 0) = true then (⟨⟨0, 0⟩, ⟨0, 0⟩⟩, r_ready a) else if (!(r_volumes a.1 a.2.2).2) = true then (⟨⟨0, 0⟩, ⟨0, 0⟩⟩, 9) else ((r_volumes a.1 a.2.2).1, 0)
theorem K.rVolumes_eq (a : Ship × Bulbs × Survey) : callT1 P BKN121 30 15 D_rrdy R_rVol a = some (rVolumes a) := by
  obtain ⟨s, b, x⟩ := a
  rw [fn_rVol]; unfold rVolumes
  refine br_step (fun _ => rfl) (fun h => ?_)
  obtain ⟨hs, hb, hg, hd, he⟩ := ready_ok (bne_zero h)
  exact chk_step (volumes_is hs hg he).1 (br_step (fun _ => rfl) (fun _ => rfl))
noncomputable def K.rMass (a : Ship × Bulbs × Survey) : Span × Int := if (r_ready a != 0) = true then (⟨0, 0⟩, r_ready a) else if r_none (r_mass a.1 a.2.1 a.2.2) = true then (⟨0, 0⟩, 9) else (r_mass a.1 a.2.1 a.2.2, 0)
theorem K.rMass_eq (a : Ship × Bulbs × Survey) : callT1 P BKN121 30 16 D_rrdy R_off a = some (rMass a) := by
  obtain ⟨s, b, x⟩ := a
  rw [fn_rMas]; unfold rMass
  refine br_step (fun _ => rfl) (fun h => ?_)
  obtain ⟨hs, hb, hg, hd, he⟩ := ready_ok (bne_zero h)
  exact chk_step (massOk_is hs hg he).2 (br_step (fun _ => rfl) (fun _ => rfl))
noncomputable def K.rPossible (a : Ship × Bulbs × Survey × Int) : Bool × Int := if (r_ready (a.1, a.2.1, a.2.2.1) != 0) = true then (false, r_ready (a.1, a.2.1, a.2.2.1)) else
  if decide (a.2.2.2 ≥ (r_mass a.1 a.2.1 a.2.2.1).lo) = true then (decide (a.2.2.2 ≤ (r_mass a.1 a.2.1 a.2.2.1).hi), 0) else (false, 0)
theorem K.rPossible_eq (a : Ship × Bulbs × Survey × Int) : callT1 P BKN121 30 18 D_rpos R_rpos a = some (rPossible a) := by
  obtain ⟨s, b, x, n⟩ := a
  rw [fn_rPos]; unfold rPossible
  refine br_step (fun _ => rfl) (fun h => ?_)
  obtain ⟨hs, hb, hg, hd, he⟩ := ready_ok (bne_zero h)
  exact chk_step (massOk_is hs hg he).2 (br_step (fun _ => rfl) (fun _ => rfl))
noncomputable def K.sVolumes (a : Ship × Bulbs × Survey) : Range × Int := if (checked a != 0) = true then (⟨⟨0, 0⟩, ⟨0, 0⟩⟩, checked a) else if (!(volumes a.1 a.2.2).2) = true then (⟨⟨0, 0⟩, ⟨0, 0⟩⟩, 9) else (⟨r_low (volumes a.1 a.2.2).1.1, r_low (volumes a.1 a.2.2).1.2⟩, 0)
theorem K.sVolumes_eq (a : Ship × Bulbs × Survey) : callT1 P BKN122 30 14 D_rrdy R_rVol a = some (sVolumes a) := by
  obtain ⟨s, b, x⟩ := a
  rw [fn_sVol]; unfold sVolumes
  refine br_step (fun _ => rfl) (fun h => ?_)
  obtain ⟨hs, hb, hg, hd, he⟩ := checked_ok (bne_zero h)
  refine chk_step (decide_eq_true hs.mean.pos) (br_step (fun _ => rfl) (fun hn => ?_))
  have hv : void (ySpan s x) = false := by
    cases hv : void (ySpan s x) with
    | false => rfl
    | true => exfalso; apply hn; show (!(volumes s x).2) = true; unfold volumes; rw [hv]; rfl
  obtain ⟨⟨a1, a2, a3⟩, b1, b2, b3⟩ := wheres (x := x) hs hv
  have e : volumes s x = ((whereOf s.mean (ySpan s x).lo, whereOf s.mean (ySpan s x).hi), true) := by unfold volumes; rw [hv]; rfl
  refine chk_step ?_ (chk_step ?_ rfl)
  · show lowOk (volumes s x).1.1 = true; rw [e]; exact low_ok a2
  · show lowOk (volumes s x).1.2 = true; rw [e]; exact low_ok b2
noncomputable def K.sMass (a : Ship × Bulbs × Survey) : Span × Int := if (checked a != 0) = true then (⟨0, 0⟩, checked a) else if void (massOf a.1 a.2.1 a.2.2) = true then (⟨0, 0⟩, 9) else (massOf a.1 a.2.1 a.2.2, 0)
theorem K.sMass_eq (a : Ship × Bulbs × Survey) : callT1 P BKN122 30 12 D_rrdy R_off a = some (sMass a) := by
  obtain ⟨s, b, x⟩ := a
  rw [fn_sMas]; unfold sMass
  refine br_step (fun _ => rfl) (fun h => ?_)
  obtain ⟨hs, hb, hg, hd, he⟩ := checked_ok (bne_zero h)
  exact chk_step (massOk_is hs hg he).1 (br_step (fun _ => rfl) (fun _ => rfl))
noncomputable def K.sPossible (a : Ship × Bulbs × Survey × Int) : Bool × Int := if (checked (a.1, a.2.1, a.2.2.1) != 0) = true then (false, checked (a.1, a.2.1, a.2.2.1)) else
  (within a.2.2.2 (massOf a.1 a.2.1 a.2.2.1).lo (massOf a.1 a.2.1 a.2.2.1).hi, 0)
theorem K.sPossible_eq (a : Ship × Bulbs × Survey × Int) : callT1 P BKN122 30 17 D_rpos R_rpos a = some (sPossible a) := by
  obtain ⟨s, b, x, n⟩ := a
  rw [fn_sPos]; unfold sPossible
  refine br_step (fun _ => rfl) (fun h => ?_)
  obtain ⟨hs, hb, hg, hd, he⟩ := checked_ok (bne_zero h)
  exact chk_step (massOk_is hs hg he).1 rfl
noncomputable def BKW11 : Tab := BKN122.addCall 15 (callE D_rrdy R_rVol (fun a => .ret (rVolumes a)))
theorem tKW11 : TabOk P BKW11 := TabOk.addPC tKN122 (fun a r h => by rw [← ret_some h]; exact call_of okP tKN121 (rVolumes_eq a))
noncomputable def BKW12 : Tab := BKW11.addCall 16 (callE D_rrdy R_off (fun a => .ret (rMass a)))
theorem tKW12 : TabOk P BKW12 := TabOk.addPC tKW11 (fun a r h => by rw [← ret_some h]; exact call_of okP tKN121 (rMass_eq a))
noncomputable def BKW13 : Tab := BKW12.addCall 18 (callE D_rpos R_rpos (fun a => .ret (rPossible a)))
theorem tKW13 : TabOk P BKW13 := TabOk.addPC tKW12 (fun a r h => by rw [← ret_some h]; exact call_of okP tKN121 (rPossible_eq a))
noncomputable def BKW14 : Tab := BKW13.addCall 14 (callE D_rrdy R_rVol (fun a => .ret (sVolumes a)))
theorem tKW14 : TabOk P BKW14 := TabOk.addPC tKW13 (fun a r h => by rw [← ret_some h]; exact call_of okP tKN122 (sVolumes_eq a))
noncomputable def BKW15 : Tab := BKW14.addCall 12 (callE D_rrdy R_off (fun a => .ret (sMass a)))
theorem tKW15 : TabOk P BKW15 := TabOk.addPC tKW14 (fun a r h => by rw [← ret_some h]; exact call_of okP tKN122 (sMass_eq a))
noncomputable def BKW16 : Tab := BKW15.addCall 17 (callE D_rpos R_rpos (fun a => .ret (sPossible a)))
theorem tKW16 : TabOk P BKW16 := TabOk.addPC tKW15 (fun a r h => by rw [← ret_some h]; exact call_of okP tKN122 (sPossible_eq a))
theorem K.rVolumes_is (a : Ship × Bulbs × Survey) : rVolumes a = sVolumes a := by
  obtain ⟨s, b, x⟩ := a
  unfold rVolumes sVolumes
  rw [r_ready_is]
  by_cases h : (checked (s, b, x) != 0) = true
  · rw [if_pos h, if_pos h]
  rw [if_neg h, if_neg h]
  obtain ⟨hs, hb, hg, hd, he⟩ := checked_ok (bne_zero h)
  simp only
  rw [(volumes_is hs hg he).2]
  unfold volumes
  cases void (ySpan s x) <;> rfl
theorem K.rMass_is (a : Ship × Bulbs × Survey) : rMass a = sMass a := by
  obtain ⟨s, b, x⟩ := a
  unfold rMass sMass
  rw [r_ready_is]
  by_cases h : (checked (s, b, x) != 0) = true
  · rw [if_pos h, if_pos h]
  rw [if_neg h, if_neg h]
  obtain ⟨hs, hb, hg, hd, he⟩ := checked_ok (bne_zero h)
  simp only
  rw [mass_is hs hb hg hd he]; rfl
theorem K.rPossible_is (a : Ship × Bulbs × Survey × Int) : rPossible a = sPossible a := by
  obtain ⟨s, b, x, n⟩ := a
  unfold rPossible sPossible
  rw [r_ready_is]
  simp only
  by_cases h : (checked (s, b, x) != 0) = true
  · rw [if_pos h, if_pos h]
  rw [if_neg h, if_neg h]
  obtain ⟨hs, hb, hg, hd, he⟩ := checked_ok (bne_zero h)
  rw [mass_is hs hb hg hd he]
  unfold within
  show (if decide ((massOf s b x).lo ≤ n) = true then _ else _) = _
  cases decide ((massOf s b x).lo ≤ n) <;> rfl
def D_lmass := DecL.cons dShip (.cons dBulbs (.cons dSurvey (.last (dI .i64) 0)))
theorem fn_lawMasses : ∀ a, (callT1 P BKW16 30 4 D_lmass dB) a = T.run (
  .br (!ship (Prod.fst a)) (
    .ret (true)) (
    .br (!few (Prod.fst (Prod.snd a))) (
      .ret (true)) (
      .br (Frac.num (Range.lo (Prod.fst (sVolumes (Prod.fst a, Prod.fst (Prod.snd a), Prod.fst (Prod.snd (Prod.snd a)))))) == Frac.num (Range.lo (Prod.fst (rVolumes (Prod.fst a, Prod.fst (Prod.snd a), Prod.fst (Prod.snd (Prod.snd a)))))) && Frac.den (Range.lo (Prod.fst (sVolumes (Prod.fst a, Prod.fst (Prod.snd a), Prod.fst (Prod.snd (Prod.snd a)))))) == Frac.den (Range.lo (Prod.fst (rVolumes (Prod.fst a, Prod.fst (Prod.snd a), Prod.fst (Prod.snd (Prod.snd a)))))) && (Frac.num (Range.hi (Prod.fst (sVolumes (Prod.fst a, Prod.fst (Prod.snd a), Prod.fst (Prod.snd (Prod.snd a)))))) == Frac.num (Range.hi (Prod.fst (rVolumes (Prod.fst a, Prod.fst (Prod.snd a), Prod.fst (Prod.snd (Prod.snd a)))))) && Frac.den (Range.hi (Prod.fst (sVolumes (Prod.fst a, Prod.fst (Prod.snd a), Prod.fst (Prod.snd (Prod.snd a)))))) == Frac.den (Range.hi (Prod.fst (rVolumes (Prod.fst a, Prod.fst (Prod.snd a), Prod.fst (Prod.snd (Prod.snd a)))))))) (
        .br (Prod.snd (sVolumes (Prod.fst a, Prod.fst (Prod.snd a), Prod.fst (Prod.snd (Prod.snd a)))) == Prod.snd (rVolumes (Prod.fst a, Prod.fst (Prod.snd a), Prod.fst (Prod.snd (Prod.snd a))))) (
          .br (Span.lo (Prod.fst (sMass (Prod.fst a, Prod.fst (Prod.snd a), Prod.fst (Prod.snd (Prod.snd a))))) == Span.lo (Prod.fst (rMass (Prod.fst a, Prod.fst (Prod.snd a), Prod.fst (Prod.snd (Prod.snd a))))) && Span.hi (Prod.fst (sMass (Prod.fst a, Prod.fst (Prod.snd a), Prod.fst (Prod.snd (Prod.snd a))))) == Span.hi (Prod.fst (rMass (Prod.fst a, Prod.fst (Prod.snd a), Prod.fst (Prod.snd (Prod.snd a)))))) (
            .br (Prod.snd (sMass (Prod.fst a, Prod.fst (Prod.snd a), Prod.fst (Prod.snd (Prod.snd a)))) == Prod.snd (rMass (Prod.fst a, Prod.fst (Prod.snd a), Prod.fst (Prod.snd (Prod.snd a))))) (
              .br (Prod.fst (sPossible a) == Prod.fst (rPossible a)) (
                .ret (Prod.snd (sPossible a) == Prod.snd (rPossible a))) (
                .ret (false))) (
              .ret (false))) (
            .ret (false))) (
          .ret (false))) (
        .ret (false))))) := fun a => by kernel_rfl
noncomputable def K.lawMasses (a : Ship × Bulbs × Survey × Int) : Bool := (if (!ship (Prod.fst a)) = true then true else (if (!few (Prod.fst (Prod.snd a))) = true then true else (if (Frac.num (Range.lo (Prod.fst (sVolumes (Prod.fst a, Prod.fst (Prod.snd a), Prod.fst (Prod.snd (Prod.snd a)))))) == Frac.num (Range.lo (Prod.fst (rVolumes (Prod.fst a, Prod.fst (Prod.snd a), Prod.fst (Prod.snd (Prod.snd a)))))) && Frac.den (Range.lo (Prod.fst (sVolumes (Prod.fst a, Prod.fst (Prod.snd a), Prod.fst (Prod.snd (Prod.snd a)))))) == Frac.den (Range.lo (Prod.fst (rVolumes (Prod.fst a, Prod.fst (Prod.snd a), Prod.fst (Prod.snd (Prod.snd a)))))) && (Frac.num (Range.hi (Prod.fst (sVolumes (Prod.fst a, Prod.fst (Prod.snd a), Prod.fst (Prod.snd (Prod.snd a)))))) == Frac.num (Range.hi (Prod.fst (rVolumes (Prod.fst a, Prod.fst (Prod.snd a), Prod.fst (Prod.snd (Prod.snd a)))))) && Frac.den (Range.hi (Prod.fst (sVolumes (Prod.fst a, Prod.fst (Prod.snd a), Prod.fst (Prod.snd (Prod.snd a)))))) == Frac.den (Range.hi (Prod.fst (rVolumes (Prod.fst a, Prod.fst (Prod.snd a), Prod.fst (Prod.snd (Prod.snd a)))))))) = true then (if (Prod.snd (sVolumes (Prod.fst a, Prod.fst (Prod.snd a), Prod.fst (Prod.snd (Prod.snd a)))) == Prod.snd (rVolumes (Prod.fst a, Prod.fst (Prod.snd a), Prod.fst (Prod.snd (Prod.snd a))))) = true then (if (Span.lo (Prod.fst (sMass (Prod.fst a, Prod.fst (Prod.snd a), Prod.fst (Prod.snd (Prod.snd a))))) == Span.lo (Prod.fst (rMass (Prod.fst a, Prod.fst (Prod.snd a), Prod.fst (Prod.snd (Prod.snd a))))) && Span.hi (Prod.fst (sMass (Prod.fst a, Prod.fst (Prod.snd a), Prod.fst (Prod.snd (Prod.snd a))))) == Span.hi (Prod.fst (rMass (Prod.fst a, Prod.fst (Prod.snd a), Prod.fst (Prod.snd (Prod.snd a)))))) = true then (if (Prod.snd (sMass (Prod.fst a, Prod.fst (Prod.snd a), Prod.fst (Prod.snd (Prod.snd a)))) == Prod.snd (rMass (Prod.fst a, Prod.fst (Prod.snd a), Prod.fst (Prod.snd (Prod.snd a))))) = true then (if (Prod.fst (sPossible a) == Prod.fst (rPossible a)) = true then Prod.snd (sPossible a) == Prod.snd (rPossible a) else false) else false) else false) else false) else false)))
theorem eq_lawMasses (a : Ship × Bulbs × Survey × Int) : (callT1 P BKW16 30 4 D_lmass dB) a = some (K.lawMasses a) := (fn_lawMasses a).trans (T.br_some rfl (T.br_some rfl (T.br_some (T.br_some (T.br_some (T.br_some (T.br_some rfl rfl) rfl) rfl) rfl) rfl)))
noncomputable def BKW17 : Tab := BKW16.addCall 4 (callE D_lmass dB (fun a => .ret (K.lawMasses a)))
theorem tKW17 : TabOk P BKW17 := TabOk.addFn (d := 30) okP tKW16 (fun a r h => by rw [eq_lawMasses]; exact congrArg some (ret_some h))
theorem K.lawMasses_true (a : Ship × Bulbs × Survey × Int) : lawMasses a = true := by
  unfold lawMasses
  simp only [rVolumes_is, rMass_is, rPossible_is, BEq.rfl, Bool.and_self, if_true, ite_self]
end Go.Proofs.Ytkajafmphemedaa
/-! KX1 -/
namespace Go.Proofs.Ytkajafmphemedaa
open Ev K
set_option maxRecDepth 100000
noncomputable def BKX11 : Tab := BKUa3.addCall 17 (callE D_rpos R_rpos (fun a => .ret (sPossible a)))
theorem tKX11 : TabOk P BKX11 := TabOk.addPC tKUa3 (fun a r h => by rw [← ret_some h]; exact call_of okP tKN122 (sPossible_eq a))
def D_lwi := DecL.cons (dSpan) (.last (dSpan) 0)
theorem fn_lwithin : ∀ a, (callT1 P BKX11 30 13 D_lwi dB) a = T.run (
  .br (decide (Span.lo (Prod.fst a) ≥ Span.lo (Prod.snd a))) (
    .ret (decide (Span.hi (Prod.fst a) ≤ Span.hi (Prod.snd a)))) (
    .ret (false))) := fun a => by kernel_rfl
noncomputable def K.lwithin (a : Span × Span) : Bool := (if (decide (Span.lo (Prod.fst a) ≥ Span.lo (Prod.snd a))) = true then decide (Span.hi (Prod.fst a) ≤ Span.hi (Prod.snd a)) else false)
theorem eq_lwithin (a : Span × Span) : (callT1 P BKX11 30 13 D_lwi dB) a = some (K.lwithin a) := (fn_lwithin a).trans (T.br_some rfl rfl)
noncomputable def BKX12 : Tab := BKX11.addCall 13 (callE D_lwi dB (fun a => .ret (K.lwithin a)))
theorem tKX12 : TabOk P BKX12 := TabOk.addFn (d := 30) okP tKX11 (fun a r h => by rw [eq_lwithin]; exact congrArg some (ret_some h))
def S_lck := DecS.mk0 (.skips 2 (.cons xSurveys (.unit (dLp 0 0 0 0) (.unit (dLp 1 0 0 0) (.skips 2 (.last (dI .i64) 16)))))) (.flat 27 lShip (.flat 31 lBulbs .nil))
def X_lck := DecX.or (DecX.one .ret [6] (DecS.mk1 (.skips 6 (.last dB 17)))) (DecX.one (.exit 0) [7, 2, 4, 3] S_lck)
noncomputable def K.st_lck := loopT1 P BKX12 30 32 17 [7, 2, 4, 3] S_lck X_lck
theorem sl_lck : ∀ s, (K.st_lck) s = T.run (
  .br (decide (Prod.snd (Prod.fst s) < (↑(len (Prod.fst (Prod.fst s))) : Int))) (
    .chk (decide ((0 : Int) ≤ Prod.snd (Prod.fst s) ∧ Prod.snd (Prod.fst s) < (↑(XS.len (Prod.fst (Prod.fst s))) : Int))) <|
    .br (Check (Prod.fst (Prod.snd (Prod.snd s)), svy (Prod.fst (Prod.fst s)) (Int.toNat (Prod.snd (Prod.fst s)))) != (0 : Int)) (
      .ret (Sum.inr (Sum.inl false))) (
      .ret (Sum.inl ((Prod.fst (Prod.fst s), IntKind.wrap IntKind.i64 (Prod.snd (Prod.fst s) + (1 : Int))), Prod.fst (Prod.snd s), Prod.fst (Prod.snd (Prod.snd s)), PUnit.unit)))) (
    .ret (Sum.inr (Sum.inr (Prod.fst s, Prod.fst (Prod.snd s), Prod.fst (Prod.snd (Prod.snd s)), PUnit.unit))))) := fun s => by kernel_rfl
noncomputable def K.L_lck := lim K.st_lck
noncomputable def K.p_lck (b : Bulbs) (x : XS) (i : Nat) : Bool := Check (b, svy x i) != 0
theorem K.L_lck_eq (s : Ship) (b : Bulbs) (x : XS) : K.L_lck ((x, 0), s, b, ()) = some (match first (p_lck b x) (len x) with | some _ => Sum.inl false | none => Sum.inr ((x, (len x : Int)), s, b, ())) := by
  have e1 := K.len_le x; have e2 := K.len_le' x
  refine lim_find (fun i => ((x, (i : Int)), s, b, ())) (len x) (p_lck b x) (fun _ => Sum.inl false) (Sum.inr ((x, (len x : Int)), s, b, ())) (fun i hi hp => ?_) (fun i hi hp => ?_) ?_
  · rw [sl_lck]; unfold p_lck at hp
    have c1 : (0 : Int) ≤ i ∧ (i : Int) < x.len := by omega
    simp only [T.run_br, T.run_chk, T.run_ret, decide_eq_true_eq, Int.toNat_natCast, if_pos c1]
    rw [if_pos (by omega), if_pos hp]
  · rw [sl_lck]; unfold p_lck at hp
    have c1 : (0 : Int) ≤ i ∧ (i : Int) < x.len := by omega
    simp only [T.run_br, T.run_chk, T.run_ret, decide_eq_true_eq, Int.toNat_natCast, if_pos c1]
    rw [if_pos (by omega), if_neg (by rw [hp]; decide), w64_in (by omega) (by omega)]; rfl
  · rw [sl_lck]
    simp only [T.run_br, T.run_chk, T.run_ret, decide_eq_true_eq]
    rw [if_neg (by omega)]
noncomputable def BKX13 : Tab := BKX12.addNode 32 17 (nodeE [7, 2, 4, 3] S_lck X_lck (fun s => .obs (K.L_lck s) .ret))
theorem tKX13 : TabOk P BKX13 := TabOk.addLoop (d := 30) okP tKX12 (by kernel_rfl) (by kernel_rfl) (fun s r h => obs_ret h)
theorem fn_lck : ∀ a, (callT1 P BKX13 30 32 D_mss dB) a = T.run (
  .obs (L_lck ((Prod.snd (Prod.snd a), (0 : Int)), Prod.fst a, Prod.fst (Prod.snd a), PUnit.unit)) fun x0 =>
    .sum (x0) (fun x1 =>
      .ret (x1)) (fun x1 =>
      .ret (hullCheck (Prod.fst (Prod.snd x1)) == (0 : Int)))) := fun a => by kernel_rfl
noncomputable def K.lchecked (a : Ship × Bulbs × XS) : Bool := (first (p_lck a.2.1 a.2.2) (len a.2.2)).isNone && hullCheck a.1 == 0
theorem K.lchecked_eq (a : Ship × Bulbs × XS) : callT1 P BKX13 30 32 D_mss dB a = some (lchecked a) := by
  rw [fn_lck]; unfold lchecked
  show T.run (.obs (L_lck ((a.2.2, 0), a.1, a.2.1, ())) _) = _
  rw [L_lck_eq]
  cases first (p_lck a.2.1 a.2.2) (len a.2.2) <;> rfl
noncomputable def BKX14 : Tab := BKX13.addCall 32 (callE D_mss dB (fun a => .ret (lchecked a)))
theorem tKX14 : TabOk P BKX14 := TabOk.addPC tKX13 (fun a r h => by rw [← ret_some h]; exact call_of okP tKX13 (lchecked_eq a))
end Go.Proofs.Ytkajafmphemedaa
/-! KX2 -/
namespace Go.Proofs.Ytkajafmphemedaa
open Ev K
set_option maxRecDepth 100000
def S_sev := DecS.mk0 (.skips 2 (.cons xSurveys (.cons xSurveys (.cons (dI .i64) (.unit (dLp 0 0 0 0) (.unit (dLp 1 0 0 0) (.skips 4 (.cons dB (.unit (dLp 2 0 0 0) (.cons (dI .i64) (.cons dB (.last (dI .i64) 193)))))))))))) (.flat 27 lShip (.flat 31 lBulbs (.flat 33 lSpan .nil)))
def X_sev := DecX.one (.exit 0) [15, 14, 4, 2, 6, 5, 11, 13, 3, 12] S_sev
noncomputable def K.st_sev := loopT1 P BKX14 30 8 73 [15, 14, 4, 2, 6, 5, 11, 13, 3, 12] S_sev X_sev
theorem sl_sev : ∀ s, (K.st_sev) s = T.run (
  .br (decide (Prod.snd (Prod.snd (Prod.snd (Prod.snd (Prod.snd (Prod.snd (Prod.fst s)))))) < (↑(len (Prod.fst (Prod.fst s))) : Int))) (
    .chk (decide ((0 : Int) ≤ Prod.snd (Prod.snd (Prod.snd (Prod.snd (Prod.snd (Prod.snd (Prod.fst s)))))) ∧ Prod.snd (Prod.snd (Prod.snd (Prod.snd (Prod.snd (Prod.snd (Prod.fst s)))))) < (↑(XS.len (Prod.fst (Prod.fst s))) : Int))) <|
    .br (Prod.fst (Prod.snd (Prod.snd (Prod.snd (Prod.snd (Prod.snd (Prod.fst s))))))) (
      .br (Prod.fst (sPossible (Prod.fst (Prod.snd s), Prod.fst (Prod.snd (Prod.snd s)), svy (Prod.fst (Prod.fst s)) (Int.toNat (Prod.snd (Prod.snd (Prod.snd (Prod.snd (Prod.snd (Prod.snd (Prod.fst s)))))))), Prod.fst (Prod.snd (Prod.snd (Prod.fst s)))))) (
        .ret (Sum.inl ((Prod.fst (Prod.fst s), Prod.fst (Prod.snd (Prod.fst s)), Prod.fst (Prod.snd (Prod.snd (Prod.fst s))), Prod.fst (Prod.snd (Prod.snd (Prod.snd (Prod.fst s)))), Prod.fst (Prod.snd (Prod.snd (Prod.snd (Prod.snd (Prod.fst s))))), Prod.snd (sPossible (Prod.fst (Prod.snd s), Prod.fst (Prod.snd (Prod.snd s)), svy (Prod.fst (Prod.fst s)) (Int.toNat (Prod.snd (Prod.snd (Prod.snd (Prod.snd (Prod.snd (Prod.snd (Prod.fst s)))))))), Prod.fst (Prod.snd (Prod.snd (Prod.fst s))))) == (0 : Int), IntKind.wrap IntKind.i64 (Prod.snd (Prod.snd (Prod.snd (Prod.snd (Prod.snd (Prod.snd (Prod.fst s)))))) + (1 : Int))), Prod.fst (Prod.snd s), Prod.fst (Prod.snd (Prod.snd s)), Prod.fst (Prod.snd (Prod.snd (Prod.snd s))), PUnit.unit))) (
        .ret (Sum.inl ((Prod.fst (Prod.fst s), Prod.fst (Prod.snd (Prod.fst s)), Prod.fst (Prod.snd (Prod.snd (Prod.fst s))), Prod.fst (Prod.snd (Prod.snd (Prod.snd (Prod.fst s)))), Prod.fst (Prod.snd (Prod.snd (Prod.snd (Prod.snd (Prod.fst s))))), false, IntKind.wrap IntKind.i64 (Prod.snd (Prod.snd (Prod.snd (Prod.snd (Prod.snd (Prod.snd (Prod.fst s)))))) + (1 : Int))), Prod.fst (Prod.snd s), Prod.fst (Prod.snd (Prod.snd s)), Prod.fst (Prod.snd (Prod.snd (Prod.snd s))), PUnit.unit)))) (
      .ret (Sum.inl ((Prod.fst (Prod.fst s), Prod.fst (Prod.snd (Prod.fst s)), Prod.fst (Prod.snd (Prod.snd (Prod.fst s))), Prod.fst (Prod.snd (Prod.snd (Prod.snd (Prod.fst s)))), Prod.fst (Prod.snd (Prod.snd (Prod.snd (Prod.snd (Prod.fst s))))), false, IntKind.wrap IntKind.i64 (Prod.snd (Prod.snd (Prod.snd (Prod.snd (Prod.snd (Prod.snd (Prod.fst s)))))) + (1 : Int))), Prod.fst (Prod.snd s), Prod.fst (Prod.snd (Prod.snd s)), Prod.fst (Prod.snd (Prod.snd (Prod.snd s))), PUnit.unit)))) (
    .ret (Sum.inr (Prod.fst s, Prod.fst (Prod.snd s), Prod.fst (Prod.snd (Prod.snd s)), Prod.fst (Prod.snd (Prod.snd (Prod.snd s))), PUnit.unit)))) := fun s => by kernel_rfl
noncomputable def K.L_sev := lim K.st_sev
noncomputable def K.f_sev (s : Ship) (b : Bulbs) (x : XS) (m : Int) (all : Bool) (i : Nat) : Bool := all && ((sPossible (s, b, svy x i, m)).1 && (sPossible (s, b, svy x i, m)).2 == 0)
theorem K.L_sev_eq (s : Ship) (b : Bulbs) (x y : XS) (m e : Int) (up all : Bool) (t : Span) : K.L_sev ((x, y, m, up, e, all, 0), s, b, t, ()) = some ((x, y, m, up, e, (List.range (len x)).foldl (f_sev s b x m) all, (len x : Int)), s, b, t, ()) := by
  have e1 := K.len_le x; have e2 := K.len_le' x
  refine lim_fold (fun i all => ((x, y, m, up, e, all, (i : Int)), s, b, t, ())) (len x) (f_sev s b x m) (fun all => ((x, y, m, up, e, all, (len x : Int)), s, b, t, ())) (fun i hi all => ?_) (fun a => ?_) all
  · rw [sl_sev]
    have c1 : (0 : Int) ≤ i ∧ (i : Int) < x.len := by omega
    simp only [T.run_br, T.run_chk, T.run_ret, decide_eq_true_eq, Int.toNat_natCast, if_pos c1]
    rw [if_pos (by omega), w64_in (by omega) (by omega)]
    unfold f_sev
    cases all <;> cases (sPossible (s, b, svy x i, m)).1 <;> rfl
  · rw [sl_sev]
    simp only [T.run_br, T.run_chk, T.run_ret, decide_eq_true_eq]
    rw [if_neg (by omega)]
noncomputable def BKX21 : Tab := BKX14.addNode 8 73 (nodeE [15, 14, 4, 2, 6, 5, 11, 13, 3, 12] S_sev X_sev (fun s => .obs (K.L_sev s) .ret))
theorem tKX21 : TabOk P BKX21 := TabOk.addLoop (d := 30) okP tKX14 (by kernel_rfl) (by kernel_rfl) (fun s r h => obs_ret h)
def X_ret := DecX.one .ret [10] (DecS.mk1 (.skips 10 (.last dB 198)))
def D_c26 := DecS.mk0 (.skips 11 (.cons dB (.skips 10 (.unit (dLp 0 0 0 0) (.cons (dI .i64) (.unit (dLp 1 0 0 0) (.last (dI .i64) 183))))))) (.flat 33 lSpan (.flat 33 lSpan .nil))
theorem fn_sev26 : ∀ s, (cutT1 P BKX21 30 8 208 D_c26 X_ret) s = T.run (
  .br (Prod.fst (Prod.fst s)) (
    .br ((Prod.fst (Prod.snd (Prod.fst s)) == (0 : Int)) == (Prod.snd (Prod.snd (Prod.fst s)) == (0 : Int))) (
      .br (Prod.fst (Prod.snd (Prod.fst s)) != (0 : Int)) (
        .ret (true)) (
        .br (Span.lo (Prod.fst (Prod.snd s)) == IntKind.wrap IntKind.i64 ((0 : Int) - Span.hi (Prod.fst (Prod.snd (Prod.snd s))))) (
          .ret (Span.hi (Prod.fst (Prod.snd s)) == IntKind.wrap IntKind.i64 ((0 : Int) - Span.lo (Prod.fst (Prod.snd (Prod.snd s)))))) (
          .ret (false)))) (
      .ret (false))) (
    .ret (false))) := fun s => by kernel_rfl
noncomputable def K.sev26 (s : (Bool × Int × Int) × Span × Span × Unit) : Bool := (if (Prod.fst (Prod.fst s)) = true then (if ((Prod.fst (Prod.snd (Prod.fst s)) == (0 : Int)) == (Prod.snd (Prod.snd (Prod.fst s)) == (0 : Int))) = true then (if (Prod.fst (Prod.snd (Prod.fst s)) != (0 : Int)) = true then true else (if (Span.lo (Prod.fst (Prod.snd s)) == IntKind.wrap IntKind.i64 ((0 : Int) - Span.hi (Prod.fst (Prod.snd (Prod.snd s))))) = true then Span.hi (Prod.fst (Prod.snd s)) == IntKind.wrap IntKind.i64 ((0 : Int) - Span.lo (Prod.fst (Prod.snd (Prod.snd s)))) else false)) else false) else false)
theorem eq_sev26 (s : (Bool × Int × Int) × Span × Span × Unit) : (cutT1 P BKX21 30 8 208 D_c26 X_ret) s = some (K.sev26 s) := (fn_sev26 s).trans (T.br_some (T.br_some (T.br_some rfl (T.br_some rfl rfl)) rfl) rfl)
noncomputable def BKX22 : Tab := (BKX21.addNode 8 208 (nodeE [11, 22, 23, 24, 25] D_c26 X_ret (fun a => .ret (K.sev26 a)))).addCut 8 208
theorem tKX22 : TabOk P BKX22 := TabOk.addCut (d := 30) okP tKX21 (by kernel_rfl) (fun a r h => by rw [eq_sev26]; exact congrArg some (ret_some h))
def D_c24 := DecS.mk0 (.skips 11 (.cons dB (.skip (.cons (dI .i64) (.skips 6 (.unit (dLp 0 0 0 0) (.cons (dI .i64) (.unit (dLp 1 0 0 0) (.cons (dI .i64) (.unit (dLp 2 0 0 0) (.last (dI .i64) 183))))))))))) (.flat 33 lSpan (.flat 33 lSpan (.flat 33 lSpan .nil)))
theorem fn_sev24 : ∀ s, (cutT1 P BKX22 30 8 192 D_c24 X_ret) s = T.run (
  .br (!(Prod.fst (Prod.snd (Prod.snd (Prod.fst s))) == (0 : Int)) == (Prod.fst (Prod.snd (Prod.fst s)) == (0 : Int))) (
    .ret (false)) (
    .br (Prod.fst (Prod.snd (Prod.snd (Prod.fst s))) == (0 : Int)) (
      .br (Span.lo (Prod.fst (Prod.snd s)) != IntKind.wrap IntKind.i64 ((0 : Int) - Span.hi (Prod.fst (Prod.snd s)))) (
        .ret (false)) (
        .ret (sev26 ((Prod.fst (Prod.fst s), Prod.snd (Prod.snd (Prod.snd (Prod.fst s)))), Prod.fst (Prod.snd (Prod.snd s)), Prod.fst (Prod.snd (Prod.snd (Prod.snd s))), PUnit.unit)))) (
      .ret (sev26 ((Prod.fst (Prod.fst s), Prod.snd (Prod.snd (Prod.snd (Prod.fst s)))), Prod.fst (Prod.snd (Prod.snd s)), Prod.fst (Prod.snd (Prod.snd (Prod.snd s))), PUnit.unit))))) := fun s => by kernel_rfl
noncomputable def K.sev24 (s : (Bool × Int × Int × Int × Int) × Span × Span × Span × Unit) : Bool := (if (!(Prod.fst (Prod.snd (Prod.snd (Prod.fst s))) == (0 : Int)) == (Prod.fst (Prod.snd (Prod.fst s)) == (0 : Int))) = true then false else (if (Prod.fst (Prod.snd (Prod.snd (Prod.fst s))) == (0 : Int)) = true then (if (Span.lo (Prod.fst (Prod.snd s)) != IntKind.wrap IntKind.i64 ((0 : Int) - Span.hi (Prod.fst (Prod.snd s)))) = true then false else sev26 ((Prod.fst (Prod.fst s), Prod.snd (Prod.snd (Prod.snd (Prod.fst s)))), Prod.fst (Prod.snd (Prod.snd s)), Prod.fst (Prod.snd (Prod.snd (Prod.snd s))), PUnit.unit)) else sev26 ((Prod.fst (Prod.fst s), Prod.snd (Prod.snd (Prod.snd (Prod.fst s)))), Prod.fst (Prod.snd (Prod.snd s)), Prod.fst (Prod.snd (Prod.snd (Prod.snd s))), PUnit.unit)))
theorem eq_sev24 (s : (Bool × Int × Int × Int × Int) × Span × Span × Span × Unit) : (cutT1 P BKX22 30 8 192 D_c24 X_ret) s = some (K.sev24 s) := (fn_sev24 s).trans (T.br_some rfl (T.br_some (T.br_some rfl rfl) rfl))
noncomputable def BKX23 : Tab := (BKX22.addNode 8 192 (nodeE [11, 13, 20, 21, 22, 23, 24, 25] D_c24 X_ret (fun a => .ret (K.sev24 a)))).addCut 8 192
theorem tKX23 : TabOk P BKX23 := TabOk.addCut (d := 30) okP tKX22 (by kernel_rfl) (fun a r h => by rw [eq_sev24]; exact congrArg some (ret_some h))
end Go.Proofs.Ytkajafmphemedaa
/-! KX3 -/
namespace Go.Proofs.Ytkajafmphemedaa
open Ev K
set_option maxRecDepth 100000
def D_c17 := DecS.mk0 (.skips 2 (.cons xSurveys (.cons xSurveys (.skip (.unit (dLp 0 0 0 0) (.unit (dLp 1 0 0 0) (.skips 4 (.cons dB (.unit (dLp 2 0 0 0) (.last (dI .i64) 195)))))))))) (.flat 27 lShip (.flat 31 lBulbs (.flat 33 lSpan .nil)))
theorem fn_c17 : ∀ s, (cutT1 P BKX23 30 8 136 D_c17 X_ret) s = T.run (
  .br (decide ((↑(len (Prod.fst (Prod.fst s))) : Int) > (1 : Int))) (
    .br (Prod.snd (Prod.snd (Prod.snd (Prod.fst s))) == (0 : Int)) (
      .chk (decide ((0 : Int) ≤ IntKind.wrap IntKind.i64 ((↑(len (Prod.fst (Prod.fst s))) : Int) - (1 : Int)) ∧ IntKind.wrap IntKind.i64 ((↑(len (Prod.fst (Prod.fst s))) : Int) - (1 : Int)) ≤ (↑(XS.len (Prod.fst (Prod.fst s))) : Int)) && (decide ((0 : Int) ≤ IntKind.wrap IntKind.i64 ((↑(len (Prod.fst (Prod.fst s))) : Int) - (1 : Int)) ∧ IntKind.wrap IntKind.i64 ((↑(len (Prod.fst (Prod.fst s))) : Int) - (1 : Int)) ≤ (↑(Int.toNat (IntKind.wrap IntKind.i64 ((↑(len (Prod.fst (Prod.fst s))) : Int) - (1 : Int)))) : Int)) && true)) <|
      .br (Prod.snd (sTog (Prod.fst (Prod.snd s), Prod.fst (Prod.snd (Prod.snd s)), XS.mk (XS.n (Prod.fst (Prod.fst s))) (XS.row (Prod.fst (Prod.fst s)) + (0 : Nat)) (Int.toNat (IntKind.wrap IntKind.i64 ((↑(len (Prod.fst (Prod.fst s))) : Int) - (1 : Int))) - (0 : Nat)) (some (Int.toNat (IntKind.wrap IntKind.i64 ((↑(len (Prod.fst (Prod.fst s))) : Int) - (1 : Int))) - (0 : Nat))) (XS.f (Prod.fst (Prod.fst s))))) != (0 : Int)) (
        .ret (false)) (
        .br (!lwithin (Prod.fst (Prod.snd (Prod.snd (Prod.snd s))), Prod.fst (sTog (Prod.fst (Prod.snd s), Prod.fst (Prod.snd (Prod.snd s)), XS.mk (XS.n (Prod.fst (Prod.fst s))) (XS.row (Prod.fst (Prod.fst s)) + (0 : Nat)) (Int.toNat (IntKind.wrap IntKind.i64 ((↑(len (Prod.fst (Prod.fst s))) : Int) - (1 : Int))) - (0 : Nat)) (some (Int.toNat (IntKind.wrap IntKind.i64 ((↑(len (Prod.fst (Prod.fst s))) : Int) - (1 : Int))) - (0 : Nat))) (XS.f (Prod.fst (Prod.fst s))))))) (
          .ret (false)) (
          .ret (sev24 ((Prod.fst (Prod.snd (Prod.snd (Prod.fst s))), Prod.snd (Prod.snd (Prod.snd (Prod.fst s))), Prod.snd (sTaken (Prod.fst (Prod.snd s), Prod.fst (Prod.snd (Prod.snd s)), Prod.fst (Prod.fst s), Prod.fst (Prod.fst s))), Prod.snd (sTaken (Prod.fst (Prod.snd s), Prod.fst (Prod.snd (Prod.snd s)), Prod.fst (Prod.fst s), Prod.fst (Prod.snd (Prod.fst s)))), Prod.snd (sTaken (Prod.fst (Prod.snd s), Prod.fst (Prod.snd (Prod.snd s)), Prod.fst (Prod.snd (Prod.fst s)), Prod.fst (Prod.fst s)))), Prod.fst (sTaken (Prod.fst (Prod.snd s), Prod.fst (Prod.snd (Prod.snd s)), Prod.fst (Prod.fst s), Prod.fst (Prod.fst s))), Prod.fst (sTaken (Prod.fst (Prod.snd s), Prod.fst (Prod.snd (Prod.snd s)), Prod.fst (Prod.fst s), Prod.fst (Prod.snd (Prod.fst s)))), Prod.fst (sTaken (Prod.fst (Prod.snd s), Prod.fst (Prod.snd (Prod.snd s)), Prod.fst (Prod.snd (Prod.fst s)), Prod.fst (Prod.fst s))), PUnit.unit))))) (
      .ret (sev24 ((Prod.fst (Prod.snd (Prod.snd (Prod.fst s))), Prod.snd (Prod.snd (Prod.snd (Prod.fst s))), Prod.snd (sTaken (Prod.fst (Prod.snd s), Prod.fst (Prod.snd (Prod.snd s)), Prod.fst (Prod.fst s), Prod.fst (Prod.fst s))), Prod.snd (sTaken (Prod.fst (Prod.snd s), Prod.fst (Prod.snd (Prod.snd s)), Prod.fst (Prod.fst s), Prod.fst (Prod.snd (Prod.fst s)))), Prod.snd (sTaken (Prod.fst (Prod.snd s), Prod.fst (Prod.snd (Prod.snd s)), Prod.fst (Prod.snd (Prod.fst s)), Prod.fst (Prod.fst s)))), Prod.fst (sTaken (Prod.fst (Prod.snd s), Prod.fst (Prod.snd (Prod.snd s)), Prod.fst (Prod.fst s), Prod.fst (Prod.fst s))), Prod.fst (sTaken (Prod.fst (Prod.snd s), Prod.fst (Prod.snd (Prod.snd s)), Prod.fst (Prod.fst s), Prod.fst (Prod.snd (Prod.fst s)))), Prod.fst (sTaken (Prod.fst (Prod.snd s), Prod.fst (Prod.snd (Prod.snd s)), Prod.fst (Prod.snd (Prod.fst s)), Prod.fst (Prod.fst s))), PUnit.unit)))) (
    .ret (sev24 ((Prod.fst (Prod.snd (Prod.snd (Prod.fst s))), Prod.snd (Prod.snd (Prod.snd (Prod.fst s))), Prod.snd (sTaken (Prod.fst (Prod.snd s), Prod.fst (Prod.snd (Prod.snd s)), Prod.fst (Prod.fst s), Prod.fst (Prod.fst s))), Prod.snd (sTaken (Prod.fst (Prod.snd s), Prod.fst (Prod.snd (Prod.snd s)), Prod.fst (Prod.fst s), Prod.fst (Prod.snd (Prod.fst s)))), Prod.snd (sTaken (Prod.fst (Prod.snd s), Prod.fst (Prod.snd (Prod.snd s)), Prod.fst (Prod.snd (Prod.fst s)), Prod.fst (Prod.fst s)))), Prod.fst (sTaken (Prod.fst (Prod.snd s), Prod.fst (Prod.snd (Prod.snd s)), Prod.fst (Prod.fst s), Prod.fst (Prod.fst s))), Prod.fst (sTaken (Prod.fst (Prod.snd s), Prod.fst (Prod.snd (Prod.snd s)), Prod.fst (Prod.fst s), Prod.fst (Prod.snd (Prod.fst s)))), Prod.fst (sTaken (Prod.fst (Prod.snd s), Prod.fst (Prod.snd (Prod.snd s)), Prod.fst (Prod.snd (Prod.fst s)), Prod.fst (Prod.fst s))), PUnit.unit)))) := fun s => by kernel_rfl
/-- A list without its last element. -/
def K.cutL (x : XS) : XS := ⟨x.n, x.row, len x - 1, some (len x - 1), x.f⟩
noncomputable def K.sevEnd (s : Ship) (b : Bulbs) (x y : XS) (up : Bool) (e : Int) : Bool :=
  sev24 ((up, e, (sTaken (s, b, x, x)).2, (sTaken (s, b, x, y)).2, (sTaken (s, b, y, x)).2), (sTaken (s, b, x, x)).1, (sTaken (s, b, x, y)).1, (sTaken (s, b, y, x)).1, ())
noncomputable def K.sev17 (s : Ship) (b : Bulbs) (x y : XS) (up : Bool) (e : Int) (m : Span) : Bool :=
  if (len x : Int) > 1 then if (e == 0) = true then if ((sTog (s, b, cutL x)).2 != 0) = true then false else if (!lwithin (m, (sTog (s, b, cutL x)).1)) = true then false else sevEnd s b x y up e else sevEnd s b x y up e else sevEnd s b x y up e
theorem K.sev17_eq (s : Ship) (b : Bulbs) (x y : XS) (up : Bool) (e : Int) (m : Span) : cutT1 P BKX23 30 8 136 D_c17 X_ret ((x, y, up, e), s, b, m, ()) = some (sev17 s b x y up e m) := by
  have e1 := K.len_le x; have e2 := K.len_le' x
  rw [fn_c17]; unfold sev17
  refine Eq.trans (T.run_br _ _ _) ?_
  by_cases h : (len x : Int) > 1
  · rw [if_pos (by simpa using h), if_pos h]
    have e3 : (IntKind.wrap IntKind.i64 ((len x : Int) - 1)).toNat = len x - 1 := by rw [w64_in (by omega) (by omega)]; omega
    refine br_step (fun _ => ?_) (fun _ => rfl)
    simp only [e3]
    refine chk_step (by rw [w64_in (n := (len x : Int) - 1) (by omega) (by omega)]; simp; omega) ?_
    exact br_step (fun _ => rfl) (fun _ => br_step (fun _ => rfl) (fun _ => rfl))
  · rw [if_neg (by simpa using h), if_neg h]; rfl
noncomputable def BKX31 : Tab := (BKX23.addNode 8 136 (nodeE [2, 3, 5, 6, 11, 12, 13] D_c17 X_ret (fun a => .ret (sev17 a.2.1 a.2.2.1 a.1.1 a.1.2.1 a.1.2.2.1 a.1.2.2.2 a.2.2.2.1)))).addCut 8 136
theorem tKX31 : TabOk P BKX31 := TabOk.addCut (d := 30) okP tKX23 (by kernel_rfl) (fun a r h => by rw [← ret_some h]; obtain ⟨⟨x, y, up, e⟩, s, b, m, _⟩ := a; exact sev17_eq s b x y up e m)
def D_c13 := DecS.mk0 (.skips 2 (.cons xSurveys (.cons xSurveys (.cons (dI .i64) (.unit (dLp 0 0 0 0) (.unit (dLp 1 0 0 0) (.skips 4 (.cons dB (.unit (dLp 2 0 0 0) (.cons (dI .i64) (.last dB 194))))))))))) (.flat 27 lShip (.flat 31 lBulbs (.flat 33 lSpan .nil)))
theorem fn_sev13 : ∀ s, (cutT1 P BKX31 30 8 104 D_c13 X_ret) s = T.run (
  .br (Prod.fst (Prod.snd (Prod.snd (Prod.snd (Prod.snd (Prod.fst s))))) == (9 : Int)) (
    .br (!lchecked (Prod.fst (Prod.snd s), Prod.fst (Prod.snd (Prod.snd s)), Prod.fst (Prod.fst s))) (
      .ret (Prod.fst (Prod.snd (Prod.snd (Prod.snd (Prod.fst s)))))) (
      .br (Prod.fst (Prod.snd (Prod.snd (Prod.snd (Prod.snd (Prod.fst s))))) == (0 : Int)) (
        .br (decide (Prod.fst (Prod.snd (Prod.snd (Prod.fst s))) ≥ Span.lo (Prod.fst (Prod.snd (Prod.snd (Prod.snd s)))))) (
          .br (!Prod.snd (Prod.snd (Prod.snd (Prod.snd (Prod.snd (Prod.fst s))))) == decide (Prod.fst (Prod.snd (Prod.snd (Prod.fst s))) ≤ Span.hi (Prod.fst (Prod.snd (Prod.snd (Prod.snd s)))))) (
            .ret (false)) (
            .ret (sev17 (Prod.fst (Prod.snd s)) (Prod.fst (Prod.snd (Prod.snd s))) (Prod.fst (Prod.fst s)) (Prod.fst (Prod.snd (Prod.fst s))) (Prod.fst (Prod.snd (Prod.snd (Prod.snd (Prod.fst s))))) (Prod.fst (Prod.snd (Prod.snd (Prod.snd (Prod.snd (Prod.fst s)))))) (Prod.fst (Prod.snd (Prod.snd (Prod.snd s))))))) (
          .br (!Prod.snd (Prod.snd (Prod.snd (Prod.snd (Prod.snd (Prod.fst s))))) == false) (
            .ret (false)) (
            .ret (sev17 (Prod.fst (Prod.snd s)) (Prod.fst (Prod.snd (Prod.snd s))) (Prod.fst (Prod.fst s)) (Prod.fst (Prod.snd (Prod.fst s))) (Prod.fst (Prod.snd (Prod.snd (Prod.snd (Prod.fst s))))) (Prod.fst (Prod.snd (Prod.snd (Prod.snd (Prod.snd (Prod.fst s)))))) (Prod.fst (Prod.snd (Prod.snd (Prod.snd s)))))))) (
        .br (!Prod.snd (Prod.snd (Prod.snd (Prod.snd (Prod.snd (Prod.fst s))))) == false) (
          .ret (false)) (
          .ret (sev17 (Prod.fst (Prod.snd s)) (Prod.fst (Prod.snd (Prod.snd s))) (Prod.fst (Prod.fst s)) (Prod.fst (Prod.snd (Prod.fst s))) (Prod.fst (Prod.snd (Prod.snd (Prod.snd (Prod.fst s))))) (Prod.fst (Prod.snd (Prod.snd (Prod.snd (Prod.snd (Prod.fst s)))))) (Prod.fst (Prod.snd (Prod.snd (Prod.snd s))))))))) (
    .br (Prod.fst (Prod.snd (Prod.snd (Prod.snd (Prod.snd (Prod.fst s))))) == (0 : Int)) (
      .br (decide (Prod.fst (Prod.snd (Prod.snd (Prod.fst s))) ≥ Span.lo (Prod.fst (Prod.snd (Prod.snd (Prod.snd s)))))) (
        .br (!Prod.snd (Prod.snd (Prod.snd (Prod.snd (Prod.snd (Prod.fst s))))) == decide (Prod.fst (Prod.snd (Prod.snd (Prod.fst s))) ≤ Span.hi (Prod.fst (Prod.snd (Prod.snd (Prod.snd s)))))) (
          .ret (false)) (
          .ret (sev17 (Prod.fst (Prod.snd s)) (Prod.fst (Prod.snd (Prod.snd s))) (Prod.fst (Prod.fst s)) (Prod.fst (Prod.snd (Prod.fst s))) (Prod.fst (Prod.snd (Prod.snd (Prod.snd (Prod.fst s))))) (Prod.fst (Prod.snd (Prod.snd (Prod.snd (Prod.snd (Prod.fst s)))))) (Prod.fst (Prod.snd (Prod.snd (Prod.snd s))))))) (
        .br (!Prod.snd (Prod.snd (Prod.snd (Prod.snd (Prod.snd (Prod.fst s))))) == false) (
          .ret (false)) (
          .ret (sev17 (Prod.fst (Prod.snd s)) (Prod.fst (Prod.snd (Prod.snd s))) (Prod.fst (Prod.fst s)) (Prod.fst (Prod.snd (Prod.fst s))) (Prod.fst (Prod.snd (Prod.snd (Prod.snd (Prod.fst s))))) (Prod.fst (Prod.snd (Prod.snd (Prod.snd (Prod.snd (Prod.fst s)))))) (Prod.fst (Prod.snd (Prod.snd (Prod.snd s)))))))) (
      .br (!Prod.snd (Prod.snd (Prod.snd (Prod.snd (Prod.snd (Prod.fst s))))) == false) (
        .ret (false)) (
        .ret (sev17 (Prod.fst (Prod.snd s)) (Prod.fst (Prod.snd (Prod.snd s))) (Prod.fst (Prod.fst s)) (Prod.fst (Prod.snd (Prod.fst s))) (Prod.fst (Prod.snd (Prod.snd (Prod.snd (Prod.fst s))))) (Prod.fst (Prod.snd (Prod.snd (Prod.snd (Prod.snd (Prod.fst s)))))) (Prod.fst (Prod.snd (Prod.snd (Prod.snd s))))))))) := fun s => by kernel_rfl
noncomputable def K.sev13 (s : (XS × XS × Int × Bool × Int × Bool) × Ship × Bulbs × Span × Unit) : Bool := (if (Prod.fst (Prod.snd (Prod.snd (Prod.snd (Prod.snd (Prod.fst s))))) == (9 : Int)) = true then (if (!lchecked (Prod.fst (Prod.snd s), Prod.fst (Prod.snd (Prod.snd s)), Prod.fst (Prod.fst s))) = true then Prod.fst (Prod.snd (Prod.snd (Prod.snd (Prod.fst s)))) else (if (Prod.fst (Prod.snd (Prod.snd (Prod.snd (Prod.snd (Prod.fst s))))) == (0 : Int)) = true then (if (decide (Prod.fst (Prod.snd (Prod.snd (Prod.fst s))) ≥ Span.lo (Prod.fst (Prod.snd (Prod.snd (Prod.snd s)))))) = true then (if (!Prod.snd (Prod.snd (Prod.snd (Prod.snd (Prod.snd (Prod.fst s))))) == decide (Prod.fst (Prod.snd (Prod.snd (Prod.fst s))) ≤ Span.hi (Prod.fst (Prod.snd (Prod.snd (Prod.snd s)))))) = true then false else sev17 (Prod.fst (Prod.snd s)) (Prod.fst (Prod.snd (Prod.snd s))) (Prod.fst (Prod.fst s)) (Prod.fst (Prod.snd (Prod.fst s))) (Prod.fst (Prod.snd (Prod.snd (Prod.snd (Prod.fst s))))) (Prod.fst (Prod.snd (Prod.snd (Prod.snd (Prod.snd (Prod.fst s)))))) (Prod.fst (Prod.snd (Prod.snd (Prod.snd s))))) else (if (!Prod.snd (Prod.snd (Prod.snd (Prod.snd (Prod.snd (Prod.fst s))))) == false) = true then false else sev17 (Prod.fst (Prod.snd s)) (Prod.fst (Prod.snd (Prod.snd s))) (Prod.fst (Prod.fst s)) (Prod.fst (Prod.snd (Prod.fst s))) (Prod.fst (Prod.snd (Prod.snd (Prod.snd (Prod.fst s))))) (Prod.fst (Prod.snd (Prod.snd (Prod.snd (Prod.snd (Prod.fst s)))))) (Prod.fst (Prod.snd (Prod.snd (Prod.snd s)))))) else (if (!Prod.snd (Prod.snd (Prod.snd (Prod.snd (Prod.snd (Prod.fst s))))) == false) = true then false else sev17 (Prod.fst (Prod.snd s)) (Prod.fst (Prod.snd (Prod.snd s))) (Prod.fst (Prod.fst s)) (Prod.fst (Prod.snd (Prod.fst s))) (Prod.fst (Prod.snd (Prod.snd (Prod.snd (Prod.fst s))))) (Prod.fst (Prod.snd (Prod.snd (Prod.snd (Prod.snd (Prod.fst s)))))) (Prod.fst (Prod.snd (Prod.snd (Prod.snd s))))))) else (if (Prod.fst (Prod.snd (Prod.snd (Prod.snd (Prod.snd (Prod.fst s))))) == (0 : Int)) = true then (if (decide (Prod.fst (Prod.snd (Prod.snd (Prod.fst s))) ≥ Span.lo (Prod.fst (Prod.snd (Prod.snd (Prod.snd s)))))) = true then (if (!Prod.snd (Prod.snd (Prod.snd (Prod.snd (Prod.snd (Prod.fst s))))) == decide (Prod.fst (Prod.snd (Prod.snd (Prod.fst s))) ≤ Span.hi (Prod.fst (Prod.snd (Prod.snd (Prod.snd s)))))) = true then false else sev17 (Prod.fst (Prod.snd s)) (Prod.fst (Prod.snd (Prod.snd s))) (Prod.fst (Prod.fst s)) (Prod.fst (Prod.snd (Prod.fst s))) (Prod.fst (Prod.snd (Prod.snd (Prod.snd (Prod.fst s))))) (Prod.fst (Prod.snd (Prod.snd (Prod.snd (Prod.snd (Prod.fst s)))))) (Prod.fst (Prod.snd (Prod.snd (Prod.snd s))))) else (if (!Prod.snd (Prod.snd (Prod.snd (Prod.snd (Prod.snd (Prod.fst s))))) == false) = true then false else sev17 (Prod.fst (Prod.snd s)) (Prod.fst (Prod.snd (Prod.snd s))) (Prod.fst (Prod.fst s)) (Prod.fst (Prod.snd (Prod.fst s))) (Prod.fst (Prod.snd (Prod.snd (Prod.snd (Prod.fst s))))) (Prod.fst (Prod.snd (Prod.snd (Prod.snd (Prod.snd (Prod.fst s)))))) (Prod.fst (Prod.snd (Prod.snd (Prod.snd s)))))) else (if (!Prod.snd (Prod.snd (Prod.snd (Prod.snd (Prod.snd (Prod.fst s))))) == false) = true then false else sev17 (Prod.fst (Prod.snd s)) (Prod.fst (Prod.snd (Prod.snd s))) (Prod.fst (Prod.fst s)) (Prod.fst (Prod.snd (Prod.fst s))) (Prod.fst (Prod.snd (Prod.snd (Prod.snd (Prod.fst s))))) (Prod.fst (Prod.snd (Prod.snd (Prod.snd (Prod.snd (Prod.fst s)))))) (Prod.fst (Prod.snd (Prod.snd (Prod.snd s)))))))
theorem eq_sev13 (s : (XS × XS × Int × Bool × Int × Bool) × Ship × Bulbs × Span × Unit) : (cutT1 P BKX31 30 8 104 D_c13 X_ret) s = some (K.sev13 s) := (fn_sev13 s).trans (T.br_some (T.br_some rfl (T.br_some (T.br_some (T.br_some rfl rfl) (T.br_some rfl rfl)) (T.br_some rfl rfl))) (T.br_some (T.br_some (T.br_some rfl rfl) (T.br_some rfl rfl)) (T.br_some rfl rfl)))
noncomputable def BKX32 : Tab := (BKX31.addNode 8 104 (nodeE [2, 3, 4, 5, 6, 11, 12, 13, 14] D_c13 X_ret (fun a => .ret (K.sev13 a)))).addCut 8 104
theorem tKX32 : TabOk P BKX32 := TabOk.addCut (d := 30) okP tKX31 (by kernel_rfl) (fun a r h => by rw [eq_sev13]; exact congrArg some (ret_some h))
def D_lsev := DecL.cons dShip (.cons dBulbs (.cons xSurveys (.cons xSurveys (.last (dI .i64) 0))))
theorem fn_lsev : ∀ a, (callT1 P BKX32 30 8 D_lsev dB) a = T.run (
  .br (!ship (Prod.fst a)) (
    .ret (true)) (
    .br (!few (Prod.fst (Prod.snd a))) (
      .ret (true)) (
      .br (!list (Prod.fst (Prod.snd (Prod.snd a)))) (
        .ret (true)) (
        .br (!list (Prod.fst (Prod.snd (Prod.snd (Prod.snd a))))) (
          .ret (true)) (
          .br (Prod.snd (sTog (Prod.fst a, Prod.fst (Prod.snd a), Prod.fst (Prod.snd (Prod.snd a)))) != (0 : Int)) (
            .br (Prod.snd (sTog (Prod.fst a, Prod.fst (Prod.snd a), Prod.fst (Prod.snd (Prod.snd a)))) != (9 : Int)) (
              .ret (true)) (
              .obs (L_sev ((Prod.fst (Prod.snd (Prod.snd a)), Prod.fst (Prod.snd (Prod.snd (Prod.snd a))), Prod.snd (Prod.snd (Prod.snd (Prod.snd a))), true, Prod.snd (sTog (Prod.fst a, Prod.fst (Prod.snd a), Prod.fst (Prod.snd (Prod.snd a)))), true, (0 : Int)), Prod.fst a, Prod.fst (Prod.snd a), Prod.fst (sTog (Prod.fst a, Prod.fst (Prod.snd a), Prod.fst (Prod.snd (Prod.snd a)))), PUnit.unit)) fun x0 =>
                .ret (sev13 ((Prod.fst (Prod.fst x0), Prod.fst (Prod.snd (Prod.fst x0)), Prod.fst (Prod.snd (Prod.snd (Prod.fst x0))), Prod.fst (Prod.snd (Prod.snd (Prod.snd (Prod.fst x0)))), Prod.fst (Prod.snd (Prod.snd (Prod.snd (Prod.snd (Prod.fst x0))))), Prod.fst (Prod.snd (Prod.snd (Prod.snd (Prod.snd (Prod.snd (Prod.fst x0))))))), Prod.fst (Prod.snd x0), Prod.fst (Prod.snd (Prod.snd x0)), Prod.fst (Prod.snd (Prod.snd (Prod.snd x0))), PUnit.unit)))) (
            .obs (L_sev ((Prod.fst (Prod.snd (Prod.snd a)), Prod.fst (Prod.snd (Prod.snd (Prod.snd a))), Prod.snd (Prod.snd (Prod.snd (Prod.snd a))), true, Prod.snd (sTog (Prod.fst a, Prod.fst (Prod.snd a), Prod.fst (Prod.snd (Prod.snd a)))), true, (0 : Int)), Prod.fst a, Prod.fst (Prod.snd a), Prod.fst (sTog (Prod.fst a, Prod.fst (Prod.snd a), Prod.fst (Prod.snd (Prod.snd a)))), PUnit.unit)) fun x0 =>
              .ret (sev13 ((Prod.fst (Prod.fst x0), Prod.fst (Prod.snd (Prod.fst x0)), Prod.fst (Prod.snd (Prod.snd (Prod.fst x0))), Prod.fst (Prod.snd (Prod.snd (Prod.snd (Prod.fst x0)))), Prod.fst (Prod.snd (Prod.snd (Prod.snd (Prod.snd (Prod.fst x0))))), Prod.fst (Prod.snd (Prod.snd (Prod.snd (Prod.snd (Prod.snd (Prod.fst x0))))))), Prod.fst (Prod.snd x0), Prod.fst (Prod.snd (Prod.snd x0)), Prod.fst (Prod.snd (Prod.snd (Prod.snd x0))), PUnit.unit)))))))) := fun a => by kernel_rfl
end Go.Proofs.Ytkajafmphemedaa
/-! KX4 -/
namespace Go.Proofs.Ytkajafmphemedaa
open Ev K
set_option maxRecDepth 100000
namespace K
theorem sev13_true {x y : XS} {mass e : Int} {all : Bool} {s : Ship} {b : Bulbs} {m : Span} (hall : all = (decide (e = 0) && (decide (mass ≥ m.lo) && decide (mass ≤ m.hi)))) (h9 : e = 9 → lchecked (s, b, x) = true)
    (h17 : sev17 s b x y true e m = true) : sev13 ((x, y, mass, true, e, all), s, b, m, ()) = true := by
  unfold sev13
  simp only [h17, hall]
  by_cases h1 : e = 9
  · subst h1
    rw [h9 rfl]; rfl
  · have b1 : (e == 9) = false := by simpa using h1
    rw [b1]
    by_cases h2 : e = 0
    · subst h2
      by_cases h3 : mass ≥ m.lo <;> by_cases h4 : mass ≤ m.hi <;> simp [h3, h4]
    · have b2 : (e == 0) = false := by simpa using h2
      simp [b2, h2]
theorem sev24_true {e f g h : Int} {self one two : Span} (h1 : (f == 0) = (e == 0)) (h2 : f = 0 → self.lo = IntKind.i64.wrap (0 - self.hi)) (h3 : (g == 0) = (h == 0))
    (h4 : g = 0 → one.lo = IntKind.i64.wrap (0 - two.hi) ∧ one.hi = IntKind.i64.wrap (0 - two.lo)) : sev24 ((true, e, f, g, h), self, one, two, ()) = true := by
  have h26 : sev26 ((true, g, h), one, two, ()) = true := by
    unfold sev26
    simp only [h3, if_true]
    by_cases hg : g = 0
    · obtain ⟨e1, e2⟩ := h4 hg
      have b : (g != 0) = false := by rw [hg]; decide
      rw [b]; simp [e1, e2]
    · have b : (g != 0) = true := by simpa using hg
      rw [b]; simp
  unfold sev24
  simp only [h26, h1]
  by_cases hf : f = 0
  · have e1 := h2 hf
    simp [e1]
  · have : (e == 0) = false := by rw [← h1]; simpa using hf
    simp [this]
theorem taken_pair {a b : Span} (ha : 0 ≤ a.lo ∧ a.hi ≤ 65536 ∧ a.lo ≤ a.hi) (hb : 0 ≤ b.lo ∧ b.hi ≤ 65536) : ((takenOf a b).2 == 0) = ((takenOf b a).2 == 0) ∧ ((takenOf a b).2 = 0 → (takenOf a b).1.lo = IntKind.i64.wrap (0 - (takenOf b a).1.hi) ∧ (takenOf a b).1.hi = IntKind.i64.wrap (0 - (takenOf b a).1.lo)) := by
  have va : void a = false := void_false.2 ha.2.2
  unfold takenOf
  rw [va]
  cases hv : void b with
  | true => exact ⟨rfl, fun h => by cases h⟩
  | false =>
    have vb := void_false.1 hv
    refine ⟨rfl, fun _ => ?_⟩
    simp only [Bool.false_eq_true, if_false]
    rw [w64_in (n := a.lo - b.hi) (by omega) (by omega), w64_in (n := a.hi - b.lo) (by omega) (by omega), w64_in (n := b.lo - a.hi) (by omega) (by omega), w64_in (n := b.hi - a.lo) (by omega) (by omega), w64_in (by omega) (by omega), w64_in (by omega) (by omega)]
    exact ⟨by omega, by omega⟩
theorem list_zero {s : Ship} {b : Bulbs} {x : XS} (h : listed1 (s, b, x) = 0) : hullCheck s = 0 ∧ CheckBulbs b = 0 ∧ listO b x = none := by
  unfold listed1 at h
  obtain ⟨h1, h⟩ := ite_err h
  obtain ⟨h2, h⟩ := ite_err h
  exact ⟨h1, h2, (orr_zero' (listO_ne b x)).1 h⟩
theorem sTog_zero {s : Ship} {b : Bulbs} {x : XS} (h : (sTog (s, b, x)).2 = 0) : listed1 (s, b, x) = 0 := by
  unfold sTog at h
  by_cases h1 : (listed1 (s, b, x) != 0) = true
  · rw [if_pos h1] at h; exact h
  · exact bne_zero h1
theorem listO_of {b : Bulbs} {x : XS} (l : ListOk b x) : listO b x = none := by
  unfold listO
  have h1 := l.pos; have h2 := l.le
  rw [if_neg (by simp; omega), if_neg (by simp; omega), List.findSome?_eq_none_iff]
  intro i hi
  have hi := List.mem_range.1 hi
  unfold svyE
  rw [l.each i hi]
  simp only [bne_self_eq_false, Bool.false_eq_true, if_false]
  rw [find_lst1_idx, idx_lt hi (by simp), first_none (fun j hj => by simpa using l.apart i j hi hj)]
  rfl
theorem listed1_of {s : Ship} {b : Bulbs} {x : XS} (h1 : hullCheck s = 0) (h2 : CheckBulbs b = 0) : listed1 (s, b, x) = K.orr id 0 (listO b x) := by
  unfold listed1; rw [h1, h2]; rfl
theorem listed2_of {s : Ship} {b : Bulbs} {x y : XS} (h1 : hullCheck s = 0) (h2 : CheckBulbs b = 0) : listed2 (s, b, x, y) = K.orr id (K.orr id 0 (listO b y)) (listO b x) := by
  unfold listed2; rw [h1, h2]; rfl
theorem cut_len {x : XS} (h : 1 < len x) : len (cutL x) = len x - 1 := by
  have := K.len_le x
  exact clampL_eq (by show len x - 1 ≤ maxL; unfold maxL; omega)
theorem cut_ok {b : Bulbs} {x : XS} (l : ListOk b x) (h : 1 < len x) : ListOk b (cutL x) := by
  have e := cut_len h
  have h2 := l.le
  exact ⟨by omega, by omega, fun i hi => l.each i (by omega), fun i j hi hj => l.apart i j (by omega) hj⟩
theorem cut_tog {s : Ship} {b : Bulbs} {x : XS} (h : 1 < len x) : togetherOf s b x = meet (togetherOf s b (cutL x)) (massOf s b (svy x (len x - 1))) := by
  obtain ⟨n, hn⟩ : ∃ n, len x = n + 1 := ⟨len x - 1, by omega⟩
  unfold togetherOf massesL
  rw [cut_len h, hn, List.range_succ, List.map_append, List.foldl_append, Nat.add_sub_cancel]
  rfl
theorem fold_meet (ms : List Span) : ∀ (c : Span) (n : Int), ((ms.foldl meet c).lo ≤ n ∧ n ≤ (ms.foldl meet c).hi) ↔ (c.lo ≤ n ∧ n ≤ c.hi) ∧ ∀ m ∈ ms, m.lo ≤ n ∧ n ≤ m.hi := by
  induction ms with
  | nil => intro c n; simp
  | cons m ms ih =>
    intro c n
    rw [List.foldl_cons, ih]
    have : ((meet c m).lo ≤ n ∧ n ≤ (meet c m).hi) ↔ (c.lo ≤ n ∧ n ≤ c.hi) ∧ (m.lo ≤ n ∧ n ≤ m.hi) := by
      unfold meet; simp only; split <;> split <;> omega
    rw [this]
    constructor
    · rintro ⟨⟨h1, h2⟩, h3⟩; exact ⟨h1, fun k hk => (List.mem_cons.1 hk).elim (fun e => by rw [e]; exact h2) (h3 k)⟩
    · rintro ⟨h1, h2⟩; exact ⟨⟨h1, h2 m (by simp)⟩, fun k hk => h2 k (by simp [hk])⟩
theorem tog_iff {s : Ship} {b : Bulbs} {x : XS} (hp : 0 < len x) (hs : ShipOk s) (n : Int) : ((togetherOf s b x).lo ≤ n ∧ n ≤ (togetherOf s b x).hi) ↔ ∀ i, i < len x → (massOf s b (svy x i)).lo ≤ n ∧ n ≤ (massOf s b (svy x i)).hi := by
  have e : togetherOf s b x = ((List.range (len x)).map fun i => massOf s b (svy x i)).foldl meet ⟨s.light, rooms s⟩ := by
    unfold togetherOf massesL; rw [List.foldl_map, List.foldl_map]
  rw [e, fold_meet]
  constructor
  · rintro ⟨_, h⟩ i hi; exact h _ (List.mem_map.2 ⟨i, List.mem_range.2 hi, rfl⟩)
  · intro h
    refine ⟨?_, fun m hm => ?_⟩
    · have h0 := h 0 hp
      rw [massOf_form] at h0
      by_cases hv : void (ySpan s (svy x 0)) = true
      · rw [if_pos hv] at h0; simp only at h0; omega
      · rw [if_neg hv] at h0
        unfold meet at h0; simp only at h0 ⊢
        split at h0 <;> split at h0 <;> omega
    · obtain ⟨i, hi, rfl⟩ := List.mem_map.1 hm
      exact h i (List.mem_range.1 hi)
theorem tog_bounds {s : Ship} {b : Bulbs} {x : XS} (hs : ShipOk s) : 1 ≤ (togetherOf s b x).lo ∧ (togetherOf s b x).hi ≤ 65536 := by
  have key : ∀ (ms : List (Int × Span)) (c : Span), c.lo ≤ (ms.foldl (fun c p => meet c p.2) c).lo ∧ (ms.foldl (fun c p => meet c p.2) c).hi ≤ c.hi := by
    intro ms
    induction ms with
    | nil => intro c; simp
    | cons m ms ih =>
      intro c
      rw [List.foldl_cons]
      obtain ⟨a1, a2⟩ := ih (meet c m.2)
      have : c.lo ≤ (meet c m.2).lo ∧ (meet c m.2).hi ≤ c.hi := by unfold meet; simp only; split <;> split <;> omega
      omega
  obtain ⟨a1, a2⟩ := key (massesL s b x) ⟨s.light, rooms s⟩
  have h1 := hs.light; have h2 := hs.most
  unfold togetherOf
  simp only at a1 a2
  omega
theorem possible_of {s : Ship} {b : Bulbs} {x : XS} (h1 : hullCheck s = 0) (h2 : CheckBulbs b = 0) (l : ListOk b x) {i : Nat} (hi : i < len x) (n : Int) : sPossible (s, b, svy x i, n) = (within n (massOf s b (svy x i)).lo (massOf s b (svy x i)).hi, 0) := by
  have : checked (s, b, svy x i) = 0 := by unfold checked Check; rw [h1, h2, l.each i hi]; rfl
  unfold sPossible; simp only; rw [this]; rfl
theorem fold_and (p : Nat → Bool) : ∀ (l : List Nat) (a : Bool), l.foldl (fun a i => a && p i) a = (a && l.all p)
  | [], a => by simp
  | i :: l, a => by rw [List.foldl_cons, fold_and p l, List.all_cons, Bool.and_assoc]
theorem all_of {s : Ship} {b : Bulbs} {x : XS} (h1 : hullCheck s = 0) (h2 : CheckBulbs b = 0) (l : ListOk b x) (n : Int) : (List.range (len x)).foldl (f_sev s b x n) true = (decide (n ≥ (togetherOf s b x).lo) && decide (n ≤ (togetherOf s b x).hi)) := by
  have e : (List.range (len x)).foldl (f_sev s b x n) true = (List.range (len x)).foldl (fun a i => a && within n (massOf s b (svy x i)).lo (massOf s b (svy x i)).hi) true := by
    apply foldl_same
    intro a i hi
    unfold f_sev
    rw [possible_of h1 h2 l (List.mem_range.1 hi)]
    cases a <;> cases within n (massOf s b (svy x i)).lo (massOf s b (svy x i)).hi <;> rfl
  rw [e, fold_and, Bool.true_and]
  have hi := tog_iff (b := b) (x := x) l.pos (ship_ok h1) n
  apply Bool.eq_iff_iff.2
  rw [List.all_eq_true, Bool.and_eq_true, decide_eq_true_eq, decide_eq_true_eq]
  constructor
  · intro h
    have := hi.2 (fun i hi' => within_iff.1 (h i (List.mem_range.2 hi')))
    exact this
  · intro h i hi'
    exact within_iff.2 (hi.1 h i (List.mem_range.1 hi'))
/-- The end of the law, if the list is right. -/
theorem sevEnd_true {s : Ship} {b : Bulbs} {x y : XS} {e : Int} (h1 : hullCheck s = 0) (h2 : CheckBulbs b = 0) (l : ListOk b x) (he : (e == 0) = !void (togetherOf s b x)) : sevEnd s b x y true e = true := by
  have hs := ship_ok h1
  have bx := tog_bounds (b := b) (x := x) hs
  have by' := tog_bounds (b := b) (x := y) hs
  have t1 : sTaken (s, b, x, x) = takenOf (togetherOf s b x) (togetherOf s b x) := by
    unfold sTaken; rw [listed2_of h1 h2, listO_of l]; rfl
  unfold sevEnd
  rw [t1]
  have hT : ∀ u v : XS, ListOk b u → sTaken (s, b, u, v) = match listO b v with | none => takenOf (togetherOf s b u) (togetherOf s b v) | some e => (⟨0, 0⟩, e) := by
    intro u v lu
    unfold sTaken; rw [listed2_of h1 h2, listO_of lu]
    cases hv : listO b v with
    | none => rfl
    | some e => have := listO_ne b v e hv; exact if_pos (show (e != 0) = true by simpa using this)
  have hX : ∀ e', listO b y = some e' → sTaken (s, b, y, x) = (⟨0, 0⟩, e') := by
    intro e' hy
    have := listO_ne b y e' hy
    unfold sTaken; rw [listed2_of h1 h2, hy]; exact if_pos (show (e' != 0) = true by simpa using this)
  rw [hT x y l]
  have hf : ((takenOf (togetherOf s b x) (togetherOf s b x)).2 == 0) = (e == 0) := by
    rw [he]; unfold takenOf; cases void (togetherOf s b x) <;> rfl
  have hself : (takenOf (togetherOf s b x) (togetherOf s b x)).2 = 0 → (takenOf (togetherOf s b x) (togetherOf s b x)).1.lo = IntKind.i64.wrap (0 - (takenOf (togetherOf s b x) (togetherOf s b x)).1.hi) := by
    intro h
    unfold takenOf at h ⊢
    cases hv : void (togetherOf s b x) with
    | true => rw [hv] at h; cases h
    | false =>
      have := void_false.1 hv
      simp only [Bool.false_eq_true, if_false]
      rw [w64_in (n := (togetherOf s b x).hi - (togetherOf s b x).lo) (by omega) (by omega), w64_in (by omega) (by omega), w64_in (by omega) (by omega)]; omega
  cases hy : listO b y with
  | some e' =>
    have hne := listO_ne b y e' hy
    rw [hX e' hy]
    exact sev24_true hf hself rfl (fun h => absurd h hne)
  | none =>
    have ly := listO_ok hy
    have hyx : sTaken (s, b, y, x) = takenOf (togetherOf s b y) (togetherOf s b x) := by rw [hT y x ly, listO_of l]
    rw [hyx]
    cases hv : void (togetherOf s b x) with
    | false =>
      obtain ⟨p1, p2⟩ := taken_pair (a := togetherOf s b x) (b := togetherOf s b y) ⟨by omega, by omega, void_false.1 hv⟩ ⟨by omega, by omega⟩
      exact sev24_true hf hself p1 p2
    | true =>
      have z1 : (takenOf (togetherOf s b x) (togetherOf s b y)).2 = 9 := by unfold takenOf; rw [hv]; rfl
      have z2 : (takenOf (togetherOf s b y) (togetherOf s b x)).2 = 9 := by unfold takenOf; rw [hv]; cases void (togetherOf s b y) <;> rfl
      refine sev24_true hf hself ?_ (fun h => ?_)
      · show ((takenOf (togetherOf s b x) (togetherOf s b y)).2 == 0) = _; rw [z1, z2]
      · have h : (takenOf (togetherOf s b x) (togetherOf s b y)).2 = 0 := h
        rw [z1] at h; cases h
theorem lchecked_ok {s : Ship} {b : Bulbs} {x : XS} (h : lchecked (s, b, x) = true) : hullCheck s = 0 ∧ ∀ i, i < len x → Check (b, svy x i) = 0 := by
  unfold lchecked at h
  rw [Bool.and_eq_true] at h
  refine ⟨eq_of_beq h.2, fun i hi => ?_⟩
  cases hf : first (p_lck b x) (len x) with
  | some k => rw [hf] at h; simp at h
  | none => have := first_none' hf i hi; unfold p_lck at this; simpa using this
theorem bulbs_not_nine (b : Bulbs) : CheckBulbs b ≠ 9 := by
  unfold CheckBulbs
  intro h
  split at h
  · cases h
  split at h
  · cases h
  cases h1 : (List.range (len b.hydros)).findSome? (hydE b.hydros b.hydros) with
  | some e =>
    rw [h1] at h
    have h : e = 9 := h
    obtain ⟨i, _, hi⟩ := List.exists_of_findSome?_eq_some h1
    unfold hydE at hi
    (repeat' split at hi) <;> simp at hi <;> omega
  | none =>
    rw [h1] at h
    cases h2 : (List.range (len b.glasses)).findSome? (glsE b.glasses b.hydros b.glasses) with
    | none => rw [h2] at h; cases h
    | some e =>
      rw [h2] at h
      have h : e = 9 := h
      obtain ⟨i, _, hi⟩ := List.exists_of_findSome?_eq_some h2
      unfold glsE at hi
      (repeat' split at hi) <;> simp at hi <;> omega
noncomputable def lawSeveral (a : Ship × Bulbs × XS × XS × Int) : Bool :=
  if (!ship a.1) = true then true else if (!few a.2.1) = true then true else if (!list a.2.2.1) = true then true else if (!list a.2.2.2.1) = true then true else
  if ((sTog (a.1, a.2.1, a.2.2.1)).2 != 0 && (sTog (a.1, a.2.1, a.2.2.1)).2 != 9) = true then true else
    sev13 ((a.2.2.1, a.2.2.2.1, a.2.2.2.2, true, (sTog (a.1, a.2.1, a.2.2.1)).2, (List.range (len a.2.2.1)).foldl (f_sev a.1 a.2.1 a.2.2.1 a.2.2.2.2) true), a.1, a.2.1, (sTog (a.1, a.2.1, a.2.2.1)).1, ())
theorem lawSeveral_eq (a : Ship × Bulbs × XS × XS × Int) : callT1 P BKX32 30 8 D_lsev dB a = some (lawSeveral a) := by
  rw [fn_lsev]; unfold lawSeveral
  refine br_step (fun _ => rfl) (fun _ => br_step (fun _ => rfl) (fun _ => br_step (fun _ => rfl) (fun _ => br_step (fun _ => rfl) (fun _ => ?_))))
  rw [L_sev_eq]
  cases h1 : ((sTog (a.1, a.2.1, a.2.2.1)).2 != 0) <;> cases h2 : ((sTog (a.1, a.2.1, a.2.2.1)).2 != 9) <;> simp only [T.run, Bool.and_true, Bool.and_false, Bool.true_and, Bool.false_and, if_true, Bool.false_eq_true, if_false]
theorem lawSeveral_true (a : Ship × Bulbs × XS × XS × Int) : lawSeveral a = true := by
  obtain ⟨s, b, x, y, mass⟩ := a
  unfold lawSeveral
  simp only
  (repeat' split) <;> try rfl
  rename_i hc
  by_cases he : (sTog (s, b, x)).2 = 0
  · obtain ⟨h1, h2, h3⟩ := list_zero (sTog_zero he)
    obtain ⟨hs, hb, l, hv, ht⟩ := sTog_ok he
    have hend : sevEnd s b x y true (sTog (s, b, x)).2 = true := sevEnd_true h1 h2 l (by rw [he, hv]; rfl)
    refine sev13_true ?_ (fun h => by rw [he] at h; cases h) ?_
    · rw [all_of h1 h2 l, he, ht]; simp
    · unfold sev17
      by_cases hl : (len x : Int) > 1
      · have hl' : 1 < len x := by omega
        have lc := cut_ok l hl'
        have hbc := cut_tog (s := s) (b := b) hl'
        have v1 := void_false.1 hv
        have hm : (togetherOf s b (cutL x)).lo ≤ (togetherOf s b x).lo ∧ (togetherOf s b x).hi ≤ (togetherOf s b (cutL x)).hi := by
          rw [hbc]; unfold meet; simp only; split <;> split <;> omega
        have vc : void (togetherOf s b (cutL x)) = false := void_false.2 (by omega)
        have hT : sTog (s, b, cutL x) = (togetherOf s b (cutL x), 0) := by
          unfold sTog; rw [listed1_of h1 h2, listO_of lc]; simp only [K.orr, bne_self_eq_false, Bool.false_eq_true, if_false, vc]
        rw [if_pos hl, hT, ht]
        have hw : lwithin (togetherOf s b x, togetherOf s b (cutL x)) = true := by
          unfold lwithin; simp only; rw [if_pos (by simpa using hm.1)]; simpa using hm.2
        rw [hw, hend]; simp
      · rw [if_neg hl]; exact hend
  · by_cases he9 : (sTog (s, b, x)).2 = 9
    · by_cases hk : lchecked (s, b, x) = true
      · obtain ⟨h1, hch⟩ := lchecked_ok hk
        have hT : listed1 (s, b, x) = 9 ∨ (listed1 (s, b, x) = 0 ∧ void (togetherOf s b x) = true) := by
          unfold sTog at he9
          by_cases h : (listed1 (s, b, x) != 0) = true
          · rw [if_pos h] at he9; exact .inl he9
          · rw [if_neg h] at he9
            by_cases hv : void (togetherOf s b x) = true
            · exact .inr ⟨bne_zero h, hv⟩
            · rw [if_neg hv] at he9; cases he9
        have hok : listed1 (s, b, x) = 0 ∧ void (togetherOf s b x) = true := by
          rcases hT with h9 | h
          · exfalso
            by_cases hb : CheckBulbs b = 0
            · rw [listed1_of h1 hb] at h9
              unfold listO at h9
              split at h9
              · cases h9
              split at h9
              · cases h9
              cases hf : (List.range (len x)).findSome? (svyE b x) with
              | none => rw [hf] at h9; cases h9
              | some e =>
                rw [hf] at h9
                have h9 : e = 9 := h9
                obtain ⟨i, hi, hi2⟩ := List.exists_of_findSome?_eq_some hf
                have hc := hch i (List.mem_range.1 hi)
                unfold Check at hc
                obtain ⟨_, hc⟩ := ite_err hc
                unfold svyE at hi2
                rw [hc] at hi2
                simp only [bne_self_eq_false, Bool.false_eq_true, if_false] at hi2
                split at hi2
                · injection hi2 with hi2; omega
                · cases hi2
            · have : listed1 (s, b, x) = CheckBulbs b := by
                unfold listed1; rw [h1]
                have b2 : (CheckBulbs b != 0) = true := by simpa using hb
                simp only [b2, if_true]; rfl
              by_cases hx0 : 0 < len x
              · have hc := hch 0 hx0
                unfold Check at hc
                obtain ⟨hc, _⟩ := ite_err hc
                exact hb hc
              · rw [this] at h9
                exact bulbs_not_nine b h9
          · exact h
        obtain ⟨h0, hv⟩ := hok
        obtain ⟨_, h2, h3⟩ := list_zero h0
        have l := listO_ok h3
        have hend : sevEnd s b x y true (sTog (s, b, x)).2 = true := sevEnd_true h1 h2 l (by rw [he9, hv]; rfl)
        have hm : (sTog (s, b, x)).1 = ⟨0, 0⟩ := by
          unfold sTog; rw [if_neg (by rw [h0]; decide)]; simp only; rw [if_pos hv]
        have v1 := void_true.1 hv
        refine sev13_true ?_ (fun _ => hk) ?_
        · rw [all_of h1 h2 l, he9]
          by_cases g1 : mass ≥ (togetherOf s b x).lo <;> by_cases g2 : mass ≤ (togetherOf s b x).hi <;> simp [g1, g2] <;> omega
        · unfold sev17
          rw [he9] at hend ⊢
          simp only [show ((9 : Int) == 0) = false from rfl, Bool.false_eq_true, if_false, hend, ite_self]
      · unfold sev13
        simp only [he9, BEq.rfl, if_true]
        rw [if_pos (by simpa using hk)]
    · exfalso; apply hc
      rw [Bool.and_eq_true]; exact ⟨by simpa using he, by simpa using he9⟩
end K
end Go.Proofs.Ytkajafmphemedaa
/-! KZSeveral -/
namespace Go.Proofs.Ytkajafmphemedaa
open Ev K
open Go.ChangeShapes Go.WideShapes Go.RowKit
set_option maxRecDepth 100000
theorem law_pc (a) : PC P 8 (D_lsev.enc a) (.bool true) := by
  have h := lawSeveral_eq a
  rw [lawSeveral_true] at h
  exact call_of okP tKX32 h
theorem ownP : ownKnob P.godebug = none := by kernel_rfl
theorem laidP : laidOutB P = true := by kernel_rfl
theorem ub : P.underlying 4 = some .bool := by kernel_rfl
theorem surveySeveral_lifted (os : Os) (started : os.Started) (H : Type) (enc : TypeId × Value → H) :
    ReturnsInHanded {} Try.checked os 8 .any (Rows.surveySeveralSpec.pre6 enc Try.prog Try.f8 Rows.surveySeveralRow.domain false) (Rows.surveySeveralSpec.post enc Try.prog Try.f8 false true false false) := by
  refine returnsInHanded_of_change (C := Try.checked) ownP started (by kernel_rfl) Try.func8
    (ChangeSpec.witness6 (enc := enc) (C := Try.checked) false ⟨#[], #[.agg #[.int .i64 0, .int .i64 0, .int .i64 0, .int .i64 0, .slice none 0 0, .slice none 0 0, .int .i64 0, .slice none 0 0, .int .i64 0, .int .i64 0, .int .i64 0], .agg #[.slice none 0 0, .slice none 0 0], .slice none 0 0, .slice none 0 0, .int .i64 0], []⟩ 8 (by kernel_rfl) (by kernel_rfl) (by kernel_rfl) (by kernel_rfl)) ?_
  intro W base args ds gs before hval hW _ _
  refine law_contract (P := Try.prog) D_lsev laidP (by kernel_rfl) rfl (fun ds hd => ?_) (fun W' b sp hd => trodAll_mk1 (shut_bool ub true)) (fun W' => ok_one (by kernel_rfl) rfl (okWide_bool_mk ub true)) (fun W base args ds p hval hA => ?_) law_pc W base args ds gs before hval hW
  · rw [Try.params8] at hd
    match ds, hd with
    | [a, b, c, d, e], _ => rfl
  · rw [Try.params8] at hA hval
    obtain ⟨v0, vs0, d0, ds0, p0, q0, e0, _, _, h0, r0⟩ := trodAll_cons hA
    obtain ⟨v1, vs1, d1, ds1, p1, q1, e1, _, _, h1, r1⟩ := trodAll_cons r0
    obtain ⟨v2, vs2, d2, ds2, p2, q2, e2, _, _, h2, r2⟩ := trodAll_cons r1
    obtain ⟨v3, vs3, d3, ds3, p3, q3, e3, _, _, h3, r3⟩ := trodAll_cons r2
    obtain ⟨v4, vs4, d4, ds4, p4, q4, e4, _, _, h4, r4⟩ := trodAll_cons r3
    obtain ⟨e5, _, _⟩ := trodAll_nil r4
    subst e5; subst e4; subst e3; subst e2; subst e1
    have ha : args = #[v0, v1, v2, v3, v4] := by apply Array.ext'; exact e0
    subst ha
    exact rdL_cons (rp_ship (hval 0 _ v0 rfl rfl) h0) (rdL_cons (rp_bulbs (hval 1 _ v1 rfl rfl) h1) (rdL_cons (rp_surveys (hval 2 _ v2 rfl rfl) h2) (rdL_cons (rp_surveys (hval 3 _ v3 rfl rfl) h3) (rdL_last (rp_int (hval 4 _ v4 rfl rfl) h4)))))
theorem surveySeveral_holds : Rows.SurveySeveralSaid :=
  OpenClaim.holds_of_wide 8 Try.f8 rfl rfl rfl rfl rfl rfl rfl ⟨rfl, rfl, rfl, rfl, rfl⟩ rfl rfl rfl rfl rfl (by kernel_rfl) Try.func8 (by kernel_rfl)
    (of_decide_eq_true (by kernel_rfl)) (by unfold Func.isWrapper; rw [if_neg (of_decide_eq_false (by kernel_rfl))]; exact ⟨rfl, rfl⟩)
    (fun os started H enc _ => surveySeveral_lifted os started H enc)
#print axioms surveySeveral_holds
end Go.Proofs.Ytkajafmphemedaa
