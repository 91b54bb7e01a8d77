/- Ranges over functions: their entries in the table; what functions that are ranged over yield. -/
import Derived.Test.YtkajafmphemedaaEvS
namespace Go.Proofs.Ytkajafmphemedaa.Ev
open Go.RowKit

theorem Round.post {P : Program} {ps : Array Tmp} {assign body : Code} {S S' S2 : St} {x : List AV} {e : Exit} (h : Round P ps assign body S S' x e) (t : Tidy S' S2) (hl : S2.env.length = S'.env.length) : Round P ps assign body S S2 x e := by
  obtain ⟨U, V, h1, h2, h3, h4, h5, h6⟩ := h.walk
  let V' : St := { V with env := List.replicate V.env.length .top, sav := S2.env ++ S2.sav, loc := S2.loc, out := S2.out }
  refine ⟨h.size, ⟨U, V', h1, h2.post ⟨?_, fun X yl A0 r ds sv a w hfr => ?_⟩, rfl, hl.trans h4, rfl, rfl⟩, h.ends⟩
  · show S2.out = V.out
    rw [t.1, h6]
  · rw [h3] at hfr
    have hs := hfr.sav
    have hsz : S'.env.length ≤ sv.size := by have := hs.1; simp at this; omega
    have hsv : sv = sv.extract 0 S'.env.length ++ sv.extract S'.env.length sv.size := by
      rw [Array.extract_append_extract, Nat.min_eq_left (Nat.zero_le _), Nat.max_eq_right hsz]; simp
    rw [hsv] at hs
    obtain ⟨g1, g2⟩ := VRs.split hs (by simp; omega)
    have hloc : locOf V = locOf S' := by unfold locOf; rw [h5]
    have hfr' : FR X yl A0 S'.sav (sv.extract S'.env.length sv.size) S'.env (locOf S') r ds { a with tmps := sv.extract 0 S'.env.length } w := by
      rw [← hloc]
      exact ⟨g1, g2, hfr.mem, hfr.dom, hfr.inj, hfr.dis, hfr.lt, hfr.a0, hfr.inv, hfr.clo, hfr.dfr, hfr.dnd, hfr.dok, hfr.ylv⟩
    obtain ⟨r', k⟩ := t.2 _ _ _ _ _ _ _ _ hfr'
    refine ⟨r', ?_, ?_, k.mem, k.dom, k.inj, k.dis, k.lt, k.a0, k.inv, k.clo, hfr.dfr, k.dnd, k.dok, k.ylv⟩
    · refine ⟨by simp [V', hfr.env.1], fun i y u hy _ => ?_⟩
      simp only [V', List.getElem?_replicate] at hy
      split at hy
      · injection hy with hy; subst hy; exact .top
      · simp at hy
    · rw [hsv]; exact k.env.append k.sav

/-- What a function that is ranged over yields, if nobody stops it; it stops when it is told to. -/
def ICL (P : Program) (g : FuncId) (us vs : List AV) (L : List (List AV)) : Prop :=
  IC P g us vs (L.map fun x => (x, true)) ∧ ∀ i x, L[i]? = some x → IC P g us vs ((L.take i).map (fun x => (x, true)) ++ [(x, false)])

section
variable {σ ρ β : Type}

/-- One round of a range over a function. -/
def stepR (P : Program) (C : Cfg) (live : List Nat) (D : DecS σ) (X : DecX ρ) (enc : β → List AV) (ps : Array Tmp) (assign body : Code) (s : σ) (x : β) : T (σ ⊕ ρ) :=
  (roundT (DT P C assign) (DT P C body) ps (enc x) (D.enc s)).bind (nextT live D X)

def psC : Code → Array Tmp
  | .rangeFunc _ ps _ _ => ps
  | _ => #[]
def assignC : Code → Code
  | .rangeFunc _ _ a _ => a
  | _ => .skip
def rbodyC : Code → Code
  | .rangeFunc _ _ _ b => b
  | _ => .skip
def funC : Code → Operand
  | .rangeFunc f _ _ _ => f
  | _ => .global 0
def isRange : Code → Bool
  | .rangeFunc .. => true
  | _ => false

/-- One round of the range number k of a function. -/
def rangeT1 (P : Program) (B : Tab) (d : Nat) (f : FuncId) (k : Nat) (live : List Nat) (D : DecS σ) (X : DecX ρ) (enc : β → List AV) (s : σ) (x : β) : Option (σ ⊕ ρ) :=
  (stepR P (mkCfg B (lvl P B d) f) live D X enc (psC (nodeC P f k)) (assignC (nodeC P f k)) (rbodyC (nodeC P f k)) s x).run

/-- Which function is ranged over. -/
def overC (P : Program) (f : FuncId) (k : Nat) (st : St) : Option (FuncId × List AV × List AV) := match evO st.env (funC (nodeC P f k)) with
  | some (.fn (.func g) us vs) => match okFn P g && (us.all noL && vs.all noL) with
    | true => some (g, us, vs)
    | false => none
  | _ => none

def rangeX (D : DecS σ) (X : DecX ρ) (x : σ ⊕ ρ) : T (Exit × St) := .sum x (fun s => .ret (.normal, D.enc s)) X.enc

def rangeE (live : List Nat) (D : DecS σ) (X : DecX ρ) (M : σ → T (σ ⊕ ρ)) : St → Option (T (Exit × St)) := fun st => match D.dec (prune live st) with
  | some s => some ((M s).bind (rangeX D X))
  | none => none

section
variable {P : Program} {B : Tab} {f : FuncId} {k d : Nat} {live : List Nat} {D : DecS σ} {X : DecX ρ}

theorem step_inl {C : Cfg} {Ns : List Code} (hC : CfgOk P C Ns) (hm : P.follows .mixedOrders = true) {ps : Array Tmp} {assign body : Code} (ha : codeOk assign = true) (hb : codeOk body = true) (hna : ∀ x, x ∈ nodesOf assign → x ∈ Ns) (hnb : ∀ x, x ∈ nodesOf body → x ∈ Ns)
    {enc : β → List AV} {s s' : σ} {x : β} (h : (stepR P C live D X enc ps assign body s x).run = some (.inl s')) : Round P ps assign body (D.enc s) (D.enc s') (enc x) .normal := by
  obtain ⟨p, h1, h2⟩ := T.run_bind h
  obtain ⟨g1, g2, g3⟩ := nextT_inl h2
  have := roundT_round (DT_ld hC hm assign ha hna) (DT_ld hC hm body hb hnb) h1
  rw [g1] at this
  exact this.post g2 g3

theorem step_inr {C : Cfg} {Ns : List Code} (hC : CfgOk P C Ns) (hm : P.follows .mixedOrders = true) {ps : Array Tmp} {assign body : Code} (ha : codeOk assign = true) (hb : codeOk body = true) (hna : ∀ x, x ∈ nodesOf assign → x ∈ Ns) (hnb : ∀ x, x ∈ nodesOf body → x ∈ Ns)
    {enc : β → List AV} {s : σ} {r : ρ} {x : β} (h : (stepR P C live D X enc ps assign body s x).run = some (.inr r)) : ∃ e st', (X.enc r).run = some (e, st') ∧ e ≠ .normal ∧ Round P ps assign body (D.enc s) st' (enc x) e := by
  obtain ⟨p, h1, h2⟩ := T.run_bind h
  obtain ⟨g1, st2, g2, g3, g4⟩ := nextT_inr h2
  exact ⟨p.1, st2, g2, g1, (roundT_round (DT_ld hC hm assign ha hna) (DT_ld hC hm body hb hnb) h1).post g3 g4⟩

theorem TabOk.addRange (hP : okProg P = true) (h : TabOk P B) (h1 : (nodesAt P f k).length = 1) (h2 : isRange (nodeC P f k) = true) {enc : β → List AV} {M : σ → T (σ ⊕ ρ)} {L : σ → List β}
    (hL : ∀ s r, (M s).run = some r → ∃ g us vs, overC P f k (D.enc s) = some (g, us, vs) ∧ ICL P g us vs ((L s).map enc))
    (hM : ∀ s r, (M s).run = some r → foldS (rangeT1 P B d f k live D X enc) (L s) s = some r) : TabOk P (B.addNode f k (rangeE live D X M)) := by
  refine h.addNode fun c hc st t e st' ht hr => ?_
  unfold rangeE at ht
  split at ht
  case h_2 => simp at ht
  rename_i s hs
  injection ht with ht; subst ht
  obtain ⟨r, hr1, hr2⟩ := T.run_bind hr
  have hcc := nodeC_one h1 hc
  obtain ⟨fn, c0, hf, hb, hin⟩ := nodesAt_fn hc
  obtain ⟨fo, ps, assign, body, hnode⟩ : ∃ fo ps assign body, nodeC P f k = .rangeFunc fo ps assign body := by
    cases hq : nodeC P f k with
    | rangeFunc a b c d => exact ⟨a, b, c, d, rfl⟩
    | _ => rw [hq] at h2; simp [isRange] at h2
  rw [hcc, hnode] at hin ⊢
  have hcode := codeOk_sub c0 (okProg_code hP hf hb) hin
  simp only [codeOk, Bool.and_eq_true] at hcode
  have hsub : ∀ x, x ∈ nodesOf (.rangeFunc fo ps assign body) → x ∈ nodesFn P f := fun x hx => by
    simpa [nodesFn, hf, hb] using nodes_sub c0 hin x hx
  have hna : ∀ x, x ∈ nodesOf assign → x ∈ nodesFn P f := fun x hx => hsub x (by simp [nodesOf, hx])
  have hnb : ∀ x, x ∈ nodesOf body → x ∈ nodesFn P f := fun x hx => hsub x (by simp [nodesOf, hx])
  refine Ld.pre ((prune_tidy live st).trans (D.ok _ _ hs)) ?_
  obtain ⟨g, us, vs, hover, hicl⟩ := hL s r hr1
  have hfold := hM s r hr1
  have hC := lvl_ok hP h d f
  have hm := okProg_mixed hP
  unfold overC at hover
  rw [hnode] at hover
  simp only [funC] at hover
  split at hover
  case h_2 => simp at hover
  rename_i g' us' vs' hf'
  split at hover
  case h_2 => simp at hover
  rename_i hok
  injection hover with hover
  injection hover with e1 e2
  injection e2 with e2 e3
  subst e1; subst e2; subst e3
  simp only [Bool.and_eq_true] at hok
  obtain ⟨hg, hn1, hn2⟩ := hok
  obtain ⟨fnI, hfnI, hnm⟩ : ∃ fn, P.funcs[g']? = some fn ∧ nameOk fn = true := by
    unfold okFn at hg
    split at hg
    · rename_i fn hfn; exact ⟨fn, hfn, hg⟩
    · simp at hg
  have hrt : ∀ s x, rangeT1 P B d f k live D X enc s x = (stepR P (mkCfg B (lvl P B d) f) live D X enc ps assign body s x).run := fun s x => by unfold rangeT1; rw [hnode]; rfl
  cases r with
  | inl s' =>
    simp only [rangeX, T.run, Option.some.injEq, Prod.mk.injEq] at hr2
    obtain ⟨rfl, rfl⟩ := hr2
    obtain ⟨S, h3, h4, h5⟩ := foldS_inl hfold
    have key := Ld.range (P := P) (f := fo) (ps := ps) (assign := assign) (body := body) (S := fun i => D.enc (S i)) (fin := .normal) (evs := ((L s).map enc).map fun x => (x, true)) (by rw [h3]; exact hf') hfnI hnm hn1 hn2 hicl.1 ?_ rfl (fun _ => rfl)
    · simp only [List.length_map, h3, h4] at key; exact key
    · intro i x b hi
      simp only [List.getElem?_map, Option.map_map, Option.map_eq_some_iff, Function.comp_apply, Prod.mk.injEq] at hi
      obtain ⟨y, hy, rfl, rfl⟩ := hi
      refine ⟨.normal, ?_, by simp, rfl⟩
      have := h5 i y hy
      rw [hrt] at this
      exact step_inl hC hm hcode.1 hcode.2 hna hnb this
  | inr r =>
    simp only [rangeX, T.run] at hr2
    obtain ⟨S, i, x, h3, h4, h5, h6⟩ := foldS_inr hfold
    rw [hrt] at h6
    obtain ⟨e2, st2, g1, g2, g3⟩ := step_inr hC hm hcode.1 hcode.2 hna hnb h6
    rw [hr2] at g1
    injection g1 with g1
    have q1 : e = e2 := congrArg Prod.fst g1
    have q2 : st' = st2 := congrArg Prod.snd g1
    subst q1; subst q2
    have hil : i < (L s).length := (List.getElem?_eq_some_iff.1 h4).1
    have hic := hicl.2 i (enc x) (by rw [List.getElem?_map, h4]; rfl)
    have hjn : jumpOf e ≠ none := fun hj => g2 (jump_none g3.ends hj)
    have key := Ld.range (P := P) (f := fo) (ps := ps) (assign := assign) (body := body) (S := fun j => if j ≤ i then D.enc (S j) else st') (fin := e) (evs := (((L s).map enc).take i).map (fun x => (x, true)) ++ [(enc x, false)]) (by simp only [Nat.zero_le, if_true, h3]; exact hf') hfnI hnm hn1 hn2 hic ?_ g3.ends (fun h => by simp at h)
    · have hlen : ((((L s).map enc).take i).map (fun x => (x, true)) ++ [(enc x, false)]).length = i + 1 := by simp; omega
      rw [hlen] at key
      simp only [Nat.zero_le, if_true, h3] at key
      rw [if_neg (by omega)] at key
      exact key
    · intro j y b hj
      have hlen : ((((L s).map enc).take i).map (fun x => (x, true)) ++ [(enc x, false)]).length = i + 1 := by simp; omega
      rw [hlen]
      by_cases hji : j < i
      · rw [List.getElem?_append_left (by simp; omega)] at hj
        simp only [List.getElem?_map, List.getElem?_take, hji, if_true, Option.map_map, Option.map_eq_some_iff, Function.comp_apply, Prod.mk.injEq] at hj
        obtain ⟨z, hz, rfl, rfl⟩ := hj
        refine ⟨.normal, ?_, by rw [if_neg (by omega)], rfl⟩
        have := h5 j z hji hz
        rw [hrt] at this
        simp only [show j ≤ i by omega, show j + 1 ≤ i by omega, if_true]
        exact step_inl hC hm hcode.1 hcode.2 hna hnb this
      · have hlt : j < i + 1 := by rw [← hlen]; exact (List.getElem?_eq_some_iff.1 hj).1
        have : j = i := by omega
        subst this
        rw [List.getElem?_append_right (by simp; omega)] at hj
        have h0 : j - ((((L s).map enc).take j).map (fun x => (x, true))).length = 0 := by simp; omega
        rw [h0] at hj
        simp at hj
        obtain ⟨rfl, rfl⟩ := hj
        refine ⟨e, ?_, by simp, ?_⟩
        · simp only [Nat.le_refl, if_true]
          rw [if_neg (by omega)]
          exact g3
        · cases hq : jumpOf e with
          | none => exact absurd hq hjn
          | some c => rfl
end

/-- What a function that is ranged over yields with these answers. -/
def iterT1 (P : Program) (B : Tab) (d : Nat) (g : FuncId) (us vs : List AV) (bs : Nat → Bool) : Option (List (List AV × Bool)) := (iterBody P (mkCfg B (lvl P B d) g) g us vs bs).run

theorem iter_of {P : Program} {B : Tab} {d : Nat} {g : FuncId} (hP : okProg P = true) (h : TabOk P B) {us vs : List AV} {L : List (List AV)} (h1 : iterT1 P B d g us vs (fun _ => true) = some (L.map fun x => (x, true)))
    (h2 : ∀ i x, L[i]? = some x → iterT1 P B d g us vs (fun k => !(Nat.beq k i)) = some ((L.take i).map (fun x => (x, true)) ++ [(x, false)])) : ICL P g us vs L :=
  ⟨body_ic hP h d h1, fun i x hi => body_ic hP h d (h2 i x hi)⟩

end

end Go.Proofs.Ytkajafmphemedaa.Ev
