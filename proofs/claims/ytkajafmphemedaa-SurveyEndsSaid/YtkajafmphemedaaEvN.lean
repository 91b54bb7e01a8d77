/- A range over a function: one round; the statement. -/
import Derived.Test.YtkajafmphemedaaEvM
namespace Go.Proofs.Ytkajafmphemedaa.Ev
open Go.RowKit

section
variable {P : Program} {yl : Option Nat} {evs0 : List (List AV × Bool)} {Y : Nat → Fx} {S : Nat → St} {l i : Nat} {ds : List Nat} {a : Act} {sv : Array Value} {rec : Nat → Loop} {x : List AV} {e : Exit}

theorem round_ok (hY : YH P yl evs0 Y) (hrd : Round P (rec i).params (rec i).assign (rec i).body (S i) (S (i + 1)) x e) (hev : (S (i + 1)).out.reverse <+: evs0)
    (htm : (rec i).tmps = a.tmps) (hst : (rec i).state = .ready) (hnext : rec (i + 1) = { rec i with state := if (jumpOf e).isNone then .ready else .done, pending := jumpOf e })
    {ro : Option Nat} {n : Nat} {A' O : Nat → Prop} {w : World} {us : Array Value} {R : Ending → World → Prop} (hA' : ∀ k, A' k → k < w.heap.size) (hO : ∀ k, O k → k < w.heap.size ∧ ¬ A' k)
    (hmid : Mid Y yl S l ds a sv rec i A' O w) (hv : VRs w (fun k => A' k ∨ O k) noR x us)
    (hR : ∀ A'' w', Mid Y yl S l ds a sv rec (i + 1) A'' O w' → Keeps A' A'' w w' → (∀ k, A'' k → k < w'.heap.size) → R (.returned (.bool (jumpOf e).isNone)) w') :
    ∃ l' f tmps assign body, some l = some l' ∧ (Instr.yield l' us).run P w = .ok (.round l' f tmps assign body) w ∧ RoundIn (WF ro) n P l' f tmps assign body w R := by
  obtain ⟨A1, r, hA, hdis, hl, hfr, hy, hrec⟩ := hmid
  obtain ⟨U, T, hasg, hbod, hsav, hlen, hloc, hout⟩ := hrd.walk
  have hus : us.size = (rec i).params.size := by rw [← hv.1, hrd.size]
  have hltl : l < w.heap.size := (Array.getElem?_eq_some_iff.1 hrec).1
  refine ⟨l, _, _, _, _, rfl, run_yield hrec hus, roundIn_of_wpIn trivial ?_⟩
  have hfold : ((rec i).params.zip us).foldl (fun tmps (t, a) => tmps.setIfInBounds t a) (rec i).tmps = bindVs a.tmps (rec i).params.toList us.toList := by
    rw [← bindVs_fold, ← Array.foldl_toList, htm]
    simp
  rw [hfold]
  have hqd : ∀ q, q ∈ ds → w.heap[q]? = some (.deferred (some [])) := fun q hq => (hfr.dok q hq).1
  have hql : ∀ q, q ∈ ds → q ≠ l := fun q hq e => by have := hqd q hq; rw [e, hrec] at this; cases this
  have hdsA : ∀ q, q ∈ ds → A' q := fun q hq => (hA q).2 (.inr (.inl (.inr hq)))
  let A2 : Nat → Prop := fun b => A1 b ∨ O b ∨ b = l ∨ b ∈ ds
  have hsame : ∀ b, AR A2 r [] b → AR (fun b => A1 b ∨ (O b ∧ b < w.heap.size) ∨ b = l) r ds b := fun b hb => by
    rcases hb with (h | h | h | h) | h | h
    · exact .inl (.inl h)
    · exact .inl (.inr (.inl ⟨h, (hO b h).1⟩))
    · exact .inl (.inr (.inr h))
    · exact .inr (.inr h)
    · exact .inr (.inl h)
    · simp at h
  have hkk : Keeps (AR (fun b => A1 b ∨ (O b ∧ b < w.heap.size) ∨ b = l) r ds) (AR A2 r []) w w := ⟨Nat.le_refl _, fun _ _ _ => rfl, fun b hb => .inl (hsame b hb)⟩
  have hkx : Keeps (fun k => A' k ∨ O k) (AR A2 r []) w w := ⟨Nat.le_refl _, fun _ _ _ => rfl, fun b hb => .inl (by
    rcases hsame b hb with (h | ⟨h, _⟩ | h) | h
    · exact .inl ((hA b).2 (.inl h))
    · exact .inr h
    · exact .inl ((hA b).2 (.inr (.inr h)))
    · exact .inl ((hA b).2 (.inr (.inl h))))⟩
  have hrnd : ∀ rc, w.heap[l]? = some (.loop rc) → Rnd Y l ds A' O w rc (S i).out.length A2 (own r []) w := fun rc hrc => by
    refine ⟨A1, fun b => Iff.rfl, hY.1 _ _ _ _ _ _ hy ⟨rfl, rfl, rfl, Nat.le_refl _, fun _ _ _ => rfl⟩ (fun b hb => .inl ?_), ⟨Nat.le_refl _, fun _ _ _ => rfl, fun b hb => .inl ((hA b).2 ?_)⟩, fun b hb => ?_, hqd, hrc⟩
    · rcases hb with (h | h) | h | h | h
      · exact .inl (.inl h)
      · simp at h
      · exact .inr (.inl h)
      · exact .inr (.inr h)
      · exact .inl (.inr h)
    · rcases hb with h | (h | h) | h | h
      · exact .inl h
      · exact .inr (.inl (.inl h))
      · simp at h
      · exact .inr (.inr h)
      · exact .inr (.inl (.inr h))
    · have hno : ¬ own r [] b := fun ho => by
        rcases ho with ⟨j, hj⟩ | h
        · rcases hb with h | h | h
          · exact hdis b h ((hA b).2 (.inr (.inl (.inl ⟨j, hj⟩))))
          · exact hfr.dis j b hj (.inr (.inr h))
          · exact hfr.markNot h hj rfl
        · simp at h
      rcases hb with h | h | h
      · exact ⟨fun h1 => hdis b h ((hA b).2 (.inl h1)), hno, (hO b h).1⟩
      · exact ⟨by rw [h]; exact hl, hno, by rw [h]; exact hltl⟩
      · exact ⟨fun h1 => (hfr.dok b h).2 (.inl h1), hno, hA' b (hdsA b h)⟩
  have hstart : FR (Rnd Y l ds A' O w (rec i) (S i).out.length) yl A2 ((S i).env ++ (S i).sav) (a.tmps ++ sv) (bindPs (S i).env (rec i).params.toList x) (locOf (S i)) r [] { tmps := bindVs a.tmps (rec i).params.toList us.toList, defers := [] } w := by
    refine ⟨bind_rel (hfr.env.mono hkk (fun _ _ h => h)) (hv.mono hkx (fun j b h => by simp [noR] at h)), (hfr.env.mono hkk (fun _ _ h => h)).append (hfr.sav.mono hkk (fun _ _ h => h)), fun j k hj => ?_, hfr.dom, hfr.inj, fun j b hj h => ?_, hfr.lt, fun b hb => ?_, hrnd _ hrec, Rnd.stands hY.1 _, rfl, List.nodup_nil, fun q hq => by simp at hq, hfr.ylv⟩
    · obtain ⟨b, hb, hbr⟩ := hfr.mem j k hj
      exact ⟨b, hb, hbr.keep hkk (fun _ _ h => h) rfl⟩
    · have hown : own r ds b := .inl ⟨j, hj⟩
      rcases h with h | h | h | h
      · exact hfr.dis j b hj (.inl h)
      · exact hdis b h ((hA b).2 (.inr (.inl hown)))
      · exact hfr.dis j b hj (.inr (.inr h))
      · exact hfr.markNot h hj rfl
    · exact hfr.arLt b (hsame b (.inl hb))
  have hrcd : ∀ rc, Rc (some l) (Rnd Y l ds A' O w rc) := fun rc l' hl' i A0 O w hh => by
    injection hl' with hl'; subst hl'
    exact ⟨rc, hh.choose_spec.2.2.2.2.2⟩
  have hextB := hbod.1
  have hevT : T.out.reverse <+: evs0 := by rw [hout]; exact hev
  refine wpIn_mono (hasg.2 yl evs0 (Rnd Y l ds A' O w (rec i)) (hextB.pre hevT) (Rnd.yields hY) (some l) n (hrcd _) A2 r [] (a.tmps ++ sv) _ w hstart) ?_
  rintro e' a1 w1 ⟨rfl, A3, r3, ds3, hfrU⟩
  have hrecU : w1.heap[l]? = some (.loop (rec i)) := hfrU.inv.choose_spec.2.2.2.2.2
  refine ⟨_, run_beginRound hrecU hst, ?_⟩
  have hlA3 : A3 l := (hfrU.inv.choose_spec.1 l).2 (.inr (.inr (.inl rfl)))
  have hfrU' : FR (Rnd Y l ds A' O w { rec i with state := .busy } U.out.length) yl A3 U.sav (a.tmps ++ sv) U.env (locOf U) r3 ds3 a1 (w1.putObj l (.loop { rec i with state := .busy })) := by
    refine hfrU.other (X' := Rnd Y l ds A' O w { rec i with state := .busy } U.out.length) ?_ (Rnd.stands hY.1 _) ⟨by simp, fun b _ hb => World.putObj_heap_other (fun e => hb (by rw [e]; exact hlA3)), fun b hb => .inl hb⟩ (fun b hb => by simpa using hfrU.a0 b hb)
    obtain ⟨A4, h1, h2, h3, h4, h5, h6⟩ := hfrU.inv
    refine ⟨A4, h1, hY.1 _ _ _ _ _ _ h2 ⟨rfl, rfl, rfl, by simp, fun b _ hb => World.putObj_heap_other (fun e => hb (.inr (.inr (.inl e))))⟩ (fun b hb => .inl hb), ⟨by simpa using h3.size, fun b hb hn => ?_, h3.more⟩, h4, fun q hq => ?_, World.putObj_heap_same (Array.getElem?_eq_some_iff.1 h6).1⟩
    · rw [World.putObj_heap_other (fun e => hn ((hA b).2 (.inr (.inr e))))]; exact h3.block b hb hn
    · rw [World.putObj_heap_other (hql q hq)]; exact h5 q hq
  refine wpIn_mono (hbod.2 yl evs0 (Rnd Y l ds A' O w { rec i with state := .busy }) hevT (Rnd.yields hY) (some l) n (hrcd _) A3 r3 ds3 (a.tmps ++ sv) a1 _ hfrU') ?_
  rintro e' a2 w2 ⟨rfl, A4, r4, ds4, hfrT⟩
  obtain ⟨A5, h1, h2, h3, h4, h5, h6⟩ := hfrT.inv
  have hend := run_endRound (P := P) (jumpOf e') h6
  have hlw2 : l < w2.heap.size := (Array.getElem?_eq_some_iff.1 h6).1
  have hrec' : ({ { rec i with state := .busy } with state := if (jumpOf e').isNone then .ready else .done, pending := jumpOf e' } : Loop) = rec (i + 1) := by rw [hnext]
  rw [hrec'] at hend
  have hOA' : ∀ b, O b → ¬ A' b := fun b hb => (hO b hb).2
  let A6 : Nat → Prop := fun b => A5 b ∨ own r4 ds b ∨ b = l
  have hr4A : ∀ (j b : Nat), r4 j = some b → ¬ A4 b := hfrT.dis
  have hput : ∀ b, b ≠ l → (w2.putObj l (.loop (rec (i + 1)))).heap[b]? = w2.heap[b]? := fun b hb => World.putObj_heap_other hb
  have hA4l : A4 l := (h1 l).2 (.inr (.inr (.inl rfl)))
  have key : R (.returned (.bool (jumpOf e').isNone)) (w2.putObj l (.loop (rec (i + 1)))) := by
    refine hR A6 _ ⟨A5, r4, fun b => Iff.rfl, fun b hb hb' => ?_, (h4 l (.inr (.inl rfl))).1, ?_, ?_, World.putObj_heap_same hlw2⟩ ?_ (fun b hb => ?_)
    · rcases hb' with h | (⟨j, h⟩ | h) | h
      · exact (h4 b (.inl hb)).1 h
      · exact (h4 b (.inl hb)).2.1 (.inl ⟨j, h⟩)
      · exact hOA' b hb (hdsA b h)
      · exact hOA' b hb ((hA b).2 (.inr (.inr h)))
    · have hsub : ∀ b, AR (fun b => A5 b ∨ (O b ∧ b < (w2.putObj l (.loop (rec (i + 1)))).heap.size) ∨ b = l) r4 ds b → AR A4 r4 ds4 b := fun b hb => by
        rcases hb with (h | ⟨h, _⟩ | h) | h | h
        · exact .inl ((h1 b).2 (.inl h))
        · exact .inl ((h1 b).2 (.inr (.inl h)))
        · exact .inl ((h1 b).2 (.inr (.inr (.inl h))))
        · exact .inr (.inl h)
        · exact .inl ((h1 b).2 (.inr (.inr (.inr h))))
      have hk4 : Keeps (AR A4 r4 ds4) (AR (fun b => A5 b ∨ (O b ∧ b < (w2.putObj l (.loop (rec (i + 1)))).heap.size) ∨ b = l) r4 ds) w2 (w2.putObj l (.loop (rec (i + 1)))) :=
        ⟨by simp, fun b _ hb => hput b (fun e => hb (by rw [e]; exact .inl hA4l)), fun b hb => .inl (hsub b hb)⟩
      have hs := hfrT.sav
      rw [hsav] at hs
      have hsz : (S (i + 1)).env.length = a.tmps.size := by rw [hlen]; exact hfr.env.1
      obtain ⟨hs1, hs2⟩ := VRs.split hs hsz
      have elo : locOf T = locOf (S (i + 1)) := by unfold locOf; rw [hloc]
      refine ⟨hs1.mono hk4 (fun _ _ h => h), hs2.mono hk4 (fun _ _ h => h), fun j k hj => ?_, fun j b hj => ?_, hfrT.inj, fun j b hj hb => ?_, fun j b hj => by simpa using hfrT.lt j b hj, fun b hb => ?_, trivial, fun _ _ _ _ _ _ _ _ => trivial, hfr.dfr, hfr.dnd, fun q hq => ⟨?_, fun hb => ?_⟩, hfrT.ylv⟩
      · rw [← elo] at hj
        obtain ⟨b, hb, hbr⟩ := hfrT.mem j k hj
        exact ⟨b, hb, hbr.keep hk4 (fun _ _ h => h) (hput b (fun e => hr4A j b hb (by rw [e]; exact hA4l)))⟩
      · rw [← elo]; exact hfrT.dom j b hj
      · rcases hb with h | ⟨h, _⟩ | h
        · exact hr4A j b hj ((h1 b).2 (.inl h))
        · exact hr4A j b hj ((h1 b).2 (.inr (.inl h)))
        · exact hr4A j b hj ((h1 b).2 (.inr (.inr (.inl h))))
      · have := hfrT.arLt b (hsub b (.inl hb))
        simpa using this
      · rw [hput q (hql q hq)]; exact h5 q hq
      · rcases hb with h | ⟨h, _⟩ | h
        · exact (h4 q (.inr (.inr hq))).1 h
        · exact hOA' q h (hdsA q hq)
        · exact hql q hq h
    · rw [← hout]
      refine hY.1 _ _ _ _ _ _ h2 ⟨rfl, rfl, rfl, by simp, fun b _ hb => hput b (fun e => hb (.inr (.inr (.inl e))))⟩ (fun b hb => .inl ?_)
      rcases hb with (h | h) | h | h
      · exact .inl (.inl h)
      · exact .inr (.inr (.inr h))
      · exact .inr (.inl h)
      · exact .inr (.inr (.inl h))
    · refine ⟨by simpa using h3.size, fun b hb hn => ?_, fun b hb => h3.more b ?_⟩
      · rw [hput b (fun e => hn ((hA b).2 (.inr (.inr e))))]; exact h3.block b hb hn
      · rcases hb with h | (h | h) | h
        · exact .inl h
        · exact .inr (.inl (.inl h))
        · exact .inr (.inr (.inr h))
        · exact .inr (.inr (.inl h))
    · rcases hb with h | (⟨j, h⟩ | h) | h
      · have := hfrT.a0 b ((h1 b).2 (.inl h)); simpa using this
      · have := hfrT.lt j b h; simpa using this
      · have := (Array.getElem?_eq_some_iff.1 (h5 b h)).1; simpa using this
      · rw [h]; simpa using hlw2
  have hends := hrd.ends
  cases e' with
  | normal => exact ⟨_, _, hend, key⟩
  | ret => exact ⟨_, _, hend, key⟩
  | exit id => exact ⟨_, _, hend, key⟩
  | goto t => simp [roundEnd] at hends
  | panic ch => simp [roundEnd] at hends
  | outgrown => simp [roundEnd] at hends

theorem chain_ext {S : Nat → St} {N : Nat} (h : ∀ i, i < N → Ext (S i) (S (i + 1))) : ∀ i, i ≤ N → Ext (S i) (S N) := by
  intro i hi
  obtain ⟨d, rfl⟩ : ∃ d, N = i + d := ⟨N - i, by omega⟩
  clear hi
  induction d with
  | zero => exact .refl _
  | succ d ih => exact (ih fun k hk => h k (by omega)).trans (h (i + d) (by omega))

theorem FR.move2 {X X' : Fx} {A0 A0' : Nat → Prop} {sav env : List AV} {sv : Array Value} {yl : Option Nat} {loc : Nat → Option Blk} {r : Rr} {ds ds' : List Nat} {a a' : Act} {w w' : World} (h : FR X yl A0 sav sv env loc r ds a w) (ht : a'.tmps = a.tmps)
    (hb : Below w.heap.size w w') (hX : X' A0' (own r ds') w') (hS : Stands X') (hA : ∀ b, A0' b → A0 b ∨ w.heap.size ≤ b) (hlt : ∀ b, A0' b → b < w'.heap.size) (hds : ∀ q, q ∈ ds' → q ∈ ds ∨ w.heap.size ≤ q)
    (hd : a'.defers = ds'.map fun q => { target := .collected q, args := #[] }) (hn : ds'.Nodup) (hok : ∀ q, q ∈ ds' → w'.heap[q]? = some (.deferred (some [])) ∧ ¬ A0' q) : FR X' yl A0' sav sv env loc r ds' a' w' := by
  have hk : Keeps (AR A0 r ds) (AR A0' r ds') w w' := by
    refine ⟨hb.size, fun b hb' _ => hb.block b hb', fun b hb' => ?_⟩
    rcases hb' with h1 | h1 | h1
    · exact (hA b h1).imp .inl id
    · exact .inl (.inr (.inl h1))
    · exact (hds b h1).imp (fun h => .inr (.inr h)) id
  refine ⟨by rw [ht]; exact h.env.mono hk (fun _ _ h => h), h.sav.mono hk (fun _ _ h => h), fun j k hj => ?_, h.dom, h.inj, fun j b hj h1 => ?_, fun j b hj => Nat.lt_of_lt_of_le (h.lt j b hj) hb.size, hlt, hX, hS, hd, hn, hok, h.ylv⟩
  · obtain ⟨b, hb', hbr⟩ := h.mem j k hj
    exact ⟨b, hb', hbr.keep hk (fun _ _ h => h) (hb.block b (h.lt j b hb'))⟩
  · rcases hA b h1 with h2 | h2
    · exact h.dis j b hj h2
    · have := h.lt j b hj; omega

/-- The statement: evs: what the function yields, and what its yields are answered; fin: how the last round ends. -/
theorem Ld.range {f : Operand} {g : FuncId} {us vs : List AV} {fnI : Func} {ps : Array Tmp} {assign body : Code} {S : Nat → St} {fin : Exit} {evs : List (List AV × Bool)}
    (hf : evO (S 0).env f = some (.fn (.func g) us vs)) (hg : P.funcs[g]? = some fnI) (hok : nameOk fnI = true) (hn1 : us.all noL = true) (hn2 : vs.all noL = true) (hic : IC P g us vs evs)
    (hr : ∀ i x b, evs[i]? = some (x, b) → ∃ e, Round P ps assign body (S i) (S (i + 1)) x e ∧ (if i + 1 = evs.length then e = fin else e = .normal) ∧ b = (jumpOf e).isNone)
    (hfin : roundEnd fin = true) (h0 : evs = [] → fin = .normal) : Ld P (.rangeFunc f ps assign body) (S 0) fin (S evs.length) := by
  have hround : ∀ i, i < evs.length → ∃ x b e, evs[i]? = some (x, b) ∧ Round P ps assign body (S i) (S (i + 1)) x e ∧ (if i + 1 = evs.length then e = fin else e = .normal) ∧ b = (jumpOf e).isNone := fun i hi => by
    obtain ⟨e, h⟩ := hr i (evs[i]).1 (evs[i]).2 (by rw [List.getElem?_eq_getElem hi])
    exact ⟨_, _, e, List.getElem?_eq_getElem hi, h⟩
  have hext : ∀ i, i ≤ evs.length → Ext (S i) (S evs.length) := chain_ext fun i hi => by
    obtain ⟨x, b, e, _, h, _⟩ := hround i hi
    exact h.ext
  refine ⟨hext 0 (Nat.zero_le _), fun yl evs0 Y hev hY ro n hrc A0 r ds sv a w hfr => wpIn_rangeFunc (fun fn _ => ?_)⟩
  obtain ⟨l, mk, dq, w1, hent, hb1, hrec1, hl1, hmn, hmk⟩ := enter_run (P := P) ro w fn a.tmps ps assign body (fun l hl => hrc l hl _ _ _ _ hfr.inv)
  let mark : Nat → Deferred := fun q => { target := .collected q, args := #[] }
  let a1 : Act := { a with defers := mk.map mark ++ a.defers }
  have hdslt : ∀ q, q ∈ ds → q < w.heap.size := fun q hq => (Array.getElem?_eq_some_iff.1 (hfr.dok q hq).1).1
  have hdsw : ∀ q, q ∈ mk ++ ds → q ∈ ds ∨ w.heap.size ≤ q := fun q hq => by
    rcases List.mem_append.1 hq with h | h
    · exact .inr (hmk q h).1
    · exact .inl h
  have hfr1 : FR (Y (S 0).out.length) yl A0 (S 0).sav sv (S 0).env (locOf (S 0)) r (mk ++ ds) a1 w1 := by
    refine hfr.move rfl (.below hb1) (fun j b hj => hb1.block b (hfr.lt j b hj)) hdsw ?_ ?_ (fun q hq => ?_)
    · show mk.map mark ++ a.defers = (mk ++ ds).map mark
      rw [List.map_append, hfr.dfr]
    · refine List.nodup_append.2 ⟨hmn, hfr.dnd, fun p hp q hq e => ?_⟩
      have := (hmk p hp).1
      have := hdslt q hq
      omega
    · rcases List.mem_append.1 hq with h | h
      · exact ⟨(hmk q h).2, fun hA => by have := hfr.a0 q hA; have := (hmk q h).1; omega⟩
      · exact ⟨by rw [hb1.block q (hdslt q h)]; exact (hfr.dok q h).1, (hfr.dok q h).2⟩
  have hfv' : VR w (AR A0 r ds) r (.fn (.func g) us vs) (a.eval f) := hfr.eval f _ hf
  have hl1' : l < w1.heap.size := (Array.getElem?_eq_some_iff.1 hrec1).1
  have hA0l : ¬ A0 l := fun h => by have := hfr.a0 l h; omega
  have hownl : ¬ own r (mk ++ ds) l := fun h => by
    rcases h with ⟨j, hj⟩ | h
    · have := hfr.lt j l hj; omega
    · have := (hfr1.dok l h).1; rw [hrec1] at this; cases this
  let rcd : Nat → Loop := fun i => { state := if (if i = evs.length then jumpOf fin else none).isNone then .ready else .done, pending := if i = evs.length then jumpOf fin else none, fn, tmps := a.tmps, params := ps, assign, body, defers := dq }
  have hp0 : (if 0 = evs.length then jumpOf fin else none) = none := by
    split
    · rename_i h; rw [h0 (List.eq_nil_of_length_eq_zero h.symm)]; rfl
    · rfl
  have hrec0 : w1.heap[l]? = some (.loop (rcd 0)) := by
    rw [hrec1]; simp only [rcd, hp0]; rfl
  generalize hz : a.eval f = z at hfv'
  cases hfv' with
  | fn hx hy h1 h2 =>
    rename_i us' vs'
    have hfnb : fnI.body.isNone = false ∧ (fnI.name == "runtime.NumGoroutine") = false := by
      simp only [nameOk, Bool.and_eq_true, Bool.not_eq_true'] at hok
      refine ⟨?_, hok.2⟩
      cases hb : fnI.body with
      | none => simp [hb] at hok
      | some _ => rfl
    have hA1 : ∀ b, (AR A0 r (mk ++ ds) b ∨ b = l) → AR A0 r ds b ∨ w.heap.size ≤ b := fun b hb => by
      rcases hb with (h | h | h) | h
      · exact .inl (.inl h)
      · exact .inl (.inr (.inl h))
      · rcases List.mem_append.1 h with h | h
        · exact .inr (hmk b h).1
        · exact .inl (.inr (.inr h))
      · rw [h]; exact .inr hl1
    let A' : Nat → Prop := fun b => A0 b ∨ own r (mk ++ ds) b ∨ b = l
    have hkA : Keeps (AR A0 r ds) A' w w1 := ⟨hb1.size, fun b hb _ => hb1.block b hb, fun b hb => hA1 b (by
      rcases hb with h | h | h
      · exact .inl (.inl h)
      · exact .inl (.inr h)
      · exact .inr h)⟩
    have g1 : VRs w1 A' (yR (some l)) us us' := by
      have := VRs.weaken (A' := AR A0 r ds) (r' := yR (some l)) hn1 ⟨hx, h1⟩ (fun _ h => h)
      exact this.mono hkA (fun _ _ h => h)
    have g2 : VRs w1 A' (yR (some l)) vs vs' := by
      have := VRs.weaken (A' := AR A0 r ds) (r' := yR (some l)) hn2 ⟨hy, h2⟩ (fun _ h => h)
      exact this.mono hkA (fun _ _ h => h)
    have gy : VRs w1 A' (yR (some l)) [.yv] #[.func (.yield l) #[] #[]] := VRs.one (.yv rfl)
    have hresolve : (resolve a.eval (rangeCall f l) 0).run P w1 = .ok { target := .fn (.func g) vs', args := us' ++ #[.func (.yield l) #[] #[]] } w1 := by
      have e : Array.map a.eval #[Operand.const (Value.func (Fn.yield l) #[] #[])] = #[Value.func (Fn.yield l) #[] #[]] := by simp [Act.eval]
      simp only [resolve, hz, Deferred.ofValue, Sem.run_pure, e]
    have hinv : (invoke (.fn (.func g) vs') (us' ++ #[.func (.yield l) #[] #[]])).run P w1 = .ok (.enter g (us' ++ #[.func (.yield l) #[] #[]] ++ vs')) w1 := by
      simp only [invoke, callFunc, Sem.run_bind, Sem.run_pure, Result.andThen_ok, run_program, hg, hfnb.1, hfnb.2, Bool.false_eq_true, if_false]
    refine ⟨l, mk.map mark, w1, _, w1, g, _, w1, hent, hresolve, fun _ _ => trivial, hinv, fun h => by simp [wf_depth] at h, ?_⟩
    have hYH : YH P (some l) evs (Mid Y yl S l (mk ++ ds) a1 sv rcd) := by
      refine ⟨Mid.stands hY.1, fun i x b hi ro' n' B O w2 us2 R hB hO hmid hv2 hR => ?_⟩
      have hilt : i < evs.length := (List.getElem?_eq_some_iff.1 hi).1
      obtain ⟨e, hrd, he, hbe⟩ := hr i x b hi
      have hrst : (rcd i).state = .ready := by
        simp only [rcd, if_neg (show ¬ i = evs.length by omega)]; rfl
      refine round_ok (rec := rcd) (e := e) (a := a1) (sv := sv) (ds := mk ++ ds) hY hrd ((hext (i + 1) (by omega)).pre hev) rfl hrst ?_ hB hO hmid hv2 (fun A'' w' hm hk hA => by rw [← hbe]; exact hR A'' w' hm hk hA)
      have hj : jumpOf e = if i + 1 = evs.length then jumpOf fin else none := by
        split at he
        · rename_i h; rw [if_pos h, he]
        · rename_i h; rw [if_neg h, he]; rfl
      simp only [rcd, hj]
    have hMid0 : Mid Y yl S l (mk ++ ds) a1 sv rcd 0 A' (fun _ => False) w1 := by
      refine ⟨A0, r, fun b => Iff.rfl, fun _ h => h.elim, hA0l, ?_, ?_, hrec0⟩
      · refine hfr.move2 (X' := Tr) rfl hb1 trivial (fun _ _ _ _ _ _ _ _ => trivial) (fun b hb => ?_) (fun b hb => ?_) hdsw hfr1.dfr hfr1.dnd (fun q hq => ⟨(hfr1.dok q hq).1, fun hb => ?_⟩)
        · rcases hb with h | ⟨h, _⟩ | h
          · exact .inl h
          · exact h.elim
          · rw [h]; exact .inr hl1
        · rcases hb with h | ⟨h, _⟩ | h
          · exact hfr1.a0 b h
          · exact h.elim
          · rw [h]; exact hl1'
        · rcases hb with h | ⟨h, _⟩ | h
          · exact (hfr1.dok q hq).2 h
          · exact h
          · exact hownl (by rw [← h]; exact .inr hq)
      · refine hfr.clo _ _ _ _ _ hfr.inv (.below hb1) (fun b hb => ?_)
        rcases hb with (h | h) | h | h
        · exact .inl (.inl h)
        · exact (hdsw b h).imp .inr id
        · exact h.elim
        · rw [h]; exact .inr hl1
    refine (hic ro (n - 1) l (Mid Y yl S l (mk ++ ds) a1 sv rcd) A' w1 _ hYH (fun b hb => ?_) hMid0 ((g1.append gy).append g2)).mono ?_
    · rcases hb with h | h | h
      · exact hfr1.a0 b h
      · exact hfr1.arLt b (.inr h)
      · rw [h]; exact hl1'
    · rintro e' w3 ⟨⟨v, rfl⟩, B, ⟨A5, r5, hB, hdis5, hl5, hfr5, hy5, hrec5⟩, hB5⟩
      have hl3 : l < w3.heap.size := (Array.getElem?_eq_some_iff.1 hrec5).1
      have hend := run_endLoop (P := P) hrec5 (fun h => by
        have : ∀ c : Bool, (if c = true then LoopState.ready else LoopState.done) ≠ .busy := fun c => by cases c <;> simp
        exact this _ h)
      have hfr6 : FR (Y (S evs.length).out.length) yl A5 (S evs.length).sav sv (S evs.length).env (locOf (S evs.length)) r5 (mk ++ ds) a1 (w3.putObj l (.loop { rcd evs.length with state := .exhausted })) := by
        refine hfr5.other ?_ (hY.1 _) ⟨by simp, fun b _ hb => World.putObj_heap_other (fun e => hb (.inr (.inr e))), fun b hb => .inl (.inl hb)⟩ (fun b hb => by simpa using hfr5.a0 b (.inl hb))
        refine hY.1 _ _ _ _ _ _ hy5 ⟨rfl, rfl, rfl, by simp, fun b _ hb => World.putObj_heap_other (fun e => hb (.inr (.inr e)))⟩ (fun b hb => .inl (.inl hb))
      have hpend : (rcd evs.length).pending = jumpOf fin := by simp [rcd]
      generalize w3.putObj l (.loop { rcd evs.length with state := .exhausted }) = w4 at hend hfr6
      rw [hpend] at hend
      refine ⟨_, _, hend, ?_⟩
      cases fin with
      | normal => exact ⟨rfl, A5, r5, mk ++ ds, hfr6⟩
      | ret => exact wpIn_ret ⟨rfl, A5, r5, mk ++ ds, hfr6⟩
      | exit id => exact wpIn_exit ⟨rfl, A5, r5, mk ++ ds, hfr6⟩
      | goto t => simp [roundEnd] at hfin
      | panic ch => simp [roundEnd] at hfin
      | outgrown => simp [roundEnd] at hfin

end

end Go.Proofs.Ytkajafmphemedaa.Ev
