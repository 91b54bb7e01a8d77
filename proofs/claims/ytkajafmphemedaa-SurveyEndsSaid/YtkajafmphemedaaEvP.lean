/- The evaluator: code, functions. -/
import Derived.Test.YtkajafmphemedaaEvO
namespace Go.Proofs.Ytkajafmphemedaa.Ev
open Go.RowKit

/-! ### Forgetting what is not needed any more -/

def idxOf : List Nat → Nat → Nat → Option Nat
  | [], _, _ => none
  | k :: ks, j, i => if k = j then some i else idxOf ks j (i + 1)

theorem idxOf_get : ∀ {ks : List Nat} {j i n : Nat}, idxOf ks j i = some n → i ≤ n ∧ ks[n - i]? = some j
  | [], j, i, n, h => by simp [idxOf] at h
  | k :: ks, j, i, n, h => by
    simp only [idxOf] at h
    split at h
    · rename_i e; injection h with h; subst h; subst e; simp
    · obtain ⟨h1, h2⟩ := idxOf_get h
      refine ⟨by omega, ?_⟩
      rw [show n - i = (n - (i + 1)) + 1 by omega]
      simpa using h2

def ren0 (m : Nat → Option Nat) (x : AV) : AV :=
  match x with
  | .lptr j wd row col => match m j with
    | some i => .lptr i wd row col
    | none => .top
  | .lsl j wd row col len cap => match m j with
    | some i => .lsl i wd row col len cap
    | none => .top
  | .yv => .yv
  | x => match noL0 x with
    | true => x
    | false => .top

def renA (m : Nat → Option Nat) (x : AV) : AV :=
  match x with
  | .fn f xs ys => .fn f (xs.map (ren0 m)) (ys.map (ren0 m))
  | .agg cs => .agg (cs.map (ren0 m))
  | .tup cs => .tup (cs.map (ren0 m))
  | x => ren0 m x

def renB (m : Nat → Option Nat) : Blk → Blk
  | .flat t cs => .flat t (cs.map (renA m))

section
variable {w : World} {A A' : Nat → Prop} {r r' : Rr} {m : Nat → Option Nat}

theorem ren0_rel (hA : ∀ b, A' b → A b) (hm : ∀ (j i b : Nat), m j = some i → r j = some b → r' i = some b) (hy : r' none = r none) {x : AV} {v : Value} (h : VR w A r x v) : VR w A' r' (ren0 m x) v := by
  cases h with
  | lptr h ho =>
    simp only [ren0]
    split
    · rename_i i hi; exact .lptr (hm _ _ _ hi h) ho
    · exact .top
  | lsl h ho hl hcap =>
    simp only [ren0]
    split
    · rename_i i hi; exact .lsl (hm _ _ _ hi h) ho hl hcap
    · exact .top
  | yv h => exact .yv (by rw [hy]; exact h)
  | top => exact .top
  | int => exact .int
  | bool => exact .bool
  | str => exact .str
  | nilptr => exact .nilptr
  | xptr u a b c d e f => exact (VR.xptr u a b c d e f : VR w A r _ _).weaken0 rfl hA
  | nilsl => exact .nilsl
  | xsl b o u a c d e f g => exact (VR.xsl b o u a c d e f g : VR w A r _ _).weaken0 rfl hA
  | fn a b c d =>
    simp only [ren0]
    split
    · rename_i hn; exact (VR.fn a b c d : VR w A r _ _).weaken0 hn hA
    · exact .top
  | nilfn => exact .nilfn
  | nilif => exact .nilif
  | agg a b => exact .top
  | tup a b => exact .top

theorem ren0s_rel (hA : ∀ b, A' b → A b) (hm : ∀ (j i b : Nat), m j = some i → r j = some b → r' i = some b) (hy : r' none = r none) {xs : List AV} {us : Array Value} (h : VRs w A r xs us) : VRs w A' r' (xs.map (ren0 m)) us :=
  ⟨by simpa using h.1, fun i x u hx hu => by
    rw [List.getElem?_map, Option.map_eq_some_iff] at hx
    obtain ⟨y, hy', rfl⟩ := hx
    exact ren0_rel hA hm hy (h.2 i y u hy' hu)⟩

theorem renA_rel (hA : ∀ b, A' b → A b) (hm : ∀ (j i b : Nat), m j = some i → r j = some b → r' i = some b) (hy : r' none = r none) {x : AV} {v : Value} (h : VR w A r x v) : VR w A' r' (renA m x) v := by
  cases x with
  | fn f xs ys =>
    cases h with
    | fn a b c d =>
      have k1 := ren0s_rel hA hm hy ⟨a, c⟩
      have k2 := ren0s_rel hA hm hy ⟨b, d⟩
      exact .fn k1.1 k2.1 k1.2 k2.2
  | agg cs => cases h with | agg a b => have k1 := ren0s_rel hA hm hy ⟨a, b⟩; exact .agg k1.1 k1.2
  | tup cs => cases h with | tup a b => have k1 := ren0s_rel hA hm hy ⟨a, b⟩; exact .tup k1.1 k1.2
  | _ => exact ren0_rel hA hm hy h

theorem renAs_rel (hA : ∀ b, A' b → A b) (hm : ∀ (j i b : Nat), m j = some i → r j = some b → r' i = some b) (hy : r' none = r none) {xs : List AV} {us : Array Value} (h : VRs w A r xs us) : VRs w A' r' (xs.map (renA m)) us :=
  ⟨by simpa using h.1, fun i x u hx hu => by
    rw [List.getElem?_map, Option.map_eq_some_iff] at hx
    obtain ⟨y, hy', rfl⟩ := hx
    exact renA_rel hA hm hy (h.2 i y u hy' hu)⟩
end

/-- Slots that are not in the list are forgotten. -/
def keepEnv (live : List Nat) : Nat → List AV → List AV
  | _, [] => []
  | i, x :: xs => (if live.contains i then x else .top) :: keepEnv live (i + 1) xs

theorem keepEnv_get (live : List Nat) : ∀ (env : List AV) (i j : Nat), (keepEnv live i env)[j]? = (env[j]?).map fun x => if live.contains (i + j) then x else .top
  | [], i, j => by simp [keepEnv]
  | x :: xs, i, j => by
    cases j with
    | zero => simp [keepEnv]
    | succ j => simp only [keepEnv, List.getElem?_cons_succ, keepEnv_get live xs (i + 1) j, Nat.add_assoc, Nat.add_comm 1 j]

/-- The objects that are reached. -/
def reach (loc : List Blk) : Nat → List Nat → List Nat → List Nat
  | 0, _, seen => seen
  | _ + 1, [], seen => seen
  | n + 1, j :: todo, seen => if seen.contains j then reach loc n todo seen else match loc[j]? with
    | some (.flat _ cs) => reach loc n (idsAll cs ++ todo) (seen ++ [j])
    | none => reach loc n todo seen

def pickB (m : Nat → Option Nat) (loc : List Blk) : List Nat → Option (List Blk)
  | [] => some []
  | j :: js => match loc[j]? with
    | some b => match pickB m loc js with
      | some bs => some (renB m b :: bs)
      | none => none
    | none => none

theorem pickB_get {m : Nat → Option Nat} {loc : List Blk} : ∀ {js : List Nat} {bs : List Blk}, pickB m loc js = some bs → bs.length = js.length ∧ ∀ (i j : Nat), js[i]? = some j → ∃ b, loc[j]? = some b ∧ bs[i]? = some (renB m b)
  | [], bs, h => by simp [pickB] at h; subst h; exact ⟨rfl, fun i j hi => by simp at hi⟩
  | j :: js, bs, h => by
    simp only [pickB] at h
    split at h
    · rename_i b hb
      split at h
      · rename_i bs' h'
        injection h with h; subst h
        obtain ⟨h1, h2⟩ := pickB_get h'
        refine ⟨by simp [h1], fun i k hi => ?_⟩
        cases i with
        | zero => simp at hi; subst hi; exact ⟨b, hb, rfl⟩
        | succ i => simpa using h2 i k (by simpa using hi)
      · simp at h
    · simp at h

def nodupB : List Nat → Bool
  | [] => true
  | j :: js => !js.contains j && nodupB js

theorem nodupB_inj : ∀ {js : List Nat}, nodupB js = true → ∀ (a b j : Nat), js[a]? = some j → js[b]? = some j → a = b
  | [], _, a, b, j, h, _ => by simp at h
  | k :: js, hn, a, b, j, ha, hb => by
    simp only [nodupB, Bool.and_eq_true, Bool.not_eq_true', List.contains_eq_mem, decide_eq_false_iff_not] at hn
    cases a with
    | zero => cases b with
      | zero => rfl
      | succ b => simp at ha hb; subst ha; exact absurd (List.mem_of_getElem? hb) hn.1
    | succ a => cases b with
      | zero => simp at ha hb; subst hb; exact absurd (List.mem_of_getElem? ha) hn.1
      | succ b => have := nodupB_inj hn.2 a b j (by simpa using ha) (by simpa using hb); omega

/-- Only the slots of the list, and the objects that they lead to, are kept. -/
def prune (live : List Nat) (st : St) : St :=
  let env := keepEnv live 0 st.env
  let ks := reach st.loc (st.loc.length * st.loc.length + 1000) (idsAll env ++ idsAll st.sav) []
  let m := fun j => idxOf ks j 0
  match nodupB ks with
  | true => match pickB m st.loc ks with
    | some bs => { st with env := env.map (renA m), sav := st.sav.map (renA m), loc := bs }
    | none => st
  | false => st

theorem prune_tidy (live : List Nat) (st : St) : Tidy st (prune live st) := by
  unfold prune
  simp only
  split
  · rename_i hn
    split
    · rename_i bs hb
      refine ⟨rfl, fun X yl A0 r ds sv a w h => ?_⟩
      generalize hks : reach st.loc (st.loc.length * st.loc.length + 1000) (idsAll (keepEnv live 0 st.env) ++ idsAll st.sav) [] = ks at hn hb ⊢
      obtain ⟨hl, hg⟩ := pickB_get hb
      let r' : Rr := fun x => match x with
        | none => r none
        | some i => match ks[i]? with
          | some j => r j
          | none => none
      have hinv : ∀ (i b : Nat), r' i = some b → ∃ j : Nat, ks[i]? = some j ∧ r j = some b := fun i b hi => by
        simp only [r'] at hi
        split at hi
        · rename_i j hj; exact ⟨j, hj, hi⟩
        · simp at hi
      have hsub : ∀ b, AR A0 r' ds b → AR A0 r ds b := fun b hb' => by
        rcases hb' with h1 | ⟨i, h1⟩ | h1
        · exact .inl h1
        · obtain ⟨j, _, hj⟩ := hinv i b h1; exact .inr (.inl ⟨j, hj⟩)
        · exact .inr (.inr h1)
      have hm : ∀ (j i b : Nat), idxOf ks j 0 = some i → r j = some b → r' i = some b := fun j i b hi hj => by
        have := (idxOf_get hi).2
        simp only [Nat.sub_zero] at this
        simp only [r', this]; exact hj
      have henv : VRs w (AR A0 r ds) r (keepEnv live 0 st.env) a.tmps := by
        have hlen : ∀ (env : List AV) (i : Nat), (keepEnv live i env).length = env.length := fun env => by
          induction env with
          | nil => intro i; rfl
          | cons x xs ih => intro i; simp [keepEnv, ih]
        refine ⟨by rw [hlen]; exact h.env.1, fun i x u hx hu => ?_⟩
        rw [keepEnv_get, Option.map_eq_some_iff] at hx
        obtain ⟨y, hy, rfl⟩ := hx
        split
        · exact h.env.2 i y u hy hu
        · exact .top
      have hbs : ∀ (i : Nat) (k : Blk), bs[i]? = some k → ∃ j k0, ks[i]? = some j ∧ st.loc[j]? = some k0 ∧ k = renB (fun j => idxOf ks j 0) k0 := fun i k hk => by
        have hi : i < ks.length := by rw [← hl]; exact (List.getElem?_eq_some_iff.1 hk).1
        obtain ⟨b, h1, h2⟩ := hg i ks[i] (List.getElem?_eq_getElem hi)
        rw [hk] at h2; injection h2 with h2
        exact ⟨ks[i], b, List.getElem?_eq_getElem hi, h1, h2⟩
      refine ⟨r', renAs_rel hsub hm rfl henv, renAs_rel hsub hm rfl h.sav, fun i k hk => ?_, fun i b hi => ?_, fun i j b hi hj => ?_, fun i b hi => ?_, fun i b hi => ?_, h.a0, h.clo _ _ _ _ _ h.inv ⟨rfl, rfl, rfl, Nat.le_refl _, fun _ _ _ => rfl⟩ (fun b hb' => ?_), h.clo, h.dfr, h.dnd, h.dok, h.ylv⟩
      · obtain ⟨j, k0, h1, h2, rfl⟩ := hbs i k hk
        obtain ⟨b, hb1, hb2⟩ := h.mem j k0 h2
        refine ⟨b, by simp only [r', h1]; exact hb1, ?_⟩
        cases k0 with
        | flat t cs =>
          obtain ⟨us, hh, hc⟩ := hb2
          exact ⟨us, hh, renAs_rel hsub hm rfl hc⟩
      · obtain ⟨j, h1, _⟩ := hinv i b hi
        obtain ⟨b', _, h2⟩ := hg i j h1
        exact ⟨_, h2⟩
      · obtain ⟨j1, h1, h2⟩ := hinv i b hi
        obtain ⟨j2, h3, h4⟩ := hinv j b hj
        have := h.inj _ _ _ h2 h4
        subst this
        exact nodupB_inj hn _ _ _ h1 h3
      · obtain ⟨j, _, hj⟩ := hinv i b hi; exact h.dis j b hj
      · obtain ⟨j, _, hj⟩ := hinv i b hi; exact h.lt j b hj
      · rcases hb' with ⟨i, h1⟩ | h1
        · obtain ⟨j, _, hj⟩ := hinv i b h1; exact .inl (.inl ⟨j, hj⟩)
        · exact .inl (.inr h1)
    · exact ⟨rfl, fun X yl A0 r ds sv a w h => ⟨r, h⟩⟩
  · exact ⟨rfl, fun X yl A0 r ds sv a w h => ⟨r, h⟩⟩

end Go.Proofs.Ytkajafmphemedaa.Ev
