/- Calls on exported arguments; pure contracts; one step of the evaluator. -/
import Derived.Test.YtkajafmphemedaaEvE
namespace Go.Proofs.Ytkajafmphemedaa.Ev
open Go.RowKit

/-- No pointer to an object of the frame (a one-cell value). -/
def noL0 : AV → Bool
  | .lptr .. => false
  | .lsl .. => false
  | .yv => false
  | .fn _ xs ys => xs.isEmpty && ys.isEmpty
  | .agg _ => false
  | .tup _ => false
  | _ => true

def noL : AV → Bool
  | .fn _ xs ys => xs.all noL0 && ys.all noL0
  | .agg cs => cs.all noL0
  | .tup cs => cs.all noL0
  | x => noL0 x

/-- The objects that a value names. -/
def ids0 : AV → List Nat
  | .lptr j .. => [j]
  | .lsl j .. => [j]
  | _ => []

def idsL : List AV → List Nat
  | [] => []
  | x :: xs => ids0 x ++ idsL xs

def ids : AV → List Nat
  | .fn _ xs ys => idsL xs ++ idsL ys
  | .agg cs => idsL cs
  | .tup cs => idsL cs
  | x => ids0 x

def idsAll : List AV → List Nat
  | [] => []
  | x :: xs => ids x ++ idsAll xs

def tagOf : AV → CK
  | .int k _ => .int k
  | .bool _ => .bool
  | .str _ => .str
  | _ => .any

def ckEq : CK → CK → Bool
  | .int a, .int b => decide (a = b)
  | .bool, .bool => true
  | .str, .str => true
  | .any, .any => true
  | _, _ => false

/-- The kinds of the columns of some rows. -/
def tagsOf (wd : Nat) (cs : List AV) : List CK :=
  let t := (cs.take wd).map tagOf
  match cs.zipIdx.all fun p => ckEq (ckAt t (p.2 % wd)) (tagOf p.1) with
  | true => t
  | false => []

theorem conf_tagOf (x : AV) : conf (tagOf x) x = x := by cases x <;> rfl

theorem ckEq_eq {a b : CK} (h : ckEq a b = true) : a = b := by
  cases a <;> cases b <;> simp_all [ckEq]

theorem mapTag_conf : ∀ {cs : List AV} {k : Nat} {x : AV}, cs[k]? = some x → conf (ckAt (cs.map tagOf) k) x = x
  | [], k, x, h => by simp at h
  | y :: cs, 0, x, h => by simp at h; subst h; exact conf_tagOf _
  | y :: cs, k + 1, x, h => by simp only [List.map_cons, ckAt]; exact mapTag_conf (by simpa using h)

theorem tagsOf_conf {wd : Nat} {cs : List AV} (j : Nat) (x : AV) (h : cs[j]? = some x) : conf (ckAt (tagsOf wd cs) (j % wd)) x = x := by
  unfold tagsOf
  simp only
  split
  · rename_i hall
    have := List.all_eq_true.1 hall (x, j) (by rw [List.mem_zipIdx_iff_getElem?]; exact h)
    simp only at this
    rw [ckEq_eq this]; exact conf_tagOf x
  · rfl

/-- A pointer into an object of the frame as one into memory that came in: what it holds now. -/
def exp0 (loc : Nat → Option Blk) : AV → Option AV
  | .lptr j wd row col => match loc j with
    | some (.flat _ cs) => if cs.all noL0 = true then some (.xptr cs.length 1 ⟨cs.map tagOf, fun _ k => (cs[k]?).getD .top⟩ 0 (row * wd + col)) else none
    | none => none
  | .lsl j wd row col len cap => match loc j with
    | some (.flat _ cs) => if cs.all noL0 = true ∧ (row + len) * wd + col ≤ cs.length ∧ col = 0 then some (.xsl wd (row + len) ⟨tagsOf wd cs, fun i k => (cs[i * wd + k]?).getD .top⟩ row len cap) else none
    | none => none
  | x => match noL0 x with
    | true => some x
    | false => none

def expL (loc : Nat → Option Blk) : List AV → Option (List AV)
  | [] => some []
  | x :: xs => match exp0 loc x with
    | some y => match expL loc xs with
      | some ys => some (y :: ys)
      | none => none
    | none => none

def expA (loc : Nat → Option Blk) : AV → Option AV
  | .fn f xs ys => match expL loc xs, expL loc ys with
    | some us, some vs => some (.fn f us vs)
    | _, _ => none
  | .agg cs => match expL loc cs with
    | some us => some (.agg us)
    | none => none
  | .tup cs => match expL loc cs with
    | some us => some (.tup us)
    | none => none
  | x => exp0 loc x

def expAll (loc : Nat → Option Blk) : List AV → Option (List AV)
  | [] => some []
  | x :: xs => match expA loc x with
    | some y => match expAll loc xs with
      | some ys => some (y :: ys)
      | none => none
    | none => none

/-- A result: the elements of a tuple one by one. -/
def expT (loc : Nat → Option Blk) : AV → Option AV
  | .tup vs => match expAll loc vs with
    | some xs => some (.tup xs)
    | none => none
  | x => expA loc x

/-- Results without any pointer. -/
def plainR : AV → Bool
  | .tup cs => cs.all fun x => (plainV x).isSome
  | x => (plainV x).isSome

/-- The arguments of a call: (were objects of the frame exported, the arguments). -/
def callArgs (loc : Nat → Option Blk) (args : List AV) : Option (Bool × List AV) :=
  match args.all noL with
  | true => some (false, args)
  | false => match expAll loc args with
    | some xs => some (true, xs)
    | none => none

/-- The fence of all functions; in a round of a range over a function: `some l`. -/
def WF (ro : Option Nat) : Fence := { Fence.wide with round := ro }

/-- A pure contract: whatever the memory, the call returns what the abstract value says, and turns nothing that was there. -/
def PC (P : Program) (f : FuncId) (args : List AV) (x : AV) : Prop :=
  ∀ (ro : Option Nat) (n : Nat) (A : Nat → Prop) (w : World) (us : Array Value), (∀ b, A b → b < w.heap.size) → VRs w A noR args us →
    CallsIn (WF ro) n P f us w fun e w' => ∃ v, e = .returned v ∧ VR w' A noR x v ∧ Below w.heap.size w w'

section
variable {w : World} {A A' : Nat → Prop} {r r' : Rr}

theorem VR.weaken0 {x : AV} {v : Value} (hx : noL0 x = true) (h : VR w A r x v) (hA : ∀ b, A' b → A b) : VR w A' r' x v := by
  cases h with
  | top => exact .top
  | int => exact .int
  | bool => exact .bool
  | str => exact .str
  | nilptr => exact .nilptr
  | lptr h ho => simp [noL0] at hx
  | xptr u hb hn hc hv ho hrow => exact .xptr u hb (fun h => hn (hA _ h)) hc (fun i k hi hk => (hv i k hi hk).mono ⟨Nat.le_refl _, fun _ _ _ => rfl, fun b h => .inl (hA b h)⟩ (fun _ _ h => h)) ho hrow
  | nilsl => exact .nilsl
  | lsl h ho hl hcap => simp [noL0] at hx
  | xsl b o u hl hcap hn ha hc hv =>
    exact .xsl b o u hl hcap hn (fun h0 => ⟨(ha h0).1, (ha h0).2.1, fun h => (ha h0).2.2 (hA _ h)⟩) hc (fun h0 i k hi hk => (hv h0 i k hi hk).mono ⟨Nat.le_refl _, fun _ _ _ => rfl, fun b h => .inl (hA b h)⟩ (fun _ _ h => h))
  | fn hx1 hy h1 h2 =>
    simp [noL0] at hx
    obtain ⟨e1, e2⟩ := hx
    subst e1; subst e2
    exact .fn hx1 hy (fun i x u hxx _ => by simp at hxx) (fun i x u hxx _ => by simp at hxx)
  | nilfn => exact .nilfn
  | yv h => simp [noL0] at hx
  | nilif => exact .nilif
  | agg hx1 h1 => simp [noL0] at hx
  | tup hx1 h1 => simp [noL0] at hx

theorem VRs.weaken0 {xs : List AV} {us : Array Value} (hx : xs.all noL0 = true) (h : VRs w A r xs us) (hA : ∀ b, A' b → A b) : VRs w A' r' xs us :=
  ⟨h.1, fun i x u hi hu => (h.2 i x u hi hu).weaken0 (List.all_eq_true.1 hx x (List.mem_of_getElem? hi)) hA⟩

theorem VR.weaken {x : AV} {v : Value} (hx : noL x = true) (h : VR w A r x v) (hA : ∀ b, A' b → A b) : VR w A' r' x v := by
  cases h with
  | fn hx1 hy h1 h2 =>
    simp only [noL, Bool.and_eq_true] at hx
    have k1 := VRs.weaken0 (A' := A') (r' := r') hx.1 ⟨hx1, h1⟩ hA
    have k2 := VRs.weaken0 (A' := A') (r' := r') hx.2 ⟨hy, h2⟩ hA
    exact .fn k1.1 k2.1 k1.2 k2.2
  | agg hx1 h1 => have k1 := VRs.weaken0 (A' := A') (r' := r') (by simpa [noL] using hx) ⟨hx1, h1⟩ hA; exact .agg k1.1 k1.2
  | tup hx1 h1 => have k1 := VRs.weaken0 (A' := A') (r' := r') (by simpa [noL] using hx) ⟨hx1, h1⟩ hA; exact .tup k1.1 k1.2
  | top => exact .top
  | int => exact .int
  | bool => exact .bool
  | str => exact .str
  | nilptr => exact .nilptr
  | lptr h ho => simp [noL, noL0] at hx
  | xptr u hb hn hc hv ho hrow => exact (VR.xptr u hb hn hc hv ho hrow : VR w A r _ _).weaken0 rfl hA
  | nilsl => exact .nilsl
  | lsl h ho hl hcap => simp [noL, noL0] at hx
  | xsl b o u hl hcap hn ha hc hv => exact (VR.xsl b o u hl hcap hn ha hc hv : VR w A r _ _).weaken0 rfl hA
  | nilfn => exact .nilfn
  | yv h => simp [noL, noL0] at hx
  | nilif => exact .nilif

theorem VRs.weaken {xs : List AV} {us : Array Value} (hx : xs.all noL = true) (h : VRs w A r xs us) (hA : ∀ b, A' b → A b) : VRs w A' r' xs us :=
  ⟨h.1, fun i x u hi hu => (h.2 i x u hi hu).weaken (List.all_eq_true.1 hx x (List.mem_of_getElem? hi)) hA⟩

def noA : Nat → Prop := fun _ => False

theorem cells_top {cs : List AV} {us : Array Value} {t : TypeId} {b : Nat} (hb : w.heap[b]? = some (.cells us t (0, 0))) (hc : VRs w A r cs us) (hn : cs.all noL0 = true) (hA : ∀ b, A' b → A b) (k : Nat) (hk : k < cs.length) :
    ∃ u, w.cell? ⟨b, k, none⟩ = some u ∧ VR w A' noR ((cs[k]?).getD .top) u := by
  have hk' : k < us.size := by rw [← hc.1]; exact hk
  refine ⟨us[k], by simp [World.cell?, hb, hk'], ?_⟩
  rw [List.getElem?_eq_getElem hk]
  exact (hc.2 k cs[k] us[k] (List.getElem?_eq_getElem hk) (Array.getElem?_eq_getElem hk')).weaken0 (List.all_eq_true.1 hn _ (List.getElem_mem hk)) hA

theorem exp0_rel {loc : Nat → Option Blk} (hm : ∀ j k, loc j = some k → ∃ b, r j = some b ∧ BlkR w A r k b) (hA : ∀ b, A' b → A b) (hr' : ∀ (j b : Nat), r j = some b → ¬ A' b) {x y : AV} {v : Value} (h : exp0 loc x = some y) (k : VR w A r x v) : VR w A' noR y v := by
  cases k with
  | lptr hj ho =>
    rename_i j wd row col b off
    simp only [exp0] at h
    split at h
    · rename_i t cs hl
      split at h
      · rename_i hn
        injection h with h; subst h
        obtain ⟨b', hb', us, hh, hc⟩ := hm _ _ hl
        have : b' = b := by rw [hj] at hb'; injection hb' with hb'; exact hb'.symm
        subst this
        have hsize : b' < w.heap.size := (Array.getElem?_eq_some_iff.1 hh).1
        refine .xptr (o := 0) (fun _ k => us.getD k undef) hsize (hr' _ _ hj) (fun i k hi hk => ?_) (fun i k hi hk => ?_) (by subst ho; omega) (by omega)
        · obtain ⟨u, hu, _⟩ := cells_top hh hc hn hA k hk
          have : i = 0 := by omega
          subst this
          simp only [Nat.zero_mul, Nat.zero_add]
          rw [hu]
          have hk' : k < us.size := by rw [← hc.1]; exact hk
          simp [World.cell?, hh, hk'] at hu
          simp [Array.getD_eq_getD_getElem?, hk', hu]
        · obtain ⟨u, hu, hv⟩ := cells_top hh hc hn hA k hk
          have hk' : k < us.size := by rw [← hc.1]; exact hk
          simp [World.cell?, hh, hk'] at hu
          simp only [Array.getD_eq_getD_getElem?, Array.getElem?_eq_getElem hk', Option.getD_some, hu]
          have e : (⟨cs.map tagOf, fun _ k => (cs[k]?).getD .top⟩ : Get AV).cell i k = (cs[k]?).getD .top := by
            simp only [Get.cell, List.getElem?_eq_getElem hk, Option.getD_some]
            exact mapTag_conf (List.getElem?_eq_getElem hk)
          rw [e]; exact hv
      · simp at h
    · simp at h
  | lsl hj ho hl hcap =>
    rename_i j wd row col b off len c cap
    simp only [exp0] at h
    split at h
    · rename_i t cs hlc
      split at h
      · rename_i hn
        obtain ⟨hn1, hn2, hn3⟩ := hn
        injection h with h; subst h
        subst hn3
        obtain ⟨b', hb', us, hh, hc⟩ := hm _ _ hlc
        have : b' = b := by rw [hj] at hb'; injection hb' with hb'; exact hb'.symm
        subst this
        have hsize : b' < w.heap.size := (Array.getElem?_eq_some_iff.1 hh).1
        have hin : ∀ i k, i < row + len → k < wd → i * wd + k < cs.length := fun i k hi hk => by
          have : (i + 1) * wd ≤ (row + len) * wd := Nat.mul_le_mul_right _ hi
          rw [Nat.succ_mul] at this
          omega
        refine .xsl b' 0 (fun i k => us.getD (i * wd + k) undef) hl hcap (Nat.le_refl _) (fun _ => ⟨by subst ho; simp, hsize, hr' _ _ hj⟩) (fun _ i k hi hk => ?_) (fun _ i k hi hk => ?_)
        · have hk' : i * wd + k < us.size := by rw [← hc.1]; exact hin i k hi hk
          simp [World.cell?, hh, hk', Array.getD_eq_getD_getElem?]
        · obtain ⟨u, hu, hv⟩ := cells_top hh hc hn1 hA _ (hin i k hi hk)
          have hk' : i * wd + k < us.size := by rw [← hc.1]; exact hin i k hi hk
          simp [World.cell?, hh, hk'] at hu
          simp only [Array.getD_eq_getD_getElem?, Array.getElem?_eq_getElem hk', Option.getD_some, hu]
          have e : (⟨tagsOf wd cs, fun i k => (cs[i * wd + k]?).getD .top⟩ : Get AV).cell i k = (cs[i * wd + k]?).getD .top := by
            have h0 := List.getElem?_eq_getElem (hin i k hi hk)
            have h1 := tagsOf_conf (wd := wd) _ _ h0
            rw [Nat.mul_add_mod_of_lt hk] at h1
            simp only [Get.cell, h0, Option.getD_some]
            exact h1
          rw [e]; exact hv
      · simp at h
    · simp at h
  | top => simp [exp0, noL0] at h; subst h; exact .top
  | int => simp [exp0, noL0] at h; subst h; exact .int
  | bool => simp [exp0, noL0] at h; subst h; exact .bool
  | str => simp [exp0, noL0] at h; subst h; exact .str
  | nilptr => simp [exp0, noL0] at h; subst h; exact .nilptr
  | xptr u a1 a2 a3 a4 a5 a6 => simp [exp0, noL0] at h; subst h; exact (VR.xptr u a1 a2 a3 a4 a5 a6 : VR w A r _ _).weaken0 rfl hA
  | nilsl => simp [exp0, noL0] at h; subst h; exact .nilsl
  | xsl b o u a1 a2 a3 a4 a5 a6 => simp [exp0, noL0] at h; subst h; exact (VR.xsl b o u a1 a2 a3 a4 a5 a6 : VR w A r _ _).weaken0 rfl hA
  | fn a1 a2 a3 a4 =>
    simp only [exp0] at h
    split at h
    · rename_i hn; injection h with h; subst h; exact (VR.fn a1 a2 a3 a4 : VR w A r _ _).weaken0 hn hA
    · simp at h
  | nilfn => simp [exp0, noL0] at h; subst h; exact .nilfn
  | yv hh => simp [exp0, noL0] at h
  | nilif => simp [exp0, noL0] at h; subst h; exact .nilif
  | agg a1 a2 => simp [exp0, noL0] at h
  | tup a1 a2 => simp [exp0, noL0] at h

theorem expL_rel {loc : Nat → Option Blk} (hm : ∀ j k, loc j = some k → ∃ b, r j = some b ∧ BlkR w A r k b) (hA : ∀ b, A' b → A b) (hr' : ∀ (j b : Nat), r j = some b → ¬ A' b) : ∀ {xs ys : List AV}, expL loc xs = some ys → ys.length = xs.length ∧ ∀ (i : Nat) x y v, xs[i]? = some x → ys[i]? = some y → VR w A r x v → VR w A' noR y v
  | [], ys, h => by simp [expL] at h; subst h; exact ⟨rfl, fun i x y v hx => by simp at hx⟩
  | x :: xs, ys, h => by
    simp only [expL] at h
    split at h
    · rename_i y hy
      split at h
      · rename_i ys' hys
        injection h with h; subst h
        obtain ⟨hl, hr⟩ := expL_rel hm hA hr' hys
        refine ⟨by simp [hl], fun i a b v ha hb hv => ?_⟩
        cases i with
        | zero => simp at ha hb; subst ha; subst hb; exact exp0_rel hm hA hr' hy hv
        | succ i => exact hr i a b v (by simpa using ha) (by simpa using hb) hv
      · simp at h
    · simp at h

theorem expLs_rel {loc : Nat → Option Blk} (hm : ∀ j k, loc j = some k → ∃ b, r j = some b ∧ BlkR w A r k b) (hA : ∀ b, A' b → A b) (hr' : ∀ (j b : Nat), r j = some b → ¬ A' b) {xs ys : List AV} {us : Array Value} (h : expL loc xs = some ys) (k : VRs w A r xs us) : VRs w A' noR ys us := by
  obtain ⟨hl, hr⟩ := expL_rel hm hA hr' h
  refine ⟨by rw [hl]; exact k.1, fun i y u hy hu => ?_⟩
  have hi : i < xs.length := by rw [← hl]; exact (List.getElem?_eq_some_iff.1 hy).1
  exact hr i xs[i] y u (List.getElem?_eq_getElem hi) hy (k.2 i xs[i] u (List.getElem?_eq_getElem hi) hu)

theorem expA_rel {loc : Nat → Option Blk} (hm : ∀ j k, loc j = some k → ∃ b, r j = some b ∧ BlkR w A r k b) (hA : ∀ b, A' b → A b) (hr' : ∀ (j b : Nat), r j = some b → ¬ A' b) {x y : AV} {v : Value} (h : expA loc x = some y) (k : VR w A r x v) : VR w A' noR y v := by
  cases x with
  | fn f xs ys =>
    simp only [expA] at h
    split at h
    · rename_i us vs hu hv
      injection h with h; subst h
      cases k with
      | fn a1 a2 a3 a4 =>
        have k1 := expLs_rel hm hA hr' hu ⟨a1, a3⟩
        have k2 := expLs_rel hm hA hr' hv ⟨a2, a4⟩
        exact .fn k1.1 k2.1 k1.2 k2.2
    · simp at h
  | agg cs =>
    simp only [expA] at h
    split at h
    · rename_i us hu
      injection h with h; subst h
      cases k with
      | agg a1 a2 => have k1 := expLs_rel hm hA hr' hu ⟨a1, a2⟩; exact .agg k1.1 k1.2
    · simp at h
  | tup cs =>
    simp only [expA] at h
    split at h
    · rename_i us hu
      injection h with h; subst h
      cases k with
      | tup a1 a2 => have k1 := expLs_rel hm hA hr' hu ⟨a1, a2⟩; exact .tup k1.1 k1.2
    · simp at h
  | _ => simp only [expA] at h; exact exp0_rel hm hA hr' h k

theorem expAll_rel {loc : Nat → Option Blk} (hm : ∀ j k, loc j = some k → ∃ b, r j = some b ∧ BlkR w A r k b) (hA : ∀ b, A' b → A b) (hr' : ∀ (j b : Nat), r j = some b → ¬ A' b) : ∀ {xs ys : List AV}, expAll loc xs = some ys → ys.length = xs.length ∧ ∀ (i : Nat) x y v, xs[i]? = some x → ys[i]? = some y → VR w A r x v → VR w A' noR y v
  | [], ys, h => by simp [expAll] at h; subst h; exact ⟨rfl, fun i x y v hx => by simp at hx⟩
  | x :: xs, ys, h => by
    simp only [expAll] at h
    split at h
    · rename_i y hy
      split at h
      · rename_i ys' hys
        injection h with h; subst h
        obtain ⟨hl, hr⟩ := expAll_rel hm hA hr' hys
        refine ⟨by simp [hl], fun i a b v ha hb hv => ?_⟩
        cases i with
        | zero => simp at ha hb; subst ha; subst hb; exact expA_rel hm hA hr' hy hv
        | succ i => exact hr i a b v (by simpa using ha) (by simpa using hb) hv
      · simp at h
    · simp at h

theorem expAlls_rel {loc : Nat → Option Blk} (hm : ∀ j k, loc j = some k → ∃ b, r j = some b ∧ BlkR w A r k b) (hA : ∀ b, A' b → A b) (hr' : ∀ (j b : Nat), r j = some b → ¬ A' b) {xs ys : List AV} {us : Array Value} (h : expAll loc xs = some ys) (k : VRs w A r xs us) : VRs w A' noR ys us := by
  obtain ⟨hl, hr⟩ := expAll_rel hm hA hr' h
  refine ⟨by rw [hl]; exact k.1, fun i y u hy hu => ?_⟩
  have hi : i < xs.length := by rw [← hl]; exact (List.getElem?_eq_some_iff.1 hy).1
  exact hr i xs[i] y u (List.getElem?_eq_getElem hi) hy (k.2 i xs[i] u (List.getElem?_eq_getElem hi) hu)

theorem expT_rel {loc : Nat → Option Blk} (hm : ∀ j k, loc j = some k → ∃ b, r j = some b ∧ BlkR w A r k b) (hA : ∀ b, A' b → A b) (hr' : ∀ (j b : Nat), r j = some b → ¬ A' b) {x y : AV} {v : Value} (h : expT loc x = some y) (k : VR w A r x v) : VR w A' noR y v := by
  cases x with
  | tup cs =>
    simp only [expT] at h
    split at h
    · rename_i us hu
      injection h with h; subst h
      cases k with
      | tup a1 a2 => have k1 := expAlls_rel hm hA hr' hu ⟨a1, a2⟩; exact .tup k1.1 k1.2
    · simp at h
  | _ => simp only [expT] at h; exact expA_rel hm hA hr' h k

theorem plain_any {w' : World} {x : AV} {v : Value} (hx : (plainV x).isSome = true) (h : VR w A r x v) : VR w' A' r' x v := by
  cases h with
  | agg a1 a2 =>
    rename_i xs us
    simp only [plainV] at hx
    split at hx
    · rename_i vs hs
      refine .agg a1 (fun i x u hi hu => ?_)
      obtain ⟨z, hz, hsc⟩ := scals_get hs i x hi
      have := a2 i x u hi hu
      cases this <;> simp [scal] at hsc <;> first | exact .int | exact .bool | exact .str | exact .nilptr | exact .nilfn | exact .nilif
    · simp at hx
  | int => exact .int
  | bool => exact .bool
  | str => exact .str
  | nilptr => exact .nilptr
  | nilfn => exact .nilfn
  | nilif => exact .nilif
  | _ => simp [plainV, scal] at hx

theorem plainR_any {w' : World} {x : AV} {v : Value} (hx : plainR x = true) (h : VR w A r x v) : VR w' A' r' x v := by
  cases h with
  | tup a1 a2 =>
    simp only [plainR] at hx
    exact .tup a1 (fun i x u hi hu => plain_any (List.all_eq_true.1 hx x (List.mem_of_getElem? hi)) (a2 i x u hi hu))
  | top => simp [plainR, plainV, scal] at hx
  | int => exact .int
  | bool => exact .bool
  | str => exact .str
  | nilptr => exact .nilptr
  | nilfn => exact .nilfn
  | nilif => exact .nilif
  | agg a1 a2 => exact plain_any (A' := A') (r' := r') (w' := w') (x := .agg _) (by simpa [plainR] using hx) (VR.agg a1 a2 : VR w A r _ _)
  | _ => simp [plainR, plainV, scal] at hx

end

end Go.Proofs.Ytkajafmphemedaa.Ev
