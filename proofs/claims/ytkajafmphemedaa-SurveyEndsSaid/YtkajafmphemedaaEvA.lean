/- The values of the evaluator and how they stand to the model's values: definitions and small laws, without conditions on a program. -/
import Derived.OrdersIn
import Derived.RangeFuncIn
import Derived.Below
namespace Go.Proofs.Ytkajafmphemedaa.Ev
open Go.RowKit

/-- What is known of a column of cells. -/
inductive CK where
  | int (k : IntKind)
  | bool
  | str
  | any
  deriving Inhabited

/-- Rows of cells, with what is known of the columns. -/
structure Get (α : Type) where
  tag : List CK
  f : Nat → Nat → α
  deriving Inhabited

/-- Abstract values: memory that came in stands in the pointer itself (`get`: row, column). -/
inductive AV where
  | int (k : IntKind) (n : Int)
  | bool (b : Bool)
  | str (l : List UInt8)
  | nilptr
  | lptr (j wd row col : Nat)
  | xptr (wd n : Nat) (get : Get AV) (row col : Nat)
  | nilsl
  | lsl (j wd row col len : Nat) (cap : Option Nat)
  | xsl (wd n : Nat) (get : Get AV) (row len : Nat) (cap : Option Nat)
  | fn (f : Fn) (first captured : List AV)
  | nilfn
  | yv
  | nilif
  | agg (cs : List AV)
  | tup (vs : List AV)
  | top
  deriving Inhabited

/-- Where the frame's names point: `some j`: the block of its object j; `none`: the loop of the one who ranges over it. -/
abbrev Rr := Option Nat → Option Nat

def numOf : AV → Int
  | .int _ n => n
  | _ => 0
def truthOf : AV → Bool
  | .bool b => b
  | _ => false
def textOf : AV → List UInt8
  | .str l => l
  | _ => []

/-- A cell of a column of which something is known. -/
def conf : CK → AV → AV
  | .int k, x => .int k (numOf x)
  | .bool, x => .bool (truthOf x)
  | .str, x => .str (textOf x)
  | .any, x => x

def ckAt : List CK → Nat → CK
  | [], _ => .any
  | c :: _, 0 => c
  | _ :: cs, k + 1 => ckAt cs k

def Get.cell (g : Get AV) (i k : Nat) : AV := conf (ckAt g.tag k) (g.f i k)

instance : CoeFun (Get AV) (fun _ => Nat → Nat → AV) := ⟨Get.cell⟩

def noR : Rr := fun _ => none

/-- No slice is longer. -/
def maxL : Nat := 9223372036854775807

/-- A slice's length, as a number that is never too great. -/
def clampL (n : Nat) : Nat := if n ≤ maxL then n else maxL

theorem clampL_eq {n : Nat} (h : n ≤ maxL) : clampL n = n := if_pos h
theorem clampL_le (n : Nat) : clampL n ≤ 9223372036854775807 := by
  unfold clampL maxL; split <;> omega
theorem clampL_le' (n : Nat) : clampL n ≤ n := by
  unfold clampL; split <;> omega

/-- What an abstract value says of a value: in world w, where the blocks of A are nobody's but the frame's; r: the blocks of the frame's own objects. -/
inductive VR (w : World) (A : Nat → Prop) : (Rr) → AV → Value → Prop
  | top {r : Rr} {v : Value} : VR w A r .top v
  | int {r : Rr} {k : IntKind} {n : Int} : VR w A r (.int k n) (.int k n)
  | bool {r : Rr} {b : Bool} : VR w A r (.bool b) (.bool b)
  | str {r : Rr} {l : List UInt8} : VR w A r (.str l) (.string ⟨l.toArray⟩)
  | nilptr {r : Rr} : VR w A r .nilptr (.pointer none)
  | lptr {r : Rr} {j wd row col b off : Nat} (h : r j = some b) (ho : off = row * wd + col) : VR w A r (.lptr j wd row col) (.pointer (some ⟨b, off, none⟩))
  | xptr {r : Rr} {wd n row col b o off : Nat} {get : Get AV} (u : Nat → Nat → Value) (hb : b < w.heap.size) (hA : ¬ A b)
      (hc : ∀ i k, i < n → k < wd → w.cell? ⟨b, o + (i * wd + k), none⟩ = some (u i k)) (hv : ∀ i k, i < n → k < wd → VR w A noR (get i k) (u i k))
      (ho : off = o + (row * wd + col)) (hrow : row < n) : VR w A r (.xptr wd n get row col) (.pointer (some ⟨b, off, none⟩))
  | nilsl {r : Rr} {c : Nat} : VR w A r .nilsl (.slice none 0 c)
  | lsl {r : Rr} {j wd row col b off len c : Nat} {cap : Option Nat} (h : r j = some b) (ho : off = row * wd + col) (hl : len ≤ c ∧ len ≤ maxL) (hcap : ∀ x, cap = some x → c = x) :
      VR w A r (.lsl j wd row col len cap) (.slice (some ⟨b, off, none⟩) len c)
  | xsl {r : Rr} {wd n row len c : Nat} {cap : Option Nat} {a : Option Addr} {get : Get AV} (b o : Nat) (u : Nat → Nat → Value) (hl : len ≤ c ∧ len ≤ maxL) (hcap : ∀ x, cap = some x → c = x) (hn : row + len ≤ n)
      (ha : 0 < len → a = some ⟨b, o + row * wd, none⟩ ∧ b < w.heap.size ∧ ¬ A b)
      (hc : 0 < len → ∀ i k, i < n → k < wd → w.cell? ⟨b, o + (i * wd + k), none⟩ = some (u i k))
      (hv : 0 < len → ∀ i k, i < n → k < wd → VR w A noR (get i k) (u i k)) : VR w A r (.xsl wd n get row len cap) (.slice a len c)
  | fn {r : Rr} {f : Fn} {xs ys : List AV} {us vs : Array Value} (hx : xs.length = us.size) (hy : ys.length = vs.size)
      (h1 : ∀ (i : Nat) x u, xs[i]? = some x → us[i]? = some u → VR w A r x u) (h2 : ∀ (i : Nat) x u, ys[i]? = some x → vs[i]? = some u → VR w A r x u) : VR w A r (.fn f xs ys) (.func f us vs)
  | nilfn {r : Rr} : VR w A r .nilfn .nilFunc
  | yv {r : Rr} {l : Nat} (h : r none = some l) : VR w A r .yv (.func (.yield l) #[] #[])
  | nilif {r : Rr} : VR w A r .nilif .nilIface
  | agg {r : Rr} {xs : List AV} {us : Array Value} (hx : xs.length = us.size) (h1 : ∀ (i : Nat) x u, xs[i]? = some x → us[i]? = some u → VR w A r x u) : VR w A r (.agg xs) (.agg us)
  | tup {r : Rr} {xs : List AV} {us : Array Value} (hx : xs.length = us.size) (h1 : ∀ (i : Nat) x u, xs[i]? = some x → us[i]? = some u → VR w A r x u) : VR w A r (.tup xs) (.tuple us)

/-- The world may grow, and turn blocks of A. -/
structure Keeps (A A' : Nat → Prop) (w w' : World) : Prop where
  size : w.heap.size ≤ w'.heap.size
  block : ∀ b, b < w.heap.size → ¬ A b → w'.heap[b]? = w.heap[b]?
  more : ∀ b, A' b → A b ∨ w.heap.size ≤ b

theorem Keeps.refl (A : Nat → Prop) (w : World) : Keeps A A w w := ⟨Nat.le_refl _, fun _ _ _ => rfl, fun _ h => .inl h⟩

theorem VR.mono {w w' : World} {A A' : Nat → Prop} {r r' : Rr} {x : AV} {v : Value} (h : VR w A r x v) (hk : Keeps A A' w w') (hr : ∀ (j : Option Nat) (b : Nat), r j = some b → r' j = some b) : VR w' A' r' x v := by
  have cellOf : ∀ (b o : Nat) (z : Value), b < w.heap.size → ¬ A b → w.cell? ⟨b, o, none⟩ = some z → w'.cell? ⟨b, o, none⟩ = some z := by
    intro b o z hb hA hc
    rw [World.cell?_of_block (w := w) (hk.block b hb hA)]; exact hc
  have notA : ∀ b, b < w.heap.size → ¬ A b → ¬ A' b := fun b hb hA h => by
    rcases hk.more b h with h | h
    · exact hA h
    · omega
  induction h generalizing r' with
  | top => exact .top
  | int => exact .int
  | bool => exact .bool
  | str => exact .str
  | nilptr => exact .nilptr
  | lptr h ho => exact .lptr (hr _ _ h) ho
  | xptr u hb hA hc hv ho hrow ih =>
    exact .xptr u (Nat.lt_of_lt_of_le hb hk.size) (notA _ hb hA) (fun i k hi hk' => cellOf _ _ _ hb hA (hc i k hi hk')) (fun i k hi hk' => ih i k hi hk' (fun j b h => by simp [noR] at h)) ho hrow
  | nilsl => exact .nilsl
  | lsl h ho hl hcap => exact .lsl (hr _ _ h) ho hl hcap
  | xsl b o u hl hcap hn ha hc hv ih =>
    refine .xsl b o u hl hcap hn (fun h0 => ?_) (fun h0 i k hi hk' => ?_) (fun h0 i k hi hk' => ih h0 i k hi hk' (fun j b h => by simp [noR] at h))
    · obtain ⟨e, hb, hA⟩ := ha h0
      exact ⟨e, Nat.lt_of_lt_of_le hb hk.size, notA _ hb hA⟩
    · obtain ⟨e, hb, hA⟩ := ha h0
      exact cellOf _ _ _ hb hA (hc h0 i k hi hk')
  | fn hx hy h1 h2 ih1 ih2 => exact .fn hx hy (fun i x u a b => ih1 i x u a b hr) (fun i x u a b => ih2 i x u a b hr)
  | nilfn => exact .nilfn
  | yv h => exact .yv (hr _ _ h)
  | nilif => exact .nilif
  | agg hx h1 ih1 => exact .agg hx (fun i x u a b => ih1 i x u a b hr)
  | tup hx h1 ih1 => exact .tup hx (fun i x u a b => ih1 i x u a b hr)

/-- Two lists of values, one by one. -/
def VRs (w : World) (A : Nat → Prop) (r : Rr) (xs : List AV) (us : Array Value) : Prop := xs.length = us.size ∧ ∀ (i : Nat) x u, xs[i]? = some x → us[i]? = some u → VR w A r x u

theorem VRs.mono {w w' : World} {A A' : Nat → Prop} {r r' : Rr} {xs : List AV} {us : Array Value} (h : VRs w A r xs us) (hk : Keeps A A' w w') (hr : ∀ (j : Option Nat) (b : Nat), r j = some b → r' j = some b) : VRs w' A' r' xs us :=
  ⟨h.1, fun i x u a b => (h.2 i x u a b).mono hk hr⟩

theorem VRs.nil {w : World} {A : Nat → Prop} {r : Rr} : VRs w A r [] #[] := ⟨rfl, fun i x u h _ => by simp at h⟩

theorem VRs.append {w : World} {A : Nat → Prop} {r : Rr} {xs ys : List AV} {us vs : Array Value} (h : VRs w A r xs us) (k : VRs w A r ys vs) : VRs w A r (xs ++ ys) (us ++ vs) := by
  refine ⟨by simp [h.1, k.1], fun i x u hx hu => ?_⟩
  by_cases hi : i < xs.length
  · rw [List.getElem?_append_left hi] at hx
    rw [Array.getElem?_append_left (by rw [← h.1]; exact hi)] at hu
    exact h.2 i x u hx hu
  · rw [List.getElem?_append_right (by omega)] at hx
    rw [Array.getElem?_append_right (by rw [← h.1]; omega), ← h.1] at hu
    exact k.2 _ x u hx hu

theorem VRs.get {w : World} {A : Nat → Prop} {r : Rr} {xs : List AV} {us : Array Value} (h : VRs w A r xs us) {i : Nat} {x : AV} (hx : xs[i]? = some x) : ∃ u, us[i]? = some u ∧ VR w A r x u := by
  have hi : i < xs.length := (List.getElem?_eq_some_iff.1 hx).1
  have hu : i < us.size := by rw [← h.1]; exact hi
  exact ⟨us[i], Array.getElem?_eq_getElem hu, h.2 i x _ hx (Array.getElem?_eq_getElem hu)⟩

/-! ### Values without pointers -/

/-- The value of a one-cell abstract value without pointers. -/
def scal : AV → Option Value
  | .int k n => some (.int k n)
  | .bool b => some (.bool b)
  | .str l => some (.string ⟨l.toArray⟩)
  | .nilptr => some (.pointer none)
  | .nilfn => some .nilFunc
  | .nilif => some .nilIface
  | _ => none

def scals : List AV → Option (List Value)
  | [] => some []
  | x :: xs => match scal x with
    | some v => match scals xs with
      | some vs => some (v :: vs)
      | none => none
    | none => none

/-- The value of an abstract value without pointers. -/
def plainV : AV → Option Value
  | .agg cs => match scals cs with
    | some vs => some (.agg vs.toArray)
    | none => none
  | x => scal x

def ofScal : Value → Option AV
  | .int k n => some (.int k n)
  | .bool b => some (.bool b)
  | .string s => some (.str s.data.toList)
  | .pointer none => some .nilptr
  | .nilFunc => some .nilfn
  | .nilIface => some .nilif
  | .slice none 0 0 => some .nilsl
  | _ => none

def ofScals : List Value → Option (List AV)
  | [] => some []
  | v :: vs => match ofScal v with
    | some x => match ofScals vs with
      | some xs => some (x :: xs)
      | none => none
    | none => none

def ofV : Value → Option AV
  | .agg cs => match ofScals cs.toList with
    | some xs => some (.agg xs)
    | none => none
  | .tuple cs => match ofScals cs.toList with
    | some xs => some (.tup xs)
    | none => none
  | v => ofScal v

section
variable {w : World} {A : Nat → Prop} {r : Rr}

theorem scal_eq {x : AV} {v v' : Value} (h : scal x = some v) (k : VR w A r x v') : v' = v := by
  cases k <;> simp [scal] at h <;> exact h

theorem scals_length : ∀ {xs : List AV} {vs : List Value}, scals xs = some vs → vs.length = xs.length
  | [], vs, h => by simp [scals] at h; simp [← h]
  | x :: xs, vs, h => by
    simp only [scals] at h
    split at h
    · split at h
      · rename_i vs' h'
        injection h with h; subst h
        simp [scals_length h']
      · simp at h
    · simp at h

theorem scals_get : ∀ {xs : List AV} {vs : List Value}, scals xs = some vs → ∀ (i : Nat) x, xs[i]? = some x → ∃ v, vs[i]? = some v ∧ scal x = some v
  | [], _, _, i, x, hx => by simp at hx
  | y :: xs, vs, h, i, x, hx => by
    simp only [scals] at h
    split at h
    · rename_i v hv
      split at h
      · rename_i vs' h'
        injection h with h; subst h
        cases i with
        | zero => simp at hx; subst hx; exact ⟨v, by simp, hv⟩
        | succ i => simp at hx; obtain ⟨u, hu, hs⟩ := scals_get h' i x hx; exact ⟨u, by simpa using hu, hs⟩
      · simp at h
    · simp at h

theorem plainV_eq {x : AV} {v v' : Value} (h : plainV x = some v) (k : VR w A r x v') : v' = v := by
  cases x with
  | agg cs =>
    simp only [plainV] at h
    split at h
    · rename_i vs hs
      injection h with h; subst h
      cases k with
      | agg hx h1 =>
        rename_i us
        congr 1
        apply Array.ext
        · rw [← hx]; simp [scals_length hs]
        · intro i hi1 hi2
          have hi : i < cs.length := by rw [hx]; exact hi1
          obtain ⟨u, hu, hsc⟩ := scals_get hs i cs[i] (List.getElem?_eq_getElem hi)
          have := scal_eq hsc (h1 i cs[i] us[i] (List.getElem?_eq_getElem hi) (Array.getElem?_eq_getElem hi1))
          rw [this]
          have h2 : vs[i]? = some (vs.toArray[i]) := by simp
          rw [h2] at hu
          injection hu with hu
          exact hu.symm
    · simp at h
  | _ => simp only [plainV] at h; exact scal_eq h k

theorem ofScal_rel {v : Value} {x : AV} (h : ofScal v = some x) : VR w A r x v := by
  cases v with
  | int k n => simp only [ofScal, Option.some.injEq] at h; subst h; exact .int
  | bool b => simp only [ofScal, Option.some.injEq] at h; subst h; exact .bool
  | string s => simp only [ofScal, Option.some.injEq] at h; subst h; exact (.str : VR w A r (.str s.data.toList) (.string ⟨s.data.toList.toArray⟩))
  | pointer a => cases a with
    | none => simp only [ofScal, Option.some.injEq] at h; subst h; exact .nilptr
    | some a => simp [ofScal] at h
  | slice a l c =>
    unfold ofScal at h
    split at h <;> simp_all
    subst h; exact .nilsl
  | nilFunc => simp only [ofScal, Option.some.injEq] at h; subst h; exact .nilfn
  | nilIface => simp only [ofScal, Option.some.injEq] at h; subst h; exact .nilif
  | _ => simp [ofScal] at h

theorem ofScals_rel : ∀ {vs : List Value} {xs : List AV}, ofScals vs = some xs → xs.length = vs.length ∧ ∀ (i : Nat) x u, xs[i]? = some x → vs[i]? = some u → VR w A r x u
  | [], xs, h => by simp [ofScals] at h; subst h; exact ⟨rfl, fun i x u hx => by simp at hx⟩
  | v :: vs, xs, h => by
    simp only [ofScals] at h
    split at h
    · rename_i x hx
      split at h
      · rename_i xs' h'
        injection h with h; subst h
        obtain ⟨hl, hr⟩ := ofScals_rel h'
        refine ⟨by simp [hl], fun i y u hy hu => ?_⟩
        cases i with
        | zero => simp at hy hu; subst hy; subst hu; exact ofScal_rel hx
        | succ i => simp at hy hu; exact hr i y u hy hu
      · simp at h
    · simp at h

theorem ofV_rel {v : Value} {x : AV} (h : ofV v = some x) : VR w A r x v := by
  unfold ofV at h
  split at h
  · split at h
    · rename_i cs xs hs
      injection h with h; subst h
      obtain ⟨hl, hr⟩ := ofScals_rel (w := w) (A := A) (r := r) hs
      exact .agg (by simpa using hl) (fun i x u hx hu => hr i x u hx (by simpa using hu))
    · simp at h
  · split at h
    · rename_i cs xs hs
      injection h with h; subst h
      obtain ⟨hl, hr⟩ := ofScals_rel (w := w) (A := A) (r := r) hs
      exact .tup (by simpa using hl) (fun i x u hx hu => hr i x u hx (by simpa using hu))
    · simp at h
  · exact ofScal_rel h

end

/-! ### Operations that neither read nor write memory -/

/-- What such an operation yields. -/
def calm {α : Type} (P : Program) : Sem α → Option α
  | .pure a => some a
  | .program k => calm P (k P)
  | .mark _ k => calm P k
  | _ => none

theorem calm_run {α : Type} (P : Program) : ∀ (s : Sem α) (a : α), calm P s = some a → ∀ w, s.run P w = .ok a w
  | .pure a, b, h, w => by simp [calm] at h; subst h; simp [Sem.run]
  | .program k, b, h, w => by simp only [calm] at h; simp only [Sem.run]; exact calm_run P (k P) b h w
  | .mark m k, b, h, w => by simp only [calm] at h; simp only [Sem.run]; exact calm_run P k b h w
  | .load .., _, h, _ => by simp [calm] at h
  | .store .., _, h, _ => by simp [calm] at h
  | .new .., _, h, _ => by simp [calm] at h
  | .shape .., _, h, _ => by simp [calm] at h
  | .freeze .., _, h, _ => by simp [calm] at h
  | .frozen .., _, h, _ => by simp [calm] at h
  | .getObj .., _, h, _ => by simp [calm] at h
  | .setObj .., _, h, _ => by simp [calm] at h
  | .choose .., _, h, _ => by simp [calm] at h
  | .sys .., _, h, _ => by simp [calm] at h
  | .halt .., _, h, _ => by simp [calm] at h

end Go.Proofs.Ytkajafmphemedaa.Ev
