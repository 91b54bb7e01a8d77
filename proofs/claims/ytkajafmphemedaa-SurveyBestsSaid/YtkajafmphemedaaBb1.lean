/- Parts of the proof, one behind the other: EvA, EvB, EvC, EvD, EvE, EvF, EvG. No conditions. -/
import Derived.OrdersIn
import Derived.RangeFuncIn
import Derived.Below
import Derived.Laws.Cells
import Derived.Laws.CopyRow
import Derived.Great.FillDense
import Derived.Laws.StructEq
/-! EvA -/
namespace Go.Proofs.Ytkajafmphemedaa.Ev
open Go.RowKit

/-- What is known of a column of cells. -/
inductive CK where
  | int (k : IntKind)
  | bool
  | str
  | any
  deriving Inhabited

/-- Rows of cells, with what is known of the columns. -/
structure Get (α : Type) where
  tag : List CK
  f : Nat → Nat → α
  deriving Inhabited

/-- Abstract values: memory that came in stands in the pointer itself (`get`: row, column). -/
inductive AV where
  | int (k : IntKind) (n : Int)
  | bool (b : Bool)
  | str (l : List UInt8)
  | nilptr
  | lptr (j wd row col : Nat)
  | xptr (wd n : Nat) (get : Get AV) (row col : Nat)
  | nilsl
  | lsl (j wd row col len : Nat) (cap : Option Nat)
  | xsl (wd n : Nat) (get : Get AV) (row len : Nat) (cap : Option Nat)
  | fn (f : Fn) (first captured : List AV)
  | nilfn
  | yv
  | nilif
  | agg (cs : List AV)
  | tup (vs : List AV)
  | top
  deriving Inhabited

/-- Where the frame's names point: `some j`: the block of its object j; `none`: the loop of the one who ranges over it. -/
abbrev Rr := Option Nat → Option Nat

def numOf : AV → Int
  | .int _ n => n
  | _ => 0
def truthOf : AV → Bool
  | .bool b => b
  | _ => false
def textOf : AV → List UInt8
  | .str l => l
  | _ => []

/-- A cell of a column of which something is known. -/
def conf : CK → AV → AV
  | .int k, x => .int k (numOf x)
  | .bool, x => .bool (truthOf x)
  | .str, x => .str (textOf x)
  | .any, x => x

def ckAt : List CK → Nat → CK
  | [], _ => .any
  | c :: _, 0 => c
  | _ :: cs, k + 1 => ckAt cs k

def Get.cell (g : Get AV) (i k : Nat) : AV := conf (ckAt g.tag k) (g.f i k)

instance : CoeFun (Get AV) (fun _ => Nat → Nat → AV) := ⟨Get.cell⟩

def noR : Rr := fun _ => none

/-- No slice is longer. -/
def maxL : Nat := 9223372036854775807

/-- A slice's length, as a number that is never too great. -/
def clampL (n : Nat) : Nat := if n ≤ maxL then n else maxL

theorem clampL_eq {n : Nat} (h : n ≤ maxL) : clampL n = n := if_pos h
theorem clampL_le (n : Nat) : clampL n ≤ 9223372036854775807 := by
  unfold clampL maxL; split <;> omega
theorem clampL_le' (n : Nat) : clampL n ≤ n := by
  unfold clampL; split <;> omega

/-- What an abstract value says of a value: in world w, where the blocks of A are nobody's but the frame's; r: the blocks of the frame's own objects. -/
inductive VR (w : World) (A : Nat → Prop) : (Rr) → AV → Value → Prop
  | top {r : Rr} {v : Value} : VR w A r .top v
  | int {r : Rr} {k : IntKind} {n : Int} : VR w A r (.int k n) (.int k n)
  | bool {r : Rr} {b : Bool} : VR w A r (.bool b) (.bool b)
  | str {r : Rr} {l : List UInt8} : VR w A r (.str l) (.string ⟨l.toArray⟩)
  | nilptr {r : Rr} : VR w A r .nilptr (.pointer none)
  | lptr {r : Rr} {j wd row col b off : Nat} (h : r j = some b) (ho : off = row * wd + col) : VR w A r (.lptr j wd row col) (.pointer (some ⟨b, off, none⟩))
  | xptr {r : Rr} {wd n row col b o off : Nat} {get : Get AV} (u : Nat → Nat → Value) (hb : b < w.heap.size) (hA : ¬ A b)
      (hc : ∀ i k, i < n → k < wd → w.cell? ⟨b, o + (i * wd + k), none⟩ = some (u i k)) (hv : ∀ i k, i < n → k < wd → VR w A noR (get i k) (u i k))
      (ho : off = o + (row * wd + col)) (hrow : row < n) : VR w A r (.xptr wd n get row col) (.pointer (some ⟨b, off, none⟩))
  | nilsl {r : Rr} {c : Nat} : VR w A r .nilsl (.slice none 0 c)
  | lsl {r : Rr} {j wd row col b off len c : Nat} {cap : Option Nat} (h : r j = some b) (ho : off = row * wd + col) (hl : len ≤ c ∧ len ≤ maxL) (hcap : ∀ x, cap = some x → c = x) :
      VR w A r (.lsl j wd row col len cap) (.slice (some ⟨b, off, none⟩) len c)
  | xsl {r : Rr} {wd n row len c : Nat} {cap : Option Nat} {a : Option Addr} {get : Get AV} (b o : Nat) (u : Nat → Nat → Value) (hl : len ≤ c ∧ len ≤ maxL) (hcap : ∀ x, cap = some x → c = x) (hn : row + len ≤ n)
      (ha : 0 < len → a = some ⟨b, o + row * wd, none⟩ ∧ b < w.heap.size ∧ ¬ A b)
      (hc : 0 < len → ∀ i k, i < n → k < wd → w.cell? ⟨b, o + (i * wd + k), none⟩ = some (u i k))
      (hv : 0 < len → ∀ i k, i < n → k < wd → VR w A noR (get i k) (u i k)) : VR w A r (.xsl wd n get row len cap) (.slice a len c)
  | fn {r : Rr} {f : Fn} {xs ys : List AV} {us vs : Array Value} (hx : xs.length = us.size) (hy : ys.length = vs.size)
      (h1 : ∀ (i : Nat) x u, xs[i]? = some x → us[i]? = some u → VR w A r x u) (h2 : ∀ (i : Nat) x u, ys[i]? = some x → vs[i]? = some u → VR w A r x u) : VR w A r (.fn f xs ys) (.func f us vs)
  | nilfn {r : Rr} : VR w A r .nilfn .nilFunc
  | yv {r : Rr} {l : Nat} (h : r none = some l) : VR w A r .yv (.func (.yield l) #[] #[])
  | nilif {r : Rr} : VR w A r .nilif .nilIface
  | agg {r : Rr} {xs : List AV} {us : Array Value} (hx : xs.length = us.size) (h1 : ∀ (i : Nat) x u, xs[i]? = some x → us[i]? = some u → VR w A r x u) : VR w A r (.agg xs) (.agg us)
  | tup {r : Rr} {xs : List AV} {us : Array Value} (hx : xs.length = us.size) (h1 : ∀ (i : Nat) x u, xs[i]? = some x → us[i]? = some u → VR w A r x u) : VR w A r (.tup xs) (.tuple us)

/-- The world may grow, and turn blocks of A. -/
structure Keeps (A A' : Nat → Prop) (w w' : World) : Prop where
  size : w.heap.size ≤ w'.heap.size
  block : ∀ b, b < w.heap.size → ¬ A b → w'.heap[b]? = w.heap[b]?
  more : ∀ b, A' b → A b ∨ w.heap.size ≤ b

theorem Keeps.refl (A : Nat → Prop) (w : World) : Keeps A A w w := ⟨Nat.le_refl _, fun _ _ _ => rfl, fun _ h => .inl h⟩

theorem VR.mono {w w' : World} {A A' : Nat → Prop} {r r' : Rr} {x : AV} {v : Value} (h : VR w A r x v) (hk : Keeps A A' w w') (hr : ∀ (j : Option Nat) (b : Nat), r j = some b → r' j = some b) : VR w' A' r' x v := by
  have cellOf : ∀ (b o : Nat) (z : Value), b < w.heap.size → ¬ A b → w.cell? ⟨b, o, none⟩ = some z → w'.cell? ⟨b, o, none⟩ = some z := by
    intro b o z hb hA hc
    rw [World.cell?_of_block (w := w) (hk.block b hb hA)]; exact hc
  have notA : ∀ b, b < w.heap.size → ¬ A b → ¬ A' b := fun b hb hA h => by
    rcases hk.more b h with h | h
    · exact hA h
    · omega
  induction h generalizing r' with
  | top => exact .top
  | int => exact .int
  | bool => exact .bool
  | str => exact .str
  | nilptr => exact .nilptr
  | lptr h ho => exact .lptr (hr _ _ h) ho
  | xptr u hb hA hc hv ho hrow ih =>
    exact .xptr u (Nat.lt_of_lt_of_le hb hk.size) (notA _ hb hA) (fun i k hi hk' => cellOf _ _ _ hb hA (hc i k hi hk')) (fun i k hi hk' => ih i k hi hk' (fun j b h => by simp [noR] at h)) ho hrow
  | nilsl => exact .nilsl
  | lsl h ho hl hcap => exact .lsl (hr _ _ h) ho hl hcap
  | xsl b o u hl hcap hn ha hc hv ih =>
    refine .xsl b o u hl hcap hn (fun h0 => ?_) (fun h0 i k hi hk' => ?_) (fun h0 i k hi hk' => ih h0 i k hi hk' (fun j b h => by simp [noR] at h))
    · obtain ⟨e, hb, hA⟩ := ha h0
      exact ⟨e, Nat.lt_of_lt_of_le hb hk.size, notA _ hb hA⟩
    · obtain ⟨e, hb, hA⟩ := ha h0
      exact cellOf _ _ _ hb hA (hc h0 i k hi hk')
  | fn hx hy h1 h2 ih1 ih2 => exact .fn hx hy (fun i x u a b => ih1 i x u a b hr) (fun i x u a b => ih2 i x u a b hr)
  | nilfn => exact .nilfn
  | yv h => exact .yv (hr _ _ h)
  | nilif => exact .nilif
  | agg hx h1 ih1 => exact .agg hx (fun i x u a b => ih1 i x u a b hr)
  | tup hx h1 ih1 => exact .tup hx (fun i x u a b => ih1 i x u a b hr)

/-- Two lists of values, one by one. -/
def VRs (w : World) (A : Nat → Prop) (r : Rr) (xs : List AV) (us : Array Value) : Prop := xs.length = us.size ∧ ∀ (i : Nat) x u, xs[i]? = some x → us[i]? = some u → VR w A r x u

theorem VRs.mono {w w' : World} {A A' : Nat → Prop} {r r' : Rr} {xs : List AV} {us : Array Value} (h : VRs w A r xs us) (hk : Keeps A A' w w') (hr : ∀ (j : Option Nat) (b : Nat), r j = some b → r' j = some b) : VRs w' A' r' xs us :=
  ⟨h.1, fun i x u a b => (h.2 i x u a b).mono hk hr⟩

theorem VRs.nil {w : World} {A : Nat → Prop} {r : Rr} : VRs w A r [] #[] := ⟨rfl, fun i x u h _ => by simp at h⟩

theorem VRs.append {w : World} {A : Nat → Prop} {r : Rr} {xs ys : List AV} {us vs : Array Value} (h : VRs w A r xs us) (k : VRs w A r ys vs) : VRs w A r (xs ++ ys) (us ++ vs) := by
  refine ⟨by simp [h.1, k.1], fun i x u hx hu => ?_⟩
  by_cases hi : i < xs.length
  · rw [List.getElem?_append_left hi] at hx
    rw [Array.getElem?_append_left (by rw [← h.1]; exact hi)] at hu
    exact h.2 i x u hx hu
  · rw [List.getElem?_append_right (by omega)] at hx
    rw [Array.getElem?_append_right (by rw [← h.1]; omega), ← h.1] at hu
    exact k.2 _ x u hx hu

theorem VRs.get {w : World} {A : Nat → Prop} {r : Rr} {xs : List AV} {us : Array Value} (h : VRs w A r xs us) {i : Nat} {x : AV} (hx : xs[i]? = some x) : ∃ u, us[i]? = some u ∧ VR w A r x u := by
  have hi : i < xs.length := (List.getElem?_eq_some_iff.1 hx).1
  have hu : i < us.size := by rw [← h.1]; exact hi
  exact ⟨us[i], Array.getElem?_eq_getElem hu, h.2 i x _ hx (Array.getElem?_eq_getElem hu)⟩

/-! ### Values without pointers -/

/-- The value of a one-cell abstract value without pointers. -/
def scal : AV → Option Value
  | .int k n => some (.int k n)
  | .bool b => some (.bool b)
  | .str l => some (.string ⟨l.toArray⟩)
  | .nilptr => some (.pointer none)
  | .nilfn => some .nilFunc
  | .nilif => some .nilIface
  | _ => none

def scals : List AV → Option (List Value)
  | [] => some []
  | x :: xs => match scal x with
    | some v => match scals xs with
      | some vs => some (v :: vs)
      | none => none
    | none => none

/-- The value of an abstract value without pointers. -/
def plainV : AV → Option Value
  | .agg cs => match scals cs with
    | some vs => some (.agg vs.toArray)
    | none => none
  | x => scal x

def ofScal : Value → Option AV
  | .int k n => some (.int k n)
  | .bool b => some (.bool b)
  | .string s => some (.str s.data.toList)
  | .pointer none => some .nilptr
  | .nilFunc => some .nilfn
  | .nilIface => some .nilif
  | .slice none 0 0 => some .nilsl
  | _ => none

def ofScals : List Value → Option (List AV)
  | [] => some []
  | v :: vs => match ofScal v with
    | some x => match ofScals vs with
      | some xs => some (x :: xs)
      | none => none
    | none => none

def ofV : Value → Option AV
  | .agg cs => match ofScals cs.toList with
    | some xs => some (.agg xs)
    | none => none
  | .tuple cs => match ofScals cs.toList with
    | some xs => some (.tup xs)
    | none => none
  | v => ofScal v

section
variable {w : World} {A : Nat → Prop} {r : Rr}

theorem scal_eq {x : AV} {v v' : Value} (h : scal x = some v) (k : VR w A r x v') : v' = v := by
  cases k <;> simp [scal] at h <;> exact h

theorem scals_length : ∀ {xs : List AV} {vs : List Value}, scals xs = some vs → vs.length = xs.length
  | [], vs, h => by simp [scals] at h; simp [← h]
  | x :: xs, vs, h => by
    simp only [scals] at h
    split at h
    · split at h
      · rename_i vs' h'
        injection h with h; subst h
        simp [scals_length h']
      · simp at h
    · simp at h

theorem scals_get : ∀ {xs : List AV} {vs : List Value}, scals xs = some vs → ∀ (i : Nat) x, xs[i]? = some x → ∃ v, vs[i]? = some v ∧ scal x = some v
  | [], _, _, i, x, hx => by simp at hx
  | y :: xs, vs, h, i, x, hx => by
    simp only [scals] at h
    split at h
    · rename_i v hv
      split at h
      · rename_i vs' h'
        injection h with h; subst h
        cases i with
        | zero => simp at hx; subst hx; exact ⟨v, by simp, hv⟩
        | succ i => simp at hx; obtain ⟨u, hu, hs⟩ := scals_get h' i x hx; exact ⟨u, by simpa using hu, hs⟩
      · simp at h
    · simp at h

theorem plainV_eq {x : AV} {v v' : Value} (h : plainV x = some v) (k : VR w A r x v') : v' = v := by
  cases x with
  | agg cs =>
    simp only [plainV] at h
    split at h
    · rename_i vs hs
      injection h with h; subst h
      cases k with
      | agg hx h1 =>
        rename_i us
        congr 1
        apply Array.ext
        · rw [← hx]; simp [scals_length hs]
        · intro i hi1 hi2
          have hi : i < cs.length := by rw [hx]; exact hi1
          obtain ⟨u, hu, hsc⟩ := scals_get hs i cs[i] (List.getElem?_eq_getElem hi)
          have := scal_eq hsc (h1 i cs[i] us[i] (List.getElem?_eq_getElem hi) (Array.getElem?_eq_getElem hi1))
          rw [this]
          have h2 : vs[i]? = some (vs.toArray[i]) := by simp
          rw [h2] at hu
          injection hu with hu
          exact hu.symm
    · simp at h
  | _ => simp only [plainV] at h; exact scal_eq h k

theorem ofScal_rel {v : Value} {x : AV} (h : ofScal v = some x) : VR w A r x v := by
  cases v with
  | int k n => simp only [ofScal, Option.some.injEq] at h; subst h; exact .int
  | bool b => simp only [ofScal, Option.some.injEq] at h; subst h; exact .bool
  | string s => simp only [ofScal, Option.some.injEq] at h; subst h; exact (.str : VR w A r (.str s.data.toList) (.string ⟨s.data.toList.toArray⟩))
  | pointer a => cases a with
    | none => simp only [ofScal, Option.some.injEq] at h; subst h; exact .nilptr
    | some a => simp [ofScal] at h
  | slice a l c =>
    unfold ofScal at h
    split at h <;> simp_all
    subst h; exact .nilsl
  | nilFunc => simp only [ofScal, Option.some.injEq] at h; subst h; exact .nilfn
  | nilIface => simp only [ofScal, Option.some.injEq] at h; subst h; exact .nilif
  | _ => simp [ofScal] at h

theorem ofScals_rel : ∀ {vs : List Value} {xs : List AV}, ofScals vs = some xs → xs.length = vs.length ∧ ∀ (i : Nat) x u, xs[i]? = some x → vs[i]? = some u → VR w A r x u
  | [], xs, h => by simp [ofScals] at h; subst h; exact ⟨rfl, fun i x u hx => by simp at hx⟩
  | v :: vs, xs, h => by
    simp only [ofScals] at h
    split at h
    · rename_i x hx
      split at h
      · rename_i xs' h'
        injection h with h; subst h
        obtain ⟨hl, hr⟩ := ofScals_rel h'
        refine ⟨by simp [hl], fun i y u hy hu => ?_⟩
        cases i with
        | zero => simp at hy hu; subst hy; subst hu; exact ofScal_rel hx
        | succ i => simp at hy hu; exact hr i y u hy hu
      · simp at h
    · simp at h

theorem ofV_rel {v : Value} {x : AV} (h : ofV v = some x) : VR w A r x v := by
  unfold ofV at h
  split at h
  · split at h
    · rename_i cs xs hs
      injection h with h; subst h
      obtain ⟨hl, hr⟩ := ofScals_rel (w := w) (A := A) (r := r) hs
      exact .agg (by simpa using hl) (fun i x u hx hu => hr i x u hx (by simpa using hu))
    · simp at h
  · split at h
    · rename_i cs xs hs
      injection h with h; subst h
      obtain ⟨hl, hr⟩ := ofScals_rel (w := w) (A := A) (r := r) hs
      exact .tup (by simpa using hl) (fun i x u hx hu => hr i x u hx (by simpa using hu))
    · simp at h
  · exact ofScal_rel h

end

/-! ### Operations that neither read nor write memory -/

/-- What such an operation yields. -/
def calm {α : Type} (P : Program) : Sem α → Option α
  | .pure a => some a
  | .program k => calm P (k P)
  | .mark _ k => calm P k
  | _ => none

theorem calm_run {α : Type} (P : Program) : ∀ (s : Sem α) (a : α), calm P s = some a → ∀ w, s.run P w = .ok a w
  | .pure a, b, h, w => by simp [calm] at h; subst h; simp [Sem.run]
  | .program k, b, h, w => by simp only [calm] at h; simp only [Sem.run]; exact calm_run P (k P) b h w
  | .mark m k, b, h, w => by simp only [calm] at h; simp only [Sem.run]; exact calm_run P k b h w
  | .load .., _, h, _ => by simp [calm] at h
  | .store .., _, h, _ => by simp [calm] at h
  | .new .., _, h, _ => by simp [calm] at h
  | .shape .., _, h, _ => by simp [calm] at h
  | .freeze .., _, h, _ => by simp [calm] at h
  | .frozen .., _, h, _ => by simp [calm] at h
  | .getObj .., _, h, _ => by simp [calm] at h
  | .setObj .., _, h, _ => by simp [calm] at h
  | .choose .., _, h, _ => by simp [calm] at h
  | .sys .., _, h, _ => by simp [calm] at h
  | .halt .., _, h, _ => by simp [calm] at h

end Go.Proofs.Ytkajafmphemedaa.Ev
/-! EvB -/
namespace Go.Proofs.Ytkajafmphemedaa.Ev

/-- An object of the frame. -/
inductive Blk where
  | flat (t : TypeId) (cs : List AV)
  deriving Inhabited

/-- The evaluator's frame: what its slots hold, and its objects; values that someone has kept; of a function that is ranged over: the answers that its yields get, by their number, what it has yielded, and the answers (the last one first). -/
structure St where
  env : List AV
  loc : List Blk
  sav : List AV := []
  bs : Nat → Bool := fun _ => true
  out : List (List AV × Bool) := []
  deriving Inhabited

/-- What an operation does. -/
inductive Res where
  | val (v : AV)
  | alloc (b : Blk) (v : AV)
  | store (j : Nat) (b : Blk)
  | call (f : FuncId) (args : List AV)

def szOf (P : Program) (t : TypeId) : Option Nat := (P.info? t).map (·.size)
def aggB (P : Program) (t : TypeId) : Option Bool :=
  match P.underlying t with
  | some (.struct _) => some true
  | some (.array _ _) => some true
  | some _ => some false
  | none => none
def zeroAV (P : Program) (t : TypeId) : Option (List AV) :=
  match P.info? t with
  | some i => match i.zero with
    | some v => ofScals v.cells.toList
    | none => none
  | none => none

def isCell : AV → Bool
  | .agg _ => false
  | .tup _ => false
  | .top => false
  | _ => true

/-- The cells of a value. -/
def cellsAV : AV → Option (List AV)
  | .agg cs => some cs
  | .tup _ => none
  | .top => none
  | x => some [x]

def ovw (cs : List AV) (off : Nat) (xs : List AV) : List AV := cs.take off ++ xs ++ cs.drop (off + xs.length)

/-- The parts of a composite literal go in, one behind the other. -/
def fillAV (place : Nat → Option (Nat × Nat)) (cs : List AV) : List (Nat × AV) → Option (List AV)
  | [] => some cs
  | (i, x) :: rest =>
    match place i with
    | none => none
    | some (off, size) =>
      match cellsAV x with
      | none => none
      | some xs => if xs.length = size ∧ off + xs.length ≤ cs.length then fillAV place (ovw cs off xs) rest else none

def rngGet (get : Get AV) (row : Nat) : Nat → Nat → List AV
  | _, 0 => []
  | col, n + 1 => get row col :: rngGet get row (col + 1) n

/-- A variable of type t out of a row of cells. -/
def loadAV (P : Program) (t : TypeId) (cs : List AV) (col : Nat) : Option AV :=
  match aggB P t, szOf P t with
  | some true, some n => if col + n ≤ cs.length then some (.agg ((cs.drop col).take n)) else none
  | some false, some _ => cs[col]?
  | _, _ => none

def loadX (P : Program) (t : TypeId) (wd : Nat) (get : Get AV) (row col : Nat) : Option AV :=
  match aggB P t, szOf P t with
  | some true, some n => if col + n ≤ wd then some (.agg (rngGet get row col n)) else none
  | some false, some _ => if col < wd then some (get row col) else none
  | _, _ => none

def partAV (P : Program) (t : TypeId) (cs : List AV) (off : Nat) : Option AV :=
  match aggB P t, szOf P t with
  | some true, some n => some (.agg ((cs.drop off).take n))
  | some false, some _ => cs[off]?
  | _, _ => none

def fieldPlaceAV (P : Program) (s : TypeId) (f : Nat) : Option Nat :=
  match P.underlying s with
  | some (.struct fields) => match fields[f]? with
    | some fd => match szOf P fd.type with
      | some 0 => none
      | some _ => some fd.offset
      | none => none
    | none => none
  | _ => none

def mapEv (p : Operand → Option AV) : List Operand → Option (List AV)
  | [] => some []
  | x :: xs => match p x with
    | some v => match mapEv p xs with
      | some vs => some (v :: vs)
      | none => none
    | none => none

def mapParts (p : Operand → Option AV) : List (Nat × Operand) → Option (List (Nat × AV))
  | [] => some []
  | (i, x) :: xs => match p x with
    | some v => match mapParts p xs with
      | some vs => some ((i, v) :: vs)
      | none => none
    | none => none

def structPlaces (P : Program) : List Field → Option (List (Nat × Nat))
  | [] => some []
  | f :: fs => match szOf P f.type with
    | some n => match structPlaces P fs with
      | some l => some ((f.offset, n) :: l)
      | none => none
    | none => none

def replC (zs : List AV) : Nat → List AV
  | 0 => []
  | n + 1 => zs ++ replC zs n

/-- Whether two values without pointers are equal, part by part. -/
def eqFieldsAV (P : Program) (rec : TypeId → AV → AV → Option Bool) (xs ys : List AV) : List Field → Option Bool
  | [] => some true
  | f :: fs => match decide (f.name = "_"), partAV P f.type xs f.offset, partAV P f.type ys f.offset with
    | false, some a, some b => match rec f.type a b, fs with
      | some c, [] => some c
      | some c, g :: gs => match eqFieldsAV P rec xs ys (g :: gs) with
        | some e => some (c && e)
        | none => none
      | none, _ => none
    | _, _, _ => none
def eqElemsAV (P : Program) (rec : AV → AV → Option Bool) (e n : Nat) (xs ys : List AV) : Nat → Nat → Option Bool
  | _, 0 => some true
  | i, k + 1 => match partAV P e xs (i * n), partAV P e ys (i * n) with
    | some a, some b => match rec a b, k with
      | some c, 0 => some c
      | some c, m + 1 => match eqElemsAV P rec e n xs ys (i + 1) (m + 1) with
        | some e => some (c && e)
        | none => none
      | none, _ => none
    | _, _ => none
def eqAV (P : Program) : Nat → TypeId → AV → AV → Option Bool
  | 0, _, _, _ => none
  | d + 1, t, x, y => match P.underlying t, x, y with
    | some .bool, .bool a, .bool b => some (a == b)
    | some (.int _), .int k a, .int k' b => match decide (k = k') with
      | true => some (a == b)
      | false => none
    | some .string, .str a, .str b => some (a == b)
    | some (.struct fields), .agg xs, .agg ys => match P.stoodInHeld t with
      | false => eqFieldsAV P (eqAV P d) xs ys fields.toList
      | true => none
    | some (.array len e), .agg xs, .agg ys => match szOf P e with
      | some n => eqElemsAV P (eqAV P d e) e n xs ys 0 len
      | none => none
    | _, _, _ => none

def eqVals (P : Program) (t : TypeId) : Option AV → Option AV → Option Bool
  | some (.agg cs), some (.agg ds) => match P.eqGuardType P.depth t with
    | false => eqAV P 20 t (.agg cs) (.agg ds)
    | true => none
  | _, _ => none

def nameOk (fn : Func) : Bool := fn.body.isSome && !(fn.name == "runtime.NumGoroutine")

/-- A function value called with arguments. -/
def callAV (P : Program) (f : AV) (args : List AV) : Option Res :=
  match f with
  | .fn (.func g) xs ys => match P.funcs[g]? with
    | some fn => if nameOk fn then some (.call g (xs ++ args ++ ys)) else none
    | none => none
  | _ => none

/-- A slice's length. -/
def lenAV : AV → Option Nat
  | .lsl _ _ _ _ n _ => some (clampL n)
  | .xsl _ _ _ _ n _ => some (clampL n)
  | .nilsl => some 0
  | _ => none

def sliceT (P : Program) (t : TypeId) : Option Nat :=
  match P.underlying t with
  | some (.slice e) => szOf P e
  | _ => none

/-- A bound of a slice expression: a literal or a number within 0 to n. -/
def boundAV (p : Operand → Option AV) (x : Option Operand) (dflt n : Nat) : Option (Bool × Nat) :=
  match x with
  | none => some (true, dflt)
  | some o => match p o with
    | some (.int _ i) => some (decide (0 ≤ i ∧ i ≤ n), i.toNat)
    | _ => none

/-- The operations that the evaluator carries out by its own rules. -/
def native (P : Program) (p : Operand → Option AV) (loc : Nat → Option Blk) (nx : Nat) (o : Oper) : Option (Bool × Res) :=
  match o.op with
  | .move x => (p x).map fun v => (true, .val v)
  | .assign x => (p x).map fun v => (true, .val v)
  | .pick c a b => match p c with
    | some (.bool t) => (match t with | true => p a | false => p b).map fun v => (true, .val v)
    | _ => none
  | .alloc t => (zeroAV P t).map fun cs => (true, .alloc (.flat t cs) (.lptr nx 0 0 0))
  | .box t x => match p x with
    | some v => (cellsAV v).map fun cs => (true, .alloc (.flat t cs) (.lptr nx 0 0 0))
    | none => none
  | .build t parts => match zeroAV P t, mapParts p parts.toList with
    | some zs, some ps => match P.underlying t with
      | some (.struct fields) => match structPlaces P fields.toList with
        | some pl => (fillAV (fun i => pl[i]?) zs ps).map fun cs => (true, .val (.agg cs))
        | none => none
      | some (.array _ e) => match szOf P e with
        | some n => (fillAV (fun i => some (i * n, n)) zs ps).map fun cs => (true, .val (.agg cs))
        | none => none
      | _ => none
    | _, _ => none
  | .buildSlice t len parts => match P.underlying t with
    | some (.slice e) => match szOf P e, zeroAV P e, mapParts p parts.toList with
      | some n, some zs, some ps =>
        if zs.length = n ∧ 0 < n ∧ len * n ≤ 65536 then (fillAV (fun i => some (i * n, n)) (replC zs len) ps).map fun cs => (true, .alloc (.flat e cs) (.lsl nx n 0 0 len (some len))) else none
      | _, _, _ => none
    | _ => none
  | .load t x => match p x with
    | some (.lptr j wd row col) => match loc j with
      | some (.flat _ cs) => (loadAV P t cs (row * wd + col)).map fun v => (true, .val v)
      | none => none
    | some (.xptr wd _ get row col) => (loadX P t wd get row col).map fun v => (true, .val v)
    | _ => none
  | .store t a x => match p a, p x with
    | some (.lptr j wd row col), some v => match loc j, cellsAV v, szOf P t with
      | some (.flat u cs), some xs, some n =>
        if xs.length = n ∧ (row * wd + col) + n ≤ cs.length ∧ xs.all isCell = true then some (true, .store j (.flat u (ovw cs (row * wd + col) xs))) else none
      | _, _, _ => none
    | _, _ => none
  | .nilCheck x => match p x with
    | some (.lptr j wd row col) => some (true, .val (.lptr j wd row col))
    | some (.xptr wd n get row col) => some (true, .val (.xptr wd n get row col))
    | _ => none
  | .fieldAddr s x f => match p x, fieldPlaceAV P s f with
    | some (.lptr j wd row col), some off => some (true, .val (.lptr j wd row (col + off)))
    | some (.xptr wd n get row col), some off => some (true, .val (.xptr wd n get row (col + off)))
    | _, _ => none
  | .field s x f => match p x, P.underlying s with
    | some (.agg cs), some (.struct fields) => match fields[f]? with
      | some fd => (partAV P fd.type cs fd.offset).map fun v => (true, .val v)
      | none => none
    | _, _ => none
  | .indexAddr t x ix => match p x, p ix, P.underlying t with
    | some (.lptr j wd row col), some (.int _ i), some (.array len e) => match szOf P e with
      | some n => some (decide (0 ≤ i ∧ i < len), .val (.lptr j wd row (col + i.toNat * n)))
      | none => none
    | some (.xptr wd m get row col), some (.int _ i), some (.array len e) => match szOf P e with
      | some n => some (decide (0 ≤ i ∧ i < len), .val (.xptr wd m get row (col + i.toNat * n)))
      | none => none
    | some (.lsl j wd row col len _), some (.int _ i), some (.slice e) => match szOf P e with
      | some n => if n = wd then some (decide (0 ≤ i ∧ i < len), .val (.lptr j wd (row + i.toNat) col)) else none
      | none => none
    | some (.xsl wd m get row len _), some (.int _ i), some (.slice e) => match szOf P e with
      | some n => if n = wd then some (decide (0 ≤ i ∧ i < len), .val (.xptr wd m get (row + i.toNat) 0)) else none
      | none => none
    | _, _, _ => none
  | .index t x ix => match p x, p ix, P.underlying t with
    | some (.agg cs), some (.int _ i), some (.array len e) => match szOf P e with
      | some n => (partAV P e cs (i.toNat * n)).map fun v => (decide (0 ≤ i ∧ i < len), .val v)
      | none => none
    | _, _, _ => none
  | .makeFunc f xs ys => match mapEv p xs.toList, mapEv p ys.toList with
    | some us, some vs => some (true, .val (.fn f us vs))
    | _, _ => none
  | .extract x i => match p x with
    | some (.tup vs) => (vs[i]?).map fun v => (true, .val v)
    | _ => none
  | .binOp b t x y _ => match b with
    | .quo => match p x, p y with
      | some (.int k m), some (.int k' n) => match decide (k = k') with
        | true => some (!(decide (n = 0)), .val (.int k (k.wrap (m.tdiv n))))
        | false => none
      | _, _ => none
    | .rem => match p x, p y with
      | some (.int k m), some (.int k' n) => match decide (k = k') with
        | true => some (!(decide (n = 0)), .val (.int k (m.tmod n)))
        | false => none
      | _, _ => none
    | .eql => (eqVals P t (p x) (p y)).map fun c => (true, .val (.bool c))
    | .neq => (eqVals P t (p x) (p y)).map fun c => (true, .val (.bool (!c)))
    | _ => none
  | .slice t x lo hi none => match p x, sliceT P t with
    | some (.xsl wd m get row len cap), some n => match boundAV p hi len len with
      | some (c1, h) => match boundAV p lo 0 h with
        | some (c2, l) => if n = wd then some (c1 && c2, .val (.xsl wd m get (row + l) (h - l) (cap.map (· - l)))) else none
        | none => none
      | none => none
    | _, _ => none
  | .slice t x lo (some hi) (some mx) => match p x, sliceT P t with
    | some (.xsl wd m get row len _), some n => match boundAV p (some mx) 0 len with
      | some (c0, k) => match boundAV p (some hi) 0 k with
        | some (c1, h) => match boundAV p lo 0 h with
          | some (c2, l) => if n = wd then some (c0 && (c1 && c2), .val (.xsl wd m get (row + l) (h - l) (some (k - l)))) else none
          | none => none
        | none => none
      | none => none
    | _, _ => none
  | .call c => match c.callee with
    | .builtin .len => match c.args.toList, c.argTypes.toList with
      | [x], [t] => match p x, sliceT P t with
        | some v, some _ => (lenAV v).map fun (n : Nat) => (true, Res.val (.int .i64 (n : Int)))
        | _, _ => none
      | _, _ => none
    | .value f => match p f, mapEv p c.args.toList with
      | some g, some vs => (callAV P g vs).map fun r => (true, r)
      | _, _ => none
    | _ => none
  | _ => none

def plainOf (p : Operand → Option AV) (x : Operand) : Option Value := match p x with
  | some v => plainV v
  | none => none
def rhoOf (p : Operand → Option AV) (x : Operand) : Value := match plainOf p x with
  | some v => v
  | none => undef

def notSelect : Op → Bool
  | .select _ _ => false
  | .defer _ => false
  | _ => true

def allPlain (p : Operand → Option AV) : List Operand → Bool
  | [] => true
  | x :: xs => match plainOf p x with
    | some _ => allPlain p xs
    | none => false

/-- Operations on values without pointers that leave memory alone: by the model's own text. -/
def byCalm (P : Program) (p : Operand → Option AV) (o : Oper) : Option (Bool × Res) :=
  match notSelect o.op && allPlain p o.op.operands.toList with
  | true => match calm P (execOp (rhoOf p) o) with
    | some (.value v) => (ofV v).map fun x => (true, .val x)
    | _ => none
  | false => none

def opRes (P : Program) (p : Operand → Option AV) (loc : Nat → Option Blk) (nx : Nat) (o : Oper) : Option (Bool × Res) :=
  match native P p loc nx o with
  | some r => some r
  | none => byCalm P p o

/-- Constants. -/
def ofConst (v : Value) : Option AV := ofV v

def evO (env : List AV) : Operand → Option AV
  | .tmp t => env[t]?
  | .const v => ofConst v
  | .func f => some (.fn (.func f) [] [])
  | .global _ => none

end Go.Proofs.Ytkajafmphemedaa.Ev
/-! EvC -/
namespace Go.Proofs.Ytkajafmphemedaa.Ev
open Go.RowKit

/-- An object's block. -/
def BlkR (w : World) (A : Nat → Prop) (r : Rr) : Blk → Nat → Prop
  | .flat t cs, b => ∃ us : Array Value, w.heap[b]? = some (.cells us t (0, 0)) ∧ VRs w A r cs us

structure Cx (w : World) (A : Nat → Prop) (r : Rr) (loc : Nat → Option Blk) (p : Operand → Option AV) (ev : Operand → Value) : Prop where
  val : ∀ x v, p x = some v → VR w A r v (ev x)
  mem : ∀ j k, loc j = some k → ∃ b, r j = some b ∧ BlkR w A r k b

/-- What is asked of the model's operation. -/
def Does (P : Program) (w : World) (A : Nat → Prop) (r : Rr) (loc : Nat → Option Blk) (nx : Nat) (s : Sem Next) : Res → Prop
  | .val x => ∃ v, s.run P w = .ok (.value v) w ∧ VR w A r x v
  | .alloc (.flat t cs) x => ∃ us v, s.run P w = .ok (.value v) (w.alloc (.cells us t)) ∧ VRs w A r cs us ∧ ∀ (w' : World) (A' : Nat → Prop) (r' : Rr), r' nx = some w.heap.size → VR w' A' r' x v
  | .store j (.flat t cs) => ∃ b cur us k, r j = some b ∧ loc j = some k ∧ w.heap[b]? = some (.cells cur t (0, 0)) ∧ s.run P w = .ok .skip (w.setRow b us) ∧ VRs w A r cs us
  | .call f args => ∃ vs, s.run P w = .ok (.enter f vs) w ∧ VRs w A r args vs

section
variable {P : Program} {w : World} {A : Nat → Prop} {r : Rr}

theorem run_sizeOf' {t : TypeId} {n : Nat} (h : szOf P t = some n) : (sizeOf t).run P w = .ok n w := by
  unfold szOf at h
  cases hi : P.info? t with
  | none => simp [hi] at h
  | some i => simp [hi] at h; simp [sizeOf, typeInfo, hi, h]

theorem run_isAgg' {t : TypeId} {b : Bool} (h : aggB P t = some b) : (isAgg t).run P w = .ok b w := by
  unfold aggB at h
  cases hu : P.underlying t with
  | none => simp [hu] at h
  | some d => simp only [isAgg, Sem.run_bind, run_underlying hu, Result.andThen_ok]; cases d <;> simp [hu] at h <;> simp [← h]

theorem run_zero' {t : TypeId} {cs : List AV} (h : zeroAV P t = some cs) : ∃ v, (zeroValue t).run P w = .ok v w ∧ VRs w A r cs v.cells := by
  unfold zeroAV at h
  cases hi : P.info? t with
  | none => simp [hi] at h
  | some i =>
    cases hz : i.zero with
    | none => simp [hi, hz] at h
    | some v =>
      simp only [hi, hz] at h
      obtain ⟨hl, hr⟩ := ofScals_rel (w := w) (A := A) (r := r) h
      exact ⟨v, by simp [zeroValue, typeInfo, hi, hz], by simpa using hl, fun i x u hx hu => hr i x u hx (by simpa using hu)⟩

theorem VRs.one {x : AV} {v : Value} (h : VR w A r x v) : VRs w A r [x] #[v] := by
  refine ⟨rfl, fun i y u hy hu => ?_⟩
  cases i with
  | zero => simp at hy hu; subst hy; subst hu; exact h
  | succ i => simp at hy

theorem cells_rel {x : AV} {v : Value} {cs : List AV} (h : cellsAV x = some cs) (k : VR w A r x v) : VRs w A r cs v.cells := by
  cases k with
  | agg hx h1 => simp [cellsAV] at h; subst h; exact ⟨hx, h1⟩
  | top => simp [cellsAV] at h
  | tup hx h1 => simp [cellsAV] at h
  | int => simp [cellsAV] at h; subst h; exact VRs.one .int
  | bool => simp [cellsAV] at h; subst h; exact VRs.one .bool
  | str => simp [cellsAV] at h; subst h; exact VRs.one .str
  | nilptr => simp [cellsAV] at h; subst h; exact VRs.one .nilptr
  | lptr a b => simp [cellsAV] at h; subst h; exact VRs.one (.lptr a b)
  | xptr u a b c d e f => simp [cellsAV] at h; subst h; exact VRs.one (.xptr u a b c d e f)
  | nilsl => simp [cellsAV] at h; subst h; exact VRs.one .nilsl
  | lsl a b c d => simp [cellsAV] at h; subst h; exact VRs.one (.lsl a b c d)
  | xsl b o u a c d e f g => simp [cellsAV] at h; subst h; exact VRs.one (.xsl b o u a c d e f g)
  | fn a b c d => simp [cellsAV] at h; subst h; exact VRs.one (.fn a b c d)
  | nilfn => simp [cellsAV] at h; subst h; exact VRs.one .nilfn
  | yv a => simp [cellsAV] at h; subst h; exact VRs.one (.yv a)
  | nilif => simp [cellsAV] at h; subst h; exact VRs.one .nilif

theorem oneCell_rel {x : AV} {v : Value} (h : isCell x = true) (k : VR w A r x v) : v.oneCell' = true := by
  cases k <;> first | rfl | (simp [isCell] at h)

theorem addr_add (b o n : Nat) : (⟨b, o, none⟩ : Addr).add n = ⟨b, o + n, none⟩ := by unfold Addr.add; split <;> simp_all

theorem VRs.take_drop {cs : List AV} {us : Array Value} (h : VRs w A r cs us) (i n : Nat) (hn : i + n ≤ cs.length) : VRs w A r ((cs.drop i).take n) (us.extract i (i + n)) := by
  refine ⟨by simp; have := h.1; omega, fun k x u hx hu => ?_⟩
  rw [List.getElem?_take] at hx
  split at hx
  · rename_i hk
    rw [List.getElem?_drop] at hx
    rw [Array.getElem?_extract] at hu
    split at hu
    · exact h.2 _ x u hx hu
    · simp at hu
  · simp at hx

theorem load_flat {t : TypeId} {cs : List AV} {us : Array Value} {tt : TypeId} {b col : Nat} {x : AV} (hh : w.heap[b]? = some (.cells us tt (0, 0))) (hc : VRs w A r cs us) (h : loadAV P t cs col = some x) :
    ∃ v, (loadVar t ⟨b, col, none⟩).run P w = .ok v w ∧ VR w A r x v := by
  have cell : ∀ i, w.cell? ⟨b, i, none⟩ = us[i]? := fun i => by simp [World.cell?, hh]
  unfold loadAV at h
  split at h
  · rename_i n hagg hsz
    split at h
    · rename_i hle
      injection h with h; subst h
      have hl := run_loadCells (P := P) w ⟨b, col, none⟩ n (fun j => us.getD (col + j) undef) (fun j hj => by
        rw [addr_add, cell, Array.getD_eq_getD_getElem?, Array.getElem?_eq_getElem (by rw [← hc.1]; omega)]; rfl)
      refine ⟨_, by simp only [loadVar, Sem.run_bind, run_isAgg' hagg, Result.andThen_ok, if_true, run_sizeOf' hsz, hl, Sem.run_pure]; rfl, ?_⟩
      have e : ((List.range n).map fun j => us.getD (col + j) undef).toArray = us.extract col (col + n) := by
        apply Array.ext_getElem?
        intro i
        rw [Array.getElem?_extract]
        have := hc.1
        by_cases hi : i < n
        · simp [hi, Array.getD_eq_getD_getElem?, Array.getElem?_eq_getElem (show col + i < us.size by omega), show i < min (col + n) us.size - col by omega]
        · simp [hi, show ¬ i < min (col + n) us.size - col by omega]
      rw [e]
      exact .agg (hc.take_drop col n hle).1 (hc.take_drop col n hle).2
    · simp at h
  · rename_i n hagg hsz
    obtain ⟨u, hu, hr⟩ := hc.get h
    exact ⟨u, by simp only [loadVar, Sem.run_bind, run_isAgg' hagg, Result.andThen_ok, Bool.false_eq_true, if_false, run_load, cell, hu], hr⟩
  · simp at h

theorem rngGet_length (get : Get AV) (row : Nat) : ∀ col n, (rngGet get row col n).length = n
  | _, 0 => rfl
  | col, n + 1 => by simp [rngGet, rngGet_length get row (col + 1) n]

theorem rngGet_get (get : Get AV) (row : Nat) : ∀ n col i, i < n → (rngGet get row col n)[i]? = some (get row (col + i))
  | 0, _, _, h => by omega
  | n + 1, col, 0, _ => by simp [rngGet]
  | n + 1, col, i + 1, h => by simp only [rngGet, List.getElem?_cons_succ]; rw [rngGet_get get row n (col + 1) i (by omega), show col + 1 + i = col + (i + 1) by omega]

theorem load_ext {t : TypeId} {wd n row col b o off : Nat} {get : Get AV} {x : AV} (u : Nat → Nat → Value)
    (hc : ∀ i k, i < n → k < wd → w.cell? ⟨b, o + (i * wd + k), none⟩ = some (u i k)) (hv : ∀ i k, i < n → k < wd → VR w A noR (get i k) (u i k))
    (ho : off = o + (row * wd + col)) (hrow : row < n) (h : loadX P t wd get row col = some x) :
    ∃ v, (loadVar t ⟨b, off, none⟩).run P w = .ok v w ∧ VR w A r x v := by
  have lift : ∀ {y : AV} {z : Value}, VR w A noR y z → VR w A r y z := fun h => h.mono (Keeps.refl A w) (fun j b h => by simp [noR] at h)
  unfold loadX at h
  split at h
  · rename_i m hagg hsz
    split at h
    · rename_i hle
      injection h with h; subst h
      have hl := run_loadCells (P := P) w ⟨b, off, none⟩ m (fun j => u row (col + j)) (fun j hj => by
        rw [addr_add, ← hc row (col + j) hrow (by omega)]; congr 2; omega)
      refine ⟨_, by simp only [loadVar, Sem.run_bind, run_isAgg' hagg, Result.andThen_ok, if_true, run_sizeOf' hsz, hl, Sem.run_pure]; rfl, ?_⟩
      refine .agg (by simp [rngGet_length]) (fun i y z hy hz => ?_)
      have hi : i < m := by have := (List.getElem?_eq_some_iff.1 hy).1; rwa [rngGet_length] at this
      rw [rngGet_get get row m col i hi] at hy
      injection hy with hy; subst hy
      simp [hi] at hz; subst hz
      exact lift (hv row (col + i) hrow (by omega))
    · simp at h
  · rename_i m hagg hsz
    split at h
    · rename_i hlt
      injection h with h; subst h
      refine ⟨u row col, ?_, lift (hv row col hrow hlt)⟩
      simp only [loadVar, Sem.run_bind, run_isAgg' hagg, Result.andThen_ok, Bool.false_eq_true, if_false, run_load]
      rw [ho, hc row col hrow hlt]
    · simp at h
  · simp at h

theorem VRs.ovw {cs xs : List AV} {us : Array Value} {vs : List Value} {off : Nat} (h : VRs w A r cs us) (k : VRs w A r xs vs.toArray) (hl : off + xs.length ≤ cs.length) :
    VRs w A r (ovw cs off xs) (us.toList.take off ++ vs ++ us.toList.drop (off + vs.length)).toArray := by
  have e1 := h.1
  have e2 : xs.length = vs.length := by simpa using k.1
  refine ⟨by simp [Ev.ovw]; omega, fun i x u hx hu => ?_⟩
  unfold Ev.ovw at hx
  rw [List.append_assoc] at hx
  rw [List.getElem?_toArray, List.append_assoc] at hu
  rw [List.getElem?_append] at hx hu
  simp only [List.length_take] at hx hu
  have m1 : min off cs.length = off := by omega
  have m2 : min off us.toList.length = off := by simp; omega
  rw [m1] at hx
  rw [m2] at hu
  split at hx
  · rename_i hi
    rw [if_pos hi] at hu
    rw [List.getElem?_take, if_pos hi] at hx hu
    exact h.2 i x u hx (by simpa using hu)
  · rename_i hi
    rw [if_neg hi] at hu
    rw [List.getElem?_append] at hx hu
    split at hx
    · rename_i hj
      rw [if_pos (by omega)] at hu
      exact k.2 _ x u hx (by simpa using hu)
    · rename_i hj
      rw [if_neg (by omega)] at hu
      rw [List.getElem?_drop] at hx hu
      rw [← e2] at hu
      exact h.2 _ x u hx (by simpa using hu)

theorem foldl_ovw (off : Nat) (c : Array Value) (us : Array Value) (hl : off + c.size ≤ us.size) :
    c.zipIdx.foldl (fun cs (x : Value × Nat) => cs.setIfInBounds (off + x.2) x.1) us = (us.toList.take off ++ c.toList ++ us.toList.drop (off + c.toList.length)).toArray := by
  obtain ⟨hs, hg⟩ := Great.foldl_set off c.toList 0 us
  have e : c.zipIdx.foldl (fun cs (x : Value × Nat) => cs.setIfInBounds (off + x.2) x.1) us = (c.toList.zipIdx 0).foldl (fun cs (x : Value × Nat) => cs.setIfInBounds (off + x.2) x.1) us := by
    rw [← Array.foldl_toList]; simp
  rw [e]
  apply Array.ext_getElem?
  intro k
  rw [hg k]
  simp only [List.getElem?_toArray, List.append_assoc, List.getElem?_append, List.length_take, Array.length_toList, Nat.add_zero, List.getElem?_take, List.getElem?_drop, Array.getElem?_toList]
  have m : min off us.size = off := by omega
  rw [m]
  by_cases h1 : k < off
  · simp [h1, show ¬ off ≤ k by omega]
  · by_cases h2 : k - off < c.size
    · simp [h1, h2, show off ≤ k by omega, show k < off + c.size by omega, show k < us.size by omega]
    · simp only [h1, h2, if_false, show ¬ k < off + c.size by omega, false_and, and_false]
      congr 1; omega

theorem fill_rel (place : Nat → Option (Nat × Nat)) : ∀ (ps : List (Nat × AV)) (qs : List (Nat × Value)) (cs out : List AV) (us : Array Value),
    fillAV place cs ps = some out → VRs w A r cs us → ps.length = qs.length → (∀ (i : Nat) a b, ps[i]? = some a → qs[i]? = some b → a.1 = b.1 ∧ VR w A r a.2 b.2) →
    ∃ us', Instr.fill place us qs = some us' ∧ VRs w A r out us'
  | [], [], cs, out, us, h, hc, _, _ => by simp [fillAV] at h; subst h; exact ⟨us, rfl, hc⟩
  | [], _ :: _, _, _, _, _, _, hl, _ => by simp at hl
  | _ :: _, [], _, _, _, _, _, hl, _ => by simp at hl
  | (i, x) :: ps, (i', v) :: qs, cs, out, us, h, hc, hl, hr => by
    obtain ⟨e, hx⟩ := hr 0 (i, x) (i', v) rfl rfl
    simp only at e hx; subst e
    simp only [fillAV] at h
    split at h
    · simp at h
    · rename_i off size hp
      split at h
      · simp at h
      · rename_i xs hcell
        split at h
        · rename_i hle
          have hcr := cells_rel hcell hx
          have e1 := hcr.1
          have e2 := hc.1
          have hnot : ¬ (v.cells.size ≠ size ∨ off + v.cells.size > us.size) := by omega
          simp only [Instr.fill, hp]
          rw [if_neg (by simpa using hnot), foldl_ovw off v.cells us (by omega)]
          refine fill_rel place ps qs _ out _ h ?_ (by simpa using hl) (fun j a b ha hb => hr (j + 1) a b (by simpa using ha) (by simpa using hb))
          exact hc.ovw (xs := xs) (vs := v.cells.toList) (by simpa using hcr) hle.2
        · simp at h

end

end Go.Proofs.Ytkajafmphemedaa.Ev
/-! EvD -/
namespace Go.Proofs.Ytkajafmphemedaa.Ev
open Go.RowKit

section
variable {P : Program} {w : World} {A : Nat → Prop} {r : Rr} {loc : Nat → Option Blk} {p : Operand → Option AV} {ev : Operand → Value} {nx : Nat} {o : Oper} {res : Res}

theorem mapEv_rel (hp : ∀ x v, p x = some v → VR w A r v (ev x)) : ∀ (xs : List Operand) (vs : List AV), mapEv p xs = some vs → VRs w A r vs (xs.map ev).toArray
  | [], vs, h => by simp [mapEv] at h; subst h; exact VRs.nil
  | x :: xs, vs, h => by
    simp only [mapEv] at h
    split at h
    · rename_i v hv
      split at h
      · rename_i vs' hvs
        injection h with h; subst h
        have ih := mapEv_rel hp xs vs' hvs
        have := (VRs.one (hp x v hv)).append ih
        simpa using this
      · simp at h
    · simp at h

theorem mapParts_rel (hp : ∀ x v, p x = some v → VR w A r v (ev x)) : ∀ (xs : List (Nat × Operand)) (vs : List (Nat × AV)), mapParts p xs = some vs →
    vs.length = (xs.map fun (i, x) => (i, ev x)).length ∧ ∀ (i : Nat) a b, vs[i]? = some a → (xs.map fun (i, x) => (i, ev x))[i]? = some b → a.1 = b.1 ∧ VR w A r a.2 b.2
  | [], vs, h => by simp [mapParts] at h; subst h; exact ⟨rfl, fun i a b ha => by simp at ha⟩
  | (k, x) :: xs, vs, h => by
    simp only [mapParts] at h
    split at h
    · rename_i v hv
      split at h
      · rename_i vs' hvs
        injection h with h; subst h
        obtain ⟨hl, hr⟩ := mapParts_rel hp xs vs' hvs
        refine ⟨by simpa using hl, fun i a b ha hb => ?_⟩
        cases i with
        | zero => simp at ha hb; subst ha; subst hb; exact ⟨rfl, hp x v hv⟩
        | succ i => exact hr i a b (by simpa using ha) (by simpa using hb)
      · simp at h
    · simp at h

theorem structPlaces_run : ∀ (fs : List Field) (pl : List (Nat × Nat)), structPlaces P fs = some pl →
    (fs.mapM (fun (f : Field) => do pure (f.offset, ← sizeOf f.type)) : Sem (List (Nat × Nat))).run P w = .ok pl w
  | [], pl, h => by simp [structPlaces] at h; subst h; simp
  | f :: fs, pl, h => by
    simp only [structPlaces] at h
    split at h
    · rename_i n hn
      split at h
      · rename_i l hl
        injection h with h; subst h
        simp only [List.mapM_cons, Sem.run_bind, run_sizeOf' hn, Result.andThen_ok, Sem.run_pure, structPlaces_run fs l hl]
      · simp at h
    · simp at h

theorem does_val {s : Sem Next} {x : AV} {v : Value} (h : s.run P w = .ok (.value v) w) (k : VR w A r x v) : Does P w A r loc nx s (.val x) := ⟨v, h, k⟩

/-- The pointer operand of a load, a store ..: an address of a frame's object, or one that came in. -/
theorem lptr_inv {j wd row col : Nat} {v : Value} (h : VR w A r (.lptr j wd row col) v) : ∃ b, r j = some b ∧ v = .pointer (some ⟨b, row * wd + col, none⟩) := by
  cases h with
  | lptr h ho => subst ho; exact ⟨_, h, rfl⟩

theorem lift0 {y : AV} {z : Value} (h : VR w A noR y z) : VR w A r y z := h.mono (Keeps.refl A w) (fun j b h => by simp [noR] at h)

variable (hcx : Cx w A r loc p ev)
include hcx

theorem s_load {t : TypeId} {x : Operand} (hop : o.op = .load t x) (h : native P p loc nx o = some (true, res)) : Does P w A r loc nx (execOp ev o) res := by
  simp only [native, hop] at h
  split at h
  · rename_i j wd row col hx
    obtain ⟨b, hb, hv⟩ := lptr_inv (hcx.val _ _ hx)
    split at h
    · rename_i tt cs hj
      obtain ⟨b', hb', us, hh, hc⟩ := hcx.mem _ _ hj
      have : b' = b := by rw [hb] at hb'; injection hb' with hb'; exact hb'.symm
      subst this
      cases hl : loadAV P t cs (row * wd + col) with
      | none => simp [hl] at h
      | some y =>
        simp [hl] at h; subst h
        obtain ⟨v, hr, hvr⟩ := load_flat (P := P) hh hc hl
        exact does_val (by simp only [execOp, hop, hv, Instr.loadAt, Instr.sureAddr, Sem.run_bind, Sem.run_pure, Result.andThen_ok, hr]) hvr
    · simp at h
  · rename_i wd m get row col hx
    have hx' := hcx.val _ _ hx
    generalize hev : ev x = z at hx'
    cases hx' with
    | xptr u hb hA hc hv ho hrow =>
      cases hl : loadX P t wd get row col with
      | none => simp [hl] at h
      | some y =>
        simp [hl] at h; subst h
        obtain ⟨v, hr, hvr⟩ := load_ext (P := P) (r := r) u hc hv ho hrow hl
        exact does_val (by simp only [execOp, hop, hev, Instr.loadAt, Instr.sureAddr, Sem.run_bind, Sem.run_pure, Result.andThen_ok, hr]) hvr
  · simp at h

theorem s_store {t : TypeId} {a x : Operand} (hop : o.op = .store t a x) (h : native P p loc nx o = some (true, res)) : Does P w A r loc nx (execOp ev o) res := by
  simp only [native, hop] at h
  split at h
  · rename_i j wd row col v ha hx
    obtain ⟨b, hb, hva⟩ := lptr_inv (hcx.val _ _ ha)
    split at h
    · rename_i u cs xs n hj hcell hsz
      obtain ⟨b', hb', us, hh, hc⟩ := hcx.mem _ _ hj
      have : b' = b := by rw [hb] at hb'; injection hb' with hb'; exact hb'.symm
      subst this
      split at h
      · rename_i hcond
        obtain ⟨h1, h2, h3⟩ := hcond
        injection h with h
        injection h with _ h; subst h
        have hcr := cells_rel hcell (hcx.val _ _ hx)
        have e1 := hcr.1
        have e2 := hc.1
        refine ⟨b', us, _, _, hb, hj, hh, ?_, hc.ovw (xs := xs) (vs := (ev x).cells.toList) (by simpa using hcr) (by omega)⟩
        have hone : ∀ z ∈ (ev x).cells.toList, z.oneCell' = true := by
          intro z hz
          obtain ⟨i, hi, rfl⟩ := List.getElem_of_mem hz
          have hi' : i < xs.length := by rw [e1]; simpa using hi
          exact oneCell_rel (List.all_eq_true.1 h3 xs[i] (List.getElem_mem hi')) (hcr.2 i xs[i] _ (List.getElem?_eq_getElem hi') (by simp at hi ⊢))
        have hst := run_storeCells_at (P := P) b' (row * wd + col) u (ev x).cells.toList 0 us w hh (by simp; omega) hone
        simp only [Nat.add_zero] at hst
        have hne : ¬ (ev x).cells.size ≠ n := by omega
        simp only [execOp, hop, hva, Instr.storeAt, Instr.sureAddr, Sem.run_bind, Sem.run_pure, Result.andThen_ok, storeVar, run_sizeOf' hsz, Sem.run_ite, hne, if_false, hst]
      · simp at h
    · simp at h
  · simp at h

omit hcx in
theorem s_alloc {t : TypeId} (hop : o.op = .alloc t) (h : native P p loc nx o = some (true, res)) : Does P w A r loc nx (execOp ev o) res := by
  simp only [native, hop] at h
  cases hz : zeroAV P t with
  | none => simp [hz] at h
  | some cs =>
    simp [hz] at h; subst h
    obtain ⟨v, hr, hc⟩ := run_zero' (P := P) (w := w) (A := A) (r := r) hz
    exact ⟨v.cells, _, by simp only [execOp, hop, Instr.alloc, Sem.run_bind, hr, Result.andThen_ok, newVar, newRow, run_newObj, Sem.run_pure, World.alloc_eq], hc, fun w' A' r' h' => .lptr h' rfl⟩

theorem s_box {t : TypeId} {x : Operand} (hop : o.op = .box t x) (h : native P p loc nx o = some (true, res)) : Does P w A r loc nx (execOp ev o) res := by
  simp only [native, hop] at h
  split at h
  · rename_i v hv
    cases hc : cellsAV v with
    | none => simp [hc] at h
    | some cs =>
      simp [hc] at h; subst h
      exact ⟨(ev x).cells, _, by simp only [execOp, hop, Instr.box, Sem.run_bind, newVar, newRow, run_newObj, Result.andThen_ok, Sem.run_pure, World.alloc_eq], cells_rel hc (hcx.val _ _ hv), fun w' A' r' h' => .lptr h' rfl⟩
  · simp at h

theorem s_move {x : Operand} (hop : o.op = .move x ∨ o.op = .assign x) (h : native P p loc nx o = some (true, res)) : Does P w A r loc nx (execOp ev o) res := by
  rcases hop with hop | hop
  all_goals
    simp only [native, hop] at h
    cases hx : p x with
    | none => simp [hx] at h
    | some v =>
      simp [hx] at h; subst h
      exact does_val (by simp only [execOp, hop, Sem.run_pure]) (hcx.val _ _ hx)

theorem s_pick {c a b : Operand} (hop : o.op = .pick c a b) (h : native P p loc nx o = some (true, res)) : Does P w A r loc nx (execOp ev o) res := by
  simp only [native, hop] at h
  split at h
  · rename_i t hc
    have hc' := hcx.val _ _ hc
    generalize hev : ev c = z at hc'
    cases hc'
    cases t with
    | true =>
      cases ha : p a with
      | none => simp [ha] at h
      | some v =>
        simp [ha] at h; subst h
        exact does_val (by simp only [execOp, hop, hev, asBool, Sem.run_bind, Sem.run_pure, Result.andThen_ok, if_true]) (hcx.val _ _ ha)
    | false =>
      cases hb : p b with
      | none => simp [hb] at h
      | some v =>
        simp [hb] at h; subst h
        exact does_val (by simp only [execOp, hop, hev, asBool, Sem.run_bind, Sem.run_pure, Result.andThen_ok, Bool.false_eq_true, if_false]) (hcx.val _ _ hb)
  · simp at h

theorem s_build {t : TypeId} {parts : Array (Nat × Operand)} (hop : o.op = .build t parts) (h : native P p loc nx o = some (true, res)) : Does P w A r loc nx (execOp ev o) res := by
  simp only [native, hop] at h
  split at h
  · rename_i zs ps hz hps
    obtain ⟨v, hzr, hzc⟩ := run_zero' (P := P) (w := w) (A := A) (r := r) hz
    obtain ⟨hl, hr⟩ := mapParts_rel hcx.val _ _ hps
    have eparts : (parts.map fun (i, x) => (i, ev x)).toList = parts.toList.map fun (i, x) => (i, ev x) := by simp
    split at h
    · rename_i fields hu
      split at h
      · rename_i pl hpl
        cases hf : fillAV (fun i => pl[i]?) zs ps with
        | none => simp [hf] at h
        | some cs =>
          simp [hf] at h; subst h
          obtain ⟨us, hfill, hus⟩ := fill_rel _ ps _ zs cs v.cells hf hzc hl hr
          have hpla : (fields.mapM (fun (f : Field) => do pure (f.offset, ← sizeOf f.type)) : Sem (Array (Nat × Nat))).run P w = .ok pl.toArray w := by
            rw [Array.mapM_eq_mapM_toList]
            simp only [Sem.run_map, structPlaces_run fields.toList pl hpl, Result.andThen_ok]
          have hfill' : Instr.fill (pl.toArray[·]?) v.cells (parts.toList.map fun (i, x) => (i, ev x)) = some us := by simpa using hfill
          refine does_val (v := .agg us) ?_ (.agg hus.1 hus.2)
          simp only [execOp, hop, Instr.build, Sem.run_bind, hzr, Result.andThen_ok, run_underlying hu, hpla, eparts, hfill', Sem.run_pure]
      · simp at h
    · rename_i len e hu
      split at h
      · rename_i n hn
        cases hf : fillAV (fun i => some (i * n, n)) zs ps with
        | none => simp [hf] at h
        | some cs =>
          simp [hf] at h; subst h
          obtain ⟨us, hfill, hus⟩ := fill_rel _ ps _ zs cs v.cells hf hzc hl hr
          refine does_val (v := .agg us) ?_ (.agg hus.1 hus.2)
          simp only [execOp, hop, Instr.build, Sem.run_bind, hzr, Result.andThen_ok, run_underlying hu, run_sizeOf' hn, eparts, hfill, Sem.run_pure]
      · simp at h
    · simp at h
  · simp at h

end

end Go.Proofs.Ytkajafmphemedaa.Ev
/-! EvE -/
namespace Go.Proofs.Ytkajafmphemedaa.Ev
open Go.RowKit

theorem replC_length (zs : List AV) : ∀ len, (replC zs len).length = len * zs.length
  | 0 => by simp [replC]
  | n + 1 => by simp [replC, replC_length zs n, Nat.succ_mul, Nat.add_comm]

theorem replC_get (zs : List AV) (h0 : 0 < zs.length) : ∀ (len i : Nat), i < len * zs.length → (replC zs len)[i]? = zs[i % zs.length]?
  | 0, i, h => by simp at h
  | n + 1, i, h => by
    simp only [replC, List.getElem?_append]
    split
    · rename_i hi
      rw [Nat.mod_eq_of_lt hi]
    · rename_i hi
      rw [replC_get zs h0 n (i - zs.length) (by rw [Nat.succ_mul] at h; omega), ← Nat.mod_eq_sub_mod (by omega)]

section
variable {P : Program} {w : World} {A : Nat → Prop} {r : Rr} {loc : Nat → Option Blk} {p : Operand → Option AV} {ev : Operand → Value} {nx : Nat} {o : Oper} {res : Res}

theorem xptr_inv {wd n row col : Nat} {get : Get AV} {v : Value} (h : VR w A r (.xptr wd n get row col) v) :
    ∃ (b o : Nat) (u : Nat → Nat → Value), v = .pointer (some ⟨b, o + (row * wd + col), none⟩) ∧ b < w.heap.size ∧ ¬ A b ∧ (∀ i k, i < n → k < wd → w.cell? ⟨b, o + (i * wd + k), none⟩ = some (u i k)) ∧
      (∀ i k, i < n → k < wd → VR w A noR (get i k) (u i k)) ∧ row < n := by
  cases h with
  | xptr u hb hA hc hv ho hrow => subst ho; exact ⟨_, _, u, rfl, hb, hA, hc, hv, hrow⟩

theorem part_rel {t : TypeId} {cs : List AV} {us : Array Value} {off : Nat} {x : AV} (hc : VRs w A r cs us) (h : partAV P t cs off = some x) : ∃ v, (part t us off).run P w = .ok v w ∧ VR w A r x v := by
  unfold partAV at h
  split at h
  · rename_i n hagg hsz
    injection h with h; subst h
    refine ⟨_, by simp only [part, Sem.run_bind, run_isAgg' hagg, Result.andThen_ok, if_true, run_sizeOf' hsz, Sem.run_pure]; rfl, .agg ?_ ?_⟩
    · simp; have := hc.1; omega
    · intro i y u hy hu
      rw [List.getElem?_take] at hy
      split at hy
      · rw [List.getElem?_drop] at hy
        rw [Array.getElem?_extract] at hu
        split at hu
        · exact hc.2 _ y u hy hu
        · simp at hu
      · simp at hy
  · rename_i n hagg hsz
    obtain ⟨u, hu, hr⟩ := hc.get h
    exact ⟨u, by simp only [part, Sem.run_bind, run_isAgg' hagg, Result.andThen_ok, Bool.false_eq_true, if_false, hu, Sem.run_pure], hr⟩
  · simp at h

theorem eqFields_rel {rec : TypeId → AV → AV → Option Bool} {d : Nat} (hrec : ∀ t x y b u v, rec t x y = some b → VR w A r x u → VR w A r y v → (Op.equalIn d t u v).run P w = .ok b w)
    {xs ys : List AV} {us vs : Array Value} (hx : VRs w A r xs us) (hy : VRs w A r ys vs) : ∀ (fs : List Field) (b : Bool), eqFieldsAV P rec xs ys fs = some b → (Op.eqFields d us vs fs).run P w = .ok b w
  | [], b, h => by simp only [eqFieldsAV, Option.some.injEq] at h; subst h; simp only [Op.eqFields, Sem.run_pure]
  | f :: fs, b, h => by
    unfold eqFieldsAV at h
    split at h
    · rename_i a c hn ha hc
      obtain ⟨u, hu, ru⟩ := part_rel (P := P) hx ha
      obtain ⟨v, hv, rv⟩ := part_rel (P := P) hy hc
      have hn' : f.name ≠ "_" := by simpa using hn
      have step : (Op.eqFields d us vs (f :: fs)).run P w = ((Op.equalIn d f.type u v).run P w).andThen fun q w' => if (!q) = true then .ok false w' else (Op.eqFields d us vs fs).run P w' := by
        simp only [Op.eqFields, if_pos hn', Sem.run_bind, hu, hv, Result.andThen_ok, Sem.run_ite, Sem.run_pure]
      rw [step]
      cases hr : rec f.type a c with
      | none => rw [hr] at h; cases fs <;> simp at h
      | some e =>
        rw [hr] at h
        rw [hrec _ _ _ _ _ _ hr ru rv, Result.andThen_ok]
        cases fs with
        | nil =>
          simp only [Option.some.injEq] at h; subst h
          cases e <;> simp [Op.eqFields]
        | cons g gs =>
          simp only at h
          cases hq : eqFieldsAV P rec xs ys (g :: gs) with
          | none => rw [hq] at h; simp at h
          | some z =>
            rw [hq] at h; simp only [Option.some.injEq] at h; subst h
            have ih := eqFields_rel hrec hx hy (g :: gs) z hq
            cases e with
            | false => simp
            | true => simpa using ih
    · cases h

theorem eqElems_rel {rec : AV → AV → Option Bool} {d : Nat} {e n : TypeId} (hrec : ∀ x y b u v, rec x y = some b → VR w A r x u → VR w A r y v → (Op.equalIn d e u v).run P w = .ok b w)
    {xs ys : List AV} {us vs : Array Value} (hx : VRs w A r xs us) (hy : VRs w A r ys vs) : ∀ (k i : Nat) (b : Bool), eqElemsAV P rec e n xs ys i k = some b →
      (do
        let q ← forIn (List.range' i k) ((none, ()) : Option Bool × Unit) fun j _ => do
          let __do_lift ← part e us (j * n)
          let __do_lift_1 ← part e vs (j * n)
          let __do_lift_2 ← Op.equalIn d e __do_lift __do_lift_1
          if (!__do_lift_2) = true then pure (ForInStep.done (some false, ())) else do
            pure (ForInStep.yield (none, ()))
        match q.fst with
          | some a => pure a
          | none => pure true : Sem Bool).run P w = .ok b w
  | 0, i, b, h => by simp only [eqElemsAV, Option.some.injEq] at h; subst h; simp
  | k + 1, i, b, h => by
    unfold eqElemsAV at h
    split at h
    · rename_i a c ha hc
      obtain ⟨u, hu, ru⟩ := part_rel (P := P) hx ha
      obtain ⟨v, hv, rv⟩ := part_rel (P := P) hy hc
      cases hr : rec a c with
      | none => rw [hr] at h; cases k <;> simp at h
      | some f =>
        rw [hr] at h
        rw [List.range'_succ]
        simp only [List.forIn_cons, Sem.run_bind, hu, hv, Result.andThen_ok, hrec _ _ _ _ _ hr ru rv]
        cases k with
        | zero =>
          simp only [Option.some.injEq] at h; subst h
          cases f <;> simp
        | succ m =>
          simp only at h
          cases hq : eqElemsAV P rec e n xs ys (i + 1) (m + 1) with
          | none => rw [hq] at h; simp at h
          | some z =>
            rw [hq] at h; simp only [Option.some.injEq] at h; subst h
            have ih := eqElems_rel hrec hx hy (m + 1) (i + 1) z hq
            cases f with
            | false => simp
            | true =>
              simp only [Sem.run_bind] at ih
              simpa using ih
    · cases h

theorem eqAV_run : ∀ (n : Nat) (t : TypeId) (x y : AV) (b : Bool) (u v : Value), eqAV P n t x y = some b → VR w A r x u → VR w A r y v → ∀ d, n ≤ d → (Op.equalIn d t u v).run P w = .ok b w
  | 0, t, x, y, b, u, v, h, _, _, _, _ => by simp [eqAV] at h
  | n + 1, t, x, y, b, u, v, h, hx, hy, d, hd => by
    obtain ⟨d, rfl⟩ : ∃ e, d = e + 1 := ⟨d - 1, by omega⟩
    unfold eqAV at h
    split at h
    · rename_i p q hu
      cases hx; cases hy
      simp only [Option.some.injEq] at h; subst h
      exact run_equalIn_bool' _ _ _ _ _ hu
    · rename_i kk k p k' q hu
      split at h
      · rename_i hk
        have hk := of_decide_eq_true hk; subst hk
        cases hx; cases hy
        simp only [Option.some.injEq] at h; subst h
        exact run_equalIn_int _ _ _ _ _ _ _ hu
      · cases h
    · rename_i p q hu
      cases hx; cases hy
      simp only [Option.some.injEq] at h; subst h
      rw [run_equalIn_string _ _ _ _ _ hu]
      simp only [ByteArray.toList_eq]
    · rename_i fields xs ys hu
      split at h
      · rename_i hs
        cases hx with
        | agg hx1 hx2 =>
          cases hy with
          | agg hy1 hy2 =>
            have hf : P.fieldsOf t = fields := by simp only [Program.fieldsOf, hu]
            rw [run_equalIn_struct w d t _ _ (by rw [hf]; exact hu) hs, hf]
            exact eqFields_rel (fun t x y b u v h hx hy => eqAV_run n t x y b u v h hx hy d (by omega)) ⟨hx1, hx2⟩ ⟨hy1, hy2⟩ _ _ h
      · cases h
    · rename_i len e xs ys hu
      split at h
      · rename_i m hm
        cases hx with
        | agg hx1 hx2 =>
          cases hy with
          | agg hy1 hy2 =>
            have key := eqElems_rel (P := P) (n := m) (fun x y b u v h hx hy => eqAV_run n e x y b u v h hx hy d (by omega)) ⟨hx1, hx2⟩ ⟨hy1, hy2⟩ len 0 b h
            simp only [Op.equalIn, Sem.run_bind, run_underlying hu, Result.andThen_ok, run_sizeOf' hm]
            simp only [Sem.run_bind] at key
            simp at key ⊢
            refine Eq.trans (congrArg (Result.andThen _) (funext fun a => funext fun w' => ?_)) key
            obtain ⟨o, _⟩ := a
            cases o <;> rfl
      · cases h
    · cases h

theorem fieldPlace_run {s : TypeId} {f off b c : Nat} (h : fieldPlaceAV P s f = some off) : (Instr.fieldAt s (.pointer (some ⟨b, c, none⟩)) f).run P w = .ok (.pointer (some ⟨b, c + off, none⟩)) w := by
  unfold fieldPlaceAV at h
  split at h
  · rename_i fields hu
    split at h
    · rename_i fd hf
      split at h
      · simp at h
      · rename_i n hne hsz
        injection h with h; subst h
        have hn : ¬ n = 0 := hne
        simp only [Instr.fieldAt, Sem.run_bind, run_underlying hu, Result.andThen_ok, hf, Instr.sureAddr, Sem.run_pure, fieldPlace, run_sizeOf' hsz, Sem.run_ite, hn, if_false, addr_add]
      · simp at h
    · simp at h
  · simp at h

variable (hcx : Cx w A r loc p ev)
include hcx

theorem s_buildSlice {t : TypeId} {len : Nat} {parts : Array (Nat × Operand)} (hop : o.op = .buildSlice t len parts) (h : native P p loc nx o = some (true, res)) : Does P w A r loc nx (execOp ev o) res := by
  simp only [native, hop] at h
  split at h
  · rename_i e hu
    split at h
    · rename_i n zs ps hn hz hps
      split at h
      · rename_i hcond
        obtain ⟨h1, h2, h3⟩ := hcond
        obtain ⟨v, hzr, hzc⟩ := run_zero' (P := P) (w := w) (A := A) (r := r) hz
        obtain ⟨hl, hr⟩ := mapParts_rel hcx.val _ _ hps
        have eparts : (parts.map fun (i, x) => (i, ev x)).toList = parts.toList.map fun (i, x) => (i, ev x) := by simp
        cases hf : fillAV (fun i => some (i * n, n)) (replC zs len) ps with
        | none => simp [hf] at h
        | some cs =>
          simp [hf] at h; subst h
          have hzsz : v.cells.size = n := by rw [← hzc.1]; exact h1
          have hbase : VRs w A r (replC zs len) ((Array.range (len * n)).map (v.cells[· % v.cells.size]!)) := by
            refine ⟨by rw [replC_length, h1]; simp, fun i x u hx hu => ?_⟩
            have hi : i < len * n := by have := (List.getElem?_eq_some_iff.1 hx).1; rwa [replC_length, h1] at this
            rw [replC_get zs (by omega) len i (by rw [h1]; exact hi), h1] at hx
            have hm : i % n < v.cells.size := by rw [hzsz]; exact Nat.mod_lt _ h2
            simp [hi, hzsz] at hu
            refine hzc.2 (i % n) x u hx ?_
            rw [← hu, Array.getElem?_eq_getElem hm, getElem!_pos v.cells (i % n) hm]
          obtain ⟨us, hfill, hus⟩ := fill_rel _ ps _ _ cs _ hf hbase hl hr
          refine ⟨us, .slice (some ⟨w.heap.size, 0, none⟩) len len, ?_, hus, fun w' A' r' h' => .lsl h' (by simp) ⟨Nat.le_refl _, by have := Nat.le_mul_of_pos_right len h2; unfold maxL; omega⟩ (fun x hx => by injection hx)⟩
          have hsm : ¬ len * n > 2 ^ 24 := by omega
          rcases Nat.eq_zero_or_pos len with rfl | hpos
          · simp only [Nat.zero_mul, Array.range_zero', Array.map_empty] at hfill
            simp only [execOp, hop, Instr.buildSlice, Sem.run_bind, run_underlying hu, Result.andThen_ok, run_sizeOf' hn, Nat.zero_mul, Nat.not_lt_zero, gt_iff_lt, if_true, if_false, Array.range_zero', Array.map_empty, eparts, hfill, newRow, run_newObj, Sem.run_pure, World.alloc_eq]
          · have h0 : ¬ len * n = 0 := Nat.ne_of_gt (Nat.mul_pos hpos h2)
            simp only [execOp, hop, Instr.buildSlice, Sem.run_bind, run_underlying hu, Result.andThen_ok, run_sizeOf' hn, Sem.run_ite, hsm, h0, if_false, hzr, eparts, hfill, newRow, run_newObj, Sem.run_pure, World.alloc_eq]
      · simp at h
    · simp at h
  · simp at h

theorem s_nilCheck {x : Operand} (hop : o.op = .nilCheck x) (h : native P p loc nx o = some (true, res)) : Does P w A r loc nx (execOp ev o) res := by
  simp only [native, hop] at h
  split at h
  · rename_i j wd row col hx
    obtain ⟨b, hb, hv⟩ := lptr_inv (hcx.val _ _ hx)
    simp at h; subst h
    exact does_val (by simp only [execOp, hop, hv, Sem.run_pure]) (.lptr hb rfl)
  · rename_i wd n get row col hx
    have hx' := hcx.val _ _ hx
    obtain ⟨b, oo, u, hv, _⟩ := xptr_inv hx'
    simp at h; subst h
    rw [hv] at hx'
    exact does_val (by simp only [execOp, hop, hv, Sem.run_pure]) hx'
  · simp at h

theorem s_fieldAddr {s : TypeId} {x : Operand} {f : Nat} (hop : o.op = .fieldAddr s x f) (h : native P p loc nx o = some (true, res)) : Does P w A r loc nx (execOp ev o) res := by
  simp only [native, hop] at h
  split at h
  · rename_i j wd row col off hx hf
    obtain ⟨b, hb, hv⟩ := lptr_inv (hcx.val _ _ hx)
    simp at h; subst h
    exact does_val (v := .pointer (some ⟨b, row * wd + col + off, none⟩)) (by simp only [execOp, hop, hv, Sem.run_bind, fieldPlace_run hf, Result.andThen_ok, Sem.run_pure]) (.lptr hb (by omega))
  · rename_i wd n get row col off hx hf
    obtain ⟨b, oo, u, hv, h1, h2, h3, h4, h5⟩ := xptr_inv (hcx.val _ _ hx)
    simp at h; subst h
    exact does_val (v := .pointer (some ⟨b, oo + (row * wd + col) + off, none⟩)) (by simp only [execOp, hop, hv, Sem.run_bind, fieldPlace_run hf, Result.andThen_ok, Sem.run_pure]) (.xptr u h1 h2 h3 h4 (by omega) h5)
  · simp at h

theorem s_field {s : TypeId} {x : Operand} {f : Nat} (hop : o.op = .field s x f) (h : native P p loc nx o = some (true, res)) : Does P w A r loc nx (execOp ev o) res := by
  simp only [native, hop] at h
  split at h
  · rename_i cs fields hx hu
    split at h
    · rename_i fd hf
      have hx' := hcx.val _ _ hx
      generalize hev : ev x = z at hx'
      cases hx' with
      | agg hl h1 =>
        rename_i us
        cases hp : partAV P fd.type cs fd.offset with
        | none => simp [hp] at h
        | some y =>
          simp [hp] at h; subst h
          obtain ⟨v, hr, hvr⟩ := part_rel (P := P) ⟨hl, h1⟩ hp
          exact does_val (by simp only [execOp, hop, hev, Instr.field, Sem.run_bind, run_underlying hu, Result.andThen_ok, hf, asAgg, Sem.run_pure, hr]) hvr
    · simp at h
  · simp at h

theorem s_index {t : TypeId} {x ix : Operand} (hop : o.op = .index t x ix) (h : native P p loc nx o = some (true, res)) : Does P w A r loc nx (execOp ev o) res := by
  simp only [native, hop] at h
  split at h
  · rename_i cs k i len e hx hix hu
    split at h
    · rename_i n hn
      have hx' := hcx.val _ _ hx
      have hi' := hcx.val _ _ hix
      generalize hev : ev x = z at hx'
      generalize hei : ev ix = zi at hi'
      cases hi'
      cases hx' with
      | agg hl h1 =>
        rename_i us
        cases hp : partAV P e cs (i.toNat * n) with
        | none => simp [hp] at h
        | some y =>
          simp [hp] at h
          obtain ⟨hc, h⟩ := h
          subst h
          obtain ⟨v, hr, hvr⟩ := part_rel (P := P) ⟨hl, h1⟩ hp
          exact does_val (by simp only [execOp, hop, hev, hei, Instr.index, asIntOf, Sem.run_bind, Sem.run_pure, run_underlying hu, Result.andThen_ok, Sem.run_ite, hc, and_self, if_true, run_sizeOf' hn, hr]) hvr
    · simp at h
  · simp at h

theorem s_indexAddr {t : TypeId} {x ix : Operand} (hop : o.op = .indexAddr t x ix) (h : native P p loc nx o = some (true, res)) : Does P w A r loc nx (execOp ev o) res := by
  simp only [native, hop] at h
  split at h
  · rename_i j wd row col k i len e hx hix hu
    split at h
    · rename_i n hn
      obtain ⟨b, hb, hv⟩ := lptr_inv (hcx.val _ _ hx)
      have hi' := hcx.val _ _ hix
      generalize hei : ev ix = zi at hi'
      cases hi'
      simp at h
      obtain ⟨hc, h⟩ := h
      subst h
      exact does_val (v := .pointer (some ⟨b, row * wd + col + i.toNat * n, none⟩)) (by simp only [execOp, hop, hv, hei, Instr.indexAt, asIntOf, Sem.run_bind, Sem.run_pure, run_underlying hu, Result.andThen_ok, Instr.sureAddr, Sem.run_ite, hc, and_self, if_true, run_sizeOf' hn, addr_add]) (.lptr hb (by omega))
    · simp at h
  · rename_i wd m get row col k i len e hx hix hu
    split at h
    · rename_i n hn
      obtain ⟨b, oo, u, hv, h1, h2, h3, h4, h5⟩ := xptr_inv (hcx.val _ _ hx)
      have hi' := hcx.val _ _ hix
      generalize hei : ev ix = zi at hi'
      cases hi'
      simp at h
      obtain ⟨hc, h⟩ := h
      subst h
      exact does_val (v := .pointer (some ⟨b, oo + (row * wd + col) + i.toNat * n, none⟩)) (by simp only [execOp, hop, hv, hei, Instr.indexAt, asIntOf, Sem.run_bind, Sem.run_pure, run_underlying hu, Result.andThen_ok, Instr.sureAddr, Sem.run_ite, hc, and_self, if_true, run_sizeOf' hn, addr_add]) (.xptr u h1 h2 h3 h4 (by omega) h5)
    · simp at h
  · rename_i j wd row col len cap k i e hx hix hu
    split at h
    · rename_i n hn
      split at h
      · rename_i hnw
        have hx' := hcx.val _ _ hx
        have hi' := hcx.val _ _ hix
        generalize hev : ev x = z at hx'
        generalize hei : ev ix = zi at hi'
        cases hi'
        cases hx' with
        | lsl hb ho hl hcap =>
          subst ho; subst hnw
          simp at h
          obtain ⟨hc, h⟩ := h
          subst h
          rename_i bb cc
          exact does_val (v := .pointer (some ⟨bb, row * n + col + i.toNat * n, none⟩)) (by simp only [execOp, hop, hev, hei, Instr.indexAt, asIntOf, Sem.run_bind, Sem.run_pure, run_underlying hu, Result.andThen_ok, Sem.run_ite, hc, and_self, if_true, run_sizeOf' hn, addr_add]) (.lptr hb (by rw [Nat.add_mul]; omega))
      · simp at h
    · simp at h
  · rename_i wd m get row len cap k i e hx hix hu
    split at h
    · rename_i n hn
      split at h
      · rename_i hnw
        have hx' := hcx.val _ _ hx
        have hi' := hcx.val _ _ hix
        generalize hev : ev x = z at hx'
        generalize hei : ev ix = zi at hi'
        cases hi'
        cases hx' with
        | xsl b oo u hl hcap hm ha hcc hv =>
          simp at h
          obtain ⟨hc, h⟩ := h
          subst h
          have h0 : 0 < len := by omega
          obtain ⟨ea, hb, hA⟩ := ha h0
          subst ea
          subst hnw
          exact does_val (v := .pointer (some ⟨b, oo + row * n + i.toNat * n, none⟩)) (by simp only [execOp, hop, hev, hei, Instr.indexAt, asIntOf, Sem.run_bind, Sem.run_pure, run_underlying hu, Result.andThen_ok, Sem.run_ite, hc, and_self, if_true, run_sizeOf' hn, addr_add])
            (.xptr u hb hA (hcc h0) (hv h0) (by rw [Nat.add_mul]; omega) (by omega))
      · simp at h
    · simp at h
  · simp at h

theorem s_makeFunc {f : Fn} {xs ys : Array Operand} (hop : o.op = .makeFunc f xs ys) (h : native P p loc nx o = some (true, res)) : Does P w A r loc nx (execOp ev o) res := by
  simp only [native, hop] at h
  split at h
  · rename_i us vs hu hv
    simp at h; subst h
    have h1 := mapEv_rel hcx.val _ _ hu
    have h2 := mapEv_rel hcx.val _ _ hv
    have e1 : (xs.toList.map ev).toArray = xs.map ev := Array.ext' (by simp)
    have e2 : (ys.toList.map ev).toArray = ys.map ev := Array.ext' (by simp)
    rw [e1] at h1
    rw [e2] at h2
    exact does_val (v := .func f (xs.map ev) (ys.map ev)) (by simp only [execOp, hop, Instr.makeFunc, Sem.run_bind, Sem.run_pure, Result.andThen_ok]) (.fn h1.1 h2.1 h1.2 h2.2)
  · simp at h

theorem s_extract {x : Operand} {i : Nat} (hop : o.op = .extract x i) (h : native P p loc nx o = some (true, res)) : Does P w A r loc nx (execOp ev o) res := by
  simp only [native, hop] at h
  split at h
  · rename_i vs hx
    have hx' := hcx.val _ _ hx
    generalize hev : ev x = z at hx'
    cases hx' with
    | tup hl h1 =>
      rename_i us
      cases hv : vs[i]? with
      | none => simp [hv] at h
      | some y =>
        simp [hv] at h; subst h
        obtain ⟨u, hu, hr⟩ := VRs.get (w := w) (A := A) (r := r) (us := us) ⟨hl, h1⟩ hv
        exact does_val (by simp only [execOp, hop, hev, Instr.extract, hu, Sem.run_bind, Sem.run_pure, Result.andThen_ok]) hr
  · simp at h

theorem eqVals_run {t : TypeId} {x y : Operand} {c : Bool} (h : eqVals P t (p x) (p y) = some c) :
    ∃ us vs, ev x = .agg us ∧ ev y = .agg vs ∧ P.eqGuardType P.depth t = false ∧ (Op.equalIn 10000 t (.agg us) (.agg vs)).run P w = .ok c w := by
  unfold eqVals at h
  split at h
  · rename_i cs ds hx hy
    split at h
    · rename_i hg
      have hx' := hcx.val _ _ hx
      have hy' := hcx.val _ _ hy
      generalize ev x = z at hx' ⊢
      generalize ev y = u at hy' ⊢
      have key := eqAV_run (P := P) 20 t _ _ c _ _ h hx' hy' 10000 (by omega)
      cases hx' with
      | agg hx1 hx2 =>
        cases hy' with
        | agg hy1 hy2 => exact ⟨_, _, rfl, rfl, hg, key⟩
    · cases h
  · cases h

theorem s_div {b : BinOp} {t t' : TypeId} {x y : Operand} (hop : o.op = .binOp b t x y t') (h : native P p loc nx o = some (true, res)) : Does P w A r loc nx (execOp ev o) res := by
  simp only [native, hop] at h
  split at h
  · split at h
    · rename_i k m k' n hx hy
      split at h
      · rename_i hk
        have hk' : k = k' := by simpa using hk
        subst hk'
        injection h with h; injection h with h1 h2; subst h2
        have hn : ¬ n = 0 := by simpa using h1
        have hx' := hcx.val _ _ hx
        have hy' := hcx.val _ _ hy
        generalize hev : ev x = z at hx'
        generalize hew : ev y = u at hy'
        cases hx'; cases hy'
        refine does_val (v := .int k (k.wrap (m.tdiv n))) ?_ .int
        simp [execOp, hop, hev, hew, eqGuard, binOp, Op.intDiv, hn]
      · simp at h
    · cases h
  · split at h
    · rename_i k m k' n hx hy
      split at h
      · rename_i hk
        have hk' : k = k' := by simpa using hk
        subst hk'
        injection h with h; injection h with h1 h2; subst h2
        have hn : ¬ n = 0 := by simpa using h1
        have hx' := hcx.val _ _ hx
        have hy' := hcx.val _ _ hy
        generalize hev : ev x = z at hx'
        generalize hew : ev y = u at hy'
        cases hx'; cases hy'
        refine does_val (v := .int k (m.tmod n)) ?_ .int
        simp [execOp, hop, hev, hew, eqGuard, binOp, Op.intDiv, hn]
      · simp at h
    · cases h
  · cases he : eqVals P t (p x) (p y) with
    | none => rw [he] at h; simp at h
    | some c =>
      rw [he] at h; simp only [Option.map_some, Option.some.injEq, Prod.mk.injEq, true_and] at h; subst h
      obtain ⟨us, vs, hev, hew, hg, key⟩ := eqVals_run hcx he
      refine does_val (v := .bool c) ?_ .bool
      simp only [execOp, hop, hev, hew, Sem.run_bind, run_eqGuard_agg w _ t x y _ _ hg, Result.andThen_ok, run_eql_struct, key, Sem.run_pure]
  · cases he : eqVals P t (p x) (p y) with
    | none => rw [he] at h; simp at h
    | some c =>
      rw [he] at h; simp only [Option.map_some, Option.some.injEq, Prod.mk.injEq, true_and] at h; subst h
      obtain ⟨us, vs, hev, hew, hg, key⟩ := eqVals_run hcx he
      refine does_val (v := .bool (!c)) ?_ .bool
      simp only [execOp, hop, hev, hew, Sem.run_bind, run_eqGuard_agg w _ t x y _ _ hg, Result.andThen_ok, run_neq_struct, key, Sem.run_pure]
  · cases h

theorem s_call {c : Call} (hop : o.op = .call c) (h : native P p loc nx o = some (true, res)) : Does P w A r loc nx (execOp ev o) res := by
  simp only [native, hop] at h
  split at h
  · rename_i hcal
    split at h
    · rename_i x t hargs htys
      split at h
      · rename_i v n hx hs
        cases hl : lenAV v with
        | none => simp [hl] at h
        | some m =>
          simp [hl] at h; subst h
          have e1 : c.args.map ev = #[ev x] := by
            apply Array.ext'; simp [hargs]
          have e2 : c.argTypes = #[t] := by
            apply Array.ext'; simp [htys]
          have hx' := hcx.val _ _ hx
          unfold sliceT at hs
          split at hs
          · rename_i e hu
            have key : ∃ a cc, ev x = .slice a m cc := by
              generalize ev x = z at hx'
              cases hx' with
              | lsl _ _ h3 _ => simp [lenAV, clampL_eq h3.2] at hl; subst hl; exact ⟨_, _, rfl⟩
              | xsl _ _ _ h3 _ _ _ _ _ => simp [lenAV, clampL_eq h3.2] at hl; subst hl; exact ⟨_, _, rfl⟩
              | nilsl => simp [lenAV] at hl; subst hl; exact ⟨_, _, rfl⟩
              | _ => simp [lenAV] at hl
            obtain ⟨a, cc, hev⟩ := key
            refine does_val (v := .int .i64 m) ?_ .int
            simp only [execOp, hop, resolve, hcal, e1, e2, Sem.run_bind, Sem.run_pure, Result.andThen_ok, invoke, builtin, Builtin.len_, List.getElem?_toArray, List.getElem?_cons_zero, hev, run_underlying hu, goInt]
          · simp at hs
      · simp at h
    · simp at h
  · rename_i f hcal
    split at h
    · rename_i g vs hf hvs
      cases hc : callAV P g vs with
      | none => simp [hc] at h
      | some rr =>
        simp [hc] at h; subst h
        unfold callAV at hc
        split at hc
        · rename_i gi xs ys
          split at hc
          · rename_i fn hfn
            split at hc
            · rename_i hok
              injection hc with hc; subst hc
              have hf' := hcx.val _ _ hf
              have h1 := mapEv_rel hcx.val _ _ hvs
              have e1 : (c.args.toList.map ev).toArray = c.args.map ev := Array.ext' (by simp)
              rw [e1] at h1
              generalize hev : ev f = z at hf'
              cases hf' with
              | fn hx hy hr1 hr2 =>
                rename_i us ws
                simp only [nameOk, Bool.and_eq_true, Bool.not_eq_true'] at hok
                obtain ⟨hb, hn⟩ := hok
                have hbn : fn.body.isNone = false := by
                  cases hbb : fn.body with
                  | none => simp [hbb] at hb
                  | some b => rfl
                refine ⟨us ++ c.args.map ev ++ ws, ?_, VRs.append (VRs.append ⟨hx, hr1⟩ h1) ⟨hy, hr2⟩⟩
                simp only [execOp, hop, resolve, hcal, hev, Deferred.ofValue, Sem.run_bind, Sem.run_pure, Result.andThen_ok, invoke, callFunc, run_program, hfn, hn, Bool.false_eq_true, if_false, hbn]
            · simp at hc
          · simp at hc
        · simp at hc
    · simp at h
  · simp at h

theorem bound_run {o : Operand} {dflt n n' l : Nat} {code : BoundsCode} (h : boundAV p (some o) dflt n = some (true, l)) (hn : n ≤ n') : (Instr.sliceBound (ev o) n' code).run P w = .ok l w ∧ l ≤ n := by
  unfold boundAV at h
  simp only at h
  split at h
  · rename_i k i hi
    have hi' := hcx.val _ _ hi
    generalize hei : ev o = z at hi'
    cases hi'
    simp at h
    obtain ⟨hc, h⟩ := h
    subst h
    have hc' : 0 ≤ i ∧ i ≤ n' := by omega
    exact ⟨by simp only [Instr.sliceBound, asIntOf, Sem.run_bind, Sem.run_pure, Result.andThen_ok, Sem.run_ite, hc', and_self, if_true], by omega⟩
  · simp at h

omit hcx in
theorem xsl_cut {wd m row len c k h l n : Nat} {cap cap' : Option Nat} {get : Get AV} {a : Option Addr} (hx : VR w A r (.xsl wd m get row len cap) (.slice a len c)) (h1 : l ≤ h) (h2 : h ≤ len) (h3 : h ≤ k) (h4 : n = wd) (h5 : ∀ x, cap' = some x → k - l = x) :
    VR w A r (.xsl wd m get (row + l) (h - l) cap') (.slice (if k = l then a else a.map (·.add (l * n))) (h - l) (k - l)) := by
  cases hx with
  | xsl b oo u hl hcap hm ha hcc hv =>
    refine .xsl b oo u ⟨by omega, by have := hl.2; omega⟩ h5 (by omega) (fun h0 => ?_) (fun h0 => hcc (by omega)) (fun h0 => hv (by omega))
    obtain ⟨e, hb, hA⟩ := ha (by omega)
    subst e; subst h4
    rw [if_neg (by omega)]
    exact ⟨by simp only [Option.map_some, addr_add]; rw [Nat.add_mul, Nat.add_assoc], hb, hA⟩

omit hcx in
theorem bound_dflt {dflt n l : Nat} {c : Bool} (h : boundAV p none dflt n = some (c, l)) : c = true ∧ l = dflt := by
  simp [boundAV] at h; exact ⟨h.1, h.2.symm⟩

theorem s_slice {t : TypeId} {x : Operand} {lo hi mx : Option Operand} (hop : o.op = .slice t x lo hi mx) (h : native P p loc nx o = some (true, res)) : Does P w A r loc nx (execOp ev o) res := by
  cases mx with
  | none =>
    simp only [native, hop] at h
    split at h
    · rename_i wd m get row len cap n hx hs
      split at h
      · rename_i c1 hh h1
        split at h
        · rename_i c2 l h2
          split at h
          · rename_i hnw
            simp at h
            obtain ⟨⟨hc1, hc2⟩, h⟩ := h
            subst hc1; subst hc2; subst h
            have hx' := hcx.val _ _ hx
            have key : ∃ a c, ev x = .slice a len c ∧ len ≤ c ∧ ∀ y, cap = some y → c = y := by
              generalize ev x = z at hx'
              cases hx' with
              | xsl b oo u hl hcap hm ha hcc hv => exact ⟨_, _, rfl, hl.1, hcap⟩
            obtain ⟨a, c, hev, hcap, hcap2⟩ := key
            rw [hev] at hx'
            unfold sliceT at hs
            split at hs
            · rename_i e hu
              have hH : hh ≤ len ∧ ∀ (code1 : BoundsCode), ((match hi.map ev with | some v => Instr.sliceBound v c code1 | none => pure len) : Sem Nat).run P w = .ok hh w := by
                cases hi with
                | none => obtain ⟨_, e⟩ := bound_dflt h1; subst e; exact ⟨Nat.le_refl _, fun _ => rfl⟩
                | some o => exact ⟨(bound_run (P := P) (code := .index) hcx h1 hcap).2, fun code => (bound_run (P := P) (code := code) hcx h1 hcap).1⟩
              have hL : l ≤ hh ∧ ∀ (code1 : BoundsCode), ((match lo.map ev with | some v => Instr.sliceBound v hh code1 | none => pure 0) : Sem Nat).run P w = .ok l w := by
                cases lo with
                | none => obtain ⟨_, e⟩ := bound_dflt h2; subst e; exact ⟨Nat.zero_le _, fun _ => rfl⟩
                | some o => exact ⟨(bound_run (P := P) (code := .index) hcx h2 (Nat.le_refl _)).2, fun code => (bound_run (P := P) (code := code) hcx h2 (Nat.le_refl _)).1⟩
              refine does_val ?_ (xsl_cut (k := c) hx' hL.1 hH.1 (Nat.le_trans hH.1 hcap) hnw (fun y hy => by cases hcc : cap with | none => simp [hcc] at hy | some z => simp [hcc] at hy; have := hcap2 z hcc; omega))
              have r1 := hH.2 .sliceAcap
              have r2 := hL.2 .sliceB
              cases hi <;> cases lo <;> (try obtain ⟨_, rfl⟩ := bound_dflt h1) <;> (try obtain ⟨_, rfl⟩ := bound_dflt h2) <;> (try simp only [Option.map_some] at r1) <;> (try simp only [Option.map_some] at r2) <;>
                simp only [execOp, hop, hev, Option.map_some, Option.map_none, Instr.sliceAt, Instr.slice, Sem.run_bind, run_underlying hu, Result.andThen_ok, Instr.sliceBounds, Sem.run_pure, if_true, Option.isSome_none, Bool.false_eq_true, if_false, r1, r2, run_sizeOf' hs]
            · simp at hs
          · simp at h
        · simp at h
      · simp at h
    · simp at h
  | some m => 
    cases hi with
    | none => simp [native, hop] at h
    | some hi =>
    simp only [native, hop] at h
    split at h
    · rename_i wd mm get row len cap n hx hs
      split at h
      · rename_i c0 k h0
        split at h
        · rename_i c1 hh h1
          split at h
          · rename_i c2 l h2
            split at h
            · rename_i hnw
              simp at h
              obtain ⟨⟨hc0, hc1, hc2⟩, h⟩ := h
              subst hc0; subst hc1; subst hc2; subst h
              have hx' := hcx.val _ _ hx
              have key : ∃ a c, ev x = .slice a len c ∧ len ≤ c := by
                generalize ev x = z at hx'
                cases hx' with
                | xsl b oo u hl hcap hm ha hcc hv => exact ⟨_, _, rfl, hl.1⟩
              obtain ⟨a, c, hev, hlc⟩ := key
              rw [hev] at hx'
              unfold sliceT at hs
              split at hs
              · rename_i e hu
                have hK := bound_run (P := P) (code := .slice3Acap) hcx h0 hlc
                have hH := bound_run (P := P) (code := .slice3B) hcx h1 (Nat.le_refl _)
                have hL : l ≤ hh ∧ ∀ (code1 : BoundsCode), ((match lo.map ev with | some v => Instr.sliceBound v hh code1 | none => pure 0) : Sem Nat).run P w = .ok l w := by
                  cases lo with
                  | none => obtain ⟨_, e⟩ := bound_dflt h2; subst e; exact ⟨Nat.zero_le _, fun _ => rfl⟩
                  | some o => exact ⟨(bound_run (P := P) (code := .index) hcx h2 (Nat.le_refl _)).2, fun code => (bound_run (P := P) (code := code) hcx h2 (Nat.le_refl _)).1⟩
                refine does_val ?_ (xsl_cut (k := k) hx' hL.1 (Nat.le_trans hH.2 hK.2) hH.2 hnw (fun y hy => by injection hy))
                have r2 := hL.2 .slice3C
                cases lo <;> (try obtain ⟨_, rfl⟩ := bound_dflt h2) <;> (try simp only [Option.map_some] at r2) <;>
                  simp only [execOp, hop, hev, Option.map_some, Option.map_none, Instr.sliceAt, Instr.slice, Sem.run_bind, run_underlying hu, Result.andThen_ok, Instr.sliceBounds, Sem.run_pure, if_true, Option.isSome_some, hK.1, hH.1, r2, run_sizeOf' hs]
              · simp at hs
            · simp at h
          · simp at h
        · simp at h
      · simp at h
    · simp at h

end

/-- All rules at once. -/
theorem native_sound {P : Program} {w : World} {A : Nat → Prop} {r : Rr} {loc : Nat → Option Blk} {p : Operand → Option AV} {ev : Operand → Value} {nx : Nat} {o : Oper} {res : Res}
    (hcx : Cx w A r loc p ev) (h : native P p loc nx o = some (true, res)) : Does P w A r loc nx (execOp ev o) res := by
  cases hop : o.op with
  | move x => exact s_move hcx (.inl hop) h
  | assign x => exact s_move hcx (.inr hop) h
  | pick c a b => exact s_pick hcx hop h
  | alloc t => exact s_alloc hop h
  | box t x => exact s_box hcx hop h
  | build t ps => exact s_build hcx hop h
  | buildSlice t n ps => exact s_buildSlice hcx hop h
  | load t x => exact s_load hcx hop h
  | store t a x => exact s_store hcx hop h
  | nilCheck x => exact s_nilCheck hcx hop h
  | makeFunc f xs ys => exact s_makeFunc hcx hop h
  | slice t x lo hi mx => exact s_slice hcx hop h
  | fieldAddr s x f => exact s_fieldAddr hcx hop h
  | field s x f => exact s_field hcx hop h
  | indexAddr t x i => exact s_indexAddr hcx hop h
  | index t x i => exact s_index hcx hop h
  | extract x i => exact s_extract hcx hop h
  | binOp b t x y t' => exact s_div hcx hop h
  | call c => exact s_call hcx hop h
  | _ => simp [native, hop] at h

theorem allPlain_mem {p : Operand → Option AV} : ∀ {xs : List Operand}, allPlain p xs = true → ∀ x ∈ xs, ∃ v, plainOf p x = some v
  | [], _, x, hx => by cases hx
  | y :: ys, h, x, hx => by
    simp only [allPlain] at h
    split at h
    · rename_i v hv
      rcases List.mem_cons.1 hx with rfl | hx
      · exact ⟨v, hv⟩
      · exact allPlain_mem h x hx
    · simp at h

theorem byCalm_sound {P : Program} {w : World} {A : Nat → Prop} {r : Rr} {loc : Nat → Option Blk} {p : Operand → Option AV} {ev : Operand → Value} {nx : Nat} {o : Oper} {res : Res}
    (hcx : Cx w A r loc p ev) (h : byCalm P p o = some (true, res)) : Does P w A r loc nx (execOp ev o) res := by
  unfold byCalm at h
  split at h
  · rename_i hc
    simp only [Bool.and_eq_true] at hc
    split at h
    · rename_i v hv
      cases hx : ofV v with
      | none => simp [hx] at h
      | some x =>
        simp [hx] at h; subst h
        have hns : ∀ cs b, o.op ≠ .select cs b := fun cs b e => by simp [e, notSelect] at hc
        have hcong : execOp ev o = execOp (rhoOf p) o := execOp_congr o hns fun x hx => by
          obtain ⟨u, hu⟩ := allPlain_mem hc.2 x (by simpa using hx)
          have hu' := hu
          unfold plainOf at hu'
          split at hu'
          · rename_i z hz
            rw [plainV_eq hu' (hcx.val _ _ hz)]
            simp [rhoOf, hu]
          · simp at hu'
        exact ⟨v, by rw [hcong]; exact calm_run P _ _ hv w, ofV_rel hx⟩
    · simp at h
  · simp at h

theorem opRes_sound {P : Program} {w : World} {A : Nat → Prop} {r : Rr} {loc : Nat → Option Blk} {p : Operand → Option AV} {ev : Operand → Value} {nx : Nat} {o : Oper} {res : Res}
    (hcx : Cx w A r loc p ev) (h : opRes P p loc nx o = some (true, res)) : Does P w A r loc nx (execOp ev o) res := by
  unfold opRes at h
  split at h
  · rename_i rr hr
    injection h with h; subst h
    exact native_sound hcx hr
  · exact byCalm_sound hcx h

end Go.Proofs.Ytkajafmphemedaa.Ev
/-! EvF -/
namespace Go.Proofs.Ytkajafmphemedaa.Ev
open Go.RowKit

/-- No pointer to an object of the frame (a one-cell value). -/
def noL0 : AV → Bool
  | .lptr .. => false
  | .lsl .. => false
  | .yv => false
  | .fn _ xs ys => xs.isEmpty && ys.isEmpty
  | .agg _ => false
  | .tup _ => false
  | _ => true

def noL : AV → Bool
  | .fn _ xs ys => xs.all noL0 && ys.all noL0
  | .agg cs => cs.all noL0
  | .tup cs => cs.all noL0
  | x => noL0 x

/-- The objects that a value names. -/
def ids0 : AV → List Nat
  | .lptr j .. => [j]
  | .lsl j .. => [j]
  | _ => []

def idsL : List AV → List Nat
  | [] => []
  | x :: xs => ids0 x ++ idsL xs

def ids : AV → List Nat
  | .fn _ xs ys => idsL xs ++ idsL ys
  | .agg cs => idsL cs
  | .tup cs => idsL cs
  | x => ids0 x

def idsAll : List AV → List Nat
  | [] => []
  | x :: xs => ids x ++ idsAll xs

def tagOf : AV → CK
  | .int k _ => .int k
  | .bool _ => .bool
  | .str _ => .str
  | _ => .any

def ckEq : CK → CK → Bool
  | .int a, .int b => decide (a = b)
  | .bool, .bool => true
  | .str, .str => true
  | .any, .any => true
  | _, _ => false

/-- The kinds of the columns of some rows. -/
def tagsOf (wd : Nat) (cs : List AV) : List CK :=
  let t := (cs.take wd).map tagOf
  match cs.zipIdx.all fun p => ckEq (ckAt t (p.2 % wd)) (tagOf p.1) with
  | true => t
  | false => []

theorem conf_tagOf (x : AV) : conf (tagOf x) x = x := by cases x <;> rfl

theorem ckEq_eq {a b : CK} (h : ckEq a b = true) : a = b := by
  cases a <;> cases b <;> simp_all [ckEq]

theorem mapTag_conf : ∀ {cs : List AV} {k : Nat} {x : AV}, cs[k]? = some x → conf (ckAt (cs.map tagOf) k) x = x
  | [], k, x, h => by simp at h
  | y :: cs, 0, x, h => by simp at h; subst h; exact conf_tagOf _
  | y :: cs, k + 1, x, h => by simp only [List.map_cons, ckAt]; exact mapTag_conf (by simpa using h)

theorem tagsOf_conf {wd : Nat} {cs : List AV} (j : Nat) (x : AV) (h : cs[j]? = some x) : conf (ckAt (tagsOf wd cs) (j % wd)) x = x := by
  unfold tagsOf
  simp only
  split
  · rename_i hall
    have := List.all_eq_true.1 hall (x, j) (by rw [List.mem_zipIdx_iff_getElem?]; exact h)
    simp only at this
    rw [ckEq_eq this]; exact conf_tagOf x
  · rfl

/-- A pointer into an object of the frame as one into memory that came in: what it holds now. -/
def exp0 (loc : Nat → Option Blk) : AV → Option AV
  | .lptr j wd row col => match loc j with
    | some (.flat _ cs) => if cs.all noL0 = true then some (.xptr cs.length 1 ⟨cs.map tagOf, fun _ k => (cs[k]?).getD .top⟩ 0 (row * wd + col)) else none
    | none => none
  | .lsl j wd row col len cap => match loc j with
    | some (.flat _ cs) => if cs.all noL0 = true ∧ (row + len) * wd + col ≤ cs.length ∧ col = 0 then some (.xsl wd (row + len) ⟨tagsOf wd cs, fun i k => (cs[i * wd + k]?).getD .top⟩ row len cap) else none
    | none => none
  | x => match noL0 x with
    | true => some x
    | false => none

def expL (loc : Nat → Option Blk) : List AV → Option (List AV)
  | [] => some []
  | x :: xs => match exp0 loc x with
    | some y => match expL loc xs with
      | some ys => some (y :: ys)
      | none => none
    | none => none

def expA (loc : Nat → Option Blk) : AV → Option AV
  | .fn f xs ys => match expL loc xs, expL loc ys with
    | some us, some vs => some (.fn f us vs)
    | _, _ => none
  | .agg cs => match expL loc cs with
    | some us => some (.agg us)
    | none => none
  | .tup cs => match expL loc cs with
    | some us => some (.tup us)
    | none => none
  | x => exp0 loc x

def expAll (loc : Nat → Option Blk) : List AV → Option (List AV)
  | [] => some []
  | x :: xs => match expA loc x with
    | some y => match expAll loc xs with
      | some ys => some (y :: ys)
      | none => none
    | none => none

/-- A result: the elements of a tuple one by one. -/
def expT (loc : Nat → Option Blk) : AV → Option AV
  | .tup vs => match expAll loc vs with
    | some xs => some (.tup xs)
    | none => none
  | x => expA loc x

/-- Results without any pointer. -/
def plainR : AV → Bool
  | .tup cs => cs.all fun x => (plainV x).isSome
  | x => (plainV x).isSome

/-- The arguments of a call: (were objects of the frame exported, the arguments). -/
def callArgs (loc : Nat → Option Blk) (args : List AV) : Option (Bool × List AV) :=
  match args.all noL with
  | true => some (false, args)
  | false => match expAll loc args with
    | some xs => some (true, xs)
    | none => none

/-- The fence of all functions; in a round of a range over a function: `some l`. -/
def WF (ro : Option Nat) : Fence := { Fence.wide with round := ro }

/-- A pure contract: whatever the memory, the call returns what the abstract value says, and turns nothing that was there. -/
def PC (P : Program) (f : FuncId) (args : List AV) (x : AV) : Prop :=
  ∀ (ro : Option Nat) (n : Nat) (A : Nat → Prop) (w : World) (us : Array Value), (∀ b, A b → b < w.heap.size) → VRs w A noR args us →
    CallsIn (WF ro) n P f us w fun e w' => ∃ v, e = .returned v ∧ VR w' A noR x v ∧ Below w.heap.size w w'

section
variable {w : World} {A A' : Nat → Prop} {r r' : Rr}

theorem VR.weaken0 {x : AV} {v : Value} (hx : noL0 x = true) (h : VR w A r x v) (hA : ∀ b, A' b → A b) : VR w A' r' x v := by
  cases h with
  | top => exact .top
  | int => exact .int
  | bool => exact .bool
  | str => exact .str
  | nilptr => exact .nilptr
  | lptr h ho => simp [noL0] at hx
  | xptr u hb hn hc hv ho hrow => exact .xptr u hb (fun h => hn (hA _ h)) hc (fun i k hi hk => (hv i k hi hk).mono ⟨Nat.le_refl _, fun _ _ _ => rfl, fun b h => .inl (hA b h)⟩ (fun _ _ h => h)) ho hrow
  | nilsl => exact .nilsl
  | lsl h ho hl hcap => simp [noL0] at hx
  | xsl b o u hl hcap hn ha hc hv =>
    exact .xsl b o u hl hcap hn (fun h0 => ⟨(ha h0).1, (ha h0).2.1, fun h => (ha h0).2.2 (hA _ h)⟩) hc (fun h0 i k hi hk => (hv h0 i k hi hk).mono ⟨Nat.le_refl _, fun _ _ _ => rfl, fun b h => .inl (hA b h)⟩ (fun _ _ h => h))
  | fn hx1 hy h1 h2 =>
    simp [noL0] at hx
    obtain ⟨e1, e2⟩ := hx
    subst e1; subst e2
    exact .fn hx1 hy (fun i x u hxx _ => by simp at hxx) (fun i x u hxx _ => by simp at hxx)
  | nilfn => exact .nilfn
  | yv h => simp [noL0] at hx
  | nilif => exact .nilif
  | agg hx1 h1 => simp [noL0] at hx
  | tup hx1 h1 => simp [noL0] at hx

theorem VRs.weaken0 {xs : List AV} {us : Array Value} (hx : xs.all noL0 = true) (h : VRs w A r xs us) (hA : ∀ b, A' b → A b) : VRs w A' r' xs us :=
  ⟨h.1, fun i x u hi hu => (h.2 i x u hi hu).weaken0 (List.all_eq_true.1 hx x (List.mem_of_getElem? hi)) hA⟩

theorem VR.weaken {x : AV} {v : Value} (hx : noL x = true) (h : VR w A r x v) (hA : ∀ b, A' b → A b) : VR w A' r' x v := by
  cases h with
  | fn hx1 hy h1 h2 =>
    simp only [noL, Bool.and_eq_true] at hx
    have k1 := VRs.weaken0 (A' := A') (r' := r') hx.1 ⟨hx1, h1⟩ hA
    have k2 := VRs.weaken0 (A' := A') (r' := r') hx.2 ⟨hy, h2⟩ hA
    exact .fn k1.1 k2.1 k1.2 k2.2
  | agg hx1 h1 => have k1 := VRs.weaken0 (A' := A') (r' := r') (by simpa [noL] using hx) ⟨hx1, h1⟩ hA; exact .agg k1.1 k1.2
  | tup hx1 h1 => have k1 := VRs.weaken0 (A' := A') (r' := r') (by simpa [noL] using hx) ⟨hx1, h1⟩ hA; exact .tup k1.1 k1.2
  | top => exact .top
  | int => exact .int
  | bool => exact .bool
  | str => exact .str
  | nilptr => exact .nilptr
  | lptr h ho => simp [noL, noL0] at hx
  | xptr u hb hn hc hv ho hrow => exact (VR.xptr u hb hn hc hv ho hrow : VR w A r _ _).weaken0 rfl hA
  | nilsl => exact .nilsl
  | lsl h ho hl hcap => simp [noL, noL0] at hx
  | xsl b o u hl hcap hn ha hc hv => exact (VR.xsl b o u hl hcap hn ha hc hv : VR w A r _ _).weaken0 rfl hA
  | nilfn => exact .nilfn
  | yv h => simp [noL, noL0] at hx
  | nilif => exact .nilif

theorem VRs.weaken {xs : List AV} {us : Array Value} (hx : xs.all noL = true) (h : VRs w A r xs us) (hA : ∀ b, A' b → A b) : VRs w A' r' xs us :=
  ⟨h.1, fun i x u hi hu => (h.2 i x u hi hu).weaken (List.all_eq_true.1 hx x (List.mem_of_getElem? hi)) hA⟩

def noA : Nat → Prop := fun _ => False

theorem cells_top {cs : List AV} {us : Array Value} {t : TypeId} {b : Nat} (hb : w.heap[b]? = some (.cells us t (0, 0))) (hc : VRs w A r cs us) (hn : cs.all noL0 = true) (hA : ∀ b, A' b → A b) (k : Nat) (hk : k < cs.length) :
    ∃ u, w.cell? ⟨b, k, none⟩ = some u ∧ VR w A' noR ((cs[k]?).getD .top) u := by
  have hk' : k < us.size := by rw [← hc.1]; exact hk
  refine ⟨us[k], by simp [World.cell?, hb, hk'], ?_⟩
  rw [List.getElem?_eq_getElem hk]
  exact (hc.2 k cs[k] us[k] (List.getElem?_eq_getElem hk) (Array.getElem?_eq_getElem hk')).weaken0 (List.all_eq_true.1 hn _ (List.getElem_mem hk)) hA

theorem exp0_rel {loc : Nat → Option Blk} (hm : ∀ j k, loc j = some k → ∃ b, r j = some b ∧ BlkR w A r k b) (hA : ∀ b, A' b → A b) (hr' : ∀ (j b : Nat), r j = some b → ¬ A' b) {x y : AV} {v : Value} (h : exp0 loc x = some y) (k : VR w A r x v) : VR w A' noR y v := by
  cases k with
  | lptr hj ho =>
    rename_i j wd row col b off
    simp only [exp0] at h
    split at h
    · rename_i t cs hl
      split at h
      · rename_i hn
        injection h with h; subst h
        obtain ⟨b', hb', us, hh, hc⟩ := hm _ _ hl
        have : b' = b := by rw [hj] at hb'; injection hb' with hb'; exact hb'.symm
        subst this
        have hsize : b' < w.heap.size := (Array.getElem?_eq_some_iff.1 hh).1
        refine .xptr (o := 0) (fun _ k => us.getD k undef) hsize (hr' _ _ hj) (fun i k hi hk => ?_) (fun i k hi hk => ?_) (by subst ho; omega) (by omega)
        · obtain ⟨u, hu, _⟩ := cells_top hh hc hn hA k hk
          have : i = 0 := by omega
          subst this
          simp only [Nat.zero_mul, Nat.zero_add]
          rw [hu]
          have hk' : k < us.size := by rw [← hc.1]; exact hk
          simp [World.cell?, hh, hk'] at hu
          simp [Array.getD_eq_getD_getElem?, hk', hu]
        · obtain ⟨u, hu, hv⟩ := cells_top hh hc hn hA k hk
          have hk' : k < us.size := by rw [← hc.1]; exact hk
          simp [World.cell?, hh, hk'] at hu
          simp only [Array.getD_eq_getD_getElem?, Array.getElem?_eq_getElem hk', Option.getD_some, hu]
          have e : (⟨cs.map tagOf, fun _ k => (cs[k]?).getD .top⟩ : Get AV).cell i k = (cs[k]?).getD .top := by
            simp only [Get.cell, List.getElem?_eq_getElem hk, Option.getD_some]
            exact mapTag_conf (List.getElem?_eq_getElem hk)
          rw [e]; exact hv
      · simp at h
    · simp at h
  | lsl hj ho hl hcap =>
    rename_i j wd row col b off len c cap
    simp only [exp0] at h
    split at h
    · rename_i t cs hlc
      split at h
      · rename_i hn
        obtain ⟨hn1, hn2, hn3⟩ := hn
        injection h with h; subst h
        subst hn3
        obtain ⟨b', hb', us, hh, hc⟩ := hm _ _ hlc
        have : b' = b := by rw [hj] at hb'; injection hb' with hb'; exact hb'.symm
        subst this
        have hsize : b' < w.heap.size := (Array.getElem?_eq_some_iff.1 hh).1
        have hin : ∀ i k, i < row + len → k < wd → i * wd + k < cs.length := fun i k hi hk => by
          have : (i + 1) * wd ≤ (row + len) * wd := Nat.mul_le_mul_right _ hi
          rw [Nat.succ_mul] at this
          omega
        refine .xsl b' 0 (fun i k => us.getD (i * wd + k) undef) hl hcap (Nat.le_refl _) (fun _ => ⟨by subst ho; simp, hsize, hr' _ _ hj⟩) (fun _ i k hi hk => ?_) (fun _ i k hi hk => ?_)
        · have hk' : i * wd + k < us.size := by rw [← hc.1]; exact hin i k hi hk
          simp [World.cell?, hh, hk', Array.getD_eq_getD_getElem?]
        · obtain ⟨u, hu, hv⟩ := cells_top hh hc hn1 hA _ (hin i k hi hk)
          have hk' : i * wd + k < us.size := by rw [← hc.1]; exact hin i k hi hk
          simp [World.cell?, hh, hk'] at hu
          simp only [Array.getD_eq_getD_getElem?, Array.getElem?_eq_getElem hk', Option.getD_some, hu]
          have e : (⟨tagsOf wd cs, fun i k => (cs[i * wd + k]?).getD .top⟩ : Get AV).cell i k = (cs[i * wd + k]?).getD .top := by
            have h0 := List.getElem?_eq_getElem (hin i k hi hk)
            have h1 := tagsOf_conf (wd := wd) _ _ h0
            rw [Nat.mul_add_mod_of_lt hk] at h1
            simp only [Get.cell, h0, Option.getD_some]
            exact h1
          rw [e]; exact hv
      · simp at h
    · simp at h
  | top => simp [exp0, noL0] at h; subst h; exact .top
  | int => simp [exp0, noL0] at h; subst h; exact .int
  | bool => simp [exp0, noL0] at h; subst h; exact .bool
  | str => simp [exp0, noL0] at h; subst h; exact .str
  | nilptr => simp [exp0, noL0] at h; subst h; exact .nilptr
  | xptr u a1 a2 a3 a4 a5 a6 => simp [exp0, noL0] at h; subst h; exact (VR.xptr u a1 a2 a3 a4 a5 a6 : VR w A r _ _).weaken0 rfl hA
  | nilsl => simp [exp0, noL0] at h; subst h; exact .nilsl
  | xsl b o u a1 a2 a3 a4 a5 a6 => simp [exp0, noL0] at h; subst h; exact (VR.xsl b o u a1 a2 a3 a4 a5 a6 : VR w A r _ _).weaken0 rfl hA
  | fn a1 a2 a3 a4 =>
    simp only [exp0] at h
    split at h
    · rename_i hn; injection h with h; subst h; exact (VR.fn a1 a2 a3 a4 : VR w A r _ _).weaken0 hn hA
    · simp at h
  | nilfn => simp [exp0, noL0] at h; subst h; exact .nilfn
  | yv hh => simp [exp0, noL0] at h
  | nilif => simp [exp0, noL0] at h; subst h; exact .nilif
  | agg a1 a2 => simp [exp0, noL0] at h
  | tup a1 a2 => simp [exp0, noL0] at h

theorem expL_rel {loc : Nat → Option Blk} (hm : ∀ j k, loc j = some k → ∃ b, r j = some b ∧ BlkR w A r k b) (hA : ∀ b, A' b → A b) (hr' : ∀ (j b : Nat), r j = some b → ¬ A' b) : ∀ {xs ys : List AV}, expL loc xs = some ys → ys.length = xs.length ∧ ∀ (i : Nat) x y v, xs[i]? = some x → ys[i]? = some y → VR w A r x v → VR w A' noR y v
  | [], ys, h => by simp [expL] at h; subst h; exact ⟨rfl, fun i x y v hx => by simp at hx⟩
  | x :: xs, ys, h => by
    simp only [expL] at h
    split at h
    · rename_i y hy
      split at h
      · rename_i ys' hys
        injection h with h; subst h
        obtain ⟨hl, hr⟩ := expL_rel hm hA hr' hys
        refine ⟨by simp [hl], fun i a b v ha hb hv => ?_⟩
        cases i with
        | zero => simp at ha hb; subst ha; subst hb; exact exp0_rel hm hA hr' hy hv
        | succ i => exact hr i a b v (by simpa using ha) (by simpa using hb) hv
      · simp at h
    · simp at h

theorem expLs_rel {loc : Nat → Option Blk} (hm : ∀ j k, loc j = some k → ∃ b, r j = some b ∧ BlkR w A r k b) (hA : ∀ b, A' b → A b) (hr' : ∀ (j b : Nat), r j = some b → ¬ A' b) {xs ys : List AV} {us : Array Value} (h : expL loc xs = some ys) (k : VRs w A r xs us) : VRs w A' noR ys us := by
  obtain ⟨hl, hr⟩ := expL_rel hm hA hr' h
  refine ⟨by rw [hl]; exact k.1, fun i y u hy hu => ?_⟩
  have hi : i < xs.length := by rw [← hl]; exact (List.getElem?_eq_some_iff.1 hy).1
  exact hr i xs[i] y u (List.getElem?_eq_getElem hi) hy (k.2 i xs[i] u (List.getElem?_eq_getElem hi) hu)

theorem expA_rel {loc : Nat → Option Blk} (hm : ∀ j k, loc j = some k → ∃ b, r j = some b ∧ BlkR w A r k b) (hA : ∀ b, A' b → A b) (hr' : ∀ (j b : Nat), r j = some b → ¬ A' b) {x y : AV} {v : Value} (h : expA loc x = some y) (k : VR w A r x v) : VR w A' noR y v := by
  cases x with
  | fn f xs ys =>
    simp only [expA] at h
    split at h
    · rename_i us vs hu hv
      injection h with h; subst h
      cases k with
      | fn a1 a2 a3 a4 =>
        have k1 := expLs_rel hm hA hr' hu ⟨a1, a3⟩
        have k2 := expLs_rel hm hA hr' hv ⟨a2, a4⟩
        exact .fn k1.1 k2.1 k1.2 k2.2
    · simp at h
  | agg cs =>
    simp only [expA] at h
    split at h
    · rename_i us hu
      injection h with h; subst h
      cases k with
      | agg a1 a2 => have k1 := expLs_rel hm hA hr' hu ⟨a1, a2⟩; exact .agg k1.1 k1.2
    · simp at h
  | tup cs =>
    simp only [expA] at h
    split at h
    · rename_i us hu
      injection h with h; subst h
      cases k with
      | tup a1 a2 => have k1 := expLs_rel hm hA hr' hu ⟨a1, a2⟩; exact .tup k1.1 k1.2
    · simp at h
  | _ => simp only [expA] at h; exact exp0_rel hm hA hr' h k

theorem expAll_rel {loc : Nat → Option Blk} (hm : ∀ j k, loc j = some k → ∃ b, r j = some b ∧ BlkR w A r k b) (hA : ∀ b, A' b → A b) (hr' : ∀ (j b : Nat), r j = some b → ¬ A' b) : ∀ {xs ys : List AV}, expAll loc xs = some ys → ys.length = xs.length ∧ ∀ (i : Nat) x y v, xs[i]? = some x → ys[i]? = some y → VR w A r x v → VR w A' noR y v
  | [], ys, h => by simp [expAll] at h; subst h; exact ⟨rfl, fun i x y v hx => by simp at hx⟩
  | x :: xs, ys, h => by
    simp only [expAll] at h
    split at h
    · rename_i y hy
      split at h
      · rename_i ys' hys
        injection h with h; subst h
        obtain ⟨hl, hr⟩ := expAll_rel hm hA hr' hys
        refine ⟨by simp [hl], fun i a b v ha hb hv => ?_⟩
        cases i with
        | zero => simp at ha hb; subst ha; subst hb; exact expA_rel hm hA hr' hy hv
        | succ i => exact hr i a b v (by simpa using ha) (by simpa using hb) hv
      · simp at h
    · simp at h

theorem expAlls_rel {loc : Nat → Option Blk} (hm : ∀ j k, loc j = some k → ∃ b, r j = some b ∧ BlkR w A r k b) (hA : ∀ b, A' b → A b) (hr' : ∀ (j b : Nat), r j = some b → ¬ A' b) {xs ys : List AV} {us : Array Value} (h : expAll loc xs = some ys) (k : VRs w A r xs us) : VRs w A' noR ys us := by
  obtain ⟨hl, hr⟩ := expAll_rel hm hA hr' h
  refine ⟨by rw [hl]; exact k.1, fun i y u hy hu => ?_⟩
  have hi : i < xs.length := by rw [← hl]; exact (List.getElem?_eq_some_iff.1 hy).1
  exact hr i xs[i] y u (List.getElem?_eq_getElem hi) hy (k.2 i xs[i] u (List.getElem?_eq_getElem hi) hu)

theorem expT_rel {loc : Nat → Option Blk} (hm : ∀ j k, loc j = some k → ∃ b, r j = some b ∧ BlkR w A r k b) (hA : ∀ b, A' b → A b) (hr' : ∀ (j b : Nat), r j = some b → ¬ A' b) {x y : AV} {v : Value} (h : expT loc x = some y) (k : VR w A r x v) : VR w A' noR y v := by
  cases x with
  | tup cs =>
    simp only [expT] at h
    split at h
    · rename_i us hu
      injection h with h; subst h
      cases k with
      | tup a1 a2 => have k1 := expAlls_rel hm hA hr' hu ⟨a1, a2⟩; exact .tup k1.1 k1.2
    · simp at h
  | _ => simp only [expT] at h; exact expA_rel hm hA hr' h k

theorem plain_any {w' : World} {x : AV} {v : Value} (hx : (plainV x).isSome = true) (h : VR w A r x v) : VR w' A' r' x v := by
  cases h with
  | agg a1 a2 =>
    rename_i xs us
    simp only [plainV] at hx
    split at hx
    · rename_i vs hs
      refine .agg a1 (fun i x u hi hu => ?_)
      obtain ⟨z, hz, hsc⟩ := scals_get hs i x hi
      have := a2 i x u hi hu
      cases this <;> simp [scal] at hsc <;> first | exact .int | exact .bool | exact .str | exact .nilptr | exact .nilfn | exact .nilif
    · simp at hx
  | int => exact .int
  | bool => exact .bool
  | str => exact .str
  | nilptr => exact .nilptr
  | nilfn => exact .nilfn
  | nilif => exact .nilif
  | _ => simp [plainV, scal] at hx

theorem plainR_any {w' : World} {x : AV} {v : Value} (hx : plainR x = true) (h : VR w A r x v) : VR w' A' r' x v := by
  cases h with
  | tup a1 a2 =>
    simp only [plainR] at hx
    exact .tup a1 (fun i x u hi hu => plain_any (List.all_eq_true.1 hx x (List.mem_of_getElem? hi)) (a2 i x u hi hu))
  | top => simp [plainR, plainV, scal] at hx
  | int => exact .int
  | bool => exact .bool
  | str => exact .str
  | nilptr => exact .nilptr
  | nilfn => exact .nilfn
  | nilif => exact .nilif
  | agg a1 a2 => exact plain_any (A' := A') (r' := r') (w' := w') (x := .agg _) (by simpa [plainR] using hx) (VR.agg a1 a2 : VR w A r _ _)
  | _ => simp [plainR, plainV, scal] at hx

end

end Go.Proofs.Ytkajafmphemedaa.Ev
/-! EvG -/
namespace Go.Proofs.Ytkajafmphemedaa.Ev
open Go.RowKit

def putD (env : List AV) (d : Option Nat) (v : AV) : List AV := match d with
  | some d => env.set d v
  | none => env

/-- Is the operation wanted? -/
def wantD (ops : Array Oper) (env : List AV) (o : Oper) : Option Bool := match o.guard with
  | none => some true
  | some (j, want) => match ops[j]? with
    | some oj => match oj.dst with
      | some d => match env[d]? with
        | some (.bool b) => some (b == want)
        | some (.tup []) => some false
        | _ => none
      | none => none
    | none => none

/-- What an operation does to the frame. -/
structure Eff where
  dst : Option Nat
  v : AV
  mem : Option (Nat × Blk)

def effR (cl : FuncId → List AV → Option AV) (loc : Nat → Option Blk) (nx : Nat) (o : Oper) : Res → Option Eff
  | .val v => some ⟨o.dst, v, none⟩
  | .alloc b v => some ⟨o.dst, v, some (nx, b)⟩
  | .store j b => some ⟨o.dst, .tup [], some (j, b)⟩
  | .call f args => match callArgs loc args with
    | some (ex, args') => match cl f args' with
      | some v => match ex && !plainR v with
        | true => none
        | false => some ⟨o.dst, v, none⟩
      | none => none
    | none => none

def effOf (P : Program) (cl : FuncId → List AV → Option AV) (ops : Array Oper) (env : List AV) (loc : Nat → Option Blk) (nx : Nat) (o : Oper) : Option Eff :=
  match wantD ops env o with
  | some true => match opRes P (evO env) loc nx o with
    | some (true, res) => effR cl loc nx o res
    | _ => none
  | some false => some ⟨o.dst, .tup [], none⟩
  | none => none

def locE (e : Eff) (l : Nat → Option Blk) : Nat → Option Blk := match e.mem with
  | some (j, b) => fun k => if k = j then some b else l k
  | none => l

def own (r : Rr) (ds : List Nat) : Nat → Prop := fun b => (∃ j : Nat, r j = some b) ∨ b ∈ ds

def AR (A0 : Nat → Prop) (r : Rr) (ds : List Nat) : Nat → Prop := fun b => A0 b ∨ own r ds b

/-- What must hold of the world around a frame: of the blocks that others may turn, of the frame's own ones, of the world. -/
abbrev Fx := (Nat → Prop) → (Nat → Prop) → World → Prop

/-- The world has grown; of what was there only blocks of O have turned. -/
structure Turn (O : Nat → Prop) (w w' : World) : Prop where
  os : w'.os = w.os
  tape : w'.tape = w.tape
  output : w'.output = w.output
  size : w.heap.size ≤ w'.heap.size
  block : ∀ b, b < w.heap.size → ¬ O b → w'.heap[b]? = w.heap[b]?

theorem Turn.below {O : Nat → Prop} {w w' : World} (h : Below w.heap.size w w') : Turn O w w' := ⟨h.os, h.tape, h.output, h.size, fun b hb _ => h.block b hb⟩


/-- How the evaluator's frame stands to the model's. -/
structure FR (X : Fx) (yl : Option Nat) (A0 : Nat → Prop) (sav : List AV) (sv : Array Value) (env : List AV) (loc : Nat → Option Blk) (r : Rr) (ds : List Nat) (a : Act) (w : World) : Prop where
  env : VRs w (AR A0 r ds) r env a.tmps
  sav : VRs w (AR A0 r ds) r sav sv
  mem : ∀ j k, loc j = some k → ∃ b, r j = some b ∧ BlkR w (AR A0 r ds) r k b
  dom : ∀ (j b : Nat), r j = some b → ∃ k, loc j = some k
  inj : ∀ (i j b : Nat), r i = some b → r j = some b → i = j
  dis : ∀ (j b : Nat), r j = some b → ¬ A0 b
  lt : ∀ (j b : Nat), r j = some b → b < w.heap.size
  a0 : ∀ b, A0 b → b < w.heap.size
  inv : X A0 (own r ds) w
  clo : ∀ A0 O O' w w', X A0 O w → Turn O w w' → (∀ b, O' b → O b ∨ w.heap.size ≤ b) → X A0 O' w'
  dfr : a.defers = ds.map fun q => { target := .collected q, args := #[] }
  dnd : ds.Nodup
  dok : ∀ q, q ∈ ds → w.heap[q]? = some (.deferred (some [])) ∧ ¬ A0 q
  ylv : r none = yl

section
variable {P : Program} {cl : FuncId → List AV → Option AV} {X : Fx} {w : World} {A0 : Nat → Prop} {env : List AV} {loc : Nat → Option Blk} {r : Rr} {ds : List Nat} {sav : List AV} {sv : Array Value} {yl : Option Nat} {a : Act}

theorem FR.arLt (h : FR X yl A0 sav sv env loc r ds a w) : ∀ b, AR A0 r ds b → b < w.heap.size := by
  rintro b (hb | ⟨j, hj⟩ | hb)
  · exact h.a0 b hb
  · exact h.lt j b hj
  · exact (Array.getElem?_eq_some_iff.1 (h.dok b hb).1).1

theorem ofConst_rel {A : Nat → Prop} {v : Value} {x : AV} (h : ofConst v = some x) : VR w A r x v := ofV_rel h

theorem FR.eval (h : FR X yl A0 sav sv env loc r ds a w) (x : Operand) (v : AV) (hx : evO env x = some v) : VR w (AR A0 r ds) r v (a.eval x) := by
  cases x with
  | tmp t =>
    simp only [evO] at hx
    obtain ⟨u, hu, hr⟩ := h.env.get hx
    simp only [Act.eval, Array.getD_eq_getD_getElem?, hu, Option.getD_some]
    exact hr
  | const c => exact ofConst_rel hx
  | func f => simp [evO] at hx; subst hx; exact .fn rfl rfl (fun i x u hi => by simp at hi) (fun i x u hi => by simp at hi)
  | global g => simp [evO] at hx

theorem FR.cx (h : FR X yl A0 sav sv env loc r ds a w) : Cx w (AR A0 r ds) r loc (evO env) a.eval := ⟨h.eval, h.mem⟩

theorem VRs.put {A : Nat → Prop} {us : Array Value} {x : AV} {v : Value} (h : VRs w A r env us) (hv : VR w A r x v) (d : Nat) : VRs w A r (env.set d x) (us.setIfInBounds d v) := by
  refine ⟨by simp [h.1], fun i y u hy hu => ?_⟩
  rw [List.getElem?_set] at hy
  rw [Array.getElem?_setIfInBounds] at hu
  split at hy
  · rename_i e
    rw [if_pos e] at hu
    split at hy
    · split at hu
      · injection hy with hy; injection hu with hu; subst hy; subst hu; exact hv
      · simp at hu
    · simp at hy
  · rename_i e
    rw [if_neg e] at hu
    exact h.2 i y u hy hu

theorem VRs.putD {A : Nat → Prop} {x : AV} {v : Value} {a : Act} (h : VRs w A r env a.tmps) (hv : VR w A r x v) (d : Option Nat) : VRs w A r (putD env d x) (a.put d v).tmps := by
  cases d with
  | none => exact h
  | some d => exact VRs.put h hv d

theorem put_defers (a : Act) (d : Option Nat) (v : Value) : (a.put d v).defers = a.defers := by cases d <;> rfl

theorem VRs.putD' {A : Nat → Prop} {x : AV} {v : Value} {us : Array Value} {a : Act} (e : a.tmps = us) (h : VRs w A r env us) (hv : VR w A r x v) (d : Option Nat) : VRs w A r (Ev.putD env d x) (a.put d v).tmps := by
  subst e; exact VRs.putD h hv d

theorem BlkR.keep {w' : World} {A A' : Nat → Prop} {r' : Rr} {k : Blk} {b : Nat} (h : BlkR w A r k b) (hk : Keeps A A' w w') (hr : ∀ (j : Option Nat) (b : Nat), r j = some b → r' j = some b) (hb : w'.heap[b]? = w.heap[b]?) : BlkR w' A' r' k b := by
  cases k with
  | flat t cs =>
    obtain ⟨us, hh, hc⟩ := h
    exact ⟨us, by rw [hb]; exact hh, hc.mono hk hr⟩

/-- A slot is written; the world may have grown. -/
theorem FR.val (h : FR X yl A0 sav sv env loc r ds a w) {w' : World} (hb : Below w.heap.size w w') {x : AV} {v : Value} (hv : VR w' (AR A0 r ds) r x v) (d : Option Nat) : FR X yl A0 sav sv (putD env d x) loc r ds (a.put d v) w' := by
  have hk : Keeps (AR A0 r ds) (AR A0 r ds) w w' := ⟨hb.size, fun b hlt _ => hb.block b hlt, fun b h => .inl h⟩
  refine ⟨VRs.putD (h.env.mono hk (fun _ _ h => h)) hv d, h.sav.mono hk (fun _ _ h => h), fun j k hj => ?_, h.dom, h.inj, h.dis, fun j b hj => Nat.lt_of_lt_of_le (h.lt j b hj) hb.size, fun b hb' => Nat.lt_of_lt_of_le (h.a0 b hb') hb.size, h.clo _ _ _ _ _ h.inv (.below hb) (fun _ h => .inl h), h.clo, by rw [put_defers]; exact h.dfr, h.dnd, fun q hq => ⟨by rw [hb.block q (Array.getElem?_eq_some_iff.1 (h.dok q hq).1).1]; exact (h.dok q hq).1, (h.dok q hq).2⟩, by simpa using h.ylv⟩
  obtain ⟨b, hb', hbr⟩ := h.mem j k hj
  exact ⟨b, hb', hbr.keep hk (fun _ _ h => h) (hb.block b (h.lt j b hb'))⟩

theorem FR.alloc (h : FR X yl A0 sav sv env loc r ds a w) {nx : Nat} (hnx : loc nx = none) {t : TypeId} {cs : List AV} {us : Array Value} {x : AV} {v : Value} (hc : VRs w (AR A0 r ds) r cs us)
    (hv : ∀ (w' : World) (A' : Nat → Prop) (r' : Rr), r' nx = some w.heap.size → VR w' A' r' x v) (d : Option Nat) :
    ∃ r', FR X yl A0 sav sv (putD env d x) (locE ⟨d, x, some (nx, .flat t cs)⟩ loc) r' ds (a.put d v) (w.alloc (.cells us t)) := by
  have hrnx : r nx = none := by
    cases hr : r nx with
    | none => rfl
    | some b => obtain ⟨k, hk⟩ := h.dom nx b hr; rw [hnx] at hk; cases hk
  let r' : Rr := fun j => if j = some nx then some w.heap.size else r j
  have hr' : ∀ (j : Option Nat) (b : Nat), r j = some b → r' j = some b := fun j b hj => by
    have : j ≠ some nx := fun e => by subst e; rw [hrnx] at hj; cases hj
    simp [r', this, hj]
  have hk : Keeps (AR A0 r ds) (AR A0 r' ds) w (w.alloc (.cells us t)) := by
    refine ⟨by simp, fun b hlt _ => Below.heap_alloc w _ b hlt, fun b hb => ?_⟩
    rcases hb with hb | ⟨j, hj⟩ | hb
    · exact .inl (.inl hb)
    · by_cases e : j = nx
      · simp [r', e] at hj; right; omega
      · simp [r', e] at hj; exact .inl (.inr (.inl ⟨j, hj⟩))
    · exact .inl (.inr (.inr hb))
  have hinv : ∀ (j b : Nat), r' j = some b → (j = nx ∧ b = w.heap.size) ∨ (j ≠ nx ∧ r j = some b) := fun j b hj => by
    by_cases e : j = nx
    · simp [r', e] at hj; exact .inl ⟨e, hj.symm⟩
    · simp [r', e] at hj; exact .inr ⟨e, hj⟩
  refine ⟨r', VRs.putD (h.env.mono hk hr') (hv _ _ r' (by simp [r'])) d, h.sav.mono hk hr', fun j k hj => ?_, fun j b hj => ?_, fun i j b hi hj => ?_, fun j b hj => ?_, fun j b hj => ?_, fun b hb => by have := h.a0 b hb; simp; omega, h.clo _ _ _ _ _ h.inv (.below ((Below.refl _ w).alloc (Nat.le_refl _) _)) (fun b hb => ?_), h.clo, by rw [put_defers]; exact h.dfr, h.dnd, fun q hq => ⟨by rw [Below.heap_alloc w _ q (Array.getElem?_eq_some_iff.1 (h.dok q hq).1).1]; exact (h.dok q hq).1, (h.dok q hq).2⟩, by simpa [r'] using h.ylv⟩
  · simp only [locE] at hj
    split at hj
    · rename_i e
      injection hj with hj; subst hj; subst e
      exact ⟨w.heap.size, by simp [r'], us, by show (w.heap.push _)[w.heap.size]? = _; simp, hc.mono hk hr'⟩
    · rename_i e
      obtain ⟨b, hb, hbr⟩ := h.mem j k hj
      exact ⟨b, hr' j b hb, hbr.keep hk hr' (Below.heap_alloc w _ b (h.lt j b hb))⟩
  · simp only [locE]
    rcases hinv j b hj with ⟨e, _⟩ | ⟨e, hj'⟩
    · simp [e]
    · simp only [e, if_false]; exact h.dom j b hj'
  · rcases hinv i b hi with ⟨e1, e2⟩ | ⟨e1, hi'⟩ <;> rcases hinv j b hj with ⟨e3, e4⟩ | ⟨e3, hj'⟩
    · rw [e1, e3]
    · have := h.lt j b hj'; omega
    · have := h.lt i b hi'; omega
    · exact h.inj i j b hi' hj'
  · rcases hinv j b hj with ⟨_, e⟩ | ⟨_, hj'⟩
    · rw [e]; exact fun hA => by have := h.a0 _ hA; omega
    · exact h.dis j b hj'
  · simp only [World.size_alloc]
    rcases hinv j b hj with ⟨_, e⟩ | ⟨_, hj'⟩
    · omega
    · have := h.lt j b hj'; omega
  · rcases hb with ⟨j, hj⟩ | hb
    · rcases hinv j b hj with ⟨_, e⟩ | ⟨_, hj'⟩
      · right; omega
      · exact .inl (.inl ⟨j, hj'⟩)
    · exact .inl (.inr hb)

theorem heap_setRow_same {b : Nat} {cur us : Array Value} {t : TypeId} (hh : w.heap[b]? = some (.cells cur t (0, 0))) : (w.setRow b us).heap[b]? = some (.cells us t (0, 0)) := setRow_heap w b cur us t (0, 0) hh

theorem FR.store (h : FR X yl A0 sav sv env loc r ds a w) {j b : Nat} {t : TypeId} {cs : List AV} {cur us : Array Value} {k : Blk} (hj : r j = some b) (hl : loc j = some k) (hh : w.heap[b]? = some (.cells cur t (0, 0))) (hc : VRs w (AR A0 r ds) r cs us) (d : Option Nat) :
    FR X yl A0 sav sv (putD env d (.tup [])) (locE ⟨d, .tup [], some (j, .flat t cs)⟩ loc) r ds (a.put d undef) (w.setRow b us) := by
  have hk : Keeps (AR A0 r ds) (AR A0 r ds) w (w.setRow b us) := ⟨by simp, fun b' _ hA => setRow_other w b b' us (fun e => hA (by subst e; exact .inr (.inl ⟨j, hj⟩))), fun b h => .inl h⟩
  refine ⟨VRs.putD (h.env.mono hk (fun _ _ h => h)) (.tup rfl (fun i x u hi => by simp at hi)) d, h.sav.mono hk (fun _ _ h => h), fun i k' hi => ?_, fun i b' hi => ?_, h.inj, h.dis, fun i b' hi => by simp; exact h.lt i b' hi, fun b' hb => by simpa using h.a0 b' hb, ?_, h.clo, by rw [put_defers]; exact h.dfr, h.dnd, fun q hq => ⟨by rw [setRow_other w b q us (fun e => by subst e; rw [(h.dok q hq).1] at hh; cases hh)]; exact (h.dok q hq).1, (h.dok q hq).2⟩, by simpa using h.ylv⟩
  · simp only [locE] at hi
    split at hi
    · rename_i e
      injection hi with hi; subst hi; subst e
      exact ⟨b, hj, us, heap_setRow_same hh, hc.mono hk (fun _ _ h => h)⟩
    · rename_i e
      obtain ⟨b', hb', hbr⟩ := h.mem i k' hi
      exact ⟨b', hb', hbr.keep hk (fun _ _ h => h) (setRow_other w b b' us (fun e' => e (h.inj i j b (by rw [← e']; exact hb') hj)))⟩
  · simp only [locE]
    by_cases e : i = j
    · simp [e]
    · simp only [e, if_false]; exact h.dom i b' hi
  · exact h.clo _ _ _ _ _ h.inv ⟨rfl, rfl, rfl, by simp, fun k _ hO => setRow_other w b k us (fun e => hO (by subst e; exact .inl ⟨j, hj⟩))⟩ (fun _ h => .inl h)

theorem opRes_notDefer {loc : Nat → Option Blk} {p : Operand → Option AV} {nx : Nat} {o : Oper} {x : Bool × Res} (h : opRes P p loc nx o = some x) : ∀ c, o.op ≠ .defer c := by
  intro c e
  simp [opRes, native, e, byCalm, notSelect] at h

theorem wf_fn (ro : Option Nat) (f : FuncId) : (WF ro).fn f := trivial
theorem wf_depth (ro : Option Nat) : (WF ro).depth = none := rfl

theorem callArgs_rel {args args' : List AV} {vs : Array Value} {ex : Bool} (h : FR X yl A0 sav sv env loc r ds a w) (hc : callArgs loc args = some (ex, args')) (hv : VRs w (AR A0 r ds) r args vs) :
    ∃ A', (ex = false → A' = AR A0 r ds) ∧ (∀ b, A' b → b < w.heap.size) ∧ VRs w A' noR args' vs := by
  unfold callArgs at hc
  split at hc
  · rename_i hn
    injection hc with hc; injection hc with h1 h2; subst h1; subst h2
    exact ⟨AR A0 r ds, fun _ => rfl, h.arLt, hv.weaken hn (fun b h => h)⟩
  · split at hc
    · rename_i xs hx
      injection hc with hc; injection hc with h1 h2; subst h1; subst h2
      exact ⟨noA, fun e => by simp at e, fun b hb => hb.elim, expAlls_rel h.mem (fun b hb => hb.elim) (fun j b _ hb => hb.elim) hx hv⟩
    · simp at hc

/-- A wanted operation. -/
theorem op_wp {o : Oper} {nx : Nat} {e : Eff} {res : Res} {ro : Option Nat} {n : Nat} {K : Act → World → Prop} {Q : Exit → Act → World → Prop} (hcl : ∀ f args v, cl f args = some v → PC P f args v)
    (hfr : FR X yl A0 sav sv env loc r ds a w) (hnx : ∀ b v, res = .alloc b v → loc nx = none) (hres : opRes P (evO env) loc nx o = some (true, res)) (he : effR cl loc nx o res = some e)
    (hK : ∀ r' a' w', FR X yl A0 sav sv (putD env e.dst e.v) (locE e loc) r' ds a' w' → K a' w') : o.wpIn (WF ro) n P a w K Q := by
  have hdoes := opRes_sound hfr.cx hres
  refine ⟨fun f _ => trivial, ?_⟩
  rw [Oper.semAt_eq _ _ _ (opRes_notDefer hres)]
  cases res with
  | val x =>
    obtain ⟨v, hrun, hv⟩ := hdoes
    simp only [effR] at he
    injection he with he; subst he
    rw [hrun, Oper.uponIn_value]
    exact hK _ _ _ (hfr.val (Below.refl _ _) hv o.dst)
  | alloc b x =>
    cases b with
    | flat t cs =>
      obtain ⟨us, v, hrun, hc, hv⟩ := hdoes
      simp only [effR] at he
      injection he with he; subst he
      rw [hrun, Oper.uponIn_value]
      obtain ⟨r', h'⟩ := hfr.alloc (hnx _ _ rfl) hc hv o.dst
      exact hK _ _ _ h'
  | store j b =>
    cases b with
    | flat t cs =>
      obtain ⟨b, cur, us, k, hj, hl, hh, hrun, hc⟩ := hdoes
      simp only [effR] at he
      injection he with he; subst he
      rw [hrun, Oper.uponIn_skip]
      exact hK _ _ _ (hfr.store hj hl hh hc o.dst)
  | call f args =>
    obtain ⟨vs, hrun, hvs⟩ := hdoes
    simp only [effR] at he
    split at he
    · rename_i ex args' hca
      split at he
      · rename_i x hx
        split at he
        · simp at he
        · rename_i hpl
          injection he with he; subst he
          rw [hrun, Oper.uponIn_enter]
          refine ⟨fun h => by simp [wf_depth] at h, ?_⟩
          obtain ⟨A', h1, h2, h3⟩ := callArgs_rel hfr hca hvs
          refine (hcl f args' x hx ro (n - 1) A' w vs h2 h3).mono ?_
          rintro e' w' ⟨v, rfl, hv, hb⟩
          refine hK _ _ _ (hfr.val hb ?_ o.dst)
          cases ex with
          | false =>
            rw [h1 rfl] at hv
            exact hv.mono (Keeps.refl _ _) (fun j b h => by simp [noR] at h)
          | true =>
            simp at hpl
            exact plainR_any hpl hv
      · simp at he
    · simp at he

theorem wantD_true {ops : Array Oper} {o : Oper} {b : Bool} (hfr : FR X yl A0 sav sv env loc r ds a w) (h : wantD ops env o = some b) : Region.wanted o (yielded ops a.tmps) = b := by
  unfold wantD at h
  unfold Region.wanted
  split at h
  · rename_i hg
    injection h with h; subst h
    simp [hg]
  · rename_i j want hg
    simp only [hg]
    split at h
    · rename_i oj hoj
      split at h
      · rename_i d hd
        split at h
        · rename_i t ht
          injection h with h; subst h
          obtain ⟨u, hu, hr⟩ := hfr.env.get ht
          cases hr
          simp [yielded, hoj, hd, hu]
        · rename_i ht
          injection h with h; subst h
          obtain ⟨u, hu, hr⟩ := hfr.env.get ht
          cases hr with
          | tup h1 h2 => simp [yielded, hoj, hd, hu]
        · simp at h
      · simp at h
    · simp at h

theorem undef_rel {A : Nat → Prop} : VR w A r (.tup []) undef := .tup rfl (fun i x u hi => by simp at hi)

/-- An operation in its turn, wanted or not. -/
theorem op_step {ops : Array Oper} {o : Oper} {nx : Nat} {e : Eff} {ro : Option Nat} {n : Nat} {K : Act → World → Prop} {Q : Exit → Act → World → Prop} (hcl : ∀ f args v, cl f args = some v → PC P f args v)
    (hfr : FR X yl A0 sav sv env loc r ds a w) (hnx : ∀ c b v, opRes P (evO env) loc nx o = some (c, .alloc b v) → loc nx = none) (he : effOf P cl ops env loc nx o = some e)
    (hK : ∀ r' a' w', FR X yl A0 sav sv (putD env e.dst e.v) (locE e loc) r' ds a' w' → K a' w') :
    if Region.wanted o (yielded ops a.tmps) then o.wpIn (WF ro) n P a w K Q else (∀ f, o.about P w a.eval = some f → (WF ro).fn f) ∧ K (a.put o.dst undef) w := by
  unfold effOf at he
  split at he
  · rename_i hw
    rw [if_pos (wantD_true hfr hw)]
    split at he
    · rename_i res hres
      exact op_wp hcl hfr (fun b v e => hnx true b v (by rw [hres, e])) hres he hK
    · simp at he
  · rename_i hw
    rw [if_neg (by rw [wantD_true hfr hw]; simp)]
    injection he with he; subst he
    exact ⟨fun f _ => trivial, hK _ _ _ (hfr.val (Below.refl _ _) undef_rel o.dst)⟩
  · simp at he

end

end Go.Proofs.Ytkajafmphemedaa.Ev
