/- Parts of the proof, one behind the other: EvV, K0, KD, KR, KR2, KR3, KS, KA, KB, KC. No conditions. -/
import Derived.Test.YtjbhooodjmjdkaaGreatProg
import Derived.KernelRfl
import Derived.Test.YtjbhooodjmjdkaaGreatRe5
/-! EvV -/
namespace Go.Proofs.YtjbhooodjmjdkaaGreat.Ev
open Go.RowKit
structure RowD (ρ : Type) where
  wd : Nat
  tags : List CK
  rd : (Nat → AV) → ρ
  wr : ρ → Nat → AV
  ok : ∀ f k, k < wd → conf (ckAt tags k) (wr (rd f) k) = conf (ckAt tags k) (f k)
  good : ∀ a, rd (wr a) = a
section
variable {ρ β : Type}
def encF (R : RowD ρ) (l : List ρ) (i : Nat) : Nat → AV := match l[i]? with
  | some a => R.wr a
  | none => fun _ => .top
def decF (R : RowD ρ) (n : Nat) (f : Nat → Nat → AV) : List ρ := (List.range n).map fun i => R.rd (f i)
theorem decF_length (R : RowD ρ) (n : Nat) (f : Nat → Nat → AV) : (decF R n f).length = n := by simp [decF]
theorem encF_at {R : RowD ρ} {l : List ρ} {i : Nat} {a : ρ} (h : l[i]? = some a) : encF R l i = R.wr a := by unfold encF; rw [h]
theorem encF_dec {R : RowD ρ} {n : Nat} {f : Nat → Nat → AV} {i k : Nat} (hi : i < n) (hk : k < R.wd) : conf (ckAt R.tags k) (encF R (decF R n f) i k) = conf (ckAt R.tags k) (f i k) := by
  have : (decF R n f)[i]? = some (R.rd (f i)) := by simp [decF, hi]
  rw [encF_at this]; exact R.ok _ _ hk
theorem decF_encF (R : RowD ρ) (l : List ρ) : decF R l.length (encF R l) = l := by
  apply List.ext_getElem?
  intro i
  by_cases hi : i < l.length
  · simp only [decF, List.getElem?_map, List.getElem?_range hi, Option.map_some]
    rw [encF_at (List.getElem?_eq_getElem hi), R.good, List.getElem?_eq_getElem hi]
  · rw [List.getElem?_eq_none (by simp [decF]; omega), List.getElem?_eq_none (by omega)]
theorem decF_ext {R : RowD ρ} {n : Nat} {f g : Nat → Nat → AV} (h : ∀ i, i < n → R.rd (f i) = R.rd (g i)) : decF R n f = decF R n g := by
  unfold decF
  exact List.map_congr_left (fun i hi => h i (List.mem_range.1 hi))
theorem decF_app (R : RowD ρ) (l : List ρ) (m : Nat) (g : Nat → Nat → AV) : decF R (l.length + m) (appG l.length (encF R l) g) = l ++ decF R m g := by
  unfold decF
  rw [List.range_add, List.map_append, List.map_map]
  congr 1
  · have := decF_encF R l
    unfold decF at this
    conv => rhs; rw [← this]
    refine List.map_congr_left (fun i hi => ?_)
    have hi := List.mem_range.1 hi
    congr 1; funext k
    unfold appG
    have : Nat.ble l.length i = false := by rw [← Bool.not_eq_true, Nat.ble_eq]; omega
    rw [this]
  · refine List.map_congr_left (fun i _ => ?_)
    simp only [Function.comp]
    congr 1; funext k
    unfold appG
    have : Nat.ble l.length (l.length + i) = true := by rw [Nat.ble_eq]; omega
    rw [this, Nat.add_sub_cancel_left]
theorem decF_enc0 (R : RowD ρ) (l : List ρ) : decF R l.length (fun i => encF R l (0 + i)) = l := by
  have : (fun i => encF R l (0 + i)) = encF R l := by funext i; rw [Nat.zero_add]
  rw [this, decF_encF]
theorem decF_push (R : RowD ρ) (l : List ρ) (g : Nat → Nat → AV) : decF R (l.length + 1) (appG l.length (encF R l) g) = l ++ [R.rd (g 0)] := decF_app R l 1 g
theorem decF_one (R : RowD ρ) (g : Nat → Nat → AV) : decF R 1 g = [R.rd (g 0)] := rfl
theorem decF_drop (R : RowD ρ) (l : List ρ) (r m : Nat) (h : r + m ≤ l.length) : decF R m (fun i k => encF R l (r + i) k) = (l.drop r).take m := by
  apply List.ext_getElem?
  intro i
  by_cases hi : i < m
  · simp only [decF, List.getElem?_map, List.getElem?_range hi, Option.map_some]
    rw [List.getElem?_take_of_lt hi, List.getElem?_drop, List.getElem?_eq_getElem (show r + i < l.length by omega)]
    have : (fun k => encF R l (r + i) k) = R.wr l[r + i] := encF_at (List.getElem?_eq_getElem (show r + i < l.length by omega))
    rw [this, R.good]
  · rw [List.getElem?_eq_none (by simp [decF]; omega), List.getElem?_eq_none (by simp; omega)]
def DecB.rows (t : TypeId) (R : RowD ρ) (E : DecB β) : DecB (List ρ × β) where
  enc p := .list t R.wd 0 p.1.length ⟨R.tags, encF R p.1⟩ :: E.enc p.2
  dec x := match x with
    | .list t' wd' v n g :: ys => match (Nat.beq t' t && Nat.beq wd' R.wd) && (Nat.beq v 0 && ckLEq g.tag R.tags) with
      | true => match E.dec ys with
        | some b => some (decF R n g.f, b)
        | none => none
      | false => none
    | _ => none
  len x a h := by
    split at h
    · split at h
      · split at h
        · rename_i b hb; injection h with h; subst h; simp [E.len _ _ hb]
        · simp at h
      · simp at h
    · simp at h
  ok x a h j k k' hk hk' := by
    split at h
    · rename_i t' wd' v n g ys
      split at h
      · rename_i he
        simp only [Bool.and_eq_true] at he
        have e1 := Nat.eq_of_beq_eq_true he.1.1; have e2 := Nat.eq_of_beq_eq_true he.1.2; have e3 := Nat.eq_of_beq_eq_true he.2.1; have e4 := ckLEq_eq he.2.2
        subst e1; subst e2; subst e3
        split at h
        · rename_i b1 h2
          injection h with h; subst h
          cases j with
          | zero =>
            simp at hk hk'; subst hk; subst hk'
            refine ⟨rfl, fun w A r i h => ?_⟩
            obtain ⟨e, c, xs, m1, m2, m3, m4, m5, m6, m7, m8⟩ := h
            simp only [MemR, decF_length]
            refine ⟨e, c, xs, m1, m2, m3, m4, m5, m6, m7, fun i k hi hk => ?_⟩
            obtain ⟨u, hu, hv⟩ := m8 i k hi hk
            refine ⟨u, hu, ?_⟩
            have : (⟨R.tags, encF R (decF R n g.f)⟩ : Get AV).cell i k = g.cell i k := by
              simp only [Get.cell]; rw [encF_dec hi hk, e4]
            rw [this]; exact hv
          | succ j => exact E.ok _ _ h2 j k k' (by simpa using hk) (by simpa using hk')
        · simp at h
      · simp at h
    · simp at h
def DecB.maps (t : TypeId) (ag : Bool) (R : RowD ρ) (E : DecB β) : DecB (List ρ × β) where
  enc p := .map t ag R.wd p.1.length ⟨R.tags, encF R p.1⟩ :: E.enc p.2
  dec x := match x with
    | .map t' ag' wd' n g :: ys => match (Nat.beq t' t && bEq ag' ag) && (Nat.beq wd' R.wd && ckLEq g.tag R.tags) with
      | true => match E.dec ys with
        | some b => some (decF R n g.f, b)
        | none => none
      | false => none
    | _ => none
  len x a h := by
    split at h
    · split at h
      · split at h
        · rename_i b hb; injection h with h; subst h; simp [E.len _ _ hb]
        · simp at h
      · simp at h
    · simp at h
  ok x a h j k k' hk hk' := by
    split at h
    · rename_i t' ag' wd' n g ys
      split at h
      · rename_i he
        simp only [Bool.and_eq_true] at he
        have e1 := Nat.eq_of_beq_eq_true he.1.1; have e2 := bEq_eq he.1.2; have e3 := Nat.eq_of_beq_eq_true he.2.1; have e4 := ckLEq_eq he.2.2
        subst e1; subst e2; subst e3
        split at h
        · rename_i b1 h2
          injection h with h; subst h
          cases j with
          | zero =>
            simp at hk hk'; subst hk; subst hk'
            refine ⟨trivial, fun w A r i h => ?_⟩
            obtain ⟨b, hb, es, clock, hh, u, hs, hu, hv⟩ := h
            refine ⟨b, hb, es, clock, hh, u, by rw [decF_length]; exact hs, fun i hi => hu i (by rwa [decF_length] at hi), fun i k hi hk => ?_⟩
            rw [decF_length] at hi
            have : (⟨R.tags, encF R (decF R n g.f)⟩ : Get AV).cell i k = g.cell i k := by
              simp only [Get.cell]; rw [encF_dec hi hk, e4]
            rw [this]; exact hv i k hi hk
          | succ j => exact E.ok _ _ h2 j k k' (by simpa using hk) (by simpa using hk')
        · simp at h
      · simp at h
    · simp at h
def dMp (j : Nat) : Dec Unit where
  enc _ := .mp j
  dec x := match x with
    | .mp i => match Nat.beq i j with
      | true => some ()
      | false => none
    | _ => none
  ok x a h w A r v hv := by
    split at h
    · split at h
      · rename_i e
        have := Nat.eq_of_beq_eq_true e; subst this; exact hv
      · simp at h
    · simp at h
theorem mfind_enc (R : RowD ρ) (M : List ρ) (x : AV) : mfind ⟨R.tags, encF R M⟩ x M.length = M.findIdx? fun a => keyIs x (conf (ckAt R.tags 0) (R.wr a 0)) := by
  have h : ∀ (L : List ρ) (i0 : Nat) (q : Nat → Bool), (∀ i a, L[i]? = some a → q (i0 + i) = keyIs x (conf (ckAt R.tags 0) (R.wr a 0))) → (List.range' i0 L.length).find? q = (L.findIdx? fun a => keyIs x (conf (ckAt R.tags 0) (R.wr a 0))).map (i0 + ·) := by
    intro L
    induction L with
    | nil => intro i0 q _; rfl
    | cons a L ih =>
      intro i0 q h
      have h0 := h 0 a rfl
      rw [Nat.add_zero] at h0
      rw [List.length_cons, List.range'_succ, List.findIdx?_cons]
      cases hq : keyIs x (conf (ckAt R.tags 0) (R.wr a 0)) with
      | true => rw [List.find?_cons_of_pos (by rw [h0, hq])]; simp
      | false =>
        rw [List.find?_cons_of_neg (by rw [h0, hq]; decide), ih (i0 + 1) q (fun i b hb => by rw [show i0 + 1 + i = i0 + (i + 1) by omega]; exact h (i + 1) b (by simpa using hb))]
        simp only [Bool.false_eq_true, if_false, Option.map_map]
        congr 1
        funext i
        simp only [Function.comp]; omega
  unfold mfind
  rw [List.range_eq_range', h M 0 _ (fun i a ha => by rw [Nat.zero_add]; simp only [Get.cell, encF_at ha])]
  cases M.findIdx? fun a => keyIs x (conf (ckAt R.tags 0) (R.wr a 0)) <;> simp
theorem decF_put (R : RowD ρ) (M : List ρ) (o : Option Nat) (ho : ∀ i, o = some i → i < M.length) (row : List AV) (T : List CK) : decF R (mputN o M.length) (mputG ⟨T, encF R M⟩ (mputP o M.length) row).f = match o with
    | some i => M.set i (R.rd fun k => (row[k]?).getD .top)
    | none => M ++ [R.rd fun k => (row[k]?).getD .top] := by
  apply List.ext_getElem?
  intro j
  have hb : ∀ p, Nat.beq j p = decide (j = p) := fun p => by apply Bool.eq_iff_iff.2; simp [Nat.beq_eq]
  cases o with
  | some i =>
    have hi := ho i rfl
    simp only [mputN, mputP, mputG]
    by_cases hj : j < M.length
    · simp only [decF, List.getElem?_map, List.getElem?_range hj, Option.map_some, hb]
      by_cases e : j = i
      · subst e; simp [hj]
      · rw [decide_eq_false e, List.getElem?_set_ne (Ne.symm e), encF_at (List.getElem?_eq_getElem hj), R.good, List.getElem?_eq_getElem hj]
    · rw [List.getElem?_eq_none (by simp [decF]; omega), List.getElem?_eq_none (by simp; omega)]
  | none =>
    simp only [mputN, mputP, mputG]
    by_cases hj : j < M.length + 1
    · simp only [decF, List.getElem?_map, List.getElem?_range hj, Option.map_some, hb]
      by_cases e : j = M.length
      · subst e; simp
      · rw [decide_eq_false e, List.getElem?_append_left (by omega), encF_at (List.getElem?_eq_getElem (by omega)), R.good, List.getElem?_eq_getElem (by omega)]
    · rw [List.getElem?_eq_none (by simp [decF]; omega), List.getElem?_eq_none (by simp; omega)]
def dRows (R : RowD ρ) : Dec (List ρ) where
  enc l := .xsl R.wd l.length ⟨R.tags, encF R l⟩ 0 l.length none
  dec x := match x with
    | .xsl wd' _ g row len _ => match Nat.beq wd' R.wd && ckLEq g.tag R.tags with
      | true => some (decF R len fun i => g.f (row + i))
      | false => none
    | .nilsl => some []
    | _ => none
  ok x a h w A r v hv := by
    split at h
    · rename_i wd' m g row len cap
      split at h
      · rename_i e
        simp only [Bool.and_eq_true] at e
        have e1 := Nat.eq_of_beq_eq_true e.1; have e2 := ckLEq_eq e.2; subst e1
        injection h with h; subst h
        rw [decF_length]
        cases hv with
        | xsl b o u hl hcap hn ha hc hv =>
          refine .xsl b (o + row * R.wd) (fun i k => u (row + i) k) hl (fun x hx => by cases hx) (by omega) (fun h0 => ?_) (fun h0 i k hi hk => ?_) (fun h0 i k hi hk => ?_)
          · obtain ⟨ea, hb, hA⟩ := ha h0
            exact ⟨by rw [ea]; simp, hb, hA⟩
          · have := hc h0 (row + i) k (by omega) hk
            rw [Nat.add_mul] at this
            rw [show o + row * R.wd + (i * R.wd + k) = o + (row * R.wd + i * R.wd + k) by omega]; exact this
          · have : (⟨R.tags, encF R (decF R len fun i => g.f (row + i))⟩ : Get AV).cell i k = g.cell (row + i) k := by
              simp only [Get.cell]; rw [encF_dec hi hk, e2]
            rw [this]; exact hv h0 (row + i) k (by omega) hk
      · simp at h
    · injection h with h; subst h
      cases hv with
      | nilsl => exact .xsl 0 0 (fun _ _ => .nilFunc) ⟨Nat.zero_le _, Nat.zero_le _⟩ (fun x h => by cases h) (Nat.le_refl _) (fun h => absurd h (Nat.lt_irrefl _)) (fun h => absurd h (Nat.lt_irrefl _)) (fun h => absurd h (Nat.lt_irrefl _))
    · simp at h
/-! ### Functions that hand back a list of their own -/
theorem FC.weaken {P : Program} {f : FuncId} {t : TypeId} {args args' : List AV} {wd n : Nat} {g g' : Get AV} (h : FC P f t args' wd n g) (ha : ∀ w A r us, VRs w A r args us → VRs w A r args' us) (hg : ∀ i k, i < n → k < wd → g'.cell i k = g.cell i k) : FC P f t args wd n g' := by
  intro ro m A w us hA hv
  refine (h ro m A w us hA (ha _ _ _ _ hv)).mono ?_
  rintro en w' ⟨e, c, rows, h1, h2, h3, h4, h5, h6, h7, h8⟩
  exact ⟨e, c, rows, h1, h2, h3, h4, h5, h6, (fun i k hi hk => by obtain ⟨u, hu, hr⟩ := h7 i k hi hk; exact ⟨u, hu, by rw [hg i k hi hk]; exact hr⟩), h8⟩
section
variable {α : Type} {P : Program} {B : Tab} {f : FuncId} {t : TypeId} {d : Nat} {D : DecL α} {R : RowD ρ}
def freshT1 (P : Program) (B : Tab) (d : Nat) (f : FuncId) (t : TypeId) (D : DecL α) (R : RowD ρ) (a : α) : Option (List ρ) := ((freshBody P (mkCfg B (lvl P B d) f) f t (D.enc a)).bind (decT (dRows R))).run
def freshE (t : TypeId) (D : DecL α) (R : RowD ρ) (M : α → T (List ρ)) : List AV → Option (T AV)
  | .oss t' _ _ _ _ :: xs => match Nat.beq t' t with
    | true => match D.dec xs with
      | some a => some ((M a).bind fun l => .ret ((dRows R).enc l))
      | none => none
    | false => none
  | _ => none
theorem fresh_of (hP : okProg P = true) (h : TabOk P B) {a : α} {l : List ρ} (hr : freshT1 P B d f t D R a = some l) : FC P f t (D.enc a) R.wd l.length ⟨R.tags, encF R l⟩ := by
  obtain ⟨v, h1, h2⟩ := T.run_bind hr
  obtain ⟨wd, n, g, rfl, hfc⟩ := freshBody_fc hP (lvl_ok hP h d f) h1
  unfold decT dRows at h2
  simp only at h2
  split at h2
  · rename_i l' hl
    simp only [T.run, Option.some.injEq] at h2; subst h2
    split at hl
    · rename_i e
      simp only [Bool.and_eq_true] at e
      have e1 := Nat.eq_of_beq_eq_true e.1; have e2 := ckLEq_eq e.2; subst e1
      injection hl with hl; subst hl
      rw [decF_length]
      refine hfc.weaken (fun _ _ _ _ h => h) (fun i k hi hk => ?_)
      simp only [Get.cell]
      rw [encF_dec hi hk, e2, Nat.zero_add]
    · cases hl
  · simp [T.run] at h2
theorem TabOk.addFresh (hP : okProg P = true) (h : TabOk P B) {M : α → T (List ρ)} (hM : ∀ a r, (M a).run = some r → freshT1 P B d f t D R a = some r) : TabOk P (B.addTurn f (freshE t D R M)) := by
  refine h.addTurn fun args u v ht hr => ?_
  unfold freshE at ht
  split at ht
  case h_2 => cases ht
  split at ht
  case h_2 => cases ht
  rename_i hb
  have e1 := Nat.eq_of_beq_eq_true hb; subst e1
  split at ht
  case h_2 => cases ht
  rename_i a ha
  injection ht with ht; subst ht
  obtain ⟨r, h1, h2⟩ := T.run_bind hr
  simp [T.run] at h2; subst h2
  exact (fresh_of hP h (hM a r h1)).weaken (D.ok _ _ ha) (fun _ _ _ _ => rfl)
end
def XS.of (R : RowD ρ) (l : List ρ) : XS := ⟨l.length, 0, l.length, none, encF R l⟩
def XS.list (R : RowD ρ) (x : XS) : List ρ := decF R x.len fun i => x.f (x.row + i)
theorem XS.list_of (R : RowD ρ) (l : List ρ) : (XS.of R l).list R = l := by
  unfold XS.list XS.of
  have : (fun i => encF R l (0 + i)) = encF R l := by funext i; rw [Nat.zero_add]
  rw [this, decF_encF]
end
def rInt : RowD Int where
  wd := 1
  tags := [.int .i64]
  rd f := numOf (f 0)
  wr n := fun _ => .int .i64 n
  ok f k hk := by
    have : k = 0 := by omega
    subst this; rfl
  good _ := rfl
def rIntB : RowD (Int × Bool) where
  wd := 2
  tags := [.int .i64, .bool]
  rd f := (numOf (f 0), truthOf (f 1))
  wr a := fun k => match k with
    | 0 => .int .i64 a.1
    | _ => .bool a.2
  ok f k hk := match k, hk with
    | 0, _ => rfl
    | 1, _ => rfl
    | n + 2, h => absurd h (by omega)
  good _ := rfl
def rStr : RowD (List UInt8) where
  wd := 1
  tags := [.str]
  rd f := textOf (f 0)
  wr n := fun _ => .str n
  ok f k hk := by
    have : k = 0 := by omega
    subst this; rfl
  good _ := rfl
end Go.Proofs.YtjbhooodjmjdkaaGreat.Ev
/-! K0 -/
namespace Go.Proofs.YtjbhooodjmjdkaaGreat
open Ev
noncomputable abbrev P : Program := Tryz.prog
theorem okP : okProg P = true := by kernel_rfl
def B0 : Tab := noTab 200
theorem t0 : TabOk P B0 := noTab_ok P 200
end Go.Proofs.YtjbhooodjmjdkaaGreat
/-! KD -/
namespace Go.Proofs.YtjbhooodjmjdkaaGreat
open Ev
namespace K
@[ext] structure Span where (lo hi : Int)
@[ext] structure Frac where (num den : Int)
@[ext] structure Range where (lo hi : Frac)
@[ext] structure Hydro where (id : Int) (off : Span)
@[ext] structure Glass where (id hydro dense : Int) (shown : Span)
structure Bulbs where (hydros glasses : XS)
@[ext] structure Survey where (id tick : Int) (m0 m1 m2 m3 m4 m5 : Span) (sag hydro : Int) (shown : Span)
@[ext] structure Knot where (x y : Int)
@[ext] structure Hold where (id room lever height : Int)
structure Curve where (knots : XS) (err : Int)
structure Ship where (id light lever height : Int) (holds : XS) (mean mc : Curve) (turn least : Int)
@[ext] structure Sums where (ends middle : Int)
@[ext] structure GlassE where (g : Glass) (errors : Span)
@[ext] structure Piece where (p q : Knot)
structure Load where (holds : XS) (all : Span)
end K
open K
def lSpan : DecL Span := (DecL.cons (dI .i64) (.last (dI .i64) 0)).iso (fun p => ⟨p.1, p.2⟩) (fun s => (s.lo, s.hi)) (fun _ => rfl)
def dSpan : Dec Span := dAgg lSpan
def dFrac : Dec Frac := (dAgg (.cons (dI .i64) (.last (dI .i64) 0))).iso (fun p => ⟨p.1, p.2⟩) (fun s => (s.num, s.den)) (fun _ => rfl)
def dRatio : Dec Frac := dFrac
def dSums : Dec Sums := (dAgg (.cons (dI .i64) (.last (dI .i64) 0))).iso (fun p => ⟨p.1, p.2⟩) (fun s => (s.ends, s.middle)) (fun _ => rfl)
def lKnot : DecL Knot := (DecL.cons (dI .i64) (.last (dI .i64) 0)).iso (fun p => ⟨p.1, p.2⟩) (fun s => (s.x, s.y)) (fun _ => rfl)
def dKnot : Dec Knot := dAgg lKnot
def lPiece : DecL Piece := (DecL.cons (dI .i64) (.cons (dI .i64) (.cons (dI .i64) (.last (dI .i64) 0)))).iso (fun p => ⟨⟨p.1, p.2.1⟩, ⟨p.2.2.1, p.2.2.2⟩⟩) (fun s => (s.p.x, s.p.y, s.q.x, s.q.y)) (fun _ => rfl)
def dPiece : Dec Piece := dAgg lPiece
def dRange : Dec Range := (dAgg (.cons (dI .i64) (.cons (dI .i64) (.cons (dI .i64) (.last (dI .i64) 0))))).iso (fun p => ⟨⟨p.1, p.2.1⟩, ⟨p.2.2.1, p.2.2.2⟩⟩) (fun s => (s.lo.num, s.lo.den, s.hi.num, s.hi.den)) (fun _ => rfl)
def lHydro : DecL Hydro := (DecL.cons (dI .i64) (.cons (dI .i64) (.last (dI .i64) 0))).iso (fun p => ⟨p.1, ⟨p.2.1, p.2.2⟩⟩) (fun s => (s.id, s.off.lo, s.off.hi)) (fun _ => rfl)
def dHydro : Dec Hydro := dAgg lHydro
def lHold : DecL Hold := (DecL.cons (dI .i64) (.cons (dI .i64) (.cons (dI .i64) (.last (dI .i64) 0)))).iso (fun p => ⟨p.1, p.2.1, p.2.2.1, p.2.2.2⟩) (fun s => (s.id, s.room, s.lever, s.height)) (fun _ => rfl)
def dHold : Dec Hold := dAgg lHold
def lGlass : DecL Glass := (DecL.cons (dI .i64) (.cons (dI .i64) (.cons (dI .i64) (.cons (dI .i64) (.last (dI .i64) 0))))).iso (fun p => ⟨p.1, p.2.1, p.2.2.1, ⟨p.2.2.2.1, p.2.2.2.2⟩⟩) (fun s => (s.id, s.hydro, s.dense, s.shown.lo, s.shown.hi)) (fun _ => rfl)
def dGlass : Dec Glass := dAgg lGlass
def lTold : DecL GlassE := (DecL.cons (dI .i64) (.cons (dI .i64) (.cons (dI .i64) (.cons (dI .i64) (.cons (dI .i64) (.cons (dI .i64) (.last (dI .i64) 0))))))).iso (fun p => ⟨⟨p.1, p.2.1, p.2.2.1, ⟨p.2.2.2.1, p.2.2.2.2.1⟩⟩, ⟨p.2.2.2.2.2.1, p.2.2.2.2.2.2⟩⟩) (fun s => (s.g.id, s.g.hydro, s.g.dense, s.g.shown.lo, s.g.shown.hi, s.errors.lo, s.errors.hi)) (fun _ => rfl)
def dTold : Dec GlassE := dAgg lTold
def xHydros : Dec XS := dX 3 [.int .i64, .int .i64, .int .i64]
def xGlasses : Dec XS := dX 5 [.int .i64, .int .i64, .int .i64, .int .i64, .int .i64]
def xKnots : Dec XS := dX 2 [.int .i64, .int .i64]
def xSurveys : Dec XS := dX 18 (List.replicate 18 (.int .i64))
def xHolds : Dec XS := dX 4 [.int .i64, .int .i64, .int .i64, .int .i64]
def lBulbs : DecL Bulbs := (DecL.cons xHydros (.last xGlasses 0)).iso (fun p => ⟨p.1, p.2⟩) (fun s => (s.hydros, s.glasses)) (fun _ => rfl)
def dBulbs : Dec Bulbs := dAgg lBulbs
def lCurve : DecL Curve := (DecL.cons xKnots (.last (dI .i64) 0)).iso (fun p => ⟨p.1, p.2⟩) (fun s => (s.knots, s.err)) (fun _ => rfl)
def dCurve : Dec Curve := dAgg lCurve
def lShip : DecL Ship := (DecL.cons (dI .i64) (.cons (dI .i64) (.cons (dI .i64) (.cons (dI .i64) (.cons xHolds (.cons xKnots (.cons (dI .i64) (.cons xKnots (.cons (dI .i64) (.cons (dI .i64) (.last (dI .i64) 0))))))))))).iso
  (fun p => ⟨p.1, p.2.1, p.2.2.1, p.2.2.2.1, p.2.2.2.2.1, ⟨p.2.2.2.2.2.1, p.2.2.2.2.2.2.1⟩, ⟨p.2.2.2.2.2.2.2.1, p.2.2.2.2.2.2.2.2.1⟩, p.2.2.2.2.2.2.2.2.2.1, p.2.2.2.2.2.2.2.2.2.2⟩)
  (fun s => (s.id, s.light, s.lever, s.height, s.holds, s.mean.knots, s.mean.err, s.mc.knots, s.mc.err, s.turn, s.least)) (fun _ => rfl)
def dShip : Dec Ship := dAgg lShip
def lSurvey : DecL Survey := (DecL.cons (dI .i64) (.cons (dI .i64) (.cons (dI .i64) (.cons (dI .i64) (.cons (dI .i64) (.cons (dI .i64) (.cons (dI .i64) (.cons (dI .i64) (.cons (dI .i64) (.cons (dI .i64) (.cons (dI .i64) (.cons (dI .i64) (.cons (dI .i64) (.cons (dI .i64) (.cons (dI .i64) (.cons (dI .i64) (.cons (dI .i64) (.last (dI .i64) 0)))))))))))))))))).iso
  (fun (a, b, c, d, e, f, g, h, i, j, k, l, m, n, o, p, q, r) => ⟨a, b, ⟨c, d⟩, ⟨e, f⟩, ⟨g, h⟩, ⟨i, j⟩, ⟨k, l⟩, ⟨m, n⟩, o, p, ⟨q, r⟩⟩)
  (fun s => (s.id, s.tick, s.m0.lo, s.m0.hi, s.m1.lo, s.m1.hi, s.m2.lo, s.m2.hi, s.m3.lo, s.m3.hi, s.m4.lo, s.m4.hi, s.m5.lo, s.m5.hi, s.sag, s.hydro, s.shown.lo, s.shown.hi)) (fun _ => rfl)
def dSurvey : Dec Survey := dAgg lSurvey
def eTold (g : GlassE) : List AV := [dTold.enc g]
def ePiece (p : Int × Piece) : List AV := [.int .i64 p.1, dPiece.enc p.2]
def V_gls : DecL (Bulbs × Int) := DecL.cons (dP 2 lBulbs 0) (.last (dP 1 (.last (dI .i64) 0) 0) 0)
def V_pcs : DecL Curve := DecL.last (dP 2 lCurve 0) 0
/-! Slices of a few slices -/
section
variable {α : Type}
theorem Ev.row_rel {wd m : Nat} {g : Get AV} {row : Nat} {w : World} {A : Nat → Prop} {u : Nat → Nat → Value} (hv : ∀ i k, i < m → k < wd → VR w A noR (g i k) (u i k)) (hr : row < m) : VRs w A noR (rngGet g row 0 wd) ((Array.range wd).map fun k => u row k) := by
  refine ⟨by simp [rngGet_length], fun i y z hy hz => ?_⟩
  have hi : i < wd := by have := (List.getElem?_eq_some_iff.1 hy).1; rwa [rngGet_length] at this
  rw [rngGet_get g row wd 0 i hi] at hy
  simp [hi] at hz
  injection hy with hy; subst hy; subst hz
  rw [Nat.zero_add]
  exact hv row i hr hi
theorem Ev.row_cell {E : DecL α} {a : α} {wd : Nat} {w : World} {A : Nat → Prop} {us : Array Value} (h : VRs w A noR (E.enc a) us) (hs : us.size = wd) {k : Nat} (hk : k < wd) : VR w A noR (((E.enc a)[k]?).getD .top) (us[k]?.getD .nilFunc) := by
  have hk' : k < (E.enc a).length := by rw [h.1, hs]; exact hk
  rw [List.getElem?_eq_getElem hk', Array.getElem?_eq_getElem (by omega)]
  exact h.2 k _ _ (List.getElem?_eq_getElem hk') (Array.getElem?_eq_getElem (by omega))
def Ev.dRow1 (wd : Nat) (E : DecL α) : Dec α where
  enc a := .xsl wd 1 ⟨[], fun _ k => ((E.enc a)[k]?).getD .top⟩ 0 1 none
  dec x := match x with
    | .xsl wd' _ g row len _ => match Nat.beq wd' wd && Nat.beq len 1 with
      | true => E.dec (rngGet g row 0 wd)
      | false => none
    | _ => none
  ok x a h w A r v hv := by
    split at h
    case h_2 => cases h
    rename_i wd' m g row len cap
    split at h
    case h_2 => cases h
    rename_i e
    simp only [Bool.and_eq_true] at e
    have e1 := Nat.eq_of_beq_eq_true e.1; have e2 := Nat.eq_of_beq_eq_true e.2; subst e1; subst e2
    cases hv with
    | xsl b o u hl hcap hn ha hc hv =>
      obtain ⟨ea, hb, hA⟩ := ha (by omega)
      have hcells := E.ok _ _ h _ _ _ _ (row_rel (hv (by omega)) (show _ < _ by omega))
      refine .xsl b (o + row * wd') (fun _ k => u row k) hl (fun x hx => by cases hx) (by omega) (fun _ => ⟨by rw [ea]; simp, hb, hA⟩) (fun _ i k hi hk => ?_) (fun _ i k hi hk => ?_)
      · have : i = 0 := by omega
        subst this
        rw [Nat.zero_mul, Nat.zero_add, Nat.add_assoc]; exact hc (by omega) row k (by omega) hk
      · have := row_cell hcells (by simp) hk
        simp [hk] at this; exact this
def Ev.dRow2 (wd : Nat) (E : DecL α) : Dec (α × α) where
  enc a := .xsl wd 2 ⟨[], fun i k => match i with
    | 0 => ((E.enc a.1)[k]?).getD .top
    | _ => ((E.enc a.2)[k]?).getD .top⟩ 0 2 none
  dec x := match x with
    | .xsl wd' _ g row len _ => match Nat.beq wd' wd && Nat.beq len 2 with
      | true => match E.dec (rngGet g row 0 wd) with
        | some a => match E.dec (rngGet g (row + 1) 0 wd) with
          | some b => some (a, b)
          | none => none
        | none => none
      | false => none
    | _ => none
  ok x a h w A r v hv := by
    split at h
    case h_2 => cases h
    rename_i wd' m g row len cap
    split at h
    case h_2 => cases h
    rename_i e
    split at h
    case h_2 => cases h
    rename_i a1 h1
    split at h
    case h_2 => cases h
    rename_i a2 h2
    injection h with h; subst h
    simp only [Bool.and_eq_true] at e
    have e1 := Nat.eq_of_beq_eq_true e.1; have e2 := Nat.eq_of_beq_eq_true e.2; subst e1; subst e2
    cases hv with
    | xsl b o u hl hcap hn ha hc hv =>
      obtain ⟨ea, hb, hA⟩ := ha (by omega)
      have hcells1 := E.ok _ _ h1 _ _ _ _ (row_rel (hv (by omega)) (show _ < _ by omega))
      have hcells2 := E.ok _ _ h2 _ _ _ _ (row_rel (hv (by omega)) (show _ < _ by omega))
      refine .xsl b (o + row * wd') (fun i k => u (row + i) k) hl (fun x hx => by cases hx) (by omega) (fun _ => ⟨by rw [ea]; simp, hb, hA⟩) (fun _ i k hi hk => ?_) (fun _ i k hi hk => ?_)
      · have := hc (by omega) (row + i) k (by omega) hk
        rw [Nat.add_mul] at this
        rw [show o + row * wd' + (i * wd' + k) = o + (row * wd' + i * wd' + k) by omega]; exact this
      · cases i with
        | zero => have := row_cell hcells1 (by simp) hk; simp [hk] at this; exact this
        | succ i =>
          have : i = 0 := by omega
          subst this
          have := row_cell hcells2 (by simp) hk; simp [hk] at this; exact this
def Ev.dIl (n : Int) : Dec Unit where
  enc _ := .int .i64 n
  dec x := match x with
    | .int .i64 m => match decide (m = n) with
      | true => some ()
      | false => none
    | _ => none
  ok x a h w A r v hv := by
    split at h
    · split at h
      · rename_i e; have := of_decide_eq_true e; subst this; exact hv
      · cases h
    · cases h
end
def rSpan : RowD (Span) where
  wd := 2
  tags := [.int .i64, .int .i64]
  rd f := ⟨numOf (f 0), numOf (f 1)⟩
  wr a := fun k => match k with
    | 0 => .int .i64 a.lo
    | _ => .int .i64 a.hi
  ok f k hk := match k, hk with
    | 0, _ => rfl
    | 1, _ => rfl
    | n + 2, h => absurd h (by omega)
  good _ := rfl
def rKnot : RowD (Knot) where
  wd := 2
  tags := [.int .i64, .int .i64]
  rd f := ⟨numOf (f 0), numOf (f 1)⟩
  wr a := fun k => match k with
    | 0 => .int .i64 a.x
    | _ => .int .i64 a.y
  ok f k hk := match k, hk with
    | 0, _ => rfl
    | 1, _ => rfl
    | n + 2, h => absurd h (by omega)
  good _ := rfl
def rHold : RowD (Hold) where
  wd := 4
  tags := [.int .i64, .int .i64, .int .i64, .int .i64]
  rd f := ⟨numOf (f 0), numOf (f 1), numOf (f 2), numOf (f 3)⟩
  wr a := fun k => match k with
    | 0 => .int .i64 a.id
    | 1 => .int .i64 a.room
    | 2 => .int .i64 a.lever
    | _ => .int .i64 a.height
  ok f k hk := match k, hk with
    | 0, _ => rfl
    | 1, _ => rfl
    | 2, _ => rfl
    | 3, _ => rfl
    | n + 4, h => absurd h (by omega)
  good _ := rfl
def rHydro : RowD (Hydro) where
  wd := 3
  tags := [.int .i64, .int .i64, .int .i64]
  rd f := ⟨numOf (f 0), ⟨numOf (f 1), numOf (f 2)⟩⟩
  wr a := fun k => match k with
    | 0 => .int .i64 a.id
    | 1 => .int .i64 a.off.lo
    | _ => .int .i64 a.off.hi
  ok f k hk := match k, hk with
    | 0, _ => rfl
    | 1, _ => rfl
    | 2, _ => rfl
    | n + 3, h => absurd h (by omega)
  good _ := rfl
def rGlass : RowD (Glass) where
  wd := 5
  tags := [.int .i64, .int .i64, .int .i64, .int .i64, .int .i64]
  rd f := ⟨numOf (f 0), numOf (f 1), numOf (f 2), ⟨numOf (f 3), numOf (f 4)⟩⟩
  wr a := fun k => match k with
    | 0 => .int .i64 a.id
    | 1 => .int .i64 a.hydro
    | 2 => .int .i64 a.dense
    | 3 => .int .i64 a.shown.lo
    | _ => .int .i64 a.shown.hi
  ok f k hk := match k, hk with
    | 0, _ => rfl
    | 1, _ => rfl
    | 2, _ => rfl
    | 3, _ => rfl
    | 4, _ => rfl
    | n + 5, h => absurd h (by omega)
  good _ := rfl
def rSurvey : RowD (Survey) where
  wd := 18
  tags := [.int .i64, .int .i64, .int .i64, .int .i64, .int .i64, .int .i64, .int .i64, .int .i64, .int .i64, .int .i64, .int .i64, .int .i64, .int .i64, .int .i64, .int .i64, .int .i64, .int .i64, .int .i64]
  rd f := ⟨numOf (f 0), numOf (f 1), ⟨numOf (f 2), numOf (f 3)⟩, ⟨numOf (f 4), numOf (f 5)⟩, ⟨numOf (f 6), numOf (f 7)⟩, ⟨numOf (f 8), numOf (f 9)⟩, ⟨numOf (f 10), numOf (f 11)⟩, ⟨numOf (f 12), numOf (f 13)⟩, numOf (f 14), numOf (f 15), ⟨numOf (f 16), numOf (f 17)⟩⟩
  wr a := fun k => match k with
    | 0 => .int .i64 a.id
    | 1 => .int .i64 a.tick
    | 2 => .int .i64 a.m0.lo
    | 3 => .int .i64 a.m0.hi
    | 4 => .int .i64 a.m1.lo
    | 5 => .int .i64 a.m1.hi
    | 6 => .int .i64 a.m2.lo
    | 7 => .int .i64 a.m2.hi
    | 8 => .int .i64 a.m3.lo
    | 9 => .int .i64 a.m3.hi
    | 10 => .int .i64 a.m4.lo
    | 11 => .int .i64 a.m4.hi
    | 12 => .int .i64 a.m5.lo
    | 13 => .int .i64 a.m5.hi
    | 14 => .int .i64 a.sag
    | 15 => .int .i64 a.hydro
    | 16 => .int .i64 a.shown.lo
    | _ => .int .i64 a.shown.hi
  ok f k hk := match k, hk with
    | 0, _ => rfl
    | 1, _ => rfl
    | 2, _ => rfl
    | 3, _ => rfl
    | 4, _ => rfl
    | 5, _ => rfl
    | 6, _ => rfl
    | 7, _ => rfl
    | 8, _ => rfl
    | 9, _ => rfl
    | 10, _ => rfl
    | 11, _ => rfl
    | 12, _ => rfl
    | 13, _ => rfl
    | 14, _ => rfl
    | 15, _ => rfl
    | 16, _ => rfl
    | 17, _ => rfl
    | n + 18, h => absurd h (by omega)
  good _ := rfl
def rPair : RowD (Int × Int) where
  wd := 2
  tags := [.int .i64, .int .i64]
  rd f := ⟨numOf (f 0), numOf (f 1)⟩
  wr a := fun k => match k with
    | 0 => .int .i64 a.1
    | _ => .int .i64 a.2
  ok f k hk := match k, hk with
    | 0, _ => rfl
    | 1, _ => rfl
    | n + 2, h => absurd h (by omega)
  good _ := rfl
end Go.Proofs.YtjbhooodjmjdkaaGreat
/-! KR -/
namespace Go.Proofs.YtjbhooodjmjdkaaGreat
open Ev K
set_option maxRecDepth 100000
section
variable {H : Type} {enc : TypeId × Value → H} {w : World}
theorem fl_hydro : flat P 8 127 = some (List.replicate 3 (.int .i64)) := by kernel_rfl
theorem fl_glass : flat P 8 79 = some (List.replicate 5 (.int .i64)) := by kernel_rfl
theorem fl_knot : flat P 8 151 = some (List.replicate 2 (.int .i64)) := by kernel_rfl
theorem fl_hold : flat P 8 95 = some (List.replicate 4 (.int .i64)) := by kernel_rfl
theorem fl_survey : flat P 8 85 = some (List.replicate 18 (.int .i64)) := by kernel_rfl
theorem fl_bulbs : flat P 8 31 = some [.sl 127, .sl 79] := by kernel_rfl
theorem fl_ship : flat P 8 27 = some [.int .i64, .int .i64, .int .i64, .int .i64, .sl 95, .sl 151, .int .i64, .sl 151, .int .i64, .int .i64, .int .i64] := by kernel_rfl
theorem fl_int : flat P 8 3 = some [.int .i64] := by kernel_rfl
theorem ag_bulbs : aggB P 31 = some true := by kernel_rfl
theorem ag_survey : aggB P 85 = some true := by kernel_rfl
theorem ag_ship : aggB P 27 = some true := by kernel_rfl
theorem ag_int : aggB P 3 = some false := by kernel_rfl
theorem rx_hydros {v : Value} (h : CellR enc P w (.sl 127) v) : RdV w xHydros v := rd_sl fl_hydro (by kernel_rfl) (by decide) (by decide) h
theorem rx_glasses {v : Value} (h : CellR enc P w (.sl 79) v) : RdV w xGlasses v := rd_sl fl_glass (by kernel_rfl) (by decide) (by decide) h
theorem rx_knots {v : Value} (h : CellR enc P w (.sl 151) v) : RdV w xKnots v := rd_sl fl_knot (by kernel_rfl) (by decide) (by decide) h
theorem rx_holds {v : Value} (h : CellR enc P w (.sl 95) v) : RdV w xHolds v := rd_sl fl_hold (by kernel_rfl) (by decide) (by decide) h
theorem rx_surveys {v : Value} (h : CellR enc P w (.sl 85) v) : RdV w xSurveys v := rd_sl fl_survey (by kernel_rfl) (by decide) (by decide) h
theorem rl_bulbs {cs : List Value} (h : Cells enc P w [.sl 127, .sl 79] cs) : RdL w lBulbs cs := by
  obtain ⟨v0, cs0, rfl, c0, h⟩ := cells_cons h
  obtain ⟨v1, cs1, rfl, c1, h⟩ := cells_cons h
  obtain rfl := cells_nil h
  exact rdL_iso (rdL_cons (rx_hydros c0) (rdL_last (rx_glasses c1)))
theorem rl_survey {cs : List Value} (h : Cells enc P w (List.replicate 18 (.int .i64)) cs) : RdL w lSurvey cs := by
  obtain ⟨v0, cs0, rfl, c0, h⟩ := cells_cons h
  obtain ⟨v1, cs1, rfl, c1, h⟩ := cells_cons h
  obtain ⟨v2, cs2, rfl, c2, h⟩ := cells_cons h
  obtain ⟨v3, cs3, rfl, c3, h⟩ := cells_cons h
  obtain ⟨v4, cs4, rfl, c4, h⟩ := cells_cons h
  obtain ⟨v5, cs5, rfl, c5, h⟩ := cells_cons h
  obtain ⟨v6, cs6, rfl, c6, h⟩ := cells_cons h
  obtain ⟨v7, cs7, rfl, c7, h⟩ := cells_cons h
  obtain ⟨v8, cs8, rfl, c8, h⟩ := cells_cons h
  obtain ⟨v9, cs9, rfl, c9, h⟩ := cells_cons h
  obtain ⟨v10, cs10, rfl, c10, h⟩ := cells_cons h
  obtain ⟨v11, cs11, rfl, c11, h⟩ := cells_cons h
  obtain ⟨v12, cs12, rfl, c12, h⟩ := cells_cons h
  obtain ⟨v13, cs13, rfl, c13, h⟩ := cells_cons h
  obtain ⟨v14, cs14, rfl, c14, h⟩ := cells_cons h
  obtain ⟨v15, cs15, rfl, c15, h⟩ := cells_cons h
  obtain ⟨v16, cs16, rfl, c16, h⟩ := cells_cons h
  obtain ⟨v17, cs17, rfl, c17, h⟩ := cells_cons h
  obtain rfl := cells_nil h
  exact rdL_iso (rdL_cons (rd_int c0) (rdL_cons (rd_int c1) (rdL_cons (rd_int c2) (rdL_cons (rd_int c3) (rdL_cons (rd_int c4) (rdL_cons (rd_int c5) (rdL_cons (rd_int c6) (rdL_cons (rd_int c7) (rdL_cons (rd_int c8) (rdL_cons (rd_int c9) (rdL_cons (rd_int c10) (rdL_cons (rd_int c11) (rdL_cons (rd_int c12) (rdL_cons (rd_int c13) (rdL_cons (rd_int c14) (rdL_cons (rd_int c15) (rdL_cons (rd_int c16) (rdL_last (rd_int c17)))))))))))))))))))
theorem rl_ship {cs : List Value} (h : Cells enc P w [.int .i64, .int .i64, .int .i64, .int .i64, .sl 95, .sl 151, .int .i64, .sl 151, .int .i64, .int .i64, .int .i64] cs) : RdL w lShip cs := by
  obtain ⟨v0, cs0, rfl, c0, h⟩ := cells_cons h
  obtain ⟨v1, cs1, rfl, c1, h⟩ := cells_cons h
  obtain ⟨v2, cs2, rfl, c2, h⟩ := cells_cons h
  obtain ⟨v3, cs3, rfl, c3, h⟩ := cells_cons h
  obtain ⟨v4, cs4, rfl, c4, h⟩ := cells_cons h
  obtain ⟨v5, cs5, rfl, c5, h⟩ := cells_cons h
  obtain ⟨v6, cs6, rfl, c6, h⟩ := cells_cons h
  obtain ⟨v7, cs7, rfl, c7, h⟩ := cells_cons h
  obtain ⟨v8, cs8, rfl, c8, h⟩ := cells_cons h
  obtain ⟨v9, cs9, rfl, c9, h⟩ := cells_cons h
  obtain ⟨v10, cs10, rfl, c10, h⟩ := cells_cons h
  obtain rfl := cells_nil h
  exact rdL_iso (rdL_cons (rd_int c0) (rdL_cons (rd_int c1) (rdL_cons (rd_int c2) (rdL_cons (rd_int c3) (rdL_cons (rx_holds c4) (rdL_cons (rx_knots c5) (rdL_cons (rd_int c6) (rdL_cons (rx_knots c7) (rdL_cons (rd_int c8) (rdL_cons (rd_int c9) (rdL_last (rd_int c10))))))))))))
variable {r : Reach} {b : Nat} {v : Value} {d : DataW H} {p : List MemPlace}
theorem rp_bulbs (hok : Value.okWide P w r b 31 v) (h : DataW.Trod enc P w 0 (fun _ => true) true 31 v d p) : RdV w dBulbs v := by
  obtain ⟨cs, rfl, hc⟩ := param_agg fl_bulbs ag_bulbs hok h
  exact rdV_agg (rl_bulbs hc)
theorem rp_survey (hok : Value.okWide P w r b 85 v) (h : DataW.Trod enc P w 0 (fun _ => true) true 85 v d p) : RdV w dSurvey v := by
  obtain ⟨cs, rfl, hc⟩ := param_agg fl_survey ag_survey hok h
  exact rdV_agg (rl_survey hc)
theorem rp_ship (hok : Value.okWide P w r b 27 v) (h : DataW.Trod enc P w 0 (fun _ => true) true 27 v d p) : RdV w dShip v := by
  obtain ⟨cs, rfl, hc⟩ := param_agg fl_ship ag_ship hok h
  exact rdV_agg (rl_ship hc)
theorem rp_int (hok : Value.okWide P w r b 3 v) (h : DataW.Trod enc P w 0 (fun _ => true) true 3 v d p) : RdV w (dI .i64) v := rd_int (param_cell fl_int ag_int hok h)
end
end Go.Proofs.YtjbhooodjmjdkaaGreat
/-! KR2 -/
namespace Go.Proofs.YtjbhooodjmjdkaaGreat
open Ev K
set_option maxRecDepth 100000
section
variable {H : Type} {enc : TypeId × Value → H} {w : World}
theorem fl_surveys : flat P 8 32 = some [.sl 85] := by kernel_rfl
theorem ag_surveys : aggB P 32 = some false := by kernel_rfl
variable {r : Reach} {b : Nat} {v : Value} {d : DataW H} {p : List MemPlace}
theorem rp_surveys (hok : Value.okWide P w r b 32 v) (h : DataW.Trod enc P w 0 (fun _ => true) true 32 v d p) : RdV w xSurveys v := rx_surveys (param_cell fl_surveys ag_surveys hok h)
end
end Go.Proofs.YtjbhooodjmjdkaaGreat
/-! KR3 -/
namespace Go.Proofs.YtjbhooodjmjdkaaGreat
open Ev K
set_option maxRecDepth 100000
section
variable {H : Type} {enc : TypeId × Value → H} {w : World}
theorem fl_ints : flat P 8 49 = some [.sl 3] := by kernel_rfl
theorem ag_ints : aggB P 49 = some false := by kernel_rfl
theorem rx_ints {v : Value} (h : CellR enc P w (.sl 3) v) : RdV w (dRows rInt) v := by
  obtain ⟨a, ha⟩ := rd_sl fl_int (by kernel_rfl) (by decide) (by decide) h
  exact ⟨decF rInt a.len fun i => a.f (a.row + i), (dRows rInt).ok _ _ rfl _ _ _ _ ha⟩
variable {r : Reach} {b : Nat} {v : Value} {d : DataW H} {p : List MemPlace}
theorem rp_ints (hok : Value.okWide P w r b 49 v) (h : DataW.Trod enc P w 0 (fun _ => true) true 49 v d p) : RdV w (dRows rInt) v := rx_ints (param_cell fl_ints ag_ints hok h)
end
end Go.Proofs.YtjbhooodjmjdkaaGreat
/-! KS -/
namespace Go.Proofs.YtjbhooodjmjdkaaGreat
open Ev
namespace K
theorem w64_in {n : Int} (h1 : -9223372036854775808 ≤ n) (h2 : n ≤ 9223372036854775807) : IntKind.wrap IntKind.i64 n = n := by
  show IntKind.wrap IntKind.i64 n = n
  unfold IntKind.wrap
  simp [IntKind.bits, IntKind.signed]
  omega
def within (n lo hi : Int) : Bool := decide (lo ≤ n) && decide (n ≤ hi)
def spans (s : Span) (lo hi : Int) : Bool := decide (lo ≤ s.lo) && (decide (s.lo ≤ s.hi) && decide (s.hi ≤ hi))
def meet (a b : Span) : Span := ⟨if b.lo > a.lo then b.lo else a.lo, if b.hi < a.hi then b.hi else a.hi⟩
def void (s : Span) : Bool := decide (s.lo > s.hi)
def both (a b : Span) : Span := ⟨IntKind.i64.wrap (a.lo + b.lo), IntKind.i64.wrap (a.hi + b.hi)⟩
def half (n : Int) : Int := IntKind.i64.wrap (Int.tdiv (IntKind.i64.wrap (n - Int.tmod (IntKind.i64.wrap (Int.tmod n 2 + 2)) 2)) 2)
def sums16 (s : Sums) : Int := IntKind.i64.wrap (s.ends + IntKind.i64.wrap (6 * s.middle))
def toldOf (g : Glass) : GlassE := ⟨g, ⟨IntKind.i64.wrap (g.shown.lo - g.dense), IntKind.i64.wrap (g.shown.hi - g.dense)⟩⟩
def rise (p : Piece) : Int := IntKind.i64.wrap (p.q.y - p.p.y)
end K
def Ev.XS.g (x : XS) (i k : Nat) : Int := numOf (x.f (x.row + i) k)
namespace K
def len (x : XS) : Nat := clampL x.len
theorem len_le (x : XS) : len x ≤ 9223372036854775807 := clampL_le _
theorem len_le' (x : XS) : len x ≤ x.len := clampL_le' _
def hyd (x : XS) (i : Nat) : Hydro := ⟨x.g i 0, ⟨x.g i 1, x.g i 2⟩⟩
def gls (x : XS) (i : Nat) : Glass := ⟨x.g i 0, x.g i 1, x.g i 2, ⟨x.g i 3, x.g i 4⟩⟩
def knt (x : XS) (i : Nat) : Knot := ⟨x.g i 0, x.g i 1⟩
def svy (x : XS) (i : Nat) : Survey := ⟨x.g i 0, x.g i 1, ⟨x.g i 2, x.g i 3⟩, ⟨x.g i 4, x.g i 5⟩, ⟨x.g i 6, x.g i 7⟩, ⟨x.g i 8, x.g i 9⟩, ⟨x.g i 10, x.g i 11⟩, ⟨x.g i 12, x.g i 13⟩, x.g i 14, x.g i 15, ⟨x.g i 16, x.g i 17⟩⟩
def hld (x : XS) (i : Nat) : Hold := ⟨x.g i 0, x.g i 1, x.g i 2, x.g i 3⟩
def glassesL (b : Bulbs) (h : Int) : List GlassE := ((List.range (len b.glasses)).filter fun i => (gls b.glasses i).hydro == h).map fun i => toldOf (gls b.glasses i)
def errs (b : Bulbs) (h : Hydro) (but : Int) : Span := (glassesL b h.id).foldl (fun c g => if g.g.id != but then meet c g.errors else c) h.off
def piecesL (c : Curve) : List (Int × Piece) := (List.range (len c.knots - 1)).map fun (i : Nat) => ((i : Int), ⟨knt c.knots i, knt c.knots (i + 1)⟩)
def first (p : Nat → Bool) (n : Nat) : Option Nat := (List.range n).find? p
def idx (p : Nat → Bool) (n : Nat) : Int := match first p n with
  | some i => i
  | none => -1
def found {α : Type} (at_ : Nat → α) (zero : α) (p : Nat → Bool) (n : Nat) : α × Int := match first p n with
  | some i => (at_ i, i)
  | none => (zero, -1)
theorem first_none {p : Nat → Bool} {n : Nat} (h : ∀ i, i < n → p i = false) : first p n = none := by
  unfold first; rw [List.find?_eq_none]; intro x hx; have := h x (List.mem_range.1 hx); simp [this]
theorem first_some {p : Nat → Bool} {n i : Nat} (hi : i < n) (hp : p i = true) (h : ∀ j, j < i → p j = false) : first p n = some i := by
  unfold first
  rw [List.find?_range_eq_some]
  exact ⟨hp, List.mem_range.2 hi, fun j hj => by simp [h j hj]⟩
theorem first_spec {p : Nat → Bool} {n i : Nat} (h : first p n = some i) : i < n ∧ p i = true ∧ ∀ j, j < i → p j = false := by
  unfold first at h
  rw [List.find?_range_eq_some] at h
  exact ⟨List.mem_range.1 h.2.1, h.1, fun j hj => by simpa using h.2.2 j hj⟩
theorem first_none' {p : Nat → Bool} {n : Nat} (h : first p n = none) : ∀ i, i < n → p i = false := by
  unfold first at h; rw [List.find?_eq_none] at h; intro i hi; simpa using h i (List.mem_range.2 hi)
end K
theorem obs_ret {ρ : Type} {o : Option ρ} {r : ρ} (h : (T.obs o T.ret).run = some r) : o = some r := by
  cases o with
  | none => simp [T.run] at h
  | some x => simpa [T.run] using h
theorem br_step {ρ : Type} {b : Bool} {t e : T ρ} {x y : ρ} (h1 : b = true → t.run = some x) (h2 : ¬ b = true → e.run = some y) : (T.br b t e).run = some (if b = true then x else y) := by
  cases b with
  | true => exact h1 rfl
  | false => exact h2 (by simp)
theorem chk_step {ρ : Type} {g : Bool} {t : T ρ} {r : Option ρ} (h1 : g = true) (h2 : t.run = r) : (T.chk g t).run = r := by subst h1; exact h2
theorem chk_ret {ρ : Type} {g : Bool} {x r : ρ} (h : (T.chk g (.ret x)).run = some r) : g = true ∧ x = r := by
  cases g with
  | true => exact ⟨rfl, by simpa [T.run] using h⟩
  | false => simp [T.run] at h
theorem ret_some {ρ : Type} {x r : ρ} (h : (T.ret x).run = some r) : x = r := by simpa [T.run] using h
def K.orr {ε α : Type} (f : ε → α) (z : α) : Option ε → α
  | some x => f x
  | none => z
section
variable {σ ρ : Type} {step : σ → Option (σ ⊕ ρ)}
theorem lim_until (S : Nat → σ) : ∀ (n k : Nat), (∀ i, k ≤ i → i < k + n → step (S i) = some (.inl (S (i + 1)))) → lim step (S k) = lim step (S (k + n))
  | 0, _, _ => rfl
  | n + 1, k, h => by
    rw [lim_step (h k (Nat.le_refl _) (by omega)), lim_until S n (k + 1) (fun i h1 h2 => h i (by omega) (by omega))]
    congr 2; omega
theorem lim_find (S : Nat → σ) (n : Nat) (p : Nat → Bool) (hit : Nat → ρ) (miss : ρ) (h1 : ∀ i, i < n → p i = true → step (S i) = some (.inr (hit i)))
    (h2 : ∀ i, i < n → p i = false → step (S i) = some (.inl (S (i + 1)))) (h3 : step (S n) = some (.inr miss)) : lim step (S 0) = some (match K.first p n with | some i => hit i | none => miss) := by
  cases hf : K.first p n with
  | none =>
    have := K.first_none' hf
    have e := lim_until S n 0 (fun i _ hi => h2 i (by omega) (this i (by omega)))
    rw [e, Nat.zero_add]; exact lim_done h3
  | some i =>
    obtain ⟨g1, g2, g3⟩ := K.first_spec hf
    have e := lim_until S i 0 (fun j _ hj => h2 j (by omega) (g3 j (by omega)))
    rw [e, Nat.zero_add]; exact lim_done (h1 i g1 g2)
section
variable (S : Nat → List (List AV × Bool) → σ) {n : Nat} (p : Nat → Bool) (e : Nat → List AV) {bs : Nat → Bool} (stop fin : List (List AV × Bool) → ρ)
  (h1 : ∀ i, i < n → ∀ out, p i = false → step (S i out) = some (.inl (S (i + 1) out)))
  (h2 : ∀ i, i < n → ∀ out, p i = true → bs out.length = true → step (S i out) = some (.inl (S (i + 1) ((e i, true) :: out))))
  (h3 : ∀ i, i < n → ∀ out, p i = true → bs out.length = false → step (S i out) = some (.inr (stop ((e i, false) :: out))))
  (h4 : ∀ out, step (S n out) = some (.inr (fin out)))
include h1 h2 h4
theorem lim_yields_all (hb : ∀ k, bs k = true) : ∀ k i out, i + k = n → lim step (S i out) = some (fin ((((List.range' i k).filter p).map fun i => (e i, true)).reverse ++ out))
  | 0, i, out, h => by
    have : i = n := by omega
    subst this; simp; exact lim_done (h4 out)
  | k + 1, i, out, h => by
    rw [List.range'_succ]
    cases hp : p i with
    | false => rw [lim_step (h1 i (by omega) out hp), lim_yields_all hb k (i + 1) out (by omega)]; simp [hp]
    | true => rw [lim_step (h2 i (by omega) out hp (hb _)), lim_yields_all hb k (i + 1) _ (by omega)]; simp [hp]
include h3
omit h4 in
theorem lim_yields_stop {m : Nat} {x : List AV} (hb : ∀ k, bs k = !(Nat.beq k m)) : ∀ k i out, i + k = n → out.length ≤ m → (((List.range' i k).filter p).map e)[m - out.length]? = some x →
    lim step (S i out) = some (stop ((x, false) :: (((((List.range' i k).filter p).map e).take (m - out.length)).map fun x => (x, true)).reverse ++ out))
  | 0, i, out, h, _, hx => by simp at hx
  | k + 1, i, out, h, hm, hx => by
    rw [List.range'_succ] at hx ⊢
    cases hp : p i with
    | false =>
      rw [lim_step (h1 i (by omega) out hp)]
      simp only [List.filter_cons, hp] at hx ⊢
      exact lim_yields_stop hb k (i + 1) out (by omega) hm (by simpa using hx)
    | true =>
      simp only [List.filter_cons, hp, if_true, List.map_cons] at hx ⊢
      by_cases hml : out.length = m
      · have hbf : bs out.length = false := by rw [hb, hml]; simp
        rw [lim_done (h3 i (by omega) out hp hbf)]
        rw [show m - out.length = 0 by omega] at hx ⊢
        simp at hx; subst hx; simp
      · have hbt : bs out.length = true := by rw [hb]; cases h : Nat.beq out.length m with
          | false => rfl
          | true => exact absurd (Nat.eq_of_beq_eq_true h) hml
        rw [lim_step (h2 i (by omega) out hp hbt)]
        have e1 : m - out.length = (m - (((e i, true) :: out).length)) + 1 := by simp; omega
        rw [e1] at hx ⊢
        rw [lim_yields_stop hb k (i + 1) _ (by omega) (by simp; omega) (by simpa using hx)]
        simp
end
theorem foldS_total {β : Type} {step : σ → β → Option (σ ⊕ ρ)} {f : σ → β → σ} (h : ∀ s x, step s x = some (.inl (f s x))) : ∀ (L : List β) (s : σ), foldS step L s = some (.inl (L.foldl f s))
  | [], s => rfl
  | x :: L, s => by simp only [foldS, h, List.foldl_cons]; exact foldS_total h L _
theorem lim_err {ε : Type} (S : Nat → σ) (n : Nat) (e : Nat → Option ε) (hit : ε → ρ) (miss : ρ) (h : ∀ i, i < n → step (S i) = some (K.orr (fun x => .inr (hit x)) (.inl (S (i + 1))) (e i)))
    (h3 : step (S n) = some (.inr miss)) : lim step (S 0) = some (K.orr hit miss ((List.range n).findSome? e)) := by
  have key : ∀ k i, i + k = n → lim step (S i) = some (K.orr hit miss ((List.range' i k).findSome? e)) := by
    intro k
    induction k with
    | zero => intro i hi; have : i = n := by omega
              subst this; exact lim_done h3
    | succ k ih =>
      intro i hi
      have := h i (by omega)
      rw [List.range'_succ, List.findSome?_cons]
      cases he : e i with
      | some x => rw [he] at this; exact lim_done this
      | none => rw [he] at this; rw [lim_step this]; exact ih (i + 1) (by omega)
  rw [List.range_eq_range']; exact key n 0 (by omega)
theorem lim_fold {α : Type} (S : Nat → α → σ) (n : Nat) (f : α → Nat → α) (fin : α → ρ) (h : ∀ i, i < n → ∀ a, step (S i a) = some (.inl (S (i + 1) (f a i)))) (h2 : ∀ a, step (S n a) = some (.inr (fin a))) (a : α) :
    lim step (S 0 a) = some (fin ((List.range n).foldl f a)) := by
  have key : ∀ k i a, i + k = n → lim step (S i a) = some (fin ((List.range' i k).foldl f a)) := by
    intro k
    induction k with
    | zero => intro i a hi; have : i = n := by omega
              subst this; exact lim_done (h2 a)
    | succ k ih => intro i a hi; rw [lim_step (h i (by omega) a), List.range'_succ, List.foldl_cons]; exact ih (i + 1) _ (by omega)
  rw [List.range_eq_range']; exact key n 0 a (by omega)
theorem lim_all (S : Nat → σ) (n : Nat) {r : ρ} (h : ∀ i, i < n → step (S i) = some (.inl (S (i + 1)))) (h2 : step (S n) = some (.inr r)) : lim step (S 0) = some r := by
  have e := lim_until S n 0 (fun i _ hi => h i (by omega))
  rw [e, Nat.zero_add]; exact lim_done h2
end
end Go.Proofs.YtjbhooodjmjdkaaGreat
/-! KA -/
namespace Go.Proofs.YtjbhooodjmjdkaaGreat
open Ev K
def D_within := DecL.cons (dI .i64) (.cons (dI .i64) (.last (dI .i64) 0))
theorem tr_within : ∀ a, (callT1 P B0 30 83 D_within dB) a = T.run (
  .br (decide (Prod.fst (Prod.snd a) ≤ Prod.fst a)) (
    .ret (decide (Prod.fst a ≤ Prod.snd (Prod.snd a)))) (
    .ret (false))) := fun a => by kernel_rfl
noncomputable def BKA1 : Tab := B0.addCall 83 (callE D_within dB (fun a => .ret (within a.1 a.2.1 a.2.2)))
theorem tKA1 : TabOk P BKA1 := TabOk.addFn (d := 30) okP t0 (fun a r h => by rw [tr_within]; simp only [T.run, Option.some.injEq] at h ⊢; subst h; unfold within; cases decide (a.2.1 ≤ a.1) <;> rfl)
theorem tr_hwithin : ∀ a, (callT1 P BKA1 30 107 D_within dB) a = T.run (
  .br (decide (Prod.fst (Prod.snd a) ≤ Prod.fst a)) (
    .ret (decide (Prod.fst a ≤ Prod.snd (Prod.snd a)))) (
    .ret (false))) := fun a => by kernel_rfl
noncomputable def BKA2 : Tab := BKA1.addCall 107 (callE D_within dB (fun a => .ret (within a.1 a.2.1 a.2.2)))
theorem tKA2 : TabOk P BKA2 := TabOk.addFn (d := 30) okP tKA1 (fun a r h => by rw [tr_hwithin]; simp only [T.run, Option.some.injEq] at h ⊢; subst h; unfold within; cases decide (a.2.1 ≤ a.1) <;> rfl)
theorem tr_cwithin : ∀ a, (callT1 P BKA2 30 190 D_within dB) a = T.run (
  .br (decide (Prod.fst (Prod.snd a) ≤ Prod.fst a)) (
    .ret (decide (Prod.fst a ≤ Prod.snd (Prod.snd a)))) (
    .ret (false))) := fun a => by kernel_rfl
noncomputable def BKA3 : Tab := BKA2.addCall 190 (callE D_within dB (fun a => .ret (within a.1 a.2.1 a.2.2)))
theorem tKA3 : TabOk P BKA3 := TabOk.addFn (d := 30) okP tKA2 (fun a r h => by rw [tr_cwithin]; simp only [T.run, Option.some.injEq] at h ⊢; subst h; unfold within; cases decide (a.2.1 ≤ a.1) <;> rfl)
def D_spans := DecL.cons (dSpan) (.cons (dI .i64) (.last (dI .i64) 0))
theorem tr_spans : ∀ a, (callT1 P BKA3 30 84 D_spans dB) a = T.run (
  .br (decide (Prod.fst (Prod.snd a) ≤ Span.lo (Prod.fst a))) (
    .br (decide (Span.lo (Prod.fst a) ≤ Span.hi (Prod.fst a))) (
      .ret (decide (Span.hi (Prod.fst a) ≤ Prod.snd (Prod.snd a)))) (
      .ret (false))) (
    .ret (false))) := fun a => by kernel_rfl
noncomputable def BKA4 : Tab := BKA3.addCall 84 (callE D_spans dB (fun a => .ret (spans a.1 a.2.1 a.2.2)))
theorem tKA4 : TabOk P BKA4 := TabOk.addFn (d := 30) okP tKA3 (fun a r h => by rw [tr_spans]; simp only [T.run, Option.some.injEq] at h ⊢; subst h; unfold spans; cases decide (a.2.1 ≤ a.1.lo) <;> cases decide (a.1.lo ≤ a.1.hi) <;> rfl)
def D_meet := DecL.cons (dSpan) (.last (dSpan) 0)
theorem tr_meet : ∀ a, (callT1 P BKA4 30 74 D_meet dSpan) a = T.run (
  .ret (Span.mk (if Span.lo (Prod.snd a) > Span.lo (Prod.fst a) then Span.lo (Prod.snd a) else Span.lo (Prod.fst a)) (if Span.hi (Prod.snd a) < Span.hi (Prod.fst a) then Span.hi (Prod.snd a) else Span.hi (Prod.fst a)))) := fun a => by kernel_rfl
noncomputable def BKA5 : Tab := BKA4.addCall 74 (callE D_meet dSpan (fun a => .ret (meet a.1 a.2)))
theorem tKA5 : TabOk P BKA5 := TabOk.addFn (d := 30) okP tKA4 (fun a r h => by rw [tr_meet]; exact h)
def D_void := DecL.last (dSpan) 0
theorem tr_void : ∀ a, (callT1 P BKA5 30 49 D_void dB) a = T.run (
  .ret (decide (Span.lo a > Span.hi a))) := fun a => by kernel_rfl
noncomputable def BKA6 : Tab := BKA5.addCall 49 (callE D_void dB (fun a => .ret (void a)))
theorem tKA6 : TabOk P BKA6 := TabOk.addFn (d := 30) okP tKA5 (fun a r h => by rw [tr_void]; exact h)
theorem tr_both : ∀ a, (callT1 P BKA6 30 139 D_meet dSpan) a = T.run (
  .ret (Span.mk (IntKind.wrap IntKind.i64 (Span.lo (Prod.fst a) + Span.lo (Prod.snd a))) (IntKind.wrap IntKind.i64 (Span.hi (Prod.fst a) + Span.hi (Prod.snd a))))) := fun a => by kernel_rfl
noncomputable def BKA7 : Tab := BKA6.addCall 139 (callE D_meet dSpan (fun a => .ret (both a.1 a.2)))
theorem tKA7 : TabOk P BKA7 := TabOk.addFn (d := 30) okP tKA6 (fun a r h => by rw [tr_both]; exact h)
def D_half := DecL.last (dI .i64) 0
theorem tr_half : ∀ a, (callT1 P BKA7 30 140 D_half (dI .i64)) a = T.run (
  .ret (IntKind.wrap IntKind.i64 (Int.tdiv (IntKind.wrap IntKind.i64 (a - Int.tmod (IntKind.wrap IntKind.i64 (Int.tmod a (2 : Int) + (2 : Int))) (2 : Int))) (2 : Int)))) := fun a => by kernel_rfl
noncomputable def BKA8 : Tab := BKA7.addCall 140 (callE D_half (dI .i64) (fun a => .ret (half a)))
theorem tKA8 : TabOk P BKA8 := TabOk.addFn (d := 30) okP tKA7 (fun a r h => by rw [tr_half]; exact h)
def D_sums16 := DecL.last (dSums) 0
theorem tr_sums16 : ∀ a, (callT1 P BKA8 30 95 D_sums16 (dI .i64)) a = T.run (
  .ret (IntKind.wrap IntKind.i64 (Sums.ends a + IntKind.wrap IntKind.i64 ((6 : Int) * Sums.middle a)))) := fun a => by kernel_rfl
noncomputable def BKA9 : Tab := BKA8.addCall 95 (callE D_sums16 (dI .i64) (fun a => .ret (sums16 a)))
theorem tKA9 : TabOk P BKA9 := TabOk.addFn (d := 30) okP tKA8 (fun a r h => by rw [tr_sums16]; exact h)
def D_rise := DecL.last (dPiece) 0
theorem tr_rise : ∀ a, (callT1 P BKA9 30 216 D_rise (dI .i64)) a = T.run (
  .ret (IntKind.wrap IntKind.i64 (Knot.y (Piece.q a) - Knot.y (Piece.p a)))) := fun a => by kernel_rfl
noncomputable def BKA10 : Tab := BKA9.addCall 216 (callE D_rise (dI .i64) (fun a => .ret (rise a)))
theorem tKA10 : TabOk P BKA10 := TabOk.addFn (d := 30) okP tKA9 (fun a r h => by rw [tr_rise]; exact h)
def D_extremes := DecL.last (dSurvey) 0
def R_extremes := dTup (.cons (dAgg (.cons (dI .i64) (.cons (dI .i64) (.cons (dI .i64) (.last (dI .i64) 0))))) (.last (dB) 0))
theorem tr_extremes : ∀ a, (callT1 P BKA10 30 94 D_extremes R_extremes) a = T.run (
  .br (void (Span.mk (Span.lo (meet (Span.mk (Span.lo (both (Span.mk (Span.lo (Survey.m2 a)) (Span.hi (Survey.m2 a))) (Span.mk (Span.lo (Survey.m3 a)) (Span.hi (Survey.m3 a))))) (Span.hi (both (Span.mk (Span.lo (Survey.m2 a)) (Span.hi (Survey.m2 a))) (Span.mk (Span.lo (Survey.m3 a)) (Span.hi (Survey.m3 a)))))) (Span.mk (IntKind.wrap IntKind.i64 ((0 : Int) - half (IntKind.wrap IntKind.i64 (IntKind.wrap IntKind.i64 ((4 : Int) * Survey.sag a) - Span.lo (both (Span.mk (Span.lo (both (Span.mk (Span.lo (Survey.m0 a)) (Span.hi (Survey.m0 a))) (Span.mk (Span.lo (Survey.m1 a)) (Span.hi (Survey.m1 a))))) (Span.hi (both (Span.mk (Span.lo (Survey.m0 a)) (Span.hi (Survey.m0 a))) (Span.mk (Span.lo (Survey.m1 a)) (Span.hi (Survey.m1 a)))))) (Span.mk (Span.lo (both (Span.mk (Span.lo (Survey.m4 a)) (Span.hi (Survey.m4 a))) (Span.mk (Span.lo (Survey.m5 a)) (Span.hi (Survey.m5 a))))) (Span.hi (both (Span.mk (Span.lo (Survey.m4 a)) (Span.hi (Survey.m4 a))) (Span.mk (Span.lo (Survey.m5 a)) (Span.hi (Survey.m5 a))))))))))) (half (IntKind.wrap IntKind.i64 (Span.hi (both (Span.mk (Span.lo (both (Span.mk (Span.lo (Survey.m0 a)) (Span.hi (Survey.m0 a))) (Span.mk (Span.lo (Survey.m1 a)) (Span.hi (Survey.m1 a))))) (Span.hi (both (Span.mk (Span.lo (Survey.m0 a)) (Span.hi (Survey.m0 a))) (Span.mk (Span.lo (Survey.m1 a)) (Span.hi (Survey.m1 a)))))) (Span.mk (Span.lo (both (Span.mk (Span.lo (Survey.m4 a)) (Span.hi (Survey.m4 a))) (Span.mk (Span.lo (Survey.m5 a)) (Span.hi (Survey.m5 a))))) (Span.hi (both (Span.mk (Span.lo (Survey.m4 a)) (Span.hi (Survey.m4 a))) (Span.mk (Span.lo (Survey.m5 a)) (Span.hi (Survey.m5 a))))))) + IntKind.wrap IntKind.i64 ((4 : Int) * Survey.sag a))))))) (Span.hi (meet (Span.mk (Span.lo (both (Span.mk (Span.lo (Survey.m2 a)) (Span.hi (Survey.m2 a))) (Span.mk (Span.lo (Survey.m3 a)) (Span.hi (Survey.m3 a))))) (Span.hi (both (Span.mk (Span.lo (Survey.m2 a)) (Span.hi (Survey.m2 a))) (Span.mk (Span.lo (Survey.m3 a)) (Span.hi (Survey.m3 a)))))) (Span.mk (IntKind.wrap IntKind.i64 ((0 : Int) - half (IntKind.wrap IntKind.i64 (IntKind.wrap IntKind.i64 ((4 : Int) * Survey.sag a) - Span.lo (both (Span.mk (Span.lo (both (Span.mk (Span.lo (Survey.m0 a)) (Span.hi (Survey.m0 a))) (Span.mk (Span.lo (Survey.m1 a)) (Span.hi (Survey.m1 a))))) (Span.hi (both (Span.mk (Span.lo (Survey.m0 a)) (Span.hi (Survey.m0 a))) (Span.mk (Span.lo (Survey.m1 a)) (Span.hi (Survey.m1 a)))))) (Span.mk (Span.lo (both (Span.mk (Span.lo (Survey.m4 a)) (Span.hi (Survey.m4 a))) (Span.mk (Span.lo (Survey.m5 a)) (Span.hi (Survey.m5 a))))) (Span.hi (both (Span.mk (Span.lo (Survey.m4 a)) (Span.hi (Survey.m4 a))) (Span.mk (Span.lo (Survey.m5 a)) (Span.hi (Survey.m5 a))))))))))) (half (IntKind.wrap IntKind.i64 (Span.hi (both (Span.mk (Span.lo (both (Span.mk (Span.lo (Survey.m0 a)) (Span.hi (Survey.m0 a))) (Span.mk (Span.lo (Survey.m1 a)) (Span.hi (Survey.m1 a))))) (Span.hi (both (Span.mk (Span.lo (Survey.m0 a)) (Span.hi (Survey.m0 a))) (Span.mk (Span.lo (Survey.m1 a)) (Span.hi (Survey.m1 a)))))) (Span.mk (Span.lo (both (Span.mk (Span.lo (Survey.m4 a)) (Span.hi (Survey.m4 a))) (Span.mk (Span.lo (Survey.m5 a)) (Span.hi (Survey.m5 a))))) (Span.hi (both (Span.mk (Span.lo (Survey.m4 a)) (Span.hi (Survey.m4 a))) (Span.mk (Span.lo (Survey.m5 a)) (Span.hi (Survey.m5 a))))))) + IntKind.wrap IntKind.i64 ((4 : Int) * Survey.sag a))))))))) (
    .ret ((((0 : Int), (0 : Int), (0 : Int), (0 : Int)), false))) (
    .ret (((if IntKind.wrap IntKind.i64 (IntKind.wrap IntKind.i64 ((2 : Int) * Span.lo (meet (Span.mk (Span.lo (both (Span.mk (Span.lo (Survey.m2 a)) (Span.hi (Survey.m2 a))) (Span.mk (Span.lo (Survey.m3 a)) (Span.hi (Survey.m3 a))))) (Span.hi (both (Span.mk (Span.lo (Survey.m2 a)) (Span.hi (Survey.m2 a))) (Span.mk (Span.lo (Survey.m3 a)) (Span.hi (Survey.m3 a)))))) (Span.mk (IntKind.wrap IntKind.i64 ((0 : Int) - half (IntKind.wrap IntKind.i64 (IntKind.wrap IntKind.i64 ((4 : Int) * Survey.sag a) - Span.lo (both (Span.mk (Span.lo (both (Span.mk (Span.lo (Survey.m0 a)) (Span.hi (Survey.m0 a))) (Span.mk (Span.lo (Survey.m1 a)) (Span.hi (Survey.m1 a))))) (Span.hi (both (Span.mk (Span.lo (Survey.m0 a)) (Span.hi (Survey.m0 a))) (Span.mk (Span.lo (Survey.m1 a)) (Span.hi (Survey.m1 a)))))) (Span.mk (Span.lo (both (Span.mk (Span.lo (Survey.m4 a)) (Span.hi (Survey.m4 a))) (Span.mk (Span.lo (Survey.m5 a)) (Span.hi (Survey.m5 a))))) (Span.hi (both (Span.mk (Span.lo (Survey.m4 a)) (Span.hi (Survey.m4 a))) (Span.mk (Span.lo (Survey.m5 a)) (Span.hi (Survey.m5 a))))))))))) (half (IntKind.wrap IntKind.i64 (Span.hi (both (Span.mk (Span.lo (both (Span.mk (Span.lo (Survey.m0 a)) (Span.hi (Survey.m0 a))) (Span.mk (Span.lo (Survey.m1 a)) (Span.hi (Survey.m1 a))))) (Span.hi (both (Span.mk (Span.lo (Survey.m0 a)) (Span.hi (Survey.m0 a))) (Span.mk (Span.lo (Survey.m1 a)) (Span.hi (Survey.m1 a)))))) (Span.mk (Span.lo (both (Span.mk (Span.lo (Survey.m4 a)) (Span.hi (Survey.m4 a))) (Span.mk (Span.lo (Survey.m5 a)) (Span.hi (Survey.m5 a))))) (Span.hi (both (Span.mk (Span.lo (Survey.m4 a)) (Span.hi (Survey.m4 a))) (Span.mk (Span.lo (Survey.m5 a)) (Span.hi (Survey.m5 a))))))) + IntKind.wrap IntKind.i64 ((4 : Int) * Survey.sag a))))))) - IntKind.wrap IntKind.i64 ((4 : Int) * Survey.sag a)) > Span.lo (both (Span.mk (Span.lo (both (Span.mk (Span.lo (Survey.m0 a)) (Span.hi (Survey.m0 a))) (Span.mk (Span.lo (Survey.m1 a)) (Span.hi (Survey.m1 a))))) (Span.hi (both (Span.mk (Span.lo (Survey.m0 a)) (Span.hi (Survey.m0 a))) (Span.mk (Span.lo (Survey.m1 a)) (Span.hi (Survey.m1 a)))))) (Span.mk (Span.lo (both (Span.mk (Span.lo (Survey.m4 a)) (Span.hi (Survey.m4 a))) (Span.mk (Span.lo (Survey.m5 a)) (Span.hi (Survey.m5 a))))) (Span.hi (both (Span.mk (Span.lo (Survey.m4 a)) (Span.hi (Survey.m4 a))) (Span.mk (Span.lo (Survey.m5 a)) (Span.hi (Survey.m5 a))))))) then IntKind.wrap IntKind.i64 (IntKind.wrap IntKind.i64 ((2 : Int) * Span.lo (meet (Span.mk (Span.lo (both (Span.mk (Span.lo (Survey.m2 a)) (Span.hi (Survey.m2 a))) (Span.mk (Span.lo (Survey.m3 a)) (Span.hi (Survey.m3 a))))) (Span.hi (both (Span.mk (Span.lo (Survey.m2 a)) (Span.hi (Survey.m2 a))) (Span.mk (Span.lo (Survey.m3 a)) (Span.hi (Survey.m3 a)))))) (Span.mk (IntKind.wrap IntKind.i64 ((0 : Int) - half (IntKind.wrap IntKind.i64 (IntKind.wrap IntKind.i64 ((4 : Int) * Survey.sag a) - Span.lo (both (Span.mk (Span.lo (both (Span.mk (Span.lo (Survey.m0 a)) (Span.hi (Survey.m0 a))) (Span.mk (Span.lo (Survey.m1 a)) (Span.hi (Survey.m1 a))))) (Span.hi (both (Span.mk (Span.lo (Survey.m0 a)) (Span.hi (Survey.m0 a))) (Span.mk (Span.lo (Survey.m1 a)) (Span.hi (Survey.m1 a)))))) (Span.mk (Span.lo (both (Span.mk (Span.lo (Survey.m4 a)) (Span.hi (Survey.m4 a))) (Span.mk (Span.lo (Survey.m5 a)) (Span.hi (Survey.m5 a))))) (Span.hi (both (Span.mk (Span.lo (Survey.m4 a)) (Span.hi (Survey.m4 a))) (Span.mk (Span.lo (Survey.m5 a)) (Span.hi (Survey.m5 a))))))))))) (half (IntKind.wrap IntKind.i64 (Span.hi (both (Span.mk (Span.lo (both (Span.mk (Span.lo (Survey.m0 a)) (Span.hi (Survey.m0 a))) (Span.mk (Span.lo (Survey.m1 a)) (Span.hi (Survey.m1 a))))) (Span.hi (both (Span.mk (Span.lo (Survey.m0 a)) (Span.hi (Survey.m0 a))) (Span.mk (Span.lo (Survey.m1 a)) (Span.hi (Survey.m1 a)))))) (Span.mk (Span.lo (both (Span.mk (Span.lo (Survey.m4 a)) (Span.hi (Survey.m4 a))) (Span.mk (Span.lo (Survey.m5 a)) (Span.hi (Survey.m5 a))))) (Span.hi (both (Span.mk (Span.lo (Survey.m4 a)) (Span.hi (Survey.m4 a))) (Span.mk (Span.lo (Survey.m5 a)) (Span.hi (Survey.m5 a))))))) + IntKind.wrap IntKind.i64 ((4 : Int) * Survey.sag a))))))) - IntKind.wrap IntKind.i64 ((4 : Int) * Survey.sag a)) else Span.lo (both (Span.mk (Span.lo (both (Span.mk (Span.lo (Survey.m0 a)) (Span.hi (Survey.m0 a))) (Span.mk (Span.lo (Survey.m1 a)) (Span.hi (Survey.m1 a))))) (Span.hi (both (Span.mk (Span.lo (Survey.m0 a)) (Span.hi (Survey.m0 a))) (Span.mk (Span.lo (Survey.m1 a)) (Span.hi (Survey.m1 a)))))) (Span.mk (Span.lo (both (Span.mk (Span.lo (Survey.m4 a)) (Span.hi (Survey.m4 a))) (Span.mk (Span.lo (Survey.m5 a)) (Span.hi (Survey.m5 a))))) (Span.hi (both (Span.mk (Span.lo (Survey.m4 a)) (Span.hi (Survey.m4 a))) (Span.mk (Span.lo (Survey.m5 a)) (Span.hi (Survey.m5 a))))))), Span.lo (meet (Span.mk (Span.lo (both (Span.mk (Span.lo (Survey.m2 a)) (Span.hi (Survey.m2 a))) (Span.mk (Span.lo (Survey.m3 a)) (Span.hi (Survey.m3 a))))) (Span.hi (both (Span.mk (Span.lo (Survey.m2 a)) (Span.hi (Survey.m2 a))) (Span.mk (Span.lo (Survey.m3 a)) (Span.hi (Survey.m3 a)))))) (Span.mk (IntKind.wrap IntKind.i64 ((0 : Int) - half (IntKind.wrap IntKind.i64 (IntKind.wrap IntKind.i64 ((4 : Int) * Survey.sag a) - Span.lo (both (Span.mk (Span.lo (both (Span.mk (Span.lo (Survey.m0 a)) (Span.hi (Survey.m0 a))) (Span.mk (Span.lo (Survey.m1 a)) (Span.hi (Survey.m1 a))))) (Span.hi (both (Span.mk (Span.lo (Survey.m0 a)) (Span.hi (Survey.m0 a))) (Span.mk (Span.lo (Survey.m1 a)) (Span.hi (Survey.m1 a)))))) (Span.mk (Span.lo (both (Span.mk (Span.lo (Survey.m4 a)) (Span.hi (Survey.m4 a))) (Span.mk (Span.lo (Survey.m5 a)) (Span.hi (Survey.m5 a))))) (Span.hi (both (Span.mk (Span.lo (Survey.m4 a)) (Span.hi (Survey.m4 a))) (Span.mk (Span.lo (Survey.m5 a)) (Span.hi (Survey.m5 a))))))))))) (half (IntKind.wrap IntKind.i64 (Span.hi (both (Span.mk (Span.lo (both (Span.mk (Span.lo (Survey.m0 a)) (Span.hi (Survey.m0 a))) (Span.mk (Span.lo (Survey.m1 a)) (Span.hi (Survey.m1 a))))) (Span.hi (both (Span.mk (Span.lo (Survey.m0 a)) (Span.hi (Survey.m0 a))) (Span.mk (Span.lo (Survey.m1 a)) (Span.hi (Survey.m1 a)))))) (Span.mk (Span.lo (both (Span.mk (Span.lo (Survey.m4 a)) (Span.hi (Survey.m4 a))) (Span.mk (Span.lo (Survey.m5 a)) (Span.hi (Survey.m5 a))))) (Span.hi (both (Span.mk (Span.lo (Survey.m4 a)) (Span.hi (Survey.m4 a))) (Span.mk (Span.lo (Survey.m5 a)) (Span.hi (Survey.m5 a))))))) + IntKind.wrap IntKind.i64 ((4 : Int) * Survey.sag a)))))), if IntKind.wrap IntKind.i64 (IntKind.wrap IntKind.i64 ((2 : Int) * Span.hi (meet (Span.mk (Span.lo (both (Span.mk (Span.lo (Survey.m2 a)) (Span.hi (Survey.m2 a))) (Span.mk (Span.lo (Survey.m3 a)) (Span.hi (Survey.m3 a))))) (Span.hi (both (Span.mk (Span.lo (Survey.m2 a)) (Span.hi (Survey.m2 a))) (Span.mk (Span.lo (Survey.m3 a)) (Span.hi (Survey.m3 a)))))) (Span.mk (IntKind.wrap IntKind.i64 ((0 : Int) - half (IntKind.wrap IntKind.i64 (IntKind.wrap IntKind.i64 ((4 : Int) * Survey.sag a) - Span.lo (both (Span.mk (Span.lo (both (Span.mk (Span.lo (Survey.m0 a)) (Span.hi (Survey.m0 a))) (Span.mk (Span.lo (Survey.m1 a)) (Span.hi (Survey.m1 a))))) (Span.hi (both (Span.mk (Span.lo (Survey.m0 a)) (Span.hi (Survey.m0 a))) (Span.mk (Span.lo (Survey.m1 a)) (Span.hi (Survey.m1 a)))))) (Span.mk (Span.lo (both (Span.mk (Span.lo (Survey.m4 a)) (Span.hi (Survey.m4 a))) (Span.mk (Span.lo (Survey.m5 a)) (Span.hi (Survey.m5 a))))) (Span.hi (both (Span.mk (Span.lo (Survey.m4 a)) (Span.hi (Survey.m4 a))) (Span.mk (Span.lo (Survey.m5 a)) (Span.hi (Survey.m5 a))))))))))) (half (IntKind.wrap IntKind.i64 (Span.hi (both (Span.mk (Span.lo (both (Span.mk (Span.lo (Survey.m0 a)) (Span.hi (Survey.m0 a))) (Span.mk (Span.lo (Survey.m1 a)) (Span.hi (Survey.m1 a))))) (Span.hi (both (Span.mk (Span.lo (Survey.m0 a)) (Span.hi (Survey.m0 a))) (Span.mk (Span.lo (Survey.m1 a)) (Span.hi (Survey.m1 a)))))) (Span.mk (Span.lo (both (Span.mk (Span.lo (Survey.m4 a)) (Span.hi (Survey.m4 a))) (Span.mk (Span.lo (Survey.m5 a)) (Span.hi (Survey.m5 a))))) (Span.hi (both (Span.mk (Span.lo (Survey.m4 a)) (Span.hi (Survey.m4 a))) (Span.mk (Span.lo (Survey.m5 a)) (Span.hi (Survey.m5 a))))))) + IntKind.wrap IntKind.i64 ((4 : Int) * Survey.sag a))))))) + IntKind.wrap IntKind.i64 ((4 : Int) * Survey.sag a)) < Span.hi (both (Span.mk (Span.lo (both (Span.mk (Span.lo (Survey.m0 a)) (Span.hi (Survey.m0 a))) (Span.mk (Span.lo (Survey.m1 a)) (Span.hi (Survey.m1 a))))) (Span.hi (both (Span.mk (Span.lo (Survey.m0 a)) (Span.hi (Survey.m0 a))) (Span.mk (Span.lo (Survey.m1 a)) (Span.hi (Survey.m1 a)))))) (Span.mk (Span.lo (both (Span.mk (Span.lo (Survey.m4 a)) (Span.hi (Survey.m4 a))) (Span.mk (Span.lo (Survey.m5 a)) (Span.hi (Survey.m5 a))))) (Span.hi (both (Span.mk (Span.lo (Survey.m4 a)) (Span.hi (Survey.m4 a))) (Span.mk (Span.lo (Survey.m5 a)) (Span.hi (Survey.m5 a))))))) then IntKind.wrap IntKind.i64 (IntKind.wrap IntKind.i64 ((2 : Int) * Span.hi (meet (Span.mk (Span.lo (both (Span.mk (Span.lo (Survey.m2 a)) (Span.hi (Survey.m2 a))) (Span.mk (Span.lo (Survey.m3 a)) (Span.hi (Survey.m3 a))))) (Span.hi (both (Span.mk (Span.lo (Survey.m2 a)) (Span.hi (Survey.m2 a))) (Span.mk (Span.lo (Survey.m3 a)) (Span.hi (Survey.m3 a)))))) (Span.mk (IntKind.wrap IntKind.i64 ((0 : Int) - half (IntKind.wrap IntKind.i64 (IntKind.wrap IntKind.i64 ((4 : Int) * Survey.sag a) - Span.lo (both (Span.mk (Span.lo (both (Span.mk (Span.lo (Survey.m0 a)) (Span.hi (Survey.m0 a))) (Span.mk (Span.lo (Survey.m1 a)) (Span.hi (Survey.m1 a))))) (Span.hi (both (Span.mk (Span.lo (Survey.m0 a)) (Span.hi (Survey.m0 a))) (Span.mk (Span.lo (Survey.m1 a)) (Span.hi (Survey.m1 a)))))) (Span.mk (Span.lo (both (Span.mk (Span.lo (Survey.m4 a)) (Span.hi (Survey.m4 a))) (Span.mk (Span.lo (Survey.m5 a)) (Span.hi (Survey.m5 a))))) (Span.hi (both (Span.mk (Span.lo (Survey.m4 a)) (Span.hi (Survey.m4 a))) (Span.mk (Span.lo (Survey.m5 a)) (Span.hi (Survey.m5 a))))))))))) (half (IntKind.wrap IntKind.i64 (Span.hi (both (Span.mk (Span.lo (both (Span.mk (Span.lo (Survey.m0 a)) (Span.hi (Survey.m0 a))) (Span.mk (Span.lo (Survey.m1 a)) (Span.hi (Survey.m1 a))))) (Span.hi (both (Span.mk (Span.lo (Survey.m0 a)) (Span.hi (Survey.m0 a))) (Span.mk (Span.lo (Survey.m1 a)) (Span.hi (Survey.m1 a)))))) (Span.mk (Span.lo (both (Span.mk (Span.lo (Survey.m4 a)) (Span.hi (Survey.m4 a))) (Span.mk (Span.lo (Survey.m5 a)) (Span.hi (Survey.m5 a))))) (Span.hi (both (Span.mk (Span.lo (Survey.m4 a)) (Span.hi (Survey.m4 a))) (Span.mk (Span.lo (Survey.m5 a)) (Span.hi (Survey.m5 a))))))) + IntKind.wrap IntKind.i64 ((4 : Int) * Survey.sag a))))))) + IntKind.wrap IntKind.i64 ((4 : Int) * Survey.sag a)) else Span.hi (both (Span.mk (Span.lo (both (Span.mk (Span.lo (Survey.m0 a)) (Span.hi (Survey.m0 a))) (Span.mk (Span.lo (Survey.m1 a)) (Span.hi (Survey.m1 a))))) (Span.hi (both (Span.mk (Span.lo (Survey.m0 a)) (Span.hi (Survey.m0 a))) (Span.mk (Span.lo (Survey.m1 a)) (Span.hi (Survey.m1 a)))))) (Span.mk (Span.lo (both (Span.mk (Span.lo (Survey.m4 a)) (Span.hi (Survey.m4 a))) (Span.mk (Span.lo (Survey.m5 a)) (Span.hi (Survey.m5 a))))) (Span.hi (both (Span.mk (Span.lo (Survey.m4 a)) (Span.hi (Survey.m4 a))) (Span.mk (Span.lo (Survey.m5 a)) (Span.hi (Survey.m5 a))))))), Span.hi (meet (Span.mk (Span.lo (both (Span.mk (Span.lo (Survey.m2 a)) (Span.hi (Survey.m2 a))) (Span.mk (Span.lo (Survey.m3 a)) (Span.hi (Survey.m3 a))))) (Span.hi (both (Span.mk (Span.lo (Survey.m2 a)) (Span.hi (Survey.m2 a))) (Span.mk (Span.lo (Survey.m3 a)) (Span.hi (Survey.m3 a)))))) (Span.mk (IntKind.wrap IntKind.i64 ((0 : Int) - half (IntKind.wrap IntKind.i64 (IntKind.wrap IntKind.i64 ((4 : Int) * Survey.sag a) - Span.lo (both (Span.mk (Span.lo (both (Span.mk (Span.lo (Survey.m0 a)) (Span.hi (Survey.m0 a))) (Span.mk (Span.lo (Survey.m1 a)) (Span.hi (Survey.m1 a))))) (Span.hi (both (Span.mk (Span.lo (Survey.m0 a)) (Span.hi (Survey.m0 a))) (Span.mk (Span.lo (Survey.m1 a)) (Span.hi (Survey.m1 a)))))) (Span.mk (Span.lo (both (Span.mk (Span.lo (Survey.m4 a)) (Span.hi (Survey.m4 a))) (Span.mk (Span.lo (Survey.m5 a)) (Span.hi (Survey.m5 a))))) (Span.hi (both (Span.mk (Span.lo (Survey.m4 a)) (Span.hi (Survey.m4 a))) (Span.mk (Span.lo (Survey.m5 a)) (Span.hi (Survey.m5 a))))))))))) (half (IntKind.wrap IntKind.i64 (Span.hi (both (Span.mk (Span.lo (both (Span.mk (Span.lo (Survey.m0 a)) (Span.hi (Survey.m0 a))) (Span.mk (Span.lo (Survey.m1 a)) (Span.hi (Survey.m1 a))))) (Span.hi (both (Span.mk (Span.lo (Survey.m0 a)) (Span.hi (Survey.m0 a))) (Span.mk (Span.lo (Survey.m1 a)) (Span.hi (Survey.m1 a)))))) (Span.mk (Span.lo (both (Span.mk (Span.lo (Survey.m4 a)) (Span.hi (Survey.m4 a))) (Span.mk (Span.lo (Survey.m5 a)) (Span.hi (Survey.m5 a))))) (Span.hi (both (Span.mk (Span.lo (Survey.m4 a)) (Span.hi (Survey.m4 a))) (Span.mk (Span.lo (Survey.m5 a)) (Span.hi (Survey.m5 a))))))) + IntKind.wrap IntKind.i64 ((4 : Int) * Survey.sag a))))))), true)))) := fun a => by kernel_rfl
end Go.Proofs.YtjbhooodjmjdkaaGreat
/-! KB -/
namespace Go.Proofs.YtjbhooodjmjdkaaGreat
open Ev K
def cNum (g : Nat) : Dec Int := dFn g (.last (dP 1 (.last (dI .i64) 0) 0) 0)
def S_hyd1 := DecS.mk1 (.cons xHydros (.cons (cNum 133) (.skips 5 (.cons (dI .i64) (.last (dI .i64) 10)))))
def X_hyd1 := DecX.or (DecX.one .ret [4] (DecS.mk1 (.skips 4 (.last (dI .i64) 14)))) (DecX.one (.exit 0) [] (DecS.mk1 (.tops 19)))
def K.p_hyd1 (c : Int) (x : XS) (i : Nat) : Bool := x.g i 0 == c
theorem sl_hyd1 : ∀ s, (loopT1 P BKA10 30 137 17 [8, 0, 1, 7] S_hyd1 X_hyd1) s = T.run (
  .br (decide (Prod.snd (Prod.snd (Prod.snd s)) < Prod.fst (Prod.snd (Prod.snd s)))) (
    .chk (decide ((0 : Int) ≤ Prod.snd (Prod.snd (Prod.snd s)) ∧ Prod.snd (Prod.snd (Prod.snd s)) < (↑(XS.len (Prod.fst s)) : Int))) <|
    .br (numOf (XS.f (Prod.fst s) (XS.row (Prod.fst s) + Int.toNat (Prod.snd (Prod.snd (Prod.snd s)))) (0 : Nat)) == Prod.fst (Prod.snd s)) (
      .ret (Sum.inr (Sum.inl (Prod.snd (Prod.snd (Prod.snd s)))))) (
      .ret (Sum.inl (Prod.fst s, Prod.fst (Prod.snd s), Prod.fst (Prod.snd (Prod.snd s)), IntKind.wrap IntKind.i64 (Prod.snd (Prod.snd (Prod.snd s)) + (1 : Int)))))) (
    .ret (Sum.inr (Sum.inr PUnit.unit)))) := fun s => by kernel_rfl
noncomputable def K.L_hyd1 := lim (loopT1 P BKA10 30 137 17 [8, 0, 1, 7] S_hyd1 X_hyd1)
theorem K.L_hyd1_eq (x : XS) (c : Int) : K.L_hyd1 (x, c, (K.len x : Int), 0) = some (match first (K.p_hyd1 c x) (K.len x) with | some i => (Sum.inl (i : Int) : Int ⊕ Unit) | none => .inr ()) := by
  have e1 := K.len_le x; have e2 := K.len_le' x
  refine lim_find (fun i => (x, c, (K.len x : Int), (i : Int))) (K.len x) (K.p_hyd1 c x) (fun i => (Sum.inl (i : Int) : Int ⊕ Unit)) (Sum.inr ()) (fun i hi hp => ?_) (fun i hi hp => ?_) ?_
  · rw [sl_hyd1]; unfold K.p_hyd1 at hp
    simp only [T.run_br, T.run_chk, T.run_ret, decide_eq_true_eq, Int.toNat_natCast]
    rw [if_pos (by omega), if_pos (by omega)]
    simp only [XS.g] at hp; rw [if_pos hp]
  · rw [sl_hyd1]; unfold K.p_hyd1 at hp
    simp only [T.run_br, T.run_chk, T.run_ret, decide_eq_true_eq, Int.toNat_natCast]
    rw [if_pos (by omega), if_pos (by omega)]
    simp only [XS.g] at hp; rw [if_neg (by simp [hp])]
    rw [w64_in (by omega) (by omega)]; simp
  · rw [sl_hyd1]
    simp only [T.run_br, T.run_chk, T.run_ret, decide_eq_true_eq]
    rw [if_neg (by omega)]
noncomputable def BKB1 : Tab := BKA10.addNode 137 17 (nodeE [8, 0, 1, 7] S_hyd1 X_hyd1 (fun s => .obs (K.L_hyd1 s) .ret))
theorem tKB1 : TabOk P BKB1 := TabOk.addLoop (d := 30) okP tKA10 (by kernel_rfl) (by kernel_rfl) (fun s r h => obs_ret h)
def D_hyd1 := DecL.cons xHydros (.last (cNum 133) 0)
theorem fn_hyd1 : ∀ a, (callT1 P BKB1 30 137 D_hyd1 (dI .i64)) a = T.run (
  .obs (L_hyd1 (Prod.fst a, Prod.snd a, (↑(clampL (XS.len (Prod.fst a))) : Int), (0 : Int))) fun x0 =>
    .sum (x0) (fun x1 =>
      .ret (x1)) (fun x1 =>
      .ret ((-1 : Int)))) := fun a => by kernel_rfl
theorem ix_hyd1 (a : XS × Int) : callT1 P BKB1 30 137 D_hyd1 (dI .i64) a = some (idx (K.p_hyd1 a.2 a.1) (K.len a.1)) := by
  rw [fn_hyd1]
  show T.run (.obs (K.L_hyd1 (a.1, a.2, (K.len a.1 : Int), 0)) _) = _
  rw [K.L_hyd1_eq]; unfold idx
  cases first (K.p_hyd1 a.2 a.1) (K.len a.1) <;> rfl
noncomputable def BKB2 : Tab := BKB1.addCall 137 (callE D_hyd1 (dI .i64) (fun a => .ret (idx (K.p_hyd1 a.2 a.1) (K.len a.1))))
theorem tKB2 : TabOk P BKB2 := TabOk.addFn (d := 30) okP tKB1 (fun a r h => by rw [ix_hyd1]; exact congrArg some (ret_some h))
def S_chk1 := DecS.mk1 (.cons xHydros (.cons (dFn 86 (.last (dP 3 lHydro 0) 0)) (.skips 5 (.cons (dI .i64) (.last (dI .i64) 10)))))
def X_chk1 := DecX.or (DecX.one .ret [4] (DecS.mk1 (.skips 4 (.last (dI .i64) 14)))) (DecX.one (.exit 0) [] (DecS.mk1 (.tops 19)))
def K.p_chk1 (c : Hydro) (x : XS) (i : Nat) : Bool := x.g i 0 == c.id
theorem sl_chk1 : ∀ s, (loopT1 P BKB2 30 137 17 [8, 0, 1, 7] S_chk1 X_chk1) s = T.run (
  .br (decide (Prod.snd (Prod.snd (Prod.snd s)) < Prod.fst (Prod.snd (Prod.snd s)))) (
    .chk (decide ((0 : Int) ≤ Prod.snd (Prod.snd (Prod.snd s)) ∧ Prod.snd (Prod.snd (Prod.snd s)) < (↑(XS.len (Prod.fst s)) : Int))) <|
    .br (numOf (XS.f (Prod.fst s) (XS.row (Prod.fst s) + Int.toNat (Prod.snd (Prod.snd (Prod.snd s)))) (0 : Nat)) == Hydro.id (Prod.fst (Prod.snd s))) (
      .ret (Sum.inr (Sum.inl (Prod.snd (Prod.snd (Prod.snd s)))))) (
      .ret (Sum.inl (Prod.fst s, Prod.fst (Prod.snd s), Prod.fst (Prod.snd (Prod.snd s)), IntKind.wrap IntKind.i64 (Prod.snd (Prod.snd (Prod.snd s)) + (1 : Int)))))) (
    .ret (Sum.inr (Sum.inr PUnit.unit)))) := fun s => by kernel_rfl
noncomputable def K.L_chk1 := lim (loopT1 P BKB2 30 137 17 [8, 0, 1, 7] S_chk1 X_chk1)
theorem K.L_chk1_eq (x : XS) (c : Hydro) : K.L_chk1 (x, c, (K.len x : Int), 0) = some (match first (K.p_chk1 c x) (K.len x) with | some i => (Sum.inl (i : Int) : Int ⊕ Unit) | none => .inr ()) := by
  have e1 := K.len_le x; have e2 := K.len_le' x
  refine lim_find (fun i => (x, c, (K.len x : Int), (i : Int))) (K.len x) (K.p_chk1 c x) (fun i => (Sum.inl (i : Int) : Int ⊕ Unit)) (Sum.inr ()) (fun i hi hp => ?_) (fun i hi hp => ?_) ?_
  · rw [sl_chk1]; unfold K.p_chk1 at hp
    simp only [T.run_br, T.run_chk, T.run_ret, decide_eq_true_eq, Int.toNat_natCast]
    rw [if_pos (by omega), if_pos (by omega)]
    simp only [XS.g] at hp; rw [if_pos hp]
  · rw [sl_chk1]; unfold K.p_chk1 at hp
    simp only [T.run_br, T.run_chk, T.run_ret, decide_eq_true_eq, Int.toNat_natCast]
    rw [if_pos (by omega), if_pos (by omega)]
    simp only [XS.g] at hp; rw [if_neg (by simp [hp])]
    rw [w64_in (by omega) (by omega)]; simp
  · rw [sl_chk1]
    simp only [T.run_br, T.run_chk, T.run_ret, decide_eq_true_eq]
    rw [if_neg (by omega)]
noncomputable def BKB3 : Tab := BKB2.addNode 137 17 (nodeE [8, 0, 1, 7] S_chk1 X_chk1 (fun s => .obs (K.L_chk1 s) .ret))
theorem tKB3 : TabOk P BKB3 := TabOk.addLoop (d := 30) okP tKB2 (by kernel_rfl) (by kernel_rfl) (fun s r h => obs_ret h)
def D_chk1 := DecL.cons xHydros (.last (dFn 86 (.last (dP 3 lHydro 0) 0)) 0)
theorem fn_chk1 : ∀ a, (callT1 P BKB3 30 137 D_chk1 (dI .i64)) a = T.run (
  .obs (L_chk1 (Prod.fst a, Prod.snd a, (↑(clampL (XS.len (Prod.fst a))) : Int), (0 : Int))) fun x0 =>
    .sum (x0) (fun x1 =>
      .ret (x1)) (fun x1 =>
      .ret ((-1 : Int)))) := fun a => by kernel_rfl
theorem ix_chk1 (a : XS × Hydro) : callT1 P BKB3 30 137 D_chk1 (dI .i64) a = some (idx (K.p_chk1 a.2 a.1) (K.len a.1)) := by
  rw [fn_chk1]
  show T.run (.obs (K.L_chk1 (a.1, a.2, (K.len a.1 : Int), 0)) _) = _
  rw [K.L_chk1_eq]; unfold idx
  cases first (K.p_chk1 a.2 a.1) (K.len a.1) <;> rfl
noncomputable def BKB4 : Tab := BKB3.addCall 137 (callE D_chk1 (dI .i64) (fun a => .ret (idx (K.p_chk1 a.2 a.1) (K.len a.1))))
theorem tKB4 : TabOk P BKB4 := TabOk.addFn (d := 30) okP tKB3 (fun a r h => by rw [ix_chk1]; exact congrArg some (ret_some h))
def S_chk2 := DecS.mk1 (.cons xHydros (.cons (dFn 87 (.last (dP 5 lGlass 0) 0)) (.skips 5 (.cons (dI .i64) (.last (dI .i64) 10)))))
def X_chk2 := DecX.or (DecX.one .ret [4] (DecS.mk1 (.skips 4 (.last (dI .i64) 14)))) (DecX.one (.exit 0) [] (DecS.mk1 (.tops 19)))
def K.p_chk2 (c : Glass) (x : XS) (i : Nat) : Bool := x.g i 0 == c.hydro
theorem sl_chk2 : ∀ s, (loopT1 P BKB4 30 137 17 [8, 0, 1, 7] S_chk2 X_chk2) s = T.run (
  .br (decide (Prod.snd (Prod.snd (Prod.snd s)) < Prod.fst (Prod.snd (Prod.snd s)))) (
    .chk (decide ((0 : Int) ≤ Prod.snd (Prod.snd (Prod.snd s)) ∧ Prod.snd (Prod.snd (Prod.snd s)) < (↑(XS.len (Prod.fst s)) : Int))) <|
    .br (numOf (XS.f (Prod.fst s) (XS.row (Prod.fst s) + Int.toNat (Prod.snd (Prod.snd (Prod.snd s)))) (0 : Nat)) == Glass.hydro (Prod.fst (Prod.snd s))) (
      .ret (Sum.inr (Sum.inl (Prod.snd (Prod.snd (Prod.snd s)))))) (
      .ret (Sum.inl (Prod.fst s, Prod.fst (Prod.snd s), Prod.fst (Prod.snd (Prod.snd s)), IntKind.wrap IntKind.i64 (Prod.snd (Prod.snd (Prod.snd s)) + (1 : Int)))))) (
    .ret (Sum.inr (Sum.inr PUnit.unit)))) := fun s => by kernel_rfl
noncomputable def K.L_chk2 := lim (loopT1 P BKB4 30 137 17 [8, 0, 1, 7] S_chk2 X_chk2)
theorem K.L_chk2_eq (x : XS) (c : Glass) : K.L_chk2 (x, c, (K.len x : Int), 0) = some (match first (K.p_chk2 c x) (K.len x) with | some i => (Sum.inl (i : Int) : Int ⊕ Unit) | none => .inr ()) := by
  have e1 := K.len_le x; have e2 := K.len_le' x
  refine lim_find (fun i => (x, c, (K.len x : Int), (i : Int))) (K.len x) (K.p_chk2 c x) (fun i => (Sum.inl (i : Int) : Int ⊕ Unit)) (Sum.inr ()) (fun i hi hp => ?_) (fun i hi hp => ?_) ?_
  · rw [sl_chk2]; unfold K.p_chk2 at hp
    simp only [T.run_br, T.run_chk, T.run_ret, decide_eq_true_eq, Int.toNat_natCast]
    rw [if_pos (by omega), if_pos (by omega)]
    simp only [XS.g] at hp; rw [if_pos hp]
  · rw [sl_chk2]; unfold K.p_chk2 at hp
    simp only [T.run_br, T.run_chk, T.run_ret, decide_eq_true_eq, Int.toNat_natCast]
    rw [if_pos (by omega), if_pos (by omega)]
    simp only [XS.g] at hp; rw [if_neg (by simp [hp])]
    rw [w64_in (by omega) (by omega)]; simp
  · rw [sl_chk2]
    simp only [T.run_br, T.run_chk, T.run_ret, decide_eq_true_eq]
    rw [if_neg (by omega)]
noncomputable def BKB5 : Tab := BKB4.addNode 137 17 (nodeE [8, 0, 1, 7] S_chk2 X_chk2 (fun s => .obs (K.L_chk2 s) .ret))
theorem tKB5 : TabOk P BKB5 := TabOk.addLoop (d := 30) okP tKB4 (by kernel_rfl) (by kernel_rfl) (fun s r h => obs_ret h)
def D_chk2 := DecL.cons xHydros (.last (dFn 87 (.last (dP 5 lGlass 0) 0)) 0)
theorem fn_chk2 : ∀ a, (callT1 P BKB5 30 137 D_chk2 (dI .i64)) a = T.run (
  .obs (L_chk2 (Prod.fst a, Prod.snd a, (↑(clampL (XS.len (Prod.fst a))) : Int), (0 : Int))) fun x0 =>
    .sum (x0) (fun x1 =>
      .ret (x1)) (fun x1 =>
      .ret ((-1 : Int)))) := fun a => by kernel_rfl
theorem ix_chk2 (a : XS × Glass) : callT1 P BKB5 30 137 D_chk2 (dI .i64) a = some (idx (K.p_chk2 a.2 a.1) (K.len a.1)) := by
  rw [fn_chk2]
  show T.run (.obs (K.L_chk2 (a.1, a.2, (K.len a.1 : Int), 0)) _) = _
  rw [K.L_chk2_eq]; unfold idx
  cases first (K.p_chk2 a.2 a.1) (K.len a.1) <;> rfl
noncomputable def BKB6 : Tab := BKB5.addCall 137 (callE D_chk2 (dI .i64) (fun a => .ret (idx (K.p_chk2 a.2 a.1) (K.len a.1))))
theorem tKB6 : TabOk P BKB6 := TabOk.addFn (d := 30) okP tKB5 (fun a r h => by rw [ix_chk2]; exact congrArg some (ret_some h))
def S_chk3 := DecS.mk1 (.cons xGlasses (.cons (dFn 89 (.last (dP 5 lGlass 0) 0)) (.skips 5 (.cons (dI .i64) (.last (dI .i64) 10)))))
def X_chk3 := DecX.or (DecX.one .ret [4] (DecS.mk1 (.skips 4 (.last (dI .i64) 14)))) (DecX.one (.exit 0) [] (DecS.mk1 (.tops 19)))
def K.p_chk3 (c : Glass) (x : XS) (i : Nat) : Bool := x.g i 0 == c.id
theorem sl_chk3 : ∀ s, (loopT1 P BKB6 30 138 17 [8, 0, 1, 7] S_chk3 X_chk3) s = T.run (
  .br (decide (Prod.snd (Prod.snd (Prod.snd s)) < Prod.fst (Prod.snd (Prod.snd s)))) (
    .chk (decide ((0 : Int) ≤ Prod.snd (Prod.snd (Prod.snd s)) ∧ Prod.snd (Prod.snd (Prod.snd s)) < (↑(XS.len (Prod.fst s)) : Int))) <|
    .br (numOf (XS.f (Prod.fst s) (XS.row (Prod.fst s) + Int.toNat (Prod.snd (Prod.snd (Prod.snd s)))) (0 : Nat)) == Glass.id (Prod.fst (Prod.snd s))) (
      .ret (Sum.inr (Sum.inl (Prod.snd (Prod.snd (Prod.snd s)))))) (
      .ret (Sum.inl (Prod.fst s, Prod.fst (Prod.snd s), Prod.fst (Prod.snd (Prod.snd s)), IntKind.wrap IntKind.i64 (Prod.snd (Prod.snd (Prod.snd s)) + (1 : Int)))))) (
    .ret (Sum.inr (Sum.inr PUnit.unit)))) := fun s => by kernel_rfl
noncomputable def K.L_chk3 := lim (loopT1 P BKB6 30 138 17 [8, 0, 1, 7] S_chk3 X_chk3)
theorem K.L_chk3_eq (x : XS) (c : Glass) : K.L_chk3 (x, c, (K.len x : Int), 0) = some (match first (K.p_chk3 c x) (K.len x) with | some i => (Sum.inl (i : Int) : Int ⊕ Unit) | none => .inr ()) := by
  have e1 := K.len_le x; have e2 := K.len_le' x
  refine lim_find (fun i => (x, c, (K.len x : Int), (i : Int))) (K.len x) (K.p_chk3 c x) (fun i => (Sum.inl (i : Int) : Int ⊕ Unit)) (Sum.inr ()) (fun i hi hp => ?_) (fun i hi hp => ?_) ?_
  · rw [sl_chk3]; unfold K.p_chk3 at hp
    simp only [T.run_br, T.run_chk, T.run_ret, decide_eq_true_eq, Int.toNat_natCast]
    rw [if_pos (by omega), if_pos (by omega)]
    simp only [XS.g] at hp; rw [if_pos hp]
  · rw [sl_chk3]; unfold K.p_chk3 at hp
    simp only [T.run_br, T.run_chk, T.run_ret, decide_eq_true_eq, Int.toNat_natCast]
    rw [if_pos (by omega), if_pos (by omega)]
    simp only [XS.g] at hp; rw [if_neg (by simp [hp])]
    rw [w64_in (by omega) (by omega)]; simp
  · rw [sl_chk3]
    simp only [T.run_br, T.run_chk, T.run_ret, decide_eq_true_eq]
    rw [if_neg (by omega)]
noncomputable def BKB7 : Tab := BKB6.addNode 138 17 (nodeE [8, 0, 1, 7] S_chk3 X_chk3 (fun s => .obs (K.L_chk3 s) .ret))
theorem tKB7 : TabOk P BKB7 := TabOk.addLoop (d := 30) okP tKB6 (by kernel_rfl) (by kernel_rfl) (fun s r h => obs_ret h)
def D_chk3 := DecL.cons xGlasses (.last (dFn 89 (.last (dP 5 lGlass 0) 0)) 0)
theorem fn_chk3 : ∀ a, (callT1 P BKB7 30 138 D_chk3 (dI .i64)) a = T.run (
  .obs (L_chk3 (Prod.fst a, Prod.snd a, (↑(clampL (XS.len (Prod.fst a))) : Int), (0 : Int))) fun x0 =>
    .sum (x0) (fun x1 =>
      .ret (x1)) (fun x1 =>
      .ret ((-1 : Int)))) := fun a => by kernel_rfl
theorem ix_chk3 (a : XS × Glass) : callT1 P BKB7 30 138 D_chk3 (dI .i64) a = some (idx (K.p_chk3 a.2 a.1) (K.len a.1)) := by
  rw [fn_chk3]
  show T.run (.obs (K.L_chk3 (a.1, a.2, (K.len a.1 : Int), 0)) _) = _
  rw [K.L_chk3_eq]; unfold idx
  cases first (K.p_chk3 a.2 a.1) (K.len a.1) <;> rfl
noncomputable def BKB8 : Tab := BKB7.addCall 138 (callE D_chk3 (dI .i64) (fun a => .ret (idx (K.p_chk3 a.2 a.1) (K.len a.1))))
theorem tKB8 : TabOk P BKB8 := TabOk.addFn (d := 30) okP tKB7 (fun a r h => by rw [ix_chk3]; exact congrArg some (ret_some h))
def S_lst1 := DecS.mk1 (.cons xSurveys (.cons (dFn 116 (.last (dP 18 lSurvey 0) 0)) (.skips 5 (.cons (dI .i64) (.last (dI .i64) 10)))))
def X_lst1 := DecX.or (DecX.one .ret [4] (DecS.mk1 (.skips 4 (.last (dI .i64) 14)))) (DecX.one (.exit 0) [] (DecS.mk1 (.tops 19)))
def K.p_lst1 (c : Survey) (x : XS) (i : Nat) : Bool := x.g i 0 == c.id
theorem sl_lst1 : ∀ s, (loopT1 P BKB8 30 119 17 [8, 0, 1, 7] S_lst1 X_lst1) s = T.run (
  .br (decide (Prod.snd (Prod.snd (Prod.snd s)) < Prod.fst (Prod.snd (Prod.snd s)))) (
    .chk (decide ((0 : Int) ≤ Prod.snd (Prod.snd (Prod.snd s)) ∧ Prod.snd (Prod.snd (Prod.snd s)) < (↑(XS.len (Prod.fst s)) : Int))) <|
    .br (numOf (XS.f (Prod.fst s) (XS.row (Prod.fst s) + Int.toNat (Prod.snd (Prod.snd (Prod.snd s)))) (0 : Nat)) == Survey.id (Prod.fst (Prod.snd s))) (
      .ret (Sum.inr (Sum.inl (Prod.snd (Prod.snd (Prod.snd s)))))) (
      .ret (Sum.inl (Prod.fst s, Prod.fst (Prod.snd s), Prod.fst (Prod.snd (Prod.snd s)), IntKind.wrap IntKind.i64 (Prod.snd (Prod.snd (Prod.snd s)) + (1 : Int)))))) (
    .ret (Sum.inr (Sum.inr PUnit.unit)))) := fun s => by kernel_rfl
noncomputable def K.L_lst1 := lim (loopT1 P BKB8 30 119 17 [8, 0, 1, 7] S_lst1 X_lst1)
theorem K.L_lst1_eq (x : XS) (c : Survey) : K.L_lst1 (x, c, (K.len x : Int), 0) = some (match first (K.p_lst1 c x) (K.len x) with | some i => (Sum.inl (i : Int) : Int ⊕ Unit) | none => .inr ()) := by
  have e1 := K.len_le x; have e2 := K.len_le' x
  refine lim_find (fun i => (x, c, (K.len x : Int), (i : Int))) (K.len x) (K.p_lst1 c x) (fun i => (Sum.inl (i : Int) : Int ⊕ Unit)) (Sum.inr ()) (fun i hi hp => ?_) (fun i hi hp => ?_) ?_
  · rw [sl_lst1]; unfold K.p_lst1 at hp
    simp only [T.run_br, T.run_chk, T.run_ret, decide_eq_true_eq, Int.toNat_natCast]
    rw [if_pos (by omega), if_pos (by omega)]
    simp only [XS.g] at hp; rw [if_pos hp]
  · rw [sl_lst1]; unfold K.p_lst1 at hp
    simp only [T.run_br, T.run_chk, T.run_ret, decide_eq_true_eq, Int.toNat_natCast]
    rw [if_pos (by omega), if_pos (by omega)]
    simp only [XS.g] at hp; rw [if_neg (by simp [hp])]
    rw [w64_in (by omega) (by omega)]; simp
  · rw [sl_lst1]
    simp only [T.run_br, T.run_chk, T.run_ret, decide_eq_true_eq]
    rw [if_neg (by omega)]
noncomputable def BKB9 : Tab := BKB8.addNode 119 17 (nodeE [8, 0, 1, 7] S_lst1 X_lst1 (fun s => .obs (K.L_lst1 s) .ret))
theorem tKB9 : TabOk P BKB9 := TabOk.addLoop (d := 30) okP tKB8 (by kernel_rfl) (by kernel_rfl) (fun s r h => obs_ret h)
def D_lst1 := DecL.cons xSurveys (.last (dFn 116 (.last (dP 18 lSurvey 0) 0)) 0)
theorem fn_lst1 : ∀ a, (callT1 P BKB9 30 119 D_lst1 (dI .i64)) a = T.run (
  .obs (L_lst1 (Prod.fst a, Prod.snd a, (↑(clampL (XS.len (Prod.fst a))) : Int), (0 : Int))) fun x0 =>
    .sum (x0) (fun x1 =>
      .ret (x1)) (fun x1 =>
      .ret ((-1 : Int)))) := fun a => by kernel_rfl
theorem ix_lst1 (a : XS × Survey) : callT1 P BKB9 30 119 D_lst1 (dI .i64) a = some (idx (K.p_lst1 a.2 a.1) (K.len a.1)) := by
  rw [fn_lst1]
  show T.run (.obs (K.L_lst1 (a.1, a.2, (K.len a.1 : Int), 0)) _) = _
  rw [K.L_lst1_eq]; unfold idx
  cases first (K.p_lst1 a.2 a.1) (K.len a.1) <;> rfl
noncomputable def BKB10 : Tab := BKB9.addCall 119 (callE D_lst1 (dI .i64) (fun a => .ret (idx (K.p_lst1 a.2 a.1) (K.len a.1))))
theorem tKB10 : TabOk P BKB10 := TabOk.addFn (d := 30) okP tKB9 (fun a r h => by rw [ix_lst1]; exact congrArg some (ret_some h))
def S_hul1 := DecS.mk1 (.cons xHolds (.cons (dFn 144 (.last (dP 4 lHold 0) 0)) (.skips 5 (.cons (dI .i64) (.last (dI .i64) 10)))))
def X_hul1 := DecX.or (DecX.one .ret [4] (DecS.mk1 (.skips 4 (.last (dI .i64) 14)))) (DecX.one (.exit 0) [] (DecS.mk1 (.tops 19)))
def K.p_hul1 (c : Hold) (x : XS) (i : Nat) : Bool := x.g i 0 == c.id
theorem sl_hul1 : ∀ s, (loopT1 P BKB10 30 189 17 [8, 0, 1, 7] S_hul1 X_hul1) s = T.run (
  .br (decide (Prod.snd (Prod.snd (Prod.snd s)) < Prod.fst (Prod.snd (Prod.snd s)))) (
    .chk (decide ((0 : Int) ≤ Prod.snd (Prod.snd (Prod.snd s)) ∧ Prod.snd (Prod.snd (Prod.snd s)) < (↑(XS.len (Prod.fst s)) : Int))) <|
    .br (numOf (XS.f (Prod.fst s) (XS.row (Prod.fst s) + Int.toNat (Prod.snd (Prod.snd (Prod.snd s)))) (0 : Nat)) == Hold.id (Prod.fst (Prod.snd s))) (
      .ret (Sum.inr (Sum.inl (Prod.snd (Prod.snd (Prod.snd s)))))) (
      .ret (Sum.inl (Prod.fst s, Prod.fst (Prod.snd s), Prod.fst (Prod.snd (Prod.snd s)), IntKind.wrap IntKind.i64 (Prod.snd (Prod.snd (Prod.snd s)) + (1 : Int)))))) (
    .ret (Sum.inr (Sum.inr PUnit.unit)))) := fun s => by kernel_rfl
noncomputable def K.L_hul1 := lim (loopT1 P BKB10 30 189 17 [8, 0, 1, 7] S_hul1 X_hul1)
theorem K.L_hul1_eq (x : XS) (c : Hold) : K.L_hul1 (x, c, (K.len x : Int), 0) = some (match first (K.p_hul1 c x) (K.len x) with | some i => (Sum.inl (i : Int) : Int ⊕ Unit) | none => .inr ()) := by
  have e1 := K.len_le x; have e2 := K.len_le' x
  refine lim_find (fun i => (x, c, (K.len x : Int), (i : Int))) (K.len x) (K.p_hul1 c x) (fun i => (Sum.inl (i : Int) : Int ⊕ Unit)) (Sum.inr ()) (fun i hi hp => ?_) (fun i hi hp => ?_) ?_
  · rw [sl_hul1]; unfold K.p_hul1 at hp
    simp only [T.run_br, T.run_chk, T.run_ret, decide_eq_true_eq, Int.toNat_natCast]
    rw [if_pos (by omega), if_pos (by omega)]
    simp only [XS.g] at hp; rw [if_pos hp]
  · rw [sl_hul1]; unfold K.p_hul1 at hp
    simp only [T.run_br, T.run_chk, T.run_ret, decide_eq_true_eq, Int.toNat_natCast]
    rw [if_pos (by omega), if_pos (by omega)]
    simp only [XS.g] at hp; rw [if_neg (by simp [hp])]
    rw [w64_in (by omega) (by omega)]; simp
  · rw [sl_hul1]
    simp only [T.run_br, T.run_chk, T.run_ret, decide_eq_true_eq]
    rw [if_neg (by omega)]
noncomputable def BKB11 : Tab := BKB10.addNode 189 17 (nodeE [8, 0, 1, 7] S_hul1 X_hul1 (fun s => .obs (K.L_hul1 s) .ret))
theorem tKB11 : TabOk P BKB11 := TabOk.addLoop (d := 30) okP tKB10 (by kernel_rfl) (by kernel_rfl) (fun s r h => obs_ret h)
def D_hul1 := DecL.cons xHolds (.last (dFn 144 (.last (dP 4 lHold 0) 0)) 0)
theorem fn_hul1 : ∀ a, (callT1 P BKB11 30 189 D_hul1 (dI .i64)) a = T.run (
  .obs (L_hul1 (Prod.fst a, Prod.snd a, (↑(clampL (XS.len (Prod.fst a))) : Int), (0 : Int))) fun x0 =>
    .sum (x0) (fun x1 =>
      .ret (x1)) (fun x1 =>
      .ret ((-1 : Int)))) := fun a => by kernel_rfl
theorem ix_hul1 (a : XS × Hold) : callT1 P BKB11 30 189 D_hul1 (dI .i64) a = some (idx (K.p_hul1 a.2 a.1) (K.len a.1)) := by
  rw [fn_hul1]
  show T.run (.obs (K.L_hul1 (a.1, a.2, (K.len a.1 : Int), 0)) _) = _
  rw [K.L_hul1_eq]; unfold idx
  cases first (K.p_hul1 a.2 a.1) (K.len a.1) <;> rfl
noncomputable def BKB12 : Tab := BKB11.addCall 189 (callE D_hul1 (dI .i64) (fun a => .ret (idx (K.p_hul1 a.2 a.1) (K.len a.1))))
theorem tKB12 : TabOk P BKB12 := TabOk.addFn (d := 30) okP tKB11 (fun a r h => by rw [ix_hul1]; exact congrArg some (ret_some h))
def S_tab1 := DecS.mk1 (.cons xKnots (.cons (dFn 194 (.tops 0)) (.skips 5 (.cons (dI .i64) (.last (dI .i64) 10)))))
def X_tab1 := DecX.or (DecX.one .ret [4] (DecS.mk1 (.skips 4 (.last (dI .i64) 14)))) (DecX.one (.exit 0) [] (DecS.mk1 (.tops 19)))
def K.p_tab1 (c : Unit) (x : XS) (i : Nat) : Bool := decide (x.g i 1 < 0)
theorem sl_tab1 : ∀ s, (loopT1 P BKB12 30 125 17 [8, 0, 1, 7] S_tab1 X_tab1) s = T.run (
  .br (decide (Prod.snd (Prod.snd (Prod.snd s)) < Prod.fst (Prod.snd (Prod.snd s)))) (
    .chk (decide ((0 : Int) ≤ Prod.snd (Prod.snd (Prod.snd s)) ∧ Prod.snd (Prod.snd (Prod.snd s)) < (↑(XS.len (Prod.fst s)) : Int))) <|
    .br (decide (numOf (XS.f (Prod.fst s) (XS.row (Prod.fst s) + Int.toNat (Prod.snd (Prod.snd (Prod.snd s)))) (nat_lit 1)) < (0 : Int))) (
      .ret (Sum.inr (Sum.inl (Prod.snd (Prod.snd (Prod.snd s)))))) (
      .ret (Sum.inl (Prod.fst s, PUnit.unit, Prod.fst (Prod.snd (Prod.snd s)), IntKind.wrap IntKind.i64 (Prod.snd (Prod.snd (Prod.snd s)) + (1 : Int)))))) (
    .ret (Sum.inr (Sum.inr PUnit.unit)))) := fun s => by kernel_rfl
noncomputable def K.L_tab1 := lim (loopT1 P BKB12 30 125 17 [8, 0, 1, 7] S_tab1 X_tab1)
theorem K.L_tab1_eq (x : XS) (c : Unit) : K.L_tab1 (x, c, (K.len x : Int), 0) = some (match first (K.p_tab1 c x) (K.len x) with | some i => (Sum.inl (i : Int) : Int ⊕ Unit) | none => .inr ()) := by
  have e1 := K.len_le x; have e2 := K.len_le' x
  refine lim_find (fun i => (x, c, (K.len x : Int), (i : Int))) (K.len x) (K.p_tab1 c x) (fun i => (Sum.inl (i : Int) : Int ⊕ Unit)) (Sum.inr ()) (fun i hi hp => ?_) (fun i hi hp => ?_) ?_
  · rw [sl_tab1]; unfold K.p_tab1 at hp
    simp only [T.run_br, T.run_chk, T.run_ret, decide_eq_true_eq, Int.toNat_natCast]
    rw [if_pos (by omega), if_pos (by omega)]
    rw [if_pos (show numOf (x.f (x.row + i) 1) < 0 from of_decide_eq_true hp)]
  · rw [sl_tab1]; unfold K.p_tab1 at hp
    simp only [T.run_br, T.run_chk, T.run_ret, decide_eq_true_eq, Int.toNat_natCast]
    rw [if_pos (by omega), if_pos (by omega)]
    rw [if_neg (show ¬ numOf (x.f (x.row + i) 1) < 0 from of_decide_eq_false hp)]
    rw [w64_in (by omega) (by omega)]; simp
  · rw [sl_tab1]
    simp only [T.run_br, T.run_chk, T.run_ret, decide_eq_true_eq]
    rw [if_neg (by omega)]
noncomputable def BKB13 : Tab := BKB12.addNode 125 17 (nodeE [8, 0, 1, 7] S_tab1 X_tab1 (fun s => .obs (K.L_tab1 s) .ret))
theorem tKB13 : TabOk P BKB13 := TabOk.addLoop (d := 30) okP tKB12 (by kernel_rfl) (by kernel_rfl) (fun s r h => obs_ret h)
def D_tab1 := DecL.cons xKnots (.last (dFn 194 (.tops 0)) 0)
theorem fn_tab1 : ∀ a, (callT1 P BKB13 30 125 D_tab1 (dI .i64)) a = T.run (
  .obs (L_tab1 (Prod.fst a, PUnit.unit, (↑(clampL (XS.len (Prod.fst a))) : Int), (0 : Int))) fun x0 =>
    .sum (x0) (fun x1 =>
      .ret (x1)) (fun x1 =>
      .ret ((-1 : Int)))) := fun a => by kernel_rfl
theorem ix_tab1 (a : XS × Unit) : callT1 P BKB13 30 125 D_tab1 (dI .i64) a = some (idx (K.p_tab1 a.2 a.1) (K.len a.1)) := by
  rw [fn_tab1]
  show T.run (.obs (K.L_tab1 (a.1, a.2, (K.len a.1 : Int), 0)) _) = _
  rw [K.L_tab1_eq]; unfold idx
  cases first (K.p_tab1 a.2 a.1) (K.len a.1) <;> rfl
noncomputable def BKB14 : Tab := BKB13.addCall 125 (callE D_tab1 (dI .i64) (fun a => .ret (idx (K.p_tab1 a.2 a.1) (K.len a.1))))
theorem tKB14 : TabOk P BKB14 := TabOk.addFn (d := 30) okP tKB13 (fun a r h => by rw [ix_tab1]; exact congrArg some (ret_some h))
def R_find_hyd1 := dTup (.cons dHydro (.last (dI .i64) 0))
theorem fd_hyd1 : ∀ a, (callT1 P BKB14 30 85 D_hyd1 R_find_hyd1) a = T.run (
  .br (decide (idx (p_hyd1 (Prod.snd a) (Prod.fst a)) (len (Prod.fst a)) < (0 : Int))) (
    .ret ((Hydro.mk (0 : Int) (Span.mk (0 : Int) (0 : Int)), (-1 : Int)))) (
    .chk (decide ((0 : Int) ≤ idx (p_hyd1 (Prod.snd a) (Prod.fst a)) (len (Prod.fst a)) ∧ idx (p_hyd1 (Prod.snd a) (Prod.fst a)) (len (Prod.fst a)) < (↑(XS.len (Prod.fst a)) : Int))) <|
    .ret ((Hydro.mk (numOf (XS.f (Prod.fst a) (XS.row (Prod.fst a) + Int.toNat (idx (p_hyd1 (Prod.snd a) (Prod.fst a)) (len (Prod.fst a)))) (0 : Nat))) (Span.mk (numOf (XS.f (Prod.fst a) (XS.row (Prod.fst a) + Int.toNat (idx (p_hyd1 (Prod.snd a) (Prod.fst a)) (len (Prod.fst a)))) (nat_lit 1))) (numOf (XS.f (Prod.fst a) (XS.row (Prod.fst a) + Int.toNat (idx (p_hyd1 (Prod.snd a) (Prod.fst a)) (len (Prod.fst a)))) (nat_lit 2)))), idx (p_hyd1 (Prod.snd a) (Prod.fst a)) (len (Prod.fst a)))))) := fun a => by kernel_rfl
def K.find_hyd1 (c : Int) (x : XS) : Hydro × Int := found (hyd x) ⟨0, ⟨0, 0⟩⟩ (K.p_hyd1 c x) (K.len x)
theorem K.find_hyd1_eq (a : XS × Int) : callT1 P BKB14 30 85 D_hyd1 R_find_hyd1 a = some (K.find_hyd1 a.2 a.1) := by
  rw [fd_hyd1]; unfold K.find_hyd1 found idx
  cases h : first (K.p_hyd1 a.2 a.1) (K.len a.1) with
  | none => rfl
  | some i =>
    have h1 := (first_spec h).1; have h2 := K.len_le' a.1
    simp only [T.run_br, T.run_chk, T.run_ret, decide_eq_true_eq]
    rw [if_neg (by omega), if_pos (by omega)]; rfl
noncomputable def BKB15 : Tab := BKB14.addCall 85 (callE D_hyd1 R_find_hyd1 (fun a => .ret (K.find_hyd1 a.2 a.1)))
theorem tKB15 : TabOk P BKB15 := TabOk.addFn (d := 30) okP tKB14 (fun a r h => by rw [K.find_hyd1_eq]; exact congrArg some (ret_some h))
def R_find_chk1 := dTup (.cons dHydro (.last (dI .i64) 0))
theorem fd_chk1 : ∀ a, (callT1 P BKB15 30 85 D_chk1 R_find_chk1) a = T.run (
  .br (decide (idx (p_chk1 (Prod.snd a) (Prod.fst a)) (len (Prod.fst a)) < (0 : Int))) (
    .ret ((Hydro.mk (0 : Int) (Span.mk (0 : Int) (0 : Int)), (-1 : Int)))) (
    .chk (decide ((0 : Int) ≤ idx (p_chk1 (Prod.snd a) (Prod.fst a)) (len (Prod.fst a)) ∧ idx (p_chk1 (Prod.snd a) (Prod.fst a)) (len (Prod.fst a)) < (↑(XS.len (Prod.fst a)) : Int))) <|
    .ret ((Hydro.mk (numOf (XS.f (Prod.fst a) (XS.row (Prod.fst a) + Int.toNat (idx (p_chk1 (Prod.snd a) (Prod.fst a)) (len (Prod.fst a)))) (0 : Nat))) (Span.mk (numOf (XS.f (Prod.fst a) (XS.row (Prod.fst a) + Int.toNat (idx (p_chk1 (Prod.snd a) (Prod.fst a)) (len (Prod.fst a)))) (nat_lit 1))) (numOf (XS.f (Prod.fst a) (XS.row (Prod.fst a) + Int.toNat (idx (p_chk1 (Prod.snd a) (Prod.fst a)) (len (Prod.fst a)))) (nat_lit 2)))), idx (p_chk1 (Prod.snd a) (Prod.fst a)) (len (Prod.fst a)))))) := fun a => by kernel_rfl
def K.find_chk1 (c : Hydro) (x : XS) : Hydro × Int := found (hyd x) ⟨0, ⟨0, 0⟩⟩ (K.p_chk1 c x) (K.len x)
theorem K.find_chk1_eq (a : XS × Hydro) : callT1 P BKB15 30 85 D_chk1 R_find_chk1 a = some (K.find_chk1 a.2 a.1) := by
  rw [fd_chk1]; unfold K.find_chk1 found idx
  cases h : first (K.p_chk1 a.2 a.1) (K.len a.1) with
  | none => rfl
  | some i =>
    have h1 := (first_spec h).1; have h2 := K.len_le' a.1
    simp only [T.run_br, T.run_chk, T.run_ret, decide_eq_true_eq]
    rw [if_neg (by omega), if_pos (by omega)]; rfl
noncomputable def BKB16 : Tab := BKB15.addCall 85 (callE D_chk1 R_find_chk1 (fun a => .ret (K.find_chk1 a.2 a.1)))
theorem tKB16 : TabOk P BKB16 := TabOk.addFn (d := 30) okP tKB15 (fun a r h => by rw [K.find_chk1_eq]; exact congrArg some (ret_some h))
def R_find_chk2 := dTup (.cons dHydro (.last (dI .i64) 0))
theorem fd_chk2 : ∀ a, (callT1 P BKB16 30 85 D_chk2 R_find_chk2) a = T.run (
  .br (decide (idx (p_chk2 (Prod.snd a) (Prod.fst a)) (len (Prod.fst a)) < (0 : Int))) (
    .ret ((Hydro.mk (0 : Int) (Span.mk (0 : Int) (0 : Int)), (-1 : Int)))) (
    .chk (decide ((0 : Int) ≤ idx (p_chk2 (Prod.snd a) (Prod.fst a)) (len (Prod.fst a)) ∧ idx (p_chk2 (Prod.snd a) (Prod.fst a)) (len (Prod.fst a)) < (↑(XS.len (Prod.fst a)) : Int))) <|
    .ret ((Hydro.mk (numOf (XS.f (Prod.fst a) (XS.row (Prod.fst a) + Int.toNat (idx (p_chk2 (Prod.snd a) (Prod.fst a)) (len (Prod.fst a)))) (0 : Nat))) (Span.mk (numOf (XS.f (Prod.fst a) (XS.row (Prod.fst a) + Int.toNat (idx (p_chk2 (Prod.snd a) (Prod.fst a)) (len (Prod.fst a)))) (nat_lit 1))) (numOf (XS.f (Prod.fst a) (XS.row (Prod.fst a) + Int.toNat (idx (p_chk2 (Prod.snd a) (Prod.fst a)) (len (Prod.fst a)))) (nat_lit 2)))), idx (p_chk2 (Prod.snd a) (Prod.fst a)) (len (Prod.fst a)))))) := fun a => by kernel_rfl
def K.find_chk2 (c : Glass) (x : XS) : Hydro × Int := found (hyd x) ⟨0, ⟨0, 0⟩⟩ (K.p_chk2 c x) (K.len x)
theorem K.find_chk2_eq (a : XS × Glass) : callT1 P BKB16 30 85 D_chk2 R_find_chk2 a = some (K.find_chk2 a.2 a.1) := by
  rw [fd_chk2]; unfold K.find_chk2 found idx
  cases h : first (K.p_chk2 a.2 a.1) (K.len a.1) with
  | none => rfl
  | some i =>
    have h1 := (first_spec h).1; have h2 := K.len_le' a.1
    simp only [T.run_br, T.run_chk, T.run_ret, decide_eq_true_eq]
    rw [if_neg (by omega), if_pos (by omega)]; rfl
noncomputable def BKB17 : Tab := BKB16.addCall 85 (callE D_chk2 R_find_chk2 (fun a => .ret (K.find_chk2 a.2 a.1)))
theorem tKB17 : TabOk P BKB17 := TabOk.addFn (d := 30) okP tKB16 (fun a r h => by rw [K.find_chk2_eq]; exact congrArg some (ret_some h))
def R_find_chk3 := dTup (.cons dGlass (.last (dI .i64) 0))
theorem fd_chk3 : ∀ a, (callT1 P BKB17 30 88 D_chk3 R_find_chk3) a = T.run (
  .br (decide (idx (p_chk3 (Prod.snd a) (Prod.fst a)) (len (Prod.fst a)) < (0 : Int))) (
    .ret ((Glass.mk (0 : Int) (0 : Int) (0 : Int) (Span.mk (0 : Int) (0 : Int)), (-1 : Int)))) (
    .chk (decide ((0 : Int) ≤ idx (p_chk3 (Prod.snd a) (Prod.fst a)) (len (Prod.fst a)) ∧ idx (p_chk3 (Prod.snd a) (Prod.fst a)) (len (Prod.fst a)) < (↑(XS.len (Prod.fst a)) : Int))) <|
    .ret ((Glass.mk (numOf (XS.f (Prod.fst a) (XS.row (Prod.fst a) + Int.toNat (idx (p_chk3 (Prod.snd a) (Prod.fst a)) (len (Prod.fst a)))) (0 : Nat))) (numOf (XS.f (Prod.fst a) (XS.row (Prod.fst a) + Int.toNat (idx (p_chk3 (Prod.snd a) (Prod.fst a)) (len (Prod.fst a)))) (nat_lit 1))) (numOf (XS.f (Prod.fst a) (XS.row (Prod.fst a) + Int.toNat (idx (p_chk3 (Prod.snd a) (Prod.fst a)) (len (Prod.fst a)))) (nat_lit 2))) (Span.mk (numOf (XS.f (Prod.fst a) (XS.row (Prod.fst a) + Int.toNat (idx (p_chk3 (Prod.snd a) (Prod.fst a)) (len (Prod.fst a)))) (nat_lit 3))) (numOf (XS.f (Prod.fst a) (XS.row (Prod.fst a) + Int.toNat (idx (p_chk3 (Prod.snd a) (Prod.fst a)) (len (Prod.fst a)))) (nat_lit 4)))), idx (p_chk3 (Prod.snd a) (Prod.fst a)) (len (Prod.fst a)))))) := fun a => by kernel_rfl
def K.find_chk3 (c : Glass) (x : XS) : Glass × Int := found (gls x) ⟨0, 0, 0, ⟨0, 0⟩⟩ (K.p_chk3 c x) (K.len x)
theorem K.find_chk3_eq (a : XS × Glass) : callT1 P BKB17 30 88 D_chk3 R_find_chk3 a = some (K.find_chk3 a.2 a.1) := by
  rw [fd_chk3]; unfold K.find_chk3 found idx
  cases h : first (K.p_chk3 a.2 a.1) (K.len a.1) with
  | none => rfl
  | some i =>
    have h1 := (first_spec h).1; have h2 := K.len_le' a.1
    simp only [T.run_br, T.run_chk, T.run_ret, decide_eq_true_eq]
    rw [if_neg (by omega), if_pos (by omega)]; rfl
noncomputable def BKB18 : Tab := BKB17.addCall 88 (callE D_chk3 R_find_chk3 (fun a => .ret (K.find_chk3 a.2 a.1)))
theorem tKB18 : TabOk P BKB18 := TabOk.addFn (d := 30) okP tKB17 (fun a r h => by rw [K.find_chk3_eq]; exact congrArg some (ret_some h))
def R_find_lst1 := dTup (.cons dSurvey (.last (dI .i64) 0))
theorem fd_lst1 : ∀ a, (callT1 P BKB18 30 53 D_lst1 R_find_lst1) a = T.run (
  .br (decide (idx (p_lst1 (Prod.snd a) (Prod.fst a)) (len (Prod.fst a)) < (0 : Int))) (
    .ret ((Survey.mk (0 : Int) (0 : Int) (Span.mk (0 : Int) (0 : Int)) (Span.mk (0 : Int) (0 : Int)) (Span.mk (0 : Int) (0 : Int)) (Span.mk (0 : Int) (0 : Int)) (Span.mk (0 : Int) (0 : Int)) (Span.mk (0 : Int) (0 : Int)) (0 : Int) (0 : Int) (Span.mk (0 : Int) (0 : Int)), (-1 : Int)))) (
    .chk (decide ((0 : Int) ≤ idx (p_lst1 (Prod.snd a) (Prod.fst a)) (len (Prod.fst a)) ∧ idx (p_lst1 (Prod.snd a) (Prod.fst a)) (len (Prod.fst a)) < (↑(XS.len (Prod.fst a)) : Int))) <|
    .ret ((Survey.mk (numOf (XS.f (Prod.fst a) (XS.row (Prod.fst a) + Int.toNat (idx (p_lst1 (Prod.snd a) (Prod.fst a)) (len (Prod.fst a)))) (0 : Nat))) (numOf (XS.f (Prod.fst a) (XS.row (Prod.fst a) + Int.toNat (idx (p_lst1 (Prod.snd a) (Prod.fst a)) (len (Prod.fst a)))) (nat_lit 1))) (Span.mk (numOf (XS.f (Prod.fst a) (XS.row (Prod.fst a) + Int.toNat (idx (p_lst1 (Prod.snd a) (Prod.fst a)) (len (Prod.fst a)))) (nat_lit 2))) (numOf (XS.f (Prod.fst a) (XS.row (Prod.fst a) + Int.toNat (idx (p_lst1 (Prod.snd a) (Prod.fst a)) (len (Prod.fst a)))) (nat_lit 3)))) (Span.mk (numOf (XS.f (Prod.fst a) (XS.row (Prod.fst a) + Int.toNat (idx (p_lst1 (Prod.snd a) (Prod.fst a)) (len (Prod.fst a)))) (nat_lit 4))) (numOf (XS.f (Prod.fst a) (XS.row (Prod.fst a) + Int.toNat (idx (p_lst1 (Prod.snd a) (Prod.fst a)) (len (Prod.fst a)))) (nat_lit 5)))) (Span.mk (numOf (XS.f (Prod.fst a) (XS.row (Prod.fst a) + Int.toNat (idx (p_lst1 (Prod.snd a) (Prod.fst a)) (len (Prod.fst a)))) (nat_lit 6))) (numOf (XS.f (Prod.fst a) (XS.row (Prod.fst a) + Int.toNat (idx (p_lst1 (Prod.snd a) (Prod.fst a)) (len (Prod.fst a)))) (nat_lit 7)))) (Span.mk (numOf (XS.f (Prod.fst a) (XS.row (Prod.fst a) + Int.toNat (idx (p_lst1 (Prod.snd a) (Prod.fst a)) (len (Prod.fst a)))) (nat_lit 8))) (numOf (XS.f (Prod.fst a) (XS.row (Prod.fst a) + Int.toNat (idx (p_lst1 (Prod.snd a) (Prod.fst a)) (len (Prod.fst a)))) (nat_lit 9)))) (Span.mk (numOf (XS.f (Prod.fst a) (XS.row (Prod.fst a) + Int.toNat (idx (p_lst1 (Prod.snd a) (Prod.fst a)) (len (Prod.fst a)))) (nat_lit 10))) (numOf (XS.f (Prod.fst a) (XS.row (Prod.fst a) + Int.toNat (idx (p_lst1 (Prod.snd a) (Prod.fst a)) (len (Prod.fst a)))) (nat_lit 11)))) (Span.mk (numOf (XS.f (Prod.fst a) (XS.row (Prod.fst a) + Int.toNat (idx (p_lst1 (Prod.snd a) (Prod.fst a)) (len (Prod.fst a)))) (nat_lit 12))) (numOf (XS.f (Prod.fst a) (XS.row (Prod.fst a) + Int.toNat (idx (p_lst1 (Prod.snd a) (Prod.fst a)) (len (Prod.fst a)))) (nat_lit 13)))) (numOf (XS.f (Prod.fst a) (XS.row (Prod.fst a) + Int.toNat (idx (p_lst1 (Prod.snd a) (Prod.fst a)) (len (Prod.fst a)))) (nat_lit 14))) (numOf (XS.f (Prod.fst a) (XS.row (Prod.fst a) + Int.toNat (idx (p_lst1 (Prod.snd a) (Prod.fst a)) (len (Prod.fst a)))) (nat_lit 15))) (Span.mk (numOf (XS.f (Prod.fst a) (XS.row (Prod.fst a) + Int.toNat (idx (p_lst1 (Prod.snd a) (Prod.fst a)) (len (Prod.fst a)))) (nat_lit 16))) (numOf (XS.f (Prod.fst a) (XS.row (Prod.fst a) + Int.toNat (idx (p_lst1 (Prod.snd a) (Prod.fst a)) (len (Prod.fst a)))) (nat_lit 17)))), idx (p_lst1 (Prod.snd a) (Prod.fst a)) (len (Prod.fst a)))))) := fun a => by kernel_rfl
def K.find_lst1 (c : Survey) (x : XS) : Survey × Int := found (svy x) ⟨0, 0, ⟨0, 0⟩, ⟨0, 0⟩, ⟨0, 0⟩, ⟨0, 0⟩, ⟨0, 0⟩, ⟨0, 0⟩, 0, 0, ⟨0, 0⟩⟩ (K.p_lst1 c x) (K.len x)
theorem K.find_lst1_eq (a : XS × Survey) : callT1 P BKB18 30 53 D_lst1 R_find_lst1 a = some (K.find_lst1 a.2 a.1) := by
  rw [fd_lst1]; unfold K.find_lst1 found idx
  cases h : first (K.p_lst1 a.2 a.1) (K.len a.1) with
  | none => rfl
  | some i =>
    have h1 := (first_spec h).1; have h2 := K.len_le' a.1
    simp only [T.run_br, T.run_chk, T.run_ret, decide_eq_true_eq]
    rw [if_neg (by omega), if_pos (by omega)]; rfl
noncomputable def BKB19 : Tab := BKB18.addCall 53 (callE D_lst1 R_find_lst1 (fun a => .ret (K.find_lst1 a.2 a.1)))
theorem tKB19 : TabOk P BKB19 := TabOk.addFn (d := 30) okP tKB18 (fun a r h => by rw [K.find_lst1_eq]; exact congrArg some (ret_some h))
theorem ct_hul1 : ∀ a, (callT1 P BKB19 30 143 D_hul1 dB) a = T.run (
  .ret (decide (idx (p_hul1 (Prod.snd a) (Prod.fst a)) (len (Prod.fst a)) ≥ (0 : Int)))) := fun a => by kernel_rfl
def K.has_hul1 (c : Hold) (x : XS) : Bool := (first (K.p_hul1 c x) (K.len x)).isSome
theorem K.has_hul1_eq (a : XS × Hold) : callT1 P BKB19 30 143 D_hul1 dB a = some (K.has_hul1 a.2 a.1) := by
  rw [ct_hul1]; unfold K.has_hul1 idx
  cases h : first (K.p_hul1 a.2 a.1) (K.len a.1) with
  | none => rfl
  | some i => simp [T.run_ret]
noncomputable def BKB20 : Tab := BKB19.addCall 143 (callE D_hul1 dB (fun a => .ret (K.has_hul1 a.2 a.1)))
theorem tKB20 : TabOk P BKB20 := TabOk.addFn (d := 30) okP tKB19 (fun a r h => by rw [K.has_hul1_eq]; exact congrArg some (ret_some h))
theorem ct_tab1 : ∀ a, (callT1 P BKB20 30 193 D_tab1 dB) a = T.run (
  .ret (decide (idx (p_tab1 PUnit.unit (Prod.fst a)) (len (Prod.fst a)) ≥ (0 : Int)))) := fun a => by kernel_rfl
def K.has_tab1 (c : Unit) (x : XS) : Bool := (first (K.p_tab1 c x) (K.len x)).isSome
theorem K.has_tab1_eq (a : XS × Unit) : callT1 P BKB20 30 193 D_tab1 dB a = some (K.has_tab1 a.2 a.1) := by
  rw [ct_tab1]; unfold K.has_tab1 idx
  cases h : first (K.p_tab1 a.2 a.1) (K.len a.1) with
  | none => rfl
  | some i => simp [T.run_ret]
noncomputable def BKB21 : Tab := BKB20.addCall 193 (callE D_tab1 dB (fun a => .ret (K.has_tab1 a.2 a.1)))
theorem tKB21 : TabOk P BKB21 := TabOk.addFn (d := 30) okP tKB20 (fun a r h => by rw [K.has_tab1_eq]; exact congrArg some (ret_some h))
end Go.Proofs.YtjbhooodjmjdkaaGreat
/-! KC -/
namespace Go.Proofs.YtjbhooodjmjdkaaGreat
open Ev K
set_option maxRecDepth 100000
/-! glasses -/
def S_gls := DecS.yld (.unit dYv (.skip (.cons (dP 1 (.last (dI .i64) 0) 0) (.skips 4 (.cons xGlasses (.cons (dI .i64) (.last (dI .i64) 28))))))) .nil
def X_gls := DecX.or (DecX.one .ret [] (DecS.yld (.tops 38) .nil)) (DecX.one (.exit 0) [] (DecS.yld (.tops 38) .nil))
noncomputable def K.st_gls := loopT1 P BKB21 30 134 9 [9, 0, 2, 7, 8] S_gls X_gls
theorem sl_gls : ∀ s, (K.st_gls) s = T.run (
  .br (decide (Prod.snd (Prod.snd (Prod.snd (Prod.fst s))) < Prod.fst (Prod.snd (Prod.snd (Prod.fst s))))) (
    .chk (decide ((0 : Int) ≤ Prod.snd (Prod.snd (Prod.snd (Prod.fst s))) ∧ Prod.snd (Prod.snd (Prod.snd (Prod.fst s))) < (↑(XS.len (Prod.fst (Prod.snd (Prod.fst s)))) : Int))) <|
    .br (numOf (XS.f (Prod.fst (Prod.snd (Prod.fst s))) (XS.row (Prod.fst (Prod.snd (Prod.fst s))) + Int.toNat (Prod.snd (Prod.snd (Prod.snd (Prod.fst s))))) (nat_lit 1)) == Prod.fst (Prod.fst s)) (
      .br (!Prod.fst (Prod.snd (Prod.snd s)) (List.length (Prod.snd (Prod.snd (Prod.snd s))))) (
        .ret (Sum.inr (Sum.inl (PUnit.unit, PUnit.unit, Prod.fst (Prod.snd (Prod.snd s)), ([AV.agg [AV.int IntKind.i64 (numOf (XS.f (Prod.fst (Prod.snd (Prod.fst s))) (XS.row (Prod.fst (Prod.snd (Prod.fst s))) + Int.toNat (Prod.snd (Prod.snd (Prod.snd (Prod.fst s))))) (0 : Nat))), AV.int IntKind.i64 (numOf (XS.f (Prod.fst (Prod.snd (Prod.fst s))) (XS.row (Prod.fst (Prod.snd (Prod.fst s))) + Int.toNat (Prod.snd (Prod.snd (Prod.snd (Prod.fst s))))) (nat_lit 1))), AV.int IntKind.i64 (numOf (XS.f (Prod.fst (Prod.snd (Prod.fst s))) (XS.row (Prod.fst (Prod.snd (Prod.fst s))) + Int.toNat (Prod.snd (Prod.snd (Prod.snd (Prod.fst s))))) (nat_lit 2))), AV.int IntKind.i64 (numOf (XS.f (Prod.fst (Prod.snd (Prod.fst s))) (XS.row (Prod.fst (Prod.snd (Prod.fst s))) + Int.toNat (Prod.snd (Prod.snd (Prod.snd (Prod.fst s))))) (nat_lit 3))), AV.int IntKind.i64 (numOf (XS.f (Prod.fst (Prod.snd (Prod.fst s))) (XS.row (Prod.fst (Prod.snd (Prod.fst s))) + Int.toNat (Prod.snd (Prod.snd (Prod.snd (Prod.fst s))))) (nat_lit 4))), AV.int IntKind.i64 (IntKind.wrap IntKind.i64 (numOf (XS.f (Prod.fst (Prod.snd (Prod.fst s))) (XS.row (Prod.fst (Prod.snd (Prod.fst s))) + Int.toNat (Prod.snd (Prod.snd (Prod.snd (Prod.fst s))))) (nat_lit 3)) - numOf (XS.f (Prod.fst (Prod.snd (Prod.fst s))) (XS.row (Prod.fst (Prod.snd (Prod.fst s))) + Int.toNat (Prod.snd (Prod.snd (Prod.snd (Prod.fst s))))) (nat_lit 2)))), AV.int IntKind.i64 (IntKind.wrap IntKind.i64 (numOf (XS.f (Prod.fst (Prod.snd (Prod.fst s))) (XS.row (Prod.fst (Prod.snd (Prod.fst s))) + Int.toNat (Prod.snd (Prod.snd (Prod.snd (Prod.fst s))))) (nat_lit 4)) - numOf (XS.f (Prod.fst (Prod.snd (Prod.fst s))) (XS.row (Prod.fst (Prod.snd (Prod.fst s))) + Int.toNat (Prod.snd (Prod.snd (Prod.snd (Prod.fst s))))) (nat_lit 2))))]], Prod.fst (Prod.snd (Prod.snd s)) (List.length (Prod.snd (Prod.snd (Prod.snd s))))) :: Prod.snd (Prod.snd (Prod.snd s)))))) (
        .ret (Sum.inl ((Prod.fst (Prod.fst s), Prod.fst (Prod.snd (Prod.fst s)), Prod.fst (Prod.snd (Prod.snd (Prod.fst s))), IntKind.wrap IntKind.i64 (Prod.snd (Prod.snd (Prod.snd (Prod.fst s))) + (1 : Int))), PUnit.unit, Prod.fst (Prod.snd (Prod.snd s)), ([AV.agg [AV.int IntKind.i64 (numOf (XS.f (Prod.fst (Prod.snd (Prod.fst s))) (XS.row (Prod.fst (Prod.snd (Prod.fst s))) + Int.toNat (Prod.snd (Prod.snd (Prod.snd (Prod.fst s))))) (0 : Nat))), AV.int IntKind.i64 (numOf (XS.f (Prod.fst (Prod.snd (Prod.fst s))) (XS.row (Prod.fst (Prod.snd (Prod.fst s))) + Int.toNat (Prod.snd (Prod.snd (Prod.snd (Prod.fst s))))) (nat_lit 1))), AV.int IntKind.i64 (numOf (XS.f (Prod.fst (Prod.snd (Prod.fst s))) (XS.row (Prod.fst (Prod.snd (Prod.fst s))) + Int.toNat (Prod.snd (Prod.snd (Prod.snd (Prod.fst s))))) (nat_lit 2))), AV.int IntKind.i64 (numOf (XS.f (Prod.fst (Prod.snd (Prod.fst s))) (XS.row (Prod.fst (Prod.snd (Prod.fst s))) + Int.toNat (Prod.snd (Prod.snd (Prod.snd (Prod.fst s))))) (nat_lit 3))), AV.int IntKind.i64 (numOf (XS.f (Prod.fst (Prod.snd (Prod.fst s))) (XS.row (Prod.fst (Prod.snd (Prod.fst s))) + Int.toNat (Prod.snd (Prod.snd (Prod.snd (Prod.fst s))))) (nat_lit 4))), AV.int IntKind.i64 (IntKind.wrap IntKind.i64 (numOf (XS.f (Prod.fst (Prod.snd (Prod.fst s))) (XS.row (Prod.fst (Prod.snd (Prod.fst s))) + Int.toNat (Prod.snd (Prod.snd (Prod.snd (Prod.fst s))))) (nat_lit 3)) - numOf (XS.f (Prod.fst (Prod.snd (Prod.fst s))) (XS.row (Prod.fst (Prod.snd (Prod.fst s))) + Int.toNat (Prod.snd (Prod.snd (Prod.snd (Prod.fst s))))) (nat_lit 2)))), AV.int IntKind.i64 (IntKind.wrap IntKind.i64 (numOf (XS.f (Prod.fst (Prod.snd (Prod.fst s))) (XS.row (Prod.fst (Prod.snd (Prod.fst s))) + Int.toNat (Prod.snd (Prod.snd (Prod.snd (Prod.fst s))))) (nat_lit 4)) - numOf (XS.f (Prod.fst (Prod.snd (Prod.fst s))) (XS.row (Prod.fst (Prod.snd (Prod.fst s))) + Int.toNat (Prod.snd (Prod.snd (Prod.snd (Prod.fst s))))) (nat_lit 2))))]], Prod.fst (Prod.snd (Prod.snd s)) (List.length (Prod.snd (Prod.snd (Prod.snd s))))) :: Prod.snd (Prod.snd (Prod.snd s)))))) (
      .ret (Sum.inl ((Prod.fst (Prod.fst s), Prod.fst (Prod.snd (Prod.fst s)), Prod.fst (Prod.snd (Prod.snd (Prod.fst s))), IntKind.wrap IntKind.i64 (Prod.snd (Prod.snd (Prod.snd (Prod.fst s))) + (1 : Int))), PUnit.unit, Prod.snd (Prod.snd s))))) (
    .ret (Sum.inr (Sum.inr (PUnit.unit, PUnit.unit, Prod.snd (Prod.snd s)))))) := fun s => by kernel_rfl
noncomputable def K.L_gls := lim K.st_gls
noncomputable def BKC1 : Tab := BKB21.addNode 134 9 (nodeE [9, 0, 2, 7, 8] S_gls X_gls (fun s => .obs (K.L_gls s) .ret))
theorem tKC1 : TabOk P BKC1 := TabOk.addLoop (d := 30) okP tKB21 (by kernel_rfl) (by kernel_rfl) (fun s r h => obs_ret h)
noncomputable def I_gls (a : Bulbs × Int) (bs : Nat → Bool) := iterT1 P BKC1 30 134 [] (V_gls.enc a) bs
theorem it_gls : ∀ a bs, (I_gls) a bs = T.run (
  .obs (L_gls ((Prod.snd a, Bulbs.glasses (Prod.fst a), (↑(clampL (XS.len (Bulbs.glasses (Prod.fst a)))) : Int), (0 : Int)), PUnit.unit, bs, [])) fun x0 =>
    .sum (x0) (fun x1 =>
      .ret (List.reverse (Prod.snd (Prod.snd (Prod.snd x1))))) (fun x1 =>
      .ret (List.reverse (Prod.snd (Prod.snd (Prod.snd x1)))))) := fun a bs => by kernel_rfl
section
variable (x : XS) (h : Int) {bs : Nat → Bool}
abbrev K.Sg (x : XS) (h : Int) (bs : Nat → Bool) (i : Nat) (out : List (List AV × Bool)) := ((h, x, (K.len x : Int), (i : Int)), PUnit.unit, bs, out)
abbrev K.pg (x : XS) (h : Int) (i : Nat) : Bool := (gls x i).hydro == h
abbrev K.eg (x : XS) (i : Nat) : List AV := eTold (toldOf (gls x i))
theorem gls_n (i : Nat) (hi : i < K.len x) (out) (hp : pg x h i = false) : st_gls (Sg x h bs i out) = some (.inl (Sg x h bs (i + 1) out)) := by
  have e1 := K.len_le x; have e2 := K.len_le' x
  rw [sl_gls]
  simp only [T.run_br, T.run_chk, T.run_ret, decide_eq_true_eq, Int.toNat_natCast]
  rw [if_pos (by omega), if_pos (by omega)]
  simp only [pg, gls, XS.g] at hp
  rw [if_neg (by simp [hp]), w64_in (by omega) (by omega)]; simp
theorem gls_y (i : Nat) (hi : i < K.len x) (out : List (List AV × Bool)) (hp : pg x h i = true) (hb : bs out.length = true) : st_gls (Sg x h bs i out) = some (.inl (Sg x h bs (i + 1) ((eg x i, true) :: out))) := by
  have e1 := K.len_le x; have e2 := K.len_le' x
  rw [sl_gls]
  simp only [T.run_br, T.run_chk, T.run_ret, decide_eq_true_eq, Int.toNat_natCast, hb]
  rw [if_pos (by omega), if_pos (by omega)]
  simp only [pg, gls, XS.g] at hp
  rw [if_pos hp, if_neg (by simp), w64_in (by omega) (by omega)]; simp; rfl
theorem gls_s (i : Nat) (hi : i < K.len x) (out : List (List AV × Bool)) (hp : pg x h i = true) (hb : bs out.length = false) : st_gls (Sg x h bs i out) = some (.inr (.inl ((), (), bs, (eg x i, false) :: out))) := by
  have e1 := K.len_le x; have e2 := K.len_le' x
  rw [sl_gls]
  simp only [T.run_br, T.run_chk, T.run_ret, decide_eq_true_eq, Int.toNat_natCast, hb]
  rw [if_pos (by omega), if_pos (by omega)]
  simp only [pg, gls, XS.g] at hp
  rw [if_pos hp, if_pos (by simp)]; rfl
theorem gls_e (out) : st_gls (Sg x h bs (K.len x) out) = some (.inr (.inr ((), (), bs, out))) := by
  rw [sl_gls]
  simp only [T.run_br, T.run_chk, T.run_ret, decide_eq_true_eq]
  rw [if_neg (by omega)]
theorem icl_gls (b : Bulbs) : ICL P 134 [] (V_gls.enc (b, h)) ((glassesL b h).map eTold) := by
  refine iter_of okP tKC1  (d := 30) ?_ (fun m y hy => ?_)
  · show I_gls (b, h) _ = _
    rw [it_gls]
    show T.run (.obs (lim st_gls (Sg b.glasses h _ 0 [])) _) = _
    rw [lim_yields_all (Sg b.glasses h _) (pg b.glasses h) (eg b.glasses) (fun o => Sum.inr ((), (), (fun _ => true), o)) (fun i hi out hp => gls_n b.glasses h i hi out hp) (fun i hi out hp hb => gls_y b.glasses h i hi out hp hb) (fun out => gls_e b.glasses h out) (fun _ => rfl) (K.len b.glasses) 0 [] (by omega)]
    simp only [T.run_some, T.run_inr, T.run_ret, List.append_nil, List.reverse_reverse, glassesL, List.map_map, ← List.range_eq_range']
    rfl
  · show I_gls (b, h) _ = _
    rw [it_gls]
    show T.run (.obs (lim st_gls (Sg b.glasses h _ 0 [])) _) = _
    have hy' : (((List.range' 0 (K.len b.glasses)).filter (pg b.glasses h)).map (eg b.glasses))[m - ([] : List (List AV × Bool)).length]? = some y := by
      rw [← List.range_eq_range']; simpa [glassesL, List.map_map, Function.comp_def] using hy
    rw [lim_yields_stop (Sg b.glasses h _) (pg b.glasses h) (eg b.glasses) (fun o => Sum.inl ((), (), (fun k => !(Nat.beq k m)), o)) (fun i hi out hp => gls_n b.glasses h i hi out hp) (fun i hi out hp hb => gls_y b.glasses h i hi out hp hb) (fun i hi out hp hb => gls_s b.glasses h i hi out hp hb) (fun _ => rfl) (K.len b.glasses) 0 [] (by omega) (by simp) hy']
    simp only [T.run_some, T.run_inl, T.run_ret, List.append_nil, List.reverse_cons, List.reverse_reverse, List.length_nil, Nat.sub_zero, ← List.range_eq_range', glassesL, List.map_map]
    rfl
end
/-! errors -/
def D_gl := DecL.cons (dBulbs) (.last (dI .i64) 0)
def R_gl := dFn 134 V_gls
theorem fn_gl : ∀ a, (callT1 P BKC1 30 73 D_gl R_gl) a = T.run (
  .ret ((Prod.fst a, numOf (AV.int IntKind.i64 (Prod.snd a))))) := fun a => by kernel_rfl
noncomputable def BKC2 : Tab := BKC1.addCall 73 (callE D_gl R_gl (fun a => .ret a))
theorem tKC2 : TabOk P BKC2 := TabOk.addFn (d := 30) okP tKC1 (fun a r h => by rw [fn_gl]; exact h)
def S_err := DecS.mk0 (.skips 5 (.unit (dLp 0 0 0 0) (.unit (dLp 1 0 0 0) (.unit (dLp 2 0 0 0) (.skips 6 (.last R_gl 11)))))) (.flat 3 (.last (dI .i64) 0) (.flat 39 lSpan (.flat 39 lSpan .nil)))
noncomputable def K.st_err := rangeT1 P BKC2 30 82 25 [14, 6, 7, 5] S_err DecX.no eTold
theorem rg_err : ∀ s x, (K.st_err) s x = T.run (
  .br (Glass.id (GlassE.g x) != Prod.fst (Prod.snd s)) (
    .ret (Sum.inl (Prod.fst s, Prod.fst (Prod.snd s), Prod.fst (Prod.snd (Prod.snd s)), meet (Prod.fst (Prod.snd (Prod.snd (Prod.snd s)))) (GlassE.errors x), PUnit.unit))) (
    .ret (Sum.inl (Prod.fst s, Prod.fst (Prod.snd s), Prod.fst (Prod.snd (Prod.snd s)), Prod.fst (Prod.snd (Prod.snd (Prod.snd s))), PUnit.unit)))) := fun s x => by kernel_rfl
theorem st_err_eq (s) (x : GlassE) : st_err s x = some (.inl (s.1, s.2.1, s.2.2.1, if x.g.id != s.2.1 then meet s.2.2.2.1 x.errors else s.2.2.2.1, ())) := by
  rw [rg_err]; simp only [T.run_br, T.run_ret]; cases (x.g.id != s.2.1) <;> rfl
theorem fold_err (L : List GlassE) (a : Bulbs × Int) (but : Int) (r c : Span) : L.foldl (fun (s : (Bulbs × Int) × Int × Span × Span × Unit) (x : GlassE) => (s.1, s.2.1, s.2.2.1, if x.g.id != s.2.1 then meet s.2.2.2.1 x.errors else s.2.2.2.1, ())) (a, but, r, c, ()) =
    (a, but, r, L.foldl (fun c g => if g.g.id != but then meet c g.errors else c) c, ()) := by
  induction L generalizing c with
  | nil => rfl
  | cons x L ih => simp only [List.foldl_cons]; exact ih _
noncomputable def BKC3 : Tab := BKC2.addNode 82 25 (rangeE [14, 6, 7, 5] S_err DecX.no (fun s => .ret (.inl (s.1, s.2.1, s.2.2.1, (glassesL s.1.1 s.1.2).foldl (fun c g => if g.g.id != s.2.1 then meet c g.errors else c) s.2.2.2.1, ()))))
theorem tKC3 : TabOk P BKC3 := TabOk.addRange (d := 30) (enc := eTold) (L := (fun s => glassesL s.1.1 s.1.2)) okP tKC2 (by kernel_rfl) (by kernel_rfl) (fun s r h => ⟨_, _, _, (by kernel_rfl : _ = some (134, [], V_gls.enc s.1)), icl_gls s.1.2 s.1.1⟩) (fun s r h => by have e := ret_some h; subst e; rw [← fold_err]; exact foldS_total st_err_eq _ _)
def D_errs := DecL.cons (dBulbs) (.cons (dHydro) (.last (dI .i64) 0))
theorem fn_errs : ∀ a, (callT1 P BKC3 30 82 D_errs dSpan) a = T.run (
  .ret (List.foldl (fun c g => if (Glass.id (GlassE.g g) != Prod.snd (Prod.snd a)) = true then meet c (GlassE.errors g) else c) (Hydro.off (Prod.fst (Prod.snd a))) (glassesL (Prod.fst a) (Hydro.id (Prod.fst (Prod.snd a)))))) := fun a => by kernel_rfl
noncomputable def BKC4 : Tab := BKC3.addCall 82 (callE D_errs dSpan (fun a => .ret (errs a.1 a.2.1 a.2.2)))
theorem tKC4 : TabOk P BKC4 := TabOk.addFn (d := 30) okP tKC3 (fun a r h => by rw [fn_errs]; exact h)
def D_hydro := DecL.cons (dBulbs) (.last (dI .i64) 0)
def R_hydro := dTup (.cons dHydro (.last dB 0))
theorem fn_hydro : ∀ a, (callT1 P BKC4 30 72 D_hydro R_hydro) a = T.run (
  .ret ((Prod.fst (find_hyd1 (numOf (AV.int IntKind.i64 (Prod.snd a))) (Bulbs.hydros (Prod.fst a))), decide (Prod.snd (find_hyd1 (numOf (AV.int IntKind.i64 (Prod.snd a))) (Bulbs.hydros (Prod.fst a))) ≥ (0 : Int))))) := fun a => by kernel_rfl
noncomputable def K.hydro (a : Bulbs × Int) : Hydro × Bool := (Prod.fst (find_hyd1 (numOf (AV.int IntKind.i64 (Prod.snd a))) (Bulbs.hydros (Prod.fst a))), decide (Prod.snd (find_hyd1 (numOf (AV.int IntKind.i64 (Prod.snd a))) (Bulbs.hydros (Prod.fst a))) ≥ (0 : Int)))
theorem eq_hydro (a : Bulbs × Int) : (callT1 P BKC4 30 72 D_hydro R_hydro) a = some (K.hydro a) := (fn_hydro a).trans rfl
noncomputable def BKC5 : Tab := BKC4.addCall 72 (callE D_hydro R_hydro (fun a => .ret (K.hydro a)))
theorem tKC5 : TabOk P BKC5 := TabOk.addFn (d := 30) okP tKC4 (fun a r h => by rw [eq_hydro]; exact congrArg some (ret_some h))
def D_off := DecL.cons (dBulbs) (.last (dI .i64) 0)
def R_off := dTup (.cons dSpan (.last (dI .i64) 0))
theorem fn_off : ∀ a, (callT1 P BKC5 30 68 D_off R_off) a = T.run (
  .br (!Prod.snd (hydro a)) (
    .ret ((Span.mk (0 : Int) (0 : Int), (5 : Int)))) (
    .br (void (errs (Prod.fst a) (Prod.fst (hydro a)) (0 : Int))) (
      .ret ((Span.mk (0 : Int) (0 : Int), (9 : Int)))) (
      .ret ((errs (Prod.fst a) (Prod.fst (hydro a)) (0 : Int), (0 : Int)))))) := fun a => by kernel_rfl
noncomputable def K.off (a : Bulbs × Int) : Span × Int := (if (!Prod.snd (hydro a)) = true then (Span.mk (0 : Int) (0 : Int), (5 : Int)) else (if (void (errs (Prod.fst a) (Prod.fst (hydro a)) (0 : Int))) = true then (Span.mk (0 : Int) (0 : Int), (9 : Int)) else (errs (Prod.fst a) (Prod.fst (hydro a)) (0 : Int), (0 : Int))))
theorem eq_off (a : Bulbs × Int) : (callT1 P BKC5 30 68 D_off R_off) a = some (K.off a) := (fn_off a).trans (T.br_some rfl (T.br_some rfl rfl))
noncomputable def BKC6 : Tab := BKC5.addCall 68 (callE D_off R_off (fun a => .ret (K.off a)))
theorem tKC6 : TabOk P BKC6 := TabOk.addFn (d := 30) okP tKC5 (fun a r h => by rw [eq_off]; exact congrArg some (ret_some h))
def D_dens := DecL.cons (dBulbs) (.last (dSurvey) 0)
theorem fn_density : ∀ a, (callT1 P BKC6 30 93 D_dens R_off) a = T.run (
  .br (Prod.snd (off (Prod.fst a, Survey.hydro (Prod.snd a))) != (0 : Int)) (
    .ret ((Span.mk (0 : Int) (0 : Int), Prod.snd (off (Prod.fst a, Survey.hydro (Prod.snd a)))))) (
    .br (void (meet (Span.mk (IntKind.wrap IntKind.i64 (Span.lo (Survey.shown (Prod.snd a)) - Span.hi (Prod.fst (off (Prod.fst a, Survey.hydro (Prod.snd a)))))) (IntKind.wrap IntKind.i64 (Span.hi (Survey.shown (Prod.snd a)) - Span.lo (Prod.fst (off (Prod.fst a, Survey.hydro (Prod.snd a))))))) (Span.mk (900 : Int) (1100 : Int)))) (
      .ret ((Span.mk (0 : Int) (0 : Int), (9 : Int)))) (
      .ret ((meet (Span.mk (IntKind.wrap IntKind.i64 (Span.lo (Survey.shown (Prod.snd a)) - Span.hi (Prod.fst (off (Prod.fst a, Survey.hydro (Prod.snd a)))))) (IntKind.wrap IntKind.i64 (Span.hi (Survey.shown (Prod.snd a)) - Span.lo (Prod.fst (off (Prod.fst a, Survey.hydro (Prod.snd a))))))) (Span.mk (900 : Int) (1100 : Int)), (0 : Int)))))) := fun a => by kernel_rfl
noncomputable def K.density (a : Bulbs × Survey) : Span × Int := (if (Prod.snd (off (Prod.fst a, Survey.hydro (Prod.snd a))) != (0 : Int)) = true then (Span.mk (0 : Int) (0 : Int), Prod.snd (off (Prod.fst a, Survey.hydro (Prod.snd a)))) else (if (void (meet (Span.mk (IntKind.wrap IntKind.i64 (Span.lo (Survey.shown (Prod.snd a)) - Span.hi (Prod.fst (off (Prod.fst a, Survey.hydro (Prod.snd a)))))) (IntKind.wrap IntKind.i64 (Span.hi (Survey.shown (Prod.snd a)) - Span.lo (Prod.fst (off (Prod.fst a, Survey.hydro (Prod.snd a))))))) (Span.mk (900 : Int) (1100 : Int)))) = true then (Span.mk (0 : Int) (0 : Int), (9 : Int)) else (meet (Span.mk (IntKind.wrap IntKind.i64 (Span.lo (Survey.shown (Prod.snd a)) - Span.hi (Prod.fst (off (Prod.fst a, Survey.hydro (Prod.snd a)))))) (IntKind.wrap IntKind.i64 (Span.hi (Survey.shown (Prod.snd a)) - Span.lo (Prod.fst (off (Prod.fst a, Survey.hydro (Prod.snd a))))))) (Span.mk (900 : Int) (1100 : Int)), (0 : Int))))
theorem eq_density (a : Bulbs × Survey) : (callT1 P BKC6 30 93 D_dens R_off) a = some (K.density a) := (fn_density a).trans (T.br_some rfl (T.br_some rfl rfl))
noncomputable def BKC7 : Tab := BKC6.addCall 93 (callE D_dens R_off (fun a => .ret (K.density a)))
theorem tKC7 : TabOk P BKC7 := TabOk.addFn (d := 30) okP tKC6 (fun a r h => by rw [eq_density]; exact congrArg some (ret_some h))
def D_extr := DecL.last (dSurvey) 0
def R_extr := (dTup (.cons (dAgg (.cons (dI .i64) (.cons (dI .i64) (.cons (dI .i64) (.last (dI .i64) 0))))) (.last dB 0))).iso (fun p => ((⟨p.1.1, p.1.2.1⟩, ⟨p.1.2.2.1, p.1.2.2.2⟩), p.2)) (fun (s : (Sums × Sums) × Bool) => ((s.1.1.ends, s.1.1.middle, s.1.2.ends, s.1.2.middle), s.2)) (fun _ => rfl)
theorem fn_extr : ∀ a, (callT1 P BKC7 30 94 D_extr R_extr) a = T.run (
  .br (void (meet (both (Survey.m2 a) (Survey.m3 a)) (Span.mk (IntKind.wrap IntKind.i64 ((0 : Int) - half (IntKind.wrap IntKind.i64 (IntKind.wrap IntKind.i64 ((4 : Int) * Survey.sag a) - Span.lo (both (both (Survey.m0 a) (Survey.m1 a)) (both (Survey.m4 a) (Survey.m5 a))))))) (half (IntKind.wrap IntKind.i64 (Span.hi (both (both (Survey.m0 a) (Survey.m1 a)) (both (Survey.m4 a) (Survey.m5 a))) + IntKind.wrap IntKind.i64 ((4 : Int) * Survey.sag a))))))) (
    .ret (((Sums.mk (0 : Int) (0 : Int), Sums.mk (0 : Int) (0 : Int)), false))) (
    .ret (((Sums.mk (if IntKind.wrap IntKind.i64 (IntKind.wrap IntKind.i64 ((2 : Int) * Span.lo (meet (both (Survey.m2 a) (Survey.m3 a)) (Span.mk (IntKind.wrap IntKind.i64 ((0 : Int) - half (IntKind.wrap IntKind.i64 (IntKind.wrap IntKind.i64 ((4 : Int) * Survey.sag a) - Span.lo (both (both (Survey.m0 a) (Survey.m1 a)) (both (Survey.m4 a) (Survey.m5 a))))))) (half (IntKind.wrap IntKind.i64 (Span.hi (both (both (Survey.m0 a) (Survey.m1 a)) (both (Survey.m4 a) (Survey.m5 a))) + IntKind.wrap IntKind.i64 ((4 : Int) * Survey.sag a))))))) - IntKind.wrap IntKind.i64 ((4 : Int) * Survey.sag a)) > Span.lo (both (both (Survey.m0 a) (Survey.m1 a)) (both (Survey.m4 a) (Survey.m5 a))) then IntKind.wrap IntKind.i64 (IntKind.wrap IntKind.i64 ((2 : Int) * Span.lo (meet (both (Survey.m2 a) (Survey.m3 a)) (Span.mk (IntKind.wrap IntKind.i64 ((0 : Int) - half (IntKind.wrap IntKind.i64 (IntKind.wrap IntKind.i64 ((4 : Int) * Survey.sag a) - Span.lo (both (both (Survey.m0 a) (Survey.m1 a)) (both (Survey.m4 a) (Survey.m5 a))))))) (half (IntKind.wrap IntKind.i64 (Span.hi (both (both (Survey.m0 a) (Survey.m1 a)) (both (Survey.m4 a) (Survey.m5 a))) + IntKind.wrap IntKind.i64 ((4 : Int) * Survey.sag a))))))) - IntKind.wrap IntKind.i64 ((4 : Int) * Survey.sag a)) else Span.lo (both (both (Survey.m0 a) (Survey.m1 a)) (both (Survey.m4 a) (Survey.m5 a)))) (Span.lo (meet (both (Survey.m2 a) (Survey.m3 a)) (Span.mk (IntKind.wrap IntKind.i64 ((0 : Int) - half (IntKind.wrap IntKind.i64 (IntKind.wrap IntKind.i64 ((4 : Int) * Survey.sag a) - Span.lo (both (both (Survey.m0 a) (Survey.m1 a)) (both (Survey.m4 a) (Survey.m5 a))))))) (half (IntKind.wrap IntKind.i64 (Span.hi (both (both (Survey.m0 a) (Survey.m1 a)) (both (Survey.m4 a) (Survey.m5 a))) + IntKind.wrap IntKind.i64 ((4 : Int) * Survey.sag a))))))), Sums.mk (if IntKind.wrap IntKind.i64 (IntKind.wrap IntKind.i64 ((2 : Int) * Span.hi (meet (both (Survey.m2 a) (Survey.m3 a)) (Span.mk (IntKind.wrap IntKind.i64 ((0 : Int) - half (IntKind.wrap IntKind.i64 (IntKind.wrap IntKind.i64 ((4 : Int) * Survey.sag a) - Span.lo (both (both (Survey.m0 a) (Survey.m1 a)) (both (Survey.m4 a) (Survey.m5 a))))))) (half (IntKind.wrap IntKind.i64 (Span.hi (both (both (Survey.m0 a) (Survey.m1 a)) (both (Survey.m4 a) (Survey.m5 a))) + IntKind.wrap IntKind.i64 ((4 : Int) * Survey.sag a))))))) + IntKind.wrap IntKind.i64 ((4 : Int) * Survey.sag a)) < Span.hi (both (both (Survey.m0 a) (Survey.m1 a)) (both (Survey.m4 a) (Survey.m5 a))) then IntKind.wrap IntKind.i64 (IntKind.wrap IntKind.i64 ((2 : Int) * Span.hi (meet (both (Survey.m2 a) (Survey.m3 a)) (Span.mk (IntKind.wrap IntKind.i64 ((0 : Int) - half (IntKind.wrap IntKind.i64 (IntKind.wrap IntKind.i64 ((4 : Int) * Survey.sag a) - Span.lo (both (both (Survey.m0 a) (Survey.m1 a)) (both (Survey.m4 a) (Survey.m5 a))))))) (half (IntKind.wrap IntKind.i64 (Span.hi (both (both (Survey.m0 a) (Survey.m1 a)) (both (Survey.m4 a) (Survey.m5 a))) + IntKind.wrap IntKind.i64 ((4 : Int) * Survey.sag a))))))) + IntKind.wrap IntKind.i64 ((4 : Int) * Survey.sag a)) else Span.hi (both (both (Survey.m0 a) (Survey.m1 a)) (both (Survey.m4 a) (Survey.m5 a)))) (Span.hi (meet (both (Survey.m2 a) (Survey.m3 a)) (Span.mk (IntKind.wrap IntKind.i64 ((0 : Int) - half (IntKind.wrap IntKind.i64 (IntKind.wrap IntKind.i64 ((4 : Int) * Survey.sag a) - Span.lo (both (both (Survey.m0 a) (Survey.m1 a)) (both (Survey.m4 a) (Survey.m5 a))))))) (half (IntKind.wrap IntKind.i64 (Span.hi (both (both (Survey.m0 a) (Survey.m1 a)) (both (Survey.m4 a) (Survey.m5 a))) + IntKind.wrap IntKind.i64 ((4 : Int) * Survey.sag a)))))))), true)))) := fun a => by kernel_rfl
def K.endsOf (x : Survey) : Span := both (both x.m0 x.m1) (both x.m4 x.m5)
def K.bend (x : Survey) : Int := IntKind.i64.wrap (4 * x.sag)
def K.mids (x : Survey) : Span := meet (both x.m2 x.m3) ⟨IntKind.i64.wrap (0 - half (IntKind.i64.wrap (bend x - (endsOf x).lo))), half (IntKind.i64.wrap ((endsOf x).hi + bend x))⟩
def K.extremes (x : Survey) : (Sums × Sums) × Bool := if void (mids x) = true then ((⟨0, 0⟩, ⟨0, 0⟩), false) else
  ((⟨if IntKind.i64.wrap (IntKind.i64.wrap (2 * (mids x).lo) - bend x) > (endsOf x).lo then IntKind.i64.wrap (IntKind.i64.wrap (2 * (mids x).lo) - bend x) else (endsOf x).lo, (mids x).lo⟩,
    ⟨if IntKind.i64.wrap (IntKind.i64.wrap (2 * (mids x).hi) + bend x) < (endsOf x).hi then IntKind.i64.wrap (IntKind.i64.wrap (2 * (mids x).hi) + bend x) else (endsOf x).hi, (mids x).hi⟩), true)
noncomputable def BKC8 : Tab := BKC7.addCall 94 (callE D_extr R_extr (fun a => .ret (K.extremes a)))
theorem tKC8 : TabOk P BKC8 := TabOk.addFn (d := 30) okP tKC7 (fun a r h => by rw [fn_extr, ← ret_some h]; exact T.br_some rfl rfl)
end Go.Proofs.YtjbhooodjmjdkaaGreat
