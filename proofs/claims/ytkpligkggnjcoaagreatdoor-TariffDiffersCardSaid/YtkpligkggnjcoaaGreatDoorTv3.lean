/- Parts of the proof, one behind the other: EvF, EvG. No conditions. -/
import Derived.Test.YtkpligkggnjcoaaGreatDoorTv2
import Derived.Lib.LaidTab
import Derived.Lib.Space
import Derived.Lib.ItoaNum
import Derived.WalkSmall
/-! EvF -/
namespace Go.Proofs.YtkpligkggnjcoaaGreatDoor.Ev
open Go.RowKit
def noL:AV→Bool
 | .fn _ xs ys=>xs.all noL0&&ys.all noL0
 | .agg cs=>cs.all noL0
 | .tup cs=>cs.all noL0
 | x=>noL0 x
def ids0:AV→List Nat
 | .lptr j ..=>[j]
 | .lsl j ..=>[j]
 | .osl j ..=>[j]
 | .oss j ..=>[j]
 | .optr j ..=>[j]
 | .mp j=>[j]
 | _=>[]
def idsL:List AV→List Nat
 | []=>[]
 | x :: xs=>ids0 x ++ idsL xs
def ids:AV→List Nat
 | .fn _ xs ys=>idsL xs ++ idsL ys
 | .agg cs=>idsL cs
 | .tup cs=>idsL cs
 | x=>ids0 x
def idsAll:List AV→List Nat
 | []=>[]
 | x :: xs=>ids x ++ idsAll xs
def exp0 (loc:Nat→Option Blk):AV→Option AV
 | .lptr j wd row col=>match loc j with
  | some (.flat _ cs)=>if cs.all noL0=true then some (.xptr cs.length 1 ⟨cs.map tagOf,fun _ k=>(cs[k]?).getD .top⟩ 0 (row * wd+col)) else none
  | _=>none
 | .lsl j wd row col len cap=>match loc j with
  | some (.flat _ cs)=>if cs.all noL0=true∧(row+len) * wd+col≤cs.length∧col=0 then some (.xsl wd (row+len) ⟨tagsOf wd cs,fun i k=>(cs[i * wd+k]?).getD .top⟩ row len cap) else none
  | _=>none
 | .osl j v _=>match loc j with
  | some (.list _ wd v' n g)=>match Nat.beq v v' with
   | true=>some (.xsl wd n g 0 n none)
   | false=>none
  | _=>none
 | .oss j v wd row len=>match loc j with
  | some (.list _ wd' v' n g)=>match Nat.beq v v'&&Nat.beq wd wd' with
   | true=>some (.xsl wd n g row len none)
   | false=>none
  | _=>none
 | .optr j v wd row col=>match loc j with
  | some (.list _ wd' v' n g)=>match Nat.beq v v'&&Nat.beq wd wd' with
   | true=>some (.xptr wd n g row col)
   | false=>none
  | _=>none
 | .mp j=>match loc j with
  | some (.map _ ag wd n g)=>some (.xmp ag wd n g)
  | _=>none
 | x=>match noL0 x with
  | true=>some x
  | false=>none
def expL (loc:Nat→Option Blk):List AV→Option (List AV)
 | []=>some []
 | x :: xs=>match exp0 loc x with
  | some y=>match expL loc xs with
   | some ys=>some (y :: ys)
   | none=>none
  | none=>none
def expA (loc:Nat→Option Blk):AV→Option AV
 | .fn f xs ys=>match expL loc xs,expL loc ys with
  | some us,some vs=>some (.fn f us vs)
  | _,_=>none
 | .agg cs=>match expL loc cs with
  | some us=>some (.agg us)
  | none=>none
 | .tup cs=>match expL loc cs with
  | some us=>some (.tup us)
  | none=>none
 | x=>exp0 loc x
def expAll (loc:Nat→Option Blk):List AV→Option (List AV)
 | []=>some []
 | x :: xs=>match expA loc x with
  | some y=>match expAll loc xs with
   | some ys=>some (y :: ys)
   | none=>none
  | none=>none
def expT (loc:Nat→Option Blk):AV→Option AV
 | .tup vs=>match expAll loc vs with
  | some xs=>some (.tup xs)
  | none=>none
 | x=>expA loc x
def poolX (loc:Nat→Option Blk) (j:Nat):Option AV:=match loc j with
 | some (.pool _ _ wd hk _ hwd n g hl hg none)=>some (.xpool wd hk hwd n g hl hg.tag hg.f)
 | _=>none
def expC (loc:Nat→Option Blk) (x:AV):Option AV:=match x with
 | .mp j=>match poolX loc j with
  | some y=>some y
  | none=>exp0 loc (.mp j)
 | x=>exp0 loc x
def expCs (loc:Nat→Option Blk):List AV→Option (List AV)
 | []=>some []
 | x :: xs=>match expC loc x with
  | some y=>match expCs loc xs with
   | some ys=>some (y :: ys)
   | none=>none
  | none=>none
def expD (loc:Nat→Option Blk) (x:AV):Option AV:=match x with
 | .lptr j wd row col=>match loc j with
  | some (.flat _ cs)=>match expCs loc cs with
   | some ys=>some (.xptr cs.length 1 ⟨ys.map tagOf,fun _ k=>(ys[k]?).getD .top⟩ 0 (row * wd+col))
   | none=>none
  | _=>none
 | _=>none
def expR (loc:Nat→Option Blk) (x:AV):Option AV:=match expA loc x with
 | some y=>some y
 | none=>expD loc x
def plainR:AV→Bool
 | .tup cs=>cs.all fun x=>(plainV x).isSome
 | x=>(plainV x).isSome
def callArgs (loc:Nat→Option Blk) (args:List AV):Option (Bool × List AV):=
 match args.all noL with
 | true=>some (false,args)
 | false=>match expAll loc args with
  | some xs=>some (true,xs)
  | none=>none
def WF (ro:Option Nat):Fence:={ Fence.wide with round:=ro }
def lax:Bool:=true
def dle (w w':World):Prop:=lax=true∨w.drawn≤w'.drawn
theorem dle.of {w w':World} (h:w.drawn≤w'.drawn):dle w w':=.inr h
theorem dle.refl (w:World):dle w w:=.inr (Nat.le_refl _)
theorem dle.trans {a b c:World} (h:dle a b) (k:dle b c):dle a c:=by
 rcases h with h | h
 ·exact .inl h
 ·rcases k with k | k
  ·exact .inl k
  ·exact .inr (Nat.le_trans h k)
structure Bel (B:Nat) (w w':World):Prop extends Below B w w' where
 drawn:dle w w'
theorem Bel.refl (B:Nat) (w:World):Bel B w w:=⟨Below.refl B w,dle.refl _⟩
theorem Bel.alloc {B:Nat} {w w':World} (h:Bel B w w') (hB:B≤w'.heap.size) (o:Obj):Bel B w (w'.alloc o):=⟨h.toBelow.alloc hB o,h.drawn⟩
theorem Bel.drew {B:Nat} {w w':World} (h:Bel B w w'):Bel B w w'.drew:=⟨h.toBelow.drew,h.drawn.trans (dle.of (Nat.le_succ _))⟩
def pow10Name:String:=("internal" ++ String.singleton (Char.ofNat 47)) ++ "strconv.uint64pow10"
structure GOK (P:Program) (w:World):Prop where
 asc:P.globalNamed "strings.asciiSpace"≠none→Go.Lib.TabIs P w "strings.asciiSpace" .u8 Go.Lib.asciiSpaceTab
 pow:P.globalNamed pow10Name≠none→Go.Lib.TabIs P w pow10Name .u64 Go.Lib.pow10Tab
 err:∀ nm,nm= "strconv.ErrSyntax"∨nm= "strconv.ErrRange"→P.globalNamed nm≠none→∃ ev,w.var? P nm=some #[ev]∧(ev=.nilIface∨∃ t p,ev=.iface t p)
theorem var_bel {P:Program} {w w':World} {n:String} {cs:Array Value} (hb:Bel w.heap.size w w') (hv:w.var? P n=some cs):w'.var? P n=some cs:=by
 unfold World.var? at hv
 cases hg:P.globalNamed n with
 | none=>rw [hg] at hv;simp at hv
 | some g=>
  refine var?_below hb.toBelow hg ?_ (by unfold World.var?;exact hv)
  rw [hg] at hv
  simp only [Option.bind_some] at hv
  split at hv
  ·rename_i hh;exact (Array.getElem?_eq_some_iff.1 hh).1
  ·cases hv
theorem GOK.bel {P:Program} {w w':World} (hb:Bel w.heap.size w w') (h:GOK P w):GOK P w':=
 ⟨fun hn=>var_bel hb (h.asc hn),fun hn=>var_bel hb (h.pow hn),fun nm hm hn=>by
  obtain ⟨ev,h1,h2⟩:=h.err nm hm hn
  exact ⟨ev,var_bel hb h1,h2⟩⟩
theorem GOK.none {P:Program} {w:World} (h1:P.globalNamed "strings.asciiSpace"=.none) (h2:P.globalNamed pow10Name=.none) (h3:P.globalNamed "strconv.ErrSyntax"=.none) (h4:P.globalNamed "strconv.ErrRange"=.none):GOK P w:=
 ⟨fun h=>absurd h1 h,fun h=>absurd h2 h,fun nm hm h=>by rcases hm with rfl | rfl;exact absurd h3 h;exact absurd h4 h⟩
def PC (P:Program) (f:FuncId) (args:List AV) (x:AV):Prop:=
 ∀ (ro:Option Nat) (n:Nat) (A:Nat→Prop) (w:World) (us:Array Value),GOK P w→(∀ b,A b→b<w.heap.size)→VRs w A noR args us →
  CallsIn (WF ro) n P f us w fun e w'=>∃ v,e=.returned v∧VR w' A noR x v∧Bel w.heap.size w w'
def MC (P:Program) (f:FuncId) (wd n:Nat) (g g':Get AV) (xs:List AV):Prop:=
 ∀ (ro:Option Nat) (m:Nat) (A:Nat→Prop) (w:World) (t:TypeId) (e c:Nat) (rows:List Value) (us:Array Value),(∀ w',w.grownBy w' (obOf e)→dle w w'→GOK P w')→(∀ b,A b→b<w.heap.size)→(∀ b,e=b+1→A b)→(e=0→n=0∧c=0)→(n≤c∧n≤maxL)→0<wd →
  w.ownsRow 0 t wd (.slice (slBase e) n c) n rows→RowsR w A g n wd rows→VRs w A noR xs us →
  CallsIn (WF ro) m P f (#[.slice (slBase e) n c] ++ us) w fun en w'=>en=.returned (.tuple #[])∧∃ rows',(w.grownBy w' (obOf e)∧dle w w')∧w'.ownsRow 0 t wd (.slice (slBase e) n c) n rows'∧RowsR w' A g' n wd rows'
def FC (P:Program) (f:FuncId) (t:TypeId) (args:List AV) (wd n:Nat) (g:Get AV):Prop:=
 ∀ (ro:Option Nat) (m:Nat) (A:Nat→Prop) (w:World) (us:Array Value),GOK P w→(∀ b,A b→b<w.heap.size)→VRs w A noR args us →
  CallsIn (WF ro) m P f us w fun en w'=>∃ e c rows,en=.returned (.slice (slBase e) n c)∧(∀ b,e=b+1→w.heap.size≤b)∧(e=0→n=0∧c=0)∧(n≤c∧n≤maxL)∧0<wd ∧
   w'.ownsRow 0 t wd (.slice (slBase e) n c) n rows∧RowsR w' A g n wd rows∧Bel w.heap.size w w'
structure Turn (O:Nat→Prop) (w w':World):Prop where
 os:w'.os=w.os
 tape:w'.tape=w.tape
 output:w'.output=w.output
 size:w.heap.size≤w'.heap.size
 block:∀ b,b<w.heap.size→¬ O b→w'.heap[b]?=w.heap[b]?
 drawn:dle w w'
def OC (P:Program) (f:FuncId) (t:TypeId) (cs cs' xs:List AV) (v:AV):Prop:=
 ∀ (ro:Option Nat) (m:Nat) (A:Nat→Prop) (w:World) (b:Nat) (uo us:Array Value),(∀ w',Turn (fun k=>k=b) w w'→GOK P w')→(∀ b,A b→b<w.heap.size)→A b →
  w.heap[b]?=some (.cells uo t (0,0))→VRs w A noR cs uo→VRs w A noR xs us →
  CallsIn (WF ro) m P f (#[.pointer (some ⟨b,0,none⟩)] ++ us) w fun en w'=>∃ u uo',en=.returned u∧w'.heap[b]?=some (.cells uo' t (0,0))∧VRs w' A noR cs' uo'∧VR w' A noR v u∧Turn (fun k=>k=b) w w'
def CC (P:Program) (f:FuncId) (args:List AV) (v:AV):Prop:=match args with
 | .lptr t _ _ _ :: .agg cs :: xs=>(match v with
  | .tup [.agg cs',u]=>OC P f t cs cs' xs u
  | _=>True)
 | .lptr _ _ _ _ :: _=>True
 | .osl _ _ _ :: .xsl wd n g _ _ _ :: xs=>(match v with
  | .xsl _ _ g' _ _ _=>MC P f wd n g g' xs
  | _=>True)
 | .oss t _ _ _ _ :: xs=>(match v with
  | .xsl wd n g _ _ _=>FC P f t xs wd n g
  | _=>True)
 | _=>PC P f args v
def plainCall:List AV→Bool
 | .lptr _ _ _ _ :: _=>false
 | .osl _ _ _ :: _=>false
 | .oss _ _ _ _ _ :: _=>false
 | _=>true
theorem CC.pc {P:Program} {f:FuncId} {args:List AV} {v:AV} (h:CC P f args v) (hp:plainCall args=true):PC P f args v:=by
 unfold CC at h
 split at h
 ·simp [plainCall] at hp
 ·simp [plainCall] at hp
 ·simp [plainCall] at hp
 ·simp [plainCall] at hp
 ·exact h
theorem CC.of {P:Program} {f:FuncId} {args:List AV} {v:AV} (h:PC P f args v) (hp:plainCall args=true):CC P f args v:=by
 unfold CC
 split
 ·simp [plainCall] at hp
 ·simp [plainCall] at hp
 ·simp [plainCall] at hp
 ·simp [plainCall] at hp
 ·exact h
def turnArgs (loc:Nat→Option Blk):List AV→Option (Nat × TypeId × Nat × Nat × Nat × Get AV × List AV)
 | .osl j v _ :: rest=>match loc j with
  | some (.list t wd v' n g)=>match Nat.beq v v'&&rest.all noL with
   | true=>some (j,t,wd,v,n,g,rest)
   | false=>none
  | _=>none
 | _=>none
def methArgs (loc:Nat→Option Blk):List AV→Option (Nat × TypeId × Nat × List AV × List AV)
 | .lptr j wd 0 0 :: rest=>match loc j with
  | some (.flat t cs)=>match cs.all noL&&rest.all noL with
   | true=>some (j,t,wd,cs,rest)
   | false=>none
  | _=>none
 | _=>none
theorem conf_any {w w':World} {A A':Nat→Prop} {r r':Rr} {c:CK} {x:AV} {v:Value} (hc:c≠.any∧∀ a b,c≠.sl a b) (h:VR w A r (conf c x) v):VR w' A' r' (conf c x) v:=by
 cases c with
 | any=>exact absurd rfl hc.1
 | sl a b=>exact absurd rfl (hc.2 a b)
 | int k=>simp only [conf] at h ⊢;cases h;exact .int
 | bool=>simp only [conf] at h ⊢;cases h;exact .bool
 | str=>simp only [conf] at h ⊢;cases h;exact .str
theorem rows_any {w w':World} {A A':Nat→Prop} {g:Get AV} {n wd:Nat} {xs:List Value} (hg:fullCK g.tag wd=true) (h:RowsR w A g n wd xs):RowsR w' A' g n wd xs:=fun i k hi hk=>by
 obtain ⟨u,hu,hv⟩:=h i k hi hk
 exact ⟨u,hu,conf_any ⟨oneCK_at (fullCK_one hg) hk,fullCK_sl hg hk⟩ hv⟩
theorem expA_plain {loc:Nat→Option Blk} {x y:AV} (h:expA loc x=some y) (xs:List AV):plainCall (y :: xs)=true:=by
 cases x<;>simp only [expA,exp0,noL0] at h<;>(repeat' split at h)<;>simp at h<;>subst h<;>rfl
theorem callArgs_plain {loc:Nat→Option Blk} {args args':List AV} {ex:Bool} (h:callArgs loc args=some (ex,args')):plainCall args'=true:=by
 unfold callArgs at h
 split at h
 ·rename_i hn
  injection h with h;injection h with _ h;subst h
  cases args with
  | nil=>rfl
  | cons x xs=>
   simp only [List.all_cons,Bool.and_eq_true] at hn
   cases x<;>first | rfl | (simp [noL,noL0] at hn)
 ·split at h
  ·rename_i xs hx
   injection h with h;injection h with _ h;subst h
   cases args with
   | nil=>simp [expAll] at hx;subst hx;rfl
   | cons x zs=>
    simp only [expAll] at hx
    split at hx
    ·rename_i y hy
     split at hx
     ·injection hx with hx;subst hx;exact expA_plain hy _
     ·simp at hx
    ·simp at hx
  ·simp at h
section
variable {w:World} {A A':Nat→Prop} {r r':Rr}
theorem VR.weaken {x:AV} {v:Value} (hx:noL x=true) (h:VR w A r x v) (hA:∀ b,A' b→A b):VR w A' r' x v:=by
 cases h with
 | fn hx1 hy h1 h2=>
  simp only [noL,Bool.and_eq_true] at hx
  have k1:=VRs.weaken0 (A':=A') (r':=r') hx.1 ⟨hx1,h1⟩ hA
  have k2:=VRs.weaken0 (A':=A') (r':=r') hx.2 ⟨hy,h2⟩ hA
  exact .fn k1.1 k2.1 k1.2 k2.2
 | agg hx1 h1=>have k1:=VRs.weaken0 (A':=A') (r':=r') (by simpa [noL] using hx) ⟨hx1,h1⟩ hA;exact .agg k1.1 k1.2
 | tup hx1 h1=>have k1:=VRs.weaken0 (A':=A') (r':=r') (by simpa [noL] using hx) ⟨hx1,h1⟩ hA;exact .tup k1.1 k1.2
 | top=>exact .top
 | int=>exact .int
 | bool=>exact .bool
 | str=>exact .str
 | nilptr=>exact .nilptr
 | lptr h ho=>simp [noL,noL0] at hx
 | xptr u hb hn hc hv ho hrow=>exact (VR.xptr u hb hn hc hv ho hrow:VR w A r _ _).weaken0 rfl hA
 | nilsl=>exact .nilsl
 | lsl h ho hl hcap=>simp [noL,noL0] at hx
 | osl a b c d e=>simp [noL,noL0] at hx
 | oss a b c d e=>simp [noL,noL0] at hx
 | optr a b c d=>simp [noL,noL0] at hx
 | xsl b o u hl hcap hn ha hc hv=>exact (VR.xsl b o u hl hcap hn ha hc hv:VR w A r _ _).weaken0 rfl hA
 | nilfn=>exact .nilfn
 | yv h=>simp [noL,noL0] at hx
 | nilif=>exact .nilif
 | errif=>exact .errif
 | nilmp=>exact .nilmp
 | mp h=>simp [noL,noL0] at hx
 | xmp b c es u a1 a2 a3 a4 a5 a6=>exact (VR.xmp b c es u a1 a2 a3 a4 a5 a6:VR w A r _ _).weaken0 rfl hA
 | xpool a=>exact (VR.xpool a:VR w A r _ _).weaken0 rfl hA
theorem VRs.weaken {xs:List AV} {us:Array Value} (hx:xs.all noL=true) (h:VRs w A r xs us) (hA:∀ b,A' b→A b):VRs w A' r' xs us:=
 ⟨h.1,fun i x u hi hu=>(h.2 i x u hi hu).weaken (List.all_eq_true.1 hx x (List.mem_of_getElem? hi)) hA⟩
def noA:Nat→Prop:=fun _=>False
theorem cells_top {cs:List AV} {us:Array Value} {t:TypeId} {b:Nat} (hb:w.heap[b]?=some (.cells us t (0,0))) (hc:VRs w A r cs us) (hn:cs.all noL0=true) (hA:∀ b,A' b→A b) (k:Nat) (hk:k<cs.length) :
  ∃ u,w.cell? ⟨b,k,none⟩=some u∧VR w A' noR ((cs[k]?).getD .top) u:=by
 have hk':k<us.size:=by rw [← hc.1];exact hk
 refine ⟨us[k],by simp [World.cell?,hb,hk'],?_⟩
 rw [List.getElem?_eq_getElem hk]
 exact (hc.2 k cs[k] us[k] (List.getElem?_eq_getElem hk) (Array.getElem?_eq_getElem hk')).weaken0 (List.all_eq_true.1 hn _ (List.getElem_mem hk)) hA
def OwnR (r:Rr) (b:Nat):Prop:=(∃ j:Nat,r (.obj j)=some b)∨∃ j v:Nat,r (.lo j v)=some (b+1)
theorem list_cells {t:TypeId} {wd n b c:Nat} {xs:List Value} {get:Get AV} (h:w.ownsRow 0 t wd (.slice (some ⟨b,0,none⟩) n c) n xs) (hr:RowsR w A get n wd xs) (hA:∀ b,A' b→A b) :
  b<w.heap.size∧(∀ i k,i<n→k<wd→w.cell? ⟨b,0+(i * wd+k),none⟩=some (xs.getD (i * wd+k) undef))∧∀ i k,i<n→k<wd→VR w A' noR (get i k) (xs.getD (i * wd+k) undef):=by
 refine ⟨(h.lt b rfl).2,fun i k hi hk=>?_,fun i k hi hk=>?_⟩
 ·rw [Nat.zero_add];exact (own_cell h hr hi hk).1
 ·exact (own_cell h hr hi hk).2.mono ⟨Nat.le_refl _,fun _ _ _=>rfl,fun b h=>.inl (hA b h)⟩ (fun _ _ h=>h)
def OwnJ (r:Rr) (j b:Nat):Prop:=r (.obj j)=some b∨∃ v:Nat,r (.lo j v)=some (b+1)
theorem OwnR.all {r:Rr} {loc:Nat→Option Blk} {A':Nat→Prop} (h:∀ b,OwnR r b→¬ A' b):∀ j k,loc j=some k→∀ b,OwnJ r j b→¬ A' b:=fun j _ _ b hb=>h b (hb.elim (fun h=>.inl ⟨j,h⟩) (fun ⟨v,h⟩=>.inr ⟨j,v,h⟩))
theorem exp0_rel {loc:Nat→Option Blk} (hm:∀ j k,loc j=some k→MemR w A r j k) (hA:∀ b,A' b→A b) (hr':∀ j k,loc j=some k→∀ b,OwnJ r j b→¬ A' b) {x y:AV} {v:Value} (h:exp0 loc x=some y) (k:VR w A r x v):VR w A' noR y v:=by
 cases k with
 | lptr hj ho=>
  rename_i j wd row col b off
  simp only [exp0] at h
  split at h
  ·rename_i t cs hl
   split at h
   ·rename_i hn
    injection h with h;subst h
    obtain ⟨b',hb',us,hh,hc⟩:=hm _ _ hl
    have:b'=b:=by rw [hj] at hb';injection hb' with hb';exact hb'.symm
    subst this
    have hsize:b'<w.heap.size:=(Array.getElem?_eq_some_iff.1 hh).1
    refine .xptr (o:=0) (fun _ k=>us.getD k undef) hsize (hr' _ _ hl _ (.inl hj)) (fun i k hi hk=>?_) (fun i k hi hk=>?_) (by subst ho;omega) (by omega)
    ·obtain ⟨u,hu,_⟩:=cells_top hh hc hn hA k hk
     have:i=0:=by omega
     subst this
     simp only [Nat.zero_mul,Nat.zero_add]
     rw [hu]
     have hk':k<us.size:=by rw [← hc.1];exact hk
     simp [World.cell?,hh,hk'] at hu
     simp [Array.getD_eq_getD_getElem?,hk',hu]
    ·obtain ⟨u,hu,hv⟩:=cells_top hh hc hn hA k hk
     have hk':k<us.size:=by rw [← hc.1];exact hk
     simp [World.cell?,hh,hk'] at hu
     simp only [Array.getD_eq_getD_getElem?,Array.getElem?_eq_getElem hk',Option.getD_some,hu]
     have e:(⟨cs.map tagOf,fun _ k=>(cs[k]?).getD .top⟩:Get AV).cell i k=(cs[k]?).getD .top:=by
      simp only [Get.cell,List.getElem?_eq_getElem hk,Option.getD_some]
      exact mapTag_conf (List.getElem?_eq_getElem hk)
     rw [e];exact hv
   ·simp at h
  ·simp at h
 | lsl hj ho hl hcap=>
  rename_i j wd row col b off len c cap
  simp only [exp0] at h
  split at h
  ·rename_i t cs hlc
   split at h
   ·rename_i hn
    obtain ⟨hn1,hn2,hn3⟩:=hn
    injection h with h;subst h
    subst hn3
    obtain ⟨b',hb',us,hh,hc⟩:=hm _ _ hlc
    have:b'=b:=by rw [hj] at hb';injection hb' with hb';exact hb'.symm
    subst this
    have hsize:b'<w.heap.size:=(Array.getElem?_eq_some_iff.1 hh).1
    have hin:∀ i k,i<row+len→k<wd→i * wd+k<cs.length:=fun i k hi hk=>by
     have:(i+1) * wd≤(row+len) * wd:=Nat.mul_le_mul_right _ hi
     rw [Nat.succ_mul] at this
     omega
    refine .xsl b' 0 (fun i k=>us.getD (i * wd+k) undef) hl hcap (Nat.le_refl _) (fun _=>⟨by subst ho;simp,hsize,hr' _ _ hlc _ (.inl hj)⟩) (fun _ i k hi hk=>?_) (fun _ i k hi hk=>?_)
    ·have hk':i * wd+k<us.size:=by rw [← hc.1];exact hin i k hi hk
     simp [World.cell?,hh,hk',Array.getD_eq_getD_getElem?]
    ·obtain ⟨u,hu,hv⟩:=cells_top hh hc hn1 hA _ (hin i k hi hk)
     have hk':i * wd+k<us.size:=by rw [← hc.1];exact hin i k hi hk
     simp [World.cell?,hh,hk'] at hu
     simp only [Array.getD_eq_getD_getElem?,Array.getElem?_eq_getElem hk',Option.getD_some,hu]
     have e:(⟨tagsOf wd cs,fun i k=>(cs[i * wd+k]?).getD .top⟩:Get AV).cell i k=(cs[i * wd+k]?).getD .top:=by
      have h0:=List.getElem?_eq_getElem (hin i k hi hk)
      have h1:=tagsOf_conf (wd:=wd) _ _ h0
      rw [Nat.mul_add_mod_of_lt hk] at h1
      simp only [Get.cell,h0,Option.getD_some]
      exact h1
     rw [e];exact hv
   ·simp at h
  ·simp at h
 | @osl _ j v n e c he hc hn h0 hl=>
  simp only [exp0] at h
  split at h
  ·rename_i t wd v' n' g hlc
   split at h
   ·rename_i hb
    have:=Nat.eq_of_beq_eq_true hb;subst this
    injection h with h;subst h
    obtain ⟨e',c',xs,g1,g2,g3,g4,g5,g6,hown,hrows⟩:=hm _ _ hlc
    rw [he] at g1;injection g1 with g1;subst g1
    rw [hn] at g3;injection g3 with g3;subst g3
    rw [hc] at g2;injection g2 with g2;subst g2
    cases e with
    | zero=>
     obtain ⟨e1,e2⟩:=h0 rfl
     subst e1
     exact .xsl 0 0 (fun _ _=>undef) hl (fun x h=>by cases h) (by omega) (fun h=>absurd h (Nat.lt_irrefl _)) (fun h=>absurd h (Nat.lt_irrefl _)) (fun h=>absurd h (Nat.lt_irrefl _))
    | succ b=>
     obtain ⟨k1,k2,k3⟩:=list_cells (A':=A') hown hrows hA
     exact .xsl b 0 _ hl (fun x h=>by cases h) (by omega) (fun _=>⟨by simp [slBase],k1,hr' _ _ hlc _ (.inr ⟨_,he⟩)⟩) (fun _=>k2) (fun _=>k3)
   ·simp at h
  ·simp at h
 | @oss _ j v wd row len n c cf a hn hle hl ha hcf=>
  simp only [exp0] at h
  split at h
  ·rename_i t wd' v' n' g hlc
   split at h
   ·rename_i hb
    simp only [Bool.and_eq_true,Nat.beq_eq] at hb
    obtain ⟨e1,e2⟩:=hb
    subst e1;subst e2
    injection h with h;subst h
    obtain ⟨e',c',xs,g1,g2,g3,g4,g5,g6,hown,hrows⟩:=hm _ _ hlc
    rw [hn] at g3;injection g3 with g3;subst g3
    by_cases hz:0<len
    ·obtain ⟨b,hb,ea⟩:=ha (by omega)
     rw [hb] at g1;injection g1 with g1;subst g1
     obtain ⟨k1,k2,k3⟩:=list_cells (A':=A') hown hrows hA
     exact .xsl b 0 _ hl (fun x h=>by cases h) hle (fun _=>⟨by simpa using ea,k1,hr' _ _ hlc _ (.inr ⟨_,hb⟩)⟩) (fun _=>k2) (fun _=>k3)
    ·exact .xsl 0 0 (fun _ _=>undef) hl (fun x h=>by cases h) hle (fun h=>absurd h hz) (fun h=>absurd h hz) (fun h=>absurd h hz)
   ·simp at h
  ·simp at h
 | @optr _ j v wd row col n b off hb hn hrow ho=>
  simp only [exp0] at h
  split at h
  ·rename_i t wd' v' n' g hlc
   split at h
   ·rename_i hbq
    simp only [Bool.and_eq_true,Nat.beq_eq] at hbq
    obtain ⟨e1,e2⟩:=hbq
    subst e1;subst e2
    injection h with h;subst h
    obtain ⟨e',c',xs,g1,g2,g3,g4,g5,g6,hown,hrows⟩:=hm _ _ hlc
    rw [hn] at g3;injection g3 with g3;subst g3
    rw [hb] at g1;injection g1 with g1;subst g1
    obtain ⟨k1,k2,k3⟩:=list_cells (A':=A') hown hrows hA
    exact .xptr (o:=0) _ k1 (hr' _ _ hlc _ (.inr ⟨_,hb⟩)) k2 k3 (by omega) hrow
   ·simp at h
  ·simp at h
 | top=>simp [exp0,noL0] at h;subst h;exact .top
 | int=>simp [exp0,noL0] at h;subst h;exact .int
 | bool=>simp [exp0,noL0] at h;subst h;exact .bool
 | str=>simp [exp0,noL0] at h;subst h;exact .str
 | nilptr=>simp [exp0,noL0] at h;subst h;exact .nilptr
 | xptr u a1 a2 a3 a4 a5 a6=>simp [exp0,noL0] at h;subst h;exact (VR.xptr u a1 a2 a3 a4 a5 a6:VR w A r _ _).weaken0 rfl hA
 | nilsl=>simp [exp0,noL0] at h;subst h;exact .nilsl
 | xsl b o u a1 a2 a3 a4 a5 a6=>simp [exp0,noL0] at h;subst h;exact (VR.xsl b o u a1 a2 a3 a4 a5 a6:VR w A r _ _).weaken0 rfl hA
 | fn a1 a2 a3 a4=>
  simp only [exp0] at h
  split at h
  ·rename_i hn;injection h with h;subst h;exact (VR.fn a1 a2 a3 a4:VR w A r _ _).weaken0 hn hA
  ·simp at h
 | nilfn=>simp [exp0,noL0] at h;subst h;exact .nilfn
 | yv hh=>simp [exp0,noL0] at h
 | nilif=>simp [exp0,noL0] at h;subst h;exact .nilif
 | errif=>simp [exp0,noL0] at h;subst h;exact .errif
 | nilmp=>simp [exp0,noL0] at h;subst h;exact .nilmp
 | mp hj=>
  rename_i j b
  simp only [exp0] at h
  split at h
  ·rename_i t ag wd n g hl
   injection h with h;subst h
   obtain ⟨b',hb',es,clock,hh,hbn,u,hs,hu,hval⟩:=hm _ _ hl
   have:b'=b:=by rw [hj] at hb';injection hb' with hb';exact hb'.symm
   subst this
   exact .xmp b' clock es u (Array.getElem?_eq_some_iff.1 hh).1 (hr' _ _ hl _ (.inl hj)) hh ⟨hs,hbn⟩ hu (fun i k hi hk=>(hval i k hi hk).mono ⟨Nat.le_refl _,fun _ _ _=>rfl,fun b h=>.inl (hA b h)⟩ (fun _ _ h=>h))
  ·simp at h
 | xmp b c es u a1 a2 a3 a4 a5 a6=>simp [exp0,noL0] at h;subst h;exact (VR.xmp b c es u a1 a2 a3 a4 a5 a6:VR w A r _ _).weaken0 rfl hA
 | xpool a=>simp [exp0,noL0] at h;subst h;exact (VR.xpool a:VR w A r _ _).weaken0 rfl hA
 | agg a1 a2=>simp [exp0,noL0] at h
 | tup a1 a2=>simp [exp0,noL0] at h
theorem expL_rel {loc:Nat→Option Blk} (hm:∀ j k,loc j=some k→MemR w A r j k) (hA:∀ b,A' b→A b) (hr':∀ j k,loc j=some k→∀ b,OwnJ r j b→¬ A' b):∀ {xs ys:List AV},expL loc xs=some ys→ys.length=xs.length∧∀ (i:Nat) x y v,xs[i]?=some x→ys[i]?=some y→VR w A r x v→VR w A' noR y v
 | [],ys,h=>by simp [expL] at h;subst h;exact ⟨rfl,fun i x y v hx=>by simp at hx⟩
 | x :: xs,ys,h=>by
  simp only [expL] at h
  split at h
  ·rename_i y hy
   split at h
   ·rename_i ys' hys
    injection h with h;subst h
    obtain ⟨hl,hr⟩:=expL_rel hm hA hr' hys
    refine ⟨by simp [hl],fun i a b v ha hb hv=>?_⟩
    cases i with
    | zero=>simp at ha hb;subst ha;subst hb;exact exp0_rel hm hA hr' hy hv
    | succ i=>exact hr i a b v (by simpa using ha) (by simpa using hb) hv
   ·simp at h
  ·simp at h
theorem expLs_rel {loc:Nat→Option Blk} (hm:∀ j k,loc j=some k→MemR w A r j k) (hA:∀ b,A' b→A b) (hr':∀ j k,loc j=some k→∀ b,OwnJ r j b→¬ A' b) {xs ys:List AV} {us:Array Value} (h:expL loc xs=some ys) (k:VRs w A r xs us):VRs w A' noR ys us:=by
 obtain ⟨hl,hr⟩:=expL_rel hm hA hr' h
 refine ⟨by rw [hl];exact k.1,fun i y u hy hu=>?_⟩
 have hi:i<xs.length:=by rw [← hl];exact (List.getElem?_eq_some_iff.1 hy).1
 exact hr i xs[i] y u (List.getElem?_eq_getElem hi) hy (k.2 i xs[i] u (List.getElem?_eq_getElem hi) hu)
theorem expA_rel {loc:Nat→Option Blk} (hm:∀ j k,loc j=some k→MemR w A r j k) (hA:∀ b,A' b→A b) (hr':∀ j k,loc j=some k→∀ b,OwnJ r j b→¬ A' b) {x y:AV} {v:Value} (h:expA loc x=some y) (k:VR w A r x v):VR w A' noR y v:=by
 cases x with
 | fn f xs ys=>
  simp only [expA] at h
  split at h
  ·rename_i us vs hu hv
   injection h with h;subst h
   cases k with
   | fn a1 a2 a3 a4=>
    have k1:=expLs_rel hm hA hr' hu ⟨a1,a3⟩
    have k2:=expLs_rel hm hA hr' hv ⟨a2,a4⟩
    exact .fn k1.1 k2.1 k1.2 k2.2
  ·simp at h
 | agg cs=>
  simp only [expA] at h
  split at h
  ·rename_i us hu
   injection h with h;subst h
   cases k with
   | agg a1 a2=>have k1:=expLs_rel hm hA hr' hu ⟨a1,a2⟩;exact .agg k1.1 k1.2
  ·simp at h
 | tup cs=>
  simp only [expA] at h
  split at h
  ·rename_i us hu
   injection h with h;subst h
   cases k with
   | tup a1 a2=>have k1:=expLs_rel hm hA hr' hu ⟨a1,a2⟩;exact .tup k1.1 k1.2
  ·simp at h
 | _=>simp only [expA] at h;exact exp0_rel hm hA hr' h k
theorem expAll_rel {loc:Nat→Option Blk} (hm:∀ j k,loc j=some k→MemR w A r j k) (hA:∀ b,A' b→A b) (hr':∀ j k,loc j=some k→∀ b,OwnJ r j b→¬ A' b):∀ {xs ys:List AV},expAll loc xs=some ys→ys.length=xs.length∧∀ (i:Nat) x y v,xs[i]?=some x→ys[i]?=some y→VR w A r x v→VR w A' noR y v
 | [],ys,h=>by simp [expAll] at h;subst h;exact ⟨rfl,fun i x y v hx=>by simp at hx⟩
 | x :: xs,ys,h=>by
  simp only [expAll] at h
  split at h
  ·rename_i y hy
   split at h
   ·rename_i ys' hys
    injection h with h;subst h
    obtain ⟨hl,hr⟩:=expAll_rel hm hA hr' hys
    refine ⟨by simp [hl],fun i a b v ha hb hv=>?_⟩
    cases i with
    | zero=>simp at ha hb;subst ha;subst hb;exact expA_rel hm hA hr' hy hv
    | succ i=>exact hr i a b v (by simpa using ha) (by simpa using hb) hv
   ·simp at h
  ·simp at h
theorem expAlls_rel {loc:Nat→Option Blk} (hm:∀ j k,loc j=some k→MemR w A r j k) (hA:∀ b,A' b→A b) (hr':∀ j k,loc j=some k→∀ b,OwnJ r j b→¬ A' b) {xs ys:List AV} {us:Array Value} (h:expAll loc xs=some ys) (k:VRs w A r xs us):VRs w A' noR ys us:=by
 obtain ⟨hl,hr⟩:=expAll_rel hm hA hr' h
 refine ⟨by rw [hl];exact k.1,fun i y u hy hu=>?_⟩
 have hi:i<xs.length:=by rw [← hl];exact (List.getElem?_eq_some_iff.1 hy).1
 exact hr i xs[i] y u (List.getElem?_eq_getElem hi) hy (k.2 i xs[i] u (List.getElem?_eq_getElem hi) hu)
theorem expT_rel {loc:Nat→Option Blk} (hm:∀ j k,loc j=some k→MemR w A r j k) (hA:∀ b,A' b→A b) (hr':∀ j k,loc j=some k→∀ b,OwnJ r j b→¬ A' b) {x y:AV} {v:Value} (h:expT loc x=some y) (k:VR w A r x v):VR w A' noR y v:=by
 cases x with
 | tup cs=>
  simp only [expT] at h
  split at h
  ·rename_i us hu
   injection h with h;subst h
   cases k with
   | tup a1 a2=>have k1:=expAlls_rel hm hA hr' hu ⟨a1,a2⟩;exact .tup k1.1 k1.2
  ·simp at h
 | _=>simp only [expT] at h;exact expA_rel hm hA hr' h k
theorem memTags_at {l:List CK} {wd hk k:Nat} (h:k<wd):ckAt (memTags l wd hk) k=match Nat.beq k hk with
  | true=>.any
  | false=>ckAt l (k+1):=by
 have:∀ (l:List CK) (k:Nat) (c:CK),l[k]?=some c→ckAt l k=c:=by
  intro l
  induction l with
  | nil=>intro k c h;simp at h
  | cons a l ih=>
   intro k c h
   cases k with
   | zero=>simp at h;exact h
   | succ k=>exact ih k c (by simpa using h)
 exact this _ _ _ (by simp [memTags,h];rfl)
theorem poolX_rel {loc:Nat→Option Blk} (hm:∀ j k,loc j=some k→MemR w A r j k) (hA:∀ b,A' b→A b) (hr':∀ j k,loc j=some k→∀ b,OwnJ r j b→¬ A' b) {j:Nat} {y:AV} {b:Nat} (h:poolX loc j=some y) (hj:r (.obj j)=some b):VR w A' noR y (.map (some b)):=by
 unfold poolX at h
 split at h
 case h_2=>cases h
 rename_i u sty wd hk ht hwd n g hl hg hloc
 injection h with h;subst h
 obtain ⟨b',es,clock,hb,hh,h1,h2,h3,h4,_⟩:=hm _ _ hloc
 rw [hj] at hb;injection hb with hb;subst hb
 have hkk:Keeps A A' w w:=⟨Nat.le_refl _,fun _ _ _=>rfl,fun b h=>.inl (hA b h)⟩
 refine .xpool (.xmp b clock es (fun i k=>match es[i]? with | some x=>(match k with | 0=>x.key | _=>x.val) | none=>.nilFunc) (Array.getElem?_eq_some_iff.1 hh).1 (hr' _ _ hloc _ (.inl hj)) hh h1 (fun i hi=>?_) (fun i k hi hk2=>?_))
 ·obtain ⟨x,p,x1,_⟩:=h4 i hi
  exact ⟨x,x1,by simp [x1],by simp [valOf,x1]⟩
 ·obtain ⟨x,p,x1,x2,x3,x4⟩:=h4 i hi
  simp only [pendAt] at x4
  obtain ⟨m1,us,e,c,xs,m2,m3,m4,m5,m6,m7,m8,m9,m10⟩:=x4
  simp only [x1]
  match k,hk2 with
  | 0,_=>exact x2.mono hkk (fun _ _ h=>h)
  | 1,_=>
   simp only [x3,Get.cell,poolG,ckAt,conf]
   refine .xptr (o:=0) (fun _ k=>us.getD k undef) (Array.getElem?_eq_some_iff.1 m2).1 (hr' _ _ hloc _ (.inr ⟨_,m1⟩)) (fun i' k' hi' hk'=>?_) (fun i' k' hi' hk'=>?_) (by simp) (by omega)
   ·have:i'=0:=by omega
    subst this
    have hlt:k'<us.size:=by omega
    simp [World.cell?,m2,hlt,Array.getD_eq_getD_getElem?]
   ·have hlt:k'<us.size:=by omega
    simp only [Get.cell]
    rw [memTags_at hk']
    by_cases ek:k'=hk
    ·subst ek
     simp only [Nat.beq_refl,conf,Array.getD_eq_getD_getElem?,m5,Option.getD_some]
     cases e with
     | zero=>
      obtain ⟨e1,e2⟩:=m7 rfl
      exact .xsl 0 0 (fun _ _=>undef) m8 (fun x h=>by cases h) (by omega) (fun h=>by omega) (fun h=>by omega) (fun h=>by omega)
     | succ bb=>
      obtain ⟨k1,k2,k3⟩:=list_cells (A':=A') m9 m10 hA
      exact .xsl bb 0 _ m8 (fun x h=>by cases h) (by omega) (fun _=>⟨by simp [slBase],k1,hr' _ _ hloc _ (.inr ⟨_,m6⟩)⟩) (fun _=>k2) (fun _=>k3)
    ·have hbk:Nat.beq k' hk=false:=by rw [← Bool.not_eq_true,Nat.beq_eq];exact ek
     simp only [hbk]
     obtain ⟨v,v1,v2⟩:=m4 k' hk' ek
     simp only [Array.getD_eq_getD_getElem?,v1,Option.getD_some]
     exact v2.mono hkk (fun _ _ h=>h)
  | k+2,hk2=>omega
theorem expC_rel {loc:Nat→Option Blk} (hm:∀ j k,loc j=some k→MemR w A r j k) (hA:∀ b,A' b→A b) (hr':∀ j k,loc j=some k→∀ b,OwnJ r j b→¬ A' b) {x y:AV} {v:Value} (h:expC loc x=some y) (k:VR w A r x v):VR w A' noR y v:=by
 unfold expC at h
 split at h
 ·split at h
  ·rename_i y' hp
   injection h with h;subst h
   cases k with
   | mp hj=>exact poolX_rel hm hA hr' hp hj
  ·exact exp0_rel hm hA hr' h k
 ·exact exp0_rel hm hA hr' h k
theorem expCs_rel {loc:Nat→Option Blk} (hm:∀ j k,loc j=some k→MemR w A r j k) (hA:∀ b,A' b→A b) (hr':∀ j k,loc j=some k→∀ b,OwnJ r j b→¬ A' b):∀ {xs ys:List AV},expCs loc xs=some ys→ys.length=xs.length∧∀ (i:Nat) x y v,xs[i]?=some x→ys[i]?=some y→VR w A r x v→VR w A' noR y v
 | [],ys,h=>by simp [expCs] at h;subst h;exact ⟨rfl,fun i x y v hx=>by simp at hx⟩
 | x :: xs,ys,h=>by
  simp only [expCs] at h
  split at h
  ·rename_i y hy
   split at h
   ·rename_i ys' hys
    injection h with h;subst h
    obtain ⟨hl,hr⟩:=expCs_rel hm hA hr' hys
    refine ⟨by simp [hl],fun i a b v ha hb hv=>?_⟩
    cases i with
    | zero=>simp at ha hb;subst ha;subst hb;exact expC_rel hm hA hr' hy hv
    | succ i=>exact hr i a b v (by simpa using ha) (by simpa using hb) hv
   ·simp at h
  ·simp at h
theorem expR_rel {loc:Nat→Option Blk} (hm:∀ j k,loc j=some k→MemR w A r j k) (hA:∀ b,A' b→A b) (hr':∀ j k,loc j=some k→∀ b,OwnJ r j b→¬ A' b) {x y:AV} {v:Value} (h:expR loc x=some y) (k:VR w A r x v):VR w A' noR y v:=by
 unfold expR at h
 split at h
 ·rename_i y' hy
  injection h with h;subst h
  exact expA_rel hm hA hr' hy k
 ·unfold expD at h
  split at h
  case h_2=>cases h
  rename_i j wd row col
  split at h
  case h_2=>cases h
  rename_i t cs hl
  split at h
  case h_2=>cases h
  rename_i ys hys
  injection h with h;subst h
  obtain ⟨hlen,hrel⟩:=expCs_rel hm hA hr' hys
  cases k with
  | lptr hj ho=>
   rename_i b off
   obtain ⟨b',hb',us,hh,hc⟩:=hm _ _ hl
   have:b'=b:=by rw [hj] at hb';injection hb' with hb';exact hb'.symm
   subst this
   refine .xptr (o:=0) (fun _ k=>us.getD k undef) (Array.getElem?_eq_some_iff.1 hh).1 (hr' _ _ hl _ (.inl hj)) (fun i k hi hk=>?_) (fun i k hi hk=>?_) (by subst ho;omega) (by omega)
   ·have:i=0:=by omega
    subst this
    have hlt:k<us.size:=by rw [← hc.1];exact hk
    simp [World.cell?,hh,hlt,Array.getD_eq_getD_getElem?]
   ·have hlt:k<us.size:=by rw [← hc.1];exact hk
    have hky:k<ys.length:=by rw [hlen];exact hk
    have e:(⟨ys.map tagOf,fun _ k=>(ys[k]?).getD .top⟩:Get AV).cell i k=ys[k]:=by
     simp only [Get.cell,List.getElem?_eq_getElem hky,Option.getD_some]
     exact mapTag_conf (List.getElem?_eq_getElem hky)
    rw [e]
    simp only [Array.getD_eq_getD_getElem?,Array.getElem?_eq_getElem hlt,Option.getD_some]
    exact hrel k cs[k] ys[k] us[k] (List.getElem?_eq_getElem hk) (List.getElem?_eq_getElem hky) (hc.2 k _ _ (List.getElem?_eq_getElem hk) (Array.getElem?_eq_getElem hlt))
theorem plain_any {w':World} {x:AV} {v:Value} (hx:(plainV x).isSome=true) (h:VR w A r x v):VR w' A' r' x v:=by
 cases h with
 | agg a1 a2=>
  rename_i xs us
  simp only [plainV] at hx
  split at hx
  ·rename_i vs hs
   refine .agg a1 (fun i x u hi hu=>?_)
   obtain ⟨z,hz,hsc⟩:=scals_get hs i x hi
   have:=a2 i x u hi hu
   cases this<;>simp [scal] at hsc<;>first | exact .int | exact .bool | exact .str | exact .nilptr | exact .nilfn | exact .nilif | exact .nilmp
  ·simp at hx
 | int=>exact .int
 | bool=>exact .bool
 | str=>exact .str
 | nilptr=>exact .nilptr
 | nilfn=>exact .nilfn
 | nilif=>exact .nilif
 | nilmp=>exact .nilmp
 | _=>simp [plainV,scal] at hx
theorem plainR_any {w':World} {x:AV} {v:Value} (hx:plainR x=true) (h:VR w A r x v):VR w' A' r' x v:=by
 cases h with
 | tup a1 a2=>
  simp only [plainR] at hx
  exact .tup a1 (fun i x u hi hu=>plain_any (List.all_eq_true.1 hx x (List.mem_of_getElem? hi)) (a2 i x u hi hu))
 | top=>simp [plainR,plainV,scal] at hx
 | int=>exact .int
 | bool=>exact .bool
 | str=>exact .str
 | nilptr=>exact .nilptr
 | nilfn=>exact .nilfn
 | nilif=>exact .nilif
 | errif=>exact .errif
 | nilmp=>exact .nilmp
 | agg a1 a2=>exact plain_any (A':=A') (r':=r') (w':=w') (x:=.agg _) (by simpa [plainR] using hx) (VR.agg a1 a2:VR w A r _ _)
 | _=>simp [plainR,plainV,scal] at hx
end
end Go.Proofs.YtkpligkggnjcoaaGreatDoor.Ev
/-! EvG -/
namespace Go.Proofs.YtkpligkggnjcoaaGreatDoor.Ev
open Go.RowKit
def putD (env:List AV) (d:Option Nat) (v:AV):List AV:=match d with
 | some d=>env.set d v
 | none=>env
def wantD (ops:Array Oper) (env:List AV) (o:Oper):Option Bool:=match o.guard with
 | none=>some true
 | some (j,want)=>match ops[j]? with
  | some oj=>match oj.dst with
   | some d=>match env[d]? with
    | some (.bool b)=>some (b == want)
    | some (.tup [])=>some false
    | _=>none
   | none=>none
  | none=>none
structure Eff where
 dst:Option Nat
 v:AV
 mem:Option (Nat × Blk)
def effR (cl:FuncId→List AV→Option AV) (loc:Nat→Option Blk) (nx:Nat) (o:Oper):Res→Option Eff
 | .val v=>some ⟨o.dst,v,none⟩
 | .alloc b v=>some ⟨o.dst,v,some (nx,b)⟩
 | .grow j b v=>some ⟨o.dst,v,some (j,b)⟩
 | .store j b=>some ⟨o.dst,.tup [],some (j,b)⟩
 | .put j b v=>some ⟨o.dst,v,some (j,b)⟩
 | .call f args=>match callArgs loc args with
  | some (ex,args')=>match cl f args' with
   | some v=>match ex&&!plainR v with
    | true=>none
    | false=>some ⟨o.dst,v,none⟩
   | none=>none
  | none=>none
 | .turn f args=>match turnArgs loc args with
  | some (j,t,wd,v,n,g,rest)=>match cl f (.osl 0 wd n :: .xsl wd n g 0 n none :: rest) with
   | some (.xsl _ _ g' _ _ _)=>match fullCK g'.tag wd with
    | true=>some ⟨o.dst,.tup [],some (j,.list t wd v n g')⟩
    | false=>none
   | _=>none
  | none=>match methArgs loc args with
   | some (j,t,wd,cs,rest)=>match cl f (.lptr t wd 0 0 :: .agg cs :: rest) with
    | some (.tup [.agg cs',u])=>some ⟨o.dst,u,some (j,.flat t cs')⟩
    | _=>none
   | none=>none
 | .fresh f t args=>match callArgs loc args with
  | some (_,args')=>match cl f (.oss t 0 0 0 0 :: args') with
   | some (.xsl wd n g _ _ _)=>match fullCK g.tag wd with
    | true=>some ⟨o.dst,.osl nx 0 n,some (nx,.list t wd 0 n g)⟩
    | false=>none
   | _=>none
  | none=>none
def effOf (P:Program) (cl:FuncId→List AV→Option AV) (ops:Array Oper) (env:List AV) (loc:Nat→Option Blk) (nx:Nat) (o:Oper):Option Eff:=
 match wantD ops env o with
 | some true=>match opRes P (evO env) loc nx o with
  | some (true,res)=>effR cl loc nx o res
  | _=>none
 | some false=>some ⟨o.dst,.tup [],none⟩
 | none=>none
def locE (e:Eff) (l:Nat→Option Blk):Nat→Option Blk:=match e.mem with
 | some (j,b)=>fun k=>if k=j then some b else l k
 | none=>l
def own (r:Rr) (ds:List Nat):Nat→Prop:=fun b=>OwnR r b∨b ∈ ds
def AR (A0:Nat→Prop) (r:Rr) (ds:List Nat):Nat→Prop:=fun b=>A0 b∨own r ds b
abbrev Fx:=(Nat→Prop)→(Nat→Prop)→World→Prop
theorem Turn.below {O:Nat→Prop} {w w':World} (h:Bel w.heap.size w w'):Turn O w w':=⟨h.os,h.tape,h.output,h.size,fun b hb _=>h.block b hb,h.drawn⟩
structure FR (X:Fx) (yl:Option Nat) (A0:Nat→Prop) (sav:List AV) (sv:Array Value) (env:List AV) (loc:Nat→Option Blk) (r:Rr) (ds:List Nat) (a:Act) (w:World):Prop where
 env:VRs w (AR A0 r ds) r env a.tmps
 sav:VRs w (AR A0 r ds) r sav sv
 mem:∀ j k,loc j=some k→MemR w (AR A0 r ds) r j k
 dom:∀ (j b:Nat),r (.obj j)=some b→∃ k,loc j=some k∧isO k=true
 domL:∀ (j v b:Nat),(r (.lo j v)=some b∨r (.lc j v)=some b∨r (.ln j v)=some b)→∃ k,loc j=some k∧isL k v
 inj:∀ (i j b:Nat),r (.obj i)=some b→r (.obj j)=some b→i=j
 injL:∀ (i j v u b:Nat),r (.lo i v)=some (b+1)→r (.lo j u)=some (b+1)→i=j
 sep:∀ (i j v b:Nat),r (.obj i)=some b→r (.lo j v)=some (b+1)→False
 dis:∀ b,OwnR r b→¬ A0 b
 lt:∀ b,OwnR r b→b<w.heap.size
 sepD:∀ b,OwnR r b→b ∉ ds
 a0:∀ b,A0 b→b<w.heap.size
 inv:X A0 (own r ds) w
 clo:∀ A0 O O' w w',X A0 O w→Turn O w w'→(∀ b,O' b→O b∨w.heap.size≤b)→X A0 O' w'
 dfr:a.defers=ds.map fun q=>{ target:=.collected q,args:=#[] }
 dnd:ds.Nodup
 dok:∀ q,q ∈ ds→w.heap[q]?=some (.deferred (some []))∧¬ A0 q
 ylv:r .yl=yl
section
variable {P:Program} {cl:FuncId→List AV→Option AV} {X:Fx} {w:World} {A0:Nat→Prop} {env:List AV} {loc:Nat→Option Blk} {r:Rr} {ds:List Nat} {sav:List AV} {sv:Array Value} {yl:Option Nat} {a:Act}
theorem OwnR.of {r:Rr} {j b:Nat} (h:r (.obj j)=some b∨∃ v,r (.lo j v)=some (b+1)):OwnR r b:=h.imp (fun h=>⟨j,h⟩) (fun ⟨v,h⟩=>⟨j,v,h⟩)
theorem FR.arLt (h:FR X yl A0 sav sv env loc r ds a w):∀ b,AR A0 r ds b→b<w.heap.size:=by
 rintro b (hb | hj | hb)
 ·exact h.a0 b hb
 ·exact h.lt b hj
 ·exact (Array.getElem?_eq_some_iff.1 (h.dok b hb).1).1
theorem ofConst_rel {A:Nat→Prop} {v:Value} {x:AV} (h:ofConst v=some x):VR w A r x v:=ofV_rel h
theorem FR.eval (h:FR X yl A0 sav sv env loc r ds a w) (x:Operand) (v:AV) (hx:evO env x=some v):VR w (AR A0 r ds) r v (a.eval x):=by
 cases x with
 | tmp t=>
  simp only [evO] at hx
  obtain ⟨u,hu,hr⟩:=h.env.get hx
  simp only [Act.eval,Array.getD_eq_getD_getElem?,hu,Option.getD_some]
  exact hr
 | const c=>exact ofConst_rel hx
 | func f=>simp [evO] at hx;subst hx;exact .fn rfl rfl (fun i x u hi=>by simp at hi) (fun i x u hi=>by simp at hi)
 | global g=>simp [evO] at hx
theorem FR.cx (h:FR X yl A0 sav sv env loc r ds a w):Cx w (AR A0 r ds) r loc (evO env) a.eval:=⟨h.eval,h.mem⟩
theorem VRs.put {A:Nat→Prop} {us:Array Value} {x:AV} {v:Value} (h:VRs w A r env us) (hv:VR w A r x v) (d:Nat):VRs w A r (env.set d x) (us.setIfInBounds d v):=by
 refine ⟨by simp [h.1],fun i y u hy hu=>?_⟩
 rw [List.getElem?_set] at hy
 rw [Array.getElem?_setIfInBounds] at hu
 split at hy
 ·rename_i e
  rw [if_pos e] at hu
  split at hy
  ·split at hu
   ·injection hy with hy;injection hu with hu;subst hy;subst hu;exact hv
   ·simp at hu
  ·simp at hy
 ·rename_i e
  rw [if_neg e] at hu
  exact h.2 i y u hy hu
theorem VRs.putD {A:Nat→Prop} {x:AV} {v:Value} {a:Act} (h:VRs w A r env a.tmps) (hv:VR w A r x v) (d:Option Nat):VRs w A r (putD env d x) (a.put d v).tmps:=by
 cases d with
 | none=>exact h
 | some d=>exact VRs.put h hv d
theorem put_defers (a:Act) (d:Option Nat) (v:Value):(a.put d v).defers=a.defers:=by cases d<;>rfl
theorem own_keep {w':World} {base:Nat} {t:TypeId} {size n:Nat} {v:Value} {xs:List Value} (h:w.ownsRow base t size v n xs) (hb:∀ g,v.ownBlock=some g→w'.heap[g]?=w.heap[g]?):w'.ownsRow base t size v n xs:=by
 refine ⟨h.1,?_⟩
 rcases h.2 with h | ⟨g,cap,cur,e,h1,h2,h3⟩
 ·exact .inl h
 ·exact .inr ⟨g,cap,cur,e,h1,by rw [hb g (by rw [e];rfl)];exact h2,h3⟩
theorem slBase_own {e n c g:Nat} (h:(Value.slice (slBase e) n c).ownBlock=some g):e=g+1:=by
 cases e with
 | zero=>simp [slBase,Value.ownBlock] at h
 | succ b=>simp [slBase,Value.ownBlock] at h;rw [h]
theorem rows_keep {w':World} {A A':Nat→Prop} {get:Get AV} {n wd:Nat} {xs:List Value} (h:RowsR w A get n wd xs) (hk:Keeps A A' w w'):RowsR w' A' get n wd xs:=fun i k hi hk'=>by
 obtain ⟨u,hu,hv⟩:=h i k hi hk'
 exact ⟨u,hu,hv.mono hk (fun _ _ h=>h)⟩
theorem es_keep {w':World} {A A':Nat→Prop} {ag:Bool} {wd n:Nat} {get:Get AV} {es:Array MapEntry} (h:EsR w A ag wd n get es) (hk:Keeps A A' w w'):EsR w' A' ag wd n get es:=by
 obtain ⟨u,h1,h2,h3⟩:=h
 exact ⟨u,h1,h2,fun i k hi hk'=>(h3 i k hi hk').mono hk (fun _ _ h=>h)⟩
theorem poolE_keep {w':World} {A A':Nat→Prop} {r':Rr} {j:Nat} {st:TypeId} {wd hk:Nat} {ht:TypeId} {hwd n:Nat} {get:Get AV} {hl:Nat→Nat} {hg:HG} {pend:Option (Nat × Nat)} {es:Array MapEntry} {clock:Nat} (h:PoolE w A r j st wd hk ht hwd n get hl hg pend es clock) (hkk:Keeps A A' w w')
  (hr:∀ i b:Nat,r (.obj i)=some b→r' (.obj i)=some b) (hp:∀ v,r' (.lo j v)=r (.lo j v)∧r' (.ln j v)=r (.ln j v)) (hb:∀ b v,r (.lo j v)=some (b+1)→w'.heap[b]?=w.heap[b]?):PoolE w' A' r' j st wd hk ht hwd n get hl hg pend es clock:=by
 obtain ⟨h1,h2,h3,h4,h5,h6,h7,h8⟩:=h
 refine ⟨h1,h2,h3,fun i hi=>?_,fun v u b hv hu=>h5 v u b (by rw [← (hp v).1];exact hv) (by rw [← (hp u).1];exact hu),fun v=>by rw [(hp v).2];exact h6 v,fun v b hv=>h7 v b (by rw [← (hp v).1];exact hv),fun q jp hq=>?_⟩
 ·obtain ⟨x,p,g1,g2,g3,g4⟩:=h4 i hi
  refine ⟨x,p,g1,g2.mono hkk (fun j b h=>by simp [noR] at h),g3,?_⟩
  split at g4
  ·exact hr _ _ g4
  ·obtain ⟨m1,us,e,c,xs,m2,m3,m4,m5,m6,m7,m8,m9,m10⟩:=g4
   exact ⟨by rw [(hp _).1];exact m1,us,e,c,xs,by rw [hb p _ m1];exact m2,m3,fun k k1 k2=>by obtain ⟨u,e1,e2⟩:=m4 k k1 k2;exact ⟨u,e1,e2.mono hkk (fun j b h=>by simp [noR] at h)⟩,m5,by rw [(hp _).1];exact m6,m7,m8,
    own_keep m9 (fun g hg=>hb g _ (by rw [m6,slBase_own hg])),rows_keep m10 hkk⟩
 ·obtain ⟨g1,g2,g3⟩:=h8 q jp hq
  exact ⟨g1,by rw [(hp _).1];exact g2,by rw [(hp _).1];exact g3⟩
theorem fmapE_keep {w':World} {A A':Nat→Prop} {r':Rr} {ks vs:List AV} {es:Array MapEntry} (h:FmapE w A r ks vs es) (hkk:Keeps A A' w w') (hr:∀ (j:Key) (b:Nat),r j=some b→KeyL r j→r' j=some b):FmapE w' A' r' ks vs es:=by
 obtain ⟨h1,h2,h3⟩:=h
 refine ⟨h1,h2,fun i hi=>?_⟩
 obtain ⟨x,kx,vx,g1,g2,g3,g4,g5⟩:=h3 i hi
 exact ⟨x,kx,vx,g1,g2,g3,g4.mono hkk (fun j b h=>by simp [noR] at h),g5.monoL hkk hr⟩
theorem MemR.keepL {w':World} {A A':Nat→Prop} {r':Rr} {j:Nat} {k:Blk} (h:MemR w A r j k) (hk:Keeps A A' w w') (hr:∀ (j:Key) (b:Nat),r j=some b→KeyL r j→r' j=some b)
  (hp:∀ v,r' (.lo j v)=r (.lo j v)∧r' (.ln j v)=r (.ln j v)) (hb:∀ b,(r (.obj j)=some b∨∃ v,r (.lo j v)=some (b+1))→w'.heap[b]?=w.heap[b]?):MemR w' A' r' j k:=by
 cases k with
 | flat t cs=>
  obtain ⟨b,hj,us,hh,hc⟩:=h
  exact ⟨b,hr _ _ hj trivial,us,by rw [hb b (.inl hj)];exact hh,hc.monoL hk hr⟩
 | list t wd v n get=>
  obtain ⟨e,c,xs,g1,g2,g3,g4,g5,g6,hown,hrows⟩:=h
  exact ⟨e,c,xs,hr _ _ g1 (by simp [KeyL,g3]),hr _ _ g2 trivial,hr _ _ g3 trivial,g4,g5,g6,own_keep hown (fun g hg=>hb g (.inr ⟨v,by rw [g1,slBase_own hg]⟩)),rows_keep hrows hk⟩
 | map t ag wd n get=>
  obtain ⟨b,hj,es,clock,hh,hbn,hes⟩:=h
  exact ⟨b,hr _ _ hj trivial,es,clock,by rw [hb b (.inl hj)];exact hh,hbn,es_keep hes hk⟩
 | fmap t ks vs=>
  obtain ⟨b,es,clock,hj,hh,hes⟩:=h
  exact ⟨b,es,clock,hr _ _ hj trivial,by rw [hb b (.inl hj)];exact hh,fmapE_keep hes hk hr⟩
 | iter m seen=>
  obtain ⟨b,bm,sn,n,g,hj,hh,hm,hit,h2⟩:=h
  exact ⟨b,bm,sn,n,g,hr _ _ hj trivial,by rw [hb b (.inl hj)];exact hh,hm.mono hk (fun j b h=>by simp [noR] at h),hit,h2⟩
 | pool t st wd hk' ht hwd n get hl hg pend=>
  obtain ⟨b,es,clock,hj,hh,hes⟩:=h
  exact ⟨b,es,clock,hr _ _ hj trivial,by rw [hb b (.inl hj)];exact hh,poolE_keep hes hk (fun i b h=>hr _ _ h trivial) hp (fun b v hv=>hb b (.inr ⟨v,hv⟩))⟩
 | gone=>exact trivial
theorem MemR.keep {w':World} {A A':Nat→Prop} {r':Rr} {j:Nat} {k:Blk} (h:MemR w A r j k) (hk:Keeps A A' w w') (hr:∀ (j:Key) (b:Nat),r j=some b→r' j=some b)
  (hb:∀ b,(r (.obj j)=some b∨∃ v,r (.lo j v)=some (b+1))→w'.heap[b]?=w.heap[b]?) (hp:∀ v,r' (.lo j v)=r (.lo j v)∧r' (.ln j v)=r (.ln j v):=by exact fun _=>⟨rfl,rfl⟩):MemR w' A' r' j k:=h.keepL hk (fun j b h _=>hr j b h) hp hb
theorem FR.val (h:FR X yl A0 sav sv env loc r ds a w) {w':World} (hb:Bel w.heap.size w w') {x:AV} {v:Value} (hv:VR w' (AR A0 r ds) r x v) (d:Option Nat):FR X yl A0 sav sv (putD env d x) loc r ds (a.put d v) w':=by
 have hk:Keeps (AR A0 r ds) (AR A0 r ds) w w':=⟨hb.size,fun b hlt _=>hb.block b hlt,fun b h=>.inl h⟩
 refine ⟨VRs.putD (h.env.mono hk (fun _ _ h=>h)) hv d,h.sav.mono hk (fun _ _ h=>h),fun j k hj=>(h.mem j k hj).keep hk (fun _ _ h=>h) (fun b hb'=>hb.block b (h.lt b ?_)),h.dom,h.domL,h.inj,h.injL,h.sep,h.dis,fun b hj=>Nat.lt_of_lt_of_le (h.lt b hj) hb.size,h.sepD,fun b hb'=>Nat.lt_of_lt_of_le (h.a0 b hb') hb.size,h.clo _ _ _ _ _ h.inv (.below hb) (fun _ h=>.inl h),h.clo,by rw [put_defers];exact h.dfr,h.dnd,fun q hq=>⟨by rw [hb.block q (Array.getElem?_eq_some_iff.1 (h.dok q hq).1).1];exact (h.dok q hq).1,(h.dok q hq).2⟩,by simpa using h.ylv⟩
 rcases hb' with hb' | ⟨v,hb'⟩
 ·exact .inl ⟨_,hb'⟩
 ·exact .inr ⟨_,_,hb'⟩
theorem FR.allocO (h:FR X yl A0 sav sv env loc r ds a w) {nx:Nat} (hnx:loc nx=none) {ob:Obj} {k0:Blk} (hk0:isO k0=true) {x:AV} {v:Value}
  (hm:∀ (A':Nat→Prop) (r':Rr),Keeps (AR A0 r ds) A' w (w.alloc ob)→(∀ (j:Key) (b:Nat),r j=some b→r' j=some b)→r' (.obj nx)=some w.heap.size→(∀ v,r' (.lo nx v)=none∧r' (.ln nx v)=none)→MemR (w.alloc ob) A' r' nx k0)
  (hv:∀ (w':World) (A':Nat→Prop) (r':Rr),r' nx=some w.heap.size→VR w' A' r' x v) (d:Option Nat) :
  ∃ r',FR X yl A0 sav sv (putD env d x) (locE ⟨d,x,some (nx,k0)⟩ loc) r' ds (a.put d v) (w.alloc ob):=by
 have hrnx:r (.obj nx)=none:=by
  cases hr:r (.obj nx) with
  | none=>rfl
  | some b=>obtain ⟨t,hk,_⟩:=h.dom nx b hr;rw [hnx] at hk;cases hk
 let r':Rr:=fun j=>if j=.obj nx then some w.heap.size else r j
 have hr':∀ (j:Key) (b:Nat),r j=some b→r' j=some b:=fun j b hj=>by
  have:j≠.obj nx:=fun e=>by subst e;rw [hrnx] at hj;cases hj
  simp [r',this,hj]
 have hinv:∀ (j b:Nat),r' (.obj j)=some b→(j=nx∧b=w.heap.size)∨(j≠nx∧r (.obj j)=some b):=fun j b hj=>by
  by_cases e:j=nx
  ·simp [r',e] at hj;exact .inl ⟨e,hj.symm⟩
  ·simp [r',e] at hj;exact .inr ⟨e,hj⟩
 have hlo:∀ j v:Nat,r' (.lo j v)=r (.lo j v):=fun j v=>by simp [r']
 have hnone:∀ v,r' (.lo nx v)=none∧r' (.ln nx v)=none:=fun v=>by
  have e1:r (.lo nx v)=none:=by
   cases hx:r (.lo nx v) with
   | none=>rfl
   | some b=>obtain ⟨k,hl,_⟩:=h.domL nx v b (.inl hx);rw [hnx] at hl;cases hl
  have e2:r (.ln nx v)=none:=by
   cases hx:r (.ln nx v) with
   | none=>rfl
   | some b=>obtain ⟨k,hl,_⟩:=h.domL nx v b (.inr (.inr hx));rw [hnx] at hl;cases hl
  exact ⟨by rw [hlo];exact e1,by simp only [r'];rw [if_neg (by simp)];exact e2⟩
 have hown:∀ b,OwnR r' b→b=w.heap.size∨OwnR r b:=fun b hb=>by
  rcases hb with ⟨j,hj⟩ | ⟨j,v,hj⟩
  ·rcases hinv j b hj with ⟨_,e⟩ | ⟨_,hj'⟩
   ·exact .inl e
   ·exact .inr (.inl ⟨j,hj'⟩)
  ·exact .inr (.inr ⟨j,v,by rw [← hlo];exact hj⟩)
 have hk:Keeps (AR A0 r ds) (AR A0 r' ds) w (w.alloc ob):=by
  refine ⟨by simp,fun b hlt _=>Below.heap_alloc w _ b hlt,fun b hb=>?_⟩
  rcases hb with hb | hb | hb
  ·exact .inl (.inl hb)
  ·rcases hown b hb with e | hb
   ·right;omega
   ·exact .inl (.inr (.inl hb))
  ·exact .inl (.inr (.inr hb))
 refine ⟨r',VRs.putD (h.env.mono hk hr') (hv _ _ r' (by simp [r'])) d,h.sav.mono hk hr',fun j k hj=>?_,fun j b hj=>?_,fun j v b hj=>?_,fun i j b hi hj=>?_,fun i j v u b hi hj=>h.injL i j v u b (by rw [← hlo];exact hi) (by rw [← hlo];exact hj),fun i j v b hi hj=>?_,fun b hj=>?_,fun b hj=>?_,fun b hj hq=>(hown b hj).elim (fun e=>by have:=(Array.getElem?_eq_some_iff.1 (h.dok b hq).1).1;omega) (fun hj'=>h.sepD b hj' hq),fun b hb=>by have:=h.a0 b hb;simp;omega,h.clo _ _ _ _ _ h.inv (.below ((Bel.refl _ w).alloc (Nat.le_refl _) _)) (fun b hb=>?_),h.clo,by rw [put_defers];exact h.dfr,h.dnd,fun q hq=>⟨by rw [Below.heap_alloc w _ q (Array.getElem?_eq_some_iff.1 (h.dok q hq).1).1];exact (h.dok q hq).1,(h.dok q hq).2⟩,by simpa [r'] using h.ylv⟩
 ·simp only [locE] at hj
  split at hj
  ·rename_i e
   injection hj with hj;subst hj;subst e
   exact hm _ _ hk hr' (by simp [r']) hnone
  ·rename_i e
   refine (h.mem j k hj).keep hk hr' (fun b hb=>Below.heap_alloc w _ b (h.lt b ?_)) (fun v=>⟨hlo j v,by simp [r']⟩)
   rcases hb with hb' | ⟨v,hb'⟩
   ·exact .inl ⟨_,hb'⟩
   ·exact .inr ⟨_,_,hb'⟩
 ·simp only [locE]
  rcases hinv j b hj with ⟨e,_⟩ | ⟨e,hj'⟩
  ·simp only [e,if_true];exact ⟨k0,rfl,hk0⟩
  ·simp only [e,if_false];exact h.dom j b hj'
 ·have hj':r (.lo j v)=some b∨r (.lc j v)=some b∨r (.ln j v)=some b:=by simpa [r'] using hj
  obtain ⟨k,hl,hle⟩:=h.domL j v b hj'
  have e:j≠nx:=fun e=>by subst e;rw [hnx] at hl;cases hl
  simp only [locE,e,if_false]
  exact ⟨k,hl,hle⟩
 ·rcases hinv i b hi with ⟨e1,e2⟩ | ⟨e1,hi'⟩<;>rcases hinv j b hj with ⟨e3,e4⟩ | ⟨e3,hj'⟩
  ·rw [e1,e3]
  ·have:=h.lt b (.inl ⟨j,hj'⟩);omega
  ·have:=h.lt b (.inl ⟨i,hi'⟩);omega
  ·exact h.inj i j b hi' hj'
 ·rw [hlo] at hj
  rcases hinv i b hi with ⟨e1,e2⟩ | ⟨e1,hi'⟩
  ·have:=h.lt b (.inr ⟨j,v,hj⟩);omega
  ·exact h.sep i j v b hi' hj
 ·rcases hown b hj with e | hj'
  ·rw [e];exact fun hA=>by have:=h.a0 _ hA;omega
  ·exact h.dis b hj'
 ·simp only [World.size_alloc]
  rcases hown b hj with e | hj'
  ·omega
  ·have:=h.lt b hj';omega
 ·rcases hb with hb | hb
  ·rcases hown b hb with e | hj'
   ·right;omega
   ·exact .inl (.inl hj')
  ·exact .inl (.inr hb)
theorem FR.alloc (h:FR X yl A0 sav sv env loc r ds a w) {nx:Nat} (hnx:loc nx=none) {t:TypeId} {cs:List AV} {us:Array Value} {x:AV} {v:Value} (hc:VRs w (AR A0 r ds) r cs us)
  (hv:∀ (w':World) (A':Nat→Prop) (r':Rr),r' nx=some w.heap.size→VR w' A' r' x v) (d:Option Nat) :
  ∃ r',FR X yl A0 sav sv (putD env d x) (locE ⟨d,x,some (nx,.flat t cs)⟩ loc) r' ds (a.put d v) (w.alloc (.cells us t)):=
 h.allocO (ob:=.cells us t) (k0:=.flat t cs) hnx rfl (fun A' r' hk hr' e _=>⟨w.heap.size,e,us,by show (w.heap.push _)[w.heap.size]?=_;simp,hc.mono hk hr'⟩) hv d
theorem FR.allocM (h:FR X yl A0 sav sv env loc r ds a w) {nx:Nat} (hnx:loc nx=none) {t:TypeId} {ag:Bool} {wd:Nat} {get:Get AV} {x:AV} {v:Value}
  (hv:∀ (w':World) (A':Nat→Prop) (r':Rr),r' nx=some w.heap.size→VR w' A' r' x v) (d:Option Nat) :
  ∃ r',FR X yl A0 sav sv (putD env d x) (locE ⟨d,x,some (nx,.map t ag wd 0 get)⟩ loc) r' ds (a.put d v) (w.alloc (.map #[] 0)):=
 h.allocO (ob:=.map #[] 0) (k0:=.map t ag wd 0 get) hnx rfl (fun A' r' hk hr' e _=>⟨w.heap.size,e,#[],0,by show (w.heap.push _)[w.heap.size]?=_;simp,⟨rfl,fun i x h=>by simp at h⟩,fun _ _=>.nilFunc,rfl,fun i hi=>absurd hi (Nat.not_lt_zero _),fun i k hi=>absurd hi (Nat.not_lt_zero _)⟩) hv d
theorem FR.allocI (h:FR X yl A0 sav sv env loc r ds a w) {nx:Nat} (hnx:loc nx=none) {n bm:Nat} {m:AV} {g:Get AV} {x:AV} {v:Value} (hm:VR w (AR A0 r ds) noR m (.map (some bm))) (hr:mrows m=some (n,g))
  (hv:∀ (w':World) (A':Nat→Prop) (r':Rr),r' nx=some w.heap.size→VR w' A' r' x v) (d:Option Nat) :
  ∃ r',FR X yl A0 sav sv (putD env d x) (locE ⟨d,x,some (nx,.iter m [])⟩ loc) r' ds (a.put d v) (w.alloc (.mapIter (some bm) n #[] n)):=
 h.allocO (ob:=.mapIter (some bm) n #[] n) (k0:=.iter m []) hnx rfl (fun A' r' hk hr' e _=>⟨w.heap.size,bm,#[],n,g,e,by show (w.heap.push _)[w.heap.size]?=_;simp,hm.mono hk (fun j b h=>by simp [noR] at h),hr,rfl⟩) hv d
theorem FR.allocF (h:FR X yl A0 sav sv env loc r ds a w) {nx:Nat} (hnx:loc nx=none) {t:TypeId} {x:AV} {v:Value}
  (hv:∀ (w':World) (A':Nat→Prop) (r':Rr),r' nx=some w.heap.size→VR w' A' r' x v) (d:Option Nat) :
  ∃ r',FR X yl A0 sav sv (putD env d x) (locE ⟨d,x,some (nx,.fmap t [] [])⟩ loc) r' ds (a.put d v) (w.alloc (.map #[] 0)):=
 h.allocO (ob:=.map #[] 0) (k0:=.fmap t [] []) hnx rfl (fun A' r' hk hr' e _=>⟨w.heap.size,#[],0,e,by show (w.heap.push _)[w.heap.size]?=_;simp,rfl,rfl,fun i hi=>absurd hi (Nat.not_lt_zero _)⟩) hv d
theorem FR.allocP (h:FR X yl A0 sav sv env loc r ds a w) {nx:Nat} (hnx:loc nx=none) {t st:TypeId} {wd hk:Nat} {ht:TypeId} {hwd:Nat} {get:Get AV} {hl:Nat→Nat} {hg:HG} (h1:hk<wd) (h2:0<hwd) {x:AV} {v:Value}
  (hv:∀ (w':World) (A':Nat→Prop) (r':Rr),r' nx=some w.heap.size→VR w' A' r' x v) (d:Option Nat) :
  ∃ r',FR X yl A0 sav sv (putD env d x) (locE ⟨d,x,some (nx,.pool t st wd hk ht hwd 0 get hl hg none)⟩ loc) r' ds (a.put d v) (w.alloc (.map #[] 0)):=
 h.allocO (ob:=.map #[] 0) (k0:=.pool t st wd hk ht hwd 0 get hl hg none) hnx rfl (fun A' r' hkk hr' e hno=>⟨w.heap.size,#[],0,e,by show (w.heap.push _)[w.heap.size]?=_;simp,⟨rfl,rfl,fun i x h=>by simp at h⟩,h1,h2,fun i hi=>absurd hi (Nat.not_lt_zero _),
  fun v u b hv _=>(by rw [(hno v).1] at hv;cases hv),fun v=>(hno v).2,fun v b hv=>(by rw [(hno v).1] at hv;cases hv),fun q jp hq=>by cases hq⟩) hv d
theorem FR.notDfr (h:FR X yl A0 sav sv env loc r ds a w) {j v wd n b:Nat} {t:TypeId} {g:Get AV} (hl:loc j=some (.list t wd v n g)) (hlo:r (.lo j v)=some (b+1)) {o:Obj} (ho:∀ c t f,o≠.cells c t f) (hd:w.heap[b]?=some o):False:=by
 obtain ⟨e,c,xs,g1,g2,g3,g4,g5,g6,hown,hrows⟩:=h.mem _ _ hl
 rw [hlo] at g1;injection g1 with g1;subst g1
 rcases hown.2 with ⟨e,_⟩ | ⟨g',cap,cur,e,h1,h2,h3⟩
 ·simp [slBase] at e
 ·simp only [slBase,Value.slice.injEq,Option.some.injEq,Addr.mk.injEq] at e
  rw [← e.1.1,hd] at h2
  injection h2 with h2
  exact ho _ _ _ h2
theorem FR.grow2 (h:FR X yl A0 sav sv env loc r ds a w) {nx j v n e c wd:Nat} (hnx:j=nx→loc nx=none) {t:TypeId} {get:Get AV} {ob:Option Nat} {xs:List Value} {w1:World}
  (hob:∀ b,ob=some b→∃ v',v=v'+1∧r (.lo j v')=some (b+1)) (hv0:v=0∧j=nx∨∃ t' wd' v' n' get',v=v'+1∧loc j=some (.list t' wd' v' n' get'))
  (hown:w1.ownsRow 0 t wd (.slice (slBase e) n c) n xs) (hrows:RowsR w (AR A0 r ds) get n wd xs) (hg:w.grownBy w1 ob) (hbl:∀ b,e=b+1→ob=some b∨w.heap.size≤b) (h0:e=0→n=0∧c=0) (hnc:n≤c∧n≤maxL) (hwd:0<wd) (hdr:dle w w1) (d:Option Nat) :
  ∃ r',VR w1 (AR A0 r' ds) r' (.osl j v n) (.slice (slBase e) n c)∧FR X yl A0 sav sv (putD env d (.osl j v n)) (locE ⟨d,.osl j v n,some (j,.list t wd v n get)⟩ loc) r' ds (a.put d (.slice (slBase e) n c)) w1:=by
 have hfree:∀ b,¬ (r (.lo j v)=some b∨r (.lc j v)=some b∨r (.ln j v)=some b):=fun b hb=>by
  obtain ⟨k,hl,hle⟩:=h.domL j v b hb
  rcases hv0 with ⟨_,e2⟩ | ⟨_,_,v2,_,_,e1,e2⟩
  ·rw [e2,hnx e2] at hl;cases hl
  ·rw [e2] at hl;injection hl with hl;subst hl
   have:v≤v2:=hle
   omega
 let r':Rr:=fun k=>if k=.lo j v then some e else if k=.lc j v then some c else if k=.ln j v then some n else r k
 have hr':∀ (k:Key) (b:Nat),r k=some b→r' k=some b:=fun k b hk=>by
  have e1:k≠.lo j v:=fun e=>hfree b (.inl (by rw [← e];exact hk))
  have e2:k≠.lc j v:=fun e=>hfree b (.inr (.inl (by rw [← e];exact hk)))
  have e3:k≠.ln j v:=fun e=>hfree b (.inr (.inr (by rw [← e];exact hk)))
  simp [r',e1,e2,e3,hk]
 have hobj:∀ i:Nat,r' (.obj i)=r (.obj i):=fun i=>by simp [r']
 have hlo:∀ i u b:Nat,r' (.lo i u)=some b→(i=j∧u=v∧b=e)∨r (.lo i u)=some b:=fun i u b hb=>by
  by_cases e1:i=j∧u=v
  ·obtain ⟨e1,e2⟩:=e1;subst e1;subst e2;simp [r'] at hb;exact .inl ⟨rfl,rfl,hb.symm⟩
  ·right
   have:Key.lo i u≠.lo j v:=fun e=>by injection e with e2 e3;exact e1 ⟨e2,e3⟩
   simpa [r',this] using hb
 have hobown:∀ b,ob=some b→OwnR r b:=fun b hb=>by obtain ⟨v',_,h2⟩:=hob b hb;exact .inr ⟨_,_,h2⟩
 have hown':∀ b,OwnR r' b→OwnR r b∨(e=b+1∧w.heap.size≤b):=fun b hb=>by
  rcases hb with ⟨i,hi⟩ | ⟨i,u,hi⟩
  ·exact .inl (.inl ⟨i,by rw [← hobj];exact hi⟩)
  ·rcases hlo i u _ hi with ⟨_,_,e3⟩ | hi
   ·rcases hbl b e3.symm with e4 | e4
    ·exact .inl (hobown b e4)
    ·exact .inr ⟨e3.symm,e4⟩
   ·exact .inl (.inr ⟨i,u,hi⟩)
 have hk:Keeps (AR A0 r ds) (AR A0 r' ds) w w1:=by
  refine ⟨hg.size,fun b hlt hA=>hg.block b hlt (fun e=>hA (.inr (.inl (hobown b e.symm)))),fun b hb=>?_⟩
  rcases hb with hb | hb | hb
  ·exact .inl (.inl hb)
  ·rcases hown' b hb with hb | ⟨_,hb⟩
   ·exact .inl (.inr (.inl hb))
   ·exact .inr hb
  ·exact .inl (.inr (.inr hb))
 have hsame:∀ i b,i≠j→(r (.obj i)=some b∨∃ u,r (.lo i u)=some (b+1))→w1.heap[b]?=w.heap[b]?:=fun i b hij hb=>by
  have hlt:b<w.heap.size:=by
   rcases hb with hb | ⟨u,hb⟩
   ·exact h.lt b (.inl ⟨i,hb⟩)
   ·exact h.lt b (.inr ⟨i,u,hb⟩)
  refine hg.block b hlt (fun e=>?_)
  obtain ⟨v',_,h2⟩:=hob b e.symm
  rcases hb with hb | ⟨u,hb⟩
  ·exact h.sep i j v' b hb h2
  ·exact hij (h.injL i j u v' b hb h2)
 refine ⟨r',.osl (by simp [r']) (by simp [r']) (by simp [r']) h0 hnc,VRs.putD (h.env.mono hk hr') (.osl (by simp [r']) (by simp [r']) (by simp [r']) h0 hnc) d,h.sav.mono hk hr',fun i k hi=>?_,fun i b hi=>?_,fun i u b hi=>?_,fun i i' b hi hi'=>h.inj i i' b (by rw [← hobj];exact hi) (by rw [← hobj];exact hi'),fun i i' u u' b hi hi'=>?_,fun i i' u b hi hi'=>?_,fun b hb=>?_,fun b hb=>?_,fun b hb hq=>(hown' b hb).elim (fun hb=>h.sepD b hb hq) (fun e=>by have:=(Array.getElem?_eq_some_iff.1 (h.dok b hq).1).1;omega),fun b hb=>Nat.lt_of_lt_of_le (h.a0 b hb) hg.size,h.clo _ _ _ _ _ h.inv ⟨hg.os,hg.tape,hg.output,hg.size,fun b hlt hO=>hg.block b hlt (fun e=>hO (.inl (hobown b e.symm))),hdr⟩ (fun b hb=>?_),h.clo,by rw [put_defers];exact h.dfr,h.dnd,fun q hq=>⟨?_,(h.dok q hq).2⟩,by simpa [r'] using h.ylv⟩
 ·simp only [locE] at hi
  split at hi
  ·rename_i e1
   injection hi with hi;subst hi;subst e1
   exact ⟨e,c,xs,by simp [r'],by simp [r'],by simp [r'],h0,hnc,hwd,hown,rows_keep hrows hk⟩
  ·rename_i e1
   exact (h.mem i k hi).keep hk hr' (fun b hb=>hsame i b e1 hb) (fun u=>⟨by simp [r',e1],by simp [r',e1]⟩)
 ·rw [hobj] at hi
  obtain ⟨t1,hl,ho1⟩:=h.dom i b hi
  simp only [locE]
  split
  ·rename_i e1
   subst e1
   rcases hv0 with ⟨_,e3⟩ | ⟨_,_,v2,_,_,e3,e4⟩
   ·rw [e3,hnx e3] at hl;cases hl
   ·rw [e4] at hl;cases hl;cases ho1
  ·exact ⟨t1,hl,ho1⟩
 ·simp only [locE]
  by_cases e1:i=j
  ·subst e1
   simp only [if_true]
   by_cases e2:u=v
   ·exact ⟨_,rfl,Nat.le_of_eq e2⟩
   ·have hi':r (.lo i u)=some b∨r (.lc i u)=some b∨r (.ln i u)=some b:=by simpa [r',e2] using hi
    obtain ⟨k,hl,hle⟩:=h.domL i u b hi'
    refine ⟨_,rfl,?_⟩
    rcases hv0 with ⟨_,e3⟩ | ⟨_,_,v2,_,_,e3,e4⟩
    ·rw [e3,hnx e3] at hl;cases hl
    ·rw [e4] at hl;injection hl with hl;subst hl
     have:u≤v2:=hle
     show u≤v
     omega
  ·simp only [e1,if_false]
   exact h.domL i u b (by simpa [r',e1] using hi)
 ·rcases hlo i u _ hi with ⟨e1,e2,e3⟩ | hi<;>rcases hlo i' u' _ hi' with ⟨e4,e5,e6⟩ | hi'
  ·rw [e1,e4]
  ·rcases hbl b e3.symm with e7 | e7
   ·obtain ⟨v',_,h2⟩:=hob b e7
    rw [e1];exact h.injL _ _ _ _ b h2 hi'
   ·have:=h.lt b (.inr ⟨_,_,hi'⟩);omega
  ·rcases hbl b e6.symm with e7 | e7
   ·obtain ⟨v',_,h2⟩:=hob b e7
    rw [e4];exact h.injL _ _ _ _ b hi h2
   ·have:=h.lt b (.inr ⟨_,_,hi⟩);omega
  ·exact h.injL _ _ _ _ b hi hi'
 ·rw [hobj] at hi
  rcases hlo i' u _ hi' with ⟨e1,e2,e3⟩ | hi'
  ·rcases hbl b e3.symm with e7 | e7
   ·obtain ⟨v',_,h2⟩:=hob b e7
    exact h.sep _ _ _ b hi h2
   ·have:=h.lt b (.inl ⟨_,hi⟩);omega
  ·exact h.sep _ _ _ b hi hi'
 ·rcases hown' b hb with hb | ⟨_,hb⟩
  ·exact h.dis b hb
  ·exact fun hA=>by have:=h.a0 _ hA;omega
 ·rcases hown' b hb with hb | ⟨e1,_⟩
  ·exact Nat.lt_of_lt_of_le (h.lt b hb) hg.size
  ·subst e1;exact (hown.lt b rfl).2
 ·rcases hb with hb | hb
  ·rcases hown' b hb with hb | ⟨_,hb⟩
   ·exact .inl (.inl hb)
   ·exact .inr hb
  ·exact .inl (.inr hb)
 ·have hq':=(h.dok q hq).1
  rw [hg.block q (Array.getElem?_eq_some_iff.1 hq').1 (fun e1=>?_)]
  ·exact hq'
  ·obtain ⟨v',e2,h2⟩:=hob q e1.symm
   rcases hv0 with ⟨e3,_⟩ | ⟨_,_,v2,_,_,e3,e4⟩
   ·omega
   ·have:v2=v':=by omega
    subst this
    exact h.notDfr e4 h2 (by simp) hq'
theorem FR.grow (h:FR X yl A0 sav sv env loc r ds a w) {nx j v n e c wd:Nat} (hnx:j=nx→loc nx=none) {t:TypeId} {get:Get AV} {ob:Option Nat} {xs:List Value} {w1:World}
  (hob:∀ b,ob=some b→∃ v',v=v'+1∧r (.lo j v')=some (b+1)) (hv0:v=0∧j=nx∨∃ t' wd' v' n' get',v=v'+1∧loc j=some (.list t' wd' v' n' get'))
  (hown:w1.ownsRow 0 t wd (.slice (slBase e) n c) n xs) (hrows:RowsR w (AR A0 r ds) get n wd xs) (hg:w.grownBy w1 ob) (hbl:∀ b,e=b+1→ob=some b∨w.heap.size≤b) (h0:e=0→n=0∧c=0) (hnc:n≤c∧n≤maxL) (hwd:0<wd) (hdr:dle w w1) (d:Option Nat) :
  ∃ r',FR X yl A0 sav sv (putD env d (.osl j v n)) (locE ⟨d,.osl j v n,some (j,.list t wd v n get)⟩ loc) r' ds (a.put d (.slice (slBase e) n c)) w1:=by
 obtain ⟨r',_,h'⟩:=h.grow2 hnx hob hv0 hown hrows hg hbl h0 hnc hwd hdr d
 exact ⟨r',h'⟩
theorem heap_setRow_same {b:Nat} {cur us:Array Value} {t:TypeId} (hh:w.heap[b]?=some (.cells cur t (0,0))):(w.setRow b us).heap[b]?=some (.cells us t (0,0)):=setRow_heap w b cur us t (0,0) hh
structure Turn1 (b:Nat) (w w':World):Prop where
 os:w'.os=w.os
 tape:w'.tape=w.tape
 output:w'.output=w.output
 drawn:w'.drawn=w.drawn
 size:w'.heap.size=w.heap.size
 other:∀ b',b'≠b→w'.heap[b']?=w.heap[b']?
theorem FR.putO (h:FR X yl A0 sav sv env loc r ds a w) {j b:Nat} {k0:Blk} (hk0:isO k0=true) (hL:∀ k v,loc j=some k→isL k v→isL k0 v) {w':World} (hj:r j=some b) (ht:Turn1 b w w') (hnd:∀ q,w.heap[b]?=some (.deferred q)→False)
  (hm:Keeps (AR A0 r ds) (AR A0 r ds) w w'→MemR w' (AR A0 r ds) r j k0) {x:AV} {u:Value} (hx:VR w (AR A0 r ds) r x u) (d:Option Nat) :
  FR X yl A0 sav sv (putD env d x) (locE ⟨d,x,some (j,k0)⟩ loc) r ds (a.put d u) w':=by
 have hk:Keeps (AR A0 r ds) (AR A0 r ds) w w':=⟨Nat.le_of_eq ht.size.symm,fun b' _ hA=>ht.other b' (fun e=>hA (by subst e;exact .inr (.inl (.inl ⟨j,hj⟩)))),fun b h=>.inl h⟩
 refine ⟨VRs.putD (h.env.mono hk (fun _ _ h=>h)) (hx.mono hk (fun _ _ h=>h)) d,h.sav.mono hk (fun _ _ h=>h),fun i k' hi=>?_,fun i b' hi=>?_,fun i u b' hi=>?_,h.inj,h.injL,h.sep,h.dis,fun b' hi=>by rw [ht.size];exact h.lt b' hi,h.sepD,fun b' hb=>by rw [ht.size];exact h.a0 b' hb,?_,h.clo,by rw [put_defers];exact h.dfr,h.dnd,fun q hq=>⟨by rw [ht.other q (fun e=>by subst e;exact hnd _ (h.dok q hq).1)];exact (h.dok q hq).1,(h.dok q hq).2⟩,by simpa using h.ylv⟩
 ·simp only [locE] at hi
  split at hi
  ·rename_i e
   injection hi with hi;subst hi;subst e
   exact hm hk
  ·rename_i e
   refine (h.mem i k' hi).keep hk (fun _ _ h=>h) (fun b' hb'=>ht.other b' (fun e'=>?_))
   subst e'
   rcases hb' with hb' | ⟨u,hb'⟩
   ·exact e (h.inj i j _ hb' hj)
   ·exact h.sep _ _ _ _ hj hb'
 ·simp only [locE]
  by_cases e:i=j
  ·simp only [e,if_true];exact ⟨k0,rfl,hk0⟩
  ·simp only [e,if_false];exact h.dom i b' hi
 ·obtain ⟨k,hl',hle⟩:=h.domL i u b' hi
  simp only [locE]
  by_cases e:i=j
  ·subst e;simp only [if_true];exact ⟨k0,rfl,hL k u hl' hle⟩
  ·simp only [e,if_false];exact ⟨k,hl',hle⟩
 ·exact h.clo _ _ _ _ _ h.inv ⟨ht.os,ht.tape,ht.output,Nat.le_of_eq ht.size.symm,fun k _ hO=>ht.other k (fun e=>hO (by subst e;exact .inl (.inl ⟨j,hj⟩))),dle.of (Nat.le_of_eq ht.drawn.symm)⟩ (fun _ h=>.inl h)
theorem FR.storeO (h:FR X yl A0 sav sv env loc r ds a w) {j b:Nat} {k0:Blk} (hk0:isO k0=true) (hL:∀ k v,loc j=some k→isL k v→isL k0 v) {w':World} (hj:r j=some b) (ht:Turn1 b w w') (hnd:∀ q,w.heap[b]?=some (.deferred q)→False)
  (hm:Keeps (AR A0 r ds) (AR A0 r ds) w w'→MemR w' (AR A0 r ds) r j k0) (d:Option Nat) :
  FR X yl A0 sav sv (putD env d (.tup [])) (locE ⟨d,.tup [],some (j,k0)⟩ loc) r ds (a.put d undef) w':=
 h.putO hk0 hL hj ht hnd hm (.tup rfl (fun i x u hi=>by simp at hi)) d
theorem FR.putM (h:FR X yl A0 sav sv env loc r ds a w) {j b:Nat} {t:TypeId} {ag:Bool} {wd n:Nat} {get:Get AV} {es es':Array MapEntry} {c c':Nat} {k:Blk} (hj:r j=some b) (hl:loc j=some k) (hnl:∀ v,¬ isL k v) (hh:w.heap[b]?=some (.map es c)) (hbn:Born n es' c') (hes:EsR w (AR A0 r ds) ag wd n get es') {x:AV} {u:Value} (hx:VR w (AR A0 r ds) r x u) (d:Option Nat) :
  FR X yl A0 sav sv (putD env d x) (locE ⟨d,x,some (j,.map t ag wd n get)⟩ loc) r ds (a.put d u) { w with heap:=w.heap.setIfInBounds b (.map es' c') }:=
 h.putO (k0:=.map t ag wd n get) (w':={ w with heap:=w.heap.setIfInBounds b (.map es' c') }) rfl (fun k' v hk' hv=>absurd hv (by rw [hl] at hk';injection hk' with hk';subst hk';exact hnl v)) hj ⟨rfl,rfl,rfl,rfl,by simp,fun b' hne=>(MapKept.heap_set hh).2 b' hne⟩ (fun q hq=>by rw [hh] at hq;cases hq) (fun hk=>⟨b,hj,es',c',(MapKept.heap_set hh).1,hbn,es_keep hes hk⟩) hx d
theorem FR.store (h:FR X yl A0 sav sv env loc r ds a w) {j b:Nat} {t:TypeId} {cs:List AV} {cur us:Array Value} {k:Blk} (hj:r j=some b) (hl:loc j=some k) (hnl:∀ v,¬ isL k v) (hh:w.heap[b]?=some (.cells cur t (0,0))) (hc:VRs w (AR A0 r ds) r cs us) (d:Option Nat) :
  FR X yl A0 sav sv (putD env d (.tup [])) (locE ⟨d,.tup [],some (j,.flat t cs)⟩ loc) r ds (a.put d undef) (w.setRow b us):=
 h.storeO (k0:=.flat t cs) (w':=w.setRow b us) rfl (fun k' v hk' hv=>absurd hv (by rw [hl] at hk';injection hk' with hk';subst hk';exact hnl v)) hj ⟨rfl,rfl,rfl,rfl,by simp,fun b' hne=>setRow_other w b b' us hne⟩ (fun q hq=>by rw [hh] at hq;cases hq) (fun hk=>⟨b,hj,us,heap_setRow_same hh,hc.mono hk (fun _ _ h=>h)⟩) d
theorem FR.storeM (h:FR X yl A0 sav sv env loc r ds a w) {j b:Nat} {t:TypeId} {ag:Bool} {wd n:Nat} {get:Get AV} {es es':Array MapEntry} {c c':Nat} {k:Blk} (hj:r j=some b) (hl:loc j=some k) (hnl:∀ v,¬ isL k v) (hh:w.heap[b]?=some (.map es c)) (hbn:Born n es' c') (hes:EsR w (AR A0 r ds) ag wd n get es') (d:Option Nat) :
  FR X yl A0 sav sv (putD env d (.tup [])) (locE ⟨d,.tup [],some (j,.map t ag wd n get)⟩ loc) r ds (a.put d undef) { w with heap:=w.heap.setIfInBounds b (.map es' c') }:=
 h.storeO (k0:=.map t ag wd n get) (w':={ w with heap:=w.heap.setIfInBounds b (.map es' c') }) rfl (fun k' v hk' hv=>absurd hv (by rw [hl] at hk';injection hk' with hk';subst hk';exact hnl v)) hj ⟨rfl,rfl,rfl,rfl,by simp,fun b' hne=>(MapKept.heap_set hh).2 b' hne⟩ (fun q hq=>by rw [hh] at hq;cases hq) (fun hk=>⟨b,hj,es',c',(MapKept.heap_set hh).1,hbn,es_keep hes hk⟩) d
theorem FR.storeF (h:FR X yl A0 sav sv env loc r ds a w) {j b:Nat} {t:TypeId} {ks vs:List AV} {es es':Array MapEntry} {c c':Nat} {k:Blk} (hj:r j=some b) (hl:loc j=some k) (hnl:∀ v,¬ isL k v) (hh:w.heap[b]?=some (.map es c)) (hes:FmapE w (AR A0 r ds) r ks vs es') (d:Option Nat) :
  FR X yl A0 sav sv (putD env d (.tup [])) (locE ⟨d,.tup [],some (j,.fmap t ks vs)⟩ loc) r ds (a.put d undef) { w with heap:=w.heap.setIfInBounds b (.map es' c') }:=
 h.storeO (k0:=.fmap t ks vs) (w':={ w with heap:=w.heap.setIfInBounds b (.map es' c') }) rfl (fun k' v hk' hv=>absurd hv (by rw [hl] at hk';injection hk' with hk';subst hk';exact hnl v)) hj ⟨rfl,rfl,rfl,rfl,by simp,fun b' hne=>(MapKept.heap_set hh).2 b' hne⟩ (fun q hq=>by rw [hh] at hq;cases hq) (fun hk=>⟨b,es',c',hj,(MapKept.heap_set hh).1,fmapE_keep hes hk (fun _ _ h _=>h)⟩) d
theorem FR.storeP (h:FR X yl A0 sav sv env loc r ds a w) {j b:Nat} {t st:TypeId} {wd hk:Nat} {ht:TypeId} {hwd n:Nat} {get:Get AV} {hl:Nat→Nat} {hg:HG} {pend:Option (Nat × Nat)} {es es':Array MapEntry} {c c':Nat} {k:Blk} (hj:r j=some b) (hlj:loc j=some k) (hnl:∀ v,isL k v→isL (.pool t st wd hk ht hwd n get hl hg pend) v) (hh:w.heap[b]?=some (.map es c)) (hes:PoolE w (AR A0 r ds) r j st wd hk ht hwd n get hl hg pend es' c') (d:Option Nat) :
  FR X yl A0 sav sv (putD env d (.tup [])) (locE ⟨d,.tup [],some (j,.pool t st wd hk ht hwd n get hl hg pend)⟩ loc) r ds (a.put d undef) { w with heap:=w.heap.setIfInBounds b (.map es' c') }:=
 h.storeO (k0:=.pool t st wd hk ht hwd n get hl hg pend) (w':={ w with heap:=w.heap.setIfInBounds b (.map es' c') }) rfl (fun k' v hk' hv=>(by rw [hlj] at hk';injection hk' with hk';subst hk';exact hnl v hv)) hj ⟨rfl,rfl,rfl,rfl,by simp,fun b' hne=>(MapKept.heap_set hh).2 b' hne⟩ (fun q hq=>by rw [hh] at hq;cases hq)
  (fun hkk=>⟨b,es',c',hj,(MapKept.heap_set hh).1,poolE_keep hes hkk (fun _ _ h=>h) (fun _=>⟨rfl,rfl⟩) (fun b2 v hv=>(MapKept.heap_set hh).2 b2 (fun e=>h.sep _ _ _ _ hj (by rw [← e];exact hv)))⟩) d
theorem FR.putL (h:FR X yl A0 sav sv env loc r ds a w) {j b v n n' c wd:Nat} {t t':TypeId} {get get':Get AV} {xs:List Value} {w1:World} (hl:loc j=some (.list t' wd v n' get')) (hlo:r (.lo j v)=some (b+1)) (hlc:r (.lc j v)=some c) (hln:r (.ln j v)=some n)
  (hg:w.grownBy w1 (some b)) (hown:w1.ownsRow 0 t wd (.slice (some ⟨b,0,none⟩) n c) n xs) (hrows:RowsR w (AR A0 r ds) get n wd xs) (hnc:n≤c∧n≤maxL) (hwd:0<wd) (hdr:dle w w1) {x:AV} {u:Value} (hx:VR w (AR A0 r ds) r x u) (d:Option Nat) :
  FR X yl A0 sav sv (putD env d x) (locE ⟨d,x,some (j,.list t wd v n get)⟩ loc) r ds (a.put d u) w1:=by
 have hob:OwnR r b:=.inr ⟨j,v,hlo⟩
 have hk:Keeps (AR A0 r ds) (AR A0 r ds) w w1:=⟨hg.size,fun b' hlt hA=>hg.block b' hlt (fun e=>hA (by injection e with e;subst e;exact .inr (.inl hob))),fun b h=>.inl h⟩
 refine ⟨VRs.putD (h.env.mono hk (fun _ _ h=>h)) (hx.mono hk (fun _ _ h=>h)) d,h.sav.mono hk (fun _ _ h=>h),fun i k' hi=>?_,fun i b' hi=>?_,fun i u b' hi=>?_,h.inj,h.injL,h.sep,h.dis,fun b' hi=>Nat.lt_of_lt_of_le (h.lt b' hi) hg.size,h.sepD,fun b' hb=>Nat.lt_of_lt_of_le (h.a0 b' hb) hg.size,?_,h.clo,by rw [put_defers];exact h.dfr,h.dnd,fun q hq=>⟨?_,(h.dok q hq).2⟩,by simpa using h.ylv⟩
 ·simp only [locE] at hi
  split at hi
  ·rename_i e
   injection hi with hi;subst hi;subst e
   exact ⟨b+1,c,xs,hlo,hlc,hln,fun h=>by omega,hnc,hwd,hown,rows_keep hrows hk⟩
  ·rename_i e
   refine (h.mem i k' hi).keep hk (fun _ _ h=>h) (fun b' hb'=>hg.block b' (h.lt b' ?_) (fun e'=>?_))
   ·rcases hb' with hb' | ⟨u,hb'⟩
    ·exact .inl ⟨_,hb'⟩
    ·exact .inr ⟨_,_,hb'⟩
   ·injection e' with e';subst e'
    rcases hb' with hb' | ⟨u,hb'⟩
    ·exact h.sep _ _ _ _ hb' hlo
    ·exact e (h.injL _ _ _ _ _ hb' hlo)
 ·simp only [locE]
  by_cases e:i=j
  ·subst e;obtain ⟨k2,e2,e3⟩:=h.dom i b' hi;rw [hl] at e2;cases e2;cases e3
  ·simp only [e,if_false];exact h.dom i b' hi
 ·obtain ⟨k2,hl',hle⟩:=h.domL i u b' hi
  simp only [locE]
  by_cases e:i=j
  ·subst e
   rw [hl] at hl';injection hl' with hl';subst hl'
   simp only [if_true]
   exact ⟨_,rfl,hle⟩
  ·simp only [e,if_false]
   exact ⟨k2,hl',hle⟩
 ·exact h.clo _ _ _ _ _ h.inv ⟨hg.os,hg.tape,hg.output,hg.size,fun k hlt hO=>hg.block k hlt (fun e=>hO (by injection e with e;subst e;exact .inl hob)),hdr⟩ (fun _ h=>.inl h)
 ·have hq':=(h.dok q hq).1
  rw [hg.block q (Array.getElem?_eq_some_iff.1 hq').1 (fun e1=>?_)]
  ·exact hq'
  ·injection e1 with e1;subst e1
   exact h.notDfr hl hlo (by simp) hq'
theorem FR.storeL (h:FR X yl A0 sav sv env loc r ds a w) {j b v n n' c wd:Nat} {t t':TypeId} {get get':Get AV} {xs:List Value} {w1:World} (hl:loc j=some (.list t' wd v n' get')) (hlo:r (.lo j v)=some (b+1)) (hlc:r (.lc j v)=some c) (hln:r (.ln j v)=some n)
  (hg:w.grownBy w1 (some b)) (hown:w1.ownsRow 0 t wd (.slice (some ⟨b,0,none⟩) n c) n xs) (hrows:RowsR w (AR A0 r ds) get n wd xs) (hnc:n≤c∧n≤maxL) (hwd:0<wd) (hdr:dle w w1) (d:Option Nat) :
  FR X yl A0 sav sv (putD env d (.tup [])) (locE ⟨d,.tup [],some (j,.list t wd v n get)⟩ loc) r ds (a.put d undef) w1:=
 h.putL hl hlo hlc hln hg hown hrows hnc hwd hdr (.tup rfl (fun i x u hi=>by simp at hi)) d
theorem FR.turnL (h:FR X yl A0 sav sv env loc r ds a w) {j e v n c wd n':Nat} {t t':TypeId} {get get':Get AV} {xs:List Value} {w1:World} (hl:loc j=some (.list t' wd v n' get')) (hlo:r (.lo j v)=some e) (hlc:r (.lc j v)=some c) (hln:r (.ln j v)=some n)
  (hg:w.grownBy w1 (obOf e)) (hown:w1.ownsRow 0 t wd (.slice (slBase e) n c) n xs) (hrows:RowsR w (AR A0 r ds) get n wd xs) (h0:e=0→n=0∧c=0) (hnc:n≤c∧n≤maxL) (hwd:0<wd) (hdr:dle w w1) (d:Option Nat) :
  FR X yl A0 sav sv (putD env d (.tup [])) (locE ⟨d,.tup [],some (j,.list t wd v n get)⟩ loc) r ds (a.put d undef) w1:=by
 cases e with
 | succ b=>exact h.storeL hl hlo hlc hln hg hown hrows hnc hwd hdr d
 | zero=>
  have hb:∀ k,k<w.heap.size→w1.heap[k]?=w.heap[k]?:=fun k hk=>hg.block k hk (fun e=>by cases e)
  have hk:Keeps (AR A0 r ds) (AR A0 r ds) w w1:=⟨hg.size,fun b' hlt _=>hb b' hlt,fun b h=>.inl h⟩
  refine ⟨VRs.putD (h.env.mono hk (fun _ _ h=>h)) (.tup rfl (fun i x u hi=>by simp at hi)) d,h.sav.mono hk (fun _ _ h=>h),fun i k' hi=>?_,fun i b' hi=>?_,fun i u b' hi=>?_,h.inj,h.injL,h.sep,h.dis,fun b' hi=>Nat.lt_of_lt_of_le (h.lt b' hi) hg.size,h.sepD,fun b' hb=>Nat.lt_of_lt_of_le (h.a0 b' hb) hg.size,?_,h.clo,by rw [put_defers];exact h.dfr,h.dnd,fun q hq=>⟨?_,(h.dok q hq).2⟩,by simpa using h.ylv⟩
  ·simp only [locE] at hi
   split at hi
   ·rename_i e
    injection hi with hi;subst hi;subst e
    exact ⟨0,c,xs,hlo,hlc,hln,h0,hnc,hwd,hown,rows_keep hrows hk⟩
   ·exact (h.mem i k' hi).keep hk (fun _ _ h=>h) (fun b' hb'=>hb b' (h.lt b' (by
     rcases hb' with hb' | ⟨u,hb'⟩
     ·exact .inl ⟨_,hb'⟩
     ·exact .inr ⟨_,_,hb'⟩)))
  ·simp only [locE]
   by_cases e:i=j
   ·subst e;obtain ⟨k2,e2,e3⟩:=h.dom i b' hi;rw [hl] at e2;cases e2;cases e3
   ·simp only [e,if_false];exact h.dom i b' hi
  ·obtain ⟨k2,hl',hle⟩:=h.domL i u b' hi
   simp only [locE]
   by_cases e:i=j
   ·subst e
    rw [hl] at hl';injection hl' with hl';subst hl'
    simp only [if_true]
    exact ⟨_,rfl,hle⟩
   ·simp only [e,if_false]
    exact ⟨k2,hl',hle⟩
  ·exact h.clo _ _ _ _ _ h.inv ⟨hg.os,hg.tape,hg.output,hg.size,fun k hlt _=>hb k hlt,hdr⟩ (fun _ h=>.inl h)
  ·have hq':=(h.dok q hq).1
   rw [hb q (Array.getElem?_eq_some_iff.1 hq').1];exact hq'
theorem methArgs_rel {args rest cs : List AV} {vs : Array Value} {j wd : Nat} {t : TypeId} (h : FR X yl A0 sav sv env loc r ds a w) (hc : methArgs loc args = some (j, t, wd, cs, rest)) (hv : VRs w (AR A0 r ds) r args vs) :
    ∃ b uo us, vs = #[.pointer (some ⟨b, 0, none⟩)] ++ us ∧ loc j = some (.flat t cs) ∧ r (.obj j) = some b ∧ w.heap[b]? = some (.cells uo t (0, 0)) ∧ VRs w (AR A0 r ds) noR cs uo ∧ VRs w (AR A0 r ds) noR rest us := by
  unfold methArgs at hc
  split at hc
  case h_2 => cases hc
  rename_i j0 wd0 rest0
  split at hc
  case h_2 => cases hc
  rename_i t0 cs0 hl
  split at hc
  case h_2 => cases hc
  rename_i hb
  simp only [Bool.and_eq_true] at hb
  injection hc with hc
  injection hc with a1 hc; injection hc with a2 hc; injection hc with a3 hc; injection hc with a4 a5
  subst a1; subst a2; subst a3; subst a4; subst a5
  obtain ⟨b, m1, uo, m2, m3⟩ := h.mem _ _ hl
  obtain ⟨hsz, hval⟩ := hv
  have hpos : 0 < vs.size := by rw [← hsz]; simp
  have h0 := hval 0 _ _ rfl (Array.getElem?_eq_getElem hpos)
  obtain ⟨us, hus⟩ : ∃ us : Array Value, vs = #[vs[0]] ++ us := ⟨vs.extract 1 vs.size, by
    apply Array.ext'
    simp only [Array.toList_append, Array.toList_extract, List.extract_eq_take_drop]
    cases hvs : vs.toList with
    | nil => have : vs.size = 0 := by rw [← Array.length_toList, hvs]; rfl
             omega
    | cons x l =>
      have hx : vs[0] = x := by
        have : vs.toList[0]? = some x := by rw [hvs]; rfl
        rw [Array.getElem?_toList, Array.getElem?_eq_getElem hpos] at this
        injection this
      have hl' : vs.size = l.length + 1 := by rw [← Array.length_toList, hvs]; rfl
      rw [hx, hl']; simp⟩
  have hfirst : vs[0] = .pointer (some ⟨b, 0, none⟩) := by
    generalize vs[0] = z at h0
    cases h0 with
    | lptr b1 b2 =>
      rw [m1] at b1; injection b1 with b1; subst b1
      simp at b2; subst b2
      rfl
  refine ⟨b, uo, us, by rw [← hfirst]; exact hus, hl, m1, m2, m3.weaken hb.1 (fun _ h => h), ?_⟩
  have hr : VRs w (AR A0 r ds) r rest0 us := by
    have hs : us.size = rest0.length := by
      have := congrArg Array.size hus
      simp at this; simp at hsz; omega
    refine ⟨hs.symm, fun i x u hx hu => hval (i + 1) x u (by simpa using hx) ?_⟩
    rw [hus, Array.getElem?_append_right (by simp)]
    simpa using hu
  exact hr.weaken hb.2 (fun _ h => h)
theorem FR.turnO (h:FR X yl A0 sav sv env loc r ds a w) {j b:Nat} {t:TypeId} {cs cs':List AV} {uo:Array Value} {w1:World} (hl:loc j=some (.flat t cs)) (hrb:r (.obj j)=some b)
  (hT:Turn (fun k=>k=b) w w1) (hheap:w1.heap[b]?=some (.cells uo t (0,0))) (hc:VRs w1 (AR A0 r ds) noR cs' uo) {x:AV} {u:Value} (hx:VR w1 (AR A0 r ds) noR x u) (d:Option Nat) :
  FR X yl A0 sav sv (putD env d x) (locE ⟨d,x,some (j,.flat t cs')⟩ loc) r ds (a.put d u) w1:=by
 have hown:OwnR r b:=.inl ⟨j,hrb⟩
 have hbo:own r ds b:=.inl hown
 have hk:Keeps (AR A0 r ds) (AR A0 r ds) w w1:=⟨hT.size,fun k hlt hA=>hT.block k hlt (fun e=>hA (by subst e;exact .inr hbo)),fun k h=>.inl h⟩
 have hne:∀ k,k<w.heap.size→k≠b→w1.heap[k]?=w.heap[k]?:=fun k hlt e=>hT.block k hlt e
 have up:∀ (j:Key) (b:Nat),noR j=some b→r j=some b:=fun j b h=>by simp [noR] at h
 refine ⟨VRs.putD (h.env.mono hk (fun _ _ h=>h)) (hx.mono (Keeps.refl _ _) up) d,h.sav.mono hk (fun _ _ h=>h),fun i k hi=>?_,fun i c hi=>?_,fun i u c hi=>?_,h.inj,h.injL,h.sep,h.dis,fun c hc=>Nat.lt_of_lt_of_le (h.lt c hc) hT.size,h.sepD,fun c hc=>Nat.lt_of_lt_of_le (h.a0 c hc) hT.size,?_,h.clo,by rw [put_defers];exact h.dfr,h.dnd,fun q hq=>⟨?_,(h.dok q hq).2⟩,by simpa using h.ylv⟩
 ·simp only [locE] at hi
  split at hi
  ·rename_i e;injection hi with hi;subst hi;subst e
   exact ⟨b,hrb,uo,hheap,hc.mono (Keeps.refl _ _) up⟩
  ·rename_i e
   refine (h.mem i k hi).keep hk (fun _ _ h=>h) (fun c hc=>hne c (h.lt c (by
    rcases hc with hc | ⟨u',hc⟩
    ·exact .inl ⟨_,hc⟩
    ·exact .inr ⟨_,_,hc⟩)) (fun e'=>?_))
   subst e'
   rcases hc with hc | ⟨u',hc⟩
   ·exact e (h.inj i j _ hc hrb)
   ·exact h.sep _ _ _ _ hrb hc
 ·simp only [locE]
  by_cases e:i=j
  ·rw [if_pos e];exact ⟨_,rfl,rfl⟩
  ·rw [if_neg e];exact h.dom i c hi
 ·obtain ⟨k,hl',hle⟩:=h.domL i u c hi
  simp only [locE]
  by_cases e:i=j
  ·subst e
   rw [hl] at hl';injection hl' with hl';subst hl'
   exact hle.elim
  ·rw [if_neg e];exact ⟨k,hl',hle⟩
 ·exact h.clo _ _ _ _ _ h.inv ⟨hT.os,hT.tape,hT.output,hT.size,fun k hlt hn=>hne k hlt (fun e=>hn (by subst e;exact hbo)),hT.drawn⟩ (fun _ h=>.inl h)
 ·rw [hne q (Array.getElem?_eq_some_iff.1 (h.dok q hq).1).1 (fun e=>h.sepD b hown (by rw [← e];exact hq))]
  exact (h.dok q hq).1
theorem turnArgs_rel {args rest : List AV} {vs : Array Value} {j wd v n : Nat} {t : TypeId} {g : Get AV} (h : FR X yl A0 sav sv env loc r ds a w) (hc : turnArgs loc args = some (j, t, wd, v, n, g, rest)) (hv : VRs w (AR A0 r ds) r args vs) :
    ∃ e c xs us, vs = #[.slice (slBase e) n c] ++ us ∧ loc j = some (.list t wd v n g) ∧ r (.lo j v) = some e ∧ r (.lc j v) = some c ∧ r (.ln j v) = some n ∧ (e = 0 → n = 0 ∧ c = 0) ∧ (n ≤ c ∧ n ≤ maxL) ∧ 0 < wd ∧
      w.ownsRow 0 t wd (.slice (slBase e) n c) n xs ∧ RowsR w (AR A0 r ds) g n wd xs ∧ VRs w (AR A0 r ds) noR rest us := by
  unfold turnArgs at hc
  split at hc
  · rename_i j0 v0 n0 rest0
    split at hc
    · rename_i t0 wd0 v1 n1 g0 hl
      split at hc
      · rename_i hb
        simp only [Bool.and_eq_true] at hb
        have e1 := Nat.eq_of_beq_eq_true hb.1; subst e1
        injection hc with hc
        injection hc with a1 hc; injection hc with a2 hc; injection hc with a3 hc; injection hc with a4 hc; injection hc with a5 hc; injection hc with a6 a7
        subst a1; subst a2; subst a3; subst a4; subst a5; subst a6; subst a7
        obtain ⟨e, c, xs, m1, m2, m3, m4, m5, m6, m7, m8⟩ := h.mem _ _ hl
        obtain ⟨hsz, hval⟩ := hv
        have hpos : 0 < vs.size := by rw [← hsz]; simp
        have h0 := hval 0 _ _ rfl (Array.getElem?_eq_getElem hpos)
        obtain ⟨us, hus⟩ : ∃ us : Array Value, vs = #[vs[0]] ++ us := ⟨vs.extract 1 vs.size, by
          apply Array.ext'
          simp only [Array.toList_append, Array.toList_extract, List.extract_eq_take_drop]
          cases hvs : vs.toList with
          | nil => have : vs.size = 0 := by rw [← Array.length_toList, hvs]; rfl
                   omega
          | cons x l =>
            have hx : vs[0] = x := by
              have : vs.toList[0]? = some x := by rw [hvs]; rfl
              rw [Array.getElem?_toList, Array.getElem?_eq_getElem hpos] at this
              injection this
            have hl' : vs.size = l.length + 1 := by rw [← Array.length_toList, hvs]; rfl
            rw [hx, hl']; simp⟩
        have hfirst : vs[0] = .slice (slBase e) n1 c := by
          generalize vs[0] = z at h0
          cases h0 with
          | osl b1 b2 b3 b4 b5 =>
            rw [m1] at b1; injection b1 with b1; subst b1
            rw [m2] at b2; injection b2 with b2; subst b2
            rw [m3] at b3; injection b3 with b3; subst b3
            rfl
        refine ⟨e, c, xs, us, by rw [← hfirst]; exact hus, hl, m1, m2, m3, m4, m5, m6, m7, m8, ?_⟩
        have hr : VRs w (AR A0 r ds) r rest0 us := by
          have hs : us.size = rest0.length := by
            have := congrArg Array.size hus
            simp at this; simp at hsz; omega
          refine ⟨hs.symm, fun i x u hx hu => hval (i + 1) x u (by simpa using hx) ?_⟩
          rw [hus, Array.getElem?_append_right (by simp)]
          simpa using hu
        exact hr.weaken hb.2 (fun _ h => h)
      · simp at hc
    · simp at hc
  · simp at hc
theorem opRes_notDefer {loc:Nat→Option Blk} {p:Operand→Option AV} {nx:Nat} {o:Oper} {x:Bool × Res} (h:opRes P p loc nx o=some x):∀ c,o.op≠.defer c:=by
 intro c e
 simp [opRes,native,e,byCalm,notSelect] at h
theorem wf_depth (ro:Option Nat):(WF ro).depth=none:=rfl
theorem callArgs_rel {args args':List AV} {vs:Array Value} {ex:Bool} (h:FR X yl A0 sav sv env loc r ds a w) (hc:callArgs loc args=some (ex,args')) (hv:VRs w (AR A0 r ds) r args vs) :
  ∃ A',(ex=false→A'=AR A0 r ds)∧(∀ b,A' b→b<w.heap.size)∧VRs w A' noR args' vs:=by
 unfold callArgs at hc
 split at hc
 ·rename_i hn
  injection hc with hc;injection hc with h1 h2;subst h1;subst h2
  exact ⟨AR A0 r ds,fun _=>rfl,h.arLt,hv.weaken hn (fun b h=>h)⟩
 ·split at hc
  ·rename_i xs hx
   injection hc with hc;injection hc with h1 h2;subst h1;subst h2
   exact ⟨noA,fun e=>by simp at e,fun b hb=>hb.elim,expAlls_rel h.mem (fun b hb=>hb.elim) (fun _ _ _ b _ hb=>hb.elim) hx hv⟩
  ·simp at hc
theorem op_wp {o:Oper} {nx:Nat} {e:Eff} {res:Res} {ro:Option Nat} {n:Nat} {K:Act→World→Prop} {Q:Exit→Act→World→Prop} (hcl:∀ f args v,cl f args=some v→CC P f args v) (hgd:∀ A0 O w,X A0 O w→GOK P w)
  (hfr:FR X yl A0 sav sv env loc r ds a w) (hnx:∀ b v f t ar,res=.alloc b v∨res=.grow nx b v∨res=.fresh f t ar→loc nx=none) (hres:opRes P (evO env) loc nx o=some (true,res)) (he:effR cl loc nx o res=some e)
  (hK:∀ r' a' w',FR X yl A0 sav sv (putD env e.dst e.v) (locE e loc) r' ds a' w'→K a' w'):o.wpIn (WF ro) n P a w K Q:=by
 have hdoes:=opRes_sound hfr.cx hres
 refine ⟨fun f _=>trivial,?_⟩
 rw [Oper.semAt_eq _ _ _ (opRes_notDefer hres)]
 cases res with
 | val x=>
  obtain ⟨v,hrun,hv⟩:=hdoes
  simp only [effR] at he
  injection he with he;subst he
  rw [hrun,Oper.uponIn_value]
  exact hK _ _ _ (hfr.val (Bel.refl _ _) hv o.dst)
 | grow j b x=>
  cases b with
  | flat t cs=>exact hdoes.elim
  | map t ag wd n get=>exact hdoes.elim
  | fmap t ks vs=>exact hdoes.elim
  | pool t st wd hk ht hwd n get hl hg pend=>exact hdoes.elim
  | iter m seen=>exact hdoes.elim
  | gone=>exact hdoes.elim
  | list t wd v n get=>
   obtain ⟨hx,ob,e',c,xs,w1,h1,h2,hrun,h3,h4,h5,h6,h7,h8,h9⟩:=hdoes
   subst hx
   simp only [effR] at he
   injection he with he;subst he
   rw [hrun,Oper.uponIn_value]
   obtain ⟨r',h'⟩:=hfr.grow (fun e=>by subst e;exact hnx _ _ 0 0 [] (.inr (.inl rfl))) h1 h2 h3 h4 h5 h6 h7 h8 h9 (dle.of (run_drawn P _ _ _ _ hrun)) o.dst
   exact hK _ _ _ h'
 | alloc b x=>
  cases b with
  | list t wd v n get=>exact hdoes.elim
  | gone=>exact hdoes.elim
  | iter m seen=>
   obtain ⟨e1,v,bm,n,g,hrun,hm,hit,hv⟩:=hdoes
   subst e1
   simp only [effR] at he
   injection he with he;subst he
   rw [hrun,Oper.uponIn_value]
   obtain ⟨r',h'⟩:=hfr.allocI (hnx _ _ 0 0 [] (.inl rfl)) hm hit hv o.dst
   exact hK _ _ _ h'
  | fmap t ks vs=>
   obtain ⟨e1,e2,v,hrun,hv⟩:=hdoes
   subst e1;subst e2
   simp only [effR] at he
   injection he with he;subst he
   rw [hrun,Oper.uponIn_value]
   obtain ⟨r',h'⟩:=hfr.allocF (hnx _ _ 0 0 [] (.inl rfl)) hv o.dst
   exact hK _ _ _ h'
  | pool t st wd hk ht hwd n get hl hg pend=>
   obtain ⟨⟨e1,e2,e3,e4⟩,v,hrun,hv⟩:=hdoes
   subst e1;subst e2
   simp only [effR] at he
   injection he with he;subst he
   rw [hrun,Oper.uponIn_value]
   obtain ⟨r',h'⟩:=hfr.allocP (hnx _ _ 0 0 [] (.inl rfl)) e3 e4 hv o.dst
   exact hK _ _ _ h'
  | map t ag wd n get=>
   obtain ⟨hn0,v,hrun,hv⟩:=hdoes
   subst hn0
   simp only [effR] at he
   injection he with he;subst he
   rw [hrun,Oper.uponIn_value]
   obtain ⟨r',h'⟩:=hfr.allocM (hnx _ _ 0 0 [] (.inl rfl)) hv o.dst
   exact hK _ _ _ h'
  | flat t cs=>
   obtain ⟨us,v,hrun,hc,hv⟩:=hdoes
   simp only [effR] at he
   injection he with he;subst he
   rw [hrun,Oper.uponIn_value]
   obtain ⟨r',h'⟩:=hfr.alloc (hnx _ _ 0 0 [] (.inl rfl)) hc hv o.dst
   exact hK _ _ _ h'
 | store j b=>
  cases b with
  | list t wd v n get=>
   obtain ⟨t',n',get',b,c,xs,w1,h1,h2,h3,h4,hrun,h5,h6,h7,h8,h9⟩:=hdoes
   simp only [effR] at he
   injection he with he;subst he
   rw [hrun,Oper.uponIn_skip]
   exact hK _ _ _ (hfr.storeL h1 h2 h3 h4 h5 h6 h7 h8 h9 (dle.of (run_drawn P _ _ _ _ hrun)) o.dst)
  | map t ag wd n get=>
   obtain ⟨b,es,c,es',c',k,hj,hl,_,hnl,hh,hrun,hbn,hes⟩:=hdoes
   simp only [effR] at he
   injection he with he;subst he
   rw [hrun,Oper.uponIn_skip]
   exact hK _ _ _ (hfr.storeM hj hl hnl hh hbn hes o.dst)
  | fmap t ks vs=>
   obtain ⟨b,es,c,es',c',k,hj,hl,_,hnl,hh,hrun,hes⟩:=hdoes
   simp only [effR] at he
   injection he with he;subst he
   rw [hrun,Oper.uponIn_skip]
   exact hK _ _ _ (hfr.storeF hj hl hnl hh hes o.dst)
  | pool t st wd hk ht hwd n get hl' hg pend=>
   obtain ⟨b,es,c,es',c',k,hj,hl,_,hnl,hh,hrun,hes⟩:=hdoes
   simp only [effR] at he
   injection he with he;subst he
   rw [hrun,Oper.uponIn_skip]
   exact hK _ _ _ (hfr.storeP hj hl hnl hh hes o.dst)
  | iter m seen=>exact hdoes.elim
  | gone=>exact hdoes.elim
  | flat t cs=>
   obtain ⟨b,cur,us,k,hj,hl,hnl,hh,hrun,hc⟩:=hdoes
   simp only [effR] at he
   injection he with he;subst he
   rw [hrun,Oper.uponIn_skip]
   exact hK _ _ _ (hfr.store hj hl hnl hh hc o.dst)
 | put j b x=>
  cases b with
  | flat t cs=>exact hdoes.elim
  | map t ag wd n get=>
   obtain ⟨b,es,c,es',c',k,u,hj,hl,_,hnl,hh,hrun,hx,hbn,hes⟩:=hdoes
   simp only [effR] at he
   injection he with he;subst he
   rw [hrun,Oper.uponIn_value]
   exact hK _ _ _ (hfr.putM hj hl hnl hh hbn hes hx o.dst)
  | fmap t ks vs=>exact hdoes.elim
  | pool t st wd hk ht hwd n get hl hg pend=>exact hdoes.elim
  | iter m seen=>exact hdoes.elim
  | gone=>exact hdoes.elim
  | list t wd v n get=>
   obtain ⟨t',n',get',b,c,xs,u,w1,h1,h2,h3,h4,hrun,hx,h5,h6,h7,h8,h9⟩:=hdoes
   simp only [effR] at he
   injection he with he;subst he
   rw [hrun,Oper.uponIn_value]
   exact hK _ _ _ (hfr.putL h1 h2 h3 h4 h5 h6 h7 h8 h9 (dle.of (run_drawn P _ _ _ _ hrun)) hx o.dst)
 | call f args=>
  obtain ⟨vs,hrun,hvs⟩:=hdoes
  simp only [effR] at he
  split at he
  ·rename_i ex args' hca
   split at he
   ·rename_i x hx
    split at he
    ·simp at he
    ·rename_i hpl
     injection he with he;subst he
     rw [hrun,Oper.uponIn_enter]
     refine ⟨fun h=>by simp [wf_depth] at h,?_⟩
     obtain ⟨A',h1,h2,h3⟩:=callArgs_rel hfr hca hvs
     refine ((hcl f args' x hx).pc (callArgs_plain hca) ro (n - 1) A' w vs (hgd _ _ _ hfr.inv) h2 h3).mono ?_
     rintro e' w' ⟨v,rfl,hv,hb⟩
     refine hK _ _ _ (hfr.val hb ?_ o.dst)
     cases ex with
     | false=>
      rw [h1 rfl] at hv
      exact hv.mono (Keeps.refl _ _) (fun j b h=>by simp [noR] at h)
     | true=>
      simp at hpl
      exact plainR_any hpl hv
   ·simp at he
  ·simp at he
 | turn f args=>
  obtain ⟨vs,hrun,hvs⟩:=hdoes
  simp only [effR] at he
  split at he
  case h_2=>
   split at he
   case h_2=>simp at he
   rename_i j t wd cs rest hma
   split at he
   case h_2=>simp at he
   rename_i cs' u0 hx
   injection he with he;subst he
   rw [hrun,Oper.uponIn_enter]
   refine ⟨fun h=>by simp [wf_depth] at h,?_⟩
   obtain ⟨b,uo,us,rfl,m0,m1,m2,m3,m4⟩:=methArgs_rel hfr hma hvs
   have hbo:own r ds b:=.inl (.inl ⟨j,m1⟩)
   have hc:OC P f t cs cs' rest u0:=hcl _ _ _ hx
   refine (hc ro (n - 1) _ w b uo us (fun w' ht=>hgd _ _ _ (hfr.clo _ _ (own r ds) _ _ hfr.inv ⟨ht.os,ht.tape,ht.output,ht.size,fun k hk hn=>ht.block k hk (fun e=>hn (by subst e;exact hbo)),ht.drawn⟩ (fun b hb=>.inl hb))) hfr.arLt (.inr hbo) m2 m3 m4).mono ?_
   rintro e' w' ⟨u,uo',rfl,k1,k2,k3,k4⟩
   exact hK _ _ _ (hfr.turnO m0 m1 k4 k1 k2 k3 o.dst)
  rename_i j t wd v n0 g rest hta
  split at he
  case h_2=>simp at he
  rename_i wd' m' g' r1 r2 r3 hx
  split at he
  case h_2=>simp at he
  rename_i hfull
  injection he with he;subst he
  rw [hrun,Oper.uponIn_enter]
  refine ⟨fun h=>by simp [wf_depth] at h,?_⟩
  obtain ⟨e1,c,xs,us,rfl,m0,m1,m2,m3,m4,m5,m6,m7,m8,m9⟩:=turnArgs_rel hfr hta hvs
  have hc:MC P f wd n0 g g' rest:=hcl _ _ _ hx
  refine (hc ro (n - 1) _ w t e1 c xs us (fun w' h1 h2=>hgd _ _ _ (hfr.clo _ _ (own r ds) _ _ hfr.inv ⟨h1.os,h1.tape,h1.output,h1.size,fun b hb hn=>h1.block b hb (fun he=>hn (by cases e1 with | zero=>cases he | succ k=>simp only [obOf,Option.some.injEq] at he;subst he;exact .inl (.inr ⟨_,_,m1⟩))),h2⟩ (fun b hb=>.inl hb))) hfr.arLt (fun b hb=>by subst hb;exact .inr (.inl (.inr ⟨_,_,m1⟩))) m4 m5 m6 m7 m8 m9).mono ?_
  rintro e' w' ⟨rfl,rows',⟨k1,kd⟩,k2,k3⟩
  exact hK _ _ _ (hfr.turnL m0 m1 m2 m3 k1 k2 (rows_any hfull k3) m4 m5 m6 kd o.dst)
 | fresh f t args=>
  obtain ⟨vs,hrun,hvs⟩:=hdoes
  simp only [effR] at he
  split at he
  case h_2=>simp at he
  rename_i ex args' hca
  split at he
  case h_2=>simp at he
  rename_i wd n0 g r1 r2 r3 hx
  split at he
  case h_2=>simp at he
  rename_i hfull
  injection he with he;subst he
  rw [hrun,Oper.uponIn_enter]
  refine ⟨fun h=>by simp [wf_depth] at h,?_⟩
  obtain ⟨A',_,h2,h3⟩:=callArgs_rel hfr hca hvs
  have hc:FC P f t args' wd n0 g:=hcl _ _ _ hx
  refine (hc ro (n - 1) A' w vs (hgd _ _ _ hfr.inv) h2 h3).mono ?_
  rintro e' w' ⟨e1,c,rows,rfl,k1,k2,k3,k4,k5,k6,k7⟩
  obtain ⟨r',h'⟩:=hfr.grow (nx:=nx) (j:=nx) (v:=0) (ob:=none) (fun _=>hnx default default f t args (.inr (.inr rfl))) (fun b hb=>by cases hb) (.inl ⟨rfl,rfl⟩) k5 (rows_any hfull k6) ⟨k7.os,k7.tape,k7.output,k7.size,fun b hb _=>k7.block b hb⟩ (fun b hb=>.inr (k1 b hb)) k2 k3 k4 k7.drawn o.dst
  exact hK _ _ _ h'
theorem wantD_true {ops:Array Oper} {o:Oper} {b:Bool} (hfr:FR X yl A0 sav sv env loc r ds a w) (h:wantD ops env o=some b):Region.wanted o (yielded ops a.tmps)=b:=by
 unfold wantD at h
 unfold Region.wanted
 split at h
 ·rename_i hg
  injection h with h;subst h
  simp [hg]
 ·rename_i j want hg
  simp only [hg]
  split at h
  ·rename_i oj hoj
   split at h
   ·rename_i d hd
    split at h
    ·rename_i t ht
     injection h with h;subst h
     obtain ⟨u,hu,hr⟩:=hfr.env.get ht
     cases hr
     simp [yielded,hoj,hd,hu]
    ·rename_i ht
     injection h with h;subst h
     obtain ⟨u,hu,hr⟩:=hfr.env.get ht
     cases hr with
     | tup h1 h2=>simp [yielded,hoj,hd,hu]
    ·simp at h
   ·simp at h
  ·simp at h
theorem undef_rel {A:Nat→Prop}:VR w A r (.tup []) undef:=.tup rfl (fun i x u hi=>by simp at hi)
theorem op_step {ops:Array Oper} {o:Oper} {nx:Nat} {e:Eff} {ro:Option Nat} {n:Nat} {K:Act→World→Prop} {Q:Exit→Act→World→Prop} (hcl:∀ f args v,cl f args=some v→CC P f args v) (hgd:∀ A0 O w,X A0 O w→GOK P w)
  (hfr:FR X yl A0 sav sv env loc r ds a w) (hnx:∀ c b v f t ar,opRes P (evO env) loc nx o=some (c,.alloc b v)∨opRes P (evO env) loc nx o=some (c,.grow nx b v)∨opRes P (evO env) loc nx o=some (c,.fresh f t ar)→loc nx=none) (he:effOf P cl ops env loc nx o=some e)
  (hK:∀ r' a' w',FR X yl A0 sav sv (putD env e.dst e.v) (locE e loc) r' ds a' w'→K a' w') :
  if Region.wanted o (yielded ops a.tmps) then o.wpIn (WF ro) n P a w K Q else (∀ f,o.about P w a.eval=some f→(WF ro).fn f)∧K (a.put o.dst undef) w:=by
 unfold effOf at he
 split at he
 ·rename_i hw
  rw [if_pos (wantD_true hfr hw)]
  split at he
  ·rename_i res hres
   exact op_wp hcl hgd hfr (fun b v f t ar e=>hnx true b v f t ar (by rcases e with e | e | e<;>simp [hres,e])) hres he hK
  ·simp at he
 ·rename_i hw
  rw [if_neg (by rw [wantD_true hfr hw];simp)]
  injection he with he;subst he
  exact ⟨fun f _=>trivial,hK _ _ _ (hfr.val (Bel.refl _ _) undef_rel o.dst)⟩
 ·simp at he
end
end Go.Proofs.YtkpligkggnjcoaaGreatDoor.Ev
