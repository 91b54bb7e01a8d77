/- Parts of the proof, one behind the other: EvA, EvB, EvC, EvD. No conditions. -/
import Derived.OrdersIn
import Derived.RangeFuncIn
import Derived.Below
import Derived.Laws.Cells
import Derived.Laws.CopyRow
import Derived.Great.FillDense
import Derived.Laws.StructEq
import Derived.Laws.OwnMore
/-! EvA -/
namespace Go.Proofs.YtkpligkggnjcoaaGreatDoor.Ev
open Go.RowKit
inductive SK where
 | int (k:IntKind)
 | bool
 | str
 | sl (wd:Nat) (ks:List SK)
inductive CK where
 | int (k:IntKind)
 | bool
 | str
 | sl (wd:Nat) (ks:List SK)
 | any
 deriving Inhabited
structure Get (α:Type) where
 tag:List CK
 f:Nat→Nat→α
 deriving Inhabited
inductive Key where
 | yl
 | obj (j:Nat)
 | lo (j v:Nat)
 | lc (j v:Nat)
 | ln (j v:Nat)
 deriving DecidableEq
instance:Coe Nat Key:=⟨.obj⟩
inductive AV where
 | int (k:IntKind) (n:Int)
 | bool (b:Bool)
 | str (l:List UInt8)
 | nilptr
 | lptr (j wd row col:Nat)
 | xptr (wd n:Nat) (get:Get AV) (row col:Nat)
 | nilsl
 | osl (j v n:Nat)
 | oss (j v wd row len:Nat)
 | optr (j v wd row col:Nat)
 | lsl (j wd row col len:Nat) (cap:Option Nat)
 | xsl (wd n:Nat) (get:Get AV) (row len:Nat) (cap:Option Nat)
 | fn (f:Fn) (first captured:List AV)
 | nilfn
 | yv
 | nilif
 | errif
 | nilmp
 | mp (j:Nat)
 | xmp (ag:Bool) (wd n:Nat) (get:Get AV)
 | xpool (wd hk hwd n:Nat) (get:Get AV) (hl:Nat→Nat) (ht:List CK) (hf:Nat→Nat→Nat→AV)
 | agg (cs:List AV)
 | tup (vs:List AV)
 | top
 deriving Inhabited
abbrev Rr:=Key→Option Nat
def slBase (e:Nat):Option Addr:=match e with
 | 0=>none
 | b+1=>some ⟨b,0,none⟩
def numOf:AV→Int
 | .int _ n=>n
 | _=>0
def truthOf:AV→Bool
 | .bool b=>b
 | _=>false
def textOf:AV→List UInt8
 | .str l=>l
 | _=>[]
def skOf:List CK→Option (List SK)
 | []=>some []
 | .int k :: l=>match skOf l with
  | some ks=>some (.int k :: ks)
  | none=>none
 | .bool :: l=>match skOf l with
  | some ks=>some (.bool :: ks)
  | none=>none
 | .str :: l=>match skOf l with
  | some ks=>some (.str :: ks)
  | none=>none
 | .sl wd m :: l=>match skOf l with
  | some ks=>some (.sl wd m :: ks)
  | none=>none
 | .any :: _=>none
mutual
def skEq:SK→SK→Bool
 | .int a,.int b=>decide (a=b)
 | .bool,.bool=>true
 | .str,.str=>true
 | .sl a ks,.sl b ms=>Nat.beq a b&&skLEq ks ms
 | _,_=>false
def skLEq:List SK→List SK→Bool
 | [],[]=>true
 | a :: l,b :: m=>skEq a b&&skLEq l m
 | _,_=>false
end
mutual
theorem skEq_eq:∀ (a b:SK),skEq a b=true→a=b
 | .int a,.int b,h=>by simp [skEq] at h;rw [h]
 | .bool,.bool,_=>rfl
 | .str,.str,_=>rfl
 | .sl a ks,.sl b ms,h=>by
  simp only [skEq,Bool.and_eq_true] at h
  rw [Nat.eq_of_beq_eq_true h.1,skLEq_eq ks ms h.2]
 | .int _,.bool,h=>by simp [skEq] at h
 | .int _,.str,h=>by simp [skEq] at h
 | .int _,.sl _ _,h=>by simp [skEq] at h
 | .bool,.int _,h=>by simp [skEq] at h
 | .bool,.str,h=>by simp [skEq] at h
 | .bool,.sl _ _,h=>by simp [skEq] at h
 | .str,.int _,h=>by simp [skEq] at h
 | .str,.bool,h=>by simp [skEq] at h
 | .str,.sl _ _,h=>by simp [skEq] at h
 | .sl _ _,.int _,h=>by simp [skEq] at h
 | .sl _ _,.bool,h=>by simp [skEq] at h
 | .sl _ _,.str,h=>by simp [skEq] at h
theorem skLEq_eq:∀ (a b:List SK),skLEq a b=true→a=b
 | [],[],_=>rfl
 | a :: l,b :: m,h=>by
  simp only [skLEq,Bool.and_eq_true] at h
  rw [skEq_eq a b h.1,skLEq_eq l m h.2]
 | [],b :: m,h=>by simp [skLEq] at h
 | a :: l,[],h=>by simp [skLEq] at h
end
mutual
theorem skEq_refl:∀ a:SK,skEq a a=true
 | .int a=>by simp [skEq]
 | .bool=>rfl
 | .str=>rfl
 | .sl a ks=>by simp [skEq,skLEq_refl ks]
theorem skLEq_refl:∀ l:List SK,skLEq l l=true
 | []=>rfl
 | a :: l=>by simp [skLEq,skEq_refl a,skLEq_refl l]
end
def skIs:List CK→List SK→Bool
 | [],[]=>true
 | .int k :: l,.int m :: ks=>decide (k=m)&&skIs l ks
 | .bool :: l,.bool :: ks=>skIs l ks
 | .str :: l,.str :: ks=>skIs l ks
 | .sl a x :: l,.sl b y :: ks=>(Nat.beq a b&&skLEq x y)&&skIs l ks
 | _,_=>false
theorem skIs_of:∀ {l:List CK} {ks:List SK},skOf l=some ks→skIs l ks=true
 | [],ks,h=>by simp [skOf] at h;subst h;rfl
 | c :: l,ks,h=>by
  cases c<;>simp only [skOf] at h<;>(try cases h)
  all_goals
   split at h
   ·rename_i ms hm
    injection h with h;subst h
    simp [skIs,skIs_of hm,skLEq_refl]
   ·cases h
def slN:AV→Nat
 | .xsl _ n _ _ _ _=>n
 | _=>0
def slF:AV→Nat→Nat→AV
 | .xsl _ _ g _ _ _=>g.f
 | _=>fun _ _=>.top
def slRow:AV→Nat
 | .xsl _ _ _ row _ _=>row
 | _=>0
def slLen:AV→Nat
 | .xsl _ _ _ _ len _=>len
 | _=>0
def slCap:AV→Option Nat
 | .xsl _ _ _ _ _ cap=>cap
 | _=>none
def ckOf:List SK→List CK
 | []=>[]
 | .int k :: l=>.int k :: ckOf l
 | .bool :: l=>.bool :: ckOf l
 | .str :: l=>.str :: ckOf l
 | .sl a x :: l=>.sl a x :: ckOf l
theorem ckOf_is:∀ {l:List CK} {ks:List SK},skIs l ks=true→ckOf ks=l
 | [],[],_=>rfl
 | c :: l,k :: ks,h=>by
  cases c<;>cases k<;>simp only [skIs,Bool.and_eq_true,decide_eq_true_eq] at h<;>try (cases h;done)
  ·rw [ckOf,ckOf_is h.2,h.1]
  ·rw [ckOf,ckOf_is h]
  ·rw [ckOf,ckOf_is h]
  ·rw [ckOf,ckOf_is h.2,Nat.eq_of_beq_eq_true h.1.1,skLEq_eq _ _ h.1.2]
 | [],_ :: _,h=>by simp [skIs] at h
 | _ :: _,[],h=>by simp [skIs] at h
def sliceOf (wd:Nat) (ks:List SK) (x:AV):AV:=.xsl wd (slN x) ⟨ckOf ks,slF x⟩ (slRow x) (slLen x) (slCap x)
def conf:CK→AV→AV
 | .int k,x=>.int k (numOf x)
 | .bool,x=>.bool (truthOf x)
 | .str,x=>.str (textOf x)
 | .sl wd ks,x=>sliceOf wd ks x
 | .any,x=>x
def ckAt:List CK→Nat→CK
 | [],_=>.any
 | c :: _,0=>c
 | _ :: cs,k+1=>ckAt cs k
def Get.cell (g:Get AV) (i k:Nat):AV:=conf (ckAt g.tag k) (g.f i k)
instance:CoeFun (Get AV) (fun _=>Nat→Nat→AV):=⟨Get.cell⟩
def noR:Rr:=fun _=>none
def maxL:Nat:=9223372036854775807
def clampL (n:Nat):Nat:=if n≤maxL then n else maxL
theorem clampL_eq {n:Nat} (h:n≤maxL):clampL n=n:=if_pos h
theorem clampL_le (n:Nat):clampL n≤9223372036854775807:=by
 unfold clampL maxL;split<;>omega
theorem clampL_le' (n:Nat):clampL n≤n:=by
 unfold clampL;split<;>omega
def valOf (ag:Bool) (wd:Nat) (u:Nat→Value):Value:=match ag with
 | true=>.agg ((Array.range (wd - 1)).map fun k=>u (k+1))
 | false=>u 1
def EntryIs (ag:Bool) (wd:Nat) (u:Nat→Value) (e:Option MapEntry):Prop:=∃ x,e=some x∧x.key=u 0∧x.val=valOf ag wd u
def memTags (l:List CK) (wd hk:Nat):List CK:=(List.range wd).map fun k=>match Nat.beq k hk with
 | true=>.any
 | false=>ckAt l (k+1)
def poolG (g:Get AV) (wd hk hwd:Nat) (hl:Nat→Nat) (ht:List CK) (hf:Nat→Nat→Nat→AV):Get AV:=⟨[ckAt g.tag 0,.any],fun i k=>match k with
 | 0=>g.f i 0
 | _+1=>.xptr wd 1 ⟨memTags g.tag wd hk,fun _ k=>match Nat.beq k hk with
  | true=>.xsl hwd (hl i) ⟨ht,hf i⟩ 0 (hl i) none
  | false=>g.f i (k+1)⟩ 0 0⟩
def Born (n:Nat) (es:Array MapEntry) (clock:Nat):Prop:=clock=n∧∀ (i:Nat) x,es[i]?=some x→x.born=i
inductive VR (w:World) (A:Nat→Prop):(Rr)→AV→Value→Prop
 | top {r:Rr} {v:Value}:VR w A r .top v
 | int {r:Rr} {k:IntKind} {n:Int}:VR w A r (.int k n) (.int k n)
 | bool {r:Rr} {b:Bool}:VR w A r (.bool b) (.bool b)
 | str {r:Rr} {l:List UInt8}:VR w A r (.str l) (.string ⟨l.toArray⟩)
 | nilptr {r:Rr}:VR w A r .nilptr (.pointer none)
 | lptr {r:Rr} {j wd row col b off:Nat} (h:r j=some b) (ho:off=row * wd+col):VR w A r (.lptr j wd row col) (.pointer (some ⟨b,off,none⟩))
 | xptr {r:Rr} {wd n row col b o off:Nat} {get:Get AV} (u:Nat→Nat→Value) (hb:b<w.heap.size) (hA:¬ A b)
   (hc:∀ i k,i<n→k<wd→w.cell? ⟨b,o+(i * wd+k),none⟩=some (u i k)) (hv:∀ i k,i<n→k<wd→VR w A noR (get i k) (u i k))
   (ho:off=o+(row * wd+col)) (hrow:row<n):VR w A r (.xptr wd n get row col) (.pointer (some ⟨b,off,none⟩))
 | nilsl {r:Rr}:VR w A r .nilsl (.slice none 0 0)
 | osl {r:Rr} {j v n e c:Nat} (he:r (.lo j v)=some e) (hc:r (.lc j v)=some c) (hn:r (.ln j v)=some n) (h0:e=0→n=0∧c=0) (hl:n≤c∧n≤maxL):VR w A r (.osl j v n) (.slice (slBase e) n c)
 | oss {r:Rr} {j v wd row len n c cf:Nat} {a:Option Addr} (hn:r (.ln j v)=some n) (h:row+len≤n) (hl:len≤c∧len≤maxL) (ha:row<n→∃ b,r (.lo j v)=some (b+1)∧a=some ⟨b,row * wd,none⟩) (hcf:r (.lc j v)=some cf∧row+c=cf∧n≤cf) :
   VR w A r (.oss j v wd row len) (.slice a len c)
 | optr {r:Rr} {j v wd row col n b off:Nat} (h:r (.lo j v)=some (b+1)) (hn:r (.ln j v)=some n) (hrow:row<n) (ho:off=row * wd+col):VR w A r (.optr j v wd row col) (.pointer (some ⟨b,off,none⟩))
 | lsl {r:Rr} {j wd row col b off len c:Nat} {cap:Option Nat} (h:r j=some b) (ho:off=row * wd+col) (hl:len≤c∧len≤maxL) (hcap:∀ x,cap=some x→c=x) :
   VR w A r (.lsl j wd row col len cap) (.slice (some ⟨b,off,none⟩) len c)
 | xsl {r:Rr} {wd n row len c:Nat} {cap:Option Nat} {a:Option Addr} {get:Get AV} (b o:Nat) (u:Nat→Nat→Value) (hl:len≤c∧len≤maxL) (hcap:∀ x,cap=some x→c=x) (hn:row+len≤n)
   (ha:0<len→a=some ⟨b,o+row * wd,none⟩∧b<w.heap.size∧¬ A b)
   (hc:0<len→∀ i k,i<n→k<wd→w.cell? ⟨b,o+(i * wd+k),none⟩=some (u i k))
   (hv:0<len→∀ i k,i<n→k<wd→VR w A noR (get i k) (u i k)):VR w A r (.xsl wd n get row len cap) (.slice a len c)
 | fn {r:Rr} {f:Fn} {xs ys:List AV} {us vs:Array Value} (hx:xs.length=us.size) (hy:ys.length=vs.size)
   (h1:∀ (i:Nat) x u,xs[i]?=some x→us[i]?=some u→VR w A r x u) (h2:∀ (i:Nat) x u,ys[i]?=some x→vs[i]?=some u→VR w A r x u):VR w A r (.fn f xs ys) (.func f us vs)
 | nilfn {r:Rr}:VR w A r .nilfn .nilFunc
 | yv {r:Rr} {l:Nat} (h:r .yl=some l):VR w A r .yv (.func (.yield l) #[] #[])
 | nilif {r:Rr}:VR w A r .nilif .nilIface
 | errif {r:Rr} {t:TypeId} {u:Value}:VR w A r .errif (.iface t u)
 | nilmp {r:Rr}:VR w A r .nilmp (.map none)
 | mp {r:Rr} {j b:Nat} (h:r j=some b):VR w A r (.mp j) (.map (some b))
 | xmp {r:Rr} {ag:Bool} {wd n:Nat} {get:Get AV} (b clock:Nat) (es:Array MapEntry) (u:Nat→Nat→Value) (hb:b<w.heap.size) (hA:¬ A b) (he:w.heap[b]?=some (.map es clock)) (hs:es.size=n∧Born n es clock)
   (hu:∀ i,i<n→EntryIs ag wd (u i) es[i]?) (hv:∀ i k,i<n→k<wd→VR w A noR (get i k) (u i k)):VR w A r (.xmp ag wd n get) (.map (some b))
 | xpool {r:Rr} {wd hk hwd n:Nat} {get:Get AV} {hl:Nat→Nat} {ht:List CK} {hf:Nat→Nat→Nat→AV} {v:Value} (h:VR w A noR (.xmp false 2 n (poolG get wd hk hwd hl ht hf)) v):VR w A r (.xpool wd hk hwd n get hl ht hf) v
 | agg {r:Rr} {xs:List AV} {us:Array Value} (hx:xs.length=us.size) (h1:∀ (i:Nat) x u,xs[i]?=some x→us[i]?=some u→VR w A r x u):VR w A r (.agg xs) (.agg us)
 | tup {r:Rr} {xs:List AV} {us:Array Value} (hx:xs.length=us.size) (h1:∀ (i:Nat) x u,xs[i]?=some x→us[i]?=some u→VR w A r x u):VR w A r (.tup xs) (.tuple us)
structure Keeps (A A':Nat→Prop) (w w':World):Prop where
 size:w.heap.size≤w'.heap.size
 block:∀ b,b<w.heap.size→¬ A b→w'.heap[b]?=w.heap[b]?
 more:∀ b,A' b→A b∨w.heap.size≤b
theorem Keeps.refl (A:Nat→Prop) (w:World):Keeps A A w w:=⟨Nat.le_refl _,fun _ _ _=>rfl,fun _ h=>.inl h⟩
def KeyL (r:Rr):Key→Prop
 | .lo j v=>(r (.ln j v)).isSome=true
 | _=>True
theorem VR.monoL {w w':World} {A A':Nat→Prop} {r r':Rr} {x:AV} {v:Value} (h:VR w A r x v) (hk:Keeps A A' w w') (hr:∀ (j:Key) (b:Nat),r j=some b→KeyL r j→r' j=some b):VR w' A' r' x v:=by
 have cellOf:∀ (b o:Nat) (z:Value),b<w.heap.size→¬ A b→w.cell? ⟨b,o,none⟩=some z→w'.cell? ⟨b,o,none⟩=some z:=by
  intro b o z hb hA hc
  rw [World.cell?_of_block (w:=w) (hk.block b hb hA)];exact hc
 have notA:∀ b,b<w.heap.size→¬ A b→¬ A' b:=fun b hb hA h=>by
  rcases hk.more b h with h | h
  ·exact hA h
  ·omega
 induction h generalizing r' with
 | top=>exact .top
 | int=>exact .int
 | bool=>exact .bool
 | str=>exact .str
 | nilptr=>exact .nilptr
 | lptr h ho=>exact .lptr (hr _ _ h trivial) ho
 | xptr u hb hA hc hv ho hrow ih=>
  exact .xptr u (Nat.lt_of_lt_of_le hb hk.size) (notA _ hb hA) (fun i k hi hk'=>cellOf _ _ _ hb hA (hc i k hi hk')) (fun i k hi hk'=>ih i k hi hk' (fun j b h _=>by simp [noR] at h)) ho hrow
 | nilsl=>exact .nilsl
 | osl he hc hn h0 hl=>exact .osl (hr _ _ he (by simp [KeyL,hn])) (hr _ _ hc trivial) (hr _ _ hn trivial) h0 hl
 | oss hn h hl ha hcf=>exact .oss (hr _ _ hn trivial) h hl (fun h0=>by obtain ⟨b,h1,h2⟩:=ha h0;exact ⟨b,hr _ _ h1 (by simp [KeyL,hn]),h2⟩) ⟨hr _ _ hcf.1 trivial,hcf.2⟩
 | optr h hn hrow ho=>exact .optr (hr _ _ h (by simp [KeyL,hn])) (hr _ _ hn trivial) hrow ho
 | lsl h ho hl hcap=>exact .lsl (hr _ _ h trivial) ho hl hcap
 | xsl b o u hl hcap hn ha hc hv ih=>
  refine .xsl b o u hl hcap hn (fun h0=>?_) (fun h0 i k hi hk'=>?_) (fun h0 i k hi hk'=>ih h0 i k hi hk' (fun j b h _=>by simp [noR] at h))
  ·obtain ⟨e,hb,hA⟩:=ha h0
   exact ⟨e,Nat.lt_of_lt_of_le hb hk.size,notA _ hb hA⟩
  ·obtain ⟨e,hb,hA⟩:=ha h0
   exact cellOf _ _ _ hb hA (hc h0 i k hi hk')
 | fn hx hy h1 h2 ih1 ih2=>exact .fn hx hy (fun i x u a b=>ih1 i x u a b hr) (fun i x u a b=>ih2 i x u a b hr)
 | nilfn=>exact .nilfn
 | yv h=>exact .yv (hr _ _ h trivial)
 | nilif=>exact .nilif
 | errif=>exact .errif
 | nilmp=>exact .nilmp
 | mp h=>exact .mp (hr _ _ h trivial)
 | xmp b clock es u hb hA he hs hu hv ih=>
  exact .xmp b clock es u (Nat.lt_of_lt_of_le hb hk.size) (notA _ hb hA) (by rw [hk.block b hb hA];exact he) hs hu (fun i k hi hk'=>ih i k hi hk' (fun j b h _=>by simp [noR] at h))
 | xpool h ih=>exact .xpool (ih (fun j b h _=>by simp [noR] at h))
 | agg hx h1 ih1=>exact .agg hx (fun i x u a b=>ih1 i x u a b hr)
 | tup hx h1 ih1=>exact .tup hx (fun i x u a b=>ih1 i x u a b hr)
theorem VR.mono {w w':World} {A A':Nat→Prop} {r r':Rr} {x:AV} {v:Value} (h:VR w A r x v) (hk:Keeps A A' w w') (hr:∀ (j:Key) (b:Nat),r j=some b→r' j=some b):VR w' A' r' x v:=h.monoL hk (fun j b h _=>hr j b h)
def VRs (w:World) (A:Nat→Prop) (r:Rr) (xs:List AV) (us:Array Value):Prop:=xs.length=us.size∧∀ (i:Nat) x u,xs[i]?=some x→us[i]?=some u→VR w A r x u
theorem VRs.mono {w w':World} {A A':Nat→Prop} {r r':Rr} {xs:List AV} {us:Array Value} (h:VRs w A r xs us) (hk:Keeps A A' w w') (hr:∀ (j:Key) (b:Nat),r j=some b→r' j=some b):VRs w' A' r' xs us:=
 ⟨h.1,fun i x u a b=>(h.2 i x u a b).mono hk hr⟩
theorem VRs.monoL {w w':World} {A A':Nat→Prop} {r r':Rr} {xs:List AV} {us:Array Value} (h:VRs w A r xs us) (hk:Keeps A A' w w') (hr:∀ (j:Key) (b:Nat),r j=some b→KeyL r j→r' j=some b):VRs w' A' r' xs us:=
 ⟨h.1,fun i x u a b=>(h.2 i x u a b).monoL hk hr⟩
theorem VRs.nil {w:World} {A:Nat→Prop} {r:Rr}:VRs w A r [] #[]:=⟨rfl,fun i x u h _=>by simp at h⟩
theorem VRs.append {w:World} {A:Nat→Prop} {r:Rr} {xs ys:List AV} {us vs:Array Value} (h:VRs w A r xs us) (k:VRs w A r ys vs):VRs w A r (xs ++ ys) (us ++ vs):=by
 refine ⟨by simp [h.1,k.1],fun i x u hx hu=>?_⟩
 by_cases hi:i<xs.length
 ·rw [List.getElem?_append_left hi] at hx
  rw [Array.getElem?_append_left (by rw [← h.1];exact hi)] at hu
  exact h.2 i x u hx hu
 ·rw [List.getElem?_append_right (by omega)] at hx
  rw [Array.getElem?_append_right (by rw [← h.1];omega),← h.1] at hu
  exact k.2 _ x u hx hu
theorem VRs.get {w:World} {A:Nat→Prop} {r:Rr} {xs:List AV} {us:Array Value} (h:VRs w A r xs us) {i:Nat} {x:AV} (hx:xs[i]?=some x):∃ u,us[i]?=some u∧VR w A r x u:=by
 have hi:i<xs.length:=(List.getElem?_eq_some_iff.1 hx).1
 have hu:i<us.size:=by rw [← h.1];exact hi
 exact ⟨us[i],Array.getElem?_eq_getElem hu,h.2 i x _ hx (Array.getElem?_eq_getElem hu)⟩
def scal:AV→Option Value
 | .int k n=>some (.int k n)
 | .bool b=>some (.bool b)
 | .str l=>some (.string ⟨l.toArray⟩)
 | .nilptr=>some (.pointer none)
 | .nilfn=>some .nilFunc
 | .nilif=>some .nilIface
 | .nilmp=>some (.map none)
 | _=>none
def scals:List AV→Option (List Value)
 | []=>some []
 | x :: xs=>match scal x with
  | some v=>match scals xs with
   | some vs=>some (v :: vs)
   | none=>none
  | none=>none
def plainV:AV→Option Value
 | .agg cs=>match scals cs with
  | some vs=>some (.agg vs.toArray)
  | none=>none
 | x=>scal x
def ofScal:Value→Option AV
 | .int k n=>some (.int k n)
 | .bool b=>some (.bool b)
 | .string s=>some (.str s.data.toList)
 | .pointer none=>some .nilptr
 | .nilFunc=>some .nilfn
 | .nilIface=>some .nilif
 | .slice none 0 0=>some .nilsl
 | .map none=>some .nilmp
 | _=>none
def ofScals:List Value→Option (List AV)
 | []=>some []
 | v :: vs=>match ofScal v with
  | some x=>match ofScals vs with
   | some xs=>some (x :: xs)
   | none=>none
  | none=>none
def ofV:Value→Option AV
 | .agg cs=>match ofScals cs.toList with
  | some xs=>some (.agg xs)
  | none=>none
 | .tuple cs=>match ofScals cs.toList with
  | some xs=>some (.tup xs)
  | none=>none
 | v=>ofScal v
section
variable {w:World} {A:Nat→Prop} {r:Rr}
theorem scal_eq {x:AV} {v v':Value} (h:scal x=some v) (k:VR w A r x v'):v'=v:=by
 cases k<;>simp [scal] at h<;>exact h
theorem scals_length:∀ {xs:List AV} {vs:List Value},scals xs=some vs→vs.length=xs.length
 | [],vs,h=>by simp [scals] at h;simp [← h]
 | x :: xs,vs,h=>by
  simp only [scals] at h
  split at h
  ·split at h
   ·rename_i vs' h'
    injection h with h;subst h
    simp [scals_length h']
   ·simp at h
  ·simp at h
theorem scals_get:∀ {xs:List AV} {vs:List Value},scals xs=some vs→∀ (i:Nat) x,xs[i]?=some x→∃ v,vs[i]?=some v∧scal x=some v
 | [],_,_,i,x,hx=>by simp at hx
 | y :: xs,vs,h,i,x,hx=>by
  simp only [scals] at h
  split at h
  ·rename_i v hv
   split at h
   ·rename_i vs' h'
    injection h with h;subst h
    cases i with
    | zero=>simp at hx;subst hx;exact ⟨v,by simp,hv⟩
    | succ i=>simp at hx;obtain ⟨u,hu,hs⟩:=scals_get h' i x hx;exact ⟨u,by simpa using hu,hs⟩
   ·simp at h
  ·simp at h
theorem plainV_eq {x:AV} {v v':Value} (h:plainV x=some v) (k:VR w A r x v'):v'=v:=by
 cases x with
 | agg cs=>
  simp only [plainV] at h
  split at h
  ·rename_i vs hs
   injection h with h;subst h
   cases k with
   | agg hx h1=>
    rename_i us
    congr 1
    apply Array.ext
    ·rw [← hx];simp [scals_length hs]
    ·intro i hi1 hi2
     have hi:i<cs.length:=by rw [hx];exact hi1
     obtain ⟨u,hu,hsc⟩:=scals_get hs i cs[i] (List.getElem?_eq_getElem hi)
     have:=scal_eq hsc (h1 i cs[i] us[i] (List.getElem?_eq_getElem hi) (Array.getElem?_eq_getElem hi1))
     rw [this]
     have h2:vs[i]?=some (vs.toArray[i]):=by simp
     rw [h2] at hu
     injection hu with hu
     exact hu.symm
  ·simp at h
 | _=>simp only [plainV] at h;exact scal_eq h k
theorem ofScal_rel {v:Value} {x:AV} (h:ofScal v=some x):VR w A r x v:=by
 cases v with
 | int k n=>simp only [ofScal,Option.some.injEq] at h;subst h;exact .int
 | bool b=>simp only [ofScal,Option.some.injEq] at h;subst h;exact .bool
 | string s=>simp only [ofScal,Option.some.injEq] at h;subst h;exact (.str:VR w A r (.str s.data.toList) (.string ⟨s.data.toList.toArray⟩))
 | pointer a=>cases a with
  | none=>simp only [ofScal,Option.some.injEq] at h;subst h;exact .nilptr
  | some a=>simp [ofScal] at h
 | slice a l c=>
  unfold ofScal at h
  split at h<;>simp_all
  subst h;exact .nilsl
 | nilFunc=>simp only [ofScal,Option.some.injEq] at h;subst h;exact .nilfn
 | nilIface=>simp only [ofScal,Option.some.injEq] at h;subst h;exact .nilif
 | map m=>cases m with
  | none=>simp only [ofScal,Option.some.injEq] at h;subst h;exact .nilmp
  | some m=>simp [ofScal] at h
 | _=>simp [ofScal] at h
theorem ofScals_rel:∀ {vs:List Value} {xs:List AV},ofScals vs=some xs→xs.length=vs.length∧∀ (i:Nat) x u,xs[i]?=some x→vs[i]?=some u→VR w A r x u
 | [],xs,h=>by simp [ofScals] at h;subst h;exact ⟨rfl,fun i x u hx=>by simp at hx⟩
 | v :: vs,xs,h=>by
  simp only [ofScals] at h
  split at h
  ·rename_i x hx
   split at h
   ·rename_i xs' h'
    injection h with h;subst h
    obtain ⟨hl,hr⟩:=ofScals_rel h'
    refine ⟨by simp [hl],fun i y u hy hu=>?_⟩
    cases i with
    | zero=>simp at hy hu;subst hy;subst hu;exact ofScal_rel hx
    | succ i=>simp at hy hu;exact hr i y u hy hu
   ·simp at h
  ·simp at h
theorem ofV_rel {v:Value} {x:AV} (h:ofV v=some x):VR w A r x v:=by
 unfold ofV at h
 split at h
 ·split at h
  ·rename_i cs xs hs
   injection h with h;subst h
   obtain ⟨hl,hr⟩:=ofScals_rel (w:=w) (A:=A) (r:=r) hs
   exact .agg (by simpa using hl) (fun i x u hx hu=>hr i x u hx (by simpa using hu))
  ·simp at h
 ·split at h
  ·rename_i cs xs hs
   injection h with h;subst h
   obtain ⟨hl,hr⟩:=ofScals_rel (w:=w) (A:=A) (r:=r) hs
   exact .tup (by simpa using hl) (fun i x u hx hu=>hr i x u hx (by simpa using hu))
  ·simp at h
 ·exact ofScal_rel h
end
def calm {α:Type} (P:Program):Sem α→Option α
 | .pure a=>some a
 | .program k=>calm P (k P)
 | .mark _ k=>calm P k
 | _=>none
theorem calm_run {α:Type} (P:Program):∀ (s:Sem α) (a:α),calm P s=some a→∀ w,s.run P w=.ok a w
 | .pure a,b,h,w=>by simp [calm] at h;subst h;simp [Sem.run]
 | .program k,b,h,w=>by simp only [calm] at h;simp only [Sem.run];exact calm_run P (k P) b h w
 | .mark m k,b,h,w=>by simp only [calm] at h;simp only [Sem.run];exact calm_run P k b h w
 | .load ..,_,h,_=>by simp [calm] at h
 | .store ..,_,h,_=>by simp [calm] at h
 | .new ..,_,h,_=>by simp [calm] at h
 | .shape ..,_,h,_=>by simp [calm] at h
 | .freeze ..,_,h,_=>by simp [calm] at h
 | .frozen ..,_,h,_=>by simp [calm] at h
 | .getObj ..,_,h,_=>by simp [calm] at h
 | .setObj ..,_,h,_=>by simp [calm] at h
 | .choose ..,_,h,_=>by simp [calm] at h
 | .sys ..,_,h,_=>by simp [calm] at h
 | .halt ..,_,h,_=>by simp [calm] at h
end Go.Proofs.YtkpligkggnjcoaaGreatDoor.Ev
/-! EvB -/
namespace Go.Proofs.YtkpligkggnjcoaaGreatDoor.Ev
structure HG where
 tag:List CK
 f:Nat→Nat→Nat→AV
 deriving Inhabited
instance:CoeFun HG (fun _=>Nat→Get AV):=⟨fun h i=>⟨h.tag,h.f i⟩⟩
inductive Blk where
 | flat (t:TypeId) (cs:List AV)
 | list (t:TypeId) (wd v n:Nat) (get:Get AV)
 | map (t:TypeId) (ag:Bool) (wd n:Nat) (get:Get AV)
 | fmap (t:TypeId) (ks vs:List AV)
 | pool (t st:TypeId) (wd hk:Nat) (ht:TypeId) (hwd n:Nat) (get:Get AV) (hl:Nat→Nat) (hg:HG) (pend:Option (Nat × Nat))
 | iter (m:AV) (seen:List Nat)
 | gone
 deriving Inhabited
structure St where
 env:List AV
 loc:List Blk
 sav:List AV:=[]
 bs:Nat→Bool:=fun _=>true
 out:List (List AV × Bool):=[]
 deriving Inhabited
inductive Res where
 | val (v:AV)
 | alloc (b:Blk) (v:AV)
 | grow (j:Nat) (b:Blk) (v:AV)
 | store (j:Nat) (b:Blk)
 | call (f:FuncId) (args:List AV)
 | turn (f:FuncId) (args:List AV)
 | fresh (f:FuncId) (t:TypeId) (args:List AV)
 | put (j:Nat) (b:Blk) (v:AV)
def noL0:AV→Bool
 | .lptr ..=>false
 | .lsl ..=>false
 | .osl ..=>false
 | .oss ..=>false
 | .optr ..=>false
 | .yv=>false
 | .mp _=>false
 | .fn _ xs ys=>xs.isEmpty&&ys.isEmpty
 | .agg _=>false
 | .tup _=>false
 | _=>true
def tagOf:AV→CK
 | .int k _=>.int k
 | .bool _=>.bool
 | .str _=>.str
 | .xsl wd _ g _ _ _=>match skOf g.tag with
  | some ks=>.sl wd ks
  | none=>.any
 | _=>.any
def ckEq:CK→CK→Bool
 | .int a,.int b=>decide (a=b)
 | .bool,.bool=>true
 | .str,.str=>true
 | .sl a ks,.sl b ms=>Nat.beq a b&&skLEq ks ms
 | .any,.any=>true
 | _,_=>false
def tagsOf (wd:Nat) (cs:List AV):List CK:=
 let t:=(cs.take wd).map tagOf
 match cs.zipIdx.all fun p=>ckEq (ckAt t (p.2 % wd)) (tagOf p.1) with
 | true=>t
 | false=>[]
def ckLEq:List CK→List CK→Bool
 | [],[]=>true
 | a :: es,b :: bs=>ckEq a b&&ckLEq es bs
 | _,_=>false
def szOf (P:Program) (t:TypeId):Option Nat:=(P.info? t).map (·.size)
def aggB (P:Program) (t:TypeId):Option Bool:=
 match P.underlying t with
 | some (.struct _)=>some true
 | some (.array _ _)=>some true
 | some _=>some false
 | none=>none
def zeroAV (P:Program) (t:TypeId):Option (List AV):=
 match P.info? t with
 | some i=>match i.zero with
  | some v=>ofScals v.cells.toList
  | none=>none
 | none=>none
def isCell:AV→Bool
 | .agg _=>false
 | .tup _=>false
 | .top=>false
 | _=>true
def cellsAV:AV→Option (List AV)
 | .agg cs=>some cs
 | .tup _=>none
 | .top=>none
 | x=>some [x]
def ovw (cs:List AV) (off:Nat) (xs:List AV):List AV:=cs.take off ++ xs ++ cs.drop (off+xs.length)
def fillAV (place:Nat→Option (Nat × Nat)) (cs:List AV):List (Nat × AV)→Option (List AV)
 | []=>some cs
 | (i,x) :: rest=>
  match place i with
  | none=>none
  | some (off,size)=>
   match cellsAV x with
   | none=>none
   | some xs=>if xs.length=size∧off+xs.length≤cs.length then fillAV place (ovw cs off xs) rest else none
def rngGet (get:Get AV) (row:Nat):Nat→Nat→List AV
 | _,0=>[]
 | col,n+1=>get row col :: rngGet get row (col+1) n
def loadAV (P:Program) (t:TypeId) (cs:List AV) (col:Nat):Option AV:=
 match aggB P t,szOf P t with
 | some true,some n=>if col+n≤cs.length then some (.agg ((cs.drop col).take n)) else none
 | some false,some _=>cs[col]?
 | _,_=>none
def loadX (P:Program) (t:TypeId) (wd:Nat) (get:Get AV) (row col:Nat):Option AV:=
 match aggB P t,szOf P t with
 | some true,some n=>if col+n≤wd then some (.agg (rngGet get row col n)) else none
 | some false,some _=>if col<wd then some (get row col) else none
 | _,_=>none
def partAV (P:Program) (t:TypeId) (cs:List AV) (off:Nat):Option AV:=
 match aggB P t,szOf P t with
 | some true,some n=>some (.agg ((cs.drop off).take n))
 | some false,some _=>cs[off]?
 | _,_=>none
def fieldPlaceAV (P:Program) (s:TypeId) (f:Nat):Option Nat:=
 match P.underlying s with
 | some (.struct fields)=>match fields[f]? with
  | some fd=>match szOf P fd.type with
   | some 0=>none
   | some _=>some fd.offset
   | none=>none
  | none=>none
 | _=>none
def mapEv (p:Operand→Option AV):List Operand→Option (List AV)
 | []=>some []
 | x :: xs=>match p x with
  | some v=>match mapEv p xs with
   | some vs=>some (v :: vs)
   | none=>none
  | none=>none
def mapParts (p:Operand→Option AV):List (Nat × Operand)→Option (List (Nat × AV))
 | []=>some []
 | (i,x) :: xs=>match p x with
  | some v=>match mapParts p xs with
   | some vs=>some ((i,v) :: vs)
   | none=>none
  | none=>none
def structPlaces (P:Program):List Field→Option (List (Nat × Nat))
 | []=>some []
 | f :: fs=>match szOf P f.type with
  | some n=>match structPlaces P fs with
   | some l=>some ((f.offset,n) :: l)
   | none=>none
  | none=>none
def replC (zs:List AV):Nat→List AV
 | 0=>[]
 | n+1=>zs ++ replC zs n
def eqFieldsAV (P:Program) (rec:TypeId→AV→AV→Option Bool) (xs ys:List AV):List Field→Option Bool
 | []=>some true
 | f :: fs=>match decide (f.name= "_"),partAV P f.type xs f.offset,partAV P f.type ys f.offset with
  | false,some a,some b=>match rec f.type a b,fs with
   | some c,[]=>some c
   | some c,g :: gs=>match eqFieldsAV P rec xs ys (g :: gs) with
    | some e=>some (c&&e)
    | none=>none
   | none,_=>none
  | _,_,_=>none
def eqElemsAV (P:Program) (rec:AV→AV→Option Bool) (e n:Nat) (xs ys:List AV):Nat→Nat→Option Bool
 | _,0=>some true
 | i,k+1=>match partAV P e xs (i * n),partAV P e ys (i * n) with
  | some a,some b=>match rec a b,k with
   | some c,0=>some c
   | some c,m+1=>match eqElemsAV P rec e n xs ys (i+1) (m+1) with
    | some e=>some (c&&e)
    | none=>none
   | none,_=>none
  | _,_=>none
def eqAV (P:Program):Nat→TypeId→AV→AV→Option Bool
 | 0,_,_,_=>none
 | d+1,t,x,y=>match P.underlying t,x,y with
  | some .bool,.bool a,.bool b=>some (a == b)
  | some (.int _),.int k a,.int k' b=>match decide (k=k') with
   | true=>some (a == b)
   | false=>none
  | some .string,.str a,.str b=>some (a == b)
  | some (.struct fields),.agg xs,.agg ys=>match P.stoodInHeld t with
   | false=>eqFieldsAV P (eqAV P d) xs ys fields.toList
   | true=>none
  | some (.array len e),.agg xs,.agg ys=>match szOf P e with
   | some n=>eqElemsAV P (eqAV P d e) e n xs ys 0 len
   | none=>none
  | _,_,_=>none
def eqVals (P:Program) (t:TypeId):Option AV→Option AV→Option Bool
 | some (.agg cs),some (.agg ds)=>match P.eqGuardType P.depth t with
  | false=>eqAV P 20 t (.agg cs) (.agg ds)
  | true=>none
 | _,_=>none
def nilCmp (P:Program) (t:TypeId):Option AV→Option AV→Option Bool
 | some x,some .nilsl=>match P.underlying t with
  | some (.slice _)=>match x with
   | .xsl _ _ _ _ len _=>some (Nat.blt 0 len)
   | .osl _ _ n=>some (Nat.blt 0 n)
   | _=>none
  | _=>none
 | _,_=>none
def nameOk (fn:Func):Bool:=fn.body.isSome&&!(fn.name == "runtime.NumGoroutine")
def freshNames:List String:=["kentledge/kentledgeref04.rising","kentledge/hull.best","kentledge/kentledgeref08.more","kentledge/kentledgeref08.add","kentledge/kentledgeref08.sorted","slices.Clone[[]kentledge/api.Item,kentledge/api.Item]","slices.Clone[[]kentledge/api.Posting,kentledge/api.Posting]","kentledge/ledger.listed","slices.Grow[[]kentledge/api.Item,kentledge/api.Item]","kentledge/tariff.sorted[string]","kentledge/tariff.dues","kentledge/tariff.grades","kentledge/tariff.charges","kentledge/kentledgeref07.grades"]
def isOsl:List AV→Bool
 | .osl _ _ _ :: _=>true
 | _=>false
def methNames:List String:=["(*kentledge/tariff.parser).source","(*kentledge/tariff.parser).due","(*kentledge/tariff.parser).rebate","(*kentledge/tariff.parser).least","(*kentledge/tariff.parser).most","(*kentledge/tariff.parser).round","(*kentledge/tariff.parser).text","(*kentledge/tariff.parser).must","(*kentledge/tariff.parser).head","(*kentledge/tariff.parser).term","(*kentledge/tariff.parser).is","(*kentledge/tariff.parser).number","(*kentledge/tariff.parser).name","(*kentledge/tariff.parser).next","(*kentledge/kentledgeref07.reader).is","(*kentledge/kentledgeref07.reader).eat","(*kentledge/kentledgeref07.reader).fail","(*kentledge/kentledgeref07.reader).must","(*kentledge/kentledgeref07.reader).name","(*kentledge/kentledgeref07.reader).number","(*kentledge/kentledgeref07.reader).names","(*kentledge/kentledgeref07.reader).term","(*kentledge/kentledgeref07.reader).rule","(*kentledge/kentledgeref07.reader).way"]
def isLp:List AV→Bool
 | .lptr _ _ 0 0 :: _=>true
 | _=>false
def resCall (P:Program) (g:FuncId) (fn:Func) (args:List AV):Res:=
 match isLp args&&methNames.contains fn.name with
 | true=>.turn g args
 | false=>match fn.resultTypes.size with
 | 0=>match isOsl args with
  | true=>.turn g args
  | false=>.call g args
 | 1=>match fn.resultTypes[0]? with
  | some t=>match P.underlying t with
   | some (.slice e)=>match freshNames.contains fn.name with
    | true=>.fresh g e args
    | false=>.call g args
   | _=>.call g args
  | none=>.call g args
 | _=>.call g args
theorem resCall_or (P:Program) (g:FuncId) (fn:Func) (args:List AV):resCall P g fn args=.call g args∨resCall P g fn args=.turn g args∨∃ e,resCall P g fn args=.fresh g e args:=by
 unfold resCall
 split
 ·exact .inr (.inl rfl)
 split
 ·split
  ·exact .inr (.inl rfl)
  ·exact .inl rfl
 ·split
  ·split
   ·split
    ·exact .inr (.inr ⟨_,rfl⟩)
    ·exact .inl rfl
   ·exact .inl rfl
  ·exact .inl rfl
 ·exact .inl rfl
def callAV (P:Program) (f:AV) (args:List AV):Option Res:=
 match f with
 | .fn (.func g) xs ys=>match P.funcs[g]? with
  | some fn=>if nameOk fn then some (resCall P g fn (xs ++ args ++ ys)) else none
  | none=>none
 | _=>none
theorem callAV_or {P:Program} {f:AV} {args:List AV} {res:Res} (h:callAV P f args=some res):∃ g xs ys fn,f=.fn (.func g) xs ys∧P.funcs[g]?=some fn∧nameOk fn=true ∧
  (res=.call g (xs ++ args ++ ys)∨res=.turn g (xs ++ args ++ ys)∨∃ e,res=.fresh g e (xs ++ args ++ ys)):=by
 unfold callAV at h
 split at h
 ·split at h
  ·rename_i fn hfn
   split at h
   ·rename_i hn
    injection h with h;subst h
    exact ⟨_,_,_,fn,rfl,hfn,hn,resCall_or ..⟩
   ·simp at h
  ·simp at h
 ·simp at h
def lenAV:AV→Option Nat
 | .osl _ _ n=>some n
 | .oss _ _ _ _ n=>some n
 | .lsl _ _ _ _ n _=>some (clampL n)
 | .xsl _ _ _ _ n _=>some (clampL n)
 | .nilsl=>some 0
 | _=>none
def spanAV (n:Nat):AV→Option Nat
 | .xsl wd _ _ _ len _=>match Nat.beq n wd with
  | true=>some len
  | false=>none
 | .osl _ _ len=>some len
 | .oss _ _ wd _ len=>match Nat.beq n wd with
  | true=>some len
  | false=>none
 | _=>none
def cutAV (n l h:Nat) (cap:Option Nat→Option Nat):AV→AV
 | .xsl wd m get row _ c=>.xsl wd m get (row+l) (h - l) (cap c)
 | .osl j v _=>.oss j v n l (h - l)
 | .oss j v wd row _=>.oss j v wd (row+l) (h - l)
 | x=>x
def spareAV (loc:Nat→Option Blk) (len:Nat):AV→Nat
 | .oss j v _ row _=>match loc j with
  | some (.list _ _ v' n _)=>match Nat.beq v v' with
   | true=>n - row
   | false=>len
  | _=>len
 | _=>len
def ownS:AV→Bool
 | .osl _ _ _=>true
 | .oss _ _ _ _ _=>true
 | _=>false
def cut3AV (n l h:Nat) (cap:Option Nat→Option Nat) (v:AV):AV:=match ownS v with
 | true=>.top
 | false=>cutAV n l h cap v
def sliceT (P:Program) (t:TypeId):Option Nat:=
 match P.underlying t with
 | some (.slice e)=>szOf P e
 | _=>none
def bytesOf (P:Program) (t:TypeId):Option Nat:=(P.info? t).map (·.bytes)
def appG (n:Nat) (f g:Nat→Nat→AV):Nat→Nat→AV:=fun i k=>match Nat.ble n i with
 | true=>g (i - n) k
 | false=>f i k
def appendG (n:Nat) (f g:Get AV):Get AV:=match ckLEq f.tag g.tag with
 | true=>⟨f.tag,appG n f.f g.f⟩
 | false=>match Nat.beq n 0 with
  | true=>⟨g.tag,appG n f.f g.f⟩
  | false=>⟨[],appG n f.cell g.cell⟩
def fullCK (l:List CK):Nat→Bool
 | 0=>true
 | n+1=>(match ckAt l n with
  | .any=>false
  | .sl _ _=>false
  | _=>true)&&fullCK l n
def oneCK (l:List CK):Nat→Bool
 | 0=>true
 | n+1=>(match ckAt l n with
  | .any=>false
  | _=>true)&&oneCK l n
def rowsAV (loc:Nat→Option Blk) (wd:Nat):AV→Option (Nat × Get AV)
 | .nilsl=>some (0,⟨[],fun _ _=>.top⟩)
 | .lsl j wd' row col len _=>match loc j with
  | some (.flat _ cs)=>if wd'=wd∧col=0∧(row+len) * wd≤cs.length∧cs.all noL0=true∧cs.all isCell=true then some (len,⟨tagsOf wd cs,fun i k=>(cs[(row+i) * wd+k]?).getD .top⟩) else none
  | _=>none
 | .xsl wd' _ g row len _=>match Nat.beq wd' wd&&oneCK g.tag wd with
  | true=>some (len,⟨g.tag,fun i k=>g.f (row+i) k⟩)
  | false=>none
 | .osl j v _=>match loc j with
  | some (.list _ wd' v' n g)=>match Nat.beq wd' wd&&(Nat.beq v v'&&oneCK g.tag wd) with
   | true=>some (n,g)
   | false=>none
  | _=>none
 | .oss j v wd1 row len=>match loc j with
  | some (.list _ wd' v' _ g)=>match Nat.beq wd' wd&&(Nat.beq wd1 wd&&(Nat.beq v v'&&oneCK g.tag wd)) with
   | true=>some (len,⟨g.tag,fun i k=>g.f (row+i) k⟩)
   | false=>none
  | _=>none
 | _=>none
def setR (row col n:Nat) (xs:List AV) (f:Nat→Nat→AV):Nat→Nat→AV:=fun i k=>match Nat.beq i row&&(Nat.ble col k&&Nat.blt k (col+n)) with
 | true=>(xs[k - col]?).getD .top
 | false=>f i k
def setG (g:Get AV) (row col:Nat) (xs:List AV):Get AV:=
 match xs.zipIdx.all fun p=>ckEq (ckAt g.tag (col+p.2)) (tagOf p.1) with
 | true=>⟨g.tag,setR row col xs.length xs g.f⟩
 | false=>⟨[],setR row col xs.length xs g.cell⟩
def putR (row m:Nat) (a b:Nat→Nat→AV):Nat→Nat→AV:=fun i k=>match Nat.ble row i&&Nat.blt i (row+m) with
 | true=>b (i - row) k
 | false=>a i k
def putRows (f:Get AV) (row m:Nat) (g:Get AV):Get AV:=match ckLEq f.tag g.tag with
 | true=>⟨f.tag,putR row m f.f g.f⟩
 | false=>⟨[],putR row m f.cell g.cell⟩
def appPut (P:Program) (loc:Nat→Option Blk) (t:TypeId) (x y:AV):Option (Bool × Res):=
 match P.underlying t with
 | some (.slice e)=>match szOf P e with
  | some wd=>match x with
   | .oss j v wd1 row len=>match loc j with
    | some (.list u wd' v' n f)=>match rowsAV loc wd y with
     | some (m,g)=>match Nat.blt 0 wd&&(Nat.beq u e&&(Nat.beq wd' wd&&(Nat.beq v v'&&Nat.beq wd1 wd))) with
      | true=>some (decide (row+len+m≤n∧row<n),.put j (.list e wd v n (putRows f (row+len) m g)) (.oss j v wd row (len+m)))
      | false=>none
     | none=>none
    | _=>none
   | _=>none
  | none=>none
 | _=>none
def zeroAs:CK→AV→AV
 | .sl wd ks,.nilsl=>.xsl wd 0 ⟨ckOf ks,fun _ _=>.top⟩ 0 0 none
 | _,x=>x
def zerosAs:List CK→List AV→List AV
 | _,[]=>[]
 | [],x :: xs=>x :: xs
 | c :: cs,x :: xs=>zeroAs c x :: zerosAs cs xs
theorem zerosAs_length:∀ (cs:List CK) (xs:List AV),(zerosAs cs xs).length=xs.length
 | _,[]=>by cases ‹List CK›<;>rfl
 | [],_ :: _=>rfl
 | c :: cs,x :: xs=>by rw [zerosAs,List.length_cons,List.length_cons,zerosAs_length cs xs]
theorem zerosAs_get:∀ (cs:List CK) (xs:List AV) (i:Nat) (y:AV),(zerosAs cs xs)[i]?=some y→∃ x c,xs[i]?=some x∧y=zeroAs c x
 | cs,[],i,y,h=>by cases cs<;>simp [zerosAs] at h
 | [],x :: xs,i,y,h=>⟨y,.any,h,by cases y<;>rfl⟩
 | c :: cs,x :: xs,0,y,h=>by
  simp only [zerosAs,List.getElem?_cons_zero,Option.some.injEq] at h
  exact ⟨x,c,rfl,h.symm⟩
 | c :: cs,x :: xs,i+1,y,h=>by
  simp only [zerosAs,List.getElem?_cons_succ] at h
  exact zerosAs_get cs xs i y h
def clearAV (P:Program) (loc:Nat→Option Blk) (t:TypeId) (x:AV):Option (Bool × Res):=
 match P.underlying t with
 | some (.slice e)=>match zeroAV P e with
  | some zs=>match x with
   | .oss j v wd1 row len=>match loc j with
    | some (.list u wd' v' n f)=>match Nat.blt 0 wd'&&(Nat.beq u e&&(Nat.beq wd1 wd'&&(Nat.beq v v'&&(Nat.beq zs.length wd'&&zs.all isCell)))) with
     | true=>some (decide (row<n),.put j (.list e wd1 v n (putRows f row len ⟨(zerosAs f.tag zs).map tagOf,fun _ k=>((zerosAs f.tag zs)[k]?).getD .top⟩)) (.tup []))
     | false=>none
    | _=>none
   | _=>none
  | none=>none
 | _=>none
def ownLit:Nat→Nat→List (Nat × Operand)→List (Nat × AV)→List AV→Option AV
 | 1,1,[(0,.const _)],[(0,.str x)],[.str _]=>some (.str x)
 | _,_,_,_,_=>none
def fitC:CK→AV→Bool
 | .int k,.int k' _=>decide (k=k')
 | .bool,.bool _=>true
 | .str,.str _=>true
 | .sl _ _,.nilsl=>true
 | .sl wd ks,.xsl wd' _ g _ _ _=>Nat.beq wd' wd&&ckLEq g.tag (ckOf ks)
 | _,_=>false
def fitL (wd:Nat) (T:List CK):List AV→Nat→Bool
 | [],_=>true
 | c :: cs,q=>fitC (ckAt T (q % wd)) c&&fitL wd T cs (q+1)
def retag (loc:Nat→Option Blk) (wd:Nat) (T:List CK) (y:AV) (g:Get AV):Get AV:=match y with
 | .lsl j _ _ _ _ _=>match loc j with
  | some (.flat _ cs)=>match fitL wd T cs 0 with
   | true=>⟨T,g.f⟩
   | false=>g
  | _=>g
 | _=>g
def appendAV (P:Program) (loc:Nat→Option Blk) (nx:Nat) (t:TypeId) (x y:AV):Option (Bool × Res):=
 match P.underlying t with
 | some (.slice e)=>match szOf P e,bytesOf P e,zeroAV P e with
  | some wd,some by',some zs=>match Nat.beq zs.length wd&&Nat.blt 0 wd with
   | true=>match rowsAV loc wd y with
    | some (m,g)=>match x with
     | .osl j v _=>match loc j with
      | some (.list u wd' v' n f)=>match Nat.beq u e&&(Nat.beq wd' wd&&Nat.beq v v') with
       | true=>some (decide ((n+m) * by'≤140737488355328∧n+m≤maxL),.grow j (.list e wd (v+1) (n+m) (appendG n f (retag loc wd f.tag y g))) (.osl j (v+1) (n+m)))
       | false=>none
      | _=>none
     | .nilsl=>some (decide (m * by'≤140737488355328∧m≤maxL),.grow nx (.list e wd 0 m g) (.osl nx 0 m))
     | _=>none
    | none=>none
   | false=>none
  | _,_,_=>none
 | _=>none
def isOss:AV→Bool
 | .oss _ _ _ _ _=>true
 | _=>false
def appAV (P:Program) (loc:Nat→Option Blk) (nx:Nat) (t:TypeId) (x y:AV):Option (Bool × Res):=match isOss x with
 | true=>appPut P loc t x y
 | false=>appendAV P loc nx t x y
def boundAV (p:Operand→Option AV) (x:Option Operand) (dflt n:Nat):Option (Bool × Nat):=
 match x with
 | none=>some (true,dflt)
 | some o=>match p o with
  | some (.int _ i)=>some (decide (0≤i∧i≤n),i.toNat)
  | _=>none
def keyIs:AV→AV→Bool
 | .int _ a,.int _ b=>a == b
 | .str a,.str b=>a == b
 | _,_=>false
def mfind (g:Get AV) (key:AV) (n:Nat):Option Nat:=(List.range n).find? fun i=>keyIs key (g.cell i 0)
def mraw (g:Get AV) (o:Option Nat) (z:AV) (k:Nat):AV:=match o with
 | some i=>g.f i k
 | none=>z
def mcell (g:Get AV) (o:Option Nat) (z:AV) (k:Nat):AV:=conf (ckAt g.tag k) (mraw g o z k)
def mcells (g:Get AV) (o:Option Nat):List AV→Nat→List AV
 | [],_=>[]
 | z :: zs,k=>mcell g o z k :: mcells g o zs (k+1)
def mputN (o:Option Nat) (n:Nat):Nat:=match o with
 | some _=>n
 | none=>n+1
def mputP (o:Option Nat) (n:Nat):Nat:=match o with
 | some i=>i
 | none=>n
def mputG (g:Get AV) (p:Nat) (row:List AV):Get AV:=⟨g.tag,fun i k=>match Nat.beq i p with
 | true=>(row[k]?).getD .top
 | false=>g.f i k⟩
def keyCK (P:Program) (t:TypeId):Option CK:=match P.underlying t with
 | some (.int k)=>some (.int k)
 | some .string=>some .str
 | _=>none
def tagged (l:List CK):List AV→Nat→Bool
 | [],_=>true
 | x :: xs,k=>ckEq (ckAt l k) (tagOf x)&&tagged l xs (k+1)
def isAggAV:AV→Bool
 | .agg _=>true
 | _=>false
def bEq:Bool→Bool→Bool
 | true,b=>b
 | false,b=>!b
def mapRows (loc:Nat→Option Blk):AV→Option (Bool × Nat × Nat × Get AV)
 | .mp j=>match loc j with
  | some (.map _ ag wd n g)=>some (ag,wd,n,g)
  | _=>none
 | .xmp ag wd n g=>some (ag,wd,n,g)
 | _=>none
def zeroAgg (P:Program) (t:TypeId):Bool:=match P.info? t with
 | some i=>match i.zero with
  | some (.agg _)=>true
  | _=>false
 | none=>false
def lookRes (o:Option Nat) (ok:Bool) (v:AV):AV:=match ok with
 | true=>.tup [v,.bool o.isSome]
 | false=>v
def lookAV (P:Program) (loc:Nat→Option Blk) (t:TypeId) (m key:AV) (ok:Bool):Option (Bool × Res):=
 match P.underlying t with
 | some (.map kt vt)=>match mapRows loc m,keyCK P kt with
  | some (ag,wd,n,g),some kc=>match aggB P vt,zeroAV P vt with
   | some ag',some zs=>match (bEq ag ag'&&(bEq ag (zeroAgg P vt)&&ckEq kc (tagOf key)))&&((ckEq (ckAt g.tag 0) kc&&fullCK g.tag wd)&&(Nat.beq (zs.length+1) wd&&tagged g.tag zs 1)) with
    | true=>match ag with
     | true=>some (true,.val (lookRes (mfind g key n) ok (.agg (mcells g (mfind g key n) zs 1))))
     | false=>match zs with
      | [z]=>some (true,.val (lookRes (mfind g key n) ok (mcell g (mfind g key n) z 1)))
      | _=>none
    | false=>none
   | _,_=>none
  | _,_=>none
 | _=>none
def putAV (P:Program) (loc:Nat→Option Blk) (t:TypeId) (m key x:AV):Option (Bool × Res):=
 match P.underlying t with
 | some (.map kt _)=>match m with
  | .mp j=>match loc j,keyCK P kt with
   | some (.map u ag wd n g),some kc=>match cellsAV x with
    | some xs=>match (bEq ag (isAggAV x)&&ckEq kc (tagOf key))&&((ckEq (ckAt g.tag 0) kc&&fullCK g.tag wd)&&(Nat.beq (xs.length+1) wd&&tagged g.tag xs 1)) with
     | true=>some (true,.store j (.map u ag wd (mputN (mfind g key n) n) (mputG g (mputP (mfind g key n) n) (key :: xs))))
     | false=>none
    | none=>none
   | _,_=>none
  | _=>none
 | _=>none
def makeMapAV (P:Program) (nx:Nat) (t:TypeId):Option (Bool × Res):=
 match P.underlying t with
 | some (.map kt vt)=>match keyCK P kt with
  | some kc=>match aggB P vt,zeroAV P vt with
   | some ag,some zs=>some (true,.alloc (.map t ag (zs.length+1) 0 ⟨kc :: zs.map tagOf,fun _ _=>.top⟩) (.mp nx))
   | _,_=>none
  | none=>none
 | _=>none
def histOf (P:Program):List Field→Option (Nat × TypeId × Nat)
 | []=>none
 | f :: fs=>match P.underlying f.type with
  | some (.slice e)=>match szOf P e with
   | some n=>some (f.offset,e,n)
   | none=>none
  | _=>histOf P fs
def poolMk (P:Program) (nx:Nat) (t:TypeId):Option (Bool × Res):=
 match P.underlying t with
 | some (.map kt vt)=>match keyCK P kt,P.underlying vt with
  | some kc,some (.pointer st)=>match P.underlying st,szOf P st,zeroAV P st with
   | some (.struct fields),some wd,some zs=>match histOf P fields.toList with
    | some (hk,ht,hwd)=>match Nat.blt hk wd&&Nat.blt 0 hwd with
     | true=>some (true,.alloc (.pool t st wd hk ht hwd 0 ⟨kc :: zs.map tagOf,fun _ _=>.top⟩ (fun _=>0) ⟨(match zeroAV P ht with | some hz=>hz.map tagOf | none=>[]),fun _ _ _=>.top⟩ none) (.mp nx))
     | false=>none
    | none=>none
   | _,_,_=>none
  | some _,some (.func _ _ _)=>some (true,.alloc (.fmap t [] []) (.mp nx))
  | _,_=>none
 | _=>none
def makeMap2 (P:Program) (nx:Nat) (t:TypeId):Option (Bool × Res):=match poolMk P nx t with
 | some r=>some r
 | none=>makeMapAV P nx t
def fmapLook:List AV→List AV→AV→AV
 | k :: ks,v :: vs,key=>match keyIs key k with
  | true=>v
  | false=>fmapLook ks vs key
 | _,_,_=>.nilfn
def fmapHit:List AV→List AV→AV→Bool
 | k :: ks,_ :: vs,key=>match keyIs key k with
  | true=>true
  | false=>fmapHit ks vs key
 | _,_,_=>false
def okRes (ok hit:Bool) (v:AV):AV:=match ok with
 | true=>.tup [v,.bool hit]
 | false=>v
def fLook (P:Program) (loc:Nat→Option Blk) (t:TypeId) (m key:AV):Option (List AV × List AV):=
 match m with
 | .mp j=>match loc j,P.underlying t with
  | some (.fmap _ ks vs),some (.map kt vt)=>match keyCK P kt,zeroAV P vt with
   | some kc,some [.nilfn]=>match ckEq kc (tagOf key)&&(ks.all (fun x=>ckEq kc (tagOf x))&&(Nat.beq ks.length vs.length&&!zeroAgg P vt)) with
    | true=>some (ks,vs)
    | false=>none
   | _,_=>none
  | _,_=>none
 | _=>none
def ptrAt (g:Get AV) (o:Option Nat):AV:=match o with
 | some i=>g.cell i 1
 | none=>.nilptr
def pLook (P:Program) (t:TypeId) (m key:AV) (ok:Bool):Option (Nat × Get AV):=
 match ok,m with
 | false,.xpool pw hk hwd n g hl ht hf=>match P.underlying t with
  | some (.map kt vt)=>match keyCK P kt,zeroAV P vt with
   | some kc,some [.nilptr]=>match (ckEq kc (tagOf key)&&ckEq (ckAt g.tag 0) kc)&&!zeroAgg P vt with
    | true=>some (n,poolG g pw hk hwd hl ht hf)
    | false=>none
   | _,_=>none
  | _=>none
 | _,_=>none
def lookAV2 (P:Program) (loc:Nat→Option Blk) (t:TypeId) (m key:AV) (ok:Bool):Option (Bool × Res):=match fLook P loc t m key with
 | some (ks,vs)=>some (true,.val (okRes ok (fmapHit ks vs key) (fmapLook ks vs key)))
 | none=>match pLook P t m key ok with
  | some (n,g)=>some (true,.val (ptrAt g (mfind g key n)))
  | none=>lookAV P loc t m key ok
def putAV2 (P:Program) (loc:Nat→Option Blk) (t:TypeId) (m key x:AV):Option (Bool × Res):=
 match m with
 | .mp j=>match loc j,P.underlying t with
  | some (.fmap u ks vs),some (.map kt _)=>match keyCK P kt with
   | some kc=>match ckEq kc (tagOf key)&&(ks.all (fun x=>ckEq kc (tagOf x))&&(Nat.beq ks.length vs.length&&isCell x)) with
    | true=>some (ks.all fun x=>!keyIs key x,.store j (.fmap u (ks ++ [key]) (vs ++ [x])))
    | false=>none
   | none=>none
  | some (.pool u st wd hk ht hwd n g hl hg none),some (.map kt _)=>match keyCK P kt,x with
   | some kc,.lptr jn w' row col=>match ckEq kc (tagOf key)&&(ckEq (ckAt g.tag 0) kc&&Nat.beq (row * w'+col) 0) with
    | true=>some ((mfind g key n).isNone,.store j (.pool u st wd hk ht hwd (n+1) (mputG g n [key]) hl hg (some (n,jn))))
    | false=>none
   | _,_=>none
  | _,_=>putAV P loc t m key x
 | _=>putAV P loc t m key x
def entAV (P:Program) (loc:Nat→Option Blk) (t:TypeId) (m key:AV):Option (Bool × Res):=
 match P.underlying t with
 | some (.map kt vt)=>match m with
  | .mp j=>match loc j,keyCK P kt with
   | some (.map u false wd n g),some kc=>match zeroAV P vt with
    | some [z]=>match (ckEq kc (tagOf key)&&(ckEq (ckAt g.tag 0) kc&&fullCK g.tag wd))&&((Nat.beq 2 wd&&tagged g.tag [z] 1)&&bEq false (zeroAgg P vt)) with
     | true=>some (true,.put j (.map u false wd (mputN (mfind g key n) n) (mputG g (mputP (mfind g key n) n) [key,mcell g (mfind g key n) z 1])) (.tup [mcell g (mfind g key n) z 1,.int .i64 (mputP (mfind g key n) n)]))
     | false=>none
    | _=>none
   | _,_=>none
  | _=>none
 | _=>none
def entStAV (loc:Nat→Option Blk) (m s x:AV):Option (Bool × Res):=
 match m,s with
 | .mp j,.int .i64 q=>match loc j with
  | some (.map u false wd n g)=>match (Nat.beq 2 wd&&fullCK g.tag wd)&&tagged g.tag [x] 1 with
   | true=>some (decide (0≤q∧q<n),.store j (.map u false wd n (mputG g q.toNat [g.cell q.toNat 0,x])))
   | false=>none
  | _=>none
 | _,_=>none
def mrows:AV→Option (Nat × Get AV)
 | .xmp false wd n g=>match Nat.beq 2 wd with
  | true=>some (n,g)
  | false=>none
 | .xpool pw hk hwd n g hl ht hf=>some (n,poolG g pw hk hwd hl ht hf)
 | _=>none
def rangeAV (P:Program) (nx:Nat) (t:TypeId) (x:AV):Option (Bool × Res):=
 match P.underlying t,mrows x with
 | some (.map _ _),some _=>some (true,.alloc (.iter x []) (.lptr nx 0 0 0))
 | _,_=>none
def lastAV (loc:Nat→Option Blk) (x:AV):Option (Bool × Res):=
 match x with
 | .lptr j wd row col=>match loc j,Nat.beq (row * wd+col) 0 with
  | some (.iter m (i :: _)),true=>match mrows m with
   | some (n,g)=>some (decide (i<n),.val (.tup [g.cell i 0,g.cell i 1]))
   | none=>none
  | _,_=>none
 | _=>none
def ptrNil (P:Program) (t:TypeId):Option AV→Option AV→Bool
 | some x,some .nilptr=>match P.underlying t with
  | some (.pointer _)=>match x with
   | .lptr ..=>true
   | .xptr ..=>true
   | .optr ..=>true
   | _=>false
  | _=>false
 | some .errif,some .nilif=>match P.underlying t with
  | some (.interface _)=>true
  | _=>false
 | _,_=>false
def arrSl (P:Program) (p:Operand→Option AV) (t:TypeId) (x:Option AV) (lo hi:Option Operand):Option (Bool × Res):=
 match P.underlying t,x with
 | some (.array len e),some (.lptr j wd row col)=>match lo,hi,szOf P e with
  | none,none,some n=>some (decide (len≤maxL),.val (.lsl j n 0 (row * wd+col) len (some len)))
  | _,_,_=>none
 | some .string,some (.str l)=>match boundAV p hi l.length l.length with
  | some (c1,h)=>match boundAV p lo 0 h with
   | some (c2,a)=>some (c1&&c2,.val (.str ((l.take h).drop a)))
   | none=>none
  | none=>none
 | _,_=>none
theorem arrSl_val {P:Program} {p:Operand→Option AV} {t:TypeId} {x:Option AV} {lo hi:Option Operand} {r:Bool × Res} (h:arrSl P p t x lo hi=some r):∃ c v,r=(c,.val v):=by
 unfold arrSl at h
 split at h
 ·split at h
  ·injection h with h;exact ⟨_,_,h.symm⟩
  ·cases h
 ·split at h
  ·split at h
   ·injection h with h;exact ⟨_,_,h.symm⟩
   ·cases h
  ·cases h
 ·cases h
def byteAt (l:List UInt8) (i:Nat):Int:=((l[i]?).getD 0).toNat
def strEq (P:Program) (t:TypeId):Option AV→Option AV→Option Bool
 | some (.str a),some (.str b)=>match P.underlying t with
  | some .string=>some (a == b)
  | _=>none
 | _,_=>none
def native (P:Program) (p:Operand→Option AV) (loc:Nat→Option Blk) (nx:Nat) (o:Oper):Option (Bool × Res):=
 match o.op with
 | .move x=>(p x).map fun v=>(true,.val v)
 | .assign x=>(p x).map fun v=>(true,.val v)
 | .pick c a b=>match p c with
  | some (.bool t)=>(match t with | true=>p a | false=>p b).map fun v=>(true,.val v)
  | _=>none
 | .alloc t=>(zeroAV P t).map fun cs=>(true,.alloc (.flat t cs) (.lptr nx 0 0 0))
 | .box t x=>match p x with
  | some v=>(cellsAV v).map fun cs=>(true,.alloc (.flat t cs) (.lptr nx 0 0 0))
  | none=>none
 | .build t parts=>match zeroAV P t,mapParts p parts.toList with
  | some zs,some ps=>match P.underlying t with
   | some (.struct fields)=>match structPlaces P fields.toList with
    | some pl=>(fillAV (fun i=>pl[i]?) zs ps).map fun cs=>(true,.val (.agg cs))
    | none=>none
   | some (.array _ e)=>match szOf P e with
    | some n=>(fillAV (fun i=>some (i * n,n)) zs ps).map fun cs=>(true,.val (.agg cs))
    | none=>none
   | _=>none
  | _,_=>none
 | .buildSlice t len parts=>match P.underlying t with
  | some (.slice e)=>match szOf P e,zeroAV P e,mapParts p parts.toList with
   | some n,some zs,some ps=>
    if len=0∧0<n∧ps.isEmpty=true then some (true,.grow nx (.list e n 0 0 ⟨zs.map tagOf,fun _ _=>.top⟩) (.osl nx 0 0)) else
    match ownLit len n parts.toList ps zs with
    | some x=>some (true,.grow nx (.list e n 0 1 ⟨zs.map tagOf,fun _ _=>x⟩) (.osl nx 0 1))
    | none=>
    if zs.length=n∧0<n∧len * n≤65536 then (fillAV (fun i=>some (i * n,n)) (replC zs len) ps).map fun cs=>(true,.alloc (.flat e cs) (.lsl nx n 0 0 len (some len))) else none
   | _,_,_=>none
  | _=>none
 | .load t x=>match p x with
  | some (.lptr j wd row col)=>match loc j with
   | some (.flat _ cs)=>(loadAV P t cs (row * wd+col)).map fun v=>(true,.val v)
   | _=>none
  | some (.optr j v wd row col)=>match loc j with
   | some (.list _ wd' v' _ get)=>match Nat.beq wd wd'&&Nat.beq v v' with
    | true=>(loadX P t wd get row col).map fun x=>(true,.val x)
    | false=>none
   | _=>none
  | some (.xptr wd _ get row col)=>(loadX P t wd get row col).map fun v=>(true,.val v)
  | _=>none
 | .store t a x=>match p a,p x with
  | some (.lptr j wd row col),some v=>match loc j,cellsAV v,szOf P t with
   | some (.flat u cs),some xs,some n=>
    if xs.length=n∧(row * wd+col)+n≤cs.length∧xs.all isCell=true then some (true,.store j (.flat u (ovw cs (row * wd+col) xs))) else none
   | _,_,_=>none
  | some (.optr j v wd row col),some x=>match loc j,cellsAV x,szOf P t with
   | some (.list u wd' v' n get),some xs,some m=>match (Nat.beq xs.length m&&Nat.ble (col+m) wd)&&((Nat.beq wd wd'&&Nat.beq v v')&&(xs.all isCell&&xs.all noL0)) with
    | true=>some (true,.store j (.list u wd v n (setG get row col xs)))
    | false=>none
   | _,_,_=>none
  | _,_=>none
 | .nilCheck x=>match p x with
  | some (.optr j v wd row col)=>some (true,.val (.optr j v wd row col))
  | some (.lptr j wd row col)=>some (true,.val (.lptr j wd row col))
  | some (.xptr wd n get row col)=>some (true,.val (.xptr wd n get row col))
  | _=>none
 | .fieldAddr s x f=>match p x,fieldPlaceAV P s f with
  | some (.optr j v wd row col),some off=>some (true,.val (.optr j v wd row (col+off)))
  | some (.lptr j wd row col),some off=>some (true,.val (.lptr j wd row (col+off)))
  | some (.xptr wd n get row col),some off=>some (true,.val (.xptr wd n get row (col+off)))
  | _,_=>none
 | .field s x f=>match p x,P.underlying s with
  | some (.agg cs),some (.struct fields)=>match fields[f]? with
   | some fd=>(partAV P fd.type cs fd.offset).map fun v=>(true,.val v)
   | none=>none
  | _,_=>none
 | .indexAddr t x ix=>match p x,p ix,P.underlying t with
  | some (.lptr j wd row col),some (.int _ i),some (.array len e)=>match szOf P e with
   | some n=>some (decide (0≤i∧i<len),.val (.lptr j wd row (col+i.toNat * n)))
   | none=>none
  | some (.xptr wd m get row col),some (.int _ i),some (.array len e)=>match szOf P e with
   | some n=>some (decide (0≤i∧i<len),.val (.xptr wd m get row (col+i.toNat * n)))
   | none=>none
  | some (.lsl j wd row col len _),some (.int _ i),some (.slice e)=>match szOf P e with
   | some n=>if n=wd then some (decide (0≤i∧i<len),.val (.lptr j wd (row+i.toNat) col)) else none
   | none=>none
  | some (.xsl wd m get row len _),some (.int _ i),some (.slice e)=>match szOf P e with
   | some n=>if n=wd then some (decide (0≤i∧i<len),.val (.xptr wd m get (row+i.toNat) 0)) else none
   | none=>none
  | some (.osl j v len),some (.int _ i),some (.slice e)=>match szOf P e with
   | some n=>some (decide (0≤i∧i<len),.val (.optr j v n i.toNat 0))
   | none=>none
  | some (.oss j v wd row len),some (.int _ i),some (.slice e)=>match szOf P e with
   | some n=>if n=wd then some (decide (0≤i∧i<len),.val (.optr j v wd (row+i.toNat) 0)) else none
   | none=>none
  | _,_,_=>none
 | .index t x ix=>match p x,p ix,P.underlying t with
  | some (.agg cs),some (.int _ i),some (.array len e)=>match szOf P e with
   | some n=>(partAV P e cs (i.toNat * n)).map fun v=>(decide (0≤i∧i<len),.val v)
   | none=>none
  | some (.str l),some (.int _ i),some .string=>some (decide (0≤i∧i<l.length),.val (.int .u8 (byteAt l i.toNat)))
  | _,_,_=>none
 | .makeMap t none=>makeMap2 P nx t
 | .lookup t m k ok=>match p m,p k with
  | some x,some key=>lookAV2 P loc t x key ok
  | _,_=>none
 | .mapUpdate t m k v=>match p m,p k,p v with
  | some x,some key,some y=>putAV2 P loc t x key y
  | _,_,_=>none
 | .insert t m k v=>match p m,p k,p v with
  | some x,some key,some y=>putAV2 P loc t x key y
  | _,_,_=>none
 | .mapEntry t m k=>match p m,p k with
  | some x,some key=>entAV P loc t x key
  | _,_=>none
 | .entryStore _ m s v=>match p m,p s,p v with
  | some x,some q,some y=>entStAV loc x q y
  | _,_,_=>none
 | .range t x=>match p x with
  | some y=>rangeAV P nx t y
  | none=>none
 | .entry x=>match p x with
  | some y=>lastAV loc y
  | none=>none
 | .makeFunc f xs ys=>match mapEv p xs.toList,mapEv p ys.toList with
  | some us,some vs=>some (true,.val (.fn f us vs))
  | _,_=>none
 | .extract x i=>match p x with
  | some (.tup vs)=>(vs[i]?).map fun v=>(true,.val v)
  | _=>none
 | .binOp b t x y _=>match b with
  | .quo=>match p x,p y with
   | some (.int k m),some (.int k' n)=>match decide (k=k') with
    | true=>some (!(decide (n=0)),.val (.int k (k.wrap (m.tdiv n))))
    | false=>none
   | _,_=>none
  | .rem=>match p x,p y with
   | some (.int k m),some (.int k' n)=>match decide (k=k') with
    | true=>some (!(decide (n=0)),.val (.int k (m.tmod n)))
    | false=>none
   | _,_=>none
  | .eql=>match nilCmp P t (p x) (p y) with
   | some g=>some (g,.val (.bool false))
   | none=>match ptrNil P t (p x) (p y) with
    | true=>some (true,.val (.bool false))
    | false=>match strEq P t (p x) (p y) with
     | some c=>some (true,.val (.bool c))
     | none=>(eqVals P t (p x) (p y)).map fun c=>(true,.val (.bool c))
  | .neq=>match nilCmp P t (p x) (p y) with
   | some g=>some (g,.val (.bool true))
   | none=>match ptrNil P t (p x) (p y) with
    | true=>some (true,.val (.bool true))
    | false=>match strEq P t (p x) (p y) with
     | some c=>some (true,.val (.bool (!c)))
     | none=>(eqVals P t (p x) (p y)).map fun c=>(true,.val (.bool (!c)))
  | .add=>match p x,p y,P.underlying t with
   | some (.str a),some (.str b),some .string=>some (decide (a.length+b.length≤maxL),.val (.str (a ++ b)))
   | _,_,_=>none
  | _=>none
 | .slice t x lo hi none=>match arrSl P p t (p x) lo hi with
  | some r=>some r
  | none=>match p x,sliceT P t with
  | some v,some n=>match spanAV n v with
   | some len=>match boundAV p hi len (spareAV loc len v) with
    | some (c1,h)=>match boundAV p lo 0 h with
     | some (c2,l)=>some (c1&&c2,.val (cutAV n l h (fun c=>c.map (· - l)) v))
     | none=>none
    | none=>none
   | none=>none
  | _,_=>none
 | .slice t x lo (some hi) (some mx)=>match p x,sliceT P t with
  | some v,some n=>match spanAV n v with
   | some len=>match boundAV p (some mx) 0 len with
    | some (c0,k)=>match boundAV p (some hi) 0 k with
     | some (c1,h)=>match boundAV p lo 0 h with
      | some (c2,l)=>some (c0&&(c1&&c2),.val (cut3AV n l h (fun _=>some (k - l)) v))
      | none=>none
     | none=>none
    | none=>none
   | none=>none
  | _,_=>none
 | .call c=>match c.callee with
  | .builtin .len=>match c.args.toList,c.argTypes.toList with
   | [x],[t]=>match p x,sliceT P t with
    | some v,some _=>(lenAV v).map fun (n:Nat)=>(true,Res.val (.int .i64 (n:Int)))
    | _,_=>none
   | _,_=>none
  | .builtin .append=>match c.args.toList,c.argTypes.toList with
   | [x,y],[t,t']=>match Nat.beq t t',p x,p y with
    | true,some v,some u=>appAV P loc nx t v u
    | _,_,_=>none
   | _,_=>none
  | .builtin .clear=>match c.args.toList,c.argTypes.toList with
   | [x],[t]=>match p x with
    | some v=>clearAV P loc t v
    | none=>none
   | _,_=>none
  | .value f=>match p f,mapEv p c.args.toList with
   | some g,some vs=>(callAV P g vs).map fun r=>(true,r)
   | _,_=>none
  | _=>none
 | _=>none
def plainOf (p:Operand→Option AV) (x:Operand):Option Value:=match p x with
 | some v=>plainV v
 | none=>none
def rhoOf (p:Operand→Option AV) (x:Operand):Value:=match plainOf p x with
 | some v=>v
 | none=>undef
def notSelect:Op→Bool
 | .select _ _=>false
 | .defer _=>false
 | _=>true
def allPlain (p:Operand→Option AV):List Operand→Bool
 | []=>true
 | x :: xs=>match plainOf p x with
  | some _=>allPlain p xs
  | none=>false
def byCalm (P:Program) (p:Operand→Option AV) (o:Oper):Option (Bool × Res):=
 match notSelect o.op&&allPlain p o.op.operands.toList with
 | true=>match calm P (execOp (rhoOf p) o) with
  | some (.value v)=>(ofV v).map fun x=>(true,.val x)
  | _=>none
 | false=>none
def opRes (P:Program) (p:Operand→Option AV) (loc:Nat→Option Blk) (nx:Nat) (o:Oper):Option (Bool × Res):=
 match native P p loc nx o with
 | some r=>some r
 | none=>byCalm P p o
def ofConst (v:Value):Option AV:=ofV v
def evO (env:List AV):Operand→Option AV
 | .tmp t=>env[t]?
 | .const v=>ofConst v
 | .func f=>some (.fn (.func f) [] [])
 | .global _=>none
end Go.Proofs.YtkpligkggnjcoaaGreatDoor.Ev
/-! EvC -/
namespace Go.Proofs.YtkpligkggnjcoaaGreatDoor.Ev
open Go.RowKit
theorem conf_tagOf (x:AV):conf (tagOf x) x=x:=by
 cases x<;>try rfl
 rename_i wd n g row len cap
 simp only [tagOf]
 split
 ·rename_i ks hk
  simp only [conf,sliceOf,slN,slF,slRow,slLen,slCap,ckOf_is (skIs_of hk)]
 ·rfl
theorem ckEq_eq {a b:CK} (h:ckEq a b=true):a=b:=by
 cases a<;>cases b<;>simp only [ckEq] at h<;>try (first | rfl | cases h;done)
 ·rw [of_decide_eq_true h]
 ·simp only [Bool.and_eq_true] at h
  rw [Nat.eq_of_beq_eq_true h.1,skLEq_eq _ _ h.2]
theorem mapTag_conf:∀ {cs:List AV} {k:Nat} {x:AV},cs[k]?=some x→conf (ckAt (cs.map tagOf) k) x=x
 | [],k,x,h=>by simp at h
 | y :: cs,0,x,h=>by simp at h;subst h;exact conf_tagOf _
 | y :: cs,k+1,x,h=>by simp only [List.map_cons,ckAt];exact mapTag_conf (by simpa using h)
theorem conf_conf (c:CK) (x:AV):conf c (conf c x)=conf c x:=by
 cases c<;>rfl
theorem conf_ck {c:CK} {x:AV} (h:ckEq c (tagOf x)=true):conf c x=x:=by rw [ckEq_eq h];exact conf_tagOf x
theorem setG_cell (g:Get AV) (row col:Nat) (xs:List AV) (i k:Nat):(setG g row col xs).cell i k=if i=row∧col≤k∧k<col+xs.length then (xs[k - col]?).getD .top else g.cell i k:=by
 have hb:(Nat.beq i row&&(Nat.ble col k&&Nat.blt k (col+xs.length)))=decide (i=row∧col≤k∧k<col+xs.length):=by
  apply Bool.eq_iff_iff.2
  simp [Nat.beq_eq,Nat.ble_eq,Nat.blt_eq]
 unfold setG
 simp only [Get.cell]
 split
 ·rename_i hall
  simp only [setR,hb]
  by_cases hc:i=row∧col≤k∧k<col+xs.length
  ·rw [if_pos hc,decide_eq_true hc]
   simp only
   have hlt:k - col<xs.length:=by omega
   have:=List.all_eq_true.1 hall (xs[k - col],k - col) (by rw [List.mem_zipIdx_iff_getElem?];exact List.getElem?_eq_getElem hlt)
   simp only at this
   rw [List.getElem?_eq_getElem hlt,Option.getD_some]
   rw [show col+(k - col)=k by omega] at this
   exact conf_ck this
  ·rw [if_neg hc,decide_eq_false hc]
 ·simp only [setR,hb]
  by_cases hc:i=row∧col≤k∧k<col+xs.length
  ·rw [if_pos hc,decide_eq_true hc];rfl
  ·rw [if_neg hc,decide_eq_false hc];rfl
theorem tagsOf_conf {wd:Nat} {cs:List AV} (j:Nat) (x:AV) (h:cs[j]?=some x):conf (ckAt (tagsOf wd cs) (j % wd)) x=x:=by
 unfold tagsOf
 simp only
 split
 ·rename_i hall
  have:=List.all_eq_true.1 hall (x,j) (by rw [List.mem_zipIdx_iff_getElem?];exact h)
  simp only at this
  rw [ckEq_eq this];exact conf_tagOf x
 ·rfl
theorem ckLEq_eq:∀ {a b:List CK},ckLEq a b=true→a=b
 | [],[],_=>rfl
 | a :: es,b :: bs,h=>by
  simp only [ckLEq,Bool.and_eq_true] at h
  rw [ckEq_eq h.1,ckLEq_eq h.2]
 | [],b :: bs,h=>by simp [ckLEq] at h
 | a :: es,[],h=>by simp [ckLEq] at h
theorem Born.push {n:Nat} {es:Array MapEntry} {clock:Nat} (h:Born n es clock) (hs:es.size=n) {x:MapEntry} (hx:x.born=clock):Born (n+1) (es.push x) (clock+1):=by
 refine ⟨by rw [h.1],fun i y hy=>?_⟩
 by_cases e:i<es.size
 ·rw [Array.getElem?_push_lt e] at hy
  exact h.2 i y (by rw [Array.getElem?_eq_getElem e];exact hy)
 ·have hlt:=(Array.getElem?_eq_some_iff.1 hy).1
  rw [Array.size_push] at hlt
  have:i=es.size:=by omega
  subst this
  simp at hy;subst hy
  rw [hx,h.1,hs]
theorem Born.modify {n:Nat} {es:Array MapEntry} {clock:Nat} (h:Born n es clock) {i:Nat} {f:MapEntry→MapEntry} (hf:∀ x,(f x).born=x.born):Born n (es.modify i f) clock:=by
 refine ⟨h.1,fun k y hy=>?_⟩
 rw [Array.getElem?_modify] at hy
 split at hy
 ·rw [Option.map_eq_some_iff] at hy
  obtain ⟨x,hx,rfl⟩:=hy
  rw [hf];exact h.2 k x hx
 ·exact h.2 k y hy
def EsR (w:World) (A:Nat→Prop) (ag:Bool) (wd n:Nat) (get:Get AV) (es:Array MapEntry):Prop:=
 ∃ u:Nat→Nat→Value,es.size=n∧(∀ i,i<n→EntryIs ag wd (u i) es[i]?)∧∀ i k,i<n→k<wd→VR w A noR (get i k) (u i k)
def IterE (w:World) (A:Nat→Prop) (n:Nat) (get:Get AV) (es:Array MapEntry) (clock:Nat):Prop:=Born n es clock∧EsR w A false 2 n get es
def isO:Blk→Bool
 | .list ..=>false
 | _=>true
def BlkR (w:World) (A:Nat→Prop) (r:Rr):Blk→Nat→Prop
 | .flat t cs,b=>∃ us:Array Value,w.heap[b]?=some (.cells us t (0,0))∧VRs w A r cs us
 | .map _ ag wd n get,b=>∃ es clock,w.heap[b]?=some (.map es clock)∧Born n es clock∧EsR w A ag wd n get es
 | _,_=>False
def RowsR (w:World) (A:Nat→Prop) (get:Get AV) (n wd:Nat) (xs:List Value):Prop:=∀ i k,i<n→k<wd→∃ u,xs[i * wd+k]?=some u∧VR w A noR (get i k) u
def pendAt:Option (Nat × Nat)→Nat→Option Nat
 | some (q,jp),i=>if i=q then some jp else none
 | none,_=>none
def MemberR (w:World) (A:Nat→Prop) (r:Rr) (j:Nat) (st:TypeId) (wd hk:Nat) (ht:TypeId) (hwd:Nat) (get:Get AV) (hl:Nat→Nat) (hg:HG) (i p:Nat):Prop:=
 r (.lo j (2 * i))=some (p+1)∧∃ (us:Array Value) (e c:Nat) (xs:List Value),w.heap[p]?=some (.cells us st (0,0))∧us.size=wd∧(∀ k,k<wd→k≠hk→∃ u,us[k]?=some u∧VR w A noR (get i (k+1)) u) ∧
  us[hk]?=some (.slice (slBase e) (hl i) c)∧r (.lo j (2 * i+1))=some e∧(e=0→hl i=0∧c=0)∧(hl i≤c∧hl i≤maxL)∧w.ownsRow 0 ht hwd (.slice (slBase e) (hl i) c) (hl i) xs∧RowsR w A (hg i) (hl i) hwd xs
def PoolE (w:World) (A:Nat→Prop) (r:Rr) (j:Nat) (st:TypeId) (wd hk:Nat) (ht:TypeId) (hwd n:Nat) (get:Get AV) (hl:Nat→Nat) (hg:HG) (pend:Option (Nat × Nat)) (es:Array MapEntry) (clock:Nat):Prop:=
 (es.size=n∧Born n es clock)∧hk<wd∧0<hwd ∧
  (∀ i,i<n→∃ x p,es[i]?=some x∧VR w A noR (get i 0) x.key∧x.val=.pointer (some ⟨p,0,none⟩)∧match pendAt pend i with
   | some jp=>r (.obj jp)=some p
   | none=>MemberR w A r j st wd hk ht hwd get hl hg i p) ∧
  (∀ v u b,r (.lo j v)=some (b+1)→r (.lo j u)=some (b+1)→v=u)∧(∀ v,r (.ln j v)=none)∧(∀ v b,r (.lo j v)=some b→v<2 * n)∧(∀ q jp,pend=some (q,jp)→q<n∧r (.lo j (2 * q))=none∧r (.lo j (2 * q+1))=none)
def FmapE (w:World) (A:Nat→Prop) (r:Rr) (ks vs:List AV) (es:Array MapEntry):Prop:=
 es.size=ks.length∧vs.length=ks.length∧∀ i,i<ks.length→∃ x kx vx,es[i]?=some x∧ks[i]?=some kx∧vs[i]?=some vx∧VR w A noR kx x.key∧VR w A r vx x.val
def isL:Blk→Nat→Prop
 | .list _ _ v' _ _,v=>v≤v'
 | .pool _ _ _ _ _ _ n _ _ _ _,v=>v<2 * n
 | _,_=>False
def MemR (w:World) (A:Nat→Prop) (r:Rr) (j:Nat):Blk→Prop
 | .flat t cs=>∃ b,r (.obj j)=some b∧BlkR w A r (.flat t cs) b
 | .list t wd v n get=>∃ e c xs,r (.lo j v)=some e∧r (.lc j v)=some c∧r (.ln j v)=some n∧(e=0→n=0∧c=0)∧(n≤c∧n≤maxL)∧0<wd∧w.ownsRow 0 t wd (.slice (slBase e) n c) n xs∧RowsR w A get n wd xs
 | .map t ag wd n get=>∃ b,r (.obj j)=some b∧BlkR w A r (.map t ag wd n get) b
 | .fmap _ ks vs=>∃ b es clock,r (.obj j)=some b∧w.heap[b]?=some (.map es clock)∧FmapE w A r ks vs es
 | .pool _ st wd hk ht hwd n get hl hg pend=>∃ b es clock,r (.obj j)=some b∧w.heap[b]?=some (.map es clock)∧PoolE w A r j st wd hk ht hwd n get hl hg pend es clock
 | .iter m seen=>∃ b bm sn n g,r (.obj j)=some b∧w.heap[b]?=some (.mapIter (some bm) n sn n)∧VR w A noR m (.map (some bm))∧mrows m=some (n,g)∧sn.toList=seen.reverse
 | .gone=>True
structure Cx (w:World) (A:Nat→Prop) (r:Rr) (loc:Nat→Option Blk) (p:Operand→Option AV) (ev:Operand→Value):Prop where
 val:∀ x v,p x=some v→VR w A r v (ev x)
 mem:∀ j k,loc j=some k→MemR w A r j k
def Does (P:Program) (w:World) (A:Nat→Prop) (r:Rr) (loc:Nat→Option Blk) (nx:Nat) (s:Sem Next):Res→Prop
 | .val x=>∃ v,s.run P w=.ok (.value v) w∧VR w A r x v
 | .alloc (.flat t cs) x=>∃ us v,s.run P w=.ok (.value v) (w.alloc (.cells us t))∧VRs w A r cs us∧∀ (w':World) (A':Nat→Prop) (r':Rr),r' nx=some w.heap.size→VR w' A' r' x v
 | .alloc (.list ..) _=>False
 | .alloc (.map _ _ _ n _) x=>n=0∧∃ v,s.run P w=.ok (.value v) (w.alloc (.map #[] 0))∧∀ (w':World) (A':Nat→Prop) (r':Rr),r' nx=some w.heap.size→VR w' A' r' x v
 | .alloc (.fmap _ ks vs) x=>ks=[]∧vs=[]∧∃ v,s.run P w=.ok (.value v) (w.alloc (.map #[] 0))∧∀ (w':World) (A':Nat→Prop) (r':Rr),r' nx=some w.heap.size→VR w' A' r' x v
 | .alloc (.pool _ _ wd hk _ hwd n _ _ _ pend) x=>(n=0∧pend=none∧hk<wd∧0<hwd)∧∃ v,s.run P w=.ok (.value v) (w.alloc (.map #[] 0))∧∀ (w':World) (A':Nat→Prop) (r':Rr),r' nx=some w.heap.size→VR w' A' r' x v
 | .alloc (.iter m seen) x=>seen=[]∧∃ v bm n g,s.run P w=.ok (.value v) (w.alloc (.mapIter (some bm) n #[] n))∧VR w A noR m (.map (some bm))∧mrows m=some (n,g)∧∀ (w':World) (A':Nat→Prop) (r':Rr),r' nx=some w.heap.size→VR w' A' r' x v
 | .alloc .gone _=>False
 | .grow j (.list t wd v n get) x=>x=.osl j v n∧∃ (ob:Option Nat) (e c:Nat) (xs:List Value) (w1:World),(∀ b,ob=some b→∃ v',v=v'+1∧r (.lo j v')=some (b+1))∧(v=0∧j=nx∨∃ t' wd' v' n' get',v=v'+1∧loc j=some (.list t' wd' v' n' get')) ∧
   s.run P w=.ok (.value (.slice (slBase e) n c)) w1∧w1.ownsRow 0 t wd (.slice (slBase e) n c) n xs∧RowsR w A get n wd xs∧w.grownBy w1 ob∧(∀ b,e=b+1→ob=some b∨w.heap.size≤b)∧(e=0→n=0∧c=0)∧(n≤c∧n≤maxL)∧0<wd
 | .store j (.list t wd v n get)=>∃ (t':TypeId) (n':Nat) (get':Get AV) (b c:Nat) (xs:List Value) (w1:World),loc j=some (.list t' wd v n' get')∧r (.lo j v)=some (b+1)∧r (.lc j v)=some c∧r (.ln j v)=some n ∧
   s.run P w=.ok .skip w1∧w.grownBy w1 (some b)∧w1.ownsRow 0 t wd (.slice (some ⟨b,0,none⟩) n c) n xs∧RowsR w A get n wd xs∧(n≤c∧n≤maxL)∧0<wd
 | .store j (.map _ ag wd n get)=>∃ b es clock es' clock' k,r j=some b∧loc j=some k∧isO k=true∧(∀ v,¬ isL k v)∧w.heap[b]?=some (.map es clock)∧s.run P w=.ok .skip { w with heap:=w.heap.setIfInBounds b (.map es' clock') }∧Born n es' clock'∧EsR w A ag wd n get es'
 | .store j (.flat t cs)=>∃ b cur us k,r j=some b∧loc j=some k∧(∀ v,¬ isL k v)∧w.heap[b]?=some (.cells cur t (0,0))∧s.run P w=.ok .skip (w.setRow b us)∧VRs w A r cs us
 | .call f args=>∃ vs,s.run P w=.ok (.enter f vs) w∧VRs w A r args vs
 | .turn f args=>∃ vs,s.run P w=.ok (.enter f vs) w∧VRs w A r args vs
 | .put j (.list t wd v n get) x=>∃ (t':TypeId) (n':Nat) (get':Get AV) (b c:Nat) (xs:List Value) (u:Value) (w1:World),loc j=some (.list t' wd v n' get')∧r (.lo j v)=some (b+1)∧r (.lc j v)=some c∧r (.ln j v)=some n ∧
   s.run P w=.ok (.value u) w1∧VR w A r x u∧w.grownBy w1 (some b)∧w1.ownsRow 0 t wd (.slice (some ⟨b,0,none⟩) n c) n xs∧RowsR w A get n wd xs∧(n≤c∧n≤maxL)∧0<wd
 | .put j (.map _ ag wd n get) x=>∃ b es clock es' clock' k u,r j=some b∧loc j=some k∧isO k=true∧(∀ v,¬ isL k v)∧w.heap[b]?=some (.map es clock)∧s.run P w=.ok (.value u) { w with heap:=w.heap.setIfInBounds b (.map es' clock') }∧VR w A r x u∧Born n es' clock'∧EsR w A ag wd n get es'
 | .store j (.fmap _ ks vs)=>∃ b es clock es' clock' k,r j=some b∧loc j=some k∧isO k=true∧(∀ v,¬ isL k v)∧w.heap[b]?=some (.map es clock)∧s.run P w=.ok .skip { w with heap:=w.heap.setIfInBounds b (.map es' clock') }∧FmapE w A r ks vs es'
 | .store j (.pool t st wd hk ht hwd n get hl hg pend)=>∃ b es clock es' clock' k,r j=some b∧loc j=some k∧isO k=true∧(∀ v,isL k v→isL (.pool t st wd hk ht hwd n get hl hg pend) v)∧w.heap[b]?=some (.map es clock) ∧
   s.run P w=.ok .skip { w with heap:=w.heap.setIfInBounds b (.map es' clock') }∧PoolE w A r j st wd hk ht hwd n get hl hg pend es' clock'
 | .fresh f _ args=>∃ vs,s.run P w=.ok (.enter f vs) w∧VRs w A r args vs
 | _=>False
section
variable {P:Program} {w:World} {A:Nat→Prop} {r:Rr}
section
variable {A':Nat→Prop} {r':Rr}
theorem VR.weaken0 {x:AV} {v:Value} (hx:noL0 x=true) (h:VR w A r x v) (hA:∀ b,A' b→A b):VR w A' r' x v:=by
 cases h with
 | top=>exact .top
 | int=>exact .int
 | bool=>exact .bool
 | str=>exact .str
 | nilptr=>exact .nilptr
 | lptr h ho=>simp [noL0] at hx
 | xptr u hb hn hc hv ho hrow=>exact .xptr u hb (fun h=>hn (hA _ h)) hc (fun i k hi hk=>(hv i k hi hk).mono ⟨Nat.le_refl _,fun _ _ _=>rfl,fun b h=>.inl (hA b h)⟩ (fun _ _ h=>h)) ho hrow
 | nilsl=>exact .nilsl
 | lsl h ho hl hcap=>simp [noL0] at hx
 | osl a b c d e=>simp [noL0] at hx
 | oss a b c d e=>simp [noL0] at hx
 | optr a b c d=>simp [noL0] at hx
 | xsl b o u hl hcap hn ha hc hv=>
  exact .xsl b o u hl hcap hn (fun h0=>⟨(ha h0).1,(ha h0).2.1,fun h=>(ha h0).2.2 (hA _ h)⟩) hc (fun h0 i k hi hk=>(hv h0 i k hi hk).mono ⟨Nat.le_refl _,fun _ _ _=>rfl,fun b h=>.inl (hA b h)⟩ (fun _ _ h=>h))
 | fn hx1 hy h1 h2=>
  simp [noL0] at hx
  obtain ⟨e1,e2⟩:=hx
  subst e1;subst e2
  exact .fn hx1 hy (fun i x u hxx _=>by simp at hxx) (fun i x u hxx _=>by simp at hxx)
 | nilfn=>exact .nilfn
 | yv h=>simp [noL0] at hx
 | nilif=>exact .nilif
 | errif=>exact .errif
 | nilmp=>exact .nilmp
 | mp h=>simp [noL0] at hx
 | xmp b clock es u hb hn he hs hu hv=>
  exact .xmp b clock es u hb (fun h=>hn (hA _ h)) he hs hu (fun i k hi hk=>(hv i k hi hk).mono ⟨Nat.le_refl _,fun _ _ _=>rfl,fun b h=>.inl (hA b h)⟩ (fun _ _ h=>h))
 | xpool h=>exact .xpool (h.mono ⟨Nat.le_refl _,fun _ _ _=>rfl,fun b h=>.inl (hA b h)⟩ (fun _ _ h=>h))
 | agg hx1 h1=>simp [noL0] at hx
 | tup hx1 h1=>simp [noL0] at hx
theorem VRs.weaken0 {xs:List AV} {us:Array Value} (hx:xs.all noL0=true) (h:VRs w A r xs us) (hA:∀ b,A' b→A b):VRs w A' r' xs us:=
 ⟨h.1,fun i x u hi hu=>(h.2 i x u hi hu).weaken0 (List.all_eq_true.1 hx x (List.mem_of_getElem? hi)) hA⟩
end
theorem own_cell {t:TypeId} {wd n b c:Nat} {xs:List Value} {get:Get AV} (h:w.ownsRow 0 t wd (.slice (some ⟨b,0,none⟩) n c) n xs) (hr:RowsR w A get n wd xs) {i k:Nat} (hi:i<n) (hk:k<wd) :
  w.cell? ⟨b,i * wd+k,none⟩=some (xs.getD (i * wd+k) undef)∧VR w A noR (get i k) (xs.getD (i * wd+k) undef):=by
 obtain ⟨u,hu,hv⟩:=hr i k hi hk
 have hlt:i * wd+k<n * wd:=by
  have:(i+1) * wd≤n * wd:=Nat.mul_le_mul_right _ hi
  rw [Nat.succ_mul] at this;omega
 have hc:=h.cellAt (i * wd+k) hlt
 simp only [List.getD_eq_getElem?_getD,hu,Option.getD_some]
 exact ⟨by rw [hc,hu],hv⟩
theorem run_sizeOf' {t:TypeId} {n:Nat} (h:szOf P t=some n):(sizeOf t).run P w=.ok n w:=by
 unfold szOf at h
 cases hi:P.info? t with
 | none=>simp [hi] at h
 | some i=>simp [hi] at h;simp [sizeOf,typeInfo,hi,h]
theorem run_isAgg' {t:TypeId} {b:Bool} (h:aggB P t=some b):(isAgg t).run P w=.ok b w:=by
 unfold aggB at h
 cases hu:P.underlying t with
 | none=>simp [hu] at h
 | some d=>simp only [isAgg,Sem.run_bind,run_underlying hu,Result.andThen_ok];cases d<;>simp [hu] at h<;>simp [← h]
theorem run_zero' {t:TypeId} {cs:List AV} (h:zeroAV P t=some cs):∃ v,(zeroValue t).run P w=.ok v w∧VRs w A r cs v.cells:=by
 unfold zeroAV at h
 cases hi:P.info? t with
 | none=>simp [hi] at h
 | some i=>
  cases hz:i.zero with
  | none=>simp [hi,hz] at h
  | some v=>
   simp only [hi,hz] at h
   obtain ⟨hl,hr⟩:=ofScals_rel (w:=w) (A:=A) (r:=r) h
   exact ⟨v,by simp [zeroValue,typeInfo,hi,hz],by simpa using hl,fun i x u hx hu=>hr i x u hx (by simpa using hu)⟩
theorem VRs.one {x:AV} {v:Value} (h:VR w A r x v):VRs w A r [x] #[v]:=by
 refine ⟨rfl,fun i y u hy hu=>?_⟩
 cases i with
 | zero=>simp at hy hu;subst hy;subst hu;exact h
 | succ i=>simp at hy
theorem cells_rel {x:AV} {v:Value} {cs:List AV} (h:cellsAV x=some cs) (k:VR w A r x v):VRs w A r cs v.cells:=by
 cases k with
 | agg hx h1=>simp [cellsAV] at h;subst h;exact ⟨hx,h1⟩
 | top=>simp [cellsAV] at h
 | tup hx h1=>simp [cellsAV] at h
 | int=>simp [cellsAV] at h;subst h;exact VRs.one .int
 | bool=>simp [cellsAV] at h;subst h;exact VRs.one .bool
 | str=>simp [cellsAV] at h;subst h;exact VRs.one .str
 | nilptr=>simp [cellsAV] at h;subst h;exact VRs.one .nilptr
 | lptr a b=>simp [cellsAV] at h;subst h;exact VRs.one (.lptr a b)
 | xptr u a b c d e f=>simp [cellsAV] at h;subst h;exact VRs.one (.xptr u a b c d e f)
 | nilsl=>simp [cellsAV] at h;subst h;exact VRs.one .nilsl
 | lsl a b c d=>simp [cellsAV] at h;subst h;exact VRs.one (.lsl a b c d)
 | xsl b o u a c d e f g=>simp [cellsAV] at h;subst h;exact VRs.one (.xsl b o u a c d e f g)
 | osl a b c d e=>simp [cellsAV] at h;subst h;exact VRs.one (.osl a b c d e)
 | oss a b c d e=>simp [cellsAV] at h;subst h;exact VRs.one (.oss a b c d e)
 | optr a b c d=>simp [cellsAV] at h;subst h;exact VRs.one (.optr a b c d)
 | fn a b c d=>simp [cellsAV] at h;subst h;exact VRs.one (.fn a b c d)
 | nilfn=>simp [cellsAV] at h;subst h;exact VRs.one .nilfn
 | yv a=>simp [cellsAV] at h;subst h;exact VRs.one (.yv a)
 | nilif=>simp [cellsAV] at h;subst h;exact VRs.one .nilif
 | errif=>simp [cellsAV] at h;subst h;exact VRs.one .errif
 | nilmp=>simp [cellsAV] at h;subst h;exact VRs.one .nilmp
 | mp a=>simp [cellsAV] at h;subst h;exact VRs.one (.mp a)
 | xmp b c es u a1 a2 a3 a4 a5 a6=>simp [cellsAV] at h;subst h;exact VRs.one (.xmp b c es u a1 a2 a3 a4 a5 a6)
 | xpool a=>
  simp [cellsAV] at h;subst h
  cases a with
  | xmp b c es u a1 a2 a3 a4 a5 a6=>exact VRs.one (.xpool (.xmp b c es u a1 a2 a3 a4 a5 a6))
theorem oneCell_rel {x:AV} {v:Value} (h:isCell x=true) (k:VR w A r x v):v.oneCell'=true:=by
 cases k<;>first | rfl | (simp [isCell] at h;done) | (rename_i a;cases a;rfl)
theorem addr_add (b o n:Nat):(⟨b,o,none⟩:Addr).add n=⟨b,o+n,none⟩:=by unfold Addr.add;split<;>simp_all
theorem VRs.take_drop {cs:List AV} {us:Array Value} (h:VRs w A r cs us) (i n:Nat) (hn:i+n≤cs.length):VRs w A r ((cs.drop i).take n) (us.extract i (i+n)):=by
 refine ⟨by simp;have:=h.1;omega,fun k x u hx hu=>?_⟩
 rw [List.getElem?_take] at hx
 split at hx
 ·rename_i hk
  rw [List.getElem?_drop] at hx
  rw [Array.getElem?_extract] at hu
  split at hu
  ·exact h.2 _ x u hx hu
  ·simp at hu
 ·simp at hx
theorem load_flat {t:TypeId} {cs:List AV} {us:Array Value} {tt:TypeId} {b col:Nat} {x:AV} (hh:w.heap[b]?=some (.cells us tt (0,0))) (hc:VRs w A r cs us) (h:loadAV P t cs col=some x) :
  ∃ v,(loadVar t ⟨b,col,none⟩).run P w=.ok v w∧VR w A r x v:=by
 have cell:∀ i,w.cell? ⟨b,i,none⟩=us[i]?:=fun i=>by simp [World.cell?,hh]
 unfold loadAV at h
 split at h
 ·rename_i n hagg hsz
  split at h
  ·rename_i hle
   injection h with h;subst h
   have hl:=run_loadCells (P:=P) w ⟨b,col,none⟩ n (fun j=>us.getD (col+j) undef) (fun j hj=>by
    rw [addr_add,cell,Array.getD_eq_getD_getElem?,Array.getElem?_eq_getElem (by rw [← hc.1];omega)];rfl)
   refine ⟨_,by simp only [loadVar,Sem.run_bind,run_isAgg' hagg,Result.andThen_ok,if_true,run_sizeOf' hsz,hl,Sem.run_pure];rfl,?_⟩
   have e:((List.range n).map fun j=>us.getD (col+j) undef).toArray=us.extract col (col+n):=by
    apply Array.ext_getElem?
    intro i
    rw [Array.getElem?_extract]
    have:=hc.1
    by_cases hi:i<n
    ·simp [hi,Array.getD_eq_getD_getElem?,Array.getElem?_eq_getElem (show col+i<us.size by omega),show i<min (col+n) us.size - col by omega]
    ·simp [hi,show ¬ i<min (col+n) us.size - col by omega]
   rw [e]
   exact .agg (hc.take_drop col n hle).1 (hc.take_drop col n hle).2
  ·simp at h
 ·rename_i n hagg hsz
  obtain ⟨u,hu,hr⟩:=hc.get h
  exact ⟨u,by simp only [loadVar,Sem.run_bind,run_isAgg' hagg,Result.andThen_ok,Bool.false_eq_true,if_false,run_load,cell,hu],hr⟩
 ·simp at h
theorem rngGet_length (get:Get AV) (row:Nat):∀ col n,(rngGet get row col n).length=n
 | _,0=>rfl
 | col,n+1=>by simp [rngGet,rngGet_length get row (col+1) n]
theorem rngGet_get (get:Get AV) (row:Nat):∀ n col i,i<n→(rngGet get row col n)[i]?=some (get row (col+i))
 | 0,_,_,h=>by omega
 | n+1,col,0,_=>by simp [rngGet]
 | n+1,col,i+1,h=>by simp only [rngGet,List.getElem?_cons_succ];rw [rngGet_get get row n (col+1) i (by omega),show col+1+i=col+(i+1) by omega]
theorem load_ext {t:TypeId} {wd n row col b o off:Nat} {get:Get AV} {x:AV} (u:Nat→Nat→Value)
  (hc:∀ i k,i<n→k<wd→w.cell? ⟨b,o+(i * wd+k),none⟩=some (u i k)) (hv:∀ i k,i<n→k<wd→VR w A noR (get i k) (u i k))
  (ho:off=o+(row * wd+col)) (hrow:row<n) (h:loadX P t wd get row col=some x) :
  ∃ v,(loadVar t ⟨b,off,none⟩).run P w=.ok v w∧VR w A r x v:=by
 have lift:∀ {y:AV} {z:Value},VR w A noR y z→VR w A r y z:=fun h=>h.mono (Keeps.refl A w) (fun j b h=>by simp [noR] at h)
 unfold loadX at h
 split at h
 ·rename_i m hagg hsz
  split at h
  ·rename_i hle
   injection h with h;subst h
   have hl:=run_loadCells (P:=P) w ⟨b,off,none⟩ m (fun j=>u row (col+j)) (fun j hj=>by
    rw [addr_add,← hc row (col+j) hrow (by omega)];congr 2;omega)
   refine ⟨_,by simp only [loadVar,Sem.run_bind,run_isAgg' hagg,Result.andThen_ok,if_true,run_sizeOf' hsz,hl,Sem.run_pure];rfl,?_⟩
   refine .agg (by simp [rngGet_length]) (fun i y z hy hz=>?_)
   have hi:i<m:=by have:=(List.getElem?_eq_some_iff.1 hy).1;rwa [rngGet_length] at this
   rw [rngGet_get get row m col i hi] at hy
   injection hy with hy;subst hy
   simp [hi] at hz;subst hz
   exact lift (hv row (col+i) hrow (by omega))
  ·simp at h
 ·rename_i m hagg hsz
  split at h
  ·rename_i hlt
   injection h with h;subst h
   refine ⟨u row col,?_,lift (hv row col hrow hlt)⟩
   simp only [loadVar,Sem.run_bind,run_isAgg' hagg,Result.andThen_ok,Bool.false_eq_true,if_false,run_load]
   rw [ho,hc row col hrow hlt]
  ·simp at h
 ·simp at h
theorem VRs.ovw {cs xs:List AV} {us:Array Value} {vs:List Value} {off:Nat} (h:VRs w A r cs us) (k:VRs w A r xs vs.toArray) (hl:off+xs.length≤cs.length) :
  VRs w A r (ovw cs off xs) (us.toList.take off ++ vs ++ us.toList.drop (off+vs.length)).toArray:=by
 have e1:=h.1
 have e2:xs.length=vs.length:=by simpa using k.1
 refine ⟨by simp [Ev.ovw];omega,fun i x u hx hu=>?_⟩
 unfold Ev.ovw at hx
 rw [List.append_assoc] at hx
 rw [List.getElem?_toArray,List.append_assoc] at hu
 rw [List.getElem?_append] at hx hu
 simp only [List.length_take] at hx hu
 have m1:min off cs.length=off:=by omega
 have m2:min off us.toList.length=off:=by simp;omega
 rw [m1] at hx
 rw [m2] at hu
 split at hx
 ·rename_i hi
  rw [if_pos hi] at hu
  rw [List.getElem?_take,if_pos hi] at hx hu
  exact h.2 i x u hx (by simpa using hu)
 ·rename_i hi
  rw [if_neg hi] at hu
  rw [List.getElem?_append] at hx hu
  split at hx
  ·rename_i hj
   rw [if_pos (by omega)] at hu
   exact k.2 _ x u hx (by simpa using hu)
  ·rename_i hj
   rw [if_neg (by omega)] at hu
   rw [List.getElem?_drop] at hx hu
   rw [← e2] at hu
   exact h.2 _ x u hx (by simpa using hu)
theorem foldl_ovw (off:Nat) (c:Array Value) (us:Array Value) (hl:off+c.size≤us.size) :
  c.zipIdx.foldl (fun cs (x:Value × Nat)=>cs.setIfInBounds (off+x.2) x.1) us=(us.toList.take off ++ c.toList ++ us.toList.drop (off+c.toList.length)).toArray:=by
 obtain ⟨hs,hg⟩:=Great.foldl_set off c.toList 0 us
 have e:c.zipIdx.foldl (fun cs (x:Value × Nat)=>cs.setIfInBounds (off+x.2) x.1) us=(c.toList.zipIdx 0).foldl (fun cs (x:Value × Nat)=>cs.setIfInBounds (off+x.2) x.1) us:=by
  rw [← Array.foldl_toList];simp
 rw [e]
 apply Array.ext_getElem?
 intro k
 rw [hg k]
 simp only [List.getElem?_toArray,List.append_assoc,List.getElem?_append,List.length_take,Array.length_toList,Nat.add_zero,List.getElem?_take,List.getElem?_drop,Array.getElem?_toList]
 have m:min off us.size=off:=by omega
 rw [m]
 by_cases h1:k<off
 ·simp [h1,show ¬ off≤k by omega]
 ·by_cases h2:k - off<c.size
  ·simp [h1,h2,show off≤k by omega,show k<off+c.size by omega,show k<us.size by omega]
  ·simp only [h1,h2,if_false,show ¬ k<off+c.size by omega,false_and,and_false]
   congr 1;omega
theorem fill_rel (place:Nat→Option (Nat × Nat)):∀ (ps:List (Nat × AV)) (qs:List (Nat × Value)) (cs out:List AV) (us:Array Value),
  fillAV place cs ps=some out→VRs w A r cs us→ps.length=qs.length→(∀ (i:Nat) a b,ps[i]?=some a→qs[i]?=some b→a.1=b.1∧VR w A r a.2 b.2) →
  ∃ us',Instr.fill place us qs=some us'∧VRs w A r out us'
 | [],[],cs,out,us,h,hc,_,_=>by simp [fillAV] at h;subst h;exact ⟨us,rfl,hc⟩
 | [],_ :: _,_,_,_,_,_,hl,_=>by simp at hl
 | _ :: _,[],_,_,_,_,_,hl,_=>by simp at hl
 | (i,x) :: ps,(i',v) :: qs,cs,out,us,h,hc,hl,hr=>by
  obtain ⟨e,hx⟩:=hr 0 (i,x) (i',v) rfl rfl
  simp only at e hx;subst e
  simp only [fillAV] at h
  split at h
  ·simp at h
  ·rename_i off size hp
   split at h
   ·simp at h
   ·rename_i xs hcell
    split at h
    ·rename_i hle
     have hcr:=cells_rel hcell hx
     have e1:=hcr.1
     have e2:=hc.1
     have hnot:¬ (v.cells.size≠size∨off+v.cells.size > us.size):=by omega
     simp only [Instr.fill,hp]
     rw [if_neg (by simpa using hnot),foldl_ovw off v.cells us (by omega)]
     refine fill_rel place ps qs _ out _ h ?_ (by simpa using hl) (fun j a b ha hb=>hr (j+1) a b (by simpa using ha) (by simpa using hb))
     exact hc.ovw (xs:=xs) (vs:=v.cells.toList) (by simpa using hcr) hle.2
    ·simp at h
end
end Go.Proofs.YtkpligkggnjcoaaGreatDoor.Ev
/-! EvD -/
namespace Go.Proofs.YtkpligkggnjcoaaGreatDoor.Ev
open Go.RowKit
section
variable {P:Program} {w:World} {A:Nat→Prop} {r:Rr} {loc:Nat→Option Blk} {p:Operand→Option AV} {ev:Operand→Value} {nx:Nat} {o:Oper} {res:Res}
theorem mapEv_rel (hp:∀ x v,p x=some v→VR w A r v (ev x)):∀ (xs:List Operand) (vs:List AV),mapEv p xs=some vs→VRs w A r vs (xs.map ev).toArray
 | [],vs,h=>by simp [mapEv] at h;subst h;exact VRs.nil
 | x :: xs,vs,h=>by
  simp only [mapEv] at h
  split at h
  ·rename_i v hv
   split at h
   ·rename_i vs' hvs
    injection h with h;subst h
    have ih:=mapEv_rel hp xs vs' hvs
    have:=(VRs.one (hp x v hv)).append ih
    simpa using this
   ·simp at h
  ·simp at h
theorem mapParts_rel (hp:∀ x v,p x=some v→VR w A r v (ev x)):∀ (xs:List (Nat × Operand)) (vs:List (Nat × AV)),mapParts p xs=some vs →
  vs.length=(xs.map fun (i,x)=>(i,ev x)).length∧∀ (i:Nat) a b,vs[i]?=some a→(xs.map fun (i,x)=>(i,ev x))[i]?=some b→a.1=b.1∧VR w A r a.2 b.2
 | [],vs,h=>by simp [mapParts] at h;subst h;exact ⟨rfl,fun i a b ha=>by simp at ha⟩
 | (k,x) :: xs,vs,h=>by
  simp only [mapParts] at h
  split at h
  ·rename_i v hv
   split at h
   ·rename_i vs' hvs
    injection h with h;subst h
    obtain ⟨hl,hr⟩:=mapParts_rel hp xs vs' hvs
    refine ⟨by simpa using hl,fun i a b ha hb=>?_⟩
    cases i with
    | zero=>simp at ha hb;subst ha;subst hb;exact ⟨rfl,hp x v hv⟩
    | succ i=>exact hr i a b (by simpa using ha) (by simpa using hb)
   ·simp at h
  ·simp at h
theorem structPlaces_run:∀ (fs:List Field) (pl:List (Nat × Nat)),structPlaces P fs=some pl →
  (fs.mapM (fun (f:Field)=>do pure (f.offset,← sizeOf f.type)):Sem (List (Nat × Nat))).run P w=.ok pl w
 | [],pl,h=>by simp [structPlaces] at h;subst h;simp
 | f :: fs,pl,h=>by
  simp only [structPlaces] at h
  split at h
  ·rename_i n hn
   split at h
   ·rename_i l hl
    injection h with h;subst h
    simp only [List.mapM_cons,Sem.run_bind,run_sizeOf' hn,Result.andThen_ok,Sem.run_pure,structPlaces_run fs l hl]
   ·simp at h
  ·simp at h
theorem does_val {s:Sem Next} {x:AV} {v:Value} (h:s.run P w=.ok (.value v) w) (k:VR w A r x v):Does P w A r loc nx s (.val x):=⟨v,h,k⟩
theorem lptr_inv {j wd row col:Nat} {v:Value} (h:VR w A r (.lptr j wd row col) v):∃ b,r j=some b∧v=.pointer (some ⟨b,row * wd+col,none⟩):=by
 cases h with
 | lptr h ho=>subst ho;exact ⟨_,h,rfl⟩
theorem lift0 {y:AV} {z:Value} (h:VR w A noR y z):VR w A r y z:=h.mono (Keeps.refl A w) (fun j b h=>by simp [noR] at h)
variable (hcx:Cx w A r loc p ev)
include hcx
theorem s_load {t:TypeId} {x:Operand} (hop:o.op=.load t x) (h:native P p loc nx o=some (true,res)):Does P w A r loc nx (execOp ev o) res:=by
 simp only [native,hop] at h
 split at h
 ·rename_i j wd row col hx
  obtain ⟨b,hb,hv⟩:=lptr_inv (hcx.val _ _ hx)
  split at h
  ·rename_i tt cs hj
   obtain ⟨b',hb',us,hh,hc⟩:=hcx.mem _ _ hj
   have:b'=b:=by rw [hb] at hb';injection hb' with hb';exact hb'.symm
   subst this
   cases hl:loadAV P t cs (row * wd+col) with
   | none=>simp [hl] at h
   | some y=>
    simp [hl] at h;subst h
    obtain ⟨v,hr,hvr⟩:=load_flat (P:=P) hh hc hl
    exact does_val (by simp only [execOp,hop,hv,Instr.loadAt,Instr.sureAddr,Sem.run_bind,Sem.run_pure,Result.andThen_ok,hr]) hvr
  ·simp at h
 ·rename_i j v wd row col hx
  split at h
  ·rename_i tt wd' v' n get hj
   split at h
   ·rename_i he
    simp only [Bool.and_eq_true] at he
    have q1:=Nat.eq_of_beq_eq_true he.1;have q2:=Nat.eq_of_beq_eq_true he.2;subst q1;subst q2
    have hx':=hcx.val _ _ hx
    generalize hev:ev x=z at hx'
    cases hx' with
    | @optr _ _ _ _ _ _ n' b off hb hn' hrow ho=>
     obtain ⟨e,c,xs,m1,m2,m3,m4,m5,m6,m7,m8⟩:=hcx.mem _ _ hj
     have:e=b+1:=by rw [hb] at m1;injection m1 with m1;exact m1.symm
     subst this
     have:n'=n:=by rw [hn'] at m3;injection m3
     subst this
     cases hl:loadX P t wd get row col with
     | none=>simp [hl] at h
     | some y=>
      simp [hl] at h;subst h
      obtain ⟨v,hr,hvr⟩:=load_ext (P:=P) (r:=r) (b:=b) (o:=0) (off:=off) (fun i k=>xs.getD (i * wd+k) undef) (fun i k hi hk=>by rw [Nat.zero_add];exact (own_cell m7 m8 hi hk).1) (fun i k hi hk=>(own_cell m7 m8 hi hk).2) (by rw [ho,Nat.zero_add]) hrow hl
      exact does_val (by simp only [execOp,hop,hev,Instr.loadAt,Instr.sureAddr,Sem.run_bind,Sem.run_pure,Result.andThen_ok,hr]) hvr
   ·simp at h
  ·simp at h
 ·rename_i wd m get row col hx
  have hx':=hcx.val _ _ hx
  generalize hev:ev x=z at hx'
  cases hx' with
  | xptr u hb hA hc hv ho hrow=>
   cases hl:loadX P t wd get row col with
   | none=>simp [hl] at h
   | some y=>
    simp [hl] at h;subst h
    obtain ⟨v,hr,hvr⟩:=load_ext (P:=P) (r:=r) u hc hv ho hrow hl
    exact does_val (by simp only [execOp,hop,hev,Instr.loadAt,Instr.sureAddr,Sem.run_bind,Sem.run_pure,Result.andThen_ok,hr]) hvr
 ·simp at h
theorem s_store {t:TypeId} {a x:Operand} (hop:o.op=.store t a x) (h:native P p loc nx o=some (true,res)):Does P w A r loc nx (execOp ev o) res:=by
 simp only [native,hop] at h
 split at h
 ·rename_i j wd row col v ha hx
  obtain ⟨b,hb,hva⟩:=lptr_inv (hcx.val _ _ ha)
  split at h
  ·rename_i u cs xs n hj hcell hsz
   obtain ⟨b',hb',us,hh,hc⟩:=hcx.mem _ _ hj
   have:b'=b:=by rw [hb] at hb';injection hb' with hb';exact hb'.symm
   subst this
   split at h
   ·rename_i hcond
    obtain ⟨h1,h2,h3⟩:=hcond
    injection h with h
    injection h with _ h;subst h
    have hcr:=cells_rel hcell (hcx.val _ _ hx)
    have e1:=hcr.1
    have e2:=hc.1
    refine ⟨b',us,_,_,hb,hj,fun _ h=>h,hh,?_,hc.ovw (xs:=xs) (vs:=(ev x).cells.toList) (by simpa using hcr) (by omega)⟩
    have hone:∀ z ∈ (ev x).cells.toList,z.oneCell'=true:=by
     intro z hz
     obtain ⟨i,hi,rfl⟩:=List.getElem_of_mem hz
     have hi':i<xs.length:=by rw [e1];simpa using hi
     exact oneCell_rel (List.all_eq_true.1 h3 xs[i] (List.getElem_mem hi')) (hcr.2 i xs[i] _ (List.getElem?_eq_getElem hi') (by simp at hi ⊢))
    have hst:=run_storeCells_at (P:=P) b' (row * wd+col) u (ev x).cells.toList 0 us w hh (by simp;omega) hone
    simp only [Nat.add_zero] at hst
    have hne:¬ (ev x).cells.size≠n:=by omega
    simp only [execOp,hop,hva,Instr.storeAt,Instr.sureAddr,Sem.run_bind,Sem.run_pure,Result.andThen_ok,storeVar,run_sizeOf' hsz,Sem.run_ite,hne,if_false,hst]
   ·simp at h
  ·simp at h
 ·rename_i j v wd row col y ha hx
  split at h
  ·rename_i u wd' v' n get xs m hj hcell hsz
   split at h
   ·rename_i he
    simp only [Bool.and_eq_true] at he
    obtain ⟨⟨h1,h2⟩,⟨h3,h4⟩,h5,h6⟩:=he
    have h1:=Nat.eq_of_beq_eq_true h1;have h2:=Nat.le_of_ble_eq_true h2
    have q1:=Nat.eq_of_beq_eq_true h3;have q2:=Nat.eq_of_beq_eq_true h4;subst q1;subst q2
    injection h with h
    injection h with _ h;subst h
    have ha':=hcx.val _ _ ha
    generalize hea:ev a=z at ha'
    cases ha' with
    | @optr _ _ _ _ _ _ n' b off hb hn' hrow ho=>
     obtain ⟨e,c,zs,m1,m2,m3,m4,m5,m6,m7,m8⟩:=hcx.mem _ _ hj
     have:e=b+1:=by rw [hb] at m1;injection m1 with m1;exact m1.symm
     subst this
     have:n'=n:=by rw [hn'] at m3;injection m3
     subst this
     have hcr:=cells_rel hcell (hcx.val _ _ hx)
     have e1:=hcr.1
     have hone:∀ z ∈ (ev x).cells.toList,z.oneCell'=true:=by
      intro z hz
      obtain ⟨i,hi,rfl⟩:=List.getElem_of_mem hz
      have hi':i<xs.length:=by rw [e1];simpa using hi
      exact oneCell_rel (List.all_eq_true.1 h5 xs[i] (List.getElem_mem hi')) (hcr.2 i xs[i] _ (List.getElem?_eq_getElem hi') (by simp at hi ⊢))
     rcases m7.2 with ⟨k,_⟩ | ⟨g,cap,cur,k,_,hg,hnc,hcm,hcs,htake⟩
     ·simp [slBase] at k
     simp only [slBase,Value.slice.injEq,Option.some.injEq,Addr.mk.injEq,and_true,true_and] at k
     obtain ⟨rfl,rfl⟩:=k
     have hle:row * wd+col+xs.length≤n' * wd:=by
      have:(row+1) * wd≤n' * wd:=Nat.mul_le_mul_right _ hrow
      rw [Nat.succ_mul] at this;omega
     have hnw:n' * wd≤cur.size:=by rw [hcs];exact Nat.mul_le_mul_right _ hnc
     have hst:=run_storeCells_at (P:=P) b (row * wd+col) u (ev x).cells.toList 0 cur w hg (by simp;omega) hone
     simp only [Nat.add_zero] at hst
     have hne:¬ (ev x).cells.size≠m:=by omega
     have hlen:((ev x).cells.toList).length=xs.length:=by simpa using e1.symm
     generalize hvs:(ev x).cells.toList=vs at hst hlen hone
     have hcl:cur.toList.length=cur.size:=by simp
     refine ⟨u,n',get,b,c,(cur.toList.take (row * wd+col) ++ vs ++ cur.toList.drop (row * wd+col+vs.length)).take (n' * wd),w.setRow b (cur.toList.take (row * wd+col) ++ vs ++ cur.toList.drop (row * wd+col+vs.length)).toArray,hj,hb,m2,m3,?_,⟨rfl,rfl,rfl,by simp,fun k _ hk=>setRow_other w b k _ (fun e=>hk (by simp [e]))⟩,⟨?_,.inr ⟨b,c,_,rfl,Nat.zero_le _,setRow_heap w b cur _ u (0,0) hg,hnc,hcm,?_,?_⟩⟩,?_,m5,m6⟩
     ·simp only [execOp,hop,hea,Instr.storeAt,Instr.sureAddr,Sem.run_bind,Sem.run_pure,Result.andThen_ok,storeVar,run_sizeOf' hsz,Sem.run_ite,hne,if_false,hvs,ho,hst]
     ·simp only [List.length_take,List.length_append,List.length_drop];omega
     ·simp only [List.size_toArray,List.length_append,List.length_take,List.length_drop];omega
     ·rfl
     ·intro i k hi hk
      rw [setG_cell]
      have hq:i * wd+k<n' * wd:=by
       have:(i+1) * wd≤n' * wd:=Nat.mul_le_mul_right _ hi
       rw [Nat.succ_mul] at this;omega
      have hpos:(i=row∧col≤k∧k<col+xs.length) ↔ (row * wd+col≤i * wd+k∧i * wd+k<row * wd+col+xs.length):=by
       constructor
       ·rintro ⟨rfl,a1,a2⟩;omega
       ·rintro ⟨a1,a2⟩
        have hir:i=row:=by
         rcases Nat.lt_trichotomy i row with hlt | heq | hgt
         ·have:(i+1) * wd≤row * wd:=Nat.mul_le_mul_right _ hlt
          rw [Nat.succ_mul] at this;omega
         ·exact heq
         ·have:(row+1) * wd≤i * wd:=Nat.mul_le_mul_right _ hgt
          rw [Nat.succ_mul] at this;omega
        subst hir;exact ⟨rfl,by omega,by omega⟩
      rw [List.getElem?_take,if_pos hq]
      by_cases hc:i=row∧col≤k∧k<col+xs.length
      ·rw [if_pos hc]
       obtain ⟨a1,a2⟩:=hpos.1 hc
       obtain ⟨rfl,b1,b2⟩:=hc
       have hk2:k - col<xs.length:=by omega
       have hv2:k - col<vs.length:=by omega
       refine ⟨vs[k - col],?_,?_⟩
       ·rw [List.getElem?_append_left (by simp only [List.length_append,List.length_take];omega),List.getElem?_append_right (by simp only [List.length_take];omega),List.length_take,show i * wd+k - min (i * wd+col) cur.toList.length=k - col by omega,List.getElem?_eq_getElem hv2]
       ·rw [List.getElem?_eq_getElem hk2,Option.getD_some]
        refine (hcr.2 (k - col) xs[k - col] vs[k - col] (List.getElem?_eq_getElem hk2) ?_).weaken0 (List.all_eq_true.1 h6 _ (List.getElem_mem hk2)) (fun _ h=>h)
        rw [← Array.getElem?_toList,hvs,List.getElem?_eq_getElem hv2]
      ·rw [if_neg hc]
       obtain ⟨z,hz,hzv⟩:=m8 i k hi hk
       refine ⟨z,?_,hzv⟩
       have hno:¬ (row * wd+col≤i * wd+k∧i * wd+k<row * wd+col+xs.length):=fun h=>hc (hpos.2 h)
       rw [← hz,← htake,List.getElem?_take,if_pos hq]
       by_cases hlt:i * wd+k<row * wd+col
       ·rw [List.append_assoc,List.getElem?_append_left (by simp only [List.length_take];omega),List.getElem?_take,if_pos hlt]
       ·rw [List.getElem?_append_right (by simp only [List.length_append,List.length_take];omega),List.getElem?_drop,List.length_append,List.length_take]
        congr 1;omega
   ·simp at h
  ·simp at h
 ·simp at h
omit hcx in
theorem s_alloc {t:TypeId} (hop:o.op=.alloc t) (h:native P p loc nx o=some (true,res)):Does P w A r loc nx (execOp ev o) res:=by
 simp only [native,hop] at h
 cases hz:zeroAV P t with
 | none=>simp [hz] at h
 | some cs=>
  simp [hz] at h;subst h
  obtain ⟨v,hr,hc⟩:=run_zero' (P:=P) (w:=w) (A:=A) (r:=r) hz
  exact ⟨v.cells,_,by simp only [execOp,hop,Instr.alloc,Sem.run_bind,hr,Result.andThen_ok,newVar,newRow,run_newObj,Sem.run_pure,World.alloc_eq],hc,fun w' A' r' h'=>.lptr h' rfl⟩
theorem s_box {t:TypeId} {x:Operand} (hop:o.op=.box t x) (h:native P p loc nx o=some (true,res)):Does P w A r loc nx (execOp ev o) res:=by
 simp only [native,hop] at h
 split at h
 ·rename_i v hv
  cases hc:cellsAV v with
  | none=>simp [hc] at h
  | some cs=>
   simp [hc] at h;subst h
   exact ⟨(ev x).cells,_,by simp only [execOp,hop,Instr.box,Sem.run_bind,newVar,newRow,run_newObj,Result.andThen_ok,Sem.run_pure,World.alloc_eq],cells_rel hc (hcx.val _ _ hv),fun w' A' r' h'=>.lptr h' rfl⟩
 ·simp at h
theorem s_move {x:Operand} (hop:o.op=.move x∨o.op=.assign x) (h:native P p loc nx o=some (true,res)):Does P w A r loc nx (execOp ev o) res:=by
 rcases hop with hop | hop
 all_goals
  simp only [native,hop] at h
  cases hx:p x with
  | none=>simp [hx] at h
  | some v=>
   simp [hx] at h;subst h
   exact does_val (by simp only [execOp,hop,Sem.run_pure]) (hcx.val _ _ hx)
theorem s_pick {c a b:Operand} (hop:o.op=.pick c a b) (h:native P p loc nx o=some (true,res)):Does P w A r loc nx (execOp ev o) res:=by
 simp only [native,hop] at h
 split at h
 ·rename_i t hc
  have hc':=hcx.val _ _ hc
  generalize hev:ev c=z at hc'
  cases hc'
  cases t with
  | true=>
   cases ha:p a with
   | none=>simp [ha] at h
   | some v=>
    simp [ha] at h;subst h
    exact does_val (by simp only [execOp,hop,hev,asBool,Sem.run_bind,Sem.run_pure,Result.andThen_ok,if_true]) (hcx.val _ _ ha)
  | false=>
   cases hb:p b with
   | none=>simp [hb] at h
   | some v=>
    simp [hb] at h;subst h
    exact does_val (by simp only [execOp,hop,hev,asBool,Sem.run_bind,Sem.run_pure,Result.andThen_ok,Bool.false_eq_true,if_false]) (hcx.val _ _ hb)
 ·simp at h
theorem s_build {t:TypeId} {parts:Array (Nat × Operand)} (hop:o.op=.build t parts) (h:native P p loc nx o=some (true,res)):Does P w A r loc nx (execOp ev o) res:=by
 simp only [native,hop] at h
 split at h
 ·rename_i zs ps hz hps
  obtain ⟨v,hzr,hzc⟩:=run_zero' (P:=P) (w:=w) (A:=A) (r:=r) hz
  obtain ⟨hl,hr⟩:=mapParts_rel hcx.val _ _ hps
  have eparts:(parts.map fun (i,x)=>(i,ev x)).toList=parts.toList.map fun (i,x)=>(i,ev x):=by simp
  split at h
  ·rename_i fields hu
   split at h
   ·rename_i pl hpl
    cases hf:fillAV (fun i=>pl[i]?) zs ps with
    | none=>simp [hf] at h
    | some cs=>
     simp [hf] at h;subst h
     obtain ⟨us,hfill,hus⟩:=fill_rel _ ps _ zs cs v.cells hf hzc hl hr
     have hpla:(fields.mapM (fun (f:Field)=>do pure (f.offset,← sizeOf f.type)):Sem (Array (Nat × Nat))).run P w=.ok pl.toArray w:=by
      rw [Array.mapM_eq_mapM_toList]
      simp only [Sem.run_map,structPlaces_run fields.toList pl hpl,Result.andThen_ok]
     have hfill':Instr.fill (pl.toArray[·]?) v.cells (parts.toList.map fun (i,x)=>(i,ev x))=some us:=by simpa using hfill
     refine does_val (v:=.agg us) ?_ (.agg hus.1 hus.2)
     simp only [execOp,hop,Instr.build,Sem.run_bind,hzr,Result.andThen_ok,run_underlying hu,hpla,eparts,hfill',Sem.run_pure]
   ·simp at h
  ·rename_i len e hu
   split at h
   ·rename_i n hn
    cases hf:fillAV (fun i=>some (i * n,n)) zs ps with
    | none=>simp [hf] at h
    | some cs=>
     simp [hf] at h;subst h
     obtain ⟨us,hfill,hus⟩:=fill_rel _ ps _ zs cs v.cells hf hzc hl hr
     refine does_val (v:=.agg us) ?_ (.agg hus.1 hus.2)
     simp only [execOp,hop,Instr.build,Sem.run_bind,hzr,Result.andThen_ok,run_underlying hu,run_sizeOf' hn,eparts,hfill,Sem.run_pure]
   ·simp at h
  ·simp at h
 ·simp at h
end
theorem ask_drawn {α:Type}:∀ (m:Ask α) (w:World),w.drawn≤(w.ask m).2.drawn
 | .done a,w=>Nat.le_refl _
 | .ask what range k,w=>by
  unfold World.ask
  simp only
  split
  ·exact ask_drawn (k 0) w
  ·exact Nat.le_trans (Nat.le_succ _) (ask_drawn _ { w with drawn:=w.drawn+1 })
theorem sys_drawn (w:World) (c:Sys):w.drawn≤(w.sys c).2.drawn:=by
 unfold World.sys
 have h:=ask_drawn (Kernel.perform c w.os) w
 split
 ·exact Nat.le_refl _
 ·rename_i r os w' e
  rw [e] at h;exact h
theorem bindE {ε α β:Type} {m:Except ε α} {f:α→Except ε β} {b:β} (h:(m >>= f)=.ok b):∃ a,m=.ok a∧f a=.ok b:=by
 cases m with
 | error e=>cases h
 | ok a=>exact ⟨a,rfl,h⟩
theorem viewStore_drawn {p:Program} {w w':World} {at_:Addr} {u:TypeId} {k:Addr} {v:Value} {at2:Bool} {l:List Addr} (h:w.viewStore p at_ u k v at2=.ok (w',l)):w'.drawn=w.drawn:=by
 unfold World.viewStore at h
 dsimp only at h
 split at h
 ·cases h
 ·obtain ⟨⟨c,e,frozen,first,like,cells⟩,_,h⟩:=bindE h
  dsimp only at h
  split at h
  ·split at h
   ·cases h
   ·obtain ⟨_,_,h⟩:=bindE h
    cases h;rfl
  ·cases h
theorem farStore_drawn {p:Program} {w w':World} {a:Addr} {v:Value} {at2:Bool} {l:List Addr} (h:w.farStore p a v at2=.ok (w',l)):w'.drawn=w.drawn:=by
 unfold World.farStore at h
 split at h
 ·split at h
  ·rename_i r hr;cases h;exact viewStore_drawn hr
  ·cases h
 ·cases h
theorem run_drawn {α:Type} (p:Program):∀ (s:Sem α) (w w':World) (a:α),s.run p w=.ok a w'→w.drawn≤w'.drawn
 | .pure a,w,w',b,h=>by simp only [Sem.run] at h;cases h;exact Nat.le_refl _
 | .load m a k,w,w',b,h=>by
  simp only [Sem.run] at h
  split at h
  ·exact run_drawn p _ _ _ _ h
  ·split at h
   ·exact run_drawn p _ _ _ _ h
   ·cases h
 | .store m a v k,w,w',b,h=>by
  cases v<;>simp only [Sem.run] at h
  case agg=>cases h
  case tuple=>cases h
  all_goals
   split at h
   ·split at h
    ·cases h
    ·exact run_drawn p k (w.setCell a _) w' b h
   ·split at h
    ·rename_i w2 l hf
     rw [← farStore_drawn hf];exact run_drawn p _ _ _ _ h
    ·cases h
 | .new o k,w,w',b,h=>by simp only [Sem.run] at h;exact run_drawn p _ { w with heap:=w.heap.push o } _ _ h
 | .shape r k,w,w',b,h=>by simp only [Sem.run] at h;exact run_drawn p _ _ _ _ h
 | .freeze a n k,w,w',b,h=>by
  simp only [Sem.run] at h
  have:=run_drawn p _ _ _ _ h
  unfold World.freeze at this
  split at this<;>exact this
 | .frozen a k,w,w',b,h=>by simp only [Sem.run] at h;exact run_drawn p _ _ _ _ h
 | .getObj r k,w,w',b,h=>by
  simp only [Sem.run] at h
  split at h
  ·cases h
  ·exact run_drawn p _ _ _ _ h
  ·cases h
 | .setObj r o k,w,w',b,h=>by
  simp only [Sem.run] at h
  split at h
  ·cases h
  ·exact run_drawn p _ { w with heap:=w.heap.setIfInBounds r o } _ _ h
  ·cases h
 | .choose q k,w,w',b,h=>by
  simp only [Sem.run] at h
  split at h
  ·exact run_drawn p _ _ _ _ h
  ·exact Nat.le_trans (Nat.le_succ _) (run_drawn p _ { w with drawn:=w.drawn+1 } _ _ h)
 | .sys c k,w,w',b,h=>by simp only [Sem.run] at h;exact Nat.le_trans (sys_drawn w c) (run_drawn p _ _ _ _ h)
 | .program k,w,w',b,h=>by simp only [Sem.run] at h;exact run_drawn p _ _ _ _ h
 | .mark m k,w,w',b,h=>by simp only [Sem.run] at h;exact run_drawn p _ _ _ _ h
 | .halt h0,w,w',b,h=>by simp only [Sem.run] at h;cases h
end Go.Proofs.YtkpligkggnjcoaaGreatDoor.Ev
