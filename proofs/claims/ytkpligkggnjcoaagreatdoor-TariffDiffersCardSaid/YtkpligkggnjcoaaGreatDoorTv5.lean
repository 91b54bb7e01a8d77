/- Parts of the proof, one behind the other: EvM, EvN, EvLJ, EvLK, EvFZ, EvO. No conditions. -/
import Derived.Test.YtkpligkggnjcoaaGreatDoorTv4
/-! EvM -/
namespace Go.Proofs.YtkpligkggnjcoaaGreatDoor.Ev
open Go.RowKit
def bindPs (env:List AV):List Tmp→List AV→List AV
 | t :: ts,x :: xs=>bindPs (env.set t x) ts xs
 | _,_=>env
def bindVs (us:Array Value):List Tmp→List Value→Array Value
 | t :: ts,x :: xs=>bindVs (us.setIfInBounds t x) ts xs
 | _,_=>us
theorem bind_rel {w:World} {A:Nat→Prop} {r:Rr}:∀ {ts:List Tmp} {xs:List AV} {vs:List Value} {env:List AV} {us:Array Value},VRs w A r env us→VRs w A r xs vs.toArray→VRs w A r (bindPs env ts xs) (bindVs us ts vs)
 | [],xs,vs,env,us,h,k=>by cases xs<;>cases vs<;>exact h
 | t :: ts,[],vs,env,us,h,k=>by
  have:vs=[]:=List.eq_nil_of_length_eq_zero (by have:=k.1;simpa using this.symm)
  subst this;exact h
 | t :: ts,x :: xs,[],env,us,h,k=>by have:=k.1;simp at this
 | t :: ts,x :: xs,v :: vs,env,us,h,k=>by
  refine bind_rel (ts:=ts) (h.put (k.2 0 x v rfl rfl) t) ⟨by have:=k.1;simpa using this,fun i y u hy hu=>?_⟩
  exact k.2 (i+1) y u (by simpa using hy) (by simpa using hu)
theorem bindVs_fold:∀ (ts:List Tmp) (vs:List Value) (us:Array Value),(ts.zip vs).foldl (fun tmps (t,a)=>tmps.setIfInBounds t a) us=bindVs us ts vs
 | [],vs,us=>by cases vs<;>rfl
 | t :: ts,[],us=>rfl
 | t :: ts,v :: vs,us=>by simp only [List.zip_cons_cons,List.foldl_cons,bindVs];exact bindVs_fold ts vs _
def jumpOf:Exit→Option Code
 | .ret=>some .ret
 | .exit id=>some (.exit id)
 | _=>none
def roundEnd:Exit→Bool
 | .normal=>true
 | .ret=>true
 | .exit _=>true
 | _=>false
structure Round (P:Program) (ps:Array Tmp) (assign body:Code) (S S':St) (x:List AV) (e:Exit):Prop where
 size:x.length=ps.size
 walk:∃ U T:St,Ld P assign { S with env:=bindPs S.env ps.toList x,sav:=S.env ++ S.sav } .normal U∧Ld P body U e T∧T.sav=S'.env ++ S'.sav∧S'.env.length=S.env.length∧T.loc=S'.loc∧T.out=S'.out
 ends:roundEnd e=true
theorem Round.ext {P:Program} {ps:Array Tmp} {assign body:Code} {S S':St} {x:List AV} {e:Exit} (h:Round P ps assign body S S' x e):Ext S S':=by
 obtain ⟨U,T,h1,h2,_,_,_,h3⟩:=h.walk
 have:=h1.1.trans h2.1
 obtain ⟨l,hl⟩:=this
 exact ⟨l,by rw [← h3,hl]⟩
abbrev Tr:Fx:=fun _ _ _=>True
theorem enter_run {P:Program} (ro:Option Nat) (w:World) (fn:FuncId) (tmps:Array Value) (ps:Array Tmp) (assign body:Code) (hro:∀ l,ro=some l→∃ x,w.heap[l]?=some (.loop x)) :
  ∃ (l:Nat) (mk:List Nat) (dq:Nat) (w1:World),(Instr.enterLoop fn tmps ps assign body ro).run P w=.ok (l,mk.map fun q=>{ target:=.collected q,args:=#[] }) w1∧Bel w.heap.size w w1 ∧
   w1.heap[l]?=some (.loop { state:=.ready,pending:=none,fn,tmps,params:=ps,assign,body,defers:=dq })∧w.heap.size≤l∧mk.Nodup∧∀ q,q ∈ mk→w.heap.size≤q∧w1.heap[q]?=some (.deferred (some [])):=by
 cases ro with
 | none=>
  refine ⟨w.heap.size+1,[w.heap.size],w.heap.size,_,run_enterLoop_outer fn tmps ps assign body,?_,?_,by omega,by simp,fun q hq=>?_⟩
  ·exact ((Bel.refl _ w).alloc (Nat.le_refl _) _).alloc (by simp) _
  ·have:=World.alloc_heap_new (w.alloc (.deferred (some []))) (.loop { state:=.ready,pending:=none,fn,tmps,params:=ps,assign,body,defers:=w.heap.size })
   simpa using this
  ·simp at hq;subst hq
   refine ⟨Nat.le_refl _,?_⟩
   rw [Below.heap_alloc _ _ _ (by simp)]
   exact World.alloc_heap_new _ _
 | some l0=>
  obtain ⟨x,hx⟩:=hro l0 rfl
  exact ⟨w.heap.size,[],x.defers,_,run_enterLoop_inner hx fn tmps ps assign body,(Bel.refl _ w).alloc (Nat.le_refl _) _,World.alloc_heap_new _ _,Nat.le_refl _,List.nodup_nil,fun q hq=>by simp at hq⟩
def Mid (Y:Nat→Fx) (yl:Option Nat) (S:Nat→St) (l:Nat) (ds:List Nat) (a:Act) (sv:Array Value) (rec:Nat→Loop):Nat→Fx:=fun i A' O w=>
 ∃ (A1:Nat→Prop) (r:Rr),(∀ b,A' b ↔ A1 b∨own r ds b∨b=l)∧(∀ b,O b→¬ A' b)∧¬ A1 l ∧
  FR Tr yl (fun b=>A1 b∨(O b∧b<w.heap.size)∨b=l) (S i).sav sv (S i).env (locOf (S i)) r ds a w ∧
  Y (S i).out.length A1 (fun b=>own r ds b∨O b∨b=l) w∧w.heap[l]?=some (.loop (rec i))
theorem Mid.stands {P:Program} {Y:Nat→Fx} {yl:Option Nat} (hY:∀ i,Stands P (Y i)) {S:Nat→St} {l:Nat} {ds:List Nat} {a:Act} {sv:Array Value} {rec:Nat→Loop} (i:Nat):Stands P (Mid Y yl S l ds a sv rec i):=by
 refine ⟨?_,fun A0 O w ⟨_,_,_,_,_,_,hy,_⟩=>(hY _).good _ _ _ hy⟩
 rintro A' O O' w w' ⟨A1,r,hA,hdis,hl,hfr,hy,hrec⟩ ht hO
 have hlt:l<w.heap.size:=(Array.getElem?_eq_some_iff.1 hrec).1
 have hAlt:∀ b,A' b→b<w.heap.size:=fun b hb=>by
  rcases (hA b).1 hb with h | h | h
  ·exact hfr.a0 b (.inl h)
  ·exact hfr.arLt b (.inr h)
  ·rw [h];exact hlt
 refine ⟨A1,r,hA,fun b hb hb'=>?_,hl,?_,?_,?_⟩
 ·rcases hO b hb with h | h
  ·exact hdis b h hb'
  ·have:=hAlt b hb';omega
 ·refine hfr.other (X':=Tr) trivial (fun _ _ _ _ _ _ _ _=>trivial) ⟨ht.size,fun b hb hn=>ht.block b hb (fun ho=>hn (.inr (.inl ⟨ho,hb⟩))),fun b hb=>?_⟩ (fun b hb=>?_)
  ·rcases hb with h | ⟨h,_⟩ | h
   ·exact .inl (.inl h)
   ·rcases hO b h with h1 | h1
    ·by_cases hlt:b<w.heap.size
     ·exact .inl (.inr (.inl ⟨h1,hlt⟩))
     ·exact .inr (by omega)
    ·exact .inr h1
   ·exact .inl (.inr (.inr h))
  ·rcases hb with h | ⟨_,h⟩ | h
   ·exact Nat.lt_of_lt_of_le (hfr.a0 b (.inl h)) ht.size
   ·exact h
   ·rw [h];exact Nat.lt_of_lt_of_le hlt ht.size
 ·refine (hY _).run _ _ _ _ _ hy ⟨ht.os,ht.tape,ht.output,ht.size,fun b hb hn=>ht.block b hb (fun ho=>hn (.inr (.inl ho))),ht.drawn⟩ (fun b hb=>?_)
  rcases hb with h | h | h
  ·exact .inl (.inl h)
  ·exact (hO b h).imp (fun h=>.inr (.inl h)) id
  ·exact .inl (.inr (.inr h))
 ·rw [ht.block l hlt (fun ho=>hdis l ho ((hA l).2 (.inr (.inr rfl))))];exact hrec
def Rnd (Y:Nat→Fx) (l:Nat) (ds:List Nat) (A' O:Nat→Prop) (w:World) (rc:Loop):Nat→Fx:=fun k A2 O2 w2=>
 ∃ A1:Nat→Prop,(∀ b,A2 b ↔ A1 b∨O b∨b=l∨b ∈ ds)∧Y k A1 (fun b=>O2 b∨O b∨b=l∨b ∈ ds) w2∧Keeps A' (fun b=>A1 b∨O2 b∨b=l∨b ∈ ds) w w2 ∧
  (∀ b,(O b∨b=l∨b ∈ ds)→¬ A1 b∧¬ O2 b∧b<w.heap.size)∧(∀ q,q ∈ ds→w2.heap[q]?=some (.deferred (some [])))∧w2.heap[l]?=some (.loop rc)
theorem Rnd.stands {P:Program} {Y:Nat→Fx} (hY:∀ i,Stands P (Y i)) {l:Nat} {ds:List Nat} {A' O:Nat→Prop} {w:World} {rc:Loop} (k:Nat):Stands P (Rnd Y l ds A' O w rc k):=by
 refine ⟨?_,fun A0 O w ⟨_,_,hy,_⟩=>(hY _).good _ _ _ hy⟩
 rintro A2 O2 O3 w2 w3 ⟨A1,hA,hy,hk,hd,hq,hrec⟩ ht hO
 refine ⟨A1,hA,?_,?_,fun b hb=>⟨(hd b hb).1,fun h3=>?_,(hd b hb).2.2⟩,fun q hq'=>?_,?_⟩
 ·refine (hY _).run _ _ _ _ _ hy ⟨ht.os,ht.tape,ht.output,ht.size,fun b hb hn=>ht.block b hb (fun ho=>hn (.inl ho)),ht.drawn⟩ (fun b hb=>?_)
  rcases hb with h | h
  ·exact (hO b h).imp .inl id
  ·exact .inl (.inr h)
 ·refine ⟨Nat.le_trans hk.size ht.size,fun b hb hn=>?_,fun b hb=>?_⟩
  ·rw [ht.block b (Nat.lt_of_lt_of_le hb hk.size) (fun ho=>?_)]
   ·exact hk.block b hb hn
   ·rcases hk.more b (.inr (.inl ho)) with h | h
    ·exact hn h
    ·omega
  ·rcases hb with h | h | h
   ·exact hk.more b (.inl h)
   ·rcases hO b h with h | h
    ·exact hk.more b (.inr (.inl h))
    ·exact .inr (Nat.le_trans hk.size h)
   ·exact hk.more b (.inr (.inr h))
 ·rcases hO b h3 with h | h
  ·exact (hd b hb).2.1 h
  ·have:=(hd b hb).2.2
   have:=hk.size
   omega
 ·rw [ht.block q (Array.getElem?_eq_some_iff.1 (hq q hq')).1 (hd q (.inr (.inr hq'))).2.1];exact hq q hq'
 ·rw [ht.block l (Array.getElem?_eq_some_iff.1 hrec).1 (hd l (.inr (.inl rfl))).2.1];exact hrec
theorem Rnd.yields {P:Program} {yl:Option Nat} {evs:List (List AV × Bool)} {Y:Nat→Fx} (hY:YH P yl evs Y) {l:Nat} {ds:List Nat} {A' O:Nat→Prop} {w:World} {rc:Loop}:YH P yl evs (Rnd Y l ds A' O w rc):=by
 refine ⟨Rnd.stands hY.1,fun i x b hi ro n A2 O2 w2 us R ha ho hmid hv hR=>?_⟩
 obtain ⟨A1,hA,hy,hk,hd,hq,hrec⟩:=hmid
 have hsz:=hk.size
 have more1:∀ b,A1 b→A2 b:=fun b h=>(hA b).2 (.inl h)
 have hsub:∀ b,(A1 b∨(O2 b∨O b∨b=l∨b ∈ ds))→A2 b∨O2 b:=fun b hb=>by
  rcases hb with h | h | h
  ·exact .inl (more1 b h)
  ·exact .inr h
  ·exact .inl ((hA b).2 (.inr h))
 refine hY.2 i x b hi ro n A1 (fun b=>O2 b∨O b∨b=l∨b ∈ ds) w2 us R (fun b hb=>ha b (more1 b hb)) (fun b hb=>?_) hy (hv.mono ⟨Nat.le_refl _,fun _ _ _=>rfl,fun b hb=>.inl (hsub b hb)⟩ (fun _ _ h=>h)) ?_
 ·rcases hb with h | h
  ·exact ⟨(ho b h).1,fun h1=>(ho b h).2 (more1 b h1)⟩
  ·exact ⟨Nat.lt_of_lt_of_le (hd b h).2.2 hsz,(hd b h).1⟩
 ·intro A3 w3 hy3 hk3 ha3
  have hno:∀ b,b<w2.heap.size→¬ A1 b→¬ A3 b:=fun b hb h1 h3=>by
   rcases hk3.more b h3 with h | h
   ·exact h1 h
   ·omega
  refine hR (fun b=>A3 b∨O b∨b=l∨b ∈ ds) w3 ⟨A3,fun b=>Iff.rfl,hy3,?_,fun b hb=>⟨hno b (Nat.lt_of_lt_of_le (hd b hb).2.2 hsz) (hd b hb).1,(hd b hb).2⟩,fun q hq'=>?_,?_⟩ ?_ (fun b hb=>?_)
  ·refine ⟨Nat.le_trans hsz hk3.size,fun b hb hn=>?_,fun b hb=>?_⟩
   ·rw [hk3.block b (Nat.lt_of_lt_of_le hb hsz) (fun h1=>?_)]
    ·exact hk.block b hb hn
    ·rcases hk.more b (.inl h1) with h | h
     ·exact hn h
     ·omega
   ·rcases hb with h | h
    ·rcases hk3.more b h with h | h
     ·exact hk.more b (.inl h)
     ·exact .inr (Nat.le_trans hsz h)
    ·exact hk.more b (.inr h)
  ·rw [hk3.block q (Array.getElem?_eq_some_iff.1 (hq q hq')).1 (hd q (.inr (.inr hq'))).1];exact hq q hq'
  ·rw [hk3.block l (Array.getElem?_eq_some_iff.1 hrec).1 (hd l (.inr (.inl rfl))).1];exact hrec
  ·refine ⟨hk3.size,fun b hb hn=>hk3.block b hb (fun h1=>hn (more1 b h1)),fun b hb=>?_⟩
   rcases hb with h | h
   ·exact (hk3.more b h).imp (more1 b) id
   ·exact .inl ((hA b).2 (.inr h))
  ·rcases hb with h | h
   ·exact ha3 b h
   ·exact Nat.lt_of_lt_of_le (hd b h).2.2 (Nat.le_trans hsz hk3.size)
end Go.Proofs.YtkpligkggnjcoaaGreatDoor.Ev
/-! EvN -/
namespace Go.Proofs.YtkpligkggnjcoaaGreatDoor.Ev
open Go.RowKit
section
variable {P:Program} {yl:Option Nat} {evs0:List (List AV × Bool)} {Y:Nat→Fx} {S:Nat→St} {l i:Nat} {ds:List Nat} {a:Act} {sv:Array Value} {rec:Nat→Loop} {x:List AV} {e:Exit}
theorem round_ok (hY:YH P yl evs0 Y) (hrd:Round P (rec i).params (rec i).assign (rec i).body (S i) (S (i+1)) x e) (hev:(S (i+1)).out.reverse <+: evs0)
  (htm:(rec i).tmps=a.tmps) (hst:(rec i).state=.ready) (hnext:rec (i+1)={ rec i with state:=if (jumpOf e).isNone then .ready else .done,pending:=jumpOf e })
  {ro:Option Nat} {n:Nat} {A' O:Nat→Prop} {w:World} {us:Array Value} {R:Ending→World→Prop} (hA':∀ k,A' k→k<w.heap.size) (hO:∀ k,O k→k<w.heap.size∧¬ A' k)
  (hmid:Mid Y yl S l ds a sv rec i A' O w) (hv:VRs w (fun k=>A' k∨O k) noR x us)
  (hR:∀ A'' w',Mid Y yl S l ds a sv rec (i+1) A'' O w'→Keeps A' A'' w w'→(∀ k,A'' k→k<w'.heap.size)→R (.returned (.bool (jumpOf e).isNone)) w') :
  ∃ l' f tmps assign body,some l=some l'∧(Instr.yield l' us).run P w=.ok (.round l' f tmps assign body) w∧RoundIn (WF ro) n P l' f tmps assign body w R:=by
 obtain ⟨A1,r,hA,hdis,hl,hfr,hy,hrec⟩:=hmid
 obtain ⟨U,T,hasg,hbod,hsav,hlen,hloc,hout⟩:=hrd.walk
 have hus:us.size=(rec i).params.size:=by rw [← hv.1,hrd.size]
 have hltl:l<w.heap.size:=(Array.getElem?_eq_some_iff.1 hrec).1
 refine ⟨l,_,_,_,_,rfl,run_yield hrec hus,roundIn_of_wpIn trivial ?_⟩
 have hfold:((rec i).params.zip us).foldl (fun tmps (t,a)=>tmps.setIfInBounds t a) (rec i).tmps=bindVs a.tmps (rec i).params.toList us.toList:=by
  rw [← bindVs_fold,← Array.foldl_toList,htm]
  simp
 rw [hfold]
 have hqd:∀ q,q ∈ ds→w.heap[q]?=some (.deferred (some [])):=fun q hq=>(hfr.dok q hq).1
 have hql:∀ q,q ∈ ds→q≠l:=fun q hq e=>by have:=hqd q hq;rw [e,hrec] at this;cases this
 have hdsA:∀ q,q ∈ ds→A' q:=fun q hq=>(hA q).2 (.inr (.inl (.inr hq)))
 let A2:Nat→Prop:=fun b=>A1 b∨O b∨b=l∨b ∈ ds
 have hsame:∀ b,AR A2 r [] b→AR (fun b=>A1 b∨(O b∧b<w.heap.size)∨b=l) r ds b:=fun b hb=>by
  rcases hb with (h | h | h | h) | h | h
  ·exact .inl (.inl h)
  ·exact .inl (.inr (.inl ⟨h,(hO b h).1⟩))
  ·exact .inl (.inr (.inr h))
  ·exact .inr (.inr h)
  ·exact .inr (.inl h)
  ·simp at h
 have hkk:Keeps (AR (fun b=>A1 b∨(O b∧b<w.heap.size)∨b=l) r ds) (AR A2 r []) w w:=⟨Nat.le_refl _,fun _ _ _=>rfl,fun b hb=>.inl (hsame b hb)⟩
 have hkx:Keeps (fun k=>A' k∨O k) (AR A2 r []) w w:=⟨Nat.le_refl _,fun _ _ _=>rfl,fun b hb=>.inl (by
  rcases hsame b hb with (h | ⟨h,_⟩ | h) | h
  ·exact .inl ((hA b).2 (.inl h))
  ·exact .inr h
  ·exact .inl ((hA b).2 (.inr (.inr h)))
  ·exact .inl ((hA b).2 (.inr (.inl h))))⟩
 have hrnd:∀ rc,w.heap[l]?=some (.loop rc)→Rnd Y l ds A' O w rc (S i).out.length A2 (own r []) w:=fun rc hrc=>by
  refine ⟨A1,fun b=>Iff.rfl,hY.1 _ _ _ _ _ _ hy ⟨rfl,rfl,rfl,Nat.le_refl _,fun _ _ _=>rfl,dle.refl _⟩ (fun b hb=>.inl ?_),⟨Nat.le_refl _,fun _ _ _=>rfl,fun b hb=>.inl ((hA b).2 ?_)⟩,fun b hb=>?_,hqd,hrc⟩
  ·rcases hb with (h | h) | h | h | h
   ·exact .inl (.inl h)
   ·simp at h
   ·exact .inr (.inl h)
   ·exact .inr (.inr h)
   ·exact .inl (.inr h)
  ·rcases hb with h | (h | h) | h | h
   ·exact .inl h
   ·exact .inr (.inl (.inl h))
   ·simp at h
   ·exact .inr (.inr h)
   ·exact .inr (.inl (.inr h))
  ·have hno:¬ own r [] b:=fun ho=>by
    rcases ho with hj | h
    ·rcases hb with h | h | h
     ·exact hdis b h ((hA b).2 (.inr (.inl (.inl hj))))
     ·exact hfr.dis b hj (.inr (.inr h))
     ·exact hfr.markNot h hj rfl
    ·simp at h
   rcases hb with h | h | h
   ·exact ⟨fun h1=>hdis b h ((hA b).2 (.inl h1)),hno,(hO b h).1⟩
   ·exact ⟨by rw [h];exact hl,hno,by rw [h];exact hltl⟩
   ·exact ⟨fun h1=>(hfr.dok b h).2 (.inl h1),hno,hA' b (hdsA b h)⟩
 have hstart:FR (Rnd Y l ds A' O w (rec i) (S i).out.length) yl A2 ((S i).env ++ (S i).sav) (a.tmps ++ sv) (bindPs (S i).env (rec i).params.toList x) (locOf (S i)) r [] { tmps:=bindVs a.tmps (rec i).params.toList us.toList,defers:=[] } w:=by
  refine ⟨bind_rel (hfr.env.mono hkk (fun _ _ h=>h)) (hv.mono hkx (fun j b h=>by simp [noR] at h)),(hfr.env.mono hkk (fun _ _ h=>h)).append (hfr.sav.mono hkk (fun _ _ h=>h)),fun j k hj=>(hfr.mem j k hj).keep hkk (fun _ _ h=>h) (fun _ _=>rfl),hfr.dom,hfr.domL,hfr.inj,hfr.injL,hfr.sep,fun b hj h=>?_,hfr.lt,fun b _ hq=>by simp at hq,fun b hb=>?_,hrnd _ hrec,Rnd.stands hY.1 _,rfl,List.nodup_nil,fun q hq=>by simp at hq,hfr.ylv⟩
  ·have hown:own r ds b:=.inl hj
   rcases h with h | h | h | h
   ·exact hfr.dis b hj (.inl h)
   ·exact hdis b h ((hA b).2 (.inr (.inl hown)))
   ·exact hfr.dis b hj (.inr (.inr h))
   ·exact hfr.markNot h hj rfl
  ·exact hfr.arLt b (hsame b (.inl hb))
 have hrcd:∀ rc,Rc (some l) (Rnd Y l ds A' O w rc):=fun rc l' hl' i A0 O w hh=>by
  injection hl' with hl';subst hl'
  exact ⟨rc,hh.choose_spec.2.2.2.2.2⟩
 have hextB:=hbod.1
 have hevT:T.out.reverse <+: evs0:=by rw [hout];exact hev
 refine wpIn_mono (hasg.2 yl evs0 (Rnd Y l ds A' O w (rec i)) (hextB.pre hevT) (Rnd.yields hY) (some l) n (hrcd _) A2 r [] (a.tmps ++ sv) _ w hstart) ?_
 rintro e' a1 w1 ⟨rfl,A3,r3,ds3,hfrU⟩
 have hrecU:w1.heap[l]?=some (.loop (rec i)):=hfrU.inv.choose_spec.2.2.2.2.2
 refine ⟨_,run_beginRound hrecU hst,?_⟩
 have hlA3:A3 l:=(hfrU.inv.choose_spec.1 l).2 (.inr (.inr (.inl rfl)))
 have hfrU':FR (Rnd Y l ds A' O w { rec i with state:=.busy } U.out.length) yl A3 U.sav (a.tmps ++ sv) U.env (locOf U) r3 ds3 a1 (w1.putObj l (.loop { rec i with state:=.busy })):=by
  refine hfrU.other (X':=Rnd Y l ds A' O w { rec i with state:=.busy } U.out.length) ?_ (Rnd.stands hY.1 _).run ⟨by simp,fun b _ hb=>World.putObj_heap_other (fun e=>hb (by rw [e];exact hlA3)),fun b hb=>.inl hb⟩ (fun b hb=>by simpa using hfrU.a0 b hb)
  obtain ⟨A4,h1,h2,h3,h4,h5,h6⟩:=hfrU.inv
  refine ⟨A4,h1,hY.1 _ _ _ _ _ _ h2 ⟨rfl,rfl,rfl,by simp,fun b _ hb=>World.putObj_heap_other (fun e=>hb (.inr (.inr (.inl e)))),dle.of (Nat.le_refl _)⟩ (fun b hb=>.inl hb),⟨by simpa using h3.size,fun b hb hn=>?_,h3.more⟩,h4,fun q hq=>?_,World.putObj_heap_same (Array.getElem?_eq_some_iff.1 h6).1⟩
  ·rw [World.putObj_heap_other (fun e=>hn ((hA b).2 (.inr (.inr e))))];exact h3.block b hb hn
  ·rw [World.putObj_heap_other (hql q hq)];exact h5 q hq
 refine wpIn_mono (hbod.2 yl evs0 (Rnd Y l ds A' O w { rec i with state:=.busy }) hevT (Rnd.yields hY) (some l) n (hrcd _) A3 r3 ds3 (a.tmps ++ sv) a1 _ hfrU') ?_
 rintro e' a2 w2 ⟨rfl,A4,r4,ds4,hfrT⟩
 obtain ⟨A5,h1,h2,h3,h4,h5,h6⟩:=hfrT.inv
 have hend:=run_endRound (P:=P) (jumpOf e') h6
 have hlw2:l<w2.heap.size:=(Array.getElem?_eq_some_iff.1 h6).1
 have hrec':({ { rec i with state:=.busy } with state:=if (jumpOf e').isNone then .ready else .done,pending:=jumpOf e' }:Loop)=rec (i+1):=by rw [hnext]
 rw [hrec'] at hend
 have hOA':∀ b,O b→¬ A' b:=fun b hb=>(hO b hb).2
 let A6:Nat→Prop:=fun b=>A5 b∨own r4 ds b∨b=l
 have hr4A:∀ b,OwnR r4 b→¬ A4 b:=hfrT.dis
 have hput:∀ b,b≠l→(w2.putObj l (.loop (rec (i+1)))).heap[b]?=w2.heap[b]?:=fun b hb=>World.putObj_heap_other hb
 have hA4l:A4 l:=(h1 l).2 (.inr (.inr (.inl rfl)))
 have key:R (.returned (.bool (jumpOf e').isNone)) (w2.putObj l (.loop (rec (i+1)))):=by
  refine hR A6 _ ⟨A5,r4,fun b=>Iff.rfl,fun b hb hb'=>?_,(h4 l (.inr (.inl rfl))).1,?_,?_,World.putObj_heap_same hlw2⟩ ?_ (fun b hb=>?_)
  ·rcases hb' with h | (h | h) | h
   ·exact (h4 b (.inl hb)).1 h
   ·exact (h4 b (.inl hb)).2.1 (.inl h)
   ·exact hOA' b hb (hdsA b h)
   ·exact hOA' b hb ((hA b).2 (.inr (.inr h)))
  ·have hsub:∀ b,AR (fun b=>A5 b∨(O b∧b<(w2.putObj l (.loop (rec (i+1)))).heap.size)∨b=l) r4 ds b→AR A4 r4 ds4 b:=fun b hb=>by
    rcases hb with (h | ⟨h,_⟩ | h) | h | h
    ·exact .inl ((h1 b).2 (.inl h))
    ·exact .inl ((h1 b).2 (.inr (.inl h)))
    ·exact .inl ((h1 b).2 (.inr (.inr (.inl h))))
    ·exact .inr (.inl h)
    ·exact .inl ((h1 b).2 (.inr (.inr (.inr h))))
   have hk4:Keeps (AR A4 r4 ds4) (AR (fun b=>A5 b∨(O b∧b<(w2.putObj l (.loop (rec (i+1)))).heap.size)∨b=l) r4 ds) w2 (w2.putObj l (.loop (rec (i+1)))):=
    ⟨by simp,fun b _ hb=>hput b (fun e=>hb (by rw [e];exact .inl hA4l)),fun b hb=>.inl (hsub b hb)⟩
   have hs:=hfrT.sav
   rw [hsav] at hs
   have hsz:(S (i+1)).env.length=a.tmps.size:=by rw [hlen];exact hfr.env.1
   obtain ⟨hs1,hs2⟩:=VRs.split hs hsz
   have elo:locOf T=locOf (S (i+1)):=by unfold locOf;rw [hloc]
   refine ⟨hs1.mono hk4 (fun _ _ h=>h),hs2.mono hk4 (fun _ _ h=>h),fun j k hj=>?_,fun j b hj=>?_,fun j v b hj=>?_,hfrT.inj,hfrT.injL,hfrT.sep,fun b hj hb=>?_,fun b hj=>by simpa using hfrT.lt b hj,fun b hj hq=>hr4A b hj ((h1 b).2 (.inr (.inr (.inr hq)))),fun b hb=>?_,trivial,fun _ _ _ _ _ _ _ _=>trivial,hfr.dfr,hfr.dnd,fun q hq=>⟨?_,fun hb=>?_⟩,hfrT.ylv⟩
   ·rw [← elo] at hj
    exact (hfrT.mem j k hj).keep hk4 (fun _ _ h=>h) (fun b hb=>hput b (fun e=>hr4A b (.of hb) (by rw [e];exact hA4l)))
   ·rw [← elo];exact hfrT.dom j b hj
   ·rw [← elo];exact hfrT.domL j v b hj
   ·rcases hb with h | ⟨h,_⟩ | h
    ·exact hr4A b hj ((h1 b).2 (.inl h))
    ·exact hr4A b hj ((h1 b).2 (.inr (.inl h)))
    ·exact hr4A b hj ((h1 b).2 (.inr (.inr (.inl h))))
   ·have:=hfrT.arLt b (hsub b (.inl hb))
    simpa using this
   ·rw [hput q (hql q hq)];exact h5 q hq
   ·rcases hb with h | ⟨h,_⟩ | h
    ·exact (h4 q (.inr (.inr hq))).1 h
    ·exact hOA' q h (hdsA q hq)
    ·exact hql q hq h
  ·rw [← hout]
   refine hY.1 _ _ _ _ _ _ h2 ⟨rfl,rfl,rfl,by simp,fun b _ hb=>hput b (fun e=>hb (.inr (.inr (.inl e)))),dle.of (Nat.le_refl _)⟩ (fun b hb=>.inl ?_)
   rcases hb with (h | h) | h | h
   ·exact .inl (.inl h)
   ·exact .inr (.inr (.inr h))
   ·exact .inr (.inl h)
   ·exact .inr (.inr (.inl h))
  ·refine ⟨by simpa using h3.size,fun b hb hn=>?_,fun b hb=>h3.more b ?_⟩
   ·rw [hput b (fun e=>hn ((hA b).2 (.inr (.inr e))))];exact h3.block b hb hn
   ·rcases hb with h | (h | h) | h
    ·exact .inl h
    ·exact .inr (.inl (.inl h))
    ·exact .inr (.inr (.inr h))
    ·exact .inr (.inr (.inl h))
  ·rcases hb with h | (h | h) | h
   ·have:=hfrT.a0 b ((h1 b).2 (.inl h));simpa using this
   ·have:=hfrT.lt b h;simpa using this
   ·have:=(Array.getElem?_eq_some_iff.1 (h5 b h)).1;simpa using this
   ·rw [h];simpa using hlw2
 have hends:=hrd.ends
 cases e' with
 | normal=>exact ⟨_,_,hend,key⟩
 | ret=>exact ⟨_,_,hend,key⟩
 | exit id=>exact ⟨_,_,hend,key⟩
 | goto t=>simp [roundEnd] at hends
 | panic ch=>simp [roundEnd] at hends
 | outgrown=>simp [roundEnd] at hends
theorem chain_ext {S:Nat→St} {N:Nat} (h:∀ i,i<N→Ext (S i) (S (i+1))):∀ i,i≤N→Ext (S i) (S N):=by
 intro i hi
 obtain ⟨d,rfl⟩:∃ d,N=i+d:=⟨N - i,by omega⟩
 clear hi
 induction d with
 | zero=>exact .refl _
 | succ d ih=>exact (ih fun k hk=>h k (by omega)).trans (h (i+d) (by omega))
theorem FR.move2 {X X':Fx} {A0 A0':Nat→Prop} {sav env:List AV} {sv:Array Value} {yl:Option Nat} {loc:Nat→Option Blk} {r:Rr} {ds ds':List Nat} {a a':Act} {w w':World} (h:FR X yl A0 sav sv env loc r ds a w) (ht:a'.tmps=a.tmps)
  (hb:Bel w.heap.size w w') (hX:X' A0' (own r ds') w') (hS:∀ A0 O O' w w',X' A0 O w→Turn O w w'→(∀ b,O' b→O b∨w.heap.size≤b)→X' A0 O' w') (hA:∀ b,A0' b→A0 b∨w.heap.size≤b) (hlt:∀ b,A0' b→b<w'.heap.size) (hds:∀ q,q ∈ ds'→q ∈ ds∨w.heap.size≤q)
  (hd:a'.defers=ds'.map fun q=>{ target:=.collected q,args:=#[] }) (hn:ds'.Nodup) (hok:∀ q,q ∈ ds'→w'.heap[q]?=some (.deferred (some []))∧¬ A0' q):FR X' yl A0' sav sv env loc r ds' a' w':=by
 have hk:Keeps (AR A0 r ds) (AR A0' r ds') w w':=by
  refine ⟨hb.size,fun b hb' _=>hb.block b hb',fun b hb'=>?_⟩
  rcases hb' with h1 | h1 | h1
  ·exact (hA b h1).imp .inl id
  ·exact .inl (.inr (.inl h1))
  ·exact (hds b h1).imp (fun h=>.inr (.inr h)) id
 refine ⟨by rw [ht];exact h.env.mono hk (fun _ _ h=>h),h.sav.mono hk (fun _ _ h=>h),fun j k hj=>(h.mem j k hj).keep hk (fun _ _ h=>h) (fun b hb'=>hb.block b (h.lt b (.of hb'))),h.dom,h.domL,h.inj,h.injL,h.sep,fun b hj h1=>?_,fun b hj=>Nat.lt_of_lt_of_le (h.lt b hj) hb.size,fun b hj hq=>(hds b hq).elim (h.sepD b hj) (fun e=>by have:=h.lt b hj;omega),hlt,hX,hS,hd,hn,hok,h.ylv⟩
 ·rcases hA b h1 with h2 | h2
  ·exact h.dis b hj h2
  ·have:=h.lt b hj;omega
theorem Ld.range {f:Operand} {g:FuncId} {us vs:List AV} {fnI:Func} {ps:Array Tmp} {assign body:Code} {S:Nat→St} {fin:Exit} {evs:List (List AV × Bool)}
  (hf:evO (S 0).env f=some (.fn (.func g) us vs)) (hg:P.funcs[g]?=some fnI) (hok:nameOk fnI=true) (hn1:us.all noL=true) (hn2:vs.all noL=true) (hic:IC P g us vs evs)
  (hr:∀ i x b,evs[i]?=some (x,b)→∃ e,Round P ps assign body (S i) (S (i+1)) x e∧(if i+1=evs.length then e=fin else e=.normal)∧b=(jumpOf e).isNone)
  (hfin:roundEnd fin=true) (h0:evs=[]→fin=.normal):Ld P (.rangeFunc f ps assign body) (S 0) fin (S evs.length):=by
 have hround:∀ i,i<evs.length→∃ x b e,evs[i]?=some (x,b)∧Round P ps assign body (S i) (S (i+1)) x e∧(if i+1=evs.length then e=fin else e=.normal)∧b=(jumpOf e).isNone:=fun i hi=>by
  obtain ⟨e,h⟩:=hr i (evs[i]).1 (evs[i]).2 (by rw [List.getElem?_eq_getElem hi])
  exact ⟨_,_,e,List.getElem?_eq_getElem hi,h⟩
 have hext:∀ i,i≤evs.length→Ext (S i) (S evs.length):=chain_ext fun i hi=>by
  obtain ⟨x,b,e,_,h,_⟩:=hround i hi
  exact h.ext
 refine ⟨hext 0 (Nat.zero_le _),fun yl evs0 Y hev hY ro n hrc A0 r ds sv a w hfr=>wpIn_rangeFunc (fun fn _=>?_)⟩
 obtain ⟨l,mk,dq,w1,hent,hb1,hrec1,hl1,hmn,hmk⟩:=enter_run (P:=P) ro w fn a.tmps ps assign body (fun l hl=>hrc l hl _ _ _ _ hfr.inv)
 let mark:Nat→Deferred:=fun q=>{ target:=.collected q,args:=#[] }
 let a1:Act:={ a with defers:=mk.map mark ++ a.defers }
 have hdslt:∀ q,q ∈ ds→q<w.heap.size:=fun q hq=>(Array.getElem?_eq_some_iff.1 (hfr.dok q hq).1).1
 have hdsw:∀ q,q ∈ mk ++ ds→q ∈ ds∨w.heap.size≤q:=fun q hq=>by
  rcases List.mem_append.1 hq with h | h
  ·exact .inr (hmk q h).1
  ·exact .inl h
 have hfr1:FR (Y (S 0).out.length) yl A0 (S 0).sav sv (S 0).env (locOf (S 0)) r (mk ++ ds) a1 w1:=by
  refine hfr.move rfl (.below hb1) (fun b hj=>hb1.block b (hfr.lt b hj)) hdsw ?_ ?_ (fun q hq=>?_)
  ·show mk.map mark ++ a.defers=(mk ++ ds).map mark
   rw [List.map_append,hfr.dfr]
  ·refine List.nodup_append.2 ⟨hmn,hfr.dnd,fun p hp q hq e=>?_⟩
   have:=(hmk p hp).1
   have:=hdslt q hq
   omega
  ·rcases List.mem_append.1 hq with h | h
   ·exact ⟨(hmk q h).2,fun hA=>by have:=hfr.a0 q hA;have:=(hmk q h).1;omega⟩
   ·exact ⟨by rw [hb1.block q (hdslt q h)];exact (hfr.dok q h).1,(hfr.dok q h).2⟩
 have hfv':VR w (AR A0 r ds) r (.fn (.func g) us vs) (a.eval f):=hfr.eval f _ hf
 have hl1':l<w1.heap.size:=(Array.getElem?_eq_some_iff.1 hrec1).1
 have hA0l:¬ A0 l:=fun h=>by have:=hfr.a0 l h;omega
 have hownl:¬ own r (mk ++ ds) l:=fun h=>by
  rcases h with hj | h
  ·have:=hfr.lt l hj;omega
  ·have:=(hfr1.dok l h).1;rw [hrec1] at this;cases this
 let rcd:Nat→Loop:=fun i=>{ state:=if (if i=evs.length then jumpOf fin else none).isNone then .ready else .done,pending:=if i=evs.length then jumpOf fin else none,fn,tmps:=a.tmps,params:=ps,assign,body,defers:=dq }
 have hp0:(if 0=evs.length then jumpOf fin else none)=none:=by
  split
  ·rename_i h;rw [h0 (List.eq_nil_of_length_eq_zero h.symm)];rfl
  ·rfl
 have hrec0:w1.heap[l]?=some (.loop (rcd 0)):=by
  rw [hrec1];simp only [rcd,hp0];rfl
 generalize hz:a.eval f=z at hfv'
 cases hfv' with
 | fn hx hy h1 h2=>
  rename_i us' vs'
  have hfnb:fnI.body.isNone=false∧(fnI.name == "runtime.NumGoroutine")=false:=by
   simp only [nameOk,Bool.and_eq_true,Bool.not_eq_true'] at hok
   refine ⟨?_,hok.2⟩
   cases hb:fnI.body with
   | none=>simp [hb] at hok
   | some _=>rfl
  have hA1:∀ b,(AR A0 r (mk ++ ds) b∨b=l)→AR A0 r ds b∨w.heap.size≤b:=fun b hb=>by
   rcases hb with (h | h | h) | h
   ·exact .inl (.inl h)
   ·exact .inl (.inr (.inl h))
   ·rcases List.mem_append.1 h with h | h
    ·exact .inr (hmk b h).1
    ·exact .inl (.inr (.inr h))
   ·rw [h];exact .inr hl1
  let A':Nat→Prop:=fun b=>A0 b∨own r (mk ++ ds) b∨b=l
  have hkA:Keeps (AR A0 r ds) A' w w1:=⟨hb1.size,fun b hb _=>hb1.block b hb,fun b hb=>hA1 b (by
   rcases hb with h | h | h
   ·exact .inl (.inl h)
   ·exact .inl (.inr h)
   ·exact .inr h)⟩
  have g1:VRs w1 A' (yR (some l)) us us':=by
   have:=VRs.weaken (A':=AR A0 r ds) (r':=yR (some l)) hn1 ⟨hx,h1⟩ (fun _ h=>h)
   exact this.mono hkA (fun _ _ h=>h)
  have g2:VRs w1 A' (yR (some l)) vs vs':=by
   have:=VRs.weaken (A':=AR A0 r ds) (r':=yR (some l)) hn2 ⟨hy,h2⟩ (fun _ h=>h)
   exact this.mono hkA (fun _ _ h=>h)
  have gy:VRs w1 A' (yR (some l)) [.yv] #[.func (.yield l) #[] #[]]:=VRs.one (.yv rfl)
  have hresolve:(resolve a.eval (rangeCall f l) 0).run P w1=.ok { target:=.fn (.func g) vs',args:=us' ++ #[.func (.yield l) #[] #[]] } w1:=by
   have e:Array.map a.eval #[Operand.const (Value.func (Fn.yield l) #[] #[])]=#[Value.func (Fn.yield l) #[] #[]]:=by simp [Act.eval]
   simp only [resolve,hz,Deferred.ofValue,Sem.run_pure,e]
  have hinv:(invoke (.fn (.func g) vs') (us' ++ #[.func (.yield l) #[] #[]])).run P w1=.ok (.enter g (us' ++ #[.func (.yield l) #[] #[]] ++ vs')) w1:=by
   simp only [invoke,callFunc,Sem.run_bind,Sem.run_pure,Result.andThen_ok,run_program,hg,hfnb.1,hfnb.2,Bool.false_eq_true,if_false]
  refine ⟨l,mk.map mark,w1,_,w1,g,_,w1,hent,hresolve,fun _ _=>trivial,hinv,fun h=>by simp [wf_depth] at h,?_⟩
  have hYH:YH P (some l) evs (Mid Y yl S l (mk ++ ds) a1 sv rcd):=by
   refine ⟨Mid.stands hY.1,fun i x b hi ro' n' B O w2 us2 R hB hO hmid hv2 hR=>?_⟩
   have hilt:i<evs.length:=(List.getElem?_eq_some_iff.1 hi).1
   obtain ⟨e,hrd,he,hbe⟩:=hr i x b hi
   have hrst:(rcd i).state=.ready:=by
    simp only [rcd,if_neg (show ¬ i=evs.length by omega)];rfl
   refine round_ok (rec:=rcd) (e:=e) (a:=a1) (sv:=sv) (ds:=mk ++ ds) hY hrd ((hext (i+1) (by omega)).pre hev) rfl hrst ?_ hB hO hmid hv2 (fun A'' w' hm hk hA=>by rw [← hbe];exact hR A'' w' hm hk hA)
   have hj:jumpOf e=if i+1=evs.length then jumpOf fin else none:=by
    split at he
    ·rename_i h;rw [if_pos h,he]
    ·rename_i h;rw [if_neg h,he];rfl
   simp only [rcd,hj]
  have hMid0:Mid Y yl S l (mk ++ ds) a1 sv rcd 0 A' (fun _=>False) w1:=by
   refine ⟨A0,r,fun b=>Iff.rfl,fun _ h=>h.elim,hA0l,?_,?_,hrec0⟩
   ·refine hfr.move2 (X':=Tr) rfl hb1 trivial (fun _ _ _ _ _ _ _ _=>trivial) (fun b hb=>?_) (fun b hb=>?_) hdsw hfr1.dfr hfr1.dnd (fun q hq=>⟨(hfr1.dok q hq).1,fun hb=>?_⟩)
    ·rcases hb with h | ⟨h,_⟩ | h
     ·exact .inl h
     ·exact h.elim
     ·rw [h];exact .inr hl1
    ·rcases hb with h | ⟨h,_⟩ | h
     ·exact hfr1.a0 b h
     ·exact h.elim
     ·rw [h];exact hl1'
    ·rcases hb with h | ⟨h,_⟩ | h
     ·exact (hfr1.dok q hq).2 h
     ·exact h
     ·exact hownl (by rw [← h];exact .inr hq)
   ·refine hfr.clo _ _ _ _ _ hfr.inv (.below hb1) (fun b hb=>?_)
    rcases hb with (h | h) | h | h
    ·exact .inl (.inl h)
    ·exact (hdsw b h).imp .inr id
    ·exact h.elim
    ·rw [h];exact .inr hl1
  refine (hic ro (n - 1) l (Mid Y yl S l (mk ++ ds) a1 sv rcd) A' w1 _ hYH (fun b hb=>?_) hMid0 ((g1.append gy).append g2)).mono ?_
  ·rcases hb with h | h | h
   ·exact hfr1.a0 b h
   ·exact hfr1.arLt b (.inr h)
   ·rw [h];exact hl1'
  ·rintro e' w3 ⟨⟨v,rfl⟩,B,⟨A5,r5,hB,hdis5,hl5,hfr5,hy5,hrec5⟩,hB5⟩
   have hl3:l<w3.heap.size:=(Array.getElem?_eq_some_iff.1 hrec5).1
   have hend:=run_endLoop (P:=P) hrec5 (fun h=>by
    have:∀ c:Bool,(if c=true then LoopState.ready else LoopState.done)≠.busy:=fun c=>by cases c<;>simp
    exact this _ h)
   have hfr6:FR (Y (S evs.length).out.length) yl A5 (S evs.length).sav sv (S evs.length).env (locOf (S evs.length)) r5 (mk ++ ds) a1 (w3.putObj l (.loop { rcd evs.length with state:=.exhausted })):=by
    refine hfr5.other ?_ (hY.1 _) ⟨by simp,fun b _ hb=>World.putObj_heap_other (fun e=>hb (.inr (.inr e))),fun b hb=>.inl (.inl hb)⟩ (fun b hb=>by simpa using hfr5.a0 b (.inl hb))
    refine hY.1 _ _ _ _ _ _ hy5 ⟨rfl,rfl,rfl,by simp,fun b _ hb=>World.putObj_heap_other (fun e=>hb (.inr (.inr e))),dle.of (Nat.le_refl _)⟩ (fun b hb=>.inl (.inl hb))
   have hpend:(rcd evs.length).pending=jumpOf fin:=by simp [rcd]
   generalize w3.putObj l (.loop { rcd evs.length with state:=.exhausted })=w4 at hend hfr6
   rw [hpend] at hend
   refine ⟨_,_,hend,?_⟩
   cases fin with
   | normal=>exact ⟨rfl,A5,r5,mk ++ ds,hfr6⟩
   | ret=>exact wpIn_ret ⟨rfl,A5,r5,mk ++ ds,hfr6⟩
   | exit id=>exact wpIn_exit ⟨rfl,A5,r5,mk ++ ds,hfr6⟩
   | goto t=>simp [roundEnd] at hfin
   | panic ch=>simp [roundEnd] at hfin
   | outgrown=>simp [roundEnd] at hfin
end
end Go.Proofs.YtkpligkggnjcoaaGreatDoor.Ev
/-! EvLJ -/
namespace Go.Proofs.YtkpligkggnjcoaaGreatDoor.Ev
open Go.RowKit
def Piv (P:Program) (ops:Array Oper) (o:Oper) (st st1:St):Prop:=
 st1.out=st.out∧∀ (X:Fx),Stands P X→∀ (yl ro:Option Nat) (n:Nat) (A0:Nat→Prop) (r:Rr) (ds:List Nat) (sv:Array Value) (a:Act) (w:World) (K:Act→World→Prop) (Q:Exit→Act→World→Prop),
  FR X yl A0 st.sav sv st.env (locOf st) r ds a w→(∀ A1 r' a' w',FR X yl A1 st1.sav sv st1.env (locOf st1) r' ds a' w'→K a' w') →
  if Region.wanted o (yielded ops a.tmps) then o.wpIn (WF ro) n P a w K Q else (∀ f,o.about P w a.eval=some f→(WF ro).fn f)∧K (a.put o.dst undef) w
theorem LdO.piv {P:Program} {ops:Array Oper} {rest:List Oper} {o:Oper} {i:Nat} {st st1 st':St} (h0:ops[i]?=some o) (hp:Piv P ops o st st1) (h:LdO P ops rest (i+1) st1 st'):LdO P ops (o :: rest) i st st':=by
 refine ⟨?_,fun yl evs Y hev hY ro n hrc A0 r ds sv a w hfr=>?_⟩
 ·obtain ⟨l,hl⟩:=h.1
  exact ⟨l,by rw [hl,hp.1]⟩
 simp only [List.length_cons,List.range'_succ,wpOpsIn,h0]
 refine hp.2 _ (hY.1 _) yl ro n A0 r ds sv a w _ _ hfr (fun A1 r' a' w' hfr'=>?_)
 rw [← hp.1] at hfr'
 exact h.2 yl evs Y hev hY ro n hrc A1 r' ds sv a' w' hfr'
theorem Piv.inl {P:Program} {ops:Array Oper} {o:Oper} {st st3:St} {c:Call} {f:Operand} {g:FuncId} {xs ys vs:List AV} {v:AV} (hw:wantD ops st.env o=some true) (ho:o.op=.call c) (hc:c.callee=.value f)
  (hf:evO st.env f=some (.fn (.func g) xs ys)) (hvs:mapEv (evO st.env) c.args.toList=some vs) (hil:IL P g (xs ++ vs ++ ys) st v st3):Piv P ops o st { st3 with env:=putD st3.env o.dst v }:=by
 have hout:st3.out=st.out:=hil.2.2.1
 refine ⟨hout,fun X hX yl ro n A0 r ds sv a w K Q hfr hK=>?_⟩
 rw [if_pos (wantD_true hfr hw)]
 have hargs:=mapEv_rel hfr.cx.val _ _ hvs
 have e1:(c.args.toList.map a.eval).toArray=c.args.map a.eval:=Array.ext' (by simp)
 rw [e1] at hargs
 have hfv:=hfr.eval f _ hf
 generalize hz:a.eval f=z at hfv
 cases hfv with
 | fn hx hy hr1 hr2=>
  rename_i us0 vs0
  refine ⟨fun _ _=>trivial,?_⟩
  rw [Oper.semAt_eq _ _ _ (fun d hd=>by rw [ho] at hd;cases hd)]
  obtain ⟨fn,hfn,hok⟩:=hil.1
  simp only [nameOk,Bool.and_eq_true,Bool.not_eq_true'] at hok
  obtain ⟨hb,hn⟩:=hok
  have hbn:fn.body.isNone=false:=by
   cases hbb:fn.body with
   | none=>simp [hbb] at hb
   | some b=>rfl
  have hrun:(execOp a.eval o).run P w=.ok (.enter g (us0 ++ c.args.map a.eval ++ vs0)) w:=by
   simp only [execOp,ho,resolve,hc,hz,Deferred.ofValue,Sem.run_bind,Sem.run_pure,Result.andThen_ok,invoke,callFunc,run_program,hfn,hn,Bool.false_eq_true,if_false,hbn]
  rw [hrun,Oper.uponIn_enter]
  refine ⟨fun h=>by simp [wf_depth] at h,?_⟩
  refine (hil.2.2.2 _ _ hX _ _ _ _ _ _ _ _ _ hfr (VRs.append (VRs.append ⟨hx,hr1⟩ hargs) ⟨hy,hr2⟩)).mono ?_
  rintro e' w' ⟨u,A1,r',rfl,hfr',hu⟩
  exact hK A1 r' _ w' (hfr'.val (Bel.refl _ _) hu o.dst)
def pivOk (bf:List Nat) (i n:Nat):Bool:=(List.range n).all fun j=>if i<j then (bf.getD j 0).testBit i else if j<i then (bf.getD i 0).testBit j else true
theorem pivOk_lo {bf:List Nat} {i n:Nat} (h:pivOk bf i n=true) (hi:i<n):∀ j,j<i→(bf.getD i 0).testBit j=true:=fun j hj=>by
 have:=List.all_eq_true.1 h j (List.mem_range.2 (by omega))
 rw [if_neg (by omega),if_pos hj] at this
 exact this
theorem pivOk_hi {bf:List Nat} {i n:Nat} (h:pivOk bf i n=true):∀ j,i<j→j<n→(bf.getD j 0).testBit i=true:=fun j hj hn=>by
 have:=List.all_eq_true.1 h j (List.mem_range.2 hn)
 rw [if_pos hj] at this
 exact this
inductive WkQ (P:Program) (cl:FuncId→List AV→Option AV) (ops:Array Oper) (bf:List Nat):List Oper→Nat→St→List (Nat × Nat × Bool)→St→Prop
 | last {l:List Oper} {i:Nat} {st st':St} {tr:List (Nat × Nat × Bool)} (h:Wk P cl ops bf l i st tr true st'):WkQ P cl ops bf l i st tr st'
 | piv {l1 l2:List Oper} {o:Oper} {i:Nat} {st s1 s2 st':St} {tr:List (Nat × Nat × Bool)} (h:Wk P cl ops bf l1 i st tr true s1) (hp:pivOk bf (i+l1.length) ops.size=true) (hs:Piv P ops o s1 s2)
   (k:WkQ P cl ops bf l2 (i+l1.length+1) s2 [] st'):WkQ P cl ops bf (l1 ++ o :: l2) i st tr st'
section
variable {P:Program} {cl:FuncId→List AV→Option AV} {X:Fx} {w:World} {A0:Nat→Prop} {r:Rr} {ds:List Nat} {sav:List AV} {sv:Array Value} {yl:Option Nat} {a:Act} {ops:Array Oper} {ro:Option Nat} {n:Nat} {Q:Exit→Act→World→Prop}
theorem WkQ.cons {bf:List Nat} {o:Oper} {rest:List Oper} {i:Nat} {st st':St} {tr:List (Nat × Nat × Bool)} {e:Eff} (hs:stepE P cl ops st o=some e) (hc:clashAny bf i tr (touch P (evO st.env) st.loc.length o)=false)
  (h:WkQ P cl ops bf rest (i+1) (applyE st e) (addTr i tr (touch P (evO st.env) st.loc.length o)) st'):WkQ P cl ops bf (o :: rest) i st tr st':=by
 cases h with
 | last h=>exact .last (.cons (isY:=false) ⟨hs,rfl⟩ (fun h=>by cases h) hc h)
 | piv h hp hs' k=>
  rename_i l1 l2 o' s1 s2
  have e1:i+(o :: l1).length=i+1+l1.length:=by simp only [List.length_cons];omega
  exact .piv (l1:=o :: l1) (.cons (isY:=false) ⟨hs,rfl⟩ (fun h=>by cases h) hc h) (by rw [e1];exact hp) hs' (by rw [e1];exact k)
def noE:Eff:=⟨none,.tup [],none⟩
theorem eL_none {R:Nat→Eff} {L:Nat→Bool} {env:List AV} {m:Nat} (h:∀ k,k<m→R k=noE):eL R L env m=env:=by
 induction m with
 | zero=>rfl
 | succ m ih=>
  simp only [eL,h m (by omega)]
  split<;>exact ih (fun k hk=>h k (by omega))
theorem lL_none {R:Nat→Eff} {L:Nat→Bool} {loc:Nat→Option Blk} {m:Nat} (h:∀ k,k<m→R k=noE):lL R L loc m=loc:=by
 induction m with
 | zero=>rfl
 | succ m ih=>
  simp only [lL,h m (by omega)]
  split
  ·show locE noE _=loc
   rw [ih (fun k hk=>h k (by omega))];rfl
  ·exact ih (fun k hk=>h k (by omega))
theorem eL_same {R:Nat→Eff} {L L':Nat→Bool} {env:List AV} {m:Nat}:(∀ k,k<m→R k=noE∨L k=L' k)→eL R L env m=eL R L' env m:=by
 induction m with
 | zero=>intro _;rfl
 | succ m ih=>
  intro h
  have ih:=ih (fun k hk=>h k (by omega))
  simp only [eL]
  rcases h m (by omega) with h1 | h1
  ·rw [h1]
   show (if L m=true then eL R L env m else eL R L env m)=if L' m=true then eL R L' env m else eL R L' env m
   simp [ih]
  ·rw [h1,ih]
theorem lL_same {R:Nat→Eff} {L L':Nat→Bool} {loc:Nat→Option Blk} {m:Nat}:(∀ k,k<m→R k=noE∨L k=L' k)→lL R L loc m=lL R L' loc m:=by
 induction m with
 | zero=>intro _;rfl
 | succ m ih=>
  intro h
  have ih:=ih (fun k hk=>h k (by omega))
  simp only [lL]
  rcases h m (by omega) with h1 | h1
  ·rw [h1]
   show (if L m=true then lL R L loc m else lL R L loc m)=if L' m=true then lL R L' loc m else lL R L' loc m
   simp [ih]
  ·rw [h1,ih]
structure LexW (P:Program) (cl:FuncId→List AV→Option AV) (ops:Array Oper) (m e:Nat) (S:Nat→St) (R:Nat→Eff):Prop where
 step:∀ k o,m≤k→k<e→ops[k]?=some o→stepE P cl ops (S k) o=some (R k)∧S (k+1)=applyE (S k) (R k)
 meet:∀ k o,m≤k→k<e→ops[k]?=some o→∀ t ∈ touch P (evO (S k).env) (S k).loc.length o,∀ k' o',m≤k'→k'<k→ops[k']?=some o'→∀ t' ∈ touch P (evO (S k').env) (S k').loc.length o',t'.1=t.1→(t'.2=true∨t.2=true) →
  ((masks ops.toList []).getD k 0).testBit k'=true
 rest:∀ k,¬ (m≤k∧k<e)→R k=noE
 size:e≤ops.size
 le:m≤e
theorem stepE_keep {st:St} {o:Oper} {e:Eff} (h:stepE P cl ops st o=some e):e.dst=o.dst∧(applyE st e).env=putD st.env e.dst e.v∧locOf (applyE st e)=locE e (locOf st)∧(applyE st e).sav=st.sav∧(applyE st e).out=st.out ∧
  (∀ j b,e.mem=some (j,b)→(j,true) ∈ touch P (evO st.env) st.loc.length o):=by
 obtain ⟨h1,h2,h3,_,h5,h6⟩:=StepY.keep (st1:=applyE st e) (y:=false) ⟨h,rfl⟩
 exact ⟨h1,h2,h3,h5,rfl,h6⟩
variable {m e:Nat} {S:Nat→St} {R:Nat→Eff}
theorem LexW.inn (h:LexW P cl ops m e S R) {k:Nat} (hk:R k≠noE):m≤k∧k<e:=by
 by_cases hh:m≤k∧k<e
 ·exact hh
 ·exact absurd (h.rest k hh) hk
theorem LexW.dst (h:LexW P cl ops m e S R) {k t:Nat} (hk:(R k).dst=some t):∃ o,ops[k]?=some o∧m≤k∧k<e∧o.dst=some t:=by
 obtain ⟨h1,h2⟩:=h.inn (k:=k) (fun hh=>by rw [hh] at hk;cases hk)
 have hs:=h.size
 have ho:ops[k]?=some ops[k]:=Array.getElem?_eq_getElem (by omega)
 refine ⟨_,ho,h1,h2,?_⟩
 rw [← (stepE_keep (h.step k _ h1 h2 ho).1).1];exact hk
theorem LexW.memt (h:LexW P cl ops m e S R) {k j:Nat} {b:Blk} (hk:(R k).mem=some (j,b)):∃ o,ops[k]?=some o∧m≤k∧k<e∧(j,true) ∈ touch P (evO (S k).env) (S k).loc.length o:=by
 obtain ⟨h1,h2⟩:=h.inn (k:=k) (fun hh=>by rw [hh] at hk;cases hk)
 have hs:=h.size
 have ho:ops[k]?=some ops[k]:=Array.getElem?_eq_getElem (by omega)
 exact ⟨_,ho,h1,h2,(stepE_keep (h.step k _ h1 h2 ho).1).2.2.2.2.2 j b hk⟩
theorem LexW.frame (h:LexW P cl ops m e S R):∀ k,m≤k→k≤e→(S k).env=eL R (fun _=>true) (S m).env k∧locOf (S k)=lL R (fun _=>true) (locOf (S m)) k∧(S k).sav=(S m).sav∧(S k).out=(S m).out:=by
 intro k
 induction k with
 | zero=>
  intro h1 _
  have:m=0:=by omega
  subst this
  exact ⟨rfl,rfl,rfl,rfl⟩
 | succ k ih=>
  intro h1 h2
  by_cases he:m=k+1
  ·subst he
   exact ⟨(eL_none fun j hj=>h.rest j (by omega)).symm,(lL_none fun j hj=>h.rest j (by omega)).symm,rfl,rfl⟩
  ·obtain ⟨i1,i2,i3,i4⟩:=ih (by omega) (by omega)
   have hs:=h.size
   have ho:ops[k]?=some ops[k]:=Array.getElem?_eq_getElem (by omega)
   obtain ⟨s1,s2⟩:=h.step k _ (by omega) (by omega) ho
   obtain ⟨_,k2,k3,k4,k5,_⟩:=stepE_keep s1
   rw [s2,k2,k3,k4,k5]
   refine ⟨?_,?_,i3,i4⟩
   ·simp only [eL,if_true];rw [← i1]
   ·simp only [lL,if_true];rw [← i2]
theorem LexW.agree (h:LexW P cl ops m e S R) (hok:regOk ops (masks ops.toList [])=true) {L:Nat→Bool} (hL:Closed ops L) {i:Nat} {o:Oper} (hmi:m≤i) (hie:i<e) (hi:ops[i]?=some o) (hiL:L i=false)
  (hready:∀ e ∈ o.after,Region.binds .any e=true→L e.on=true) :
  (∀ t ∈ o.looksAt ops,(eL R L (S m).env ops.size)[t]?=(S i).env[t]?)∧(∀ t ∈ touch P (evO (S i).env) (S i).loc.length o,lL R L (locOf (S m)) ops.size t.1=locOf (S i) t.1):=by
 have hin:i<ops.size:=(Array.getElem?_eq_some_iff.1 hi).1
 have opAt:∀ k (hk:k<ops.size),ops[k]?=some (ops[k]'hk):=fun k hk=>Array.getElem?_eq_getElem hk
 have before:∀ k,((masks ops.toList []).getD i 0).testBit k=true→L k=true:=closed_before hL i o hi hready
 have behind:∀ k,k<ops.size→((masks ops.toList []).getD k 0).testBit i=true→L k=false:=fun k hk hb=>by
  cases hLk:L k with
  | false=>rfl
  | true=>
   have:=closed_before hL k _ (opAt k hk) (hL k _ (opAt k hk) hLk) i hb
   rw [hiL] at this;cases this
 obtain ⟨f1,f2,_⟩:=h.frame i hmi (by omega)
 constructor
 ·intro t ht
  rw [f1]
  refine eL_agree (fun k hk hd=>?_) (fun k hk hd=>?_) ops.size (by omega)
  ·obtain ⟨o',ho',_,_,hd'⟩:=h.dst hd
   exact before k (regOk_dep hok hi ho' hk (by simp [depSlot,hd',ht]))
  ·obtain ⟨o',ho',_,_,hd'⟩:=h.dst hd
   have hlt:=(Array.getElem?_eq_some_iff.1 ho').1
   by_cases he:k=i
   ·rw [he];exact hiL
   ·exact behind k hlt (regOk_dep hok ho' hi (by omega) (by simp [depSlot,hd',ht]))
 ·intro t ht
  rw [f2]
  refine lL_agree (fun k b hk hm=>?_) (fun k b hk hm=>?_) ops.size (by omega)
  ·obtain ⟨o',ho',h1,_,hw⟩:=h.memt hm
   exact before k (h.meet i o hmi hie hi t ht k _ h1 hk ho' _ hw rfl (.inl rfl))
  ·obtain ⟨o',ho',h1,h2,hw⟩:=h.memt hm
   have hlt:=(Array.getElem?_eq_some_iff.1 ho').1
   by_cases he:k=i
   ·rw [he];exact hiL
   ·exact behind k hlt (h.meet k _ h1 h2 ho' _ hw i o hmi (by omega) hi t ht rfl (.inr rfl))
theorem LexW.add (h:LexW P cl ops m e S R) (hok:regOk ops (masks ops.toList [])=true) {L:Nat→Bool} (hL:Closed ops L) {i:Nat} {o:Oper} (hmi:m≤i) (_hie:i<e) (hi:ops[i]?=some o) (hiL:L i=false) :
  eL R (addL L i) (S m).env ops.size=putD (eL R L (S m).env ops.size) (R i).dst (R i).v∧lL R (addL L i) (locOf (S m)) ops.size=locE (R i) (lL R L (locOf (S m)) ops.size):=by
 have hin:i<ops.size:=(Array.getElem?_eq_some_iff.1 hi).1
 have opAt:∀ k (hk:k<ops.size),ops[k]?=some (ops[k]'hk):=fun k hk=>Array.getElem?_eq_getElem hk
 have behind:∀ k,k<ops.size→((masks ops.toList []).getD k 0).testBit i=true→L k=false:=fun k hk hb=>by
  cases hLk:L k with
  | false=>rfl
  | true=>
   have:=closed_before hL k _ (opAt k hk) (hL k _ (opAt k hk) hLk) i hb
   rw [hiL] at this;cases this
 refine ⟨eL_add hiL (fun k hk hLk t hd hd'=>?_) _ hin,lL_add hiL (fun k hk hLk j b b' hm hm'=>?_) _ hin⟩
 ·obtain ⟨o1,ho1,_,_,d1⟩:=h.dst hd
  obtain ⟨o2,ho2,_,_,d2⟩:=h.dst hd'
  have hlt:=(Array.getElem?_eq_some_iff.1 ho2).1
  have:=behind k hlt (regOk_dep hok ho2 ho1 hk (by simp [depSlot,d1,d2]))
  rw [this] at hLk;cases hLk
 ·obtain ⟨o1,ho1,_,_,t1⟩:=h.memt hm
  obtain ⟨o2,ho2,g1,g2,t2⟩:=h.memt hm'
  have hlt:=(Array.getElem?_eq_some_iff.1 ho2).1
  rw [hi] at ho1;injection ho1 with ho1;subst ho1
  have:=behind k hlt (h.meet k _ g1 g2 ho2 _ t2 i o hmi hk hi _ t1 rfl (.inl rfl))
  rw [this] at hLk;cases hLk
theorem left_lt {N i:Nat} {listed:Array Bool} (hin:i<N) (hlt:i<listed.size) (hun:listed.getD i true=false):left N (listed.setIfInBounds i true)<left N listed:=by
 refine filter_lt _ (fun x hx hq=>?_) ⟨i,List.mem_range.2 hin,by simp [hun],?_⟩
 ·rw [Array.getD_eq_getD_getElem?,Array.getElem?_setIfInBounds] at hq
  by_cases he:i=x
  ·subst he;simp [hlt] at hq
  ·rw [if_neg he,← Array.getD_eq_getD_getElem?] at hq;exact hq
 ·rw [Array.getD_eq_getD_getElem?,Array.getElem?_setIfInBounds];simp [hlt]
theorem listed_set {listed:Array Bool} {i:Nat} (hlt:i<listed.size):∀ k,(listed.setIfInBounds i true).getD k false=addL (fun k=>listed.getD k false) i k:=fun k=>by
 unfold addL
 rw [Array.getD_eq_getD_getElem?,Array.getElem?_setIfInBounds]
 by_cases he:i=k
 ·subst he;simp [hlt]
 ·rw [if_neg he,if_neg (Ne.symm he),← Array.getD_eq_getD_getElem?]
theorem closed_set {listed:Array Bool} {i:Nat} {o:Oper} (hlt:i<listed.size) (hc:Closed ops (fun k=>listed.getD k false)) (ho:ops[i]?=some o) (hready:∀ e ∈ o.after,Region.binds .any e=true→listed.getD e.on false=true) :
  Closed ops (fun k=>(listed.setIfInBounds i true).getD k false):=by
 intro k o' hk hLk e he hb
 simp only [listed_set hlt] at hLk ⊢
 unfold addL at hLk ⊢
 split
 ·rfl
 ·split at hLk
  ·rename_i hki
   subst hki
   rw [ho] at hk;injection hk with hk;subst hk
   exact hready e he hb
  ·exact hc k o' hk hLk e he hb
theorem seg_order (hcl:∀ f args v,cl f args=some v→CC P f args v) (hgd:∀ A0 O w,X A0 O w→GOK P w) (hok:regOk ops (masks ops.toList [])=true) (hlex:LexW P cl ops m e S R)
  (hpe:e<ops.size→pivOk (masks ops.toList []) e ops.size=true)
  (hlast:e=ops.size→∀ r a w,FR X yl A0 (S e).sav sv (S e).env (locOf (S e)) r ds a w→Q .normal a w)
  (hpiv:∀ o,ops[e]?=some o→∀ (fuel:Nat) (listed:Array Bool) (r:Rr) (a:Act) (w:World),listed.size=ops.size→left ops.size (listed.setIfInBounds e true)≤fuel→Closed ops (fun k=>(listed.setIfInBounds e true).getD k false) →
   (∀ k,k<e→listed.getD k false=true)→(∀ k,e≤k→listed.getD k false=false)→FR X yl A0 (S e).sav sv (S e).env (locOf (S e)) r ds a w →
   if Region.wanted o (yielded ops a.tmps) then o.wpIn (WF ro) n P a w (wpAnyIn (WF ro) n P .any ops Q fuel (listed.setIfInBounds e true)) Q else (∀ f,o.about P w a.eval=some f→(WF ro).fn f)∧wpAnyIn (WF ro) n P .any ops Q fuel (listed.setIfInBounds e true) (a.put o.dst undef) w) :
  ∀ (fuel:Nat) (listed:Array Bool) (r:Rr) (a:Act) (w:World),listed.size=ops.size→left ops.size listed≤fuel→Closed ops (fun k=>listed.getD k false)→(∀ k,k<m→listed.getD k false=true)→(∀ k,e≤k→listed.getD k false=false) →
   FR X yl A0 (S m).sav sv (eL R (fun k=>listed.getD k false) (S m).env ops.size) (lL R (fun k=>listed.getD k false) (locOf (S m)) ops.size) r ds a w→wpAnyIn (WF ro) n P .any ops Q fuel listed a w:=by
 have full:∀ (listed:Array Bool) (r:Rr) (a:Act) (w:World),(∀ k,m≤k→k<e→listed.getD k false=true)→
   FR X yl A0 (S m).sav sv (eL R (fun k=>listed.getD k false) (S m).env ops.size) (lL R (fun k=>listed.getD k false) (locOf (S m)) ops.size) r ds a w→FR X yl A0 (S e).sav sv (S e).env (locOf (S e)) r ds a w:=by
  intro listed r a w hall hfr
  obtain ⟨e1,e2,e3,_⟩:=hlex.frame e hlex.le (Nat.le_refl _)
  have hsame:∀ k,k<ops.size→R k=noE∨listed.getD k false=(fun k=>decide (k<e)) k:=fun k _=>by
   by_cases hk:m≤k∧k<e
   ·exact .inr (by rw [hall k hk.1 hk.2];simp [hk.2])
   ·exact .inl (hlex.rest k hk)
  have htrue:∀ k,k<e→R k=noE∨(fun _=>true) k=(fun k=>decide (k<e)) k:=fun k hk=>.inr (by simp [hk])
  rw [eL_same hsame,lL_same hsame] at hfr
  have cutE:∀ d,eL R (fun k=>decide (k<e)) (S m).env (e+d)=eL R (fun k=>decide (k<e)) (S m).env e:=fun d=>by
   induction d with
   | zero=>rfl
   | succ d ih=>rw [← Nat.add_assoc];simp only [eL];rw [if_neg (by simp)];exact ih
  have cutL:∀ d,lL R (fun k=>decide (k<e)) (locOf (S m)) (e+d)=lL R (fun k=>decide (k<e)) (locOf (S m)) e:=fun d=>by
   induction d with
   | zero=>rfl
   | succ d ih=>rw [← Nat.add_assoc];simp only [lL];rw [if_neg (by simp)];exact ih
  have hse:=hlex.size
  rw [show ops.size=e+(ops.size - e) by omega,cutE,cutL,← eL_same htrue,← lL_same htrue,← e1,← e2,← e3] at hfr
  exact hfr
 have done:∀ (listed:Array Bool) (r:Rr) (a:Act) (w:World),listed.size=ops.size→Region.ready .any ops listed=[]→(∀ k,e≤k→listed.getD k false=false) →
   FR X yl A0 (S m).sav sv (eL R (fun k=>listed.getD k false) (S m).env ops.size) (lL R (fun k=>listed.getD k false) (locOf (S m)) ops.size) r ds a w→Q .normal a w:=by
  intro listed r a w hs hr hhi hfr
  have hall:=ready_nil hok hs hr
  have hee:e=ops.size:=by
   have:=hlex.size
   by_cases hh:e<ops.size
   ·have:=hall e hh;rw [hhi e (Nat.le_refl _)] at this;cases this
   ·omega
  exact hlast hee r a w (full listed r a w (fun k _ hk=>hall k (by omega)) hfr)
 intro fuel
 induction fuel with
 | zero=>
  intro listed r a w hs hleft _ _ hhi hfr
  have hnil:Region.ready .any ops listed=[]:=by
   cases hr:Region.ready .any ops listed with
   | nil=>rfl
   | cons i rs=>
    have hi:i ∈ Region.ready .any ops listed:=by rw [hr];simp
    obtain ⟨h1,h2⟩:=List.mem_filter.1 hi
    simp only [Bool.and_eq_true] at h2
    have hmem:i ∈ (List.range ops.size).filter fun i=>!listed.getD i true:=List.mem_filter.2 ⟨h1,h2.1⟩
    have:0<left ops.size listed:=List.length_pos_of_mem hmem
    omega
  exact ⟨hnil,done listed r a w hs hnil hhi hfr⟩
 | succ fuel ih=>
  intro listed r a w hs hleft hcl' hlo hhi hfr
  refine ⟨fun hnil=>done listed r a w hs hnil hhi hfr,fun i hi=>?_⟩
  obtain ⟨h1,h2⟩:=List.mem_filter.1 hi
  have hin:i<ops.size:=List.mem_range.1 h1
  have hlt:i<listed.size:=by omega
  have ho:ops[i]?=some ops[i]:=Array.getElem?_eq_getElem hin
  simp only [Bool.and_eq_true,Bool.not_eq_true',ho,Option.map_some,Option.getD_some,Array.all_eq_true'] at h2
  obtain ⟨hun,haft⟩:=h2
  have hiL:listed.getD i false=false:=by
   rw [Array.getD_eq_getD_getElem?,Array.getElem?_eq_getElem hlt,Option.getD_some] at hun ⊢;exact hun
  have hready:∀ e ∈ (ops[i]).after,Region.binds .any e=true→listed.getD e.on false=true:=fun e he hb=>by
   have:=haft e he
   simpa [hb] using this
  have hmi:m≤i:=by
   by_cases hh:i<m
   ·rw [hlo i hh] at hiL;cases hiL
   ·omega
  have hlft:left ops.size (listed.setIfInBounds i true)≤fuel:=by
   have:=left_lt hin hlt hun
   omega
  have hcl2:=closed_set hlt hcl' ho hready
  have before:=closed_before hcl' i _ ho hready
  unfold wpOpIn
  simp only [ho]
  by_cases hie:i<e
  ·obtain ⟨g1,g2⟩:=hlex.agree hok hcl' hmi hie ho hiL hready
   obtain ⟨k1,k2⟩:=hlex.add hok hcl' hmi hie ho hiL
   have hstep:=(hlex.step i _ hmi hie ho).1
   unfold stepE at hstep
   have etouch:touch P (evO (eL R (fun k=>listed.getD k false) (S m).env ops.size)) (S i).loc.length ops[i]=touch P (evO (S i).env) (S i).loc.length ops[i]:=touch_congr (evO_congr (ops:=ops) g1)
   have heff:effOf P cl ops (eL R (fun k=>listed.getD k false) (S m).env ops.size) (lL R (fun k=>listed.getD k false) (locOf (S m)) ops.size) (S i).loc.length ops[i]=some (R i):=by
    rw [effOf_congr (env':=(S i).env) (loc':=locOf (S i)) g1 (fun t ht=>by rw [etouch] at ht;exact g2 t ht)]
    exact hstep
   have hnx:∀ c b v f t ar,opRes P (evO (eL R (fun k=>listed.getD k false) (S m).env ops.size)) (lL R (fun k=>listed.getD k false) (locOf (S m)) ops.size) (S i).loc.length ops[i]=some (c,.alloc b v)∨opRes P (evO (eL R (fun k=>listed.getD k false) (S m).env ops.size)) (lL R (fun k=>listed.getD k false) (locOf (S m)) ops.size) (S i).loc.length ops[i]=some (c,.grow (S i).loc.length b v)∨opRes P (evO (eL R (fun k=>listed.getD k false) (S m).env ops.size)) (lL R (fun k=>listed.getD k false) (locOf (S m)) ops.size) (S i).loc.length ops[i]=some (c,.fresh f t ar) →
     (lL R (fun k=>listed.getD k false) (locOf (S m)) ops.size) (S i).loc.length=none:=fun c b v f t ar hr=>by
    have:((S i).loc.length,true) ∈ touch P (evO (eL R (fun k=>listed.getD k false) (S m).env ops.size)) (S i).loc.length ops[i]:=by
     rcases hr with hr | hr | hr
     ·exact opRes_alloc hr
     ·exact (opRes_grow hr).1
     ·exact (opRes_fresh hr).1
    rw [etouch] at this
    rw [g2 _ this];exact locOf_len _
   refine op_step hcl hgd hfr hnx heff (fun r' a' w' hfr'=>?_)
   refine ih (listed.setIfInBounds i true) r' a' w' (by simp [hs]) hlft hcl2 (fun k hk=>?_) (fun k hk=>?_) ?_
   ·rw [listed_set hlt];unfold addL;split
    ·rfl
    ·exact hlo k hk
   ·rw [listed_set hlt];unfold addL;rw [if_neg (by omega)];exact hhi k hk
   ·rw [eL_congr (L':=addL (fun k=>listed.getD k false) i) ops.size (fun k _=>listed_set hlt k),lL_congr (L':=addL (fun k=>listed.getD k false) i) ops.size (fun k _=>listed_set hlt k),k1,k2]
    exact hfr'
  ·have hes:e<ops.size:=by omega
   have hei:i=e:=by
    by_cases hh:i=e
    ·exact hh
    ·have:=before e (pivOk_hi (hpe hes) i (by omega) hin)
     simp only [hhi e (Nat.le_refl _)] at this
     cases this
   subst hei
   have hall:∀ k,k<i→listed.getD k false=true:=fun k hk=>before k (pivOk_lo (hpe hes) hes k hk)
   exact hpiv _ ho fuel listed r a w hs hlft hcl2 hall hhi (full listed r a w (fun k _ hk=>hall k hk) hfr)
theorem lexW_of {l1:List Oper} {i:Nat} {st s1:St} {tr:List (Nat × Nat × Bool)} (hi0:i≤ops.size) (h:Wk P cl ops (masks ops.toList []) l1 i st tr true s1) (hl:∀ k o,l1[k]?=some o→ops[i+k]?=some o) :
  ∃ S R,S i=st∧S (i+l1.length)=s1∧LexW P cl ops i (i+l1.length) S R:=by
 obtain ⟨S,R,yk,h1,h2,_,h3,h4,h5⟩:=h.trace
 have h3:=h3 rfl
 have at1:∀ k o,i≤k→k<i+l1.length→ops[k]?=some o→l1[k - i]?=some o:=fun k o hik hk ho=>by
  have hlt:k - i<l1.length:=by omega
  have:=hl (k - i) _ (List.getElem?_eq_getElem hlt)
  rw [show i+(k - i)=k by omega,ho] at this
  rw [this];exact List.getElem?_eq_getElem hlt
 refine ⟨S,fun k=>if i≤k∧k<i+l1.length then R k else noE,h1,h2,fun k o hik hk ho=>?_,fun k o hik hk ho t ht k' o' hik' hk' ho' t' ht' e1 e2=>?_,fun k hk=>if_neg hk,?_,by omega⟩
 ·have:=h4 (k - i) o (at1 k o hik hk ho)
  rw [show i+(k - i)=k by omega] at this
  rw [if_pos ⟨hik,hk⟩]
  have hne:¬ k=yk:=by omega
  simp only [hne,decide_false] at this
  exact this
 ·have:=(h5 (k - i) o (at1 k o hik hk ho) t (by rw [show i+(k - i)=k by omega];exact ht)).2 (k' - i) o' (by omega) (at1 k' o' hik' (by omega) ho') t' (by rw [show i+(k' - i)=k' by omega];exact ht') e1 e2
  rw [show i+(k - i)=k by omega,show i+(k' - i)=k' by omega] at this
  exact this
 ·cases hn:l1.length with
  | zero=>exact hi0
  | succ j=>
   have hlt:j<l1.length:=by omega
   have:=(Array.getElem?_eq_some_iff.1 (hl j _ (List.getElem?_eq_getElem hlt))).1
   omega
theorem wkQ_any (hcl:∀ f args v,cl f args=some v→CC P f args v) (hok:regOk ops (masks ops.toList [])=true) (hX:Stands P X) {l:List Oper} {i:Nat} {st st':St} {tr:List (Nat × Nat × Bool)} (h:WkQ P cl ops (masks ops.toList []) l i st tr st') :
  (∀ k,l[k]?=ops[i+k]?)→i≤ops.size→st'.out=st.out ∧
  ((∀ A0 r a w,FR X yl A0 st'.sav sv st'.env (locOf st') r ds a w→Q .normal a w) →
  ∀ (fuel:Nat) (listed:Array Bool) (A0:Nat→Prop) (r:Rr) (a:Act) (w:World),listed.size=ops.size→left ops.size listed≤fuel→Closed ops (fun k=>listed.getD k false)→(∀ k,k<i→listed.getD k false=true)→(∀ k,i≤k→listed.getD k false=false) →
   FR X yl A0 st.sav sv st.env (locOf st) r ds a w→wpAnyIn (WF ro) n P .any ops Q fuel listed a w):=by
 have start:∀ {S:Nat→St} {R:Nat→Eff} {i e:Nat} {listed:Array Bool},LexW P cl ops i e S R→(∀ k,i≤k→listed.getD k false=false) →
   eL R (fun k=>listed.getD k false) (S i).env ops.size=(S i).env∧lL R (fun k=>listed.getD k false) (locOf (S i)) ops.size=locOf (S i):=by
  intro S R i e listed hlex hz
  have z:∀ k,k<ops.size→R k=noE∨(fun k=>listed.getD k false) k=(fun _=>false) k:=fun k _=>by
   by_cases hk:i≤k∧k<e
   ·exact .inr (hz k hk.1)
   ·exact .inl (hlex.rest k hk)
  rw [eL_same z,lL_same z]
  constructor
  ·generalize ops.size=N
   induction N with
   | zero=>rfl
   | succ N ih=>simp only [eL,Bool.false_eq_true,if_false];exact ih
  ·generalize ops.size=N
   induction N with
   | zero=>rfl
   | succ N ih=>simp only [lL,Bool.false_eq_true,if_false];exact ih
 induction h with
 | last h=>
  rename_i l i st st' tr
  intro hl hi0
  obtain ⟨S,R,e1,e2,hlex⟩:=lexW_of hi0 h (fun k o hk=>by rw [← hl];exact hk)
  have hlen:i+l.length=ops.size:=by
   have h1:ops[i+l.length]?=none:=by rw [← hl];simp
   have h2:=hlex.size
   have h3:=Array.getElem?_eq_none_iff.1 h1
   omega
  rw [hlen] at e2 hlex
  obtain ⟨_,_,_,f4⟩:=hlex.frame ops.size hlex.le (Nat.le_refl _)
  refine ⟨by rw [← e1,← e2];exact f4,fun hQ fuel listed A0 r a w hs hleft hc hlo hhi hfr=>?_⟩
  refine seg_order (X:=X) (yl:=yl) (A0:=A0) (ds:=ds) (sv:=sv) hcl hX.good hok hlex (fun hh=>by omega) (fun _ r a w hf=>hQ A0 r a w (by rw [← e2];exact hf)) (fun o ho=>?_) fuel listed r a w hs hleft hc hlo (fun k hk=>?_) ?_
  ·rw [Array.getElem?_eq_none (Nat.le_refl _)] at ho;cases ho
  ·rw [Array.getD_eq_getD_getElem?,Array.getElem?_eq_none (by omega)];rfl
  ·obtain ⟨z1,z2⟩:=start hlex hhi
   rw [z1,z2,e1];exact hfr
 | piv h hp hs k ih=>
  rename_i l1 l2 o i st s1 s2 st' tr
  intro hl hi0
  have hl1:∀ k o',l1[k]?=some o'→ops[i+k]?=some o':=fun k o' hk=>by
   rw [← hl,List.getElem?_append_left (List.getElem?_eq_some_iff.1 hk).1];exact hk
  have ho:ops[i+l1.length]?=some o:=by rw [← hl];simp
  have hsz:=(Array.getElem?_eq_some_iff.1 ho).1
  have hl2:∀ k,l2[k]?=ops[i+l1.length+1+k]?:=fun k=>by
   rw [show i+l1.length+1+k=i+(l1.length+(k+1)) by omega,← hl,List.getElem?_append_right (by omega),show l1.length+(k+1) - l1.length=k+1 by omega]
   rfl
  obtain ⟨S,R,e1,e2,hlex⟩:=lexW_of hi0 h hl1
  obtain ⟨ho2,ih⟩:=ih hl2 (by omega)
  obtain ⟨_,_,_,f4⟩:=hlex.frame _ hlex.le (Nat.le_refl _)
  refine ⟨by rw [ho2,hs.1,← e1,← e2];exact f4,fun hQ fuel listed A0 r a w hls hleft hc hlo hhi hfr=>?_⟩
  refine seg_order (X:=X) (yl:=yl) (A0:=A0) (ds:=ds) (sv:=sv) hcl hX.good hok hlex (fun _=>hp) (fun hh=>by omega) (fun o' ho' fuel' listed' r' a' w' g1 g2 g3 g4 g5 hf=>?_) fuel listed r a w hls hleft hc hlo (fun k hk=>hhi k (by omega)) ?_
  ·rw [ho] at ho';injection ho' with ho';subst ho'
   rw [e2] at hf
   refine hs.2 X hX yl ro n A0 r' ds sv a' w' _ Q hf (fun A1 r2 a2 w2 hf2=>?_)
   have hlt:i+l1.length<listed'.size:=by omega
   refine ih hQ fuel' (listed'.setIfInBounds (i+l1.length) true) A1 r2 a2 w2 (by simp [g1]) g2 g3 (fun k hk=>?_) (fun k hk=>?_) hf2
   ·rw [listed_set hlt];unfold addL;split
    ·rfl
    ·exact g4 k (by omega)
   ·rw [listed_set hlt];unfold addL;rw [if_neg (by omega)];exact g5 k (by omega)
  ·obtain ⟨z1,z2⟩:=start hlex hhi
   rw [z1,z2,e1];exact hfr
theorem Ld.regionPiv {id:Nat} {st st':St} (hcl:∀ f args v,cl f args=some v→CC P f args v) (hm:P.follows .mixedOrders=true) (hok:regOk ops (masks ops.toList [])=true)
  (h:WkQ P cl ops (masks ops.toList []) ops.toList 0 st [] st'):Ld P (.region id ops true) st .normal st':=by
 have key:=fun (X:Fx) (hX:Stands P X) (yl ro:Option Nat) (n:Nat) (ds:List Nat) (sv:Array Value) (Q:Exit→Act→World→Prop)=>wkQ_any (X:=X) (yl:=yl) (ro:=ro) (n:=n) (ds:=ds) (sv:=sv) (Q:=Q) hcl hok hX h (fun k=>by simp) (Nat.zero_le _)
 have hout:st'.out=st.out:=(key (fun _ _ _=>False) ⟨fun _ _ _ _ _ h _ _=>h,fun _ _ _ h=>h.elim⟩ none none 0 [] #[] (fun _ _ _=>True)).1
 refine ⟨⟨[],by rw [hout];rfl⟩,fun yl evs Y hev hY ro n hrc A0 r ds sv a w hfr=>wpIn_region_any hm ?_⟩
 refine (key (Y st.out.length) (hY.1 _) yl ro n ds sv _).2 (fun A1 r' a' w' hf=>⟨rfl,A1,r',ds,by rw [hout];exact hf⟩) ops.size (Array.replicate ops.size false) A0 r a _ (by simp) ?_ (fun i o _ hi=>?_) (fun k hk=>by omega) (fun k _=>?_) hfr.drew
 ·unfold left
  exact Nat.le_trans (List.length_filter_le _ _) (by simp)
 ·simp [Array.getD_eq_getD_getElem?,Array.getElem?_replicate] at hi
  split at hi<;>simp at hi
 ·simp only [Array.getD_eq_getD_getElem?,Array.getElem?_replicate]
  split<;>rfl
end
end Go.Proofs.YtkpligkggnjcoaaGreatDoor.Ev
/-! EvLK -/
namespace Go.Proofs.YtkpligkggnjcoaaGreatDoor.Ev
open Go.RowKit
def memCells (g:Get AV) (i wd hk:Nat) (x:AV):List AV:=(List.range wd).map fun k=>if k=hk then x else g.cell i (k+1)
def focusL (j nx:Nat) (b1 b2 b3:Blk) (loc:Nat→Option Blk):Nat→Option Blk:=fun k=>if k=j then some b1 else if k=nx then some b2 else if k=nx+1 then some b3 else loc k
section
variable {P:Program} {X:Fx} {w:World} {A0:Nat→Prop} {env:List AV} {loc:Nat→Option Blk} {r:Rr} {ds:List Nat} {sav:List AV} {sv:Array Value} {yl:Option Nat} {a:Act}
theorem FR.focus (h:FR X yl A0 sav sv env loc r ds a w) {j nx i:Nat} {u sty:TypeId} {wd hk:Nat} {ht:TypeId} {hwd n:Nat} {g:Get AV} {hl:Nat→Nat} {hg:HG} (hloc:loc j=some (.pool u sty wd hk ht hwd n g hl hg none)) (hi:i<n) (hnx:loc nx=none) (hnx1:loc (nx+1)=none)
  {b:Nat} {es:Array MapEntry} {clock:Nat} (hb:r (.obj j)=some b) (hh:w.heap[b]?=some (.map es clock)) :
  ∃ r' x p,es[i]?=some x∧x.val=.pointer (some ⟨p,0,none⟩)∧r' (.obj nx)=some p ∧
   FR X yl A0 sav sv env (focusL j nx (.pool u sty wd hk ht hwd n g hl hg (some (i,nx))) (.flat sty (memCells g i wd hk (.osl (nx+1) 0 (hl i)))) (.list ht hwd 0 (hl i) (hg i)) loc) r' ds a w:=by
 obtain ⟨b',es',clock',hb',hh',h1,h2,h3,h4,h5,h6,h7,h8⟩:=h.mem _ _ hloc
 rw [hb] at hb';injection hb' with hb';subst hb'
 rw [hh] at hh';injection hh' with hh';injection hh' with e1 e2;subst e1;subst e2
 have hmem:∀ k,k<n→∃ x p,es[k]?=some x∧VR w (AR A0 r ds) noR (g k 0) x.key∧x.val=.pointer (some ⟨p,0,none⟩)∧MemberR w (AR A0 r ds) r j sty wd hk ht hwd g hl hg k p:=fun k hk=>by
  obtain ⟨x,p,g1,g2,g3,g4⟩:=h4 k hk
  exact ⟨x,p,g1,g2,g3,g4⟩
 obtain ⟨x,p,x1,x2,x3,m1,us,e,c,xs,m2,m3,m4,m5,m6,m7,m8,m9,m10⟩:=hmem i hi
 have hjn:j≠nx:=fun e=>by subst e;rw [hnx] at hloc;cases hloc
 have hjn1:j≠nx+1:=fun e=>by subst e;rw [hnx1] at hloc;cases hloc
 have noObj:∀ {q:Nat},loc q=none→r (.obj q)=none:=fun {q} hq=>by
  cases hr:r (.obj q) with
  | none=>rfl
  | some b=>obtain ⟨t,hk,_⟩:=h.dom q b hr;rw [hq] at hk;cases hk
 have noLst:∀ {q v:Nat},loc q=none→r (.lo q v)=none∧r (.lc q v)=none∧r (.ln q v)=none:=fun {q v} hq=>by
  refine ⟨?_,?_,?_⟩
  ·cases hr:r (.lo q v) with
   | none=>rfl
   | some b=>obtain ⟨t,hk,_⟩:=h.domL q v b (.inl hr);rw [hq] at hk;cases hk
  ·cases hr:r (.lc q v) with
   | none=>rfl
   | some b=>obtain ⟨t,hk,_⟩:=h.domL q v b (.inr (.inl hr));rw [hq] at hk;cases hk
  ·cases hr:r (.ln q v) with
   | none=>rfl
   | some b=>obtain ⟨t,hk,_⟩:=h.domL q v b (.inr (.inr hr));rw [hq] at hk;cases hk
 let r':Rr:=fun key=>match key with
  | .yl=>r .yl
  | .obj q=>if q=nx then some p else r (.obj q)
  | .lo q v=>if q=nx+1 then (if v=0 then some e else none) else if q=j∧(v=2 * i∨v=2 * i+1) then none else r (.lo q v)
  | .lc q v=>if q=nx+1 then (if v=0 then some c else none) else r (.lc q v)
  | .ln q v=>if q=nx+1 then (if v=0 then some (hl i) else none) else r (.ln q v)
 have hobj:∀ q b,r' (.obj q)=some b→(q=nx∧b=p)∨(q≠nx∧r (.obj q)=some b):=fun q b hq=>by
  by_cases e1:q=nx
  ·simp [r',e1] at hq;exact .inl ⟨e1,hq.symm⟩
  ·simp [r',e1] at hq;exact .inr ⟨e1,hq⟩
 have hlo:∀ q v b,r' (.lo q v)=some b→(q=nx+1∧v=0∧b=e)∨(q≠nx+1∧¬ (q=j∧(v=2 * i∨v=2 * i+1))∧r (.lo q v)=some b):=fun q v b hq=>by
  by_cases e1:q=nx+1
  ·by_cases e2:v=0
   ·simp [r',e1,e2] at hq;exact .inl ⟨e1,e2,hq.symm⟩
   ·simp [r',e1,e2] at hq
  ·by_cases e2:q=j∧(v=2 * i∨v=2 * i+1)
   ·simp only [r',e1,if_false] at hq;rw [if_pos e2] at hq;cases hq
   ·simp only [r',e1,if_false] at hq;rw [if_neg e2] at hq;exact .inr ⟨e1,e2,hq⟩
 have hr':∀ (q:Key) (b:Nat),r q=some b→KeyL r q→r' q=some b:=fun q b hq hkl=>by
  cases q with
  | yl=>exact hq
  | obj q=>
   have e1:q≠nx:=fun e=>by subst e;rw [noObj hnx] at hq;cases hq
   simp [r',e1,hq]
  | lo q v=>
   have e1:q≠nx+1:=fun e=>by subst e;rw [(noLst hnx1).1] at hq;cases hq
   have e2:q≠j:=fun e=>by subst e;simp [KeyL,h6] at hkl
   simp [r',e1,e2,hq]
  | lc q v=>
   have e1:q≠nx+1:=fun e=>by subst e;rw [(noLst hnx1).2.1] at hq;cases hq
   simp [r',e1,hq]
  | ln q v=>
   have e1:q≠nx+1:=fun e=>by subst e;rw [(noLst hnx1).2.2] at hq;cases hq
   simp [r',e1,hq]
 have hown:∀ b,OwnR r' b→OwnR r b:=fun b hb=>by
  rcases hb with ⟨q,hq⟩ | ⟨q,v,hq⟩
  ·rcases hobj q b hq with ⟨_,e2⟩ | ⟨_,e2⟩
   ·exact .inr ⟨j,2 * i,by rw [e2];exact m1⟩
   ·exact .inl ⟨q,e2⟩
  ·rcases hlo q v _ hq with ⟨_,_,e2⟩ | ⟨_,_,e2⟩
   ·exact .inr ⟨j,2 * i+1,by rw [e2];exact m6⟩
   ·exact .inr ⟨q,v,e2⟩
 have hkk:Keeps (AR A0 r ds) (AR A0 r' ds) w w:=⟨Nat.le_refl _,fun _ _ _=>rfl,fun b hb=>by
  rcases hb with hb | hb | hb
  ·exact .inl (.inl hb)
  ·exact .inl (.inr (.inl (hown b hb)))
  ·exact .inl (.inr (.inr hb))⟩
 have hno:∀ {x:AV} {v:Value},VR w (AR A0 r ds) noR x v→VR w (AR A0 r' ds) noR x v:=fun h=>h.mono hkk (fun j b h=>by simp [noR] at h)
 refine ⟨r',x,p,x1,x3,by simp [r'],h.env.monoL hkk hr',h.sav.monoL hkk hr',fun q k hq=>?_,fun q b hq=>?_,fun q v b hq=>?_,fun q q' b hq hq'=>?_,fun q q' v v' b hq hq'=>?_,fun q q' v b hq hq'=>?_,fun b hb=>h.dis b (hown b hb),fun b hb=>h.lt b (hown b hb),fun b hb=>h.sepD b (hown b hb),h.a0,
  h.clo _ _ _ _ _ h.inv (.below (Bel.refl _ _)) (fun b hb=>.inl (hb.imp (hown b) id)),h.clo,h.dfr,h.dnd,h.dok,h.ylv⟩
 ·unfold focusL at hq
  split at hq
  ·rename_i ej
   injection hq with hq;subst hq;subst ej
   refine ⟨b,es,clock,by simp [r',hjn,hb],hh,h1,h2,h3,fun k hk=>?_,fun v v' b1 hv hv'=>?_,fun v=>?_,fun v b1 hv=>?_,fun q' jp hq'=>?_⟩
   ·obtain ⟨y,py,y1,y2,y3,y4,us',e',c',xs',z2,z3,z4,z5,z6,z7,z8,z9,z10⟩:=hmem k hk
    refine ⟨y,py,y1,hno y2,y3,?_⟩
    simp only [pendAt]
    by_cases ek:k=i
    ·subst ek
     rw [x1] at y1;injection y1 with y1;subst y1
     rw [x3] at y3;injection y3 with y3;injection y3 with y3;injection y3 with y3;subst y3
     simp [r']
    ·simp only [ek,if_false]
     have n1:¬ (2 * k=2 * i∨2 * k=2 * i+1):=by omega
     have n2:¬ (2 * k+1=2 * i∨2 * k+1=2 * i+1):=by omega
     exact ⟨by simp only [r',hjn1,if_false,n1,and_false];exact y4,us',e',c',xs',z2,z3,fun k k1 k2=>by obtain ⟨u,e1,e2⟩:=z4 k k1 k2;exact ⟨u,e1,hno e2⟩,z5,by simp only [r',hjn1,if_false,n2,and_false];exact z6,z7,z8,z9,rows_keep z10 hkk⟩
   ·rcases hlo _ v _ hv with ⟨e1,_⟩ | ⟨_,_,e1⟩
    ·exact absurd e1 hjn1
    ·rcases hlo _ v' _ hv' with ⟨e2,_⟩ | ⟨_,_,e2⟩
     ·exact absurd e2 hjn1
     ·exact h5 v v' b1 e1 e2
   ·simp only [r',hjn1,if_false];exact h6 v
   ·rcases hlo _ v _ hv with ⟨e1,_⟩ | ⟨_,_,e1⟩
    ·exact absurd e1 hjn1
    ·exact h7 v b1 e1
   ·injection hq' with hq';injection hq' with e1 e2;subst e1
    exact ⟨hi,by simp [r',hjn1],by simp [r',hjn1]⟩
  ·rename_i ej
   split at hq
   ·rename_i en
    injection hq with hq;subst hq;subst en
    refine ⟨p,by simp [r'],us,m2,by simp [memCells,m3],fun k y v hy hv=>?_⟩
    have hk':k<wd:=by rw [← m3];exact (Array.getElem?_eq_some_iff.1 hv).1
    simp only [memCells,List.getElem?_map,List.getElem?_range hk',Option.map_some,Option.some.injEq] at hy
    subst hy
    by_cases ek:k=hk
    ·subst ek
     simp only [if_true]
     rw [m5] at hv;injection hv with hv;subst hv
     exact .osl (by simp [r']) (by simp [r']) (by simp [r']) m7 m8
    ·simp only [ek,if_false]
     obtain ⟨v',e1,e2⟩:=m4 k hk' ek
     rw [hv] at e1;injection e1 with e1;subst e1
     exact e2.mono hkk (fun j b h=>by simp [noR] at h)
   ·rename_i en
    split at hq
    ·rename_i en1
     injection hq with hq;subst hq;subst en1
     exact ⟨e,c,xs,by simp [r'],by simp [r'],by simp [r'],m7,m8,h3,m9,rows_keep m10 hkk⟩
    ·rename_i en1
     exact (h.mem q k hq).keepL hkk hr' (fun v=>⟨by simp only [r',en1,if_false,ej,false_and],by simp only [r',en1,if_false]⟩) (fun _ _=>rfl)
 ·unfold focusL
  rcases hobj q b hq with ⟨e1,_⟩ | ⟨e1,hq'⟩
  ·rw [if_neg (by rw [e1];exact Ne.symm hjn),if_pos e1];exact ⟨_,rfl,rfl⟩
  ·split
   ·exact ⟨_,rfl,rfl⟩
   ·obtain ⟨k0,hk0,ho⟩:=h.dom q b hq'
    split
    ·rename_i e2;rw [e2,hnx1] at hk0;cases hk0
    ·exact ⟨k0,hk0,ho⟩
 ·unfold focusL
  by_cases e1:q=nx+1
  ·rw [if_neg (by rw [e1];exact Ne.symm hjn1),if_neg (by omega),if_pos e1]
   refine ⟨_,rfl,?_⟩
   by_cases hv:v=0
   ·exact Nat.le_of_eq hv
   ·simp [r',e1,hv] at hq
  ·have hq':r (.lo q v)=some b∨r (.lc q v)=some b∨r (.ln q v)=some b:=by
    rcases hq with hq | hq | hq
    ·rcases hlo q v b hq with ⟨e2,_⟩ | ⟨_,_,e2⟩
     ·exact absurd e2 e1
     ·exact .inl e2
    ·simp only [r',e1,if_false] at hq;exact .inr (.inl hq)
    ·simp only [r',e1,if_false] at hq;exact .inr (.inr hq)
   obtain ⟨k0,hk0,hle⟩:=h.domL q v b hq'
   split
   ·rename_i ej
    rw [ej,hloc] at hk0;injection hk0 with hk0;subst hk0
    exact ⟨_,rfl,hle⟩
   ·rw [if_neg (fun e2=>by rw [e2,hnx] at hk0;cases hk0)]
    exact ⟨k0,hk0,hle⟩
 ·rcases hobj q b hq with ⟨e1,e2⟩ | ⟨e1,hq1⟩<;>rcases hobj q' b hq' with ⟨e3,e4⟩ | ⟨e3,hq2⟩
  ·rw [e1,e3]
  ·exact (h.sep _ _ _ _ hq2 (by rw [e2];exact m1)).elim
  ·exact (h.sep _ _ _ _ hq1 (by rw [e4];exact m1)).elim
  ·exact h.inj _ _ _ hq1 hq2
 ·rcases hlo q v _ hq with ⟨e1,_,e2⟩ | ⟨e1,n1,hq1⟩<;>rcases hlo q' v' _ hq' with ⟨e3,_,e4⟩ | ⟨e3,n2,hq2⟩
  ·rw [e1,e3]
  ·have hx:r (.lo j (2 * i+1))=some (b+1):=by rw [m6,e2]
   have:=h.injL _ _ _ _ _ hq2 hx
   subst this
   exact absurd ⟨rfl,.inr (h5 _ _ _ hq2 hx)⟩ n2
  ·have hx:r (.lo j (2 * i+1))=some (b+1):=by rw [m6,e4]
   have:=h.injL _ _ _ _ _ hq1 hx
   subst this
   exact absurd ⟨rfl,.inr (h5 _ _ _ hq1 hx)⟩ n1
  ·exact h.injL _ _ _ _ _ hq1 hq2
 ·rcases hobj q b hq with ⟨e1,e2⟩ | ⟨e1,hq1⟩<;>rcases hlo q' v _ hq' with ⟨e3,_,e4⟩ | ⟨e3,n2,hq2⟩
  ·have hx:r (.lo j (2 * i+1))=some (p+1):=by rw [m6,← e4,e2]
   have:=h5 _ _ _ hx m1
   omega
  ·subst e2
   have:=h.injL _ _ _ _ _ hq2 m1
   subst this
   exact absurd ⟨rfl,.inl (h5 _ _ _ hq2 m1)⟩ n2
  ·exact h.sep _ _ _ _ hq1 (by rw [m6,e4])
  ·exact h.sep _ _ _ _ hq1 hq2
def focusOf (P:Program) (st:St) (o:Oper):Option (Bool × AV × St):=
 match o.op with
 | .lookup t m k false=>match evO st.env m,evO st.env k with
  | some (.mp j),some key=>match st.loc[j]?,P.underlying t with
   | some (.pool u sty wd hk ht hwd n g hl hg none),some (.map kt vt)=>match keyCK P kt,zeroAV P vt with
    | some kc,some [.nilptr]=>match ckEq kc (tagOf key)&&(ckEq (ckAt g.tag 0) kc&&!zeroAgg P vt) with
     | true=>some ((mfind g key n).isSome,.lptr st.loc.length 0 0 0,{ st with loc:=(st.loc.set j (.pool u sty wd hk ht hwd n g hl hg (some ((mfind g key n).getD 0,st.loc.length)))) ++
       [.flat sty (memCells g ((mfind g key n).getD 0) wd hk (.osl (st.loc.length+1) 0 (hl ((mfind g key n).getD 0)))),.list ht hwd 0 (hl ((mfind g key n).getD 0)) (hg ((mfind g key n).getD 0))] })
     | false=>none
    | _,_=>none
   | _,_=>none
  | _,_=>none
 | _=>none
theorem focusL_loc {loc:List Blk} {j:Nat} {b0 b1 b2 b3:Blk} (hj:loc[j]?=some b0):(fun k=>((loc.set j b1) ++ [b2,b3])[k]?)=focusL j loc.length b1 b2 b3 (fun k=>loc[k]?):=by
 have hlt:=(List.getElem?_eq_some_iff.1 hj).1
 funext k
 unfold focusL
 by_cases h1:k=j
 ·subst h1
  rw [if_pos rfl,List.getElem?_append_left (by simpa using hlt),List.getElem?_set_self hlt]
 ·rw [if_neg h1]
  by_cases h2:k<loc.length
  ·rw [List.getElem?_append_left (by simpa using h2),List.getElem?_set_ne (Ne.symm h1),if_neg (by omega),if_neg (by omega)]
  ·rw [List.getElem?_append_right (by simp;omega)]
   simp only [List.length_set]
   by_cases h3:k=loc.length
   ·rw [if_pos h3,h3];simp
   ·rw [if_neg h3]
    by_cases h4:k=loc.length+1
    ·rw [if_pos h4,h4];simp
    ·rw [if_neg h4,List.getElem?_eq_none (l:=loc) (by omega),List.getElem?_eq_none (by simp;omega)]
theorem Piv.focus {ops:Array Oper} {o:Oper} {st st3:St} {f:Bool} {v:AV} (hf:focusOf P st o=some (f,v,st3)) (hw:wantD ops st.env o=some true) :
  (f=true→Piv P ops o st { st3 with env:=putD st3.env o.dst v })∧(f=false→Piv P ops o st { st with env:=putD st.env o.dst .nilptr }):=by
 unfold focusOf at hf
 split at hf
 case h_2=>cases hf
 rename_i t m k hop
 split at hf
 case h_2=>cases hf
 rename_i j key hm hk
 split at hf
 case h_2=>cases hf
 rename_i u sty wd hk' ht hwd n g hl hg kt vt hj hu
 split at hf
 case h_2=>cases hf
 rename_i kc hck hzs
 split at hf
 case h_2=>cases hf
 rename_i hc
 simp only [Bool.and_eq_true] at hc
 obtain ⟨c1,c2,c3⟩:=hc
 injection hf with hf;injection hf with e1 hf;injection hf with e2 e3
 subst e1;subst e2;subst e3
 have main:∀ (X:Fx) (yl:Option Nat) (A0:Nat→Prop) (r:Rr) (ds:List Nat) (sv:Array Value) (a:Act) (w:World),FR X yl A0 st.sav sv st.env (locOf st) r ds a w →
   ∃ b es clock,r (.obj j)=some b∧w.heap[b]?=some (.map es clock)∧(∀ i,mfind g key n=some i→i<n∧∀ x,es[i]?=some x→(execOp a.eval o).run P w=.ok (.value x.val) w) ∧
    (mfind g key n=none→(execOp a.eval o).run P w=.ok (.value (.pointer none)) w):=by
  intro X yl A0 r ds sv a w hfr
  have hcx:=hfr.cx
  have hv:=hcx.val _ _ hm
  obtain ⟨b,es,clock,hb,hh,hs,h1,h2,hes,h3,h4,h5,h6⟩:=hcx.mem _ _ (show locOf st j=some _ from hj)
  have hev:a.eval m=.map (some b):=by
   generalize a.eval m=z at hv
   cases hv with
   | mp h=>rw [hb] at h;injection h with h;subst h;rfl
  obtain ⟨⟨d,hd,hik⟩,hfind,hlt⟩:=find_rows hck (keys_rows (g:=g) hs.1 (fun i hi=>by obtain ⟨x,p,e1,e2,_⟩:=hes i hi;exact ⟨x,e1,e2⟩)) (by omega) c2 c1 (hcx.val _ _ hk)
  have hck2:=fun e=>MapKept.run_checkKey (w:=w) hd hik e 9999
  refine ⟨b,es,clock,hb,hh,fun i hi=>⟨hlt i hi,fun x hx=>?_⟩,fun hn=>?_⟩
  ·rw [hi] at hfind
   simp only [execOp,hop,hev,Instr.lookup,Sem.run_bind,run_underlying hu,Result.andThen_ok,MapKept.run_getObj_map hh,Sem.run_pure,hck2,hfind,entOf,hx,Option.map_some,Bool.false_eq_true,if_false]
  ·rw [hn] at hfind
   obtain ⟨z,hz,hzc,hz1,hz2⟩:=zero_shape (w:=w) (A:=AR A0 r ds) (r:=r) hzs
   have h2:=hz2 (by simpa using c3)
   rw [h2] at hzc
   have hzz:=hzc.2 0 .nilptr z rfl rfl
   cases hzz
   simp only [execOp,hop,hev,Instr.lookup,Sem.run_bind,run_underlying hu,Result.andThen_ok,MapKept.run_getObj_map hh,Sem.run_pure,hck2,hfind,entOf,hz,Bool.false_eq_true,if_false]
 have nodef:∀ c,o.op≠.defer c:=fun c e=>by rw [hop] at e;cases e
 refine ⟨fun hsome=>⟨rfl,fun X hX yl ro n' A0 r ds sv a w K Q hfr hK=>?_⟩,fun hnone=>⟨rfl,fun X hX yl ro n' A0 r ds sv a w K Q hfr hK=>?_⟩⟩
 ·obtain ⟨i,hi⟩:=Option.isSome_iff_exists.1 hsome
  obtain ⟨b,es,clock,hb,hh,hrun,_⟩:=main X yl A0 r ds sv a w hfr
  obtain ⟨hin,hrun⟩:=hrun i hi
  obtain ⟨r',x,p,hx,hxv,hrp,hfr'⟩:=hfr.focus (show locOf st j=some _ from hj) hin (nx:=st.loc.length) (locOf_len st) (by simp [locOf]) hb hh
  rw [if_pos (wantD_true hfr hw)]
  refine ⟨fun _ _=>trivial,?_⟩
  rw [Oper.semAt_eq _ _ _ nodef,hrun x hx,Oper.uponIn_value]
  refine hK A0 r' _ w ?_
  have hgd:(mfind g key n).getD 0=i:=by rw [hi];rfl
  have:=hfr'.val (Bel.refl _ _) (x:=.lptr st.loc.length 0 0 0) (v:=x.val) (by rw [hxv];exact .lptr hrp (by simp)) o.dst
  have eloc:locOf { st with loc:=(st.loc.set j (.pool u sty wd hk' ht hwd n g hl hg (some ((mfind g key n).getD 0,st.loc.length)))) ++
       [.flat sty (memCells g ((mfind g key n).getD 0) wd hk' (.osl (st.loc.length+1) 0 (hl ((mfind g key n).getD 0)))),.list ht hwd 0 (hl ((mfind g key n).getD 0)) (hg ((mfind g key n).getD 0))],env:=putD st.env o.dst (.lptr st.loc.length 0 0 0) } =
    focusL j st.loc.length (.pool u sty wd hk' ht hwd n g hl hg (some (i,st.loc.length))) (.flat sty (memCells g i wd hk' (.osl (st.loc.length+1) 0 (hl i)))) (.list ht hwd 0 (hl i) (hg i)) (locOf st):=by
   rw [hgd];exact focusL_loc hj
  rw [eloc]
  exact this
 ·have hno:mfind g key n=none:=by simpa using hnone
  obtain ⟨b,es,clock,hb,hh,_,hrun⟩:=main X yl A0 r ds sv a w hfr
  rw [if_pos (wantD_true hfr hw)]
  refine ⟨fun _ _=>trivial,?_⟩
  rw [Oper.semAt_eq _ _ _ nodef,hrun hno,Oper.uponIn_value]
  exact hK A0 r _ w (hfr.val (Bel.refl _ _) .nilptr o.dst)
end
end Go.Proofs.YtkpligkggnjcoaaGreatDoor.Ev
/-! EvFZ -/
namespace Go.Proofs.YtkpligkggnjcoaaGreatDoor.Ev
open Go.RowKit
def frz0 (loc:Nat→Option Blk) (j:Nat) (x:AV):AV:=match ids0 x with
 | [i]=>(match Nat.beq i j with
  | true=>(match exp0 loc x with
   | some y=>y
   | none=>.top)
  | false=>x)
 | _=>(match x with
  | .yv=>.yv
  | x=>(match noL0 x with
   | true=>x
   | false=>.top))
def frzA (loc:Nat→Option Blk) (j:Nat) (x:AV):AV:=
 match x with
 | .fn f xs ys=>.fn f (xs.map (frz0 loc j)) (ys.map (frz0 loc j))
 | .agg cs=>.agg (cs.map (frz0 loc j))
 | .tup cs=>.tup (cs.map (frz0 loc j))
 | x=>frz0 loc j x
def frzB (loc:Nat→Option Blk) (j:Nat):Blk→Blk
 | .flat t cs=>.flat t (cs.map (frzA loc j))
 | .fmap t ks vs=>.fmap t ks (vs.map (frzA loc j))
 | b=>b
def frzOk:Blk→Bool
 | .flat _ cs=>cs.all noL0
 | .list ..=>true
 | _=>false
def pendNot (j:Nat):Blk→Bool
 | .pool _ _ _ _ _ _ _ _ _ _ (some (_,jp))=>!Nat.beq jp j
 | _=>true
def freeze (j:Nat) (st:St):Option St:=match st.loc[j]? with
 | some k=>match frzOk k&&st.loc.all (pendNot j) with
  | true=>some { st with env:=st.env.map (frzA (locOf st) j),sav:=st.sav.map (frzA (locOf st) j),loc:=(st.loc.map (frzB (locOf st) j)).set j .gone }
  | false=>none
 | none=>none
structure OutJ (j:Nat) (r r':Rr):Prop where
 obj:∀ i,i≠j→r' (.obj i)=r (.obj i)
 lo:∀ i v,i≠j→r' (.lo i v)=r (.lo i v)
 lc:∀ i v,i≠j→r' (.lc i v)=r (.lc i v)
 ln:∀ i v,i≠j→r' (.ln i v)=r (.ln i v)
 yl:r' .yl=r .yl
def onlyJ (j:Nat) (r:Rr):Rr:=fun key=>match key with
 | .yl=>none
 | .obj i=>if i=j then r (.obj i) else none
 | .lo i v=>if i=j then r (.lo i v) else none
 | .lc i v=>if i=j then r (.lc i v) else none
 | .ln i v=>if i=j then r (.ln i v) else none
section
variable {w:World} {A A':Nat→Prop} {r r':Rr} {j:Nat} {loc:Nat→Option Blk} {k0:Blk}
theorem memR_only (hk:frzOk k0=true) (hm:MemR w A r j k0):MemR w A (onlyJ j r) j k0:=by
 cases k0 with
 | flat t cs=>
  obtain ⟨b,hb,us,hh,hc⟩:=hm
  exact ⟨b,by simp [onlyJ,hb],us,hh,VRs.weaken0 hk hc (fun _ h=>h)⟩
 | list t wd v n g=>
  obtain ⟨e,c,xs,g1,g2,g3,rest⟩:=hm
  exact ⟨e,c,xs,by simp [onlyJ,g1],by simp [onlyJ,g2],by simp [onlyJ,g3],rest⟩
 | _=>simp [frzOk] at hk
theorem frz0_rel (hj:loc j=some k0) (hk:frzOk k0=true) (hm:MemR w A r j k0) (hA:∀ b,A' b→A b) (ho:OutJ j r r') (hout:∀ b,OwnR (onlyJ j r) b→¬ A' b) {x:AV} {v:Value} (h:VR w A r x v):VR w A' r' (frz0 loc j x) v:=by
 have key:∀ {x:AV} {v:Value},VR w A (onlyJ j r) x v→(∀ i ∈ ids0 x,i=j)→VR w A' r' (match exp0 loc x with | some y=>y | none=>.top) v:=by
  intro x v hx hi
  split
  ·rename_i y hy
   have e:exp0 (fun i=>if i=j then loc j else none) x=some y:=by
    rw [← hy];exact exp0_congr fun i hi'=>by simp [hi i hi']
   refine (exp0_rel (r:=onlyJ j r) (loc:=fun i=>if i=j then loc j else none) (fun i k hik=>?_) hA (OwnR.all hout) e hx).mono (Keeps.refl _ _) (fun j b h=>by simp [noR] at h)
   by_cases e:i=j
   ·subst e
    simp only [if_true] at hik
    rw [hj] at hik;injection hik with hik;subst hik
    exact memR_only hk hm
   ·simp [e] at hik
  ·exact .top
 have hno:∀ {x:AV} {v:Value},noL0 x=true→VR w A r x v→VR w A' r' x v:=fun hx h=>h.weaken0 hx hA
 have hneq:∀ {i:Nat},Nat.beq i j=false→i≠j:=fun h e=>by subst e;simp at h
 cases h with
 | lptr h ho1=>
  simp only [frz0,ids0]
  split
  ·rename_i e;have:=Nat.eq_of_beq_eq_true e;subst this
   exact key (.lptr (by simp [onlyJ,h]) ho1) (by simp [ids0])
  ·rename_i e;exact .lptr (by rw [ho.obj _ (fun e2=>by subst e2;simp at e)];exact h) ho1
 | lsl h ho1 hl hcap=>
  simp only [frz0,ids0]
  split
  ·rename_i e;have:=Nat.eq_of_beq_eq_true e;subst this
   exact key (.lsl (by simp [onlyJ,h]) ho1 hl hcap) (by simp [ids0])
  ·rename_i e;exact .lsl (by rw [ho.obj _ (fun e2=>by subst e2;simp at e)];exact h) ho1 hl hcap
 | mp h=>
  simp only [frz0,ids0]
  split
  ·rename_i e;have:=Nat.eq_of_beq_eq_true e;subst this
   exact key (.mp (by simp [onlyJ,h])) (by simp [ids0])
  ·rename_i e;exact .mp (by rw [ho.obj _ (fun e2=>by subst e2;simp at e)];exact h)
 | osl he hc hn h0 hl=>
  simp only [frz0,ids0]
  split
  ·rename_i e;have:=Nat.eq_of_beq_eq_true e;subst this
   exact key (.osl (by simp [onlyJ,he]) (by simp [onlyJ,hc]) (by simp [onlyJ,hn]) h0 hl) (by simp [ids0])
  ·rename_i e
   have hne:=hneq e
   exact .osl (by rw [ho.lo _ _ hne];exact he) (by rw [ho.lc _ _ hne];exact hc) (by rw [ho.ln _ _ hne];exact hn) h0 hl
 | oss hn hle hl ha hcf=>
  simp only [frz0,ids0]
  split
  ·rename_i e;have:=Nat.eq_of_beq_eq_true e;subst this
   exact key (.oss (by simp [onlyJ,hn]) hle hl (fun h0=>by obtain ⟨b,h1,h2⟩:=ha h0;exact ⟨b,by simp [onlyJ,h1],h2⟩) ⟨by simp [onlyJ,hcf.1],hcf.2⟩) (by simp [ids0])
  ·rename_i e
   have hne:=hneq e
   exact .oss (by rw [ho.ln _ _ hne];exact hn) hle hl (fun h0=>by obtain ⟨b,h1,h2⟩:=ha h0;exact ⟨b,by rw [ho.lo _ _ hne];exact h1,h2⟩) ⟨by rw [ho.lc _ _ hne];exact hcf.1,hcf.2⟩
 | optr hb hn hrow ho1=>
  simp only [frz0,ids0]
  split
  ·rename_i e;have:=Nat.eq_of_beq_eq_true e;subst this
   exact key (.optr (by simp [onlyJ,hb]) (by simp [onlyJ,hn]) hrow ho1) (by simp [ids0])
  ·rename_i e
   have hne:=hneq e
   exact .optr (by rw [ho.lo _ _ hne];exact hb) (by rw [ho.ln _ _ hne];exact hn) hrow ho1
 | yv h=>simp only [frz0,ids0];exact .yv (by rw [ho.yl];exact h)
 | agg a b=>simp only [frz0,ids0,noL0];exact .top
 | tup a b=>simp only [frz0,ids0,noL0];exact .top
 | fn a b c d=>
  simp only [frz0,ids0]
  split
  ·rename_i hn;exact hno hn (.fn a b c d)
  ·exact .top
 | top=>exact .top
 | int=>exact .int
 | bool=>exact .bool
 | str=>exact .str
 | nilptr=>exact .nilptr
 | nilsl=>exact .nilsl
 | nilfn=>exact .nilfn
 | nilif=>exact .nilif
 | errif=>exact .errif
 | nilmp=>exact .nilmp
 | xptr u a b c d e f=>exact hno rfl (.xptr u a b c d e f)
 | xsl b o u a c d e f g=>exact hno rfl (.xsl b o u a c d e f g)
 | xmp b c es u a1 a2 a3 a4 a5 a6=>exact hno rfl (.xmp b c es u a1 a2 a3 a4 a5 a6)
 | xpool a=>exact hno rfl (.xpool a)
theorem frz0s_rel (hj:loc j=some k0) (hk:frzOk k0=true) (hm:MemR w A r j k0) (hA:∀ b,A' b→A b) (ho:OutJ j r r') (hout:∀ b,OwnR (onlyJ j r) b→¬ A' b) {xs:List AV} {us:Array Value} (h:VRs w A r xs us):VRs w A' r' (xs.map (frz0 loc j)) us:=
 ⟨by simpa using h.1,fun i x u hx hu=>by
  rw [List.getElem?_map,Option.map_eq_some_iff] at hx
  obtain ⟨y,hy',rfl⟩:=hx
  exact frz0_rel hj hk hm hA ho hout (h.2 i y u hy' hu)⟩
theorem frzA_rel (hj:loc j=some k0) (hk:frzOk k0=true) (hm:MemR w A r j k0) (hA:∀ b,A' b→A b) (ho:OutJ j r r') (hout:∀ b,OwnR (onlyJ j r) b→¬ A' b) {x:AV} {v:Value} (h:VR w A r x v):VR w A' r' (frzA loc j x) v:=by
 cases x with
 | fn f xs ys=>
  cases h with
  | fn a b c d=>
   have k1:=frz0s_rel hj hk hm hA ho hout ⟨a,c⟩
   have k2:=frz0s_rel hj hk hm hA ho hout ⟨b,d⟩
   exact .fn k1.1 k2.1 k1.2 k2.2
 | agg cs=>cases h with | agg a b=>have k1:=frz0s_rel hj hk hm hA ho hout ⟨a,b⟩;exact .agg k1.1 k1.2
 | tup cs=>cases h with | tup a b=>have k1:=frz0s_rel hj hk hm hA ho hout ⟨a,b⟩;exact .tup k1.1 k1.2
 | _=>exact frz0_rel hj hk hm hA ho hout h
theorem frzAs_rel (hj:loc j=some k0) (hk:frzOk k0=true) (hm:MemR w A r j k0) (hA:∀ b,A' b→A b) (ho:OutJ j r r') (hout:∀ b,OwnR (onlyJ j r) b→¬ A' b) {xs:List AV} {us:Array Value} (h:VRs w A r xs us):VRs w A' r' (xs.map (frzA loc j)) us:=
 ⟨by simpa using h.1,fun i x u hx hu=>by
  rw [List.getElem?_map,Option.map_eq_some_iff] at hx
  obtain ⟨y,hy',rfl⟩:=hx
  exact frzA_rel hj hk hm hA ho hout (h.2 i y u hy' hu)⟩
end
theorem frzB_isO {loc:Nat→Option Blk} {j:Nat} {k:Blk}:isO (frzB loc j k)=isO k:=by cases k<;>rfl
theorem frzB_isL {loc:Nat→Option Blk} {j:Nat} {k:Blk} {v:Nat} (h:isL k v):isL (frzB loc j k) v:=by cases k<;>exact h
theorem freeze_tidy {j:Nat} {st st':St} (hs:freeze j st=some st'):Tidy st st':=by
 unfold freeze at hs
 split at hs
 case h_2=>cases hs
 rename_i k0 hj
 split at hs
 case h_2=>cases hs
 rename_i hc
 injection hs with hs;subst hs
 simp only [Bool.and_eq_true] at hc
 obtain ⟨hk,hpn⟩:=hc
 have hj':locOf st j=some k0:=hj
 refine ⟨rfl,fun X yl A0 r ds sv a w h=>?_⟩
 have hmj:=h.mem j k0 hj'
 let r':Rr:=fun key=>match key with
  | .yl=>r .yl
  | .obj i=>if i=j then none else r (.obj i)
  | .lo i v=>if i=j then none else r (.lo i v)
  | .lc i v=>if i=j then none else r (.lc i v)
  | .ln i v=>if i=j then none else r (.ln i v)
 have ho:OutJ j r r':=⟨fun i hi=>by simp [r',hi],fun i v hi=>by simp [r',hi],fun i v hi=>by simp [r',hi],fun i v hi=>by simp [r',hi],rfl⟩
 have hobj:∀ i b,r' (.obj i)=some b→i≠j∧r (.obj i)=some b:=fun i b hb=>by
  by_cases e:i=j
  ·simp [r',e] at hb
  ·simp [r',e] at hb;exact ⟨e,hb⟩
 have hlo:∀ i v b,r' (.lo i v)=some b→i≠j∧r (.lo i v)=some b:=fun i v b hb=>by
  by_cases e:i=j
  ·simp [r',e] at hb
  ·simp [r',e] at hb;exact ⟨e,hb⟩
 have hlc:∀ i v b,r' (.lc i v)=some b→i≠j∧r (.lc i v)=some b:=fun i v b hb=>by
  by_cases e:i=j
  ·simp [r',e] at hb
  ·simp [r',e] at hb;exact ⟨e,hb⟩
 have hln:∀ i v b,r' (.ln i v)=some b→i≠j∧r (.ln i v)=some b:=fun i v b hb=>by
  by_cases e:i=j
  ·simp [r',e] at hb
  ·simp [r',e] at hb;exact ⟨e,hb⟩
 have hownR:∀ b,OwnR r' b→OwnR r b:=fun b hb=>by
  rcases hb with ⟨i,h1⟩ | ⟨i,v,h1⟩
  ·exact .inl ⟨i,(hobj i b h1).2⟩
  ·exact .inr ⟨i,v,(hlo i v _ h1).2⟩
 have hA:∀ b,AR A0 r' ds b→AR A0 r ds b:=fun b hb=>by
  rcases hb with h1 | h1 | h1
  ·exact .inl h1
  ·exact .inr (.inl (hownR b h1))
  ·exact .inr (.inr h1)
 have hout:∀ b,OwnR (onlyJ j r) b→¬ AR A0 r' ds b:=fun b hb=>by
  have hb':(r (.obj j)=some b)∨∃ v,r (.lo j v)=some (b+1):=by
   rcases hb with ⟨i,h1⟩ | ⟨i,v,h1⟩
   ·by_cases e:i=j
    ·subst e;simp [onlyJ] at h1;exact .inl h1
    ·simp [onlyJ,e] at h1
   ·by_cases e:i=j
    ·subst e;simp [onlyJ] at h1;exact .inr ⟨v,h1⟩
    ·simp [onlyJ,e] at h1
  have hown:OwnR r b:=by
   rcases hb' with h1 | ⟨v,h1⟩
   ·exact .inl ⟨j,h1⟩
   ·exact .inr ⟨j,v,h1⟩
  rintro (h1 | h1 | h1)
  ·exact h.dis b hown h1
  ·rcases h1 with ⟨i,h2⟩ | ⟨i,u,h2⟩
   ·obtain ⟨hne,h2⟩:=hobj i b h2
    rcases hb' with h3 | ⟨v,h3⟩
    ·exact hne (h.inj _ _ _ h2 h3)
    ·exact h.sep _ _ _ _ h2 h3
   ·obtain ⟨hne,h2⟩:=hlo i u _ h2
    rcases hb' with h3 | ⟨v,h3⟩
    ·exact h.sep _ _ _ _ h3 h2
    ·exact hne (h.injL _ _ _ _ _ h2 h3)
  ·exact h.sepD b hown h1
 have hkk:Keeps (AR A0 r ds) (AR A0 r' ds) w w:=⟨Nat.le_refl _,fun _ _ _=>rfl,fun b hb=>.inl (hA b hb)⟩
 have hno:∀ {x:AV} {v:Value},VR w (AR A0 r ds) noR x v→VR w (AR A0 r' ds) noR x v:=fun h=>h.mono hkk (fun _ _ h=>h)
 have hget:∀ i k,((st.loc.map (frzB (locOf st) j)).set j .gone)[i]?=some k→(i=j∧k=.gone)∨∃ k1,i≠j∧st.loc[i]?=some k1∧k=frzB (locOf st) j k1:=fun i k hi=>by
  rw [List.getElem?_set] at hi
  by_cases e:i=j
  ·subst e
   simp only [if_true] at hi
   split at hi
   ·injection hi with hi;exact .inl ⟨rfl,hi.symm⟩
   ·cases hi
  ·rw [if_neg (Ne.symm e),List.getElem?_map,Option.map_eq_some_iff] at hi
   obtain ⟨k1,h1,rfl⟩:=hi
   exact .inr ⟨k1,e,h1,rfl⟩
 have hset:∀ i k1,i≠j→st.loc[i]?=some k1→((st.loc.map (frzB (locOf st) j)).set j .gone)[i]?=some (frzB (locOf st) j k1):=fun i k1 hne hi=>by
  rw [List.getElem?_set,if_neg (Ne.symm hne),List.getElem?_map,hi];rfl
 refine ⟨r',frzAs_rel hj' hk hmj hA ho hout h.env,frzAs_rel hj' hk hmj hA ho hout h.sav,fun i k hi=>?_,fun i b hi=>?_,fun i v b hi=>?_,fun i i' b hi hi'=>h.inj _ _ _ (hobj _ _ hi).2 (hobj _ _ hi').2,fun i i' v u b hi hi'=>h.injL _ _ _ _ _ (hlo _ _ _ hi).2 (hlo _ _ _ hi').2,fun i i' v b hi hi'=>h.sep _ _ _ _ (hobj _ _ hi).2 (hlo _ _ _ hi').2,fun b hb=>h.dis b (hownR b hb),fun b hb=>h.lt b (hownR b hb),fun b hb=>h.sepD b (hownR b hb),h.a0,h.clo _ _ _ _ _ h.inv ⟨rfl,rfl,rfl,Nat.le_refl _,fun _ _ _=>rfl,dle.refl _⟩ (fun b hb'=>?_),h.clo,h.dfr,h.dnd,h.dok,h.ylv⟩
 ·rcases hget i k hi with ⟨rfl,rfl⟩ | ⟨k1,hne,h1,rfl⟩
  ·exact trivial
  ·have hmem:=h.mem i k1 h1
   cases k1 with
   | flat t cs=>
    obtain ⟨b,hb1,us,hh,hc⟩:=hmem
    exact ⟨b,by rw [ho.obj _ hne];exact hb1,us,hh,frzAs_rel hj' hk hmj hA ho hout hc⟩
   | map t ag wd n g=>
    obtain ⟨b,hb1,es,clock,hh,hbn,hes⟩:=hmem
    exact ⟨b,by rw [ho.obj _ hne];exact hb1,es,clock,hh,hbn,es_keep hes hkk⟩
   | list t wd v n g=>
    obtain ⟨e,c',xs,g1,g2,g3,g4,g5,g6,hown,hrows⟩:=hmem
    exact ⟨e,c',xs,by rw [ho.lo _ _ hne];exact g1,by rw [ho.lc _ _ hne];exact g2,by rw [ho.ln _ _ hne];exact g3,g4,g5,g6,hown,rows_keep hrows hkk⟩
   | iter m0 sn0=>
    obtain ⟨b,bm,sn,n,g,hb1,hh,hvm,hit,hsn⟩:=hmem
    exact ⟨b,bm,sn,n,g,by rw [ho.obj _ hne];exact hb1,hh,hno hvm,hit,hsn⟩
   | fmap t fks fvs=>
    obtain ⟨b,es,clock,hb1,hh,g1,g2,g3⟩:=hmem
    refine ⟨b,es,clock,by rw [ho.obj _ hne];exact hb1,hh,g1,by simpa using g2,fun q hq=>?_⟩
    obtain ⟨x,kx,vx,e1,e2,e3,e4,e5⟩:=g3 q hq
    exact ⟨x,kx,_,e1,e2,by rw [List.getElem?_map,e3];rfl,hno e4,frzA_rel hj' hk hmj hA ho hout e5⟩
   | pool t pst wd hk' ht hwd n g hl' hg' pend=>
    obtain ⟨b,es,clock,hb1,hh,h1',h2',h3',h4',h5',h6',h7',h8'⟩:=hmem
    refine ⟨b,es,clock,by rw [ho.obj _ hne];exact hb1,hh,h1',h2',h3',fun q hq=>?_,fun v u b hv hu=>h5' v u b (hlo _ _ _ hv).2 (hlo _ _ _ hu).2,fun v=>by rw [ho.ln _ _ hne];exact h6' v,fun v b hv=>h7' v b (hlo _ _ _ hv).2,fun q jp hq=>?_⟩
    ·obtain ⟨x,p,x1,x2,x3,x4⟩:=h4' q hq
     refine ⟨x,p,x1,hno x2,x3,?_⟩
     cases hpa:pendAt pend q with
     | some jp=>
      rw [hpa] at x4
      simp only at x4 ⊢
      have hjp:jp≠j:=fun e=>by
       subst e
       have:=List.all_eq_true.1 hpn _ (List.mem_of_getElem? h1)
       cases pend with
       | none=>cases hpa
       | some qj=>
        obtain ⟨q2,jp2⟩:=qj
        simp only [pendAt] at hpa
        split at hpa
        ·injection hpa with hpa;subst hpa;simp [pendNot] at this
        ·cases hpa
      rw [ho.obj _ hjp];exact x4
     | none=>
      rw [hpa] at x4
      simp only at x4 ⊢
      obtain ⟨m1,us,e,c,xs,m2,m3,m4,m5,m6,m7,m8,m9,m10⟩:=x4
      exact ⟨by rw [ho.lo _ _ hne];exact m1,us,e,c,xs,m2,m3,fun k k1 k2=>by obtain ⟨u,a1,a2⟩:=m4 k k1 k2;exact ⟨u,a1,hno a2⟩,m5,by rw [ho.lo _ _ hne];exact m6,m7,m8,m9,rows_keep m10 hkk⟩
    ·obtain ⟨a1,a2,a3⟩:=h8' q jp hq
     exact ⟨a1,by rw [ho.lo _ _ hne];exact a2,by rw [ho.lo _ _ hne];exact a3⟩
   | gone=>exact trivial
 ·obtain ⟨hne,h1⟩:=hobj i b hi
  obtain ⟨k1,h2,h3⟩:=h.dom i b h1
  exact ⟨_,hset i k1 hne h2,by rw [frzB_isO];exact h3⟩
 ·have h1:i≠j∧(r (.lo i v)=some b∨r (.lc i v)=some b∨r (.ln i v)=some b):=by
   rcases hi with hi | hi | hi
   ·exact ⟨(hlo _ _ _ hi).1,.inl (hlo _ _ _ hi).2⟩
   ·exact ⟨(hlc _ _ _ hi).1,.inr (.inl (hlc _ _ _ hi).2)⟩
   ·exact ⟨(hln _ _ _ hi).1,.inr (.inr (hln _ _ _ hi).2)⟩
  obtain ⟨k1,h2,h3⟩:=h.domL i v b h1.2
  exact ⟨_,hset i k1 h1.1 h2,frzB_isL h3⟩
 ·rcases hb' with h1 | h1
  ·exact .inl (.inl (hownR b h1))
  ·exact .inl (.inr h1)
theorem freeze_len {j:Nat} {st st':St} (hs:freeze j st=some st'):st'.env.length=st.env.length∧st'.out=st.out:=by
 unfold freeze at hs
 (repeat' split at hs)<;>first | (cases hs;done) | (injection hs with hs;subst hs;simp)
def freezeAll:List Nat→St→Option St
 | [],st=>some st
 | j :: js,st=>match st.loc[j]? with
  | some .gone=>freezeAll js st
  | _=>match freeze j st with
   | some st'=>freezeAll js st'
   | none=>none
theorem freezeAll_tidy:∀ {js:List Nat} {st st':St},freezeAll js st=some st'→Tidy st st'
 | [],st,st',h=>by simp [freezeAll] at h;subst h;exact ⟨rfl,fun X yl A0 r ds sv a w h=>⟨r,h⟩⟩
 | j :: js,st,st',h=>by
  simp only [freezeAll] at h
  split at h
  ·exact freezeAll_tidy h
  ·split at h
   ·rename_i s1 h1
    have k1:=freeze_tidy h1
    have k2:=freezeAll_tidy h
    refine ⟨k2.1.trans k1.1,fun X yl A0 r ds sv act w hfr=>?_⟩
    obtain ⟨r1,h1⟩:=k1.2 _ _ _ _ _ _ _ _ hfr
    exact k2.2 _ _ _ _ _ _ _ _ h1
   ·cases h
def lslIds:List AV→List Nat
 | []=>[]
 | .lsl j _ _ _ _ _ :: xs=>j :: lslIds xs
 | _ :: xs=>lslIds xs
def partIds:List (Nat × AV)→List Nat
 | []=>[]
 | (_,.agg cs) :: r=>lslIds cs ++ partIds r
 | _ :: r=>partIds r
def rowIds (st:St) (o:Oper):List Nat:=match o.op with
 | .call c=>match c.callee,c.args.toList with
  | .builtin .append,[_,y]=>match evO st.env y with
   | some (.lsl j _ _ _ _ _)=>match st.loc[j]? with
    | some (.flat _ cs)=>idsL cs
    | _=>[]
   | _=>[]
  | _,_=>[]
 | .store _ a x=>match evO st.env a,evO st.env x with
  | some (.optr _ _ _ _ _),some (.agg cs)=>idsL cs
  | some (.optr _ _ _ _ _),some y=>ids0 y
  | _,_=>[]
 | .buildSlice _ _ parts=>match mapParts (evO st.env) parts.toList with
  | some ps=>partIds ps
  | none=>[]
 | _=>[]
def handOf (st:St) (o:Oper):Option St:=match rowIds st o with
 | []=>none
 | js=>freezeAll js st
theorem handOf_tidy {st st':St} {o:Oper} (h:handOf st o=some st'):Tidy st st':=by
 unfold handOf at h
 split at h
 ·cases h
 ·exact freezeAll_tidy h
def lstAV:AV→Bool
 | .osl _ _ _=>true
 | .lsl _ _ _ _ _ _=>true
 | _=>false
def deepRes (P:Program) (g:FuncId):Bool:=match P.funcs[g]? with
 | some fn=>fn.resultTypes.any fun t=>match zeroAV P t with
  | some zs=>zs.any fun z=>match z with
   | .nilsl=>true
   | .nilptr=>true
   | .nilmp=>true
   | _=>false
  | none=>true
 | none=>false
def callIds (P:Program) (st:St) (o:Oper):List Nat:=match o.op with
 | .call c=>match c.callee with
  | .value f=>match evO st.env f,mapEv (evO st.env) c.args.toList with
   | some g,some vs=>match callAV P g vs with
    | some (.call h args)=>match args.all noL with
     | true=>[]
     | false=>match args.all (fun x=>noL x || lstAV x)&&deepRes P h with
      | true=>idsL (args.filter lstAV)
      | false=>[]
    | _=>[]
   | _,_=>[]
  | _=>[]
 | _=>[]
def handCall (P:Program) (st:St) (o:Oper):Option St:=match callIds P st o with
 | []=>none
 | js=>freezeAll js st
theorem handCall_tidy {P:Program} {st st':St} {o:Oper} (h:handCall P st o=some st'):Tidy st st':=by
 unfold handCall at h
 split at h
 ·cases h
 ·exact freezeAll_tidy h
end Go.Proofs.YtkpligkggnjcoaaGreatDoor.Ev
/-! EvO -/
namespace Go.Proofs.YtkpligkggnjcoaaGreatDoor.Ev
open Go.RowKit
inductive T (α:Type):Type 1 where
 | fail
 | ret (a:α)
 | chk (g:Bool) (t:T α)
 | br (b:Bool) (t e:T α)
 | obs {β:Type} (o:Option β) (k:β→T α)
 | sum {β γ:Type} (x:β ⊕ γ) (f:β→T α) (g:γ→T α)
namespace T
variable {α β:Type}
def bind:T α→(α→T β)→T β
 | fail,_=>fail
 | ret a,k=>k a
 | chk g t,k=>chk g (bind t k)
 | br b t e,k=>br b (bind t k) (bind e k)
 | obs o f,k=>obs o fun x=>bind (f x) k
 | sum x f g,k=>sum x (fun y=>bind (f y) k) (fun z=>bind (g z) k)
def run:T α→Option α
 | fail=>none
 | ret a=>some a
 | chk g t=>match g with
  | true=>run t
  | false=>none
 | br b t e=>match b with
  | true=>run t
  | false=>run e
 | obs o f=>match o with
  | some x=>run (f x)
  | none=>none
 | sum x f g=>match x with
  | .inl y=>run (f y)
  | .inr z=>run (g z)
def ofOpt:Option α→T α
 | some a=>ret a
 | none=>fail
theorem br_some {b:Bool} {t e:T α} {x y:α} (h1:t.run=some x) (h2:e.run=some y):(T.br b t e).run=some (if b=true then x else y):=by cases b<;>assumption
theorem run_ret (a:α):(T.ret a).run=some a:=rfl
theorem run_some {β:Type} (x:β) (k:β→T α):(T.obs (some x) k).run=(k x).run:=rfl
theorem run_inl {β γ:Type} (x:β) (f:β→T α) (g:γ→T α):(T.sum (.inl x) f g).run=(f x).run:=rfl
theorem run_inr {β γ:Type} (x:γ) (f:β→T α) (g:γ→T α):(T.sum (.inr x) f g).run=(g x).run:=rfl
theorem run_bind {k:α→T β} {b:β}:∀ {t:T α},run (bind t k)=some b→∃ a,run t=some a∧run (k a)=some b
 | fail,h=>by simp [bind,run] at h
 | ret a,h=>⟨a,rfl,h⟩
 | chk g t,h=>by
  simp only [bind,run] at h
  cases g with
  | true=>exact run_bind (t:=t) h
  | false=>simp at h
 | br c t e,h=>by
  simp only [bind,run] at h
  cases c with
  | true=>exact run_bind (t:=t) h
  | false=>exact run_bind (t:=e) h
 | obs o f,h=>by
  cases o with
  | none=>simp [bind,run] at h
  | some x=>exact run_bind (t:=f x) h
 | sum x f g,h=>by
  cases x with
  | inl y=>exact run_bind (t:=f y) h
  | inr z=>exact run_bind (t:=g z) h
end T
universe u
section
variable {R:Sort u}
def force0 (x:AV) (k:AV→R):R:=match x with
 | .int a n=>k (.int a n)
 | .bool b=>k (.bool b)
 | .str l=>k (.str l)
 | .nilptr=>k .nilptr
 | .lptr a b c d=>k (.lptr a b c d)
 | .xptr a b c d e=>k (.xptr a b c d e)
 | .nilsl=>k .nilsl
 | .osl a b c=>k (.osl a b c)
 | .oss a b c d e=>k (.oss a b c d e)
 | .optr a b c d e=>k (.optr a b c d e)
 | .lsl a b c d e f=>k (.lsl a b c d e f)
 | .xsl a b c d e f=>k (.xsl a b c d e f)
 | .fn a b c=>k (.fn a b c)
 | .nilfn=>k .nilfn
 | .yv=>k .yv
 | .nilif=>k .nilif
 | .errif=>k .errif
 | .nilmp=>k .nilmp
 | .mp a=>k (.mp a)
 | .xmp a b c d=>k (.xmp a b c d)
 | .xpool a b c d e f g h=>k (.xpool a b c d e f g h)
 | .agg a=>k (.agg a)
 | .tup a=>k (.tup a)
 | .top=>k .top
theorem force0_eq (x:AV) (k:AV→R):force0 x k=k x:=by cases x<;>rfl
def forceL0:List AV→(List AV→R)→R
 | [],k=>k []
 | x :: xs,k=>force0 x fun y=>forceL0 xs fun ys=>k (y :: ys)
theorem forceL0_eq:∀ (l:List AV) (k:List AV→R),forceL0 l k=k l
 | [],k=>rfl
 | x :: xs,k=>by rw [forceL0,force0_eq,forceL0_eq xs]
def force1 (x:AV) (k:AV→R):R:=match x with
 | .agg cs=>forceL0 cs fun ys=>k (.agg ys)
 | x=>force0 x k
theorem force1_eq (x:AV) (k:AV→R):force1 x k=k x:=by
 unfold force1
 split
 ·exact forceL0_eq _ _
 ·exact force0_eq _ _
def forceL1:List AV→(List AV→R)→R
 | [],k=>k []
 | x :: xs,k=>force1 x fun y=>forceL1 xs fun ys=>k (y :: ys)
theorem forceL1_eq:∀ (l:List AV) (k:List AV→R),forceL1 l k=k l
 | [],k=>rfl
 | x :: xs,k=>by rw [forceL1,force1_eq,forceL1_eq xs]
def force (x:AV) (k:AV→R):R:=match x with
 | .tup cs=>forceL1 cs fun ys=>k (.tup ys)
 | x=>force1 x k
theorem force_eq (x:AV) (k:AV→R):force x k=k x:=by
 unfold force
 split
 ·exact forceL1_eq _ _
 ·exact force1_eq _ _
def forceB:List Blk→(List Blk→R)→R
 | [],k=>k []
 | .flat t cs :: bs,k=>forceL0 cs fun ys=>forceB bs fun zs=>k (.flat t ys :: zs)
 | .list t wd v n g :: bs,k=>forceB bs fun zs=>k (.list t wd v n g :: zs)
 | .map t ag wd n g :: bs,k=>forceB bs fun zs=>k (.map t ag wd n g :: zs)
 | .fmap t ks vs :: bs,k=>forceL0 ks fun xs=>forceL0 vs fun ys=>forceB bs fun zs=>k (.fmap t xs ys :: zs)
 | .pool t st wd hk ht hwd n g hl hg none :: bs,k=>forceB bs fun zs=>k (.pool t st wd hk ht hwd n g hl hg none :: zs)
 | .pool t st wd hk ht hwd n g hl hg (some (q,jp)) :: bs,k=>forceB bs fun zs=>k (.pool t st wd hk ht hwd n g hl hg (some (q,jp)) :: zs)
 | .iter m sn :: bs,k=>forceB bs fun zs=>k (.iter m sn :: zs)
 | .gone :: bs,k=>forceB bs fun zs=>k (.gone :: zs)
theorem forceB_eq:∀ (l:List Blk) (k:List Blk→R),forceB l k=k l
 | [],k=>rfl
 | .flat t cs :: bs,k=>by rw [forceB,forceL0_eq,forceB_eq bs]
 | .list t wd v n g :: bs,k=>by rw [forceB,forceB_eq bs]
 | .map t ag wd n g :: bs,k=>by rw [forceB,forceB_eq bs]
 | .fmap t ks vs :: bs,k=>by rw [forceB,forceL0_eq,forceL0_eq,forceB_eq bs]
 | .pool t st wd hk ht hwd n g hl hg none :: bs,k=>by rw [forceB,forceB_eq bs]
 | .pool t st wd hk ht hwd n g hl hg (some (q,jp)) :: bs,k=>by rw [forceB,forceB_eq bs]
 | .iter m sn :: bs,k=>by rw [forceB,forceB_eq bs]
 | .gone :: bs,k=>by rw [forceB,forceB_eq bs]
def forceS (st:St) (k:St→R):R:=forceL1 st.env fun e=>forceB st.loc fun l=>k { st with env:=e,loc:=l }
theorem forceS_eq (st:St) (k:St→R):forceS st k=k st:=by rw [forceS,forceL1_eq,forceB_eq]
end
def effT (C:FuncId→List AV→T AV) (loc:Nat→Option Blk) (nx:Nat) (o:Oper):Res→T Eff
 | .val v=>.ret ⟨o.dst,v,none⟩
 | .alloc b v=>.ret ⟨o.dst,v,some (nx,b)⟩
 | .grow j b v=>.ret ⟨o.dst,v,some (j,b)⟩
 | .store j b=>.ret ⟨o.dst,.tup [],some (j,b)⟩
 | .put j b v=>.ret ⟨o.dst,v,some (j,b)⟩
 | .call f args=>match callArgs loc args with
  | some (ex,args')=>(C f args').bind fun v=>match ex&&!plainR v with
   | true=>.fail
   | false=>.ret ⟨o.dst,v,none⟩
  | none=>.fail
 | .turn f args=>match turnArgs loc args with
  | some (j,t,wd,v,n,g,rest)=>(C f (.osl 0 wd n :: .xsl wd n g 0 n none :: rest)).bind fun x=>match x with
   | .xsl _ _ g' _ _ _=>match fullCK g'.tag wd with
    | true=>.ret ⟨o.dst,.tup [],some (j,.list t wd v n g')⟩
    | false=>.fail
   | _=>.fail
  | none=>match methArgs loc args with
   | some (j,t,wd,cs,rest)=>(C f (.lptr t wd 0 0 :: .agg cs :: rest)).bind fun x=>match x with
    | .tup [.agg cs',u]=>.ret ⟨o.dst,u,some (j,.flat t cs')⟩
    | _=>.fail
   | none=>.fail
 | .fresh f t args=>match callArgs loc args with
  | some (_,args')=>(C f (.oss t 0 0 0 0 :: args')).bind fun x=>match x with
   | .xsl wd n g _ _ _=>match fullCK g.tag wd with
    | true=>.ret ⟨o.dst,.osl nx 0 n,some (nx,.list t wd 0 n g)⟩
    | false=>.fail
   | _=>.fail
  | none=>.fail
def fmapT {α:Type} (key:AV) (f:Bool→AV→T α):List AV→List AV→T α
 | k :: ks,v :: vs=>.br (keyIs key k) (f true v) (fmapT key f ks vs)
 | _,_=>f false .nilfn
def splitI {α:Type} (i:Int) (f:Nat→T α):Nat→T α
 | 0=>.fail
 | n+1=>.br (decide (i=(n:Int))) (f n) (splitI i f n)
theorem splitI_run {α:Type} {i:Int} {f:Nat→T α} {e:α}:∀ {n:Nat},(splitI i f n).run=some e→∃ k,k<n∧i=(k:Int)∧(f k).run=some e
 | 0,h=>by simp [splitI,T.run] at h
 | n+1,h=>by
  simp only [splitI,T.run] at h
  by_cases hk:i=(n:Int)
  ·rw [decide_eq_true hk] at h;exact ⟨n,by omega,hk,h⟩
  ·rw [decide_eq_false hk] at h
   obtain ⟨k,h1,h2,h3⟩:=splitI_run h
   exact ⟨k,by omega,h2,h3⟩
def opT (P:Program) (C:FuncId→List AV→T AV) (st:St) (o:Oper):T Eff:=match opRes P (evO st.env) (locOf st) st.loc.length o with
 | some (g,res)=>.chk g (effT C (locOf st) st.loc.length o res)
 | none=>.fail
def stepT (P:Program) (C:FuncId→List AV→T AV) (st:St) (o:Oper):T Eff:=
 match o.op with
 | .pick c a b=>match evO st.env c with
  | some (.bool t)=>.br t ((T.ofOpt (evO st.env a)).bind fun v=>.ret ⟨o.dst,v,none⟩) ((T.ofOpt (evO st.env b)).bind fun v=>.ret ⟨o.dst,v,none⟩)
  | _=>.fail
 | .lookup t m k ok=>match evO st.env m,evO st.env k with
  | some x,some key=>match fLook P (locOf st) t x key with
   | some (ks,vs)=>fmapT key (fun c v=>.ret ⟨o.dst,okRes ok c v,none⟩) ks vs
   | none=>match pLook P t x key ok with
    | some (n,g)=>.br (mfind g key n).isSome (.ret ⟨o.dst,g.cell ((mfind g key n).getD 0) 1,none⟩) (.ret ⟨o.dst,.nilptr,none⟩)
    | none=>opT P C st o
  | _,_=>.fail
 | .indexAddr t x ix=>match evO st.env x,evO st.env ix,P.underlying t with
  | some (.lsl j wd row col len _),some (.int .u8 i),some (.slice e)=>match szOf P e with
   | some n=>match Nat.beq n wd with
    | true=>splitI i (fun k=>.ret ⟨o.dst,.lptr j wd (row+k) col,none⟩) len
    | false=>.fail
   | none=>.fail
  | _,_,_=>opT P C st o
 | _=>opT P C st o
def yieldOf (st:St) (o:Oper):Option (List AV):=
 match o.op with
 | .call c=>match c.callee with
  | .value f=>match evO st.env f with
   | some .yv=>match mapEv (evO st.env) c.args.toList with
    | some vs=>match vs.all noL with
     | true=>some vs
     | false=>none
    | none=>none
   | _=>none
  | _=>none
 | _=>none
def inlOf (env:List AV) (o:Oper):Option (FuncId × List AV):=
 match o.op with
 | .call c=>match c.callee with
  | .value f=>match evO env f with
   | some (.fn (.func g) xs ys)=>match mapEv (evO env) c.args.toList with
    | some vs=>some (g,xs ++ vs ++ ys)
    | none=>none
   | _=>none
  | _=>none
 | _=>none
abbrev Inl:=FuncId→List AV→St→Option (T (AV × St))
def litSlot (st:St) (d:Nat) (b:Bool):St:={ st with env:=st.env.set d (.bool b) }
def tryInl (I:Inl) (o:Oper) (st:St):Option (T (AV × St)):=match inlOf st.env o with
 | some (g,args)=>I g args st
 | none=>none
def trySp (P:Program) (C:FuncId→List AV→T AV) (I:Inl) (o:Oper) (st:St):Option (T (AV × St)):=match focusOf P st o with
 | some (f,p)=>some (.br f (.ret p) (.ret (.nilptr,st)))
 | none=>match handOf st o with
  | some st1=>some ((stepT P (fun _ _=>.fail) st1 o).bind fun e=>.ret (e.v,applyE st1 { e with dst:=none }))
  | none=>match tryInl I o st with
   | some t=>some t
   | none=>match handCall P st o with
    | some st1=>some ((stepT P C st1 o).bind fun e=>.ret (e.v,applyE st1 { e with dst:=none }))
    | none=>none
def goT (P:Program) (C:FuncId→List AV→T AV) (I:Inl) (k:St→T St) (o:Oper) (st:St):T St:=
 match yieldOf st o with
 | some vs=>k { st with env:=putD st.env o.dst (.bool (st.bs st.out.length)),out:=(vs,st.bs st.out.length) :: st.out }
 | none=>match trySp P C I o st with
  | some t=>t.bind fun p=>forceS p.2 fun s=>force p.1 fun v=>k { s with env:=putD s.env o.dst v }
  | none=>(stepT P C st o).bind fun e=>force e.v fun v=>k (applyE st { e with v:=v })
def skipT (k:St→T St) (o:Oper) (st:St):T St:=k (applyE st ⟨o.dst,.tup [],none⟩)
def guardT (ops:Array Oper) (st:St) (o:Oper) (go skip:St→T St):T St:=
 match o.guard with
 | none=>go st
 | some (j,want)=>match ops[j]? with
  | some oj=>match oj.dst with
   | some d=>match st.env[d]? with
    | some (.bool b)=>.br b (match want with | true=>go (litSlot st d true) | false=>skip (litSlot st d true)) (match want with | true=>skip (litSlot st d false) | false=>go (litSlot st d false))
    | some (.tup [])=>skip st
    | _=>.fail
   | none=>.fail
  | none=>.fail
def runT (P:Program) (C:FuncId→List AV→T AV) (I:Inl) (ops:Array Oper):List Oper→St→T St
 | [],st=>.ret st
 | o :: rest,st=>guardT ops st o (goT P C I (runT P C I ops rest) o) (skipT (runT P C I ops rest) o)
def runTd (P:Program) (C:FuncId→List AV→T AV) (ops:Array Oper) (bf:List Nat):List Oper→Nat→St→List (Nat × Nat × Bool)→Bool→T St
 | [],_,st,_,_=>.ret st
 | o :: rest,i,st,tr,y=>guardT ops st o
   (fun st=>match clashAny bf i tr (touch P (evO st.env) st.loc.length o) with
    | true=>.fail
    | false=>match yieldOf st o with
     | some vs=>match y with
      | true=>.fail
      | false=>runTd P C ops bf rest (i+1) { st with env:=putD st.env o.dst (.bool (st.bs st.out.length)),out:=(vs,st.bs st.out.length) :: st.out } (addTr i tr (touch P (evO st.env) st.loc.length o)) true
     | none=>(stepT P C st o).bind fun e=>force e.v fun v=>runTd P C ops bf rest (i+1) (applyE st { e with v:=v }) (addTr i tr (touch P (evO st.env) st.loc.length o)) y)
   (fun st=>match clashAny bf i tr (touch P (evO st.env) st.loc.length o) with
    | true=>.fail
    | false=>runTd P C ops bf rest (i+1) (applyE st ⟨o.dst,.tup [],none⟩) (addTr i tr (touch P (evO st.env) st.loc.length o)) y)
def runTp (P:Program) (C:FuncId→List AV→T AV) (I:Inl) (ops:Array Oper) (bf:List Nat):List Oper→Nat→St→List (Nat × Nat × Bool)→T St
 | [],_,st,_=>.ret st
 | o :: rest,i,st,tr=>guardT ops st o
   (fun st=>match trySp P C I o st with
    | some t=>match pivOk bf i ops.size with
     | true=>t.bind fun p=>forceS p.2 fun s=>force p.1 fun v=>runTp P C I ops bf rest (i+1) { s with env:=putD s.env o.dst v } []
     | false=>.fail
    | none=>match clashAny bf i tr (touch P (evO st.env) st.loc.length o) with
     | true=>.fail
     | false=>(stepT P C st o).bind fun e=>force e.v fun v=>runTp P C I ops bf rest (i+1) (applyE st { e with v:=v }) (addTr i tr (touch P (evO st.env) st.loc.length o)))
   (fun st=>match clashAny bf i tr (touch P (evO st.env) st.loc.length o) with
    | true=>.fail
    | false=>runTp P C I ops bf rest (i+1) (applyE st ⟨o.dst,.tup [],none⟩) (addTr i tr (touch P (evO st.env) st.loc.length o)))
section
variable {P:Program} {C:FuncId→List AV→T AV} {ops:Array Oper} {st:St} {o:Oper}
theorem effT_run {loc:Nat→Option Blk} {nx:Nat} {res:Res} {e:Eff} (h:(effT C loc nx o res).run=some e):effR (fun f args=>(C f args).run) loc nx o res=some e:=by
 cases res with
 | val v=>exact h
 | alloc b v=>exact h
 | grow j b v=>exact h
 | store j b=>exact h
 | put j b v=>exact h
 | call f args=>
  simp only [effT] at h
  simp only [effR]
  split at h
  ·rename_i ex args' hc
   obtain ⟨v,h1,h2⟩:=T.run_bind h
   simp only [hc,h1]
   split at h2
   ·simp [T.run] at h2
   ·rename_i hx
    simp only [hx]
    exact h2
  ·simp [T.run] at h
 | turn f args=>
  simp only [effT] at h
  simp only [effR]
  split at h
  case h_2=>
   rename_i hta
   split at h
   case h_2=>simp [T.run] at h
   rename_i hma
   obtain ⟨x,h1,h2⟩:=T.run_bind h
   simp only [hta,hma,h1]
   split at h2
   ·exact h2
   ·simp [T.run] at h2
  rename_i hta
  obtain ⟨x,h1,h2⟩:=T.run_bind h
  simp only [hta,h1]
  cases x<;>simp only [T.run] at h2<;>try (exact absurd h2 (by simp))
  split at h2
  ·rename_i hf;simp only [hf];exact h2
  ·simp [T.run] at h2
 | fresh f t args=>
  simp only [effT] at h
  simp only [effR]
  split at h
  case h_2=>simp [T.run] at h
  rename_i hca
  obtain ⟨x,h1,h2⟩:=T.run_bind h
  simp only [hca,h1]
  cases x<;>simp only [T.run] at h2<;>try (exact absurd h2 (by simp))
  split at h2
  ·rename_i hf;simp only [hf];exact h2
  ·simp [T.run] at h2
theorem fmapT_run {key:AV} {dst:Option Nat} {ok:Bool} {e:Eff}:∀ {ks vs:List AV},(fmapT key (fun c v=>(T.ret ⟨dst,okRes ok c v,none⟩:T Eff)) ks vs).run=some e→e=⟨dst,okRes ok (fmapHit ks vs key) (fmapLook ks vs key),none⟩
 | [],vs,h=>by simp [fmapT,T.run] at h;rw [← h];cases vs<;>rfl
 | k :: ks,[],h=>by simp [fmapT,T.run] at h;rw [← h];rfl
 | k :: ks,v :: vs,h=>by
  simp only [fmapT,T.run] at h
  simp only [fmapLook,fmapHit]
  cases hk:keyIs key k with
  | true=>rw [hk] at h;simp at h;exact h.symm
  | false=>rw [hk] at h;exact fmapT_run h
theorem opT_run {e:Eff} (h:(opT P C st o).run=some e):∃ res,opRes P (evO st.env) (locOf st) st.loc.length o=some (true,res)∧effR (fun f args=>(C f args).run) (locOf st) st.loc.length o res=some e:=by
 unfold opT at h
 split at h
 ·rename_i g res hres
  cases g with
  | true=>exact ⟨res,hres,effT_run h⟩
  | false=>simp [T.run] at h
 ·simp [T.run] at h
theorem stepT_run {e:Eff} (h:(stepT P C st o).run=some e):∃ res,opRes P (evO st.env) (locOf st) st.loc.length o=some (true,res)∧effR (fun f args=>(C f args).run) (locOf st) st.loc.length o res=some e:=by
 unfold stepT at h
 split at h
 ·rename_i c a b hop
  split at h
  ·rename_i t ht
   have key:∀ x:Operand,(((T.ofOpt (evO st.env x)).bind fun v=>(T.ret ⟨o.dst,v,none⟩:T Eff)).run=some e)→∃ v,evO st.env x=some v∧e=⟨o.dst,v,none⟩:=fun x hx=>by
    obtain ⟨v,h1,h2⟩:=T.run_bind hx
    refine ⟨v,?_,?_⟩
    ·cases hv:evO st.env x with
     | none=>simp [hv,T.ofOpt,T.run] at h1
     | some u=>simp [hv,T.ofOpt,T.run] at h1;rw [h1]
    ·simp [T.run] at h2;exact h2.symm
   cases t with
   | true=>
    obtain ⟨v,h1,rfl⟩:=key a h
    exact ⟨.val v,by simp [opRes,native,hop,ht,h1],rfl⟩
   | false=>
    obtain ⟨v,h1,rfl⟩:=key b h
    exact ⟨.val v,by simp [opRes,native,hop,ht,h1],rfl⟩
  ·simp [T.run] at h
 ·rename_i t m k ok hop
  split at h
  ·rename_i x key hm hk
   split at h
   ·rename_i ks vs hf
    have:=fmapT_run h
    subst this
    exact ⟨.val (okRes ok (fmapHit ks vs key) (fmapLook ks vs key)),by simp [opRes,native,hop,hm,hk,lookAV2,hf],rfl⟩
   ·rename_i hf
    split at h
    ·rename_i n g hp
     refine ⟨.val (ptrAt g (mfind g key n)),by simp [opRes,native,hop,hm,hk,lookAV2,hf,hp],?_⟩
     simp only [T.run] at h
     cases ho:mfind g key n with
     | none=>rw [ho] at h;simp at h;simp only [effR,ptrAt];rw [← h]
     | some i=>rw [ho] at h;simp at h;simp only [effR,ptrAt];rw [← h]
    ·exact opT_run h
  ·simp [T.run] at h
 ·rename_i t x ix hop
  split at h
  ·rename_i j wd row col len cap i el hx hi hu
   split at h
   ·rename_i n hn
    split at h
    ·rename_i hw
     have hw:=Nat.eq_of_beq_eq_true hw
     obtain ⟨k,h1,h2,h3⟩:=splitI_run h
     subst hw;subst h2
     simp only [T.run,Option.some.injEq] at h3
     subst h3
     refine ⟨.val (.lptr j n (row+k) col),?_,rfl⟩
     have hc:decide ((0:Int)≤(k:Int)∧(k:Int)<(len:Int))=true:=decide_eq_true (by omega)
     simp only [opRes,native,hop,hx,hi,hu,hn,hc,if_true,Int.toNat_natCast]
    ·simp [T.run] at h
   ·simp [T.run] at h
  ·exact opT_run h
 ·exact opT_run h
theorem lit_same {d:Nat} {b:Bool} (h:st.env[d]?=some (.bool b)):litSlot st d b=st:=by
 unfold litSlot
 have:st.env.set d (.bool b)=st.env:=by
  apply List.ext_getElem?
  intro i
  rw [List.getElem?_set]
  split
  ·rename_i e
   subst e
   have hi:=(List.getElem?_eq_some_iff.1 h).1
   rw [if_pos hi,h]
  ·rfl
 rw [this]
theorem guardT_run {go skip:St→T St} {r:St} (h:(guardT ops st o go skip).run=some r):(wantD ops st.env o=some true∧(go st).run=some r)∨(wantD ops st.env o=some false∧(skip st).run=some r):=by
 unfold guardT at h
 split at h
 ·rename_i hg
  exact .inl ⟨by simp [wantD,hg],h⟩
 ·rename_i j want hg
  split at h
  ·rename_i oj hj
   split at h
   ·rename_i d hd
    split at h
    ·rename_i b hb
     cases b with
     | true=>
      have e:=lit_same hb
      cases want with
      | true=>rw [e] at h;exact .inl ⟨by simp [wantD,hg,hj,hd,hb],h⟩
      | false=>rw [e] at h;exact .inr ⟨by simp [wantD,hg,hj,hd,hb],h⟩
     | false=>
      have e:=lit_same hb
      cases want with
      | true=>rw [e] at h;exact .inr ⟨by simp [wantD,hg,hj,hd,hb],h⟩
      | false=>rw [e] at h;exact .inl ⟨by simp [wantD,hg,hj,hd,hb],h⟩
    ·rename_i hb
     exact .inr ⟨by simp [wantD,hg,hj,hd,hb],h⟩
    ·simp [T.run] at h
   ·simp [T.run] at h
  ·simp [T.run] at h
theorem stepE_go {e:Eff} (hw:wantD ops st.env o=some true) (h:(stepT P C st o).run=some e):stepE P (fun f args=>(C f args).run) ops st o=some e:=by
 obtain ⟨res,h1,h2⟩:=stepT_run h
 simp only [stepE,effOf,hw,h1,h2]
theorem stepE_skip (hw:wantD ops st.env o=some false):stepE P (fun f args=>(C f args).run) ops st o=some ⟨o.dst,.tup [],none⟩:=by
 simp only [stepE,effOf,hw]
theorem yieldOf_spec {vs:List AV} (h:yieldOf st o=some vs):∃ (c:Call) (f:Operand),o.op=.call c∧c.callee=.value f∧evO st.env f=some .yv∧mapEv (evO st.env) c.args.toList=some vs∧vs.all noL=true:=by
 unfold yieldOf at h
 split at h
 ·rename_i c hop
  split at h
  ·rename_i f hc
   split at h
   ·rename_i hf
    split at h
    ·rename_i vs' hvs
     split at h
     ·rename_i hn
      injection h with h;subst h
      exact ⟨c,f,hop,hc,hf,hvs,hn⟩
     ·simp at h
    ·simp at h
   ·simp at h
  ·simp at h
 ·simp at h
theorem inlOf_spec {g:FuncId} {args:List AV} (h:inlOf st.env o=some (g,args)):∃ (c:Call) (f:Operand) (xs ys vs:List AV),o.op=.call c∧c.callee=.value f∧evO st.env f=some (.fn (.func g) xs ys)∧mapEv (evO st.env) c.args.toList=some vs∧args=xs ++ vs ++ ys:=by
 unfold inlOf at h
 split at h
 ·rename_i c hop
  split at h
  ·rename_i f hc
   split at h
   ·rename_i g' xs ys hf
    split at h
    ·rename_i vs hvs
     injection h with h
     injection h with h1 h2
     subst h1;subst h2
     exact ⟨c,f,xs,ys,vs,hop,hc,hf,hvs,rfl⟩
    ·simp at h
   ·simp at h
  ·simp at h
 ·simp at h
abbrev InlOk (P:Program) (I:Inl):Prop:=∀ g args st t v st3,I g args st=some t→t.run=some (v,st3)→IL P g args st v st3
theorem tryInl_piv {I:Inl} (hI:InlOk P I) {t:T (AV × St)} {v:AV} {st3:St} (ht:tryInl I o st=some t) (h1:t.run=some (v,st3)) (hw:wantD ops st.env o=some true):Piv P ops o st { st3 with env:=putD st3.env o.dst v }:=by
 unfold tryInl at ht
 split at ht
 ·rename_i g args hio
  obtain ⟨c,f,xs,ys,vs,hop,hc,hf,hvs,rfl⟩:=inlOf_spec hio
  exact Piv.inl hw hop hc hf hvs (hI _ _ _ _ _ _ ht h1)
 ·simp at ht
theorem hand_piv {C:FuncId→List AV→T AV} (hcl:∀ f args v,(C f args).run=some v→CC P f args v) {st1:St} {e:Eff} (htidy:Tidy st st1) (h2:(stepT P C st1 o).run=some e) (hw:wantD ops st.env o=some true) :
  Piv P ops o st { applyE st1 { e with dst:=none } with env:=putD (applyE st1 { e with dst:=none }).env o.dst e.v }:=by
 refine ⟨htidy.1,fun X hX yl ro n A0 r ds sv a w K Q hfr hK=>?_⟩
 have hwr:=wantD_true hfr hw
 obtain ⟨r1,hfr1⟩:=htidy.2 _ _ _ _ _ _ _ _ hfr
 obtain ⟨res,q1,q2⟩:=stepT_run h2
 have he:effOf P (fun f args=>(C f args).run) ops st1.env (locOf st1) st1.loc.length { o with guard:=none }=some e:=by
  unfold effOf
  have hw':wantD ops st1.env { o with guard:=none }=some true:=rfl
  rw [hw']
  simp only
  rw [show opRes P (evO st1.env) (locOf st1) st1.loc.length { o with guard:=none }=opRes P (evO st1.env) (locOf st1) st1.loc.length o from rfl,q1]
  exact q2
 have hst:=op_step (P:=P) (o:={ o with guard:=none }) (nx:=st1.loc.length) (ro:=ro) (n:=n) (K:=K) (Q:=Q) (fun f args v h=>hcl f args v h) hX.good hfr1 (fun _ _ _ _ _ _ _=>locOf_len st1) he (fun r' a' w' hfr'=>by
  have hd:e.dst=o.dst:=(effOf_dst (o:={ o with guard:=none }) he)
  refine hK A0 r' a' w' ?_
  have hl:locOf (applyE st1 { e with dst:=none })=locE e (locOf st1):=by
   have:=locOf_apply (P:=P) (cl:=fun f args=>(C f args).run) (ops:=ops) (o:={ o with guard:=none }) (st:=st1) (e:=e) he
   rw [← this];rfl
  rw [hd] at hfr'
  show FR X yl A0 st1.sav sv (putD st1.env o.dst e.v) (locOf (applyE st1 { e with dst:=none })) r' ds a' w'
  rw [hl]
  exact hfr')
 rw [if_pos hwr]
 have hwr2:Region.wanted { o with guard:=none } (yielded ops a.tmps)=true:=rfl
 rw [if_pos hwr2] at hst
 exact hst
theorem trySp_piv {C:FuncId→List AV→T AV} (hcl:∀ f args v,(C f args).run=some v→CC P f args v) {I:Inl} (hI:InlOk P I) {t:T (AV × St)} {v:AV} {st3:St} (ht:trySp P C I o st=some t) (h1:t.run=some (v,st3)) (hw:wantD ops st.env o=some true):Piv P ops o st { st3 with env:=putD st3.env o.dst v }:=by
 unfold trySp at ht
 split at ht
 ·rename_i f p hf
  injection ht with ht;subst ht
  obtain ⟨v1,st1⟩:=p
  cases f with
  | true=>simp [T.run] at h1;obtain ⟨rfl,rfl⟩:=h1;exact (Piv.focus hf hw).1 rfl
  | false=>simp [T.run] at h1;obtain ⟨rfl,rfl⟩:=h1;exact (Piv.focus hf hw).2 rfl
 ·split at ht
  ·rename_i st1 hh
   injection ht with ht;subst ht
   obtain ⟨e,h2,h3⟩:=T.run_bind h1
   simp [T.run] at h3;obtain ⟨rfl,rfl⟩:=h3
   exact hand_piv (C:=fun _ _=>.fail) (fun f args v h=>by simp [T.run] at h) (handOf_tidy hh) h2 hw
  ·split at ht
   ·rename_i t1 hti
    injection ht with ht;subst ht
    exact tryInl_piv hI hti h1 hw
   ·split at ht
    ·rename_i st1 hh
     injection ht with ht;subst ht
     obtain ⟨e,h2,h3⟩:=T.run_bind h1
     simp [T.run] at h3;obtain ⟨rfl,rfl⟩:=h3
     exact hand_piv hcl (handCall_tidy hh) h2 hw
    ·cases ht
theorem runT_ld {I:Inl} (hcl:∀ f args v,(C f args).run=some v→CC P f args v) (hI:∀ g args st t v st3,I g args st=some t→t.run=some (v,st3)→IL P g args st v st3) :
  ∀ (l:List Oper) (i:Nat) (st st':St),(∀ j,l[j]?=ops[i+j]?)→(runT P C I ops l st).run=some st'→LdO P ops l i st st'
 | [],i,st,st',_,h=>by
  simp [runT,T.run] at h;subst h;exact LdO.nil
 | o :: rest,i,st,st',hl,h=>by
  have h0:ops[i]?=some o:=by simpa using (hl 0).symm
  have hl':∀ j,rest[j]?=ops[i+1+j]?:=fun j=>by have:=hl (j+1);simpa [Nat.add_assoc,Nat.add_comm 1 j] using this
  simp only [runT] at h
  rcases guardT_run h with ⟨hw,h⟩ | ⟨hw,h⟩
  ·unfold goT at h
   split at h
   ·rename_i vs hy
    obtain ⟨c,f,hop,hc,hf,hvs,hn⟩:=yieldOf_spec hy
    exact LdO.yield h0 hw hop hc hf hvs hn (runT_ld hcl hI rest (i+1) _ st' hl' h)
   ·split at h
    ·rename_i t ht
     obtain ⟨⟨v,st3⟩,h1,h2⟩:=T.run_bind h
     rw [forceS_eq,force_eq] at h2
     exact LdO.piv h0 (trySp_piv hcl hI ht h1 hw) (runT_ld hcl hI rest (i+1) _ st' hl' h2)
    ·obtain ⟨e,h1,h2⟩:=T.run_bind h
     rw [force_eq] at h2
     exact LdO.step (cl:=fun f args=>(C f args).run) hcl h0 (stepE_go hw h1) (runT_ld hcl hI rest (i+1) _ st' hl' h2)
  ·exact LdO.step (cl:=fun f args=>(C f args).run) hcl h0 (stepE_skip hw) (runT_ld hcl hI rest (i+1) _ st' hl' h)
theorem runTd_wk {bf:List Nat}:∀ (l:List Oper) (i:Nat) (st st':St) (tr:List (Nat × Nat × Bool)) (y:Bool),(runTd P C ops bf l i st tr y).run=some st'→Wk P (fun f args=>(C f args).run) ops bf l i st tr y st'
 | [],i,st,st',tr,y,h=>by simp [runTd,T.run] at h;subst h;exact .nil
 | o :: rest,i,st,st',tr,y,h=>by
  simp only [runTd] at h
  rcases guardT_run h with ⟨hw,h⟩ | ⟨hw,h⟩
  ·split at h
   ·simp [T.run] at h
   ·rename_i hc
    split at h
    ·rename_i vs hy
     split at h
     ·simp [T.run] at h
     ·obtain ⟨c,f,hop,hcc,hf,hvs,hn⟩:=yieldOf_spec hy
      exact .cons (isY:=true) (e:=⟨o.dst,.bool (st.bs st.out.length),none⟩) ⟨c,f,vs,st.bs st.out.length,hw,hop,hcc,hf,hvs,hn,rfl,rfl⟩ (fun _=>rfl) hc (runTd_wk rest _ _ st' _ _ h)
    ·obtain ⟨e,h1,h2⟩:=T.run_bind h
     rw [force_eq] at h2
     exact .cons (isY:=false) ⟨stepE_go hw h1,rfl⟩ (fun h=>by cases h) hc (by rw [Bool.or_false];exact runTd_wk rest _ _ st' _ _ h2)
  ·split at h
   ·simp [T.run] at h
   ·rename_i hc
    exact .cons (isY:=false) ⟨stepE_skip hw,rfl⟩ (fun h=>by cases h) hc (by rw [Bool.or_false];exact runTd_wk rest _ _ st' _ _ h)
theorem runTp_wk (hcl:∀ f args v,(C f args).run=some v→CC P f args v) {I:Inl} (hI:InlOk P I) {bf:List Nat}:∀ (l:List Oper) (i:Nat) (st st':St) (tr:List (Nat × Nat × Bool)),(runTp P C I ops bf l i st tr).run=some st'→WkQ P (fun f args=>(C f args).run) ops bf l i st tr st'
 | [],i,st,st',tr,h=>by simp [runTp,T.run] at h;subst h;exact .last .nil
 | o :: rest,i,st,st',tr,h=>by
  simp only [runTp] at h
  rcases guardT_run h with ⟨hw,h⟩ | ⟨hw,h⟩
  ·split at h
   ·rename_i t ht
    split at h
    ·rename_i hp
     obtain ⟨⟨v,st3⟩,h1,h2⟩:=T.run_bind h
     rw [forceS_eq,force_eq] at h2
     exact .piv (l1:=[]) (tr:=tr) .nil hp (trySp_piv hcl hI ht h1 hw) (runTp_wk hcl hI rest _ _ st' _ h2)
    ·simp [T.run] at h
   ·split at h
    ·simp [T.run] at h
    ·rename_i hc
     obtain ⟨e,h1,h2⟩:=T.run_bind h
     rw [force_eq] at h2
     exact .cons (stepE_go hw h1) hc (runTp_wk hcl hI rest _ _ st' _ h2)
  ·split at h
   ·simp [T.run] at h
   ·rename_i hc
    exact .cons (stepE_skip hw) hc (runTp_wk hcl hI rest _ _ st' _ h)
end
end Go.Proofs.YtkpligkggnjcoaaGreatDoor.Ev
