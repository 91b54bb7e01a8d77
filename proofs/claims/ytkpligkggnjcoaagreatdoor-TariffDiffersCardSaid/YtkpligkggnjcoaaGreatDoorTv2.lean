/- Parts of the proof, one behind the other: EvE. No conditions. -/
import Derived.Test.YtkpligkggnjcoaaGreatDoorTv1
import Derived.Maps.RangeRun
import Derived.Laws.Strings
/-! EvE -/
namespace Go.Proofs.YtkpligkggnjcoaaGreatDoor.Ev
open Go.RowKit
theorem replC_length (zs:List AV):∀ len,(replC zs len).length=len * zs.length
 | 0=>by simp [replC]
 | n+1=>by simp [replC,replC_length zs n,Nat.succ_mul,Nat.add_comm]
theorem replC_get (zs:List AV) (h0:0<zs.length):∀ (len i:Nat),i<len * zs.length→(replC zs len)[i]?=zs[i % zs.length]?
 | 0,i,h=>by simp at h
 | n+1,i,h=>by
  simp only [replC,List.getElem?_append]
  split
  ·rename_i hi
   rw [Nat.mod_eq_of_lt hi]
  ·rename_i hi
   rw [replC_get zs h0 n (i - zs.length) (by rw [Nat.succ_mul] at h;omega),← Nat.mod_eq_sub_mod (by omega)]
theorem zeroAs_rel {w:World} {A:Nat→Prop} {r:Rr} {c:CK} {x:AV} {v:Value} (h:VR w A r x v):VR w A r (zeroAs c x) v:=by
 cases c with
 | sl wd ks=>
  cases x with
  | nilsl=>
   cases h
   exact .xsl 0 0 (fun _ _=>.nilFunc) ⟨Nat.zero_le _,Nat.zero_le _⟩ (fun x h=>by cases h) (Nat.le_refl _) (fun h=>absurd h (Nat.lt_irrefl _)) (fun h=>absurd h (Nat.lt_irrefl _)) (fun h=>absurd h (Nat.lt_irrefl _))
  | _=>exact h
 | _=>exact h
theorem zerosAs_rel {w:World} {A:Nat→Prop} {r:Rr} {cs:List CK} {xs:List AV} {us:Array Value} (h:VRs w A r xs us):VRs w A r (zerosAs cs xs) us:=
 ⟨by rw [zerosAs_length];exact h.1,fun i y u hy hu=>by
  obtain ⟨x,c,hx,rfl⟩:=zerosAs_get _ _ _ _ hy
  exact zeroAs_rel (h.2 i x u hx hu)⟩
section
variable {P:Program} {w:World} {A:Nat→Prop} {r:Rr} {loc:Nat→Option Blk} {p:Operand→Option AV} {ev:Operand→Value} {nx:Nat} {o:Oper} {res:Res}
theorem xptr_inv {wd n row col:Nat} {get:Get AV} {v:Value} (h:VR w A r (.xptr wd n get row col) v) :
  ∃ (b o:Nat) (u:Nat→Nat→Value),v=.pointer (some ⟨b,o+(row * wd+col),none⟩)∧b<w.heap.size∧¬ A b∧(∀ i k,i<n→k<wd→w.cell? ⟨b,o+(i * wd+k),none⟩=some (u i k)) ∧
   (∀ i k,i<n→k<wd→VR w A noR (get i k) (u i k))∧row<n:=by
 cases h with
 | xptr u hb hA hc hv ho hrow=>subst ho;exact ⟨_,_,u,rfl,hb,hA,hc,hv,hrow⟩
theorem part_rel {t:TypeId} {cs:List AV} {us:Array Value} {off:Nat} {x:AV} (hc:VRs w A r cs us) (h:partAV P t cs off=some x):∃ v,(part t us off).run P w=.ok v w∧VR w A r x v:=by
 unfold partAV at h
 split at h
 ·rename_i n hagg hsz
  injection h with h;subst h
  refine ⟨_,by simp only [part,Sem.run_bind,run_isAgg' hagg,Result.andThen_ok,if_true,run_sizeOf' hsz,Sem.run_pure];rfl,.agg ?_ ?_⟩
  ·simp;have:=hc.1;omega
  ·intro i y u hy hu
   rw [List.getElem?_take] at hy
   split at hy
   ·rw [List.getElem?_drop] at hy
    rw [Array.getElem?_extract] at hu
    split at hu
    ·exact hc.2 _ y u hy hu
    ·simp at hu
   ·simp at hy
 ·rename_i n hagg hsz
  obtain ⟨u,hu,hr⟩:=hc.get h
  exact ⟨u,by simp only [part,Sem.run_bind,run_isAgg' hagg,Result.andThen_ok,Bool.false_eq_true,if_false,hu,Sem.run_pure],hr⟩
 ·simp at h
theorem eqFields_rel {rec:TypeId→AV→AV→Option Bool} {d:Nat} (hrec:∀ t x y b u v,rec t x y=some b→VR w A r x u→VR w A r y v→(Op.equalIn d t u v).run P w=.ok b w)
  {xs ys:List AV} {us vs:Array Value} (hx:VRs w A r xs us) (hy:VRs w A r ys vs):∀ (fs:List Field) (b:Bool),eqFieldsAV P rec xs ys fs=some b→(Op.eqFields d us vs fs).run P w=.ok b w
 | [],b,h=>by simp only [eqFieldsAV,Option.some.injEq] at h;subst h;simp only [Op.eqFields,Sem.run_pure]
 | f :: fs,b,h=>by
  unfold eqFieldsAV at h
  split at h
  ·rename_i a c hn ha hc
   obtain ⟨u,hu,ru⟩:=part_rel (P:=P) hx ha
   obtain ⟨v,hv,rv⟩:=part_rel (P:=P) hy hc
   have hn':f.name≠ "_":=by simpa using hn
   have step:(Op.eqFields d us vs (f :: fs)).run P w=((Op.equalIn d f.type u v).run P w).andThen fun q w'=>if (!q)=true then .ok false w' else (Op.eqFields d us vs fs).run P w':=by
    simp only [Op.eqFields,if_pos hn',Sem.run_bind,hu,hv,Result.andThen_ok,Sem.run_ite,Sem.run_pure]
   rw [step]
   cases hr:rec f.type a c with
   | none=>rw [hr] at h;cases fs<;>simp at h
   | some e=>
    rw [hr] at h
    rw [hrec _ _ _ _ _ _ hr ru rv,Result.andThen_ok]
    cases fs with
    | nil=>
     simp only [Option.some.injEq] at h;subst h
     cases e<;>simp [Op.eqFields]
    | cons g gs=>
     simp only at h
     cases hq:eqFieldsAV P rec xs ys (g :: gs) with
     | none=>rw [hq] at h;simp at h
     | some z=>
      rw [hq] at h;simp only [Option.some.injEq] at h;subst h
      have ih:=eqFields_rel hrec hx hy (g :: gs) z hq
      cases e with
      | false=>simp
      | true=>simpa using ih
  ·cases h
theorem eqElems_rel {rec:AV→AV→Option Bool} {d:Nat} {e n:TypeId} (hrec:∀ x y b u v,rec x y=some b→VR w A r x u→VR w A r y v→(Op.equalIn d e u v).run P w=.ok b w)
  {xs ys:List AV} {us vs:Array Value} (hx:VRs w A r xs us) (hy:VRs w A r ys vs):∀ (k i:Nat) (b:Bool),eqElemsAV P rec e n xs ys i k=some b →
   (do
    let q ← forIn (List.range' i k) ((none,()):Option Bool × Unit) fun j _=>do
     let __do_lift ← part e us (j * n)
     let __do_lift_1 ← part e vs (j * n)
     let __do_lift_2 ← Op.equalIn d e __do_lift __do_lift_1
     if (!__do_lift_2)=true then pure (ForInStep.done (some false,())) else do
      pure (ForInStep.yield (none,()))
    match q.fst with
     | some a=>pure a
     | none=>pure true:Sem Bool).run P w=.ok b w
 | 0,i,b,h=>by simp only [eqElemsAV,Option.some.injEq] at h;subst h;simp
 | k+1,i,b,h=>by
  unfold eqElemsAV at h
  split at h
  ·rename_i a c ha hc
   obtain ⟨u,hu,ru⟩:=part_rel (P:=P) hx ha
   obtain ⟨v,hv,rv⟩:=part_rel (P:=P) hy hc
   cases hr:rec a c with
   | none=>rw [hr] at h;cases k<;>simp at h
   | some f=>
    rw [hr] at h
    rw [List.range'_succ]
    simp only [List.forIn_cons,Sem.run_bind,hu,hv,Result.andThen_ok,hrec _ _ _ _ _ hr ru rv]
    cases k with
    | zero=>
     simp only [Option.some.injEq] at h;subst h
     cases f<;>simp
    | succ m=>
     simp only at h
     cases hq:eqElemsAV P rec e n xs ys (i+1) (m+1) with
     | none=>rw [hq] at h;simp at h
     | some z=>
      rw [hq] at h;simp only [Option.some.injEq] at h;subst h
      have ih:=eqElems_rel hrec hx hy (m+1) (i+1) z hq
      cases f with
      | false=>simp
      | true=>
       simp only [Sem.run_bind] at ih
       simpa using ih
  ·cases h
theorem eqAV_run:∀ (n:Nat) (t:TypeId) (x y:AV) (b:Bool) (u v:Value),eqAV P n t x y=some b→VR w A r x u→VR w A r y v→∀ d,n≤d→(Op.equalIn d t u v).run P w=.ok b w
 | 0,t,x,y,b,u,v,h,_,_,_,_=>by simp [eqAV] at h
 | n+1,t,x,y,b,u,v,h,hx,hy,d,hd=>by
  obtain ⟨d,rfl⟩:∃ e,d=e+1:=⟨d - 1,by omega⟩
  unfold eqAV at h
  split at h
  ·rename_i p q hu
   cases hx;cases hy
   simp only [Option.some.injEq] at h;subst h
   exact run_equalIn_bool' _ _ _ _ _ hu
  ·rename_i kk k p k' q hu
   split at h
   ·rename_i hk
    have hk:=of_decide_eq_true hk;subst hk
    cases hx;cases hy
    simp only [Option.some.injEq] at h;subst h
    exact run_equalIn_int _ _ _ _ _ _ _ hu
   ·cases h
  ·rename_i p q hu
   cases hx;cases hy
   simp only [Option.some.injEq] at h;subst h
   rw [run_equalIn_string _ _ _ _ _ hu]
   simp only [ByteArray.toList_eq]
  ·rename_i fields xs ys hu
   split at h
   ·rename_i hs
    cases hx with
    | agg hx1 hx2=>
     cases hy with
     | agg hy1 hy2=>
      have hf:P.fieldsOf t=fields:=by simp only [Program.fieldsOf,hu]
      rw [run_equalIn_struct w d t _ _ (by rw [hf];exact hu) hs,hf]
      exact eqFields_rel (fun t x y b u v h hx hy=>eqAV_run n t x y b u v h hx hy d (by omega)) ⟨hx1,hx2⟩ ⟨hy1,hy2⟩ _ _ h
   ·cases h
  ·rename_i len e xs ys hu
   split at h
   ·rename_i m hm
    cases hx with
    | agg hx1 hx2=>
     cases hy with
     | agg hy1 hy2=>
      have key:=eqElems_rel (P:=P) (n:=m) (fun x y b u v h hx hy=>eqAV_run n e x y b u v h hx hy d (by omega)) ⟨hx1,hx2⟩ ⟨hy1,hy2⟩ len 0 b h
      simp only [Op.equalIn,Sem.run_bind,run_underlying hu,Result.andThen_ok,run_sizeOf' hm]
      simp only [Sem.run_bind] at key
      simp at key ⊢
      refine Eq.trans (congrArg (Result.andThen _) (funext fun a=>funext fun w'=>?_)) key
      obtain ⟨o,_⟩:=a
      cases o<;>rfl
   ·cases h
  ·cases h
theorem fieldPlace_run {s:TypeId} {f off b c:Nat} (h:fieldPlaceAV P s f=some off):(Instr.fieldAt s (.pointer (some ⟨b,c,none⟩)) f).run P w=.ok (.pointer (some ⟨b,c+off,none⟩)) w:=by
 unfold fieldPlaceAV at h
 split at h
 ·rename_i fields hu
  split at h
  ·rename_i fd hf
   split at h
   ·simp at h
   ·rename_i n hne hsz
    injection h with h;subst h
    have hn:¬ n=0:=hne
    simp only [Instr.fieldAt,Sem.run_bind,run_underlying hu,Result.andThen_ok,hf,Instr.sureAddr,Sem.run_pure,fieldPlace,run_sizeOf' hsz,Sem.run_ite,hn,if_false,addr_add]
   ·simp at h
  ·simp at h
 ·simp at h
theorem ownLit_inv:∀ {len n:Nat} {pl:List (Nat × Operand)} {ps:List (Nat × AV)} {zs:List AV} {x:AV},ownLit len n pl ps zs=some x →
  len=1∧n=1∧∃ l c s0,x=.str l∧pl=[(0,.const c)]∧ps=[(0,.str l)]∧zs=[.str s0]:=by
 intro len n pl ps zs x h
 unfold ownLit at h
 split at h
 ·injection h with h;subst h
  exact ⟨rfl,rfl,_,_,_,rfl,rfl,rfl,rfl⟩
 ·simp at h
variable (hcx:Cx w A r loc p ev)
include hcx
theorem s_buildSlice {t:TypeId} {len:Nat} {parts:Array (Nat × Operand)} (hop:o.op=.buildSlice t len parts) (h:native P p loc nx o=some (true,res)):Does P w A r loc nx (execOp ev o) res:=by
 simp only [native,hop] at h
 split at h
 ·rename_i e hu
  split at h
  ·rename_i n zs ps hn hz hps
   split at h
   ·rename_i hcond0
    obtain ⟨g1,g2,g3⟩:=hcond0
    injection h with h;injection h with _ h;subst h;subst g1
    have hpe:parts.toList=[]:=by
     cases hl:parts.toList with
     | nil=>rfl
     | cons a l=>
      rw [hl] at hps
      obtain ⟨i,y⟩:=a
      simp only [mapParts] at hps
      (repeat' split at hps)<;>simp at hps
      subst hps;simp at g3
    have eparts:(parts.map fun (i,x)=>(i,ev x)).toList=[]:=by simp [hpe]
    obtain ⟨v,hzr,_⟩:=run_zero' (P:=P) (w:=w) (A:=A) (r:=r) hz
    refine ⟨rfl,none,w.heap.size+1,0,[],w.alloc (.cells #[] e),(fun b hb=>by cases hb),.inl ⟨rfl,rfl⟩,?_,World.ownsRow_lit w #[] 0 (Nat.zero_le _) (Nat.zero_le _) (by simp),(fun i k hi=>absurd hi (Nat.not_lt_zero _)),World.grownBy_alloc w _ none,(fun b hb=>.inr (by omega)),(fun h=>by omega),⟨Nat.le_refl _,Nat.zero_le _⟩,g2⟩
    simp only [execOp,hop,Instr.buildSlice,Sem.run_bind,run_underlying hu,Result.andThen_ok,run_sizeOf' hn,Nat.zero_mul,Nat.not_lt_zero,gt_iff_lt,if_true,if_false,Array.range_zero',Array.map_empty,eparts,Instr.fill,newRow,run_newObj,Sem.run_pure,World.alloc_eq]
    rfl
   split at h
   ·rename_i x hlit
    injection h with h;injection h with _ h;subst h
    obtain ⟨rfl,rfl,l0,c0,s0,rfl,hpl,rfl,rfl⟩:=ownLit_inv hlit
    obtain ⟨v,hzr,hzc⟩:=run_zero' (P:=P) (w:=w) (A:=A) (r:=r) hz
    obtain ⟨hl,hr⟩:=mapParts_rel hcx.val _ _ hps
    have eparts:(parts.map fun (i,x)=>(i,ev x)).toList=parts.toList.map fun (i,x)=>(i,ev x):=by simp
    have hzsz:v.cells.size=1:=by rw [← hzc.1];rfl
    have hbase:VRs w A r (replC [.str s0] 1) ((Array.range (1 * 1)).map (v.cells[· % v.cells.size]!)):=by
     refine ⟨by rw [replC_length];simp,fun i x u hx hu=>?_⟩
     have hi:i<1 * 1:=by have:=(List.getElem?_eq_some_iff.1 hx).1;rwa [replC_length] at this
     rw [replC_get [AV.str s0] (Nat.zero_lt_succ _) 1 i hi] at hx
     have hm:i % 1<v.cells.size:=by rw [hzsz];exact Nat.mod_lt _ (by decide)
     simp [hi,hzsz] at hu
     refine hzc.2 (i % 1) x u hx ?_
     have e0:i=0:=by omega
     subst e0
     rw [← hu,Array.getElem?_eq_getElem hm,getElem!_pos v.cells (0 % 1) hm]
    obtain ⟨us,hfill,hus⟩:=fill_rel (fun i=>some (i * 1,1)) _ _ _ [.str l0] _ rfl hbase hl hr
    have hsz:us.size=1:=by rw [← hus.1];rfl
    refine ⟨rfl,none,w.heap.size+1,1,us.toList,w.alloc (.cells us e),(fun b hb=>by cases hb),.inl ⟨rfl,rfl⟩,?_,World.ownsRow_lit w us 1 (Nat.zero_le _) (by decide) (by simp [hsz]),(fun i k hi hk=>?_),World.grownBy_alloc w _ none,(fun b hb=>.inr (by omega)),(fun h=>by omega),⟨Nat.le_refl _,by decide⟩,by decide⟩
    ·simp only [execOp,hop,Instr.buildSlice,Sem.run_bind,run_underlying hu,Result.andThen_ok,run_sizeOf' hn,Sem.run_ite,gt_iff_lt,hzr,eparts,hfill,newRow,run_newObj,Sem.run_pure,World.alloc_eq]
     rfl
    ·have e1:i=0:=by omega
     have e2:k=0:=by omega
     subst e1;subst e2
     have hg:us[0]?=some us[0]:=Array.getElem?_eq_getElem (by omega)
     have hv:=hus.2 0 (.str l0) _ (by rfl) hg
     generalize us[0]=u0 at hg hv
     refine ⟨u0,by simp [hg],?_⟩
     cases hv
     exact .str
   split at h
   ·rename_i hcond
    obtain ⟨h1,h2,h3⟩:=hcond
    obtain ⟨v,hzr,hzc⟩:=run_zero' (P:=P) (w:=w) (A:=A) (r:=r) hz
    obtain ⟨hl,hr⟩:=mapParts_rel hcx.val _ _ hps
    have eparts:(parts.map fun (i,x)=>(i,ev x)).toList=parts.toList.map fun (i,x)=>(i,ev x):=by simp
    cases hf:fillAV (fun i=>some (i * n,n)) (replC zs len) ps with
    | none=>simp [hf] at h
    | some cs=>
     simp [hf] at h;subst h
     have hzsz:v.cells.size=n:=by rw [← hzc.1];exact h1
     have hbase:VRs w A r (replC zs len) ((Array.range (len * n)).map (v.cells[· % v.cells.size]!)):=by
      refine ⟨by rw [replC_length,h1];simp,fun i x u hx hu=>?_⟩
      have hi:i<len * n:=by have:=(List.getElem?_eq_some_iff.1 hx).1;rwa [replC_length,h1] at this
      rw [replC_get zs (by omega) len i (by rw [h1];exact hi),h1] at hx
      have hm:i % n<v.cells.size:=by rw [hzsz];exact Nat.mod_lt _ h2
      simp [hi,hzsz] at hu
      refine hzc.2 (i % n) x u hx ?_
      rw [← hu,Array.getElem?_eq_getElem hm,getElem!_pos v.cells (i % n) hm]
     obtain ⟨us,hfill,hus⟩:=fill_rel _ ps _ _ cs _ hf hbase hl hr
     refine ⟨us,.slice (some ⟨w.heap.size,0,none⟩) len len,?_,hus,fun w' A' r' h'=>.lsl h' (by simp) ⟨Nat.le_refl _,by have:=Nat.le_mul_of_pos_right len h2;unfold maxL;omega⟩ (fun x hx=>by injection hx)⟩
     have hsm:¬ len * n > 2 ^ 24:=by omega
     rcases Nat.eq_zero_or_pos len with rfl | hpos
     ·simp only [Nat.zero_mul,Array.range_zero',Array.map_empty] at hfill
      simp only [execOp,hop,Instr.buildSlice,Sem.run_bind,run_underlying hu,Result.andThen_ok,run_sizeOf' hn,Nat.zero_mul,Nat.not_lt_zero,gt_iff_lt,if_true,if_false,Array.range_zero',Array.map_empty,eparts,hfill,newRow,run_newObj,Sem.run_pure,World.alloc_eq]
     ·have h0:¬ len * n=0:=Nat.ne_of_gt (Nat.mul_pos hpos h2)
      simp only [execOp,hop,Instr.buildSlice,Sem.run_bind,run_underlying hu,Result.andThen_ok,run_sizeOf' hn,Sem.run_ite,hsm,h0,if_false,hzr,eparts,hfill,newRow,run_newObj,Sem.run_pure,World.alloc_eq]
   ·simp at h
  ·simp at h
 ·simp at h
theorem s_nilCheck {x:Operand} (hop:o.op=.nilCheck x) (h:native P p loc nx o=some (true,res)):Does P w A r loc nx (execOp ev o) res:=by
 simp only [native,hop] at h
 split at h
 ·rename_i j v wd row col hx
  have hx':=hcx.val _ _ hx
  simp at h;subst h
  generalize hev:ev x=z at hx'
  cases hx' with
  | optr h1 h2 h3 h4=>exact does_val (by simp only [execOp,hop,hev,Sem.run_pure]) (.optr h1 h2 h3 h4)
 ·rename_i j wd row col hx
  obtain ⟨b,hb,hv⟩:=lptr_inv (hcx.val _ _ hx)
  simp at h;subst h
  exact does_val (by simp only [execOp,hop,hv,Sem.run_pure]) (.lptr hb rfl)
 ·rename_i wd n get row col hx
  have hx':=hcx.val _ _ hx
  obtain ⟨b,oo,u,hv,_⟩:=xptr_inv hx'
  simp at h;subst h
  rw [hv] at hx'
  exact does_val (by simp only [execOp,hop,hv,Sem.run_pure]) hx'
 ·simp at h
theorem s_fieldAddr {s:TypeId} {x:Operand} {f:Nat} (hop:o.op=.fieldAddr s x f) (h:native P p loc nx o=some (true,res)):Does P w A r loc nx (execOp ev o) res:=by
 simp only [native,hop] at h
 split at h
 ·rename_i j v wd row col off hx hf
  have hx':=hcx.val _ _ hx
  simp at h;subst h
  generalize hev:ev x=z at hx'
  cases hx' with
  | @optr _ _ _ _ _ _ n b o' h1 h2 h3 h4=>
   exact does_val (v:=.pointer (some ⟨b,o'+off,none⟩)) (by simp only [execOp,hop,hev,Sem.run_bind,fieldPlace_run hf,Result.andThen_ok,Sem.run_pure]) (.optr h1 h2 h3 (by omega))
 ·rename_i j wd row col off hx hf
  obtain ⟨b,hb,hv⟩:=lptr_inv (hcx.val _ _ hx)
  simp at h;subst h
  exact does_val (v:=.pointer (some ⟨b,row * wd+col+off,none⟩)) (by simp only [execOp,hop,hv,Sem.run_bind,fieldPlace_run hf,Result.andThen_ok,Sem.run_pure]) (.lptr hb (by omega))
 ·rename_i wd n get row col off hx hf
  obtain ⟨b,oo,u,hv,h1,h2,h3,h4,h5⟩:=xptr_inv (hcx.val _ _ hx)
  simp at h;subst h
  exact does_val (v:=.pointer (some ⟨b,oo+(row * wd+col)+off,none⟩)) (by simp only [execOp,hop,hv,Sem.run_bind,fieldPlace_run hf,Result.andThen_ok,Sem.run_pure]) (.xptr u h1 h2 h3 h4 (by omega) h5)
 ·simp at h
theorem s_field {s:TypeId} {x:Operand} {f:Nat} (hop:o.op=.field s x f) (h:native P p loc nx o=some (true,res)):Does P w A r loc nx (execOp ev o) res:=by
 simp only [native,hop] at h
 split at h
 ·rename_i cs fields hx hu
  split at h
  ·rename_i fd hf
   have hx':=hcx.val _ _ hx
   generalize hev:ev x=z at hx'
   cases hx' with
   | agg hl h1=>
    rename_i us
    cases hp:partAV P fd.type cs fd.offset with
    | none=>simp [hp] at h
    | some y=>
     simp [hp] at h;subst h
     obtain ⟨v,hr,hvr⟩:=part_rel (P:=P) ⟨hl,h1⟩ hp
     exact does_val (by simp only [execOp,hop,hev,Instr.field,Sem.run_bind,run_underlying hu,Result.andThen_ok,hf,asAgg,Sem.run_pure,hr]) hvr
  ·simp at h
 ·simp at h
omit hcx in
theorem ba_get (l:List UInt8) (i:Nat) (h:i<l.length):(ByteArray.mk l.toArray)[i]?=some l[i]:=by
 have h':i<(ByteArray.mk l.toArray).size:=by show i<l.toArray.size;simpa using h
 rw [getElem?_pos (ByteArray.mk l.toArray) i h']
 rfl
omit hcx in
theorem ba_app (a b:List UInt8):(ByteArray.mk a.toArray) ++ (ByteArray.mk b.toArray)=ByteArray.mk (a ++ b).toArray:=by
 apply ByteArray.ext
 simp
omit hcx in
theorem ba_extract (a:List UInt8) (i j:Nat):(ByteArray.mk a.toArray).extract i j=ByteArray.mk ((a.take j).drop i).toArray:=by
 apply ByteArray.ext
 simp [List.drop_take]
theorem strEq_run {t:TypeId} {x y:Operand} {c:Bool} (h:strEq P t (p x) (p y)=some c):∃ a b:List UInt8,ev x=.string ⟨a.toArray⟩∧ev y=.string ⟨b.toArray⟩∧c=(a == b):=by
 unfold strEq at h
 split at h
 ·rename_i a b hx hy
  split at h
  ·injection h with h;subst h
   have hx':=hcx.val _ _ hx
   have hy':=hcx.val _ _ hy
   generalize ev x=z at hx' ⊢
   generalize ev y=u at hy' ⊢
   cases hx';cases hy'
   exact ⟨_,_,rfl,rfl,rfl⟩
  ·cases h
 ·cases h
theorem s_index {t:TypeId} {x ix:Operand} (hop:o.op=.index t x ix) (h:native P p loc nx o=some (true,res)):Does P w A r loc nx (execOp ev o) res:=by
 simp only [native,hop] at h
 split at h
 ·rename_i cs k i len e hx hix hu
  split at h
  ·rename_i n hn
   have hx':=hcx.val _ _ hx
   have hi':=hcx.val _ _ hix
   generalize hev:ev x=z at hx'
   generalize hei:ev ix=zi at hi'
   cases hi'
   cases hx' with
   | agg hl h1=>
    rename_i us
    cases hp:partAV P e cs (i.toNat * n) with
    | none=>simp [hp] at h
    | some y=>
     simp [hp] at h
     obtain ⟨hc,h⟩:=h
     subst h
     obtain ⟨v,hr,hvr⟩:=part_rel (P:=P) ⟨hl,h1⟩ hp
     exact does_val (by simp only [execOp,hop,hev,hei,Instr.index,asIntOf,Sem.run_bind,Sem.run_pure,run_underlying hu,Result.andThen_ok,Sem.run_ite,hc,and_self,if_true,run_sizeOf' hn,hr]) hvr
  ·simp at h
 ·rename_i l k i hx hix hu
  have hx':=hcx.val _ _ hx
  have hi':=hcx.val _ _ hix
  generalize hev:ev x=z at hx'
  generalize hei:ev ix=zi at hi'
  cases hi'
  cases hx'
  injection h with h;injection h with hc h;subst h
  obtain ⟨hc1,hc2⟩:=of_decide_eq_true hc
  have hlt:i.toNat<l.length:=by omega
  have hg:=ba_get l i.toNat hlt
  refine does_val (v:=.int .u8 (byteAt l i.toNat)) ?_ .int
  have hb:byteAt l i.toNat=(l[i.toNat].toNat:Int):=by unfold byteAt;rw [List.getElem?_eq_getElem hlt];rfl
  rw [hb]
  simp only [execOp,hop,hev,hei,Instr.index,asIntOf,Sem.run_bind,Sem.run_pure,run_underlying hu,Result.andThen_ok,hc1,if_true,hg]
 ·simp at h
theorem s_indexAddr {t:TypeId} {x ix:Operand} (hop:o.op=.indexAddr t x ix) (h:native P p loc nx o=some (true,res)):Does P w A r loc nx (execOp ev o) res:=by
 simp only [native,hop] at h
 split at h
 ·rename_i j wd row col k i len e hx hix hu
  split at h
  ·rename_i n hn
   obtain ⟨b,hb,hv⟩:=lptr_inv (hcx.val _ _ hx)
   have hi':=hcx.val _ _ hix
   generalize hei:ev ix=zi at hi'
   cases hi'
   simp at h
   obtain ⟨hc,h⟩:=h
   subst h
   exact does_val (v:=.pointer (some ⟨b,row * wd+col+i.toNat * n,none⟩)) (by simp only [execOp,hop,hv,hei,Instr.indexAt,asIntOf,Sem.run_bind,Sem.run_pure,run_underlying hu,Result.andThen_ok,Instr.sureAddr,Sem.run_ite,hc,and_self,if_true,run_sizeOf' hn,addr_add]) (.lptr hb (by omega))
  ·simp at h
 ·rename_i wd m get row col k i len e hx hix hu
  split at h
  ·rename_i n hn
   obtain ⟨b,oo,u,hv,h1,h2,h3,h4,h5⟩:=xptr_inv (hcx.val _ _ hx)
   have hi':=hcx.val _ _ hix
   generalize hei:ev ix=zi at hi'
   cases hi'
   simp at h
   obtain ⟨hc,h⟩:=h
   subst h
   exact does_val (v:=.pointer (some ⟨b,oo+(row * wd+col)+i.toNat * n,none⟩)) (by simp only [execOp,hop,hv,hei,Instr.indexAt,asIntOf,Sem.run_bind,Sem.run_pure,run_underlying hu,Result.andThen_ok,Instr.sureAddr,Sem.run_ite,hc,and_self,if_true,run_sizeOf' hn,addr_add]) (.xptr u h1 h2 h3 h4 (by omega) h5)
  ·simp at h
 ·rename_i j wd row col len cap k i e hx hix hu
  split at h
  ·rename_i n hn
   split at h
   ·rename_i hnw
    have hx':=hcx.val _ _ hx
    have hi':=hcx.val _ _ hix
    generalize hev:ev x=z at hx'
    generalize hei:ev ix=zi at hi'
    cases hi'
    cases hx' with
    | lsl hb ho hl hcap=>
     subst ho;subst hnw
     simp at h
     obtain ⟨hc,h⟩:=h
     subst h
     rename_i bb cc
     exact does_val (v:=.pointer (some ⟨bb,row * n+col+i.toNat * n,none⟩)) (by simp only [execOp,hop,hev,hei,Instr.indexAt,asIntOf,Sem.run_bind,Sem.run_pure,run_underlying hu,Result.andThen_ok,Sem.run_ite,hc,and_self,if_true,run_sizeOf' hn,addr_add]) (.lptr hb (by rw [Nat.add_mul];omega))
   ·simp at h
  ·simp at h
 ·rename_i wd m get row len cap k i e hx hix hu
  split at h
  ·rename_i n hn
   split at h
   ·rename_i hnw
    have hx':=hcx.val _ _ hx
    have hi':=hcx.val _ _ hix
    generalize hev:ev x=z at hx'
    generalize hei:ev ix=zi at hi'
    cases hi'
    cases hx' with
    | xsl b oo u hl hcap hm ha hcc hv=>
     simp at h
     obtain ⟨hc,h⟩:=h
     subst h
     have h0:0<len:=by omega
     obtain ⟨ea,hb,hA⟩:=ha h0
     subst ea
     subst hnw
     exact does_val (v:=.pointer (some ⟨b,oo+row * n+i.toNat * n,none⟩)) (by simp only [execOp,hop,hev,hei,Instr.indexAt,asIntOf,Sem.run_bind,Sem.run_pure,run_underlying hu,Result.andThen_ok,Sem.run_ite,hc,and_self,if_true,run_sizeOf' hn,addr_add])
      (.xptr u hb hA (hcc h0) (hv h0) (by rw [Nat.add_mul];omega) (by omega))
   ·simp at h
  ·simp at h
 ·rename_i j v len k i e hx hix hu
  split at h
  ·rename_i n hn
   have hx':=hcx.val _ _ hx
   have hi':=hcx.val _ _ hix
   generalize hev:ev x=z at hx'
   generalize hei:ev ix=zi at hi'
   cases hi'
   cases hx' with
   | @osl _ _ _ _ q c he hc hn' h0 hl=>
    simp at h
    obtain ⟨hcd,h⟩:=h
    subst h
    obtain ⟨b,rfl⟩:∃ b,q=b+1:=by
     cases q with
     | zero=>have:=(h0 rfl).1;omega
     | succ b=>exact ⟨b,rfl⟩
    exact does_val (v:=.pointer (some ⟨b,0+i.toNat * n,none⟩)) (by simp only [execOp,hop,hev,hei,slBase,Instr.indexAt,asIntOf,Sem.run_bind,Sem.run_pure,run_underlying hu,Result.andThen_ok,Sem.run_ite,hcd,and_self,if_true,run_sizeOf' hn,addr_add]) (.optr he hn' (by omega) (by omega))
  ·simp at h
 ·rename_i j v wd row len k i e hx hix hu
  split at h
  ·rename_i n hn
   split at h
   ·rename_i hnw
    have hx':=hcx.val _ _ hx
    have hi':=hcx.val _ _ hix
    generalize hev:ev x=z at hx'
    generalize hei:ev ix=zi at hi'
    cases hi'
    cases hx' with
    | @oss _ _ _ _ _ _ m c cf a hn' hle hl ha hcf=>
     simp at h
     obtain ⟨hcd,h⟩:=h
     subst h;subst hnw
     obtain ⟨b,h1,h2⟩:=ha (by omega)
     subst h2
     exact does_val (v:=.pointer (some ⟨b,row * n+i.toNat * n,none⟩)) (by simp only [execOp,hop,hev,hei,Instr.indexAt,asIntOf,Sem.run_bind,Sem.run_pure,run_underlying hu,Result.andThen_ok,Sem.run_ite,hcd,and_self,if_true,run_sizeOf' hn,addr_add]) (.optr h1 hn' (by omega) (by rw [Nat.add_mul];omega))
   ·simp at h
  ·simp at h
 ·simp at h
theorem s_makeFunc {f:Fn} {xs ys:Array Operand} (hop:o.op=.makeFunc f xs ys) (h:native P p loc nx o=some (true,res)):Does P w A r loc nx (execOp ev o) res:=by
 simp only [native,hop] at h
 split at h
 ·rename_i us vs hu hv
  simp at h;subst h
  have h1:=mapEv_rel hcx.val _ _ hu
  have h2:=mapEv_rel hcx.val _ _ hv
  have e1:(xs.toList.map ev).toArray=xs.map ev:=Array.ext' (by simp)
  have e2:(ys.toList.map ev).toArray=ys.map ev:=Array.ext' (by simp)
  rw [e1] at h1
  rw [e2] at h2
  exact does_val (v:=.func f (xs.map ev) (ys.map ev)) (by simp only [execOp,hop,Instr.makeFunc,Sem.run_bind,Sem.run_pure,Result.andThen_ok]) (.fn h1.1 h2.1 h1.2 h2.2)
 ·simp at h
theorem s_extract {x:Operand} {i:Nat} (hop:o.op=.extract x i) (h:native P p loc nx o=some (true,res)):Does P w A r loc nx (execOp ev o) res:=by
 simp only [native,hop] at h
 split at h
 ·rename_i vs hx
  have hx':=hcx.val _ _ hx
  generalize hev:ev x=z at hx'
  cases hx' with
  | tup hl h1=>
   rename_i us
   cases hv:vs[i]? with
   | none=>simp [hv] at h
   | some y=>
    simp [hv] at h;subst h
    obtain ⟨u,hu,hr⟩:=VRs.get (w:=w) (A:=A) (r:=r) (us:=us) ⟨hl,h1⟩ hv
    exact does_val (by simp only [execOp,hop,hev,Instr.extract,hu,Sem.run_bind,Sem.run_pure,Result.andThen_ok]) hr
 ·simp at h
theorem eqVals_run {t:TypeId} {x y:Operand} {c:Bool} (h:eqVals P t (p x) (p y)=some c) :
  ∃ us vs,ev x=.agg us∧ev y=.agg vs∧P.eqGuardType P.depth t=false∧(Op.equalIn 10000 t (.agg us) (.agg vs)).run P w=.ok c w:=by
 unfold eqVals at h
 split at h
 ·rename_i cs ds hx hy
  split at h
  ·rename_i hg
   have hx':=hcx.val _ _ hx
   have hy':=hcx.val _ _ hy
   generalize ev x=z at hx' ⊢
   generalize ev y=u at hy' ⊢
   have key:=eqAV_run (P:=P) 20 t _ _ c _ _ h hx' hy' 10000 (by omega)
   cases hx' with
   | agg hx1 hx2=>
    cases hy' with
    | agg hy1 hy2=>exact ⟨_,_,rfl,rfl,hg,key⟩
  ·cases h
 ·cases h
omit hcx in
theorem run_equalIn_nil {t e:TypeId} (hu:P.underlying t=some (.slice e)) (d:Nat) (a:Addr) (n c:Nat):(Op.equalIn (d+1) t (.slice (some a) n c) (.slice none 0 0)).run P w=.ok false w:=by
 simp [Op.equalIn,run_underlying hu]
theorem nilCmp_run {t:TypeId} {x y:Operand} (h:nilCmp P t (p x) (p y)=some true):∃ e a n c,P.underlying t=some (.slice e)∧ev x=.slice (some a) n c∧ev y=.slice none 0 0:=by
 unfold nilCmp at h
 split at h
 ·rename_i v hx hy
  split at h
  ·rename_i e hu
   have hy':=hcx.val _ _ hy
   have hx':=hcx.val _ _ hx
   generalize hew:ev y=u at hy'
   generalize hev:ev x=z at hx'
   cases hy'
   split at h
   ·injection h with h
    have h0:=Nat.le_of_ble_eq_true h
    cases hx' with
    | xsl b o u hl hcap hn ha hc hv=>obtain ⟨e1,_⟩:=ha h0;subst e1;exact ⟨_,_,_,_,hu,rfl,rfl⟩
   ·injection h with h
    have h0:=Nat.le_of_ble_eq_true h
    cases hx' with
    | @osl _ _ _ _ e' c he hc hn hz hl=>
     cases e' with
     | zero=>have:=(hz rfl).1;omega
     | succ b=>exact ⟨_,_,_,_,hu,rfl,rfl⟩
   ·cases h
  ·cases h
 ·cases h
omit hcx in
theorem run_equalIn_ptr {t e:TypeId} (hu:P.underlying t=some (.pointer e)) (d:Nat) (a:Addr):(Op.equalIn (d+1) t (.pointer (some a)) (.pointer none)).run P w=.ok false w:=by
 simp [Op.equalIn,Sem.run_bind,run_underlying hu]
omit hcx in
theorem run_equalIn_ifc {t tx:TypeId} {ms:Array (String × TypeId)} {u:Value} (hu:P.underlying t=some (.interface ms)) (d:Nat):(Op.equalIn (d+1) t (.iface tx u) .nilIface).run P w=.ok false w:=by
 simp [Op.equalIn,Sem.run_bind,run_underlying hu]
theorem ptrNil_run {t:TypeId} {x y:Operand} (h:ptrNil P t (p x) (p y)=true):(∃ e a,P.underlying t=some (.pointer e)∧ev x=.pointer (some a)∧ev y=.pointer none)∨∃ ms tx u,P.underlying t=some (.interface ms)∧ev x=.iface tx u∧ev y=.nilIface:=by
 unfold ptrNil at h
 split at h
 ·rename_i v hx hy
  split at h
  ·rename_i e hu
   have hy':=hcx.val _ _ hy
   have hx':=hcx.val _ _ hx
   generalize hew:ev y=u at hy'
   generalize hev:ev x=z at hx'
   cases hy'
   split at h
   ·cases hx';exact .inl ⟨_,_,hu,rfl,rfl⟩
   ·cases hx';exact .inl ⟨_,_,hu,rfl,rfl⟩
   ·cases hx';exact .inl ⟨_,_,hu,rfl,rfl⟩
   ·cases h
  ·cases h
 ·rename_i hx hy
  split at h
  ·rename_i ms hu
   have hy':=hcx.val _ _ hy
   have hx':=hcx.val _ _ hx
   generalize hew:ev y=u at hy'
   generalize hev:ev x=z at hx'
   cases hy';cases hx'
   exact .inr ⟨_,_,_,hu,rfl,rfl⟩
  ·cases h
 ·cases h
theorem s_div {b:BinOp} {t t':TypeId} {x y:Operand} (hop:o.op=.binOp b t x y t') (h:native P p loc nx o=some (true,res)):Does P w A r loc nx (execOp ev o) res:=by
 simp only [native,hop] at h
 split at h
 ·split at h
  ·rename_i k m k' n hx hy
   split at h
   ·rename_i hk
    have hk':k=k':=by simpa using hk
    subst hk'
    injection h with h;injection h with h1 h2;subst h2
    have hn:¬ n=0:=by simpa using h1
    have hx':=hcx.val _ _ hx
    have hy':=hcx.val _ _ hy
    generalize hev:ev x=z at hx'
    generalize hew:ev y=u at hy'
    cases hx';cases hy'
    refine does_val (v:=.int k (k.wrap (m.tdiv n))) ?_ .int
    simp [execOp,hop,hev,hew,eqGuard,binOp,Op.intDiv,hn]
   ·simp at h
  ·cases h
 ·split at h
  ·rename_i k m k' n hx hy
   split at h
   ·rename_i hk
    have hk':k=k':=by simpa using hk
    subst hk'
    injection h with h;injection h with h1 h2;subst h2
    have hn:¬ n=0:=by simpa using h1
    have hx':=hcx.val _ _ hx
    have hy':=hcx.val _ _ hy
    generalize hev:ev x=z at hx'
    generalize hew:ev y=u at hy'
    cases hx';cases hy'
    refine does_val (v:=.int k (m.tmod n)) ?_ .int
    simp [execOp,hop,hev,hew,eqGuard,binOp,Op.intDiv,hn]
   ·simp at h
  ·cases h
 ·split at h
  ·rename_i g hn
   injection h with h;injection h with h1 h2;subst h1;subst h2
   obtain ⟨e,a,n,c,hu,hev,hew⟩:=nilCmp_run hcx hn
   have hq:=run_equalIn_nil (P:=P) (w:=w) hu 9999 a n c
   exact does_val (v:=.bool false) (by simp [execOp,hop,hev,hew,eqGuard,binOp,Op.equal,Op.maxDepth,hq]) .bool
  split at h
  ·rename_i hn
   injection h with h;injection h with h1 h2;subst h2
   rcases ptrNil_run hcx hn with ⟨e,a,hu,hev,hew⟩ | ⟨ms,tx,u,hu,hev,hew⟩
   ·have hq:=run_equalIn_ptr (P:=P) (w:=w) hu 9999 a
    exact does_val (v:=.bool false) (by simp [execOp,hop,hev,hew,eqGuard,binOp,Op.equal,Op.maxDepth,hq]) .bool
   ·have hq:=run_equalIn_ifc (P:=P) (w:=w) (tx:=tx) (u:=u) hu 9999
    exact does_val (v:=.bool false) (by simp [execOp,hop,hev,hew,eqGuard,binOp,Op.equal,Op.maxDepth,hq]) .bool
  split at h
  ·rename_i c hc
   injection h with h;injection h with h1 h2;subst h2
   obtain ⟨a,b,hev,hew,rfl⟩:=strEq_run hcx hc
   exact does_val (v:=.bool (a == b)) (by simp [execOp,hop,hev,hew,eqGuard,binOp,Op.stringOp]) .bool
  cases he:eqVals P t (p x) (p y) with
  | none=>rw [he] at h;simp at h
  | some c=>
   rw [he] at h;simp only [Option.map_some,Option.some.injEq,Prod.mk.injEq,true_and] at h;subst h
   obtain ⟨us,vs,hev,hew,hg,key⟩:=eqVals_run hcx he
   refine does_val (v:=.bool c) ?_ .bool
   simp only [execOp,hop,hev,hew,Sem.run_bind,run_eqGuard_agg w _ t x y _ _ hg,Result.andThen_ok,run_eql_struct,key,Sem.run_pure]
 ·split at h
  ·rename_i g hn
   injection h with h;injection h with h1 h2;subst h1;subst h2
   obtain ⟨e,a,n,c,hu,hev,hew⟩:=nilCmp_run hcx hn
   have hq:=run_equalIn_nil (P:=P) (w:=w) hu 9999 a n c
   exact does_val (v:=.bool true) (by simp [execOp,hop,hev,hew,eqGuard,binOp,Op.equal,Op.maxDepth,hq]) .bool
  split at h
  ·rename_i hn
   injection h with h;injection h with h1 h2;subst h2
   rcases ptrNil_run hcx hn with ⟨e,a,hu,hev,hew⟩ | ⟨ms,tx,u,hu,hev,hew⟩
   ·have hq:=run_equalIn_ptr (P:=P) (w:=w) hu 9999 a
    exact does_val (v:=.bool true) (by simp [execOp,hop,hev,hew,eqGuard,binOp,Op.equal,Op.maxDepth,hq]) .bool
   ·have hq:=run_equalIn_ifc (P:=P) (w:=w) (tx:=tx) (u:=u) hu 9999
    exact does_val (v:=.bool true) (by simp [execOp,hop,hev,hew,eqGuard,binOp,Op.equal,Op.maxDepth,hq]) .bool
  split at h
  ·rename_i c hc
   injection h with h;injection h with h1 h2;subst h2
   obtain ⟨a,b,hev,hew,rfl⟩:=strEq_run hcx hc
   exact does_val (v:=.bool (!(a == b))) (by simp [execOp,hop,hev,hew,eqGuard,binOp,Op.stringOp]) .bool
  cases he:eqVals P t (p x) (p y) with
  | none=>rw [he] at h;simp at h
  | some c=>
   rw [he] at h;simp only [Option.map_some,Option.some.injEq,Prod.mk.injEq,true_and] at h;subst h
   obtain ⟨us,vs,hev,hew,hg,key⟩:=eqVals_run hcx he
   refine does_val (v:=.bool (!c)) ?_ .bool
   simp only [execOp,hop,hev,hew,Sem.run_bind,run_eqGuard_agg w _ t x y _ _ hg,Result.andThen_ok,run_neq_struct,key,Sem.run_pure]
 ·split at h
  ·rename_i a b hx hy hu
   injection h with h;injection h with h1 h2;subst h2
   have hl:=of_decide_eq_true h1
   have hx':=hcx.val _ _ hx
   have hy':=hcx.val _ _ hy
   generalize hev:ev x=z at hx'
   generalize hew:ev y=u at hy'
   cases hx';cases hy'
   refine does_val (v:=.string ⟨(a ++ b).toArray⟩) ?_ .str
   have hs:¬ (((ByteArray.mk a.toArray).size+(ByteArray.mk b.toArray).size:Nat):Int) > IntKind.i64.max:=by
    have e1:(ByteArray.mk a.toArray).size=a.length:=by show a.toArray.size=_;simp
    have e2:(ByteArray.mk b.toArray).size=b.length:=by show b.toArray.size=_;simp
    rw [e1,e2]
    have:IntKind.i64.max=9223372036854775807:=by decide
    rw [this];unfold maxL at hl;omega
   simp only [execOp,hop,hev,hew,eqGuard,binOp,Op.stringOp,Sem.run_bind,ite_self,Sem.run_pure,Result.andThen_ok,if_neg hs,ba_app]
  ·cases h
 ·cases h
omit hcx in
theorem oneCK_at {l:List CK}:∀ {n k:Nat},oneCK l n=true→k<n→ckAt l k≠.any
 | 0,k,_,hk=>absurd hk (Nat.not_lt_zero _)
 | n+1,k,h,hk=>by
  simp only [oneCK,Bool.and_eq_true] at h
  by_cases e:k=n
  ·subst e
   intro e;rw [e] at h;simp at h
  ·exact oneCK_at h.2 (by omega)
omit hcx in
theorem fullCK_one {l:List CK}:∀ {n:Nat},fullCK l n=true→oneCK l n=true
 | 0,_=>rfl
 | n+1,h=>by
  simp only [fullCK,oneCK,Bool.and_eq_true] at h ⊢
  refine ⟨?_,fullCK_one h.2⟩
  cases hc:ckAt l n<;>rw [hc] at h<;>simp at h ⊢
omit hcx in
theorem fullCK_sl {l:List CK}:∀ {n k:Nat},fullCK l n=true→k<n→∀ a b,ckAt l k≠.sl a b
 | 0,k,_,hk=>absurd hk (Nat.not_lt_zero _)
 | n+1,k,h,hk=>by
  simp only [fullCK,Bool.and_eq_true] at h
  by_cases e:k=n
  ·subst e
   intro a b e;rw [e] at h;simp at h
  ·exact fullCK_sl h.2 (by omega)
omit hcx in
theorem conf_one {r':Rr} {c:CK} {x:AV} {v:Value} (hc:c≠.any) (h:VR w A r' (conf c x) v):v.oneCell'=true:=by
 cases c with
 | any=>exact absurd rfl hc
 | int k=>simp only [conf] at h;cases h;rfl
 | bool=>simp only [conf] at h;cases h;rfl
 | str=>simp only [conf] at h;cases h;rfl
 | sl=>
  simp only [conf,sliceOf] at h
  cases h;rfl
omit hcx in
theorem rows_one {g:Get AV} {m wd:Nat} {news:List Value} (hwd:0<wd) (hf:oneCK g.tag wd=true) (hl:news.length=m * wd) (hr:RowsR w A g m wd news):∀ u ∈ news,u.oneCell'=true:=by
 intro u hu
 obtain ⟨j,hj,rfl⟩:=List.getElem_of_mem hu
 obtain ⟨u',hu',hv⟩:=hr (j / wd) (j % wd) (Nat.div_lt_of_lt_mul (by rw [Nat.mul_comm,← hl];exact hj)) (Nat.mod_lt _ hwd)
 have e:j / wd * wd+j % wd=j:=Nat.div_add_mod' j wd
 rw [e,List.getElem?_eq_getElem hj] at hu'
 injection hu' with hu';subst hu'
 exact conf_one (oneCK_at hf (Nat.mod_lt _ hwd)) hv
omit hcx in
theorem idx_lt {i n wd k:Nat} (hi:i<n) (hk:k<wd):i * wd+k<n * wd:=by
 have:(i+1) * wd≤n * wd:=Nat.mul_le_mul_right _ hi
 rw [Nat.succ_mul] at this;omega
omit hcx in
theorem idx_mod (i:Nat) {k wd:Nat} (hk:k<wd):(i * wd+k) % wd=k:=by
 rw [Nat.add_comm,Nat.add_mul_mod_self_right];exact Nat.mod_eq_of_lt hk
theorem rows_run {y:AV} {val:Value} {wd m:Nat} {g:Get AV} (hwd:0<wd) (hy:VR w A r y val) (h:rowsAV loc wd y=some (m,g)) :
  ∃ a c news,val=.slice a m c∧(news:List Value).length=m * wd∧RowsR w A g m wd news∧(∀ u ∈ news,u.oneCell'=true)∧(0<m→∃ ad,a=some ad∧∀ (j:Nat) u,news[j]?=some u→w.cell? (ad.add j)=some u):=by
 cases hy with
 | nilsl=>
  simp [rowsAV] at h
  obtain ⟨e1,e2⟩:=h
  subst e1;subst e2
  exact ⟨none,0,[],rfl,by simp,fun i k hi=>absurd hi (Nat.not_lt_zero _),by simp,fun h=>absurd h (Nat.lt_irrefl _)⟩
 | @lsl _ j wd' row col b off len c cap hb ho hl hcap=>
  simp only [rowsAV] at h
  split at h
  ·rename_i t cs hloc
   split at h
   ·rename_i hc
    obtain ⟨e1,e2,hle,hno,hcell⟩:=hc
    subst e1;subst e2
    simp only [Option.some.injEq,Prod.mk.injEq] at h
    obtain ⟨e1,e2⟩:=h
    subst e1;subst e2
    obtain ⟨b',hb',us,hh,hvs⟩:=hcx.mem _ _ hloc
    rw [hb] at hb';injection hb' with hb';subst hb'
    have hlen:=hvs.1
    have hle':row * wd'+len * wd'≤us.size:=by rw [← hlen,← Nat.add_mul];exact hle
    refine ⟨_,c,(us.toList.drop (row * wd')).take (len * wd'),rfl,by simp;omega,fun i k hi hk=>?_,fun u hu=>?_,fun _=>⟨_,rfl,fun j u hu=>?_⟩⟩
    ·have hlt:=idx_lt hi hk
     have e:(row+i) * wd'+k=row * wd'+(i * wd'+k):=by rw [Nat.add_mul,Nat.add_assoc]
     have hin:row * wd'+(i * wd'+k)<cs.length:=by omega
     obtain ⟨x,hx⟩:∃ x,cs[row * wd'+(i * wd'+k)]?=some x:=⟨_,List.getElem?_eq_getElem hin⟩
     obtain ⟨u,hu,hv⟩:=hvs.get hx
     refine ⟨u,?_,?_⟩
     ·rw [List.getElem?_take,if_pos hlt,List.getElem?_drop,← hu];simp
     ·show VR w A noR (conf (ckAt (tagsOf wd' cs) k) ((cs[(row+i) * wd'+k]?).getD .top)) u
      have ht:=tagsOf_conf (wd:=wd') (row * wd'+(i * wd'+k)) x hx
      rw [← e,idx_mod _ hk] at ht
      rw [e,hx,Option.getD_some,ht]
      exact hv.weaken0 (List.all_eq_true.1 hno _ (List.mem_of_getElem? hx)) (fun _ h=>h)
    ·have hu:=List.mem_of_mem_drop (List.mem_of_mem_take hu)
     obtain ⟨j,hj⟩:=List.mem_iff_getElem?.1 hu
     rw [Array.getElem?_toList] at hj
     have hj2:j<us.size:=(Array.getElem?_eq_some_iff.1 hj).1
     have hj3:j<cs.length:=by omega
     exact oneCell_rel (List.all_eq_true.1 hcell cs[j] (List.getElem_mem _)) (hvs.2 j _ u (List.getElem?_eq_getElem hj3) hj)
    ·rw [List.getElem?_take] at hu
     split at hu
     ·rw [List.getElem?_drop,Array.getElem?_toList] at hu
      rw [addr_add,ho]
      simpa [World.cell?,hh] using hu
     ·simp at hu
   ·simp at h
  ·simp at h
 | @xsl _ wd' m' row len c cap a get b o u hl hcap hn ha hcc hv=>
  simp only [rowsAV] at h
  split at h
  ·rename_i hb
   simp only [Bool.and_eq_true,Nat.beq_eq] at hb
   obtain ⟨e1,hf⟩:=hb
   subst e1
   simp only [Option.some.injEq,Prod.mk.injEq] at h
   obtain ⟨e1,e2⟩:=h
   subst e1;subst e2
   have hlen:((List.range (len * wd')).map fun j=>u (row+j / wd') (j % wd')).length=len * wd':=by simp
   have hr:RowsR w A ⟨get.tag,fun i k=>get.f (row+i) k⟩ len wd' ((List.range (len * wd')).map fun j=>u (row+j / wd') (j % wd')):=by
    intro i k hi hk
    refine ⟨u (row+i) k,?_,hv (by omega) (row+i) k (by omega) hk⟩
    have hlt:=idx_lt hi hk
    have e2:(i * wd'+k) / wd'=i:=by rw [Nat.add_comm,Nat.add_mul_div_right _ _ hwd,Nat.div_eq_of_lt hk,Nat.zero_add]
    simp [hlt,e2,idx_mod _ hk]
   refine ⟨a,c,_,rfl,hlen,hr,rows_one (g:=⟨get.tag,fun i k=>get.f (row+i) k⟩) hwd hf hlen hr,fun h0=>?_⟩
   obtain ⟨e,_,_⟩:=ha h0
   refine ⟨_,e,fun j x hx=>?_⟩
   simp only [List.getElem?_map,Option.map_eq_some_iff] at hx
   obtain ⟨j',hj',rfl⟩:=hx
   obtain ⟨hj1,hj2⟩:=List.getElem?_eq_some_iff.1 hj'
   simp at hj2;subst hj2
   simp at hj1
   have hd:j / wd'<len:=Nat.div_lt_of_lt_mul (by rw [Nat.mul_comm];exact hj1)
   have:=hcc h0 (row+j / wd') (j % wd') (by omega) (Nat.mod_lt _ hwd)
   rw [addr_add,← this]
   congr 2
   rw [Nat.add_mul]
   have:=Nat.div_add_mod' j wd'
   omega
  ·simp at h
 | @osl _ j v n e c he hc hn h0 hl=>
  simp only [rowsAV] at h
  split at h
  ·rename_i t wd' v' n' g' hloc
   split at h
   ·rename_i hb
    simp only [Bool.and_eq_true,Nat.beq_eq] at hb
    obtain ⟨e1,e2,hf⟩:=hb
    subst e1;subst e2
    simp only [Option.some.injEq,Prod.mk.injEq] at h
    obtain ⟨e1,e2⟩:=h
    subst e1;subst e2
    obtain ⟨e',c',xs,g1,g2,g3,g4,g5,g6,hown,hrows⟩:=hcx.mem _ _ hloc
    rw [he] at g1;injection g1 with g1;subst g1
    rw [hn] at g3;injection g3 with g3;subst g3
    refine ⟨_,c,xs,rfl,hown.1,hrows,rows_one hwd hf hown.1 hrows,fun h0'=>?_⟩
    cases e with
    | zero=>have:=(h0 rfl).1;omega
    | succ b=>exact ⟨_,rfl,hown.cells rfl⟩
   ·simp at h
  ·simp at h
 | @oss _ j v wd1 row len n c cf a hn hle hl ha hcf=>
  simp only [rowsAV] at h
  split at h
  ·rename_i t wd' v' n' g' hloc
   split at h
   ·rename_i hb
    simp only [Bool.and_eq_true,Nat.beq_eq] at hb
    obtain ⟨e1,e2,e3,hf⟩:=hb
    subst e1;subst e2;subst e3
    simp only [Option.some.injEq,Prod.mk.injEq] at h
    obtain ⟨e1,e2⟩:=h
    subst e1;subst e2
    obtain ⟨e',c',xs,g1,g2,g3,g4,g5,g6,hown,hrows⟩:=hcx.mem _ _ hloc
    rw [hn] at g3;injection g3 with g3;subst g3
    have hle':row * wd1+len * wd1≤n * wd1:=by rw [← Nat.add_mul];exact Nat.mul_le_mul_right _ hle
    have hlen:((xs.drop (row * wd1)).take (len * wd1)).length=len * wd1:=by have:=hown.1;simp;omega
    have hr:RowsR w A ⟨g'.tag,fun i k=>g'.f (row+i) k⟩ len wd1 ((xs.drop (row * wd1)).take (len * wd1)):=by
     intro i k hi hk
     obtain ⟨u,hu,hv⟩:=hrows (row+i) k (by omega) hk
     refine ⟨u,?_,hv⟩
     rw [List.getElem?_take,if_pos (idx_lt hi hk),List.getElem?_drop,← hu,Nat.add_mul,Nat.add_assoc]
    refine ⟨a,c,_,rfl,hlen,hr,rows_one (g:=⟨g'.tag,fun i k=>g'.f (row+i) k⟩) hwd hf hlen hr,fun h0'=>?_⟩
    obtain ⟨b,hb,e⟩:=ha (by omega)
    rw [hb] at g1;injection g1 with g1;subst g1
    refine ⟨_,e,fun i x hx=>?_⟩
    rw [List.getElem?_take] at hx
    split at hx
    ·rw [List.getElem?_drop] at hx
     have:=hown.cells (g:=b) rfl _ _ hx
     rw [addr_add] at this ⊢
     simpa using this
    ·simp at hx
   ·simp at h
  ·simp at h
 | _=>simp [rowsAV] at h
omit hcx in
theorem fitC_rel {c:CK} {x:AV} {v:Value} (hf:fitC c x=true) (h:VR w A r x v):VR w A r (conf c x) v:=by
 cases c with
 | int k=>cases x<;>simp only [fitC] at hf<;>first | (cases hf;done) | (have e:=of_decide_eq_true hf;subst e;exact h)
 | bool=>cases x<;>simp only [fitC] at hf<;>first | (cases hf;done) | exact h
 | str=>cases x<;>simp only [fitC] at hf<;>first | (cases hf;done) | exact h
 | sl wd ks=>
  cases x<;>simp only [fitC] at hf<;>try (cases hf;done)
  ·cases h with
   | nilsl=>exact .xsl 0 0 (fun _ _=>.nilFunc) ⟨Nat.zero_le _,Nat.zero_le _⟩ (fun x h=>by cases h) (Nat.le_refl _) (fun h=>absurd h (Nat.lt_irrefl _)) (fun h=>absurd h (Nat.lt_irrefl _)) (fun h=>absurd h (Nat.lt_irrefl _))
  ·rename_i wd' n g row len cap
   simp only [Bool.and_eq_true] at hf
   have e1:=Nat.eq_of_beq_eq_true hf.1
   subst e1
   obtain ⟨t,f⟩:=g
   have e2:t=ckOf ks:=ckLEq_eq hf.2
   subst e2
   exact h
 | any=>cases x<;>simp only [fitC] at hf<;>cases hf
omit hcx in
theorem fitL_at {wd:Nat} {T:List CK}:∀ {cs:List AV} {q j:Nat} {x:AV},fitL wd T cs q=true→cs[j]?=some x→fitC (ckAt T ((q+j) % wd)) x=true
 | [],q,j,x,_,h=>by simp at h
 | c :: cs,q,0,x,hf,h=>by
  simp only [fitL,Bool.and_eq_true] at hf
  simp at h;subst h;exact hf.1
 | c :: cs,q,j+1,x,hf,h=>by
  simp only [fitL,Bool.and_eq_true] at hf
  have:=fitL_at hf.2 (j:=j) (x:=x) (by simpa using h)
  rw [show q+(j+1)=q+1+j by omega];exact this
omit hcx in
theorem retag_rows {T:List CK} {y:AV} {wd m:Nat} {g:Get AV} {news:List Value} (h:rowsAV loc wd y=some (m,g)) (hr:RowsR w A g m wd news):RowsR w A (retag loc wd T y g) m wd news:=by
 cases y<;>simp only [retag]<;>try exact hr
 rename_i j wd' row col len cap
 split
 ·rename_i t cs hloc
  split
  ·rename_i hfit
   simp only [rowsAV,hloc] at h
   split at h
   ·rename_i hc
    obtain ⟨e1,e2,hle,hno,hcell⟩:=hc
    subst e1;subst e2
    simp only [Option.some.injEq,Prod.mk.injEq] at h
    obtain ⟨e1,e2⟩:=h
    subst e1;subst e2
    intro i k hi hk
    obtain ⟨u,hu,hv⟩:=hr i k hi hk
    refine ⟨u,hu,?_⟩
    have hlt:=idx_lt hi hk
    have e:(row+i) * wd'+k=row * wd'+(i * wd'+k):=by rw [Nat.add_mul,Nat.add_assoc]
    have hin:(row+i) * wd'+k<cs.length:=by
     have:row * wd'+len * wd'≤cs.length:=by rw [← Nat.add_mul];exact hle
     omega
    obtain ⟨x,hx⟩:∃ x,cs[(row+i) * wd'+k]?=some x:=⟨_,List.getElem?_eq_getElem hin⟩
    have ht:=tagsOf_conf (wd:=wd') ((row+i) * wd'+k) x hx
    rw [idx_mod _ hk] at ht
    have hv:VR w A noR (conf (ckAt (tagsOf wd' cs) k) ((cs[(row+i) * wd'+k]?).getD .top)) u:=hv
    rw [hx,Option.getD_some,ht] at hv
    have hf:=fitL_at hfit hx
    rw [Nat.zero_add,idx_mod _ hk] at hf
    show VR w A noR (conf (ckAt T k) ((cs[(row+i) * wd'+k]?).getD .top)) u
    rw [hx,Option.getD_some]
    exact fitC_rel hf hv
   ·cases h
  ·exact hr
 ·exact hr
omit hcx in
theorem appendG_rows {n m wd:Nat} {f g:Get AV} {xs news:List Value} (hl:xs.length=n * wd) (hf:RowsR w A f n wd xs) (hg:RowsR w A g m wd news):RowsR w A (appendG n f g) (n+m) wd (xs ++ news):=by
 have hcell:∀ i k,(appendG n f g).cell i k=if n≤i then g.cell (i - n) k else f.cell i k:=by
  intro i k
  unfold appendG
  split
  ·rename_i ht
   have e:=ckLEq_eq ht
   simp only [Get.cell,appG]
   by_cases h:n≤i
   ·rw [if_pos h,Nat.ble_eq_true_of_le h,e]
   ·rw [if_neg h,show Nat.ble n i=false from (by cases hb:Nat.ble n i with | false=>rfl | true=>exact absurd (Nat.le_of_ble_eq_true hb) h)]
  ·split
   ·rename_i h0
    have h0:=Nat.eq_of_beq_eq_true h0
    subst h0
    rw [if_pos (Nat.zero_le _)]
    simp only [Get.cell,appG,Nat.ble_eq_true_of_le (Nat.zero_le i)]
   simp only [Get.cell,appG,ckAt,conf]
   by_cases h:n≤i
   ·rw [if_pos h,Nat.ble_eq_true_of_le h]
   ·rw [if_neg h,show Nat.ble n i=false from (by cases hb:Nat.ble n i with | false=>rfl | true=>exact absurd (Nat.le_of_ble_eq_true hb) h)]
 intro i k hi hk
 rw [hcell]
 by_cases h:n≤i
 ·rw [if_pos h]
  obtain ⟨u,hu,hv⟩:=hg (i - n) k (by omega) hk
  refine ⟨u,?_,hv⟩
  have e:i * wd+k=n * wd+((i - n) * wd+k):=by
   rw [← Nat.add_assoc,← Nat.add_mul];congr 2;omega
  rw [e,List.getElem?_append_right (by omega),← hu,hl]
  congr 1;omega
 ·rw [if_neg h]
  obtain ⟨u,hu,hv⟩:=hf i k (by omega) hk
  refine ⟨u,?_,hv⟩
  rw [List.getElem?_append_left (by have:=idx_lt (show i<n by omega) hk;omega),hu]
def obOf:Nat→Option Nat
 | 0=>none
 | b+1=>some b
omit hcx in
theorem append_core {t ty e:TypeId} {i:TypeInfo} {z:Value} {wd bytes:Nat} (ht:P.underlying t=some (.slice e)) (hi:P.info? e=some i) (hz:i.zero=some z)
  (hsize:i.size=wd) (hby:i.bytes=bytes) (hzs:z.cells.size=wd) (hsz:0<wd)
  {eo n c:Nat} {xs:List Value} (hown:w.ownsRow 0 e wd (.slice (slBase eo) n c) n xs) (h0:eo=0→n=0∧c=0)
  {a:Option Addr} {m c':Nat} {news:List Value} (hl:news.length=m * wd) (h1:∀ u ∈ news,u.oneCell'=true) (ha:0<m→∃ ad,a=some ad∧∀ (j:Nat) u,news[j]?=some u→w.cell? (ad.add j)=some u)
  (hm:n+m≤maxL) (hb:(n+m) * bytes≤140737488355328) :
  ∃ e1 c1 w1,(Builtin.append_ #[t,t] ty #[.slice (slBase eo) n c,.slice a m c']).run P w=.ok (.slice (slBase e1) (n+m) c1) w1∧w1.ownsRow 0 e wd (.slice (slBase e1) (n+m) c1) (n+m) (xs ++ news)∧w.grownBy w1 (obOf eo) ∧
   (∀ b,e1=b+1→obOf eo=some b∨w.heap.size≤b)∧(e1=0→n+m=0∧c1=0)∧n+m≤c1:=by
 subst hsize;subst hby
 have hnc:n≤c:=by
  rcases hown.2 with ⟨hv,hn⟩ | ⟨g,cap,cur,hv,_,_,hn,_⟩
  ·omega
  ·injection hv with _ _ hv;omega
 by_cases hm0:m=0
 ·subst hm0
  have hn:news=[]:=List.eq_nil_of_length_eq_zero (by simpa using hl)
  subst hn
  refine ⟨eo,c,w,?_,by simpa using hown,⟨rfl,rfl,rfl,Nat.le_refl _,fun _ _ _=>rfl⟩,fun b hb=>.inl (by subst hb;rfl),fun h=>by simpa using h0 h,by simpa using hnc⟩
  cases eo with
  | zero=>
   obtain ⟨e1,e2⟩:=h0 rfl
   subst e1;subst e2
   cases a<;>simp [slBase,Builtin.append_,run_underlying ht,sizeOf,typeInfo,hi,Builtin.lenOf,Builtin.firstCells,loadCells,loadCellsFrom]
  | succ b=>
   cases a<;>simp [slBase,Builtin.append_,run_underlying ht,sizeOf,typeInfo,hi,Builtin.lenOf,Builtin.firstCells,loadCells,loadCellsFrom,hnc,storeCells]
 ·obtain ⟨ad,rfl,hnews⟩:=ha (by omega)
  have hlen:(xs ++ news).length=(n+m) * i.size:=by rw [List.length_append,hown.1,hl,Nat.add_mul]
  have grown:∀ (old:Nat),old<n+m→∀ (row:Option Nat),
    (w.drew.alloc (.cells (xs.toArray ++ news.toArray ++ Builtin.zeroCells z.cells (grownCap w (n+m) old e - (n+m))) e)).ownsRow 0 e i.size
     (.slice (some ⟨w.heap.size,0,none⟩) (n+m) (grownCap w (n+m) old e)) (n+m) (xs ++ news) ∧
    w.grownBy (w.drew.alloc (.cells (xs.toArray ++ news.toArray ++ Builtin.zeroCells z.cells (grownCap w (n+m) old e - (n+m))) e)) row:=by
   intro old ho row
   have hge:=grownCap_ge w (n+m) old e
   have hcm:grownCap w (n+m) old e≤maxLen:=grownCap_le_maxLen w (n+m) old e hm
   refine ⟨⟨hlen,.inr ⟨w.heap.size,_,_,rfl,Nat.zero_le _,heap_alloc_new w.drew _,hge,hcm,?_,?_⟩⟩,⟨rfl,rfl,rfl,by simp,fun k hk _=>heap_alloc_old w.drew _ hk⟩⟩
   ·simp only [Array.size_append,List.size_toArray,size_zeroCells,hzs,hown.1,hl,← Nat.add_mul]
    congr 1
    omega
   ·simp only [Array.toList_append,List.append_assoc]
    rw [← List.append_assoc,← hlen]
    exact List.take_left
  cases eo with
  | zero=>
   obtain ⟨e1,e2⟩:=h0 rfl
   subst e1;subst e2
   have hx:xs=[]:=List.eq_nil_of_length_eq_zero (by simpa using hown.1)
   subst hx
   have hr:=run_append_nil (P:=P) w t ty e i z ht hi hz ad m c' news hl hnews (by omega) (by simp only [maxL] at hm;omega) (by have hb:=hb;simp only [Nat.zero_add] at hb;omega)
   have hgr:=grown 0 (by omega) none
   simp only [Nat.zero_add,List.nil_append,Array.empty_append] at hgr ⊢
   exact ⟨w.heap.size+1,_,_,hr,hgr.1,hgr.2,fun b hb=>.inr (by omega),fun h=>by omega,grownCap_ge w m 0 e⟩
  | succ b=>
   by_cases hroom:n+m≤c
   ·obtain ⟨w1,hr,ho,hg⟩:=run_append_fits (P:=P) w 0 t ty e i i.size ht hi rfl b n c xs hown ad m c' news hl hnews h1 hroom
    exact ⟨b+1,c,w1,hr,ho,hg,fun b' hb'=>.inl (by injection hb' with hb';subst hb';rfl),fun h=>by omega,hroom⟩
   ·have holds:∀ j u,xs[j]?=some u→w.cell? ((⟨b,0,none⟩:Addr).add j)=some u:=hown.cells (g:=b) rfl
    have hr:=run_append_grow (P:=P) w t ty e i z ht hi hz ⟨b,0,none⟩ n c xs hown.1 holds ad m c' news hl hnews (by omega) (by simp only [maxL] at hm;omega) (growslice_fits (by omega) hb)
    have hgr:=grown c (by omega) (some b)
    exact ⟨w.heap.size+1,_,_,hr,hgr.1,hgr.2,fun b hb=>.inr (by omega),fun h=>by omega,grownCap_ge w (n+m) c e⟩
theorem append_does {x y:AV} {vx vy:Value} {t ty:TypeId} {s:Sem Next} {res:Res} (hx:VR w A r x vx) (hy:VR w A r y vy) (h:appendAV P loc nx t x y=some (true,res))
  (hs:∀ val w1,(Builtin.append_ #[t,t] ty #[vx,vy]).run P w=.ok val w1→s.run P w=.ok (.value val) w1):Does P w A r loc nx s res:=by
 unfold appendAV at h
 split at h
 ·rename_i e hu
  split at h
  ·rename_i wd by' zs h1 h2 h3
   split at h
   ·rename_i hb
    simp only [Bool.and_eq_true,Nat.beq_eq,Nat.blt_eq] at hb
    obtain ⟨hzl,hwd⟩:=hb
    obtain ⟨i,hi,hsize⟩:∃ i,P.info? e=some i∧i.size=wd:=by
     cases hi:P.info? e with
     | none=>simp [szOf,hi] at h1
     | some i=>simp [szOf,hi] at h1;exact ⟨i,rfl,h1⟩
    have hby:i.bytes=by':=by simp [bytesOf,hi] at h2;exact h2
    obtain ⟨z,hz,hzs⟩:∃ z,i.zero=some z∧z.cells.size=wd:=by
     cases hz:i.zero with
     | none=>simp [zeroAV,hi,hz] at h3
     | some z=>
      simp only [zeroAV,hi,hz] at h3
      have:=(ofScals_rel (w:=w) (A:=A) (r:=r) h3).1
      exact ⟨z,rfl,by simp at this;omega⟩
    split at h
    ·rename_i m g hrow
     obtain ⟨a,c',news,hv,hl,hg,hone,ha⟩:=rows_run hcx hwd hy hrow
     subst hv
     split at h
     ·rename_i j v n
      split at h
      ·rename_i u wd' v' n' f hloc
       split at h
       ·rename_i hb
        simp only [Bool.and_eq_true,Nat.beq_eq] at hb
        obtain ⟨e1,e2,e3⟩:=hb
        subst e1;subst e2;subst e3
        injection h with h;injection h with hc h;subst h
        obtain ⟨hc1,hc2⟩:=of_decide_eq_true hc
        obtain ⟨eo,c,xs,g1,g2,g3,g4,g5,g6,hown,hrows⟩:=hcx.mem _ _ hloc
        cases hx with
        | osl he hcc hn h0 hl'=>
         rw [he] at g1;injection g1 with g1;subst g1
         rw [hcc] at g2;injection g2 with g2;subst g2
         rw [hn] at g3;injection g3 with g3;subst g3
         obtain ⟨e1,c1,w1,hr,ho,hgr,hbl,hz0,hle⟩:=append_core (ty:=ty) hu hi hz hsize hby hzs hwd hown h0 hl hone ha hc2 hc1
         refine ⟨rfl,obOf _,e1,c1,_,w1,fun b hb=>⟨v,rfl,?_⟩,.inr ⟨_,_,_,_,_,rfl,hloc⟩,hs _ _ hr,ho,appendG_rows hown.1 hrows (retag_rows hrow hg),hgr,hbl,hz0,⟨hle,hc2⟩,hwd⟩
         rw [he]
         rename_i eo _
         cases eo with
         | zero=>simp [obOf] at hb
         | succ b'=>simp [obOf] at hb;subst hb;rfl
       ·simp at h
      ·simp at h
     ·injection h with h;injection h with hc h;subst h
      obtain ⟨hc1,hc2⟩:=of_decide_eq_true hc
      cases hx
      obtain ⟨e1,c1,w1,hr,ho,hgr,hbl,hz0,hle⟩:=append_core (eo:=0) (ty:=ty) hu hi hz hsize hby hzs hwd (World.ownsRow_nil w 0 e wd) (fun _=>⟨rfl,rfl⟩) hl hone ha (by simpa using hc2) (by simpa using hc1)
      simp only [Nat.zero_add,List.nil_append] at hr ho hz0 hle
      exact ⟨rfl,none,e1,c1,_,w1,(fun b hb=>by cases hb),.inl ⟨rfl,rfl⟩,hs _ _ hr,ho,hg,hgr,hbl,hz0,⟨hle,hc2⟩,hwd⟩
     ·simp at h
    ·simp at h
   ·simp at h
  ·simp at h
 ·simp at h
omit hcx in
theorem ckAt_mapT:∀ (zs:List AV) (k:Nat) (z:AV),zs[k]?=some z→ckAt (zs.map tagOf) k=tagOf z
 | [],k,z,h=>by simp at h
 | y :: ys,0,z,h=>by simp at h;subst h;rfl
 | y :: ys,k+1,z,h=>ckAt_mapT ys k z (by simpa using h)
omit hcx in
theorem putRows_cell (f:Get AV) (row m:Nat) (g:Get AV) (i k:Nat):(putRows f row m g).cell i k=if row≤i∧i<row+m then g.cell (i - row) k else f.cell i k:=by
 have hb:(Nat.ble row i&&Nat.blt i (row+m))=decide (row≤i∧i<row+m):=by
  rw [Bool.eq_iff_iff]
  simp only [Bool.and_eq_true,Nat.ble_eq,Nat.blt_eq,decide_eq_true_eq]
 unfold putRows
 split
 ·rename_i ht
  have e:=ckLEq_eq ht
  simp only [Get.cell,putR,hb]
  by_cases h:row≤i∧i<row+m
  ·rw [if_pos h,decide_eq_true h,e]
  ·rw [if_neg h,decide_eq_false h]
 ·simp only [Get.cell,putR,ckAt,conf,hb]
  by_cases h:row≤i∧i<row+m
  ·rw [if_pos h,decide_eq_true h]
  ·rw [if_neg h,decide_eq_false h]
omit hcx in
theorem own_put {e:TypeId} {wd b n c row m:Nat} {xs news:List Value} {f g:Get AV} (hown:w.ownsRow 0 e wd (.slice (some ⟨b,0,none⟩) n c) n xs) (hf:RowsR w A f n wd xs) (hl:news.length=m * wd) (hg:RowsR w A g m wd news)
  (h1:∀ u ∈ news,u.oneCell'=true) (hle:row+m≤n) :
  ∃ w1 ys,(storeCells ⟨b,row * wd,none⟩ news).run P w=.ok () w1∧w.grownBy w1 (some b)∧w1.ownsRow 0 e wd (.slice (some ⟨b,0,none⟩) n c) n ys∧RowsR w A (putRows f row m g) n wd ys:=by
 rcases hown.2 with ⟨k,_⟩ | ⟨g0,cap,cur,k,_,hg0,hnc,hcm,hcs,htake⟩
 ·simp at k
 simp only [Value.slice.injEq,Option.some.injEq,Addr.mk.injEq,and_true,true_and] at k
 obtain ⟨rfl,rfl⟩:=k
 have hle':row * wd+news.length≤n * wd:=by rw [hl,← Nat.add_mul];exact Nat.mul_le_mul_right _ hle
 have hnw:n * wd≤cur.size:=by rw [hcs];exact Nat.mul_le_mul_right _ hnc
 have hst:=run_storeCells_at (P:=P) b (row * wd) e news 0 cur w hg0 (by omega) h1
 simp only [Nat.add_zero] at hst
 have hcl:cur.toList.length=cur.size:=by simp
 refine ⟨_,(cur.toList.take (row * wd) ++ news ++ cur.toList.drop (row * wd+news.length)).take (n * wd),hst,⟨rfl,rfl,rfl,by simp,fun k _ hk=>setRow_other w b k _ (fun e=>hk (by simp [e]))⟩,⟨?_,.inr ⟨b,c,_,rfl,Nat.zero_le _,setRow_heap w b cur _ e (0,0) hg0,hnc,hcm,?_,?_⟩⟩,?_⟩
 ·simp only [List.length_take,List.length_append,List.length_drop];omega
 ·simp only [List.size_toArray,List.length_append,List.length_take,List.length_drop];omega
 ·rfl
 ·intro i k hi hk
  rw [putRows_cell]
  have hq:i * wd+k<n * wd:=idx_lt hi hk
  rw [List.getElem?_take,if_pos hq]
  by_cases hc:row≤i∧i<row+m
  ·rw [if_pos hc]
   obtain ⟨u,hu,hv⟩:=hg (i - row) k (by omega) hk
   refine ⟨u,?_,hv⟩
   have e1:i * wd+k=row * wd+((i - row) * wd+k):=by rw [← Nat.add_assoc,← Nat.add_mul];congr 2;omega
   have e2:(i - row) * wd+k<news.length:=by rw [hl];exact idx_lt (by omega) hk
   rw [← hu,List.getElem?_append_left (by simp only [List.length_append,List.length_take];omega),List.getElem?_append_right (by simp only [List.length_take];omega),List.length_take]
   congr 1;omega
  ·rw [if_neg hc]
   obtain ⟨u,hu,hv⟩:=hf i k hi hk
   refine ⟨u,?_,hv⟩
   rw [← hu,← htake,List.getElem?_take,if_pos hq]
   by_cases hlt:i<row
   ·have:i * wd+k<row * wd:=idx_lt hlt hk
    rw [List.append_assoc,List.getElem?_append_left (by simp only [List.length_take];omega),List.getElem?_take,if_pos this]
   ·have:(row+m) * wd≤i * wd:=Nat.mul_le_mul_right _ (by omega)
    rw [Nat.add_mul,← hl] at this
    rw [List.getElem?_append_right (by simp only [List.length_append,List.length_take];omega),List.getElem?_drop,List.length_append,List.length_take]
    congr 1;omega
theorem appPut_does {x y:AV} {vx vy:Value} {t ty:TypeId} {s:Sem Next} {res:Res} (hx:VR w A r x vx) (hy:VR w A r y vy) (h:appPut P loc t x y=some (true,res))
  (hs:∀ val w1,(Builtin.append_ #[t,t] ty #[vx,vy]).run P w=.ok val w1→s.run P w=.ok (.value val) w1):Does P w A r loc nx s res:=by
 unfold appPut at h
 split at h
 case h_2=>simp at h
 rename_i e hu
 split at h
 case h_2=>simp at h
 rename_i wd h1
 split at h
 case h_2=>simp at h
 rename_i j v wd1 row len
 split at h
 case h_2=>simp at h
 rename_i u wd' v' n f hloc
 split at h
 case h_2=>simp at h
 rename_i m g hrow
 split at h
 case h_2=>simp at h
 rename_i hb
 simp only [Bool.and_eq_true,Nat.beq_eq,Nat.blt_eq] at hb
 obtain ⟨hwd,q1,q2,q3,q4⟩:=hb
 subst q1;subst q2;subst q3;subst q4
 injection h with h;injection h with hc h;subst h
 obtain ⟨hc1,hc2⟩:=of_decide_eq_true hc
 obtain ⟨i,hi,hsize⟩:∃ i,P.info? u=some i∧i.size=wd1:=by
  cases hi:P.info? u with
  | none=>simp [szOf,hi] at h1
  | some i=>simp [szOf,hi] at h1;exact ⟨i,rfl,h1⟩
 obtain ⟨a,c',news,hv,hl,hg,hone,ha⟩:=rows_run hcx hwd hy hrow
 subst hv
 obtain ⟨e',c,xs,g1,g2,g3,g4,g5,g6,hown,hrows⟩:=hcx.mem _ _ hloc
 cases hx with
 | @oss _ _ _ _ _ _ n0 c0 cf a0 hn hle hl0 ha0 hcf=>
  rw [hn] at g3;injection g3 with g3;subst g3
  obtain ⟨b,hb1,hb2⟩:=ha0 hc2
  subst hb2
  rw [hb1] at g1;injection g1 with g1;subst g1
  have hcf1:=hcf.1
  rw [g2] at hcf1;injection hcf1 with hcf1;subst hcf1
  obtain ⟨w1,ys,hst,k1,k2,k3⟩:=own_put (P:=P) (row:=row+len) hown hrows hl hg hone hc1
  have hst':(storeCells ⟨b,row * wd1+len * wd1,none⟩ news).run P w=.ok () w1:=by rw [← Nat.add_mul];exact hst
  have hff:(Builtin.firstCells wd1 m (.slice a m c')).run P w=.ok news.toArray w:=by
   by_cases hm0:m=0
   ·subst hm0
    have hn0:news=[]:=List.eq_nil_of_length_eq_zero (by simpa using hl)
    subst hn0
    cases a with
    | none=>exact run_firstCells_none w _ _ _ _
    | some ad=>exact run_firstCells_some (P:=P) w wd1 0 ad 0 c' [] (by simp) (by simp)
   ·obtain ⟨ad,e1,h2⟩:=ha (by omega)
    subst e1
    exact run_firstCells_some (P:=P) w wd1 m ad m c' news hl h2
  have hroom:len+m≤c0:=by omega
  have hr:(Builtin.append_ #[t,t] ty #[.slice (some ⟨b,row * wd1,none⟩) len c0,.slice a m c']).run P w=.ok (.slice (some ⟨b,row * wd1,none⟩) (len+m) c0) w1:=by
   subst hsize
   simp [Builtin.append_,run_underlying hu,sizeOf,typeInfo,hi,Builtin.lenOf,hroom,hff,addr_add,hst']
  exact ⟨_,_,_,b,c,ys,_,w1,hloc,hb1,g2,hn,hs _ _ hr,.oss hn (by omega) ⟨hroom,by have:=g5.2;omega⟩ (fun _=>⟨b,hb1,rfl⟩) ⟨g2,hcf.2⟩,k1,k2,k3,g5,hwd⟩
theorem clear_does {x:AV} {vx:Value} {t ty:TypeId} {s:Sem Next} {res:Res} (hx:VR w A r x vx) (h:clearAV P loc t x=some (true,res))
  (hs:∀ val w1,(Builtin.clear_ #[t] ty #[vx]).run P w=.ok val w1→s.run P w=.ok (.value val) w1):Does P w A r loc nx s res:=by
 unfold clearAV at h
 split at h
 case h_2=>simp at h
 rename_i e hu
 split at h
 case h_2=>simp at h
 rename_i zs hz
 split at h
 case h_2=>simp at h
 rename_i j v wd1 row len
 split at h
 case h_2=>simp at h
 rename_i u wd' v' n f hloc
 split at h
 case h_2=>simp at h
 rename_i hb
 simp only [Bool.and_eq_true,Nat.beq_eq,Nat.blt_eq] at hb
 obtain ⟨hwd,q1,q2,q3,q4,q5⟩:=hb
 subst q1;subst q2;subst q3
 injection h with h;injection h with hc h;subst h
 have hc2:=of_decide_eq_true hc
 obtain ⟨z,hzr,hzv⟩:=run_zero' (P:=P) (w:=w) (A:=A) (r:=noR) hz
 obtain ⟨e',c,xs,g1,g2,g3,g4,g5,g6,hown,hrows⟩:=hcx.mem _ _ hloc
 cases hx with
 | @oss _ _ _ _ _ _ n0 c0 cf a0 hn hle hl0 ha0 hcf=>
  rw [hn] at g3;injection g3 with g3;subst g3
  obtain ⟨b,hb1,hb2⟩:=ha0 hc2
  subst hb2
  rw [hb1] at g1;injection g1 with g1;subst g1
  have hzs:z.cells.size=wd1:=by rw [← hzv.1];exact q4
  have hcell:∀ i k,i<len→k<wd1→(Builtin.zeroCells z.cells len).toList[i * wd1+k]?=z.cells[k]?:=by
   intro i k hi hk
   have hlt:=idx_lt hi hk
   have hm:(i * wd1+k) % wd1=k:=idx_mod _ hk
   rw [Array.getElem?_toList,Builtin.zeroCells,Array.getElem?_map,Array.getElem?_range,hzs,if_pos hlt,Option.map_some,hm]
   rw [getElem!_pos z.cells k (by omega),Array.getElem?_eq_getElem (by omega)]
  have hzl:=zerosAs_length f.tag zs
  have hzw:=zerosAs_rel (cs:=f.tag) hzv
  have hrz:RowsR w A ⟨(zerosAs f.tag zs).map tagOf,fun _ k=>((zerosAs f.tag zs)[k]?).getD .top⟩ len wd1 (Builtin.zeroCells z.cells len).toList:=by
   intro i k hi hk
   have hk1:k<(zerosAs f.tag zs).length:=by omega
   have hk2:k<z.cells.size:=by omega
   refine ⟨z.cells[k],by rw [hcell i k hi hk,Array.getElem?_eq_getElem hk2],?_⟩
   have hv:=hzw.2 k (zerosAs f.tag zs)[k] z.cells[k] (List.getElem?_eq_getElem hk1) (Array.getElem?_eq_getElem hk2)
   simp only [Get.cell,List.getElem?_eq_getElem hk1,Option.getD_some]
   rw [ckAt_mapT _ _ _ (List.getElem?_eq_getElem hk1),conf_tagOf]
   exact hv
  have hone:∀ u ∈ (Builtin.zeroCells z.cells len).toList,u.oneCell'=true:=by
   intro u hu'
   rw [Array.mem_toList_iff,Builtin.zeroCells,Array.mem_map] at hu'
   obtain ⟨i,hi,rfl⟩:=hu'
   have hlt:i % z.cells.size<z.cells.size:=Nat.mod_lt _ (by omega)
   rw [getElem!_pos z.cells _ hlt]
   have hk1:i % z.cells.size<zs.length:=by omega
   exact oneCell_rel (List.all_eq_true.1 q5 _ (List.getElem_mem hk1)) (hzv.2 _ _ _ (List.getElem?_eq_getElem hk1) (Array.getElem?_eq_getElem hlt))
  obtain ⟨w1,ys,hst,k1,k2,k3⟩:=own_put (P:=P) (row:=row) hown hrows (m:=len) (by rw [Array.length_toList,size_zeroCells,hzs]) hrz hone hle
  have hr:(Builtin.clear_ #[t] ty #[.slice (some ⟨b,row * wd1,none⟩) len c0]).run P w=.ok (.tuple #[]) w1:=by
   cases len with
   | zero=>
    have e0:(Builtin.zeroCells z.cells 0).toList=[]:=by simp [Builtin.zeroCells]
    rw [e0] at hst
    simp only [storeCells,Sem.run_pure] at hst
    injection hst with _ hst;subst hst
    simp [Builtin.clear_,run_underlying hu]
   | succ l=>simp [Builtin.clear_,run_underlying hu,hzr,hst]
  exact ⟨_,_,_,b,c,ys,_,w1,hloc,hb1,g2,hn,hs _ _ hr,.tup rfl (fun i x u hi=>by simp at hi),k1,k2,k3,g5,hwd⟩
theorem s_call {c:Call} (hop:o.op=.call c) (h:native P p loc nx o=some (true,res)):Does P w A r loc nx (execOp ev o) res:=by
 simp only [native,hop] at h
 split at h
 ·rename_i hcal
  split at h
  ·rename_i x t hargs htys
   split at h
   ·rename_i v n hx hs
    cases hl:lenAV v with
    | none=>simp [hl] at h
    | some m=>
     simp [hl] at h;subst h
     have e1:c.args.map ev=#[ev x]:=by
      apply Array.ext';simp [hargs]
     have e2:c.argTypes=#[t]:=by
      apply Array.ext';simp [htys]
     have hx':=hcx.val _ _ hx
     unfold sliceT at hs
     split at hs
     ·rename_i e hu
      have key:∃ a cc,ev x=.slice a m cc:=by
       generalize ev x=z at hx'
       cases hx' with
       | lsl _ _ h3 _=>simp [lenAV,clampL_eq h3.2] at hl;subst hl;exact ⟨_,_,rfl⟩
       | xsl _ _ _ h3 _ _ _ _ _=>simp [lenAV,clampL_eq h3.2] at hl;subst hl;exact ⟨_,_,rfl⟩
       | nilsl=>simp [lenAV] at hl;subst hl;exact ⟨_,_,rfl⟩
       | osl a1 a2 a3 a4 a5=>simp [lenAV] at hl;subst hl;exact ⟨_,_,rfl⟩
       | oss a1 a2 a3 a4 a5=>simp [lenAV] at hl;subst hl;exact ⟨_,_,rfl⟩
       | _=>simp [lenAV] at hl
      obtain ⟨a,cc,hev⟩:=key
      refine does_val (v:=.int .i64 m) ?_ .int
      simp only [execOp,hop,resolve,hcal,e1,e2,Sem.run_bind,Sem.run_pure,Result.andThen_ok,invoke,builtin,Builtin.len_,List.getElem?_toArray,List.getElem?_cons_zero,hev,run_underlying hu,goInt]
     ·simp at hs
   ·simp at h
  ·simp at h
 ·rename_i hcal
  split at h
  ·rename_i x y t t' hargs htys
   split at h
   ·rename_i v u htt hx hy
    have:=Nat.eq_of_beq_eq_true htt;subst this
    have e1:c.args.map ev=#[ev x,ev y]:=by apply Array.ext';simp [hargs]
    have e2:c.argTypes=#[t,t]:=by apply Array.ext';simp [htys]
    have hrun:∀ val w1,(Builtin.append_ #[t,t] o.type #[ev x,ev y]).run P w=.ok val w1→(execOp ev o).run P w=.ok (.value val) w1:=fun val w1 hr=>by
     simp only [execOp,hop,resolve,hcal,e1,e2,Sem.run_bind,Sem.run_pure,Result.andThen_ok,invoke,builtin,hr]
    unfold appAV at h
    split at h
    ·exact appPut_does (ty:=o.type) hcx (hcx.val _ _ hx) (hcx.val _ _ hy) h hrun
    ·exact append_does (ty:=o.type) hcx (hcx.val _ _ hx) (hcx.val _ _ hy) h hrun
   ·simp at h
  ·simp at h
 ·rename_i hcal
  split at h
  ·rename_i x t hargs htys
   split at h
   ·rename_i v hx
    have e1:c.args.map ev=#[ev x]:=by apply Array.ext';simp [hargs]
    have e2:c.argTypes=#[t]:=by apply Array.ext';simp [htys]
    exact clear_does (ty:=o.type) hcx (hcx.val _ _ hx) h (fun val w1 hr=>by
     simp only [execOp,hop,resolve,hcal,e1,e2,Sem.run_bind,Sem.run_pure,Result.andThen_ok,invoke,builtin,hr])
   ·simp at h
  ·simp at h
 ·rename_i f hcal
  split at h
  ·rename_i g vs0 hf hvs
   cases hc:callAV P g vs0 with
   | none=>simp [hc] at h
   | some rr=>
    simp [hc] at h;subst h
    obtain ⟨gi,xs,ys,fn,rfl,hfn,hok,hres⟩:=callAV_or hc
    have hf':=hcx.val _ _ hf
    have h1:=mapEv_rel hcx.val _ _ hvs
    have e1:(c.args.toList.map ev).toArray=c.args.map ev:=Array.ext' (by simp)
    rw [e1] at h1
    generalize hev:ev f=z at hf'
    cases hf' with
    | fn hx hy hr1 hr2=>
     rename_i us ws
     simp only [nameOk,Bool.and_eq_true,Bool.not_eq_true'] at hok
     obtain ⟨hb,hn⟩:=hok
     have hbn:fn.body.isNone=false:=by
      cases hbb:fn.body with
      | none=>simp [hbb] at hb
      | some b=>rfl
     have key:∃ vs,(execOp ev o).run P w=.ok (.enter gi vs) w∧VRs w A r (xs ++ vs0 ++ ys) vs:=by
      refine ⟨us ++ c.args.map ev ++ ws,?_,VRs.append (VRs.append ⟨hx,hr1⟩ h1) ⟨hy,hr2⟩⟩
      simp only [execOp,hop,resolve,hcal,hev,Deferred.ofValue,Sem.run_bind,Sem.run_pure,Result.andThen_ok,invoke,callFunc,run_program,hfn,hn,Bool.false_eq_true,if_false,hbn]
     rcases hres with e | e | ⟨t,e⟩
     ·rw [e];exact key
     ·rw [e];exact key
     ·rw [e];exact key
  ·simp at h
 ·simp at h
theorem bound_run {o:Operand} {dflt n n' l:Nat} {code:BoundsCode} (h:boundAV p (some o) dflt n=some (true,l)) (hn:n≤n'):(Instr.sliceBound (ev o) n' code).run P w=.ok l w∧l≤n:=by
 unfold boundAV at h
 simp only at h
 split at h
 ·rename_i k i hi
  have hi':=hcx.val _ _ hi
  generalize hei:ev o=z at hi'
  cases hi'
  simp at h
  obtain ⟨hc,h⟩:=h
  subst h
  have hc':0≤i∧i≤n':=by omega
  exact ⟨by simp only [Instr.sliceBound,asIntOf,Sem.run_bind,Sem.run_pure,Result.andThen_ok,Sem.run_ite,hc',and_self,if_true],by omega⟩
 ·simp at h
theorem cut_rel {v:AV} {n len:Nat} {val:Value} (hs:spanAV n v=some len) (hx:VR w A r v val):∃ a c,val=.slice a len c∧len≤c∧spareAV loc len v≤c∧len≤spareAV loc len v∧(∀ wd m get row ln cap,v=.xsl wd m get row ln cap→∀ x,cap=some x→c=x) ∧
  ∀ (l h k:Nat) (cap:Option Nat→Option Nat),l≤h→h≤spareAV loc len v→h≤k→(ownS v=true→k=c)→(∀ wd m get row ln cp,v=.xsl wd m get row ln cp→∀ x,cap cp=some x→k - l=x) →
   VR w A r (cutAV n l h cap v) (.slice (if k=l then a else a.map (·.add (l * n))) (h - l) (k - l)):=by
 cases hx with
 | @xsl _ wd m row ln c cap a get b oo u hl hcap hm ha hcc hv=>
  simp only [spanAV] at hs
  split at hs
  ·rename_i he
   have h4:=Nat.eq_of_beq_eq_true he
   injection hs with hs;subst hs;subst h4
   refine ⟨a,c,rfl,hl.1,hl.1,Nat.le_refl _,fun wd m get row ln cp he x hx=>?_,fun l h k cap h1 h2 h3 _ h5=>?_⟩
   ·injection he with _ _ _ _ _ e6;subst e6;exact hcap x hx
   ·simp only [spareAV] at h2
    refine .xsl b oo u ⟨by omega,by have:=hl.2;omega⟩ (h5 _ _ _ _ _ _ rfl) (by omega) (fun h0=>?_) (fun h0=>hcc (by omega)) (fun h0=>hv (by omega))
    obtain ⟨e,hb,hA⟩:=ha (by omega)
    subst e
    refine ⟨?_,hb,hA⟩
    rw [if_neg (by omega)]
    simp only [Option.map_some,addr_add,Nat.add_mul,Nat.add_assoc]
  ·simp at hs
 | @osl _ j v ln e c he hc hn h0 hl=>
  simp only [spanAV] at hs
  injection hs with hs;subst hs
  refine ⟨slBase e,c,rfl,hl.1,hl.1,Nat.le_refl _,(fun wd m get row ln cp he=>by cases he),fun l h k cap h1 h2 h3 h4 h5=>?_⟩
  simp only [spareAV] at h2
  have hkc:=h4 rfl
  refine .oss hn (by omega) ⟨by omega,by have:=hl.2;omega⟩ (fun h0'=>?_) ⟨hc,by omega,hl.1⟩
  cases e with
  | zero=>have:=(h0 rfl).1;omega
  | succ b=>refine ⟨b,he,?_⟩;rw [if_neg (by omega)];simp only [slBase,Option.map_some,addr_add,Nat.zero_add]
 | @oss _ j v wd row ln m c cf a hn hle hl ha hcf=>
  simp only [spanAV] at hs
  split at hs
  ·rename_i he
   have h4:=Nat.eq_of_beq_eq_true he
   injection hs with hs;subst hs;subst h4
   have hsp:spareAV loc ln (.oss j v n row ln)≤m - row∧ln≤spareAV loc ln (.oss j v n row ln)∧(spareAV loc ln (.oss j v n row ln)≤maxL):=by
    have hml:=hl.2
    simp only [spareAV]
    split
    ·rename_i t2 wd2 v2 n2 g2 hlc
     split
     ·rename_i hv
      have:=Nat.eq_of_beq_eq_true hv;subst this
      obtain ⟨e',c',xs,g1,g2,g3,g4,g5,g6,hown,hrows⟩:=hcx.mem _ _ hlc
      rw [hn] at g3;injection g3 with g3;subst g3
      have:=g5.2
      omega
     ·omega
    ·omega
   refine ⟨a,c,rfl,hl.1,by omega,hsp.2.1,(fun wd m get row ln cp he=>by cases he),fun l h k cap h1 h2 h3 h4 h5=>?_⟩
   have hkc:=h4 rfl
   refine .oss hn (by omega) ⟨by omega,by omega⟩ (fun h0'=>?_) ⟨hcf.1,by omega,hcf.2.2⟩
   obtain ⟨b,g1,g2⟩:=ha (by omega)
   subst g2
   refine ⟨b,g1,?_⟩
   rw [if_neg (by omega)];simp only [Option.map_some,addr_add,Nat.add_mul]
  ·simp at hs
 | _=>simp [spanAV] at hs
omit hcx in
theorem bound_dflt {dflt n l:Nat} {c:Bool} (h:boundAV p none dflt n=some (c,l)):c=true∧l=dflt:=by
 simp [boundAV] at h;exact ⟨h.1,h.2.symm⟩
theorem arrSl_does {t:TypeId} {x:Operand} {lo hi:Option Operand} (hop:o.op=.slice t x lo hi none) (h:arrSl P p t (p x) lo hi=some (true,res)):Does P w A r loc nx (execOp ev o) res:=by
 unfold arrSl at h
 split at h
 ·rename_i len e j wd row col hu hx
  split at h
  ·rename_i n hs
   injection h with h;injection h with h1 h2;subst h2
   have hl:=of_decide_eq_true h1
   have hx':=hcx.val _ _ hx
   generalize hev:ev x=z at hx'
   cases hx' with
   | lptr hr ho=>
    rename_i b off
    refine does_val (v:=.slice (some ⟨b,off,none⟩) len len) ?_ (.lsl hr (by rw [Nat.zero_mul,Nat.zero_add,ho]) ⟨Nat.le_refl _,hl⟩ (fun x hx=>by injection hx))
    by_cases h0:len=0 <;>
     simp [execOp,hop,hev,Instr.sliceAt,Instr.sureAddr,Sem.run_bind,run_underlying hu,Instr.sliceBounds,run_sizeOf' hs,addr_add,h0]
  ·simp at h
 ·rename_i l hu hx
  split at h
  ·rename_i c1 hh h1
   split at h
   ·rename_i c2 ll h2
    simp at h
    obtain ⟨⟨hc1,hc2⟩,h⟩:=h
    subst hc1;subst hc2;subst h
    have hx':=hcx.val _ _ hx
    generalize hev:ev x=z at hx'
    cases hx'
    have hsz:(ByteArray.mk l.toArray).size=l.length:=by show l.toArray.size=_;simp
    have hH:hh≤l.length∧∀ (code1:BoundsCode),((match hi.map ev with | some v=>Instr.sliceBound v l.length code1 | none=>pure l.length):Sem Nat).run P w=.ok hh w:=by
     cases hi with
     | none=>obtain ⟨_,e⟩:=bound_dflt h1;subst e;exact ⟨Nat.le_refl _,fun _=>rfl⟩
     | some o=>exact ⟨(bound_run (P:=P) (code:=.index) hcx h1 (Nat.le_refl _)).2,fun code=>(bound_run (P:=P) (code:=code) hcx h1 (Nat.le_refl _)).1⟩
    have hL:ll≤hh∧∀ (code1:BoundsCode),((match lo.map ev with | some v=>Instr.sliceBound v hh code1 | none=>pure 0):Sem Nat).run P w=.ok ll w:=by
     cases lo with
     | none=>obtain ⟨_,e⟩:=bound_dflt h2;subst e;exact ⟨Nat.zero_le _,fun _=>rfl⟩
     | some o=>exact ⟨(bound_run (P:=P) (code:=.index) hcx h2 (Nat.le_refl _)).2,fun code=>(bound_run (P:=P) (code:=code) hcx h2 (Nat.le_refl _)).1⟩
    have r1:=hH.2 .sliceAlen
    have r2:=hL.2 .sliceB
    refine does_val (v:=.string ⟨((l.take hh).drop ll).toArray⟩) ?_ .str
    cases hi<;>cases lo<;>(try obtain ⟨_,rfl⟩:=bound_dflt h1)<;>(try obtain ⟨_,rfl⟩:=bound_dflt h2)<;>(try simp only [Option.map_some] at r1)<;>(try simp only [Option.map_some] at r2) <;>
     simp only [execOp,hop,hev,Option.map_some,Option.map_none,Instr.sliceAt,Instr.slice,Sem.run_bind,run_underlying hu,Result.andThen_ok,Instr.sliceBounds,Sem.run_pure,Option.isSome_none,Bool.false_eq_true,if_false,hsz,r1,r2,ba_extract]
   ·simp at h
  ·simp at h
 ·simp at h
theorem s_slice {t:TypeId} {x:Operand} {lo hi mx:Option Operand} (hop:o.op=.slice t x lo hi mx) (h:native P p loc nx o=some (true,res)):Does P w A r loc nx (execOp ev o) res:=by
 cases mx with
 | none=>
  simp only [native,hop] at h
  split at h
  ·rename_i rr ha
   injection h with h;subst h
   exact arrSl_does hcx hop ha
  split at h
  ·rename_i v n hx hs
   split at h
   ·rename_i len hsp
    split at h
    ·rename_i c1 hh h1
     split at h
     ·rename_i c2 l h2
      simp at h
      obtain ⟨⟨hc1,hc2⟩,h⟩:=h
      subst hc1;subst hc2;subst h
      obtain ⟨a,c,hev,hcap,hcap3,hcap4,hcap2,hcut⟩:=cut_rel hcx hsp (hcx.val _ _ hx)
      unfold sliceT at hs
      split at hs
      ·rename_i e hu
       have hH:hh≤spareAV loc len v∧∀ (code1:BoundsCode),((match hi.map ev with | some v=>Instr.sliceBound v c code1 | none=>pure len):Sem Nat).run P w=.ok hh w:=by
        cases hi with
        | none=>obtain ⟨_,e⟩:=bound_dflt h1;subst e;exact ⟨hcap4,fun _=>rfl⟩
        | some o=>exact ⟨(bound_run (P:=P) (code:=.index) hcx h1 hcap3).2,fun code=>(bound_run (P:=P) (code:=code) hcx h1 hcap3).1⟩
       have hL:l≤hh∧∀ (code1:BoundsCode),((match lo.map ev with | some v=>Instr.sliceBound v hh code1 | none=>pure 0):Sem Nat).run P w=.ok l w:=by
        cases lo with
        | none=>obtain ⟨_,e⟩:=bound_dflt h2;subst e;exact ⟨Nat.zero_le _,fun _=>rfl⟩
        | some o=>exact ⟨(bound_run (P:=P) (code:=.index) hcx h2 (Nat.le_refl _)).2,fun code=>(bound_run (P:=P) (code:=code) hcx h2 (Nat.le_refl _)).1⟩
       refine does_val ?_ (hcut l hh c _ hL.1 hH.1 (Nat.le_trans hH.1 hcap3) (fun _=>rfl) (fun wd m get row ln cp he y hy=>by cases hcc:cp with | none=>simp [hcc] at hy | some z=>simp [hcc] at hy;have:=hcap2 _ _ _ _ _ _ he z hcc;omega))
       have r1:=hH.2 .sliceAcap
       have r2:=hL.2 .sliceB
       cases hi<;>cases lo<;>(try obtain ⟨_,rfl⟩:=bound_dflt h1)<;>(try obtain ⟨_,rfl⟩:=bound_dflt h2)<;>(try simp only [Option.map_some] at r1)<;>(try simp only [Option.map_some] at r2) <;>
        simp only [execOp,hop,hev,Option.map_some,Option.map_none,Instr.sliceAt,Instr.slice,Sem.run_bind,run_underlying hu,Result.andThen_ok,Instr.sliceBounds,Sem.run_pure,if_true,Option.isSome_none,Bool.false_eq_true,if_false,r1,r2,run_sizeOf' hs]
      ·simp at hs
     ·simp at h
    ·simp at h
   ·simp at h
  ·simp at h
 | some m=>
  cases hi with
  | none=>simp [native,hop] at h
  | some hi=>
  simp only [native,hop] at h
  split at h
  ·rename_i v n hx hs
   split at h
   ·rename_i len hsp
    split at h
    ·rename_i c0 k h0
     split at h
     ·rename_i c1 hh h1
      split at h
      ·rename_i c2 l h2
       simp at h
       obtain ⟨⟨hc0,hc1,hc2⟩,h⟩:=h
       subst hc0;subst hc1;subst hc2;subst h
       obtain ⟨a,c,hev,hlc,_,hlc4,_,hcut⟩:=cut_rel hcx hsp (hcx.val _ _ hx)
       unfold sliceT at hs
       split at hs
       ·rename_i e hu
        have hK:=bound_run (P:=P) (code:=.slice3Acap) hcx h0 hlc
        have hH:=bound_run (P:=P) (code:=.slice3B) hcx h1 (Nat.le_refl _)
        have hL:l≤hh∧∀ (code1:BoundsCode),((match lo.map ev with | some v=>Instr.sliceBound v hh code1 | none=>pure 0):Sem Nat).run P w=.ok l w:=by
         cases lo with
         | none=>obtain ⟨_,e⟩:=bound_dflt h2;subst e;exact ⟨Nat.zero_le _,fun _=>rfl⟩
         | some o=>exact ⟨(bound_run (P:=P) (code:=.index) hcx h2 (Nat.le_refl _)).2,fun code=>(bound_run (P:=P) (code:=code) hcx h2 (Nat.le_refl _)).1⟩
        have hcut3:VR w A r (cut3AV n l hh (fun _=>some (k - l)) v) (.slice (if k=l then a else a.map (·.add (l * n))) (hh - l) (k - l)):=by
         unfold cut3AV
         split
         ·exact .top
         ·rename_i ho
          exact hcut l hh k _ hL.1 (Nat.le_trans (Nat.le_trans hH.2 hK.2) hlc4) hH.2 (fun h=>by rw [ho] at h;cases h) (fun _ _ _ _ _ _ _ y hy=>by injection hy)
        refine does_val ?_ hcut3
        have r2:=hL.2 .slice3C
        cases lo<;>(try obtain ⟨_,rfl⟩:=bound_dflt h2)<;>(try simp only [Option.map_some] at r2) <;>
         simp only [execOp,hop,hev,Option.map_some,Option.map_none,Instr.sliceAt,Instr.slice,Sem.run_bind,run_underlying hu,Result.andThen_ok,Instr.sliceBounds,Sem.run_pure,if_true,Option.isSome_some,hK.1,hH.1,r2,run_sizeOf' hs]
       ·simp at hs
      ·simp at h
     ·simp at h
    ·simp at h
   ·simp at h
  ·simp at h
omit hcx in
theorem keyCK_desc {kt:TypeId} {kc:CK} (h:keyCK P kt=some kc):∃ d,P.underlying kt=some d∧((∃ k,d=.int k∧kc=.int k)∨(d=.string∧kc=.str)):=by
 unfold keyCK at h
 split at h
 ·rename_i k hk;injection h with h;exact ⟨_,hk,.inl ⟨k,rfl,h.symm⟩⟩
 ·rename_i hk;injection h with h;exact ⟨_,hk,.inr ⟨rfl,h.symm⟩⟩
 ·cases h
omit hcx in
theorem tag_int {k:IntKind} {x:AV} (h:ckEq (.int k) (tagOf x)=true):∃ n,x=.int k n:=by
 cases x<;>simp only [tagOf] at h
 case int k' n=>simp [ckEq] at h;subst h;exact ⟨n,rfl⟩
 case xsl=>split at h<;>simp [ckEq] at h
 all_goals simp [ckEq] at h
omit hcx in
theorem tag_str {x:AV} (h:ckEq .str (tagOf x)=true):∃ l,x=.str l:=by
 cases x<;>simp only [tagOf] at h
 case str l=>exact ⟨l,rfl⟩
 case xsl=>split at h<;>simp [ckEq] at h
 all_goals simp [ckEq] at h
omit hcx in
theorem key_same {d:TypeDesc} {kc:CK} (hd:(∃ k,d=.int k∧kc=.int k)∨(d=.string∧kc=.str)) {x:AV} {v:Value} (hx:ckEq kc (tagOf x)=true) (hv:VR w A r x v) :
  MapKept.IsKey d v∧∀ (y:AV) (v':Value),ckEq kc (tagOf y)=true→VR w A noR y v'→Instr.sameNow d v v'=some (keyIs x y):=by
 rcases hd with ⟨k,rfl,rfl⟩ | ⟨rfl,rfl⟩
 ·obtain ⟨n,rfl⟩:=tag_int hx
  cases hv
  refine ⟨rfl,fun y v' hy hv'=>?_⟩
  obtain ⟨n',rfl⟩:=tag_int hy
  cases hv'
  simp [Instr.sameNow,keyIs]
 ·obtain ⟨l,rfl⟩:=tag_str hx
  cases hv
  refine ⟨trivial,fun y v' hy hv'=>?_⟩
  obtain ⟨l',rfl⟩:=tag_str hy
  cases hv'
  have:((⟨l.toArray⟩:ByteArray) == ⟨l'.toArray⟩)=(l == l'):=by
   show (l.toArray == l'.toArray)=_
   simp
  simp only [Instr.sameNow,keyIs,this]
omit hcx in
theorem findNow_list {d:TypeDesc} {key:Value} {q:Nat→Bool}:∀ (es:List MapEntry) (i0:Nat),(∀ i e,es[i]?=some e→Instr.sameNow d key e.key=some (q (i0+i))) →
  Instr.findNow d key es i0=some (match (List.range' i0 es.length).find? q with
   | some i=>(es[i - i0]?).map fun e=>(i,e.val)
   | none=>none)
 | [],i0,_=>rfl
 | e :: es,i0,h=>by
  have h0:=h 0 e rfl
  rw [Nat.add_zero] at h0
  rw [Instr.findNow,h0,List.length_cons,List.range'_succ]
  cases hq:q i0 with
  | true=>simp [hq]
  | false=>
   rw [List.find?_cons_of_neg (by simp [hq])]
   simp only
   rw [findNow_list es (i0+1) (fun i e' he=>by rw [show i0+1+i=i0+(i+1) by omega];exact h (i+1) e' (by simpa using he))]
   cases hf:(List.range' (i0+1) es.length).find? q with
   | none=>rfl
   | some i=>
    have:=List.mem_of_find?_eq_some hf
    rw [List.mem_range'_1] at this
    simp only
    rw [show i - i0=(i - (i0+1))+1 by omega,List.getElem?_cons_succ]
def entOf (es:Array MapEntry) (o:Option Nat):Option (Nat × Value):=match o with
 | some i=>(es[i]?).map fun (e:MapEntry)=>(i,e.val)
 | none=>none
omit hcx in
theorem find_rows {kt:TypeId} {kc:CK} (hk:keyCK P kt=some kc) {ag:Bool} {wd n:Nat} {g:Get AV} {es:Array MapEntry} (hes:EsR w A ag wd n g es) (h0:0<wd) (hg:ckEq (ckAt g.tag 0) kc=true) {x:AV} {v:Value} (hx:ckEq kc (tagOf x)=true) (hv:VR w A r x v) :
  (∃ d,P.underlying kt=some d∧MapKept.IsKey d v)∧(Instr.findKey kt v es.toList).run P w=.ok (entOf es (mfind g x n)) w∧∀ i,mfind g x n=some i→i<n:=by
 obtain ⟨d,hd,hdd⟩:=keyCK_desc hk
 obtain ⟨u,hs,hu,hval⟩:=hes
 obtain ⟨k1,k2⟩:=key_same hdd hx hv
 refine ⟨⟨d,hd,k1⟩,?_,fun i hi=>?_⟩
 ·have hkc:=ckEq_eq hg
  have hn:=findNow_list (d:=d) (key:=v) (q:=fun i=>keyIs x (g.cell i 0)) es.toList 0 (fun i e he=>by
   rw [Nat.zero_add]
   rw [Array.getElem?_toList] at he
   have hi:i<n:=by rw [← hs];exact (Array.getElem?_eq_some_iff.1 he).1
   obtain ⟨e',he',e1,_⟩:=hu i hi
   rw [he] at he';injection he' with he';subst he'
   rw [e1]
   refine k2 (g.cell i 0) (u i 0) ?_ (hval i 0 hi h0)
   simp only [Get.cell,hkc]
   rcases hdd with ⟨k,_,rfl⟩ | ⟨_,rfl⟩<;>simp [conf,tagOf,ckEq])
  rw [MapKept.run_findKey hd hn]
  have e:(List.range' 0 es.toList.length).find? (fun i=>keyIs x (g.cell i 0))=mfind g x n:=by
   unfold mfind
   rw [List.range_eq_range',Array.length_toList,hs]
  rw [e]
  unfold entOf
  cases mfind g x n with
  | none=>rfl
  | some i=>simp
 ·unfold mfind at hi
  exact List.mem_range.1 (List.mem_of_find?_eq_some hi)
omit hcx in
theorem fullCK_lt {l:List CK} {n k:Nat} (h:fullCK l n=true) (hk:k<n):ckAt l k≠.any:=oneCK_at (fullCK_one h) hk
omit hcx in
theorem bEq_eq:∀ {a b:Bool},bEq a b=true→a=b
 | true,true,_=>rfl
 | false,false,_=>rfl
 | true,false,h=>by simp [bEq] at h
 | false,true,h=>by simp [bEq] at h
omit hcx in
theorem tagged_at {l:List CK}:∀ {xs:List AV} {k:Nat},tagged l xs k=true→∀ (i:Nat) x,xs[i]?=some x→ckEq (ckAt l (k+i)) (tagOf x)=true
 | [],k,_,i,x,h=>by simp at h
 | y :: xs,k,h,i,x,hx=>by
  simp only [tagged,Bool.and_eq_true] at h
  cases i with
  | zero=>simp at hx;subst hx;exact h.1
  | succ i=>have:=tagged_at h.2 i x (by simpa using hx);rwa [show k+(i+1)=k+1+i by omega]
omit hcx in
theorem mcells_get (g:Get AV) (o:Option Nat):∀ (zs:List AV) (k i:Nat) (z:AV),zs[i]?=some z→(mcells g o zs k)[i]?=some (mcell g o z (k+i))
 | [],_,_,_,h=>by simp at h
 | y :: zs,k,i,z,h=>by
  cases i with
  | zero=>simp at h;subst h;rfl
  | succ i=>rw [mcells,List.getElem?_cons_succ,mcells_get g o zs (k+1) i z (by simpa using h),show k+1+i=k+(i+1) by omega]
omit hcx in
theorem mcells_length (g:Get AV) (o:Option Nat):∀ (zs:List AV) (k:Nat),(mcells g o zs k).length=zs.length
 | [],_=>rfl
 | _ :: zs,k=>by rw [mcells,List.length_cons,List.length_cons,mcells_length g o zs]
omit hcx in
theorem zero_shape {t:TypeId} {cs:List AV} (h:zeroAV P t=some cs):∃ v,(zeroValue t).run P w=.ok v w∧VRs w A r cs v.cells∧(zeroAgg P t=true→∃ us,v=.agg us)∧(zeroAgg P t=false→v.cells=#[v]):=by
 obtain ⟨v,h1,h2⟩:=run_zero' (P:=P) (w:=w) (A:=A) (r:=r) h
 refine ⟨v,h1,h2,?_⟩
 unfold zeroAV at h
 split at h
 ·rename_i i hi
  split at h
  ·rename_i z hz
   have:(zeroValue t).run P w=.ok z w:=by simp [zeroValue,typeInfo,hi,hz]
   rw [this] at h1
   injection h1 with h1
   subst h1
   unfold zeroAgg
   rw [hi]
   simp only [hz]
   cases z with
   | agg us=>exact ⟨fun _=>⟨us,rfl⟩,fun h=>by simp at h⟩
   | _=>exact ⟨fun h=>by simp at h,fun _=>rfl⟩
  ·cases h
 ·cases h
theorem map_look {kt vt:TypeId} {t:TypeId} {m:Operand} (_hu:P.underlying t=some (.map kt vt)) {x:AV} (hm:p m=some x) {ag:Bool} {wd n:Nat} {g:Get AV} (hr:mapRows loc x=some (ag,wd,n,g)) :
  ∃ b es clock,ev m=.map (some b)∧w.heap[b]?=some (.map es clock)∧EsR w A ag wd n g es:=by
 have hv:=hcx.val _ _ hm
 generalize ev m=z at hv
 unfold mapRows at hr
 split at hr
 ·split at hr
  ·rename_i j t' ag' wd' n' g' hj
   injection hr with hr
   simp only [Prod.mk.injEq] at hr
   obtain ⟨rfl,rfl,rfl,rfl⟩:=hr
   obtain ⟨b,hb,es,clock,hh,_,hes⟩:=hcx.mem _ _ hj
   cases hv with
   | mp h=>rw [hb] at h;injection h with h;subst h;exact ⟨_,es,clock,rfl,hh,hes⟩
  ·cases hr
 ·injection hr with hr
  simp only [Prod.mk.injEq] at hr
  obtain ⟨rfl,rfl,rfl,rfl⟩:=hr
  cases hv with
  | xmp b clock es u hb hA he hs hu2 hv=>exact ⟨b,es,clock,rfl,he,u,hs.1,hu2,hv⟩
 ·cases hr
omit hcx in
theorem look_val {ag:Bool} {wd n:Nat} {g:Get AV} {es:Array MapEntry} (hes:EsR w A ag wd n g es) {zs:List AV} {z:Value} (hz:VRs w A r zs z.cells) (hz1:ag=true→∃ us,z=.agg us) (hz2:ag=false→z.cells=#[z]) (hwd:zs.length+1=wd)
  (ht:tagged g.tag zs 1=true) {o:Option Nat} (ho:∀ i,o=some i→i<n) {y:AV} (hy:(ag=true∧y=.agg (mcells g o zs 1))∨(ag=false∧∃ c,zs=[c]∧y=mcell g o c 1)) :
  VR w A r y (match entOf es o with | some (_,v)=>v | none=>z)∧(entOf es o).isSome=o.isSome:=by
 obtain ⟨u,hs,hu,hval⟩:=hes
 cases o with
 | none=>
  refine ⟨?_,rfl⟩
  have hc:∀ (i:Nat) c,zs[i]?=some c→mcell g none c (1+i)=c:=fun i c hc=>conf_ck (tagged_at ht i c hc)
  rcases hy with ⟨ha,rfl⟩ | ⟨ha,c,rfl,rfl⟩
  ·obtain ⟨us,rfl⟩:=hz1 ha
   refine .agg (by rw [mcells_length];exact hz.1) (fun i x v hx hv=>?_)
   have hi:i<zs.length:=by rw [← mcells_length g none zs 1];exact (List.getElem?_eq_some_iff.1 hx).1
   rw [mcells_get g none zs 1 i _ (List.getElem?_eq_getElem hi),hc i _ (List.getElem?_eq_getElem hi)] at hx
   injection hx with hx;subst hx
   exact hz.2 i _ v (List.getElem?_eq_getElem hi) hv
  ·have e:=hc 0 c rfl
   rw [Nat.add_zero] at e
   rw [e]
   have:=hz2 ha
   exact hz.2 0 c z rfl (by rw [this];rfl)
 | some i=>
  have hi:=ho i rfl
  obtain ⟨e,he,e1,e2⟩:=hu i hi
  have:entOf es (some i)=some (i,e.val):=by unfold entOf;simp only [he,Option.map_some]
  rw [this]
  refine ⟨?_,rfl⟩
  simp only
  rw [e2]
  rcases hy with ⟨ha,rfl⟩ | ⟨ha,c,rfl,rfl⟩
  ·subst ha
   unfold valOf
   refine .agg (by rw [mcells_length];simp;omega) (fun k x v hx hv=>?_)
   have hk:k<zs.length:=by rw [← mcells_length g (some i) zs 1];exact (List.getElem?_eq_some_iff.1 hx).1
   rw [mcells_get g (some i) zs 1 k _ (List.getElem?_eq_getElem hk)] at hx
   injection hx with hx;subst hx
   simp [show k<wd - 1 by omega] at hv
   subst hv
   have:=hval i (k+1) hi (by omega)
   rw [show 1+k=k+1 by omega]
   exact lift0 this
  ·subst ha
   have:=hval i 1 hi (by simp at hwd;omega)
   exact lift0 this
theorem s_lookup1 {t:TypeId} {m k:Operand} {ok:Bool} {x key:AV} (hop:o.op=.lookup t m k ok) (hm:p m=some x) (hkey:p k=some key) (h:lookAV P loc t x key ok=some (true,res)):Does P w A r loc nx (execOp ev o) res:=by
 ·unfold lookAV at h
  split at h
  ·rename_i kt vt hu
   split at h
   ·rename_i ag wd n g kc hrows hck
    split at h
    ·rename_i ag' zs hag hzs
     split at h
     ·rename_i hc
      simp only [Bool.and_eq_true] at hc
      obtain ⟨⟨c1,c2,c3⟩,⟨c4,c5⟩,c6,c7⟩:=hc
      have c6:=Nat.eq_of_beq_eq_true c6
      obtain ⟨b,es,clock,hev,hh,hes⟩:=map_look hcx hu hm hrows
      obtain ⟨⟨d,hd,hik⟩,hfind,hlt⟩:=find_rows hck hes (by omega) c4 c3 (hcx.val _ _ hkey)
      obtain ⟨z,hz,hzc,hz1,hz2⟩:=zero_shape (w:=w) (A:=A) (r:=r) hzs
      have c2:=bEq_eq c2
      have key2:∀ y,((ag=true∧y=.agg (mcells g (mfind g key n) zs 1))∨(ag=false∧∃ c,zs=[c]∧y=mcell g (mfind g key n) c 1))→res=.val (lookRes (mfind g key n) ok y)→Does P w A r loc nx (execOp ev o) res:=by
       intro y hy hres
       subst hres
       obtain ⟨hv,hs⟩:=look_val hes hzc (fun e=>hz1 (by rw [← c2];exact e)) (fun e=>hz2 (by rw [← c2];exact e)) c6 c7 hlt hy
       have hck2:=fun e=>MapKept.run_checkKey (w:=w) hd hik e 9999
       generalize hq:entOf es (mfind g key n)=q at hfind hv hs
       cases q with
       | none=>
        refine does_val (v:=if ok then .tuple #[z,.bool false] else z) ?_ ?_
        ·simp only [execOp,hop,hev,Instr.lookup,Sem.run_bind,run_underlying hu,Result.andThen_ok,MapKept.run_getObj_map hh,Sem.run_pure,hck2,hfind,hz]
        ·unfold lookRes
         cases ok with
         | true=>exact .tup rfl (fun i x v hx hv2=>by
           match i with
           | 0=>simp at hx hv2;subst hx;subst hv2;exact hv
           | 1=>simp at hx hv2;subst hx;subst hv2;rw [← hs];exact .bool
           | i+2=>simp at hx)
         | false=>exact hv
       | some iv=>
        obtain ⟨i,v⟩:=iv
        refine does_val (v:=if ok then .tuple #[v,.bool true] else v) ?_ ?_
        ·simp only [execOp,hop,hev,Instr.lookup,Sem.run_bind,run_underlying hu,Result.andThen_ok,MapKept.run_getObj_map hh,Sem.run_pure,hck2,hfind]
        ·unfold lookRes
         cases ok with
         | true=>exact .tup rfl (fun i x v hx hv2=>by
           match i with
           | 0=>simp at hx hv2;subst hx;subst hv2;exact hv
           | 1=>simp at hx hv2;subst hx;subst hv2;rw [← hs];exact .bool
           | i+2=>simp at hx)
         | false=>exact hv
      cases ag with
      | true=>simp only [Option.some.injEq,Prod.mk.injEq,true_and] at h;exact key2 _ (.inl ⟨rfl,rfl⟩) h.symm
      | false=>
       simp only at h
       split at h
       ·simp only [Option.some.injEq,Prod.mk.injEq,true_and] at h;exact key2 _ (.inr ⟨rfl,_,rfl,rfl⟩) h.symm
       ·cases h
     ·cases h
    ·cases h
   ·cases h
  ·cases h
omit hcx in
theorem keys_rows {n:Nat} {g:Get AV} {es:Array MapEntry} (hs:es.size=n) (h:∀ i,i<n→∃ x,es[i]?=some x∧VR w A noR (g i 0) x.key):EsR w A false 1 n g es:=by
 refine ⟨fun i k=>match es[i]? with | some x=>(match k with | 0=>x.key | _=>x.val) | none=>.nilFunc,hs,fun i hi=>?_,fun i k hi hk=>?_⟩
 ·obtain ⟨x,hx,_⟩:=h i hi
  exact ⟨x,hx,by simp [hx],by simp [valOf,hx]⟩
 ·obtain ⟨x,hx,hv⟩:=h i hi
  have:k=0:=by omega
  subst this
  simp only [hx];exact hv
omit hcx in
theorem fmapLook_find:∀ (ks vs:List AV) (key:AV),vs.length=ks.length→fmapLook ks vs key=match ks.findIdx? (fun x=>keyIs key x) with
  | some i=>(vs[i]?).getD .top
  | none=>.nilfn
 | [],vs,key,_=>by cases vs<;>rfl
 | k :: ks,[],key,h=>by simp at h
 | k :: ks,v :: vs,key,h=>by
  simp only [fmapLook,List.findIdx?_cons]
  cases hk:keyIs key k with
  | true=>rfl
  | false=>
   simp only
   rw [fmapLook_find ks vs key (by simpa using h)]
   cases ks.findIdx? (fun x=>keyIs key x)<;>rfl
omit hcx in
theorem fmapHit_find:∀ (ks vs:List AV) (key:AV),vs.length=ks.length→fmapHit ks vs key=(ks.findIdx? (fun x=>keyIs key x)).isSome
 | [],vs,key,_=>by cases vs<;>rfl
 | k :: ks,[],key,h=>by simp at h
 | k :: ks,v :: vs,key,h=>by
  simp only [fmapHit,List.findIdx?_cons]
  cases hk:keyIs key k with
  | true=>rfl
  | false=>
   simp only
   rw [fmapHit_find ks vs key (by simpa using h)]
   cases ks.findIdx? (fun x=>keyIs key x)<;>rfl
omit hcx in
theorem range_find:∀ (ks:List AV) (q:AV→Bool) (f:Nat→AV),(∀ i x,ks[i]?=some x→f i=x)→(List.range ks.length).find? (fun i=>q (f i))=ks.findIdx? q
 | [],q,f,_=>rfl
 | k :: ks,q,f,h=>by
  rw [List.length_cons,List.range_succ_eq_map,List.find?_cons,List.findIdx?_cons,h 0 k rfl]
  cases q k with
  | true=>rfl
  | false=>
   simp only [Bool.false_eq_true,if_false]
   rw [List.find?_map,← range_find ks q (fun i=>f (i+1)) (fun i x hx=>h (i+1) x (by simpa using hx))]
   rfl
theorem fmap_find {t kt vt:TypeId} (_hu:P.underlying t=some (.map kt vt)) {kc:CK} (hck:keyCK P kt=some kc) {u:TypeId} {j:Nat} {m k:Operand} {key:AV} (hm:p m=some (.mp j)) (hkey:p k=some key) {ks vs:List AV} (hj:loc j=some (.fmap u ks vs))
  (c1:ckEq kc (tagOf key)=true) (c2:(ks.all fun x=>ckEq kc (tagOf x))=true) :
  ∃ b es clock,ev m=.map (some b)∧r (.obj j)=some b∧w.heap[b]?=some (.map es clock)∧FmapE w A r ks vs es∧(∃ d,P.underlying kt=some d∧MapKept.IsKey d (ev k))∧(Instr.findKey kt (ev k) es.toList).run P w=.ok (entOf es (ks.findIdx? fun x=>keyIs key x)) w ∧
   ∀ i,(ks.findIdx? fun x=>keyIs key x)=some i→i<ks.length:=by
 have hv:=hcx.val _ _ hm
 obtain ⟨b,es,clock,hb,hh,hfe⟩:=hcx.mem _ _ hj
 have hev:ev m=.map (some b):=by
  generalize ev m=z at hv
  cases hv with
  | mp h=>rw [hb] at h;injection h with h;subst h;rfl
 obtain ⟨hs,hl,hes⟩:=id hfe
 have hcell:∀ i x,ks[i]?=some x→(⟨[kc],fun i _=>(ks[i]?).getD .top⟩:Get AV).cell i 0=x:=fun i x hx=>by
  simp only [Get.cell,hx,Option.getD_some,ckAt]
  exact conf_ck (List.all_eq_true.1 c2 x (List.mem_of_getElem? hx))
 have hrows:EsR w A false 1 ks.length ⟨[kc],fun i _=>(ks[i]?).getD .top⟩ es:=keys_rows hs (fun i hi=>by
  obtain ⟨x,kx,_,h1,h2,_,h4,_⟩:=hes i hi
  exact ⟨x,h1,by rw [hcell i kx h2];exact h4⟩)
 obtain ⟨hd,hfind,hlt⟩:=find_rows hck hrows (by omega) (by rcases keyCK_desc hck with ⟨d,_,⟨k,_,rfl⟩ | ⟨_,rfl⟩⟩<;>simp [ckAt,ckEq]) c1 (hcx.val _ _ hkey)
 have e:mfind ⟨[kc],fun i _=>(ks[i]?).getD .top⟩ key ks.length=ks.findIdx? fun x=>keyIs key x:=by
  unfold mfind
  exact range_find ks (fun x=>keyIs key x) _ hcell
 rw [e] at hfind hlt
 exact ⟨b,es,clock,hev,hb,hh,hfe,hd,hfind,hlt⟩
theorem s_lookupF {t:TypeId} {m k:Operand} {ok:Bool} {x key:AV} {ks vs:List AV} (hop:o.op=.lookup t m k ok) (hm:p m=some x) (hkey:p k=some key) (h:fLook P loc t x key=some (ks,vs)):Does P w A r loc nx (execOp ev o) (.val (okRes ok (fmapHit ks vs key) (fmapLook ks vs key))):=by
 unfold fLook at h
 split at h
 case h_2=>cases h
 rename_i j
 split at h
 case h_2=>cases h
 rename_i u ks' vs' kt vt hj hu
 split at h
 case h_2=>cases h
 rename_i kc hck hzs
 split at h
 case h_2=>cases h
 rename_i hc
 injection h with h;injection h with h1 h2;subst h1;subst h2
 simp only [Bool.and_eq_true] at hc
 obtain ⟨c1,c2,c3,c4⟩:=hc
 have c3:=Nat.eq_of_beq_eq_true c3
 obtain ⟨b,es,clock,hev,_,hh,⟨hs,hl,hes⟩,⟨d,hd,hik⟩,hfind,hlt⟩:=fmap_find hcx hu hck hm hkey hj c1 c2
 obtain ⟨z,hz,hzc,hz1,hz2⟩:=zero_shape (w:=w) (A:=A) (r:=r) hzs
 have hck2:=fun e=>MapKept.run_checkKey (w:=w) hd hik e 9999
 rw [fmapLook_find ks' vs' key c3.symm,fmapHit_find ks' vs' key c3.symm]
 generalize (ks'.findIdx? fun x=>keyIs key x)=q at hfind hlt
 have two:∀ {a:AV} {va:Value} {c:Bool},VR w A r a va→VR w A r (.tup [a,.bool c]) (.tuple #[va,.bool c]):=fun {a va c} ha=>.tup rfl fun i x u hx hu=>by
  match i,hx,hu with
  | 0,hx,hu=>injection hx with hx;injection hu with hu;subst hx;subst hu;exact ha
  | 1,hx,hu=>injection hx with hx;injection hu with hu;subst hx;subst hu;exact .bool
  | i+2,hx,hu=>simp at hu
 cases q with
 | none=>
  have hzn:VR w A r .nilfn z:=by
   have h2:=hz2 (by simpa using c4)
   rw [h2] at hzc
   exact hzc.2 0 .nilfn z rfl rfl
  cases ok with
  | false=>
   refine does_val (v:=z) ?_ hzn
   simp only [execOp,hop,hev,Instr.lookup,Sem.run_bind,run_underlying hu,Result.andThen_ok,MapKept.run_getObj_map hh,Sem.run_pure,hck2,hfind,entOf,hz,Bool.false_eq_true,if_false]
  | true=>
   refine does_val (v:=.tuple #[z,.bool false]) ?_ (two hzn)
   simp only [execOp,hop,hev,Instr.lookup,Sem.run_bind,run_underlying hu,Result.andThen_ok,MapKept.run_getObj_map hh,Sem.run_pure,hck2,hfind,entOf,hz,if_true]
 | some i=>
  have hi:=hlt i rfl
  obtain ⟨x,kx,vx,g1,g2,g3,g4,g5⟩:=hes i hi
  have hx5:VR w A r ((vs'[i]?).getD .top) x.val:=by simp only [g3,Option.getD_some];exact g5
  cases ok with
  | false=>
   refine does_val (v:=x.val) ?_ hx5
   simp only [execOp,hop,hev,Instr.lookup,Sem.run_bind,run_underlying hu,Result.andThen_ok,MapKept.run_getObj_map hh,Sem.run_pure,hck2,hfind,entOf,g1,Option.map_some,Bool.false_eq_true,if_false]
  | true=>
   refine does_val (v:=.tuple #[x.val,.bool true]) ?_ (two hx5)
   simp only [execOp,hop,hev,Instr.lookup,Sem.run_bind,run_underlying hu,Result.andThen_ok,MapKept.run_getObj_map hh,Sem.run_pure,hck2,hfind,entOf,g1,Option.map_some,if_true]
theorem s_lookupP {t:TypeId} {m k:Operand} {ok:Bool} {x key:AV} {n:Nat} {g:Get AV} (hop:o.op=.lookup t m k ok) (hm:p m=some x) (hkey:p k=some key) (h:pLook P t x key ok=some (n,g)):Does P w A r loc nx (execOp ev o) (.val (ptrAt g (mfind g key n))):=by
 unfold pLook at h
 split at h
 case h_2=>cases h
 rename_i pw phk phwd n' g0 phl pht phf
 split at h
 case h_2=>cases h
 rename_i kt vt hu
 split at h
 case h_2=>cases h
 rename_i kc hck hzs
 split at h
 case h_2=>cases h
 rename_i hc
 injection h with h;injection h with h1 h2;subst h1;subst h2
 simp only [Bool.and_eq_true] at hc
 obtain ⟨⟨c1,c2⟩,c5⟩:=hc
 obtain ⟨b,es,clock,hev,hh,hes⟩:∃ b es clock,ev m=.map (some b)∧w.heap[b]?=some (.map es clock)∧EsR w A false 2 n' (poolG g0 pw phk phwd phl pht phf) es:=by
  have hv:=hcx.val _ _ hm
  generalize ev m=z at hv
  cases hv with
  | xpool hv=>cases hv with
   | xmp b clock es u hb hA he hs hu2 hv=>exact ⟨b,es,clock,rfl,he,u,hs.1,hu2,hv⟩
 have c2:ckEq (ckAt (poolG g0 pw phk phwd phl pht phf).tag 0) kc=true:=c2
 generalize poolG g0 pw phk phwd phl pht phf=g' at hes c2 ⊢
 obtain ⟨⟨d,hd,hik⟩,hfind,hlt⟩:=find_rows hck hes (by omega) c2 c1 (hcx.val _ _ hkey)
 obtain ⟨z,hz,hzc,hz1,hz2⟩:=zero_shape (w:=w) (A:=A) (r:=r) hzs
 have hck2:=fun e=>MapKept.run_checkKey (w:=w) hd hik e 9999
 obtain ⟨u,hs,hu',hval⟩:=hes
 cases ho:mfind g' key n' with
 | none=>
  rw [ho] at hfind
  refine does_val (v:=z) ?_ ?_
  ·simp only [execOp,hop,hev,Instr.lookup,Sem.run_bind,run_underlying hu,Result.andThen_ok,MapKept.run_getObj_map hh,Sem.run_pure,hck2,hfind,entOf,hz,Bool.false_eq_true,if_false]
  ·have h2:=hz2 (by simpa using c5)
   rw [h2] at hzc
   exact hzc.2 0 .nilptr z rfl rfl
 | some i=>
  rw [ho] at hfind
  have hi:=hlt i ho
  obtain ⟨e,he,_,e2⟩:=hu' i hi
  refine does_val (v:=e.val) ?_ (by rw [e2];exact lift0 (hval i 1 hi (by omega)))
  simp only [execOp,hop,hev,Instr.lookup,Sem.run_bind,run_underlying hu,Result.andThen_ok,MapKept.run_getObj_map hh,Sem.run_pure,hck2,hfind,entOf,he,Option.map_some,Bool.false_eq_true,if_false]
theorem s_lookup {t:TypeId} {m k:Operand} {ok:Bool} (hop:o.op=.lookup t m k ok) (h:native P p loc nx o=some (true,res)):Does P w A r loc nx (execOp ev o) res:=by
 simp only [native,hop] at h
 split at h
 ·rename_i x key hm hkey
  unfold lookAV2 at h
  split at h
  ·rename_i ks vs hf
   simp only [Option.some.injEq,Prod.mk.injEq,true_and] at h;subst h
   exact s_lookupF hcx hop hm hkey hf
  ·split at h
   ·rename_i n g hf
    simp only [Option.some.injEq,Prod.mk.injEq,true_and] at h;subst h
    exact s_lookupP hcx hop hm hkey hf
   ·exact s_lookup1 hcx hop hm hkey h
 ·cases h
omit hcx in
theorem tag_noL {c:CK} (hc:c≠.any) {x:AV} (h:ckEq c (tagOf x)=true):noL0 x=true:=by
 cases x<;>first | rfl | (exfalso;have:=ckEq_eq h;exact hc (by simpa [tagOf] using this))
omit hcx in
theorem put_rows {ag:Bool} {wd n:Nat} {g:Get AV} {es:Array MapEntry} (hes:EsR w A ag wd n g es) {kc:CK} {d:TypeDesc} (_hdd:(∃ k,d=.int k∧kc=.int k)∨(d=.string∧kc=.str)) (hg:ckEq (ckAt g.tag 0) kc=true) (hf:fullCK g.tag wd=true) {x:AV} {v:Value} (hx:ckEq kc (tagOf x)=true) (hv:VR w A r x v)
  {y:AV} {z:Value} {xs:List AV} (hy:VR w A r y z) (hc:cellsAV y=some xs) (hag:ag=isAggAV y) (hwd:xs.length+1=wd) (ht:tagged g.tag xs 1=true) {q:Nat} (hq:q≤n) {es':Array MapEntry} {n':Nat} (hs:es'.size=n') (hn':n'=if q<n then n else n+1)
  (hes1:∀ i,i≠q→i<n→es'[i]?=es[i]?) (hes2:∃ bn,es'[q]?=some ⟨v,z,bn⟩):EsR w A ag wd n' (mputG g q (x :: xs)) es':=by
 obtain ⟨u,hs0,hu,hval⟩:=hes
 have hcs:=cells_rel hc hy
 refine ⟨fun i k=>if i=q then (match k with | 0=>v | k+1=>(z.cells[k]?).getD .nilFunc) else u i k,hs,fun i hi=>?_,fun i k hi hk=>?_⟩
 ·by_cases e:i=q
  ·subst e
   obtain ⟨bn,h2⟩:=hes2
   refine ⟨_,h2,by simp,?_⟩
   simp only [if_true]
   unfold valOf
   cases ag with
   | false=>
    simp only
    have:xs=[y]∧z.cells=#[z]:=by
     cases hy<;>simp [isAggAV] at hag<;>simp [cellsAV] at hc<;>subst hc<;>first | exact ⟨rfl,rfl⟩ | (rename_i a;cases a;exact ⟨rfl,rfl⟩)
    rw [this.2];rfl
   | true=>
    simp only
    cases y<;>simp [isAggAV] at hag
    cases hy with
    | agg h1 h2=>
     rename_i us
     simp [cellsAV] at hc;subst hc
     congr 1
     apply Array.ext
     ·simp;omega
     ·intro j h3 h4
      simp [Value.cells,h3]
  ·rw [hes1 i e (by split at hn'<;>omega)]
   have:=hu i (by split at hn'<;>omega)
   obtain ⟨w1,h1,h2,h3⟩:=this
   exact ⟨w1,h1,by simp only [if_neg e];exact h2,by simp only [if_neg e];exact h3⟩
 ·by_cases e:i=q
  ·subst e
   simp only [if_true,Get.cell,mputG,Nat.beq_refl]
   cases k with
   | zero=>
    have hk:ckEq (ckAt g.tag 0) (tagOf x)=true:=by rw [ckEq_eq hg];exact hx
    simp only [List.getElem?_cons_zero,Option.getD_some]
    rw [conf_ck hk]
    exact VR.weaken0 (tag_noL (fullCK_lt hf (by omega)) hk) hv (fun _ h=>h)
   | succ k=>
    have hk':k<xs.length:=by omega
    have hk2:=tagged_at ht k _ (List.getElem?_eq_getElem hk')
    rw [Nat.add_comm] at hk2
    simp only [List.getElem?_cons_succ,List.getElem?_eq_getElem hk',Option.getD_some]
    rw [conf_ck hk2]
    have hz:k<z.cells.size:=by rw [← hcs.1];exact hk'
    rw [Array.getElem?_eq_getElem hz,Option.getD_some]
    exact VR.weaken0 (tag_noL (fullCK_lt hf hk) hk2) (hcs.2 k _ _ (List.getElem?_eq_getElem hk') (Array.getElem?_eq_getElem hz)) (fun _ h=>h)
  ·have hb:Nat.beq i q=false:=by rw [← Bool.not_eq_true,Nat.beq_eq];exact e
   simp only [if_neg e,Get.cell,mputG,hb]
   exact hval i k (by split at hn'<;>omega) hk
omit hcx in
theorem same_key {kc:CK} {d:TypeDesc} (hdd:(∃ k,d=.int k∧kc=.int k)∨(d=.string∧kc=.str)) {key:AV} {kv:Value} (c3:ckEq kc (tagOf key)=true) (hkv:VR w A r key kv) (hik:MapKept.IsKey d kv) {g:Get AV} (c4:ckEq (ckAt g.tag 0) kc=true) {n i:Nat} (ho:mfind g key n=some i) {ku:Value} (hval:VR w A noR (g i 0) ku):kv=ku:=by
 have hq:keyIs key (g.cell i 0)=true:=by
  have:=List.find?_some ho
  simpa using this
 have h2:=(key_same hdd c3 hkv).2 (g.cell i 0) ku (by
  simp only [Get.cell,ckEq_eq c4]
  rcases hdd with ⟨k,_,rfl⟩ | ⟨_,rfl⟩<;>simp [conf,tagOf,ckEq]) hval
 rw [hq] at h2
 rcases hdd with ⟨k,rfl,rfl⟩ | ⟨rfl,rfl⟩
 ·cases kv<;>simp [MapKept.IsKey] at hik
  cases ku<;>simp [Instr.sameNow] at h2
  rw [h2.1,h2.2]
 ·cases kv<;>simp [MapKept.IsKey] at hik
  cases ku<;>simp [Instr.sameNow] at h2
  rename_i s1 s2
  cases s1;cases s2
  rename_i d1 d2
  have h2:(d1 == d2)=true:=h2
  rw [eq_of_beq h2]
theorem s_put1 {t:TypeId} {m k v:Operand} {x key y:AV} (hop:o.op=.mapUpdate t m k v∨o.op=.insert t m k v) (hm:p m=some x) (hkey:p k=some key) (hy:p v=some y) (h:putAV P loc t x key y=some (true,res)):Does P w A r loc nx (execOp ev o) res:=by
 have hex:execOp ev o=(do Instr.mapUpdate t (ev m) (ev k) (ev v);pure .skip):=by
  rcases hop with e | e<;>simp only [execOp,e]
 unfold putAV at h
 split at h
 case h_2=>cases h
 rename_i kt vt hu
 split at h
 case h_2=>cases h
 rename_i j
 split at h
 case h_2=>cases h
 rename_i u ag wd n g kc hj hck
 split at h
 case h_2=>cases h
 rename_i xs hxs
 split at h
 case h_2=>cases h
 rename_i hc
 simp only [Option.some.injEq,Prod.mk.injEq,true_and] at h;subst h
 simp only [Bool.and_eq_true] at hc
 obtain ⟨⟨c1,c3⟩,⟨c4,c5⟩,c6,c7⟩:=hc
 have c6:=Nat.eq_of_beq_eq_true c6
 have c1:=bEq_eq c1
 have hv:=hcx.val _ _ hm
 obtain ⟨b,hb,es,clock,hh,hbn,hes⟩:=hcx.mem _ _ hj
 have hev:ev m=.map (some b):=by
  generalize ev m=z at hv
  cases hv with
  | mp h=>rw [hb] at h;injection h with h;subst h;rfl
 have hkv:=hcx.val _ _ hkey
 obtain ⟨⟨d,hd,hik⟩,hfind,hlt⟩:=find_rows hck hes (by omega) c4 c3 hkv
 obtain ⟨d',hd',hdd⟩:=keyCK_desc hck
 have:d'=d:=by rw [hd] at hd';injection hd' with hd';exact hd'.symm
 subst this
 have hck2:=fun e=>MapKept.run_checkKey (w:=w) hd hik e 9999
 have hes0:=hes
 obtain ⟨uu,hs0,huu,hval⟩:=hes0
 cases ho:mfind g key n with
 | none=>
  rw [ho] at hfind
  refine ⟨b,es,clock,es.push ⟨ev k,ev v,clock⟩,clock+1,_,hb,hj,rfl,fun _ h=>h,hh,?_,by rw [mputN];exact hbn.push hs0 rfl,?_⟩
  ·rw [hex,hev]
   simp only [Instr.mapUpdate,Sem.run_bind,run_underlying hu,Result.andThen_ok,MapKept.run_getObj_map hh,hck2,hfind,entOf,MapKept.run_setObj_map _ hh,Sem.run_pure]
  ·refine put_rows hes hdd c4 c5 c3 hkv (hcx.val _ _ hy) hxs c1 c6 c7 (Nat.le_refl n) (by simp [hs0,mputN]) (by simp [mputN]) (fun i hne hi=>?_) ⟨clock,?_⟩
   ·rw [Array.getElem?_push_lt (by omega),Array.getElem?_eq_getElem (by omega)]
   ·show (es.push _)[n]?=_
    rw [← hs0];simp
 | some i=>
  rw [ho] at hfind
  have hi:=hlt i ho
  obtain ⟨e,he,e1,e2⟩:=huu i hi
  have hsame:ev k=e.key:=by rw [e1];exact same_key hdd c3 hkv hik c4 ho (hval i 0 hi (by omega))
  refine ⟨b,es,clock,es.modify i fun e=>{ e with key:=ev k,val:=ev v },clock,_,hb,hj,rfl,fun _ h=>h,hh,?_,by rw [mputN];exact hbn.modify (fun _=>rfl),?_⟩
  ·rw [hex,hev]
   simp only [Instr.mapUpdate,Sem.run_bind,run_underlying hu,Result.andThen_ok,MapKept.run_getObj_map hh,hck2,hfind,entOf,he,Option.map_some,Option.getD_some,← hsame,MapKept.run_keyThatStays hik,MapKept.run_setObj_map _ hh,Sem.run_pure]
  ·refine put_rows hes hdd c4 c5 c3 hkv (hcx.val _ _ hy) hxs c1 c6 c7 (q:=i) (Nat.le_of_lt hi) (by simp [hs0,mputN]) (by simp [mputN,hi]) (fun k hne hk=>?_) ⟨e.born,?_⟩
   ·rw [Array.getElem?_modify,if_neg (Ne.symm hne)]
   ·rw [Array.getElem?_modify,if_pos rfl,he];rfl
theorem s_put {t:TypeId} {m k v:Operand} (hop:o.op=.mapUpdate t m k v∨o.op=.insert t m k v) (h:native P p loc nx o=some (true,res)):Does P w A r loc nx (execOp ev o) res:=by
 have h:(match p m,p k,p v with | some x,some key,some y=>putAV2 P loc t x key y | _,_,_=>none)=some (true,res):=by
  rcases hop with e | e<;>simp only [native,e] at h<;>exact h
 have hex:execOp ev o=(do Instr.mapUpdate t (ev m) (ev k) (ev v);pure .skip):=by
  rcases hop with e | e<;>simp only [execOp,e]
 split at h
 case h_2=>cases h
 rename_i x key y hm hkey hy
 unfold putAV2 at h
 split at h
 case h_2=>exact s_put1 hcx hop hm hkey hy h
 rename_i j
 split at h
 case h_3=>exact s_put1 hcx hop hm hkey hy h
 ·rename_i u ks vs kt vt hj hu
  split at h
  case h_2=>cases h
  rename_i kc hck
  split at h
  case h_2=>cases h
  rename_i hc
  simp only [Option.some.injEq,Prod.mk.injEq] at h;obtain ⟨hnew,h⟩:=h;subst h
  simp only [Bool.and_eq_true] at hc
  obtain ⟨c1,c2,c3,c4⟩:=hc
  have c3:=Nat.eq_of_beq_eq_true c3
  obtain ⟨b,es,clock,hev,hb,hh,⟨hs,hl,hes⟩,⟨d,hd,hik⟩,hfind,hlt⟩:=fmap_find hcx hu hck hm hkey hj c1 c2
  have hck2:=fun e=>MapKept.run_checkKey (w:=w) hd hik e 9999
  have hno:(ks.findIdx? fun x=>keyIs key x)=none:=by
   rw [List.findIdx?_eq_none_iff]
   intro x hx
   have:=List.all_eq_true.1 hnew x hx
   simpa using this
  rw [hno] at hfind
  refine ⟨b,es,clock,es.push ⟨ev k,ev v,clock⟩,clock+1,_,hb,hj,rfl,fun _ h=>h,hh,?_,?_,?_,fun i hi=>?_⟩
  ·rw [hex,hev]
   simp only [Instr.mapUpdate,Sem.run_bind,run_underlying hu,Result.andThen_ok,MapKept.run_getObj_map hh,hck2,hfind,entOf,MapKept.run_setObj_map _ hh,Sem.run_pure]
  ·simp [hs]
  ·simp [hl]
  ·by_cases e:i<ks.length
   ·obtain ⟨x,kx,vx,g1,g2,g3,g4,g5⟩:=hes i e
    exact ⟨x,kx,vx,by rw [Array.getElem?_push_lt (by omega),← g1,Array.getElem?_eq_getElem (by omega)],by rw [List.getElem?_append_left e];exact g2,by rw [List.getElem?_append_left (by omega)];exact g3,g4,g5⟩
   ·have:i=ks.length:=by simp at hi;omega
    subst this
    refine ⟨⟨ev k,ev v,clock⟩,key,y,by rw [← hs];simp,by simp,by rw [← hl];simp,?_,hcx.val _ _ hy⟩
    exact VR.weaken0 (tag_noL (by rcases keyCK_desc hck with ⟨d,_,⟨k,_,rfl⟩ | ⟨_,rfl⟩⟩<;>simp) c1) (hcx.val _ _ hkey) (fun _ h=>h)
 ·rename_i u st wd hk ht hwd n g hl hg kt vt hj hu
  split at h
  case h_2=>cases h
  rename_i kc jn w' row col hck
  split at h
  case h_2=>cases h
  rename_i hc
  simp only [Option.some.injEq,Prod.mk.injEq] at h;obtain ⟨hnew,h⟩:=h;subst h
  simp only [Bool.and_eq_true] at hc
  obtain ⟨c1,c2,c3⟩:=hc
  have c3:=Nat.eq_of_beq_eq_true c3
  have hv:=hcx.val _ _ hm
  obtain ⟨b,es,clock,hb,hh,⟨hs,hbn⟩,h1,h2,hes,h3,h4,h5,h6⟩:=hcx.mem _ _ hj
  have hev:ev m=.map (some b):=by
   generalize ev m=z at hv
   cases hv with
   | mp h=>rw [hb] at h;injection h with h;subst h;rfl
  have hkv:=hcx.val _ _ hkey
  obtain ⟨⟨d,hd,hik⟩,hfind,hlt⟩:=find_rows hck (keys_rows (g:=g) hs (fun i hi=>by obtain ⟨x,p,e1,e2,_⟩:=hes i hi;exact ⟨x,e1,e2⟩)) (by omega) c2 c1 hkv
  have hck2:=fun e=>MapKept.run_checkKey (w:=w) hd hik e 9999
  have hno:mfind g key n=none:=by simpa using hnew
  rw [hno] at hfind
  obtain ⟨pb,hpb,hpv⟩:=lptr_inv (hcx.val _ _ hy)
  rw [c3] at hpv
  refine ⟨b,es,clock,es.push ⟨ev k,ev v,clock⟩,clock+1,_,hb,hj,rfl,fun v hv=>?_,hh,?_,?_,h1,h2,fun i hi=>?_,h3,h4,fun v b hv=>?_,fun q jp hq=>?_⟩
  ·show v<2 * (n+1)
   have:v<2 * n:=hv
   omega
  ·rw [hex,hev]
   simp only [Instr.mapUpdate,Sem.run_bind,run_underlying hu,Result.andThen_ok,MapKept.run_getObj_map hh,hck2,hfind,entOf,MapKept.run_setObj_map _ hh,Sem.run_pure]
  ·exact ⟨by simp [hs],hbn.push hs rfl⟩
  ·by_cases e:i<n
   ·obtain ⟨x,pp,g1,g2,g3,g4⟩:=hes i e
    have hb':Nat.beq i n=false:=by rw [← Bool.not_eq_true,Nat.beq_eq];omega
    refine ⟨x,pp,by rw [Array.getElem?_push_lt (by omega),← g1,Array.getElem?_eq_getElem (by omega)],by simp only [Get.cell,mputG,hb'];exact g2,g3,?_⟩
    simp only [pendAt,show ¬ i=n by omega,if_false] at g4 ⊢
    obtain ⟨m1,us,e,c,xs,m2,m3,m4,m5⟩:=g4
    exact ⟨m1,us,e,c,xs,m2,m3,fun k hk1 hk2=>by simp only [Get.cell,mputG,hb'];exact m4 k hk1 hk2,m5⟩
   ·have:i=n:=by omega
    subst this
    refine ⟨⟨ev k,ev v,clock⟩,pb,by rw [← hs];simp,?_,hpv,?_⟩
    ·have hk0:ckEq (ckAt g.tag 0) (tagOf key)=true:=by rw [ckEq_eq c2];exact c1
     simp only [Get.cell,mputG,Nat.beq_refl,List.getElem?_cons_zero,Option.getD_some]
     rw [conf_ck hk0]
     exact VR.weaken0 (tag_noL (by rcases keyCK_desc hck with ⟨d,_,⟨k,_,rfl⟩ | ⟨_,rfl⟩⟩<;>simp) c1) hkv (fun _ h=>h)
    ·simp only [pendAt,if_true];exact hpb
  ·have:=h5 v b hv;omega
  ·injection hq with hq;injection hq with hq1 hq2;subst hq1;subst hq2
   refine ⟨by omega,?_,?_⟩
   ·cases hx:r (.lo j (2 * n)) with
    | none=>rfl
    | some z=>have:=h5 _ _ hx;omega
   ·cases hx:r (.lo j (2 * n+1)) with
    | none=>rfl
    | some z=>have:=h5 _ _ hx;omega
omit hcx in
theorem s_makeMap {t:TypeId} {q:Option Operand} (hop:o.op=.makeMap t q) (h:native P p loc nx o=some (true,res)):Does P w A r loc nx (execOp ev o) res:=by
 cases q with
 | some q=>simp [native,hop] at h
 | none=>
  simp only [native,hop] at h
  have hrun:(execOp ev o).run P w=.ok (.value (.map (some w.heap.size))) (w.alloc (.map #[] 0)):=by
   simp only [execOp,hop,Option.map_none,Instr.makeMap,newObj,Sem.run_bind,Sem.run_pure,Result.andThen_ok,Sem.run]
   rfl
  unfold makeMap2 at h
  split at h
  ·rename_i r0 hr0
   unfold poolMk at hr0
   split at hr0
   case h_2=>cases hr0
   split at hr0
   ·split at hr0
    ·split at hr0
     ·split at hr0
      ·rename_i hc
       simp only [Bool.and_eq_true] at hc
       rw [← hr0] at h
       simp only [Option.some.injEq,Prod.mk.injEq,true_and] at h;subst h
       exact ⟨⟨rfl,rfl,Nat.lt_of_lt_of_le (Nat.lt_succ_self _) (Nat.le_of_ble_eq_true hc.1),Nat.lt_of_lt_of_le (Nat.lt_succ_self _) (Nat.le_of_ble_eq_true hc.2)⟩,_,hrun,fun w' A' r' hr=>.mp hr⟩
      ·cases hr0
     ·cases hr0
    ·cases hr0
   ·rw [← hr0] at h
    simp only [Option.some.injEq,Prod.mk.injEq,true_and] at h;subst h
    exact ⟨rfl,rfl,_,hrun,fun w' A' r' hr=>.mp hr⟩
   ·cases hr0
  unfold makeMapAV at h
  split at h
  ·split at h
   ·split at h
    ·simp only [Option.some.injEq,Prod.mk.injEq,true_and] at h;subst h
     refine ⟨rfl,.map (some w.heap.size),?_,fun w' A' r' hr=>.mp hr⟩
     simp only [execOp,hop,Option.map_none,Instr.makeMap,newObj,Sem.run_bind,Sem.run_pure,Result.andThen_ok,Sem.run]
     rfl
    ·cases h
   ·cases h
  ·cases h
theorem s_mapEntry {t:TypeId} {m k:Operand} (hop:o.op=.mapEntry t m k) (h:native P p loc nx o=some (true,res)):Does P w A r loc nx (execOp ev o) res:=by
 simp only [native,hop] at h
 split at h
 case h_2=>cases h
 rename_i x key hm hkey
 unfold entAV at h
 split at h
 case h_2=>cases h
 rename_i kt vt hu
 split at h
 case h_2=>cases h
 rename_i j
 split at h
 case h_2=>cases h
 rename_i u wd n g kc hj hck
 split at h
 case h_2=>cases h
 rename_i z hzs
 split at h
 case h_2=>cases h
 rename_i hc
 simp only [Option.some.injEq,Prod.mk.injEq,true_and] at h;subst h
 simp only [Bool.and_eq_true] at hc
 obtain ⟨⟨c3,c4,c5⟩,⟨c6,c7⟩,c8⟩:=hc
 have c6:=Nat.eq_of_beq_eq_true c6
 have c8:=bEq_eq c8
 have hv:=hcx.val _ _ hm
 obtain ⟨b,hb,es,clock,hh,hbn,hes⟩:=hcx.mem _ _ hj
 have hev:ev m=.map (some b):=by
  generalize ev m=z at hv
  cases hv with
  | mp h=>rw [hb] at h;injection h with h;subst h;rfl
 have hkv:=hcx.val _ _ hkey
 obtain ⟨⟨d,hd,hik⟩,hfind,hlt⟩:=find_rows hck hes (by omega) c4 c3 hkv
 obtain ⟨d',hd',hdd⟩:=keyCK_desc hck
 have:d'=d:=by rw [hd] at hd';injection hd' with hd';exact hd'.symm
 subst this
 have hck2:=fun e=>MapKept.run_checkKey (w:=w) hd hik e 9999
 obtain ⟨zv,hz,hzc,hz1,hz2⟩:=zero_shape (w:=w) (A:=A) (r:=r) hzs
 have hz2:=hz2 c8.symm
 obtain ⟨hlv,_⟩:=look_val hes hzc (fun e=>by cases e) (fun _=>hz2) (by rw [← c6];rfl) c7 hlt (y:=mcell g (mfind g key n) z 1) (.inr ⟨rfl,z,rfl,rfl⟩)
 have hct:ckEq (ckAt g.tag 1) (tagOf (mcell g (mfind g key n) z 1))=true:=by
  have hz1:=tagged_at c7 0 z rfl
  rw [Nat.add_zero] at hz1
  have e1:=ckEq_eq hz1
  unfold mcell
  have hne:=fullCK_lt c5 (k:=1) (by omega)
  have hne2:=fullCK_sl c5 (k:=1) (by omega)
  cases hk:ckAt g.tag 1 with
  | any=>exact absurd hk hne
  | sl a b=>exact absurd hk (hne2 a b)
  | int k=>simp [conf,tagOf,ckEq]
  | bool=>simp [conf,tagOf,ckEq]
  | str=>simp [conf,tagOf,ckEq]
 have hcell:cellsAV (mcell g (mfind g key n) z 1)=some [mcell g (mfind g key n) z 1]∧false=isAggAV (mcell g (mfind g key n) z 1):=by
  unfold mcell
  have hne:=fullCK_lt c5 (k:=1) (by omega)
  have hne2:=fullCK_sl c5 (k:=1) (by omega)
  cases hk:ckAt g.tag 1 with
  | any=>exact absurd hk hne
  | sl a b=>exact absurd hk (hne2 a b)
  | int k=>exact ⟨rfl,rfl⟩
  | bool=>exact ⟨rfl,rfl⟩
  | str=>exact ⟨rfl,rfl⟩
 have htg:tagged g.tag [mcell g (mfind g key n) z 1] 1=true:=by simp [tagged,hct]
 have hes0:=hes
 obtain ⟨uu,hs0,huu,hval⟩:=hes0
 have hex:execOp ev o=(do let x ← Instr.mapEntry t (ev m) (ev k);pure (.value x)):=by simp only [execOp,hop]
 have htup:∀ (q:Nat) (vv:Value),VR w A r (mcell g (mfind g key n) z 1) vv→VR w A r (.tup [mcell g (mfind g key n) z 1,.int .i64 q]) (.tuple #[vv,goInt q]):=fun q vv hvv=>.tup rfl (fun i x v hx hv2=>by
  match i with
  | 0=>simp at hx hv2;subst hx;subst hv2;exact hvv
  | 1=>simp at hx hv2;subst hx;subst hv2;exact .int
  | i+2=>simp at hx)
 generalize hmc:mcell g (mfind g key n) z 1=mc at hlv hct hcell htg htup ⊢
 cases ho:mfind g key n with
 | none=>
  rw [ho] at hfind hlv
  refine ⟨b,es,clock,es.push ⟨ev k,zv,clock⟩,clock+1,_,.tuple #[zv,goInt clock],hb,hj,rfl,fun _ h=>h,hh,?_,?_,by rw [mputN];exact hbn.push hs0 rfl,?_⟩
  ·rw [hex,hev]
   simp only [Instr.mapEntry,Sem.run_bind,run_underlying hu,Result.andThen_ok,MapKept.run_getObj_map hh,hck2,hfind,entOf,MapKept.run_setObj_map _ hh,Sem.run_pure,hz]
  ·have:=htup n zv (by simpa [entOf] using hlv)
   rw [hbn.1];exact this
  ·refine put_rows hes hdd c4 c5 c3 hkv (y:=mc) (z:=zv) (by simpa [entOf] using hlv) hcell.1 hcell.2 c6.symm.symm htg (Nat.le_refl n) (by simp [hs0,mputN]) (by simp [mputN]) (fun i hne hi=>?_) ⟨clock,?_⟩
   ·rw [Array.getElem?_push_lt (by omega),Array.getElem?_eq_getElem (by omega)]
   ·show (es.push _)[n]?=_
    rw [← hs0];simp
 | some i=>
  rw [ho] at hfind hlv
  have hi:=hlt i ho
  obtain ⟨e,he,e1,e2⟩:=huu i hi
  have hsame:ev k=e.key:=by rw [e1];exact same_key hdd c3 hkv hik c4 ho (hval i 0 hi (by omega))
  have hlv:VR w A r mc e.val:=by simpa [entOf,he] using hlv
  refine ⟨b,es,clock,es.modify i fun e=>{ e with key:=ev k },clock,_,.tuple #[e.val,goInt e.born],hb,hj,rfl,fun _ h=>h,hh,?_,?_,by rw [mputN];exact hbn.modify (fun _=>rfl),?_⟩
  ·rw [hex,hev]
   simp only [Instr.mapEntry,Sem.run_bind,run_underlying hu,Result.andThen_ok,MapKept.run_getObj_map hh,hck2,hfind,entOf,he,Option.map_some,Option.getD_some,← hsame,MapKept.run_keyThatStays hik,MapKept.run_setObj_map _ hh,Sem.run_pure]
  ·have:=htup i e.val hlv
   rw [hbn.2 i e he];exact this
  ·refine put_rows hes hdd c4 c5 c3 hkv (y:=mc) (z:=e.val) hlv hcell.1 hcell.2 c6.symm.symm htg (q:=i) (Nat.le_of_lt hi) (by simp [hs0,mputN]) (by simp [mputN,hi]) (fun k hne hk=>?_) ⟨e.born,?_⟩
   ·rw [Array.getElem?_modify,if_neg (Ne.symm hne)]
   ·rw [Array.getElem?_modify,if_pos rfl,he];rfl
theorem s_entryStore {t:TypeId} {m s v:Operand} (hop:o.op=.entryStore t m s v) (h:native P p loc nx o=some (true,res)):Does P w A r loc nx (execOp ev o) res:=by
 simp only [native,hop] at h
 split at h
 case h_2=>cases h
 rename_i x qv y hm hq hy
 unfold entStAV at h
 split at h
 case h_2=>cases h
 rename_i j q
 split at h
 case h_2=>cases h
 rename_i u wd n g hj
 split at h
 case h_2=>cases h
 rename_i hc
 simp only [Option.some.injEq,Prod.mk.injEq,decide_eq_true_eq] at h
 obtain ⟨⟨q1,q2⟩,h⟩:=h;subst h
 simp only [Bool.and_eq_true] at hc
 obtain ⟨⟨c1,c2⟩,c3⟩:=hc
 have c1:=Nat.eq_of_beq_eq_true c1
 subst c1
 have hv:=hcx.val _ _ hm
 obtain ⟨b,hb,es,clock,hh,hbn,hes⟩:=hcx.mem _ _ hj
 have hev:ev m=.map (some b):=by
  generalize ev m=z at hv
  cases hv with
  | mp h=>rw [hb] at h;injection h with h;subst h;rfl
 have hevs:ev s=.int .i64 q:=by
  have hv:=hcx.val _ _ hq
  generalize ev s=z at hv
  cases hv;rfl
 obtain ⟨i,rfl⟩:∃ i:Nat,q=i:=⟨q.toNat,by omega⟩
 have hi:i<n:=by omega
 obtain ⟨uu,hs0,huu,hval⟩:=hes
 obtain ⟨e,he,e1,e2⟩:=huu i hi
 have hfi:es.findIdx? (fun e=>(e.born:Int) == (i:Int))=some i:=by
  rw [Array.findIdx?_eq_some_iff_getElem]
  have hil:i<es.size:=by omega
  refine ⟨hil,?_,fun k hk=>?_⟩
  ·have:=hbn.2 i es[i] (Array.getElem?_eq_getElem hil)
   simp [this]
  ·have:=hbn.2 k (es[k]'(by omega)) (Array.getElem?_eq_getElem (by omega))
   simp [this];omega
 have hct:ckEq (ckAt g.tag 1) (tagOf y)=true:=by simpa [tagged] using c3
 refine ⟨b,es,clock,es.modify i fun e=>{ e with val:=ev v },clock,_,hb,hj,rfl,fun _ h=>h,hh,?_,hbn.modify (fun _=>rfl),?_⟩
 ·simp only [execOp,hop,hev,hevs,Instr.entryStore,asInt,asIntOf,Sem.run_bind,Result.andThen_ok,MapKept.run_getObj_map hh,Sem.run_pure,hfi,MapKept.run_setObj_map _ hh]
 ·refine ⟨fun a k=>if a=i∧k≠0 then ev v else uu a k,by simp [hs0],fun a ha=>?_,fun a k ha hk=>?_⟩
  ·by_cases e':a=i
   ·subst e'
    refine ⟨{ e with val:=ev v },by rw [Array.getElem?_modify,if_pos rfl,he];rfl,by simpa using e1,by simp [valOf]⟩
   ·obtain ⟨x,x1,x2,x3⟩:=huu a ha
    exact ⟨x,by rw [Array.getElem?_modify,if_neg (Ne.symm e')];exact x1,by simp [e'];exact x2,by simp [e',valOf];simpa [valOf] using x3⟩
  ·by_cases e':a=i
   ·subst e'
    have hk2:k=0∨k=1:=by omega
    have e3:((a:Int)).toNat=a:=by omega
    rcases hk2 with rfl | rfl
    ·simp only [Get.cell,mputG,e3,Nat.beq_refl,List.getElem?_cons_zero,Option.getD_some]
     have:=hval a 0 ha (by omega)
     rw [conf_conf]
     simpa [Get.cell] using this
    ·simp only [Get.cell,mputG,e3,Nat.beq_refl,List.getElem?_cons_succ,List.getElem?_cons_zero,Option.getD_some]
     rw [conf_ck hct]
     have:=VR.weaken0 (A':=A) (r':=noR) (tag_noL (fullCK_lt c2 hk) hct) (hcx.val _ _ hy) (fun _ h=>h)
     simpa using this
   ·have hb':Nat.beq a ((i:Int)).toNat=false:=by rw [← Bool.not_eq_true,Nat.beq_eq];omega
    simp only [Get.cell,mputG,hb']
    have:=hval a k ha hk
    simpa [e',Get.cell] using this
omit hcx in
theorem mrows_rel {m:AV} {n:Nat} {g:Get AV} (h:mrows m=some (n,g)) {r':Rr} {v:Value} (hv:VR w A r' m v):∃ bm es,v=.map (some bm)∧(bm<w.heap.size∧¬ A bm)∧w.heap[bm]?=some (.map es n)∧IterE w A n g es n:=by
 have key:∀ {n:Nat} {g:Get AV} {r':Rr},VR w A r' (.xmp false 2 n g) v→∃ bm es,v=.map (some bm)∧(bm<w.heap.size∧¬ A bm)∧w.heap[bm]?=some (.map es n)∧IterE w A n g es n:=by
  intro n g r' hv
  cases hv with
  | xmp b clock es u hb hA he hs hu2 hv=>
   obtain ⟨hs1,hbn⟩:=hs
   obtain rfl:=hbn.1
   exact ⟨b,es,rfl,⟨hb,hA⟩,he,hbn,u,hs1,hu2,hv⟩
 unfold mrows at h
 split at h
 ·split at h
  case h_2=>cases h
  rename_i hc
  have hc:=Nat.eq_of_beq_eq_true hc
  subst hc
  injection h with h;injection h with e1 e2;subst e1;subst e2
  exact key hv
 ·injection h with h;injection h with e1 e2;subst e1;subst e2
  cases hv with
  | xpool h=>exact key h
 ·cases h
theorem s_range {t:TypeId} {x:Operand} (hop:o.op=.range t x) (h:native P p loc nx o=some (true,res)):Does P w A r loc nx (execOp ev o) res:=by
 simp only [native,hop] at h
 split at h
 case h_2=>cases h
 rename_i y hx
 unfold rangeAV at h
 split at h
 case h_2=>cases h
 rename_i kt vt ng hu hr
 obtain ⟨n,g⟩:=ng
 simp only [Option.some.injEq,Prod.mk.injEq,true_and] at h;subst h
 have hv:=hcx.val _ _ hx
 obtain ⟨bm,es,hev,⟨hb,hA⟩,hh,hit⟩:=mrows_rel hr hv
 have hv2:VR w A noR y (.map (some bm)):=by
  rw [hev] at hv
  unfold mrows at hr
  split at hr
  ·exact VR.weaken0 rfl hv (fun _ h=>h)
  ·exact VR.weaken0 rfl hv (fun _ h=>h)
  ·cases hr
 refine ⟨rfl,.pointer (some ⟨w.heap.size,0,none⟩),bm,n,g,?_,hv2,hr,fun w' A' r' hr=>.lptr hr (by simp)⟩
 simp only [execOp,hop,hev,Sem.run_bind,run_range_map w t kt vt bm es _ hu hh,Result.andThen_ok,Sem.run_pure]
theorem s_entry {x:Operand} (hop:o.op=.entry x) (h:native P p loc nx o=some (true,res)):Does P w A r loc nx (execOp ev o) res:=by
 simp only [native,hop] at h
 split at h
 case h_2=>cases h
 rename_i y hx
 unfold lastAV at h
 split at h
 case h_2=>cases h
 rename_i j wd row col
 split at h
 case h_2=>cases h
 rename_i m i seen hj hc
 have hc:=Nat.eq_of_beq_eq_true hc
 split at h
 case h_2=>cases h
 rename_i n g hmr
 simp only [Option.some.injEq,Prod.mk.injEq,decide_eq_true_eq] at h
 obtain ⟨hi,h⟩:=h;subst h
 obtain ⟨b,hb,hev⟩:=lptr_inv (hcx.val _ _ hx)
 rw [hc] at hev
 obtain ⟨b',bm,sn,n2,g2,hb',hh,hvm,hmr2,hsn⟩:=hcx.mem _ _ hj
 rw [hmr] at hmr2;injection hmr2 with hmr2;injection hmr2 with e1 e2;subst e1;subst e2
 obtain ⟨bm2,es,e3,⟨hbm,hA⟩,hhm,⟨hbn,u,hs,hu,hval⟩⟩:=mrows_rel hmr hvm
 injection e3 with e3;injection e3 with e3;subst e3
 rw [hb] at hb';injection hb' with hb';subst hb'
 obtain ⟨e,he,e1,e2⟩:=hu i hi
 have hsn':sn=(sn.toList.dropLast.toArray).push i:=by
  have:sn.toList=seen.reverse ++ [i]:=by rw [hsn];simp
  apply Array.ext'
  rw [Array.toList_push,this];simp
 have hborn:=hbn.2 i e he
 have hnd:(es.toList.map (·.born)).Nodup:=by
  rw [List.nodup_iff_pairwise_ne,List.pairwise_iff_getElem]
  intro a b2 ha hb2 hab
  simp only [List.length_map,Array.length_toList] at ha hb2
  simp only [List.getElem_map,Array.getElem_toList]
  rw [hbn.2 a _ (Array.getElem?_eq_getElem ha),hbn.2 b2 _ (Array.getElem?_eq_getElem hb2)]
  omega
 refine does_val (v:=.tuple #[e.key,e.val]) ?_ (.tup rfl (fun k x v hx hv2=>?_))
 ·simp only [execOp,hop,hev,Sem.run_bind]
  rw [run_entry_at w b bm n sn.toList.dropLast.toArray es n e (by rw [hh,hborn,← hsn']) hhm (by rw [Array.mem_toList_iff];exact Array.mem_of_getElem? he) hnd]
  rfl
 ·match k with
  | 0=>simp at hx hv2;subst hx;subst hv2;rw [e1];exact lift0 (hval i 0 hi (by omega))
  | 1=>simp at hx hv2;subst hx;subst hv2;rw [e2];exact lift0 (hval i 1 hi (by omega))
  | k+2=>simp at hx
end
theorem native_sound {P:Program} {w:World} {A:Nat→Prop} {r:Rr} {loc:Nat→Option Blk} {p:Operand→Option AV} {ev:Operand→Value} {nx:Nat} {o:Oper} {res:Res}
  (hcx:Cx w A r loc p ev) (h:native P p loc nx o=some (true,res)):Does P w A r loc nx (execOp ev o) res:=by
 cases hop:o.op with
 | move x=>exact s_move hcx (.inl hop) h
 | assign x=>exact s_move hcx (.inr hop) h
 | pick c a b=>exact s_pick hcx hop h
 | alloc t=>exact s_alloc hop h
 | box t x=>exact s_box hcx hop h
 | build t ps=>exact s_build hcx hop h
 | buildSlice t n ps=>exact s_buildSlice hcx hop h
 | load t x=>exact s_load hcx hop h
 | store t a x=>exact s_store hcx hop h
 | nilCheck x=>exact s_nilCheck hcx hop h
 | makeFunc f xs ys=>exact s_makeFunc hcx hop h
 | slice t x lo hi mx=>exact s_slice hcx hop h
 | fieldAddr s x f=>exact s_fieldAddr hcx hop h
 | field s x f=>exact s_field hcx hop h
 | indexAddr t x i=>exact s_indexAddr hcx hop h
 | index t x i=>exact s_index hcx hop h
 | extract x i=>exact s_extract hcx hop h
 | makeMap t q=>exact s_makeMap hop h
 | lookup t m k ok=>exact s_lookup hcx hop h
 | mapUpdate t m k v=>exact s_put hcx (.inl hop) h
 | insert t m k v=>exact s_put hcx (.inr hop) h
 | mapEntry t m k=>exact s_mapEntry hcx hop h
 | entryStore t m s v=>exact s_entryStore hcx hop h
 | range t x=>exact s_range hcx hop h
 | entry x=>exact s_entry hcx hop h
 | binOp b t x y t'=>exact s_div hcx hop h
 | call c=>exact s_call hcx hop h
 | _=>simp [native,hop] at h
theorem allPlain_mem {p:Operand→Option AV}:∀ {xs:List Operand},allPlain p xs=true→∀ x ∈ xs,∃ v,plainOf p x=some v
 | [],_,x,hx=>by cases hx
 | y :: ys,h,x,hx=>by
  simp only [allPlain] at h
  split at h
  ·rename_i v hv
   rcases List.mem_cons.1 hx with rfl | hx
   ·exact ⟨v,hv⟩
   ·exact allPlain_mem h x hx
  ·simp at h
theorem byCalm_sound {P:Program} {w:World} {A:Nat→Prop} {r:Rr} {loc:Nat→Option Blk} {p:Operand→Option AV} {ev:Operand→Value} {nx:Nat} {o:Oper} {res:Res}
  (hcx:Cx w A r loc p ev) (h:byCalm P p o=some (true,res)):Does P w A r loc nx (execOp ev o) res:=by
 unfold byCalm at h
 split at h
 ·rename_i hc
  simp only [Bool.and_eq_true] at hc
  split at h
  ·rename_i v hv
   cases hx:ofV v with
   | none=>simp [hx] at h
   | some x=>
    simp [hx] at h;subst h
    have hns:∀ cs b,o.op≠.select cs b:=fun cs b e=>by simp [e,notSelect] at hc
    have hcong:execOp ev o=execOp (rhoOf p) o:=execOp_congr o hns fun x hx=>by
     obtain ⟨u,hu⟩:=allPlain_mem hc.2 x (by simpa using hx)
     have hu':=hu
     unfold plainOf at hu'
     split at hu'
     ·rename_i z hz
      rw [plainV_eq hu' (hcx.val _ _ hz)]
      simp [rhoOf,hu]
     ·simp at hu'
    exact ⟨v,by rw [hcong];exact calm_run P _ _ hv w,ofV_rel hx⟩
  ·simp at h
 ·simp at h
theorem opRes_sound {P:Program} {w:World} {A:Nat→Prop} {r:Rr} {loc:Nat→Option Blk} {p:Operand→Option AV} {ev:Operand→Value} {nx:Nat} {o:Oper} {res:Res}
  (hcx:Cx w A r loc p ev) (h:opRes P p loc nx o=some (true,res)):Does P w A r loc nx (execOp ev o) res:=by
 unfold opRes at h
 split at h
 ·rename_i rr hr
  injection h with h;subst h
  exact native_sound hcx hr
 ·exact byCalm_sound hcx h
end Go.Proofs.YtkpligkggnjcoaaGreatDoor.Ev
