/- Parts of the proof, one behind the other: EvH, EvI, EvJ, EvK, EvL, EvLI. No conditions. -/
import Derived.Test.YtkpligkggnjcoaaGreatDoorTv3
import Derived.RangeFuncLeaves
import Derived.RangeFuncRecord
import Derived.RangeFuncNested
/-! EvH -/
namespace Go.Proofs.YtkpligkggnjcoaaGreatDoor.Ev
def touch (P:Program) (p:Operand→Option AV) (nx:Nat) (o:Oper):List (Nat × Bool):=match o.op with
 | .load _ x=>match p x with
  | some (.lptr j _ _ _)=>[(j,false)]
  | some (.optr j _ _ _ _)=>[(j,false)]
  | _=>[]
 | .store _ a _=>match p a with
  | some (.lptr j _ _ _)=>[(j,true)]
  | some (.optr j _ _ _ _)=>[(j,true)]
  | _=>[]
 | .alloc _=>[(nx,true)]
 | .makeMap _ _=>[(nx,true)]
 | .lookup _ m _ _=>match p m with
  | some (.mp j)=>[(j,false)]
  | _=>[]
 | .mapUpdate _ m _ _=>match p m with
  | some (.mp j)=>[(j,true)]
  | _=>[]
 | .insert _ m _ _=>match p m with
  | some (.mp j)=>[(j,true)]
  | _=>[]
 | .mapEntry _ m _=>match p m with
  | some (.mp j)=>[(j,true)]
  | _=>[]
 | .entryStore _ m _ _=>match p m with
  | some (.mp j)=>[(j,true)]
  | _=>[]
 | .range _ _=>[(nx,true)]
 | .entry x=>match p x with
  | some (.lptr j _ _ _)=>[(j,false)]
  | _=>[]
 | .box _ _=>[(nx,true)]
 | .buildSlice _ _ _=>[(nx,true)]
 | .call c=>match c.callee with
  | .value f=>match p f,mapEv p c.args.toList with
   | some g,some vs=>match callAV P g vs with
    | some (.call _ args)=>(idsAll args).map fun j=>(j,false)
    | some (.turn _ args)=>(idsAll args).map fun j=>(j,true)
    | some (.fresh _ _ args)=>(nx,true) :: (idsAll args).map fun j=>(j,false)
    | _=>[]
   | _,_=>[]
  | .builtin .append=>match c.args.toList with
   | [x,y]=>(match p x with
    | some (.osl j _ _)=>(j,true)
    | some (.oss j _ _ _ _)=>(j,true)
    | _=>(nx,true)) :: (match p y with
    | some v=>(ids0 v).map fun j=>(j,false)
    | none=>[])
   | _=>[]
  | .builtin .clear=>match c.args.toList with
   | [x]=>match p x with
    | some (.oss j _ _ _ _)=>[(j,true)]
    | _=>[]
   | _=>[]
  | _=>[]
 | .slice _ x _ _ _=>match p x with
  | some (.oss j _ _ _ _)=>[(j,false)]
  | _=>[]
 | _=>[]
section
variable {P:Program} {cl:FuncId→List AV→Option AV} {p p':Operand→Option AV} {loc loc':Nat→Option Blk} {nx:Nat} {o:Oper}
theorem mapEv_congr:∀ {xs:List Operand},(∀ x ∈ xs,p x=p' x)→mapEv p xs=mapEv p' xs
 | [],_=>rfl
 | x :: xs,h=>by simp only [mapEv];rw [h x (by simp),mapEv_congr fun y hy=>h y (by simp [hy])]
theorem mapParts_congr:∀ {xs:List (Nat × Operand)},(∀ x ∈ xs,p x.2=p' x.2)→mapParts p xs=mapParts p' xs
 | [],_=>rfl
 | (i,x) :: xs,h=>by simp only [mapParts];rw [h (i,x) (by simp),mapParts_congr fun y hy=>h y (by simp [hy])]
theorem allPlain_congr:∀ {xs:List Operand},(∀ x ∈ xs,p x=p' x)→allPlain p xs=allPlain p' xs
 | [],_=>rfl
 | x :: xs,h=>by
  have e:plainOf p x=plainOf p' x:=by unfold plainOf;rw [h x (by simp)]
  simp only [allPlain];rw [e,allPlain_congr fun y hy=>h y (by simp [hy])]
theorem boundAV_congr {x:Option Operand} {d n:Nat} (h:∀ y ∈ x.toArray,p y=p' y):boundAV p x d n=boundAV p' x d n:=by
 cases x with
 | none=>rfl
 | some y=>simp only [boundAV];rw [h y (by simp)]
theorem byCalm_congr (h:∀ x ∈ o.op.operands,p x=p' x):byCalm P p o=byCalm P p' o:=by
 have h1:allPlain p o.op.operands.toList=allPlain p' o.op.operands.toList:=allPlain_congr fun x hx=>h x (by simpa using hx)
 unfold byCalm
 rw [h1]
 cases hs:notSelect o.op&&allPlain p' o.op.operands.toList with
 | false=>rfl
 | true=>
  have hns:∀ cs b,o.op≠.select cs b:=fun cs b e=>by simp [e,notSelect] at hs
  have:execOp (rhoOf p) o=execOp (rhoOf p') o:=execOp_congr o hns fun x hx=>by
   unfold rhoOf plainOf;rw [h x hx]
  simp only [this]
theorem rowsAV_congr {wd:Nat} {y:AV} (hl:∀ j ∈ ids0 y,loc j=loc' j):rowsAV loc wd y=rowsAV loc' wd y:=by
 cases y<;>first | rfl | simp only [rowsAV,hl _ (List.mem_singleton.2 rfl)]
theorem retag_congr {wd:Nat} {T:List CK} {y:AV} {g:Get AV} (hl:∀ j ∈ ids0 y,loc j=loc' j):retag loc wd T y g=retag loc' wd T y g:=by
 cases y<;>first | rfl | simp only [retag,hl _ (List.mem_singleton.2 rfl)]
theorem appendAV_congr {t:TypeId} {x y:AV} (hx:∀ j v n,x=.osl j v n→loc j=loc' j) (hy:∀ j ∈ ids0 y,loc j=loc' j):appendAV P loc nx t x y=appendAV P loc' nx t x y:=by
 unfold appendAV
 simp only [rowsAV_congr hy,retag_congr hy]
 cases x with
 | osl j v n=>simp only [hx j v n rfl]
 | _=>rfl
theorem appendAV_grow {t:TypeId} {x y:AV} {c:Bool} {res:Res} (h:appendAV P loc nx t x y=some (c,res)):∃ j b v,res=.grow j b v∧((∃ v n,x=.osl j v n∧(loc j).isSome=true)∨(j=nx∧x=.nilsl)):=by
 unfold appendAV at h
 split at h
 ·split at h
  ·split at h
   ·split at h
    ·split at h
     ·split at h
      ·rename_i hl
       split at h
       ·injection h with h;injection h with _ h;subst h
        exact ⟨_,_,_,rfl,.inl ⟨_,_,rfl,by simp [hl]⟩⟩
       ·simp at h
      ·simp at h
     ·injection h with h;injection h with _ h;subst h
      exact ⟨_,_,_,rfl,.inr ⟨rfl,rfl⟩⟩
     ·simp at h
    ·simp at h
   ·simp at h
  ·simp at h
 ·simp at h
theorem appPut_congr {t:TypeId} {x y:AV} (hx:∀ j v wd row n,x=.oss j v wd row n→loc j=loc' j) (hy:∀ j ∈ ids0 y,loc j=loc' j):appPut P loc t x y=appPut P loc' t x y:=by
 unfold appPut
 simp only [rowsAV_congr hy]
 cases x with
 | oss j v wd row n=>simp only [hx j v wd row n rfl]
 | _=>rfl
theorem clearAV_congr {t:TypeId} {x:AV} (hx:∀ j v wd row n,x=.oss j v wd row n→loc j=loc' j):clearAV P loc t x=clearAV P loc' t x:=by
 unfold clearAV
 cases x with
 | oss j v wd row n=>simp only [hx j v wd row n rfl]
 | _=>rfl
theorem spareAV_congr {len:Nat} {x:AV} (hx:∀ j v wd row n,x=.oss j v wd row n→loc j=loc' j):spareAV loc len x=spareAV loc' len x:=by
 unfold spareAV
 cases x with
 | oss j v wd row n=>simp only [hx j v wd row n rfl]
 | _=>rfl
theorem appPut_put {t:TypeId} {x y:AV} {r:Bool × Res} (h:appPut P loc t x y=some r):∃ c j b v,r=(c,.put j b v)∧(loc j).isSome=true∧∃ v2 wd row n,x=.oss j v2 wd row n:=by
 unfold appPut at h
 (repeat' split at h)<;>first | (cases h;done) | (injection h with h;exact ⟨_,_,_,_,h.symm,by simp [*],_,_,_,_,rfl⟩)
theorem clearAV_put {t:TypeId} {x:AV} {r:Bool × Res} (h:clearAV P loc t x=some r):∃ c j b v,r=(c,.put j b v)∧(loc j).isSome=true∧∃ v2 wd row n,x=.oss j v2 wd row n:=by
 unfold clearAV at h
 (repeat' split at h)<;>first | (cases h;done) | (injection h with h;exact ⟨_,_,_,_,h.symm,by simp [*],_,_,_,_,rfl⟩)
theorem touch_append {cc:Call} {x y:Operand} {v u:AV} (hop:o.op=.call cc) (hc:cc.callee=.builtin .append) (ha:cc.args.toList=[x,y]) (hx:p x=some v) (hy:p y=some u) :
  touch P p nx o=(match v with | .osl j _ _=>(j,true) | .oss j _ _ _ _=>(j,true) | _=>(nx,true)) :: (ids0 u).map fun j=>(j,false):=by
 unfold touch
 simp only [hop,hc,ha,hx,hy]
 cases v<;>rfl
theorem native_builtin {b:Builtin} {cc:Call} {c:Bool} {res:Res} (hop:o.op=.call cc) (hc:cc.callee=.builtin b) (hr:native P p loc nx o=some (c,res)) :
  (∃ n:Nat,res=.val (.int .i64 n))∨(∃ t x y v u,b=.append∧cc.args.toList=[x,y]∧p x=some v∧p y=some u∧appendAV P loc nx t v u=some (c,res))∨∃ j b v,res=.put j b v∧(loc j).isSome=true∧(j,true) ∈ touch P p nx o:=by
 unfold native at hr
 rw [hop] at hr
 simp only at hr
 rw [hc] at hr
 split at hr
 ·rename_i f heq
  injection heq with heq;subst heq
  split at hr
  ·split at hr
   ·rename_i v n hv hn
    cases hlen:lenAV v with
    | none=>simp [hlen] at hr
    | some m=>simp [hlen] at hr;exact .inl ⟨m,hr.2.symm⟩
   ·simp at hr
  ·simp at hr
 ·rename_i f heq
  injection heq with heq;subst heq
  split at hr
  ·rename_i x y t t' hargs _
   split at hr
   ·rename_i v u _ hx hy
    unfold appAV at hr
    split at hr
    ·obtain ⟨c1,j,b1,v1,e1,e2,v2,wd,row,n,e3⟩:=appPut_put hr
     injection e1 with _ e1
     refine .inr (.inr ⟨j,b1,v1,e1,e2,?_⟩)
     subst e3
     rw [touch_append hop hc hargs hx hy]
     exact List.mem_cons_self ..
    ·exact .inr (.inl ⟨_,x,y,v,u,rfl,hargs,hx,hy,hr⟩)
   ·simp at hr
  ·simp at hr
 ·rename_i f heq
  injection heq with heq;subst heq
  split at hr
  ·rename_i x t hargs _
   split at hr
   ·rename_i v hx
    obtain ⟨c1,j,b1,v1,e1,e2,v2,wd,row,n,e3⟩:=clearAV_put hr
    injection e1 with _ e1
    refine .inr (.inr ⟨j,b1,v1,e1,e2,?_⟩)
    unfold touch
    simp only [hop,hc,hargs,hx,e3,List.mem_singleton]
   ·simp at hr
  ·simp at hr
 ·rename_i f heq;cases heq
 ·simp at hr
theorem lookAV_congr {t:TypeId} {m key:AV} {ok:Bool} (h:∀ j,m=.mp j→loc j=loc' j):lookAV P loc t m key ok=lookAV P loc' t m key ok:=by
 have:mapRows loc m=mapRows loc' m:=by
  cases m<;>try rfl
  simp only [mapRows,h _ rfl]
 unfold lookAV
 rw [this]
theorem putAV_congr {t:TypeId} {m key x:AV} (h:∀ j,m=.mp j→loc j=loc' j):putAV P loc t m key x=putAV P loc' t m key x:=by
 cases m<;>try rfl
 simp only [putAV,h _ rfl]
theorem lookAV_val {t:TypeId} {m key:AV} {ok:Bool} {r:Bool × Res} (h:lookAV P loc t m key ok=some r):∃ c v,r=(c,.val v):=by
 unfold lookAV at h
 (repeat' split at h)<;>first | (cases h;done) | (injection h with h;exact ⟨_,_,h.symm⟩)
theorem putAV_store {t:TypeId} {m key x:AV} {r:Bool × Res} (h:putAV P loc t m key x=some r):∃ c j b,r=(c,.store j b)∧m=.mp j∧(loc j).isSome=true:=by
 unfold putAV at h
 split at h
 ·split at h
  ·split at h
   ·rename_i hj _
    split at h
    ·split at h
     ·injection h with h;exact ⟨_,_,_,h.symm,rfl,by rw [hj];rfl⟩
     ·cases h
    ·cases h
   ·cases h
  ·cases h
 ·cases h
theorem makeMapAV_alloc {t:TypeId} {r:Bool × Res} (h:makeMapAV P nx t=some r):∃ c b v,r=(c,.alloc b v):=by
 unfold makeMapAV at h
 (repeat' split at h)<;>first | (cases h;done) | (injection h with h;exact ⟨_,_,_,h.symm⟩)
theorem lookAV2_congr {t:TypeId} {m key:AV} {ok:Bool} (h:∀ j,m=.mp j→loc j=loc' j):lookAV2 P loc t m key ok=lookAV2 P loc' t m key ok:=by
 have:fLook P loc t m key=fLook P loc' t m key:=by
  cases m<;>try rfl
  simp only [fLook,h _ rfl]
 unfold lookAV2
 rw [this,lookAV_congr h]
theorem putAV2_congr {t:TypeId} {m key x:AV} (h:∀ j,m=.mp j→loc j=loc' j):putAV2 P loc t m key x=putAV2 P loc' t m key x:=by
 cases m<;>try rfl
 simp only [putAV2,h _ rfl]
 rw [putAV_congr h]
theorem lookAV2_val {t:TypeId} {m key:AV} {ok:Bool} {r:Bool × Res} (h:lookAV2 P loc t m key ok=some r):∃ c v,r=(c,.val v):=by
 unfold lookAV2 at h
 split at h
 ·injection h with h;exact ⟨_,_,h.symm⟩
 ·split at h
  ·injection h with h;exact ⟨_,_,h.symm⟩
  ·exact lookAV_val h
theorem putAV2_store {t:TypeId} {m key x:AV} {r:Bool × Res} (h:putAV2 P loc t m key x=some r):∃ c j b,r=(c,.store j b)∧m=.mp j∧(loc j).isSome=true:=by
 unfold putAV2 at h
 split at h
 ·split at h
  ·rename_i hj _
   (repeat' split at h)<;>first | (cases h;done) | (injection h with h;exact ⟨_,_,_,h.symm,rfl,by rw [hj];rfl⟩)
  ·rename_i hj _
   (repeat' split at h)<;>first | (cases h;done) | (injection h with h;exact ⟨_,_,_,h.symm,rfl,by rw [hj];rfl⟩)
  ·exact putAV_store h
 ·exact putAV_store h
theorem makeMap2_alloc {t:TypeId} {r:Bool × Res} (h:makeMap2 P nx t=some r):∃ c b v,r=(c,.alloc b v):=by
 unfold makeMap2 at h
 split at h
 ·rename_i r0 h0
  injection h with h;subst h
  unfold poolMk at h0
  (repeat' split at h0)<;>first | (cases h0;done) | (injection h0 with h0;exact ⟨_,_,_,h0.symm⟩)
 ·exact makeMapAV_alloc h
theorem entAV_congr {t:TypeId} {m key:AV} (h:∀ j,m=.mp j→loc j=loc' j):entAV P loc t m key=entAV P loc' t m key:=by
 cases m<;>try rfl
 simp only [entAV,h _ rfl]
theorem entStAV_congr {m s x:AV} (h:∀ j,m=.mp j→loc j=loc' j):entStAV loc m s x=entStAV loc' m s x:=by
 cases m<;>try rfl
 cases s<;>try rfl
 rename_i k q
 cases k<;>first | rfl | simp only [entStAV,h _ rfl]
theorem lastAV_congr {x:AV} (h:∀ j wd row col,x=.lptr j wd row col→loc j=loc' j):lastAV loc x=lastAV loc' x:=by
 cases x<;>try rfl
 simp only [lastAV,h _ _ _ _ rfl]
theorem entAV_put {t:TypeId} {m key:AV} {r:Bool × Res} (h:entAV P loc t m key=some r):∃ c j b v,r=(c,.put j b v)∧m=.mp j∧(loc j).isSome=true:=by
 unfold entAV at h
 split at h
 case h_2=>cases h
 split at h
 case h_2=>cases h
 split at h
 case h_2=>cases h
 rename_i hj _
 split at h
 case h_2=>cases h
 split at h
 case h_2=>cases h
 injection h with h;exact ⟨_,_,_,_,h.symm,rfl,by rw [hj];rfl⟩
theorem entStAV_store {m s x:AV} {r:Bool × Res} (h:entStAV loc m s x=some r):∃ c j b,r=(c,.store j b)∧m=.mp j∧(loc j).isSome=true:=by
 unfold entStAV at h
 split at h
 case h_2=>cases h
 split at h
 case h_2=>cases h
 rename_i hj
 split at h
 case h_2=>cases h
 injection h with h;exact ⟨_,_,_,h.symm,rfl,by rw [hj];rfl⟩
theorem rangeAV_alloc {t:TypeId} {x:AV} {r:Bool × Res} (h:rangeAV P nx t x=some r):∃ c b v,r=(c,.alloc b v):=by
 unfold rangeAV at h
 (repeat' split at h)<;>first | (cases h;done) | (injection h with h;exact ⟨_,_,_,h.symm⟩)
theorem lastAV_val {x:AV} {r:Bool × Res} (h:lastAV loc x=some r):∃ c v,r=(c,.val v):=by
 unfold lastAV at h
 (repeat' split at h)<;>first | (cases h;done) | (injection h with h;exact ⟨_,_,h.symm⟩)
theorem native_ent {r:Bool × Res} (h:native P p loc nx o=some r):(∀ t m k,o.op=.mapEntry t m k→∃ c j b v,r=(c,.put j b v)∧p m=some (.mp j)∧(loc j).isSome=true)∧(∀ t m q v,o.op=.entryStore t m q v→∃ c j b,r=(c,.store j b)∧p m=some (.mp j)∧(loc j).isSome=true) ∧
  (∀ t x,o.op=.range t x→∃ c b v,r=(c,.alloc b v))∧∀ x,o.op=.entry x→∃ c v,r=(c,.val v):=by
 unfold native at h
 refine ⟨fun t m k e=>?_,fun t m q v e=>?_,fun t x e=>?_,fun x e=>?_⟩
 ·rw [e] at h;simp only at h
  split at h
  ·rename_i hm _
   obtain ⟨c,j,b,v,h1,h2,h3⟩:=entAV_put h
   exact ⟨c,j,b,v,h1,by rw [hm,h2],h3⟩
  ·cases h
 ·rw [e] at h;simp only at h
  split at h
  ·rename_i hm _ _
   obtain ⟨c,j,b,h1,h2,h3⟩:=entStAV_store h
   exact ⟨c,j,b,h1,by rw [hm,h2],h3⟩
  ·cases h
 ·rw [e] at h;simp only at h
  split at h
  ·exact rangeAV_alloc h
  ·cases h
 ·rw [e] at h;simp only at h
  split at h
  ·exact lastAV_val h
  ·cases h
theorem native_map {r:Bool × Res} (h:native P p loc nx o=some r):(∀ t m k ok,o.op=.lookup t m k ok→∃ c v,r=(c,.val v))∧(∀ t q,o.op=.makeMap t q→∃ c b v,r=(c,.alloc b v)) ∧
  (∀ t m k v,o.op=.mapUpdate t m k v∨o.op=.insert t m k v→∃ c j b,r=(c,.store j b)∧p m=some (.mp j)∧(loc j).isSome=true):=by
 unfold native at h
 refine ⟨fun t m k ok e=>?_,fun t q e=>?_,fun t m k v e=>?_⟩
 ·rw [e] at h;simp only at h
  split at h
  ·exact lookAV2_val h
  ·cases h
 ·rw [e] at h
  cases q with
  | none=>exact makeMap2_alloc h
  | some q=>simp at h
 ·rcases e with e | e<;>rw [e] at h<;>simp only at h
  all_goals
   split at h
   ·rename_i hm _ _
    obtain ⟨c,j,b,h1,h2,h3⟩:=putAV2_store h
    exact ⟨c,j,b,h1,by rw [hm,h2],h3⟩
   ·cases h
theorem native_congr (h:∀ x ∈ o.op.operands,p x=p' x) (hl:∀ t ∈ touch P p nx o,loc t.1=loc' t.1):native P p loc nx o=native P p' loc' nx o:=by
 unfold native
 unfold touch at hl
 cases hop:o.op with
 | move x=>rw [hop] at h;simp only [h x (by simp [Op.operands])]
 | assign x=>rw [hop] at h;simp only [h x (by simp [Op.operands])]
 | pick c a b=>rw [hop] at h;simp only [h c (by simp [Op.operands]),h a (by simp [Op.operands]),h b (by simp [Op.operands])]
 | alloc t=>rfl
 | box t x=>rw [hop] at h;simp only [h x (by simp [Op.operands])]
 | build t ps=>
  rw [hop] at h
  have:mapParts p ps.toList=mapParts p' ps.toList:=mapParts_congr fun x hx=>h x.2 (by simp only [Op.operands,List.mem_toArray,List.mem_map];exact ⟨x,by simpa using hx,rfl⟩)
  simp only [this]
 | buildSlice t n ps=>
  rw [hop] at h
  have:mapParts p ps.toList=mapParts p' ps.toList:=mapParts_congr fun x hx=>h x.2 (by simp only [Op.operands,List.mem_toArray,List.mem_map];exact ⟨x,by simpa using hx,rfl⟩)
  simp only [this]
 | load t x=>
  rw [hop] at h hl
  have hx:=h x (by simp [Op.operands])
  simp only [hx] at hl ⊢
  cases hv:p' x with
  | none=>rfl
  | some v=>
   rw [hv] at hl
   cases v with
   | lptr j wd row col=>simp only [hl (j,false) (by simp)]
   | optr j v wd row col=>simp only [hl (j,false) (by simp)]
   | _=>rfl
 | store t a x=>
  rw [hop] at h hl
  have ha:=h a (by simp [Op.operands])
  have hx:=h x (by simp [Op.operands])
  simp only [ha] at hl
  simp only [ha,hx]
  cases hv:p' a with
  | none=>rfl
  | some v=>
   rw [hv] at hl
   cases v with
   | lptr j wd row col=>have e:=hl (j,true) (by simp);simp only at e;cases p' x<;>simp only [e]
   | optr j v wd row col=>have e:=hl (j,true) (by simp);simp only at e;cases p' x<;>simp only [e]
   | _=>rfl
 | nilCheck x=>rw [hop] at h;simp only [h x (by simp [Op.operands])]
 | makeFunc f xs ys=>
  rw [hop] at h
  have e1:mapEv p xs.toList=mapEv p' xs.toList:=mapEv_congr fun x hx=>h x (by simp only [Op.operands,Array.mem_append];exact .inl (by simpa using hx))
  have e2:mapEv p ys.toList=mapEv p' ys.toList:=mapEv_congr fun x hx=>h x (by simp only [Op.operands,Array.mem_append];exact .inr (by simpa using hx))
  simp only [e1,e2]
 | slice t x lo hi mx=>
  rw [hop] at h
  have hx:=h x (by simp [Op.operands])
  have h1:∀ d n,boundAV p lo d n=boundAV p' lo d n:=fun d n=>boundAV_congr fun y hy=>h y (by simp only [Op.operands,Array.mem_append];exact .inl (.inl (.inr hy)))
  have h2:∀ d n,boundAV p hi d n=boundAV p' hi d n:=fun d n=>boundAV_congr fun y hy=>h y (by simp only [Op.operands,Array.mem_append];exact .inl (.inr hy))
  have h3:∀ d n,boundAV p mx d n=boundAV p' mx d n:=fun d n=>boundAV_congr fun y hy=>h y (by simp only [Op.operands,Array.mem_append];exact .inr hy)
  have h4:∀ len v,p' x=some v→spareAV loc len v=spareAV loc' len v:=fun len v hv=>spareAV_congr fun j v2 wd row n e=>by
   subst e
   rw [hop] at hl;exact hl (j,false) (by simp [hx,hv])
  cases mx with
  | none=>
   have h6:∀ y,arrSl P p t y lo hi=arrSl P p' t y lo hi:=fun y=>by unfold arrSl;simp only [h1,h2]
   simp only [hx,h1,h2,h6]
   cases hv:p' x with
   | none=>rfl
   | some v=>
    have h5:=fun len=>h4 len v hv
    cases sliceT P t with
    | none=>rfl
    | some n=>simp only [h5]
  | some m=>cases hi with
   | none=>rfl
   | some i=>simp only [hx,h1,h2,h3]
 | fieldAddr s x f=>rw [hop] at h;simp only [h x (by simp [Op.operands])]
 | field s x f=>rw [hop] at h;simp only [h x (by simp [Op.operands])]
 | indexAddr t x i=>rw [hop] at h;simp only [h x (by simp [Op.operands]),h i (by simp [Op.operands])]
 | index t x i=>rw [hop] at h;simp only [h x (by simp [Op.operands]),h i (by simp [Op.operands])]
 | extract x i=>rw [hop] at h;simp only [h x (by simp [Op.operands])]
 | makeMap t q=>cases q<;>rfl
 | lookup t m k ok=>
  rw [hop] at h hl
  have hm:=h m (by simp [Op.operands])
  simp only [hm] at hl
  simp only [hm,h k (by simp [Op.operands])]
  cases hv:p' m with
  | none=>rfl
  | some v=>
   rw [hv] at hl
   cases p' k with
   | none=>rfl
   | some key=>exact lookAV2_congr fun j e=>by subst e;exact hl (j,false) (by simp)
 | mapUpdate t m k v=>
  rw [hop] at h hl
  have hm:=h m (by simp [Op.operands])
  simp only [hm] at hl
  simp only [hm,h k (by simp [Op.operands]),h v (by simp [Op.operands])]
  cases hv:p' m with
  | none=>rfl
  | some x=>
   rw [hv] at hl
   cases p' k with
   | none=>rfl
   | some key=>cases p' v with
    | none=>rfl
    | some y=>exact putAV2_congr fun j e=>by subst e;exact hl (j,true) (by simp)
 | insert t m k v=>
  rw [hop] at h hl
  have hm:=h m (by simp [Op.operands])
  simp only [hm] at hl
  simp only [hm,h k (by simp [Op.operands]),h v (by simp [Op.operands])]
  cases hv:p' m with
  | none=>rfl
  | some x=>
   rw [hv] at hl
   cases p' k with
   | none=>rfl
   | some key=>cases p' v with
    | none=>rfl
    | some y=>exact putAV2_congr fun j e=>by subst e;exact hl (j,true) (by simp)
 | mapEntry t m k=>
  rw [hop] at h hl
  have hm:=h m (by simp [Op.operands])
  simp only [hm] at hl
  simp only [hm,h k (by simp [Op.operands])]
  cases hv:p' m with
  | none=>rfl
  | some x=>
   rw [hv] at hl
   cases p' k with
   | none=>rfl
   | some key=>exact entAV_congr fun j e=>by subst e;exact hl (j,true) (by simp)
 | entryStore t m q v=>
  rw [hop] at h hl
  have hm:=h m (by simp [Op.operands])
  simp only [hm] at hl
  simp only [hm,h q (by simp [Op.operands]),h v (by simp [Op.operands])]
  cases hv:p' m with
  | none=>rfl
  | some x=>
   rw [hv] at hl
   cases p' q with
   | none=>rfl
   | some key=>cases p' v with
    | none=>rfl
    | some y=>exact entStAV_congr fun j e=>by subst e;exact hl (j,true) (by simp)
 | range t x=>rw [hop] at h;simp only [h x (by simp [Op.operands])]
 | entry x=>
  rw [hop] at h hl
  have hm:=h x (by simp [Op.operands])
  simp only [hm] at hl
  simp only [hm]
  cases hv:p' x with
  | none=>rfl
  | some y=>
   rw [hv] at hl
   exact lastAV_congr fun j wd row col e=>by subst e;exact hl (j,false) (by simp)
 | binOp b t x y t'=>rw [hop] at h;simp only [h x (by simp [Op.operands]),h y (by simp [Op.operands])]
 | call c=>
  rw [hop] at h
  have hargs:mapEv p c.args.toList=mapEv p' c.args.toList:=mapEv_congr fun x hx=>h x (by
   simp only [Op.operands,Call.operands,Array.mem_append];exact .inr (by simpa using hx))
  cases hc:c.callee with
  | value f=>
   have hf:p f=p' f:=h f (by simp [Op.operands,Call.operands,hc])
   simp only [hc,hf,hargs]
  | invoke x m=>simp only [hc]
  | builtin b=>
   have hmem:∀ x,x ∈ c.args.toList→p x=p' x:=fun x hx=>h x (by simp only [Op.operands,Call.operands,Array.mem_append];right;simpa using hx)
   by_cases hb1:b=.len
   ·subst hb1
    simp only [hc]
    cases ha:c.args.toList with
    | nil=>rfl
    | cons x xs=>
     have hx:p x=p' x:=hmem x (by rw [ha];simp)
     cases xs with
     | nil=>
      cases ht:c.argTypes.toList with
      | nil=>rfl
      | cons t ts=>cases ts with
       | nil=>simp only [hx]
       | cons t' ts=>rfl
     | cons y ys=>cases c.argTypes.toList<;>rfl
   ·by_cases hb2:b=.append
    ·subst hb2
     rw [hop] at hl
     simp only [hc] at hl ⊢
     split
     ·rename_i x y t t' ha _
      have hx:=hmem x (by rw [ha];simp)
      have hy:=hmem y (by rw [ha];simp)
      simp only [ha,hx,hy] at hl ⊢
      cases hpx:p' x with
      | none=>cases Nat.beq t t'<;>rfl
      | some v=>
       cases hpy:p' y with
       | none=>cases Nat.beq t t'<;>rfl
       | some u=>
        simp only [hpx,hpy] at hl ⊢
        have e:appAV P loc nx t v u=appAV P loc' nx t v u:=by
         unfold appAV
         rw [appendAV_congr (P:=P) (loc:=loc) (loc':=loc') (nx:=nx) (t:=t) (x:=v) (y:=u) (fun j v' n e=>by subst e;exact hl (j,true) (by simp)) (fun j hj=>hl (j,false) (List.mem_cons_of_mem _ (List.mem_map.2 ⟨j,hj,rfl⟩))),
          appPut_congr (P:=P) (loc:=loc) (loc':=loc') (t:=t) (x:=v) (y:=u) (fun j v' wd row n e=>by subst e;exact hl (j,true) (by simp)) (fun j hj=>hl (j,false) (List.mem_cons_of_mem _ (List.mem_map.2 ⟨j,hj,rfl⟩)))]
        cases Nat.beq t t' with
        | false=>rfl
        | true=>exact e
     ·rfl
    ·by_cases hb3:b=.clear
     ·subst hb3
      rw [hop] at hl
      simp only [hc] at hl ⊢
      split
      ·rename_i x t ha _
       have hx:=hmem x (by rw [ha];simp)
       simp only [ha,hx] at hl ⊢
       cases hpx:p' x with
       | none=>rfl
       | some v=>
        simp only [hpx] at hl ⊢
        exact clearAV_congr fun j v2 wd row n e=>by subst e;exact hl (j,true) (by simp)
      ·rfl
     ·cases b<;>first | exact absurd rfl hb1 | exact absurd rfl hb2 | exact absurd rfl hb3 | simp only [hc]
 | _=>rfl
theorem opRes_congr (h:∀ x ∈ o.op.operands,p x=p' x) (hl:∀ t ∈ touch P p nx o,loc t.1=loc' t.1):opRes P p loc nx o=opRes P p' loc' nx o:=by
 unfold opRes
 rw [native_congr h hl,byCalm_congr h]
theorem exp0_congr {x:AV} (hl:∀ j ∈ ids0 x,loc j=loc' j):exp0 loc x=exp0 loc' x:=by
 cases x with
 | lptr j wd row col=>simp only [exp0,hl j (by simp [ids0])]
 | lsl j wd row col len cap=>simp only [exp0,hl j (by simp [ids0])]
 | osl j v n=>simp only [exp0,hl j (by simp [ids0])]
 | oss j v wd row n=>simp only [exp0,hl j (by simp [ids0])]
 | optr j v wd row n=>simp only [exp0,hl j (by simp [ids0])]
 | mp j=>simp only [exp0,hl j (by simp [ids0])]
 | _=>rfl
theorem expL_congr:∀ {xs:List AV},(∀ j ∈ idsL xs,loc j=loc' j)→expL loc xs=expL loc' xs
 | [],_=>rfl
 | x :: xs,h=>by simp only [expL];rw [exp0_congr fun j hj=>h j (by simp [idsL,hj]),expL_congr fun j hj=>h j (by simp [idsL,hj])]
theorem expA_congr {x:AV} (hl:∀ j ∈ ids x,loc j=loc' j):expA loc x=expA loc' x:=by
 cases x with
 | fn f xs ys=>simp only [expA];rw [expL_congr (loc':=loc') fun j hj=>hl j (by simp [ids,hj]),expL_congr (xs:=ys) (loc':=loc') fun j hj=>hl j (by simp [ids,hj])]
 | agg cs=>simp only [expA];rw [expL_congr (loc':=loc') fun j hj=>hl j (by simp [ids,hj])]
 | tup cs=>simp only [expA];rw [expL_congr (loc':=loc') fun j hj=>hl j (by simp [ids,hj])]
 | lptr j wd row col=>exact exp0_congr (by simpa [ids] using hl)
 | lsl j wd row col len cap=>exact exp0_congr (by simpa [ids] using hl)
 | osl j v n=>exact exp0_congr (by simpa [ids] using hl)
 | oss j v wd row n=>exact exp0_congr (by simpa [ids] using hl)
 | optr j v wd row n=>exact exp0_congr (by simpa [ids] using hl)
 | mp j=>exact exp0_congr (by simpa [ids] using hl)
 | _=>rfl
theorem expAll_congr:∀ {xs:List AV},(∀ j ∈ idsAll xs,loc j=loc' j)→expAll loc xs=expAll loc' xs
 | [],_=>rfl
 | x :: xs,h=>by simp only [expAll];rw [expA_congr fun j hj=>h j (by simp [idsAll,hj]),expAll_congr fun j hj=>h j (by simp [idsAll,hj])]
theorem callArgs_congr {args:List AV} (h:∀ j ∈ idsAll args,loc j=loc' j):callArgs loc args=callArgs loc' args:=by
 unfold callArgs
 rw [expAll_congr h]
theorem opRes_called {res:Res} {c:Bool} (h:opRes P p loc nx o=some (c,res)) (hres:(∃ f a,res=.call f a)∨(∃ f a,res=.turn f a)∨∃ f t a,res=.fresh f t a) :
  ∃ cc g gv vs,o.op=.call cc∧cc.callee=.value g∧p g=some gv∧mapEv p cc.args.toList=some vs∧callAV P gv vs=some res:=by
 unfold opRes at h
 split at h
 ·rename_i rr hr
  injection h with h;subst h
  have hr0:=hr
  unfold native at hr
  cases hop:o.op with
  | call cc=>
   rw [hop] at hr
   simp only at hr
   cases hc:cc.callee with
   | value g=>
    rw [hc] at hr
    simp only at hr
    cases hg:p g with
    | none=>simp [hg] at hr
    | some gv=>
     cases hvs:mapEv p cc.args.toList with
     | none=>simp [hg,hvs] at hr
     | some vs=>
      simp only [hg,hvs] at hr
      cases hca:callAV P gv vs with
      | none=>simp [hca] at hr
      | some res'=>
       simp [hca] at hr
       obtain ⟨_,hr⟩:=hr
       subst hr
       exact ⟨cc,g,gv,vs,rfl,hc,hg,hvs,hca⟩
   | invoke x m=>rw [hc] at hr;simp at hr
   | builtin b=>
    rcases native_builtin hop hc hr0 with ⟨n,e⟩ | ⟨t,x,y,v,u,_,_,_,_,hh⟩ | ⟨j1,b1,v1,e,_⟩
    ·subst e;rcases hres with ⟨_,_,e⟩ | ⟨_,_,e⟩ | ⟨_,_,_,e⟩<;>cases e
    ·obtain ⟨j1,b1,v1,e,_⟩:=appendAV_grow hh;subst e;rcases hres with ⟨_,_,e⟩ | ⟨_,_,e⟩ | ⟨_,_,_,e⟩<;>cases e
    ·subst e;rcases hres with ⟨_,_,e⟩ | ⟨_,_,e⟩ | ⟨_,_,_,e⟩<;>cases e
  | slice t x lo hi mx=>
   exfalso
   rw [hop] at hr
   rcases hres with ⟨_,_,e⟩ | ⟨_,_,e⟩ | ⟨_,_,_,e⟩<;>subst e
   all_goals
    cases mx with
    | none=>
      simp only at hr
      split at hr
      ·rename_i r0 ha;obtain ⟨c1,v1,e1⟩:=arrSl_val ha;rw [e1] at hr;simp at hr
      (repeat' split at hr)<;>simp at hr
    | some m=>cases hi with
     | none=>simp at hr
     | some i=>simp only at hr;(repeat' split at hr)<;>simp at hr
  | lookup t m k ok=>
   obtain ⟨c1,v1,e1⟩:=(native_map hr0).1 t m k ok hop
   rcases hres with ⟨_,_,e⟩ | ⟨_,_,e⟩ | ⟨_,_,_,e⟩<;>rw [e] at e1<;>simp at e1
  | makeMap t q=>
   obtain ⟨c1,v1,b1,e1⟩:=(native_map hr0).2.1 t q hop
   rcases hres with ⟨_,_,e⟩ | ⟨_,_,e⟩ | ⟨_,_,_,e⟩<;>rw [e] at e1<;>simp at e1
  | mapUpdate t m k v=>
   obtain ⟨c1,v1,b1,e1,_⟩:=(native_map hr0).2.2 t m k v (.inl hop)
   rcases hres with ⟨_,_,e⟩ | ⟨_,_,e⟩ | ⟨_,_,_,e⟩<;>rw [e] at e1<;>simp at e1
  | insert t m k v=>
   obtain ⟨c1,v1,b1,e1,_⟩:=(native_map hr0).2.2 t m k v (.inr hop)
   rcases hres with ⟨_,_,e⟩ | ⟨_,_,e⟩ | ⟨_,_,_,e⟩<;>rw [e] at e1<;>simp at e1
  | mapEntry t m k=>
   obtain ⟨c1,j1,b1,v1,e1,_⟩:=(native_ent hr0).1 t m k hop
   rcases hres with ⟨_,_,e⟩ | ⟨_,_,e⟩ | ⟨_,_,_,e⟩<;>rw [e] at e1<;>simp at e1
  | entryStore t m q v=>
   obtain ⟨c1,j1,b1,e1,_⟩:=(native_ent hr0).2.1 t m q v hop
   rcases hres with ⟨_,_,e⟩ | ⟨_,_,e⟩ | ⟨_,_,_,e⟩<;>rw [e] at e1<;>simp at e1
  | range t x=>
   obtain ⟨c1,b1,v1,e1⟩:=(native_ent hr0).2.2.1 t x hop
   rcases hres with ⟨_,_,e⟩ | ⟨_,_,e⟩ | ⟨_,_,_,e⟩<;>rw [e] at e1<;>simp at e1
  | entry x=>
   obtain ⟨c1,v1,e1⟩:=(native_ent hr0).2.2.2 x hop
   rcases hres with ⟨_,_,e⟩ | ⟨_,_,e⟩ | ⟨_,_,_,e⟩<;>rw [e] at e1<;>simp at e1
  | _=>
   exfalso
   rw [hop] at hr
   rcases hres with ⟨_,_,e⟩ | ⟨_,_,e⟩ | ⟨_,_,_,e⟩<;>subst e<;>simp only at hr<;>(repeat' split at hr)<;>simp at hr
 ·unfold byCalm at h
  split at h
  ·split at h
   ·rename_i v hv
    cases hx:ofV v with
    | none=>simp [hx] at h
    | some y=>simp [hx] at h;obtain ⟨_,h⟩:=h;subst h;rcases hres with ⟨_,_,e⟩ | ⟨_,_,e⟩ | ⟨_,_,_,e⟩<;>cases e
   ·simp at h
  ·simp at h
theorem opRes_call {args:List AV} {f:FuncId} {c:Bool} (h:opRes P p loc nx o=some (c,.call f args)):∀ j ∈ idsAll args,(j,false) ∈ touch P p nx o:=by
 obtain ⟨cc,g,gv,vs,h1,h2,h3,h4,h5⟩:=opRes_called h (.inl ⟨_,_,rfl⟩)
 intro j hj
 unfold touch
 simp only [h1,h2,h3,h4,h5,List.mem_map]
 exact ⟨j,hj,rfl⟩
theorem opRes_turn {args:List AV} {f:FuncId} {c:Bool} (h:opRes P p loc nx o=some (c,.turn f args)):∀ j ∈ idsAll args,(j,true) ∈ touch P p nx o:=by
 obtain ⟨cc,g,gv,vs,h1,h2,h3,h4,h5⟩:=opRes_called h (.inr (.inl ⟨_,_,rfl⟩))
 intro j hj
 unfold touch
 simp only [h1,h2,h3,h4,h5,List.mem_map]
 exact ⟨j,hj,rfl⟩
theorem opRes_fresh {args:List AV} {f:FuncId} {t:TypeId} {c:Bool} (h:opRes P p loc nx o=some (c,.fresh f t args)):(nx,true) ∈ touch P p nx o∧∀ j ∈ idsAll args,(j,false) ∈ touch P p nx o:=by
 obtain ⟨cc,g,gv,vs,h1,h2,h3,h4,h5⟩:=opRes_called h (.inr (.inr ⟨_,_,_,rfl⟩))
 unfold touch
 simp only [h1,h2,h3,h4,h5]
 exact ⟨List.mem_cons_self ..,fun j hj=>List.mem_cons_of_mem _ (List.mem_map.2 ⟨j,hj,rfl⟩)⟩
theorem turnArgs_congr {args:List AV} (h:∀ j ∈ idsAll args,loc j=loc' j):turnArgs loc args=turnArgs loc' args:=by
 cases args with
 | nil=>rfl
 | cons x xs=>
  cases x<;>try rfl
  rename_i j v n
  simp only [turnArgs,h j (by simp [idsAll,ids,ids0])]
theorem turnArgs_mem {args rest:List AV} {j wd v n:Nat} {t:TypeId} {g:Get AV} (h:turnArgs loc args=some (j,t,wd,v,n,g,rest)):j ∈ idsAll args∧(loc j).isSome=true:=by
 unfold turnArgs at h
 split at h
 ·split at h
  ·rename_i hl
   split at h
   ·injection h with h;injection h with e h;subst e
    exact ⟨by simp [idsAll,ids,ids0],by simp [hl]⟩
   ·simp at h
  ·simp at h
 ·simp at h
theorem methArgs_congr {args:List AV} (h:∀ j ∈ idsAll args,loc j=loc' j):methArgs loc args=methArgs loc' args:=by
 cases args with
 | nil=>rfl
 | cons x xs=>
  cases x<;>try rfl
  rename_i j wd row col
  cases row<;>cases col<;>try rfl
  simp only [methArgs,h j (by simp [idsAll,ids,ids0])]
theorem methArgs_mem {args rest cs:List AV} {j wd:Nat} {t:TypeId} (h:methArgs loc args=some (j,t,wd,cs,rest)):j ∈ idsAll args∧(loc j).isSome=true:=by
 unfold methArgs at h
 split at h
 ·split at h
  ·rename_i hl
   split at h
   ·injection h with h;injection h with e h;subst e
    exact ⟨by simp [idsAll,ids,ids0],by simp [hl]⟩
   ·simp at h
  ·simp at h
 ·simp at h
theorem opRes_write {j:Nat} {b:Blk} {c:Bool} (h:opRes P p loc nx o=some (c,.store j b)):(j,true) ∈ touch P p nx o∧(loc j).isSome=true:=by
 unfold opRes at h
 split at h
 ·rename_i rr hr
  injection h with h;subst h
  have hr0:=hr
  unfold native at hr
  unfold touch
  cases hop:o.op with
  | store t a x=>
   rw [hop] at hr
   simp only at hr ⊢
   split at hr
   ·rename_i j' wd row col v ha hx
    split at hr
    ·rename_i u cs xs n hj hcell hsz
     split at hr
     ·injection hr with hr;injection hr with _ hr;injection hr with e1 e2
      subst e1
      exact ⟨by simp [ha],by simp [hj]⟩
     ·simp at hr
    ·simp at hr
   ·rename_i j' v' wd row col x' ha hx
    split at hr
    ·rename_i u wd' v2 n get xs m hj hcell hsz
     split at hr
     ·injection hr with hr;injection hr with _ hr;injection hr with e1 e2
      subst e1
      exact ⟨by simp [ha],by simp [hj]⟩
     ·simp at hr
    ·simp at hr
   ·simp at hr
  | call cc=>
   rw [hop] at hr
   simp only at hr
   cases hc:cc.callee with
   | value g=>
    rw [hc] at hr
    simp only at hr
    split at hr
    ·rename_i gv vs hg hvs
     cases hca:callAV P gv vs with
     | none=>simp [hca] at hr
     | some res=>
      simp [hca] at hr
      obtain ⟨_,hr⟩:=hr
      subst hr
      obtain ⟨_,_,_,_,_,_,_,h'⟩:=callAV_or hca
      rcases h' with h' | h' | ⟨_,h'⟩<;>cases h'
    ·simp at hr
   | invoke x m=>rw [hc] at hr;simp at hr
   | builtin b=>
    rcases native_builtin hop hc hr0 with ⟨n,e⟩ | ⟨t,x,y,v,u,_,_,_,_,hh⟩ | ⟨j1,b1,v1,e,_⟩
    ·cases e
    ·obtain ⟨j1,b1,v1,e,_⟩:=appendAV_grow hh;cases e
    ·cases e
  | slice t x lo hi mx=>
   rw [hop] at hr
   cases mx with
   | none=>
      simp only at hr
      split at hr
      ·rename_i r0 ha;obtain ⟨c1,v1,e1⟩:=arrSl_val ha;rw [e1] at hr;simp at hr
      (repeat' split at hr)<;>simp at hr
   | some m=>cases hi with
    | none=>simp at hr
    | some i=>simp only at hr;(repeat' split at hr)<;>simp at hr
  | lookup t m k ok=>obtain ⟨c1,v1,e1⟩:=(native_map hr0).1 t m k ok hop;simp at e1
  | makeMap t q=>obtain ⟨c1,v1,b1,e1⟩:=(native_map hr0).2.1 t q hop;simp at e1
  | mapUpdate t m k v=>
   obtain ⟨c1,v1,b1,e1,e2,e3⟩:=(native_map hr0).2.2 t m k v (.inl hop)
   simp at e1;obtain ⟨_,e1,_⟩:=e1;subst e1
   exact ⟨by simp [e2],e3⟩
  | insert t m k v=>
   obtain ⟨c1,v1,b1,e1,e2,e3⟩:=(native_map hr0).2.2 t m k v (.inr hop)
   simp at e1;obtain ⟨_,e1,_⟩:=e1;subst e1
   exact ⟨by simp [e2],e3⟩
  | mapEntry t m k=>obtain ⟨c1,j1,b1,v1,e1,_⟩:=(native_ent hr0).1 t m k hop;simp at e1
  | entryStore t m q v=>
   obtain ⟨c1,j1,b1,e1,e2,e3⟩:=(native_ent hr0).2.1 t m q v hop
   simp at e1;obtain ⟨_,e1,_⟩:=e1;subst e1
   exact ⟨by simp [e2],e3⟩
  | range t x=>obtain ⟨c1,b1,v1,e1⟩:=(native_ent hr0).2.2.1 t x hop;simp at e1
  | entry x=>obtain ⟨c1,v1,e1⟩:=(native_ent hr0).2.2.2 x hop;simp at e1
  | _=>rw [hop] at hr;simp only at hr;(repeat' split at hr)<;>simp at hr
 ·unfold byCalm at h
  split at h
  ·split at h
   ·rename_i v hv
    cases hx:ofV v<;>simp [hx] at h
   ·simp at h
  ·simp at h
theorem opRes_put {j:Nat} {b:Blk} {v:AV} {c:Bool} (h:opRes P p loc nx o=some (c,.put j b v)):(j,true) ∈ touch P p nx o∧(loc j).isSome=true:=by
 unfold opRes at h
 split at h
 ·rename_i rr hr
  injection h with h;subst h
  have hr0:=hr
  unfold native at hr
  cases hop:o.op with
  | call cc=>
   rw [hop] at hr
   simp only at hr
   cases hc:cc.callee with
   | value g=>
    rw [hc] at hr
    simp only at hr
    split at hr
    ·rename_i gv vs hg hvs
     cases hca:callAV P gv vs with
     | none=>simp [hca] at hr
     | some res=>
      simp [hca] at hr
      obtain ⟨_,hr⟩:=hr
      subst hr
      obtain ⟨_,_,_,_,_,_,_,h'⟩:=callAV_or hca
      rcases h' with h' | h' | ⟨_,h'⟩<;>cases h'
    ·simp at hr
   | invoke x m=>rw [hc] at hr;simp at hr
   | builtin b=>
    rcases native_builtin hop hc hr0 with ⟨n,e⟩ | ⟨t,x,y,v,u,_,_,_,_,hh⟩ | ⟨j1,b1,v1,e,e2,e3⟩
    ·cases e
    ·obtain ⟨j1,b1,v1,e,_⟩:=appendAV_grow hh;cases e
    ·injection e with e1 _ _;subst e1;exact ⟨e3,e2⟩
  | slice t x lo hi mx=>
   rw [hop] at hr
   cases mx with
   | none=>
      simp only at hr
      split at hr
      ·rename_i r0 ha;obtain ⟨c1,v1,e1⟩:=arrSl_val ha;rw [e1] at hr;simp at hr
      (repeat' split at hr)<;>simp at hr
   | some m=>cases hi with
    | none=>simp at hr
    | some i=>simp only at hr;(repeat' split at hr)<;>simp at hr
  | lookup t m k ok=>obtain ⟨c1,v1,e1⟩:=(native_map hr0).1 t m k ok hop;simp at e1
  | makeMap t q=>obtain ⟨c1,v1,b1,e1⟩:=(native_map hr0).2.1 t q hop;simp at e1
  | mapUpdate t m k v=>obtain ⟨c1,v1,b1,e1,e2,e3⟩:=(native_map hr0).2.2 t m k v (.inl hop);simp at e1
  | insert t m k v=>obtain ⟨c1,v1,b1,e1,e2,e3⟩:=(native_map hr0).2.2 t m k v (.inr hop);simp at e1
  | mapEntry t m k=>
   obtain ⟨c1,j1,b1,v1,e1,e2,e3⟩:=(native_ent hr0).1 t m k hop
   simp at e1;obtain ⟨_,e1,_⟩:=e1;subst e1
   exact ⟨by simp [touch,hop,e2],e3⟩
  | entryStore t m q v=>obtain ⟨c1,j1,b1,e1,_⟩:=(native_ent hr0).2.1 t m q v hop;simp at e1
  | range t x=>obtain ⟨c1,b1,v1,e1⟩:=(native_ent hr0).2.2.1 t x hop;simp at e1
  | entry x=>obtain ⟨c1,v1,e1⟩:=(native_ent hr0).2.2.2 x hop;simp at e1
  | _=>rw [hop] at hr;simp only at hr;(repeat' split at hr)<;>simp at hr
 ·unfold byCalm at h
  split at h
  ·split at h
   ·rename_i v hv
    cases hx:ofV v<;>simp [hx] at h
   ·simp at h
  ·simp at h
theorem opRes_alloc {b:Blk} {v:AV} {c:Bool} (h:opRes P p loc nx o=some (c,.alloc b v)):(nx,true) ∈ touch P p nx o:=by
 unfold opRes at h
 split at h
 ·rename_i rr hr
  injection h with h;subst h
  have hr0:=hr
  unfold native at hr
  unfold touch
  cases hop:o.op with
  | alloc t=>simp
  | box t x=>simp
  | buildSlice t n ps=>simp
  | call cc=>
   rw [hop] at hr
   simp only at hr
   cases hc:cc.callee with
   | value g=>
    rw [hc] at hr
    simp only at hr
    split at hr
    ·rename_i gv vs hg hvs
     cases hca:callAV P gv vs with
     | none=>simp [hca] at hr
     | some res=>
      simp [hca] at hr
      obtain ⟨_,hr⟩:=hr
      subst hr
      obtain ⟨_,_,_,_,_,_,_,h'⟩:=callAV_or hca
      rcases h' with h' | h' | ⟨_,h'⟩<;>cases h'
    ·simp at hr
   | invoke x m=>rw [hc] at hr;simp at hr
   | builtin b=>
    rcases native_builtin hop hc hr0 with ⟨n,e⟩ | ⟨t,x,y,v,u,_,_,_,_,hh⟩ | ⟨j1,b1,v1,e,_⟩
    ·cases e
    ·obtain ⟨j1,b1,v1,e,_⟩:=appendAV_grow hh;cases e
    ·cases e
  | slice t x lo hi mx=>
   rw [hop] at hr
   cases mx with
   | none=>
      simp only at hr
      split at hr
      ·rename_i r0 ha;obtain ⟨c1,v1,e1⟩:=arrSl_val ha;rw [e1] at hr;simp at hr
      (repeat' split at hr)<;>simp at hr
   | some m=>cases hi with
    | none=>simp at hr
    | some i=>simp only at hr;(repeat' split at hr)<;>simp at hr
  | lookup t m k ok=>obtain ⟨c1,v1,e1⟩:=(native_map hr0).1 t m k ok hop;simp at e1
  | makeMap t q=>simp
  | mapUpdate t m k v=>obtain ⟨c1,v1,b1,e1,e2,e3⟩:=(native_map hr0).2.2 t m k v (.inl hop);simp at e1
  | insert t m k v=>obtain ⟨c1,v1,b1,e1,e2,e3⟩:=(native_map hr0).2.2 t m k v (.inr hop);simp at e1
  | mapEntry t m k=>obtain ⟨c1,j1,b1,v1,e1,_⟩:=(native_ent hr0).1 t m k hop;simp at e1
  | entryStore t m q v=>obtain ⟨c1,j1,b1,e1,_⟩:=(native_ent hr0).2.1 t m q v hop;simp at e1
  | range t x=>simp
  | entry x=>obtain ⟨c1,v1,e1⟩:=(native_ent hr0).2.2.2 x hop;simp at e1
  | _=>rw [hop] at hr;simp only at hr;(repeat' split at hr)<;>simp at hr
 ·unfold byCalm at h
  split at h
  ·split at h
   ·rename_i v hv
    cases hx:ofV v<;>simp [hx] at h
   ·simp at h
  ·simp at h
theorem opRes_grow {j:Nat} {b:Blk} {v:AV} {c:Bool} (h:opRes P p loc nx o=some (c,.grow j b v)):(j,true) ∈ touch P p nx o∧(j=nx∨(loc j).isSome=true):=by
 unfold opRes at h
 split at h
 ·rename_i rr hr
  injection h with h;subst h
  have hr0:=hr
  unfold native at hr
  cases hop:o.op with
  | buildSlice t n ps=>
   have e:j=nx:=by rw [hop] at hr;simp only at hr;(repeat' split at hr)<;>simp at hr<;>exact hr.2.1.symm
   exact ⟨by simp [touch,hop,e],.inl e⟩
  | call cc=>
   rw [hop] at hr
   simp only at hr
   cases hc:cc.callee with
   | value g=>
    rw [hc] at hr
    simp only at hr
    split at hr
    ·rename_i gv vs hg hvs
     cases hca:callAV P gv vs with
     | none=>simp [hca] at hr
     | some res=>
      simp [hca] at hr
      obtain ⟨_,hr⟩:=hr
      subst hr
      obtain ⟨_,_,_,_,_,_,_,h'⟩:=callAV_or hca
      rcases h' with h' | h' | ⟨_,h'⟩<;>cases h'
    ·simp at hr
   | invoke x m=>rw [hc] at hr;simp at hr
   | builtin b=>
    rcases native_builtin hop hc hr0 with ⟨n,e⟩ | ⟨t,x,y,v,u,_,_,_,_,hh⟩ | ⟨j1,b1,v1,e,_⟩
    ·cases e
    rotate_left
    ·cases e
    ·rename_i hb ha hx hy
     subst hb
     obtain ⟨j1,b1,v1,e,h2⟩:=appendAV_grow hh
     injection e with e1 e2 e3;subst e1
     rw [touch_append hop hc ha hx hy]
     rcases h2 with ⟨v2,n2,e4,e5⟩ | ⟨e4,e5⟩
     ·subst e4;exact ⟨List.mem_cons_self ..,.inr e5⟩
     ·subst e5;subst e4;exact ⟨List.mem_cons_self ..,.inl rfl⟩
  | slice t x lo hi mx=>
   rw [hop] at hr
   cases mx with
   | none=>
      simp only at hr
      split at hr
      ·rename_i r0 ha;obtain ⟨c1,v1,e1⟩:=arrSl_val ha;rw [e1] at hr;simp at hr
      (repeat' split at hr)<;>simp at hr
   | some m=>cases hi with
    | none=>simp at hr
    | some i=>simp only at hr;(repeat' split at hr)<;>simp at hr
  | lookup t m k ok=>obtain ⟨c1,v1,e1⟩:=(native_map hr0).1 t m k ok hop;simp at e1
  | makeMap t q=>obtain ⟨c1,v1,b1,e1⟩:=(native_map hr0).2.1 t q hop;simp at e1
  | mapUpdate t m k v=>obtain ⟨c1,v1,b1,e1,e2,e3⟩:=(native_map hr0).2.2 t m k v (.inl hop);simp at e1
  | insert t m k v=>obtain ⟨c1,v1,b1,e1,e2,e3⟩:=(native_map hr0).2.2 t m k v (.inr hop);simp at e1
  | mapEntry t m k=>obtain ⟨c1,j1,b1,v1,e1,_⟩:=(native_ent hr0).1 t m k hop;simp at e1
  | entryStore t m q v=>obtain ⟨c1,j1,b1,e1,_⟩:=(native_ent hr0).2.1 t m q v hop;simp at e1
  | range t x=>obtain ⟨c1,b1,v1,e1⟩:=(native_ent hr0).2.2.1 t x hop;simp at e1
  | entry x=>obtain ⟨c1,v1,e1⟩:=(native_ent hr0).2.2.2 x hop;simp at e1
  | _=>rw [hop] at hr;simp only at hr;(repeat' split at hr)<;>simp at hr
 ·unfold byCalm at h
  split at h
  ·split at h
   ·rename_i v hv
    cases hx:ofV v<;>simp [hx] at h
   ·simp at h
  ·simp at h
end
section
variable {P:Program} {cl:FuncId→List AV→Option AV} {ops:Array Oper} {env env':List AV} {loc loc':Nat→Option Blk} {nx:Nat} {o:Oper} {e:Eff}
theorem evO_congr (h:∀ t ∈ o.looksAt ops,env[t]?=env'[t]?):∀ x ∈ o.op.operands,evO env x=evO env' x:=by
 intro x hx
 cases x with
 | tmp t=>exact h t (List.mem_append_left _ (List.mem_filterMap.2 ⟨.tmp t,by simpa using hx,rfl⟩))
 | _=>rfl
theorem touch_congr {p p':Operand→Option AV} (h:∀ x ∈ o.op.operands,p x=p' x):touch P p nx o=touch P p' nx o:=by
 unfold touch
 cases hop:o.op with
 | load t x=>rw [hop] at h;simp only [h x (by simp [Op.operands])]
 | slice t x lo hi mx=>rw [hop] at h;simp only [h x (by simp [Op.operands])]
 | store t a x=>rw [hop] at h;simp only [h a (by simp [Op.operands])]
 | lookup t m k ok=>rw [hop] at h;simp only [h m (by simp [Op.operands])]
 | mapUpdate t m k v=>rw [hop] at h;simp only [h m (by simp [Op.operands])]
 | insert t m k v=>rw [hop] at h;simp only [h m (by simp [Op.operands])]
 | mapEntry t m k=>rw [hop] at h;simp only [h m (by simp [Op.operands])]
 | entryStore t m q v=>rw [hop] at h;simp only [h m (by simp [Op.operands])]
 | entry x=>rw [hop] at h;simp only [h x (by simp [Op.operands])]
 | call c=>
  rw [hop] at h
  have hargs:mapEv p c.args.toList=mapEv p' c.args.toList:=mapEv_congr fun x hx=>h x (by
   simp only [Op.operands,Call.operands,Array.mem_append];exact .inr (by simpa using hx))
  cases hc:c.callee with
  | value f=>
   have hf:p f=p' f:=h f (by simp [Op.operands,Call.operands,hc])
   simp only [hc,hf,hargs]
  | builtin b=>
   by_cases hb2:b=.append
   ·subst hb2
    simp only [hc]
    split
    ·rename_i x y ha
     have hx:p x=p' x:=h x (by simp only [Op.operands,Call.operands,Array.mem_append];right;rw [← Array.mem_toList_iff,ha];simp)
     have hy:p y=p' y:=h y (by simp only [Op.operands,Call.operands,Array.mem_append];right;rw [← Array.mem_toList_iff,ha];simp)
     simp only [hx,hy]
    ·rfl
   ·by_cases hb3:b=.clear
    ·subst hb3
     simp only [hc]
     split
     ·rename_i x ha
      have hx:p x=p' x:=h x (by simp only [Op.operands,Call.operands,Array.mem_append];right;rw [← Array.mem_toList_iff,ha];simp)
      simp only [hx]
     ·rfl
    ·cases b<;>first | exact absurd rfl hb2 | exact absurd rfl hb3 | simp only [hc]
  | _=>simp only [hc]
 | _=>rfl
theorem wantD_congr (h:∀ t ∈ o.looksAt ops,env[t]?=env'[t]?):wantD ops env o=wantD ops env' o:=by
 unfold wantD
 cases hg:o.guard with
 | none=>rfl
 | some g=>
  obtain ⟨j,want⟩:=g
  cases hj:ops[j]? with
  | none=>simp only [hj]
  | some oj=>
   cases hd:oj.dst with
   | none=>simp only [hj,hd]
   | some d=>
    have:env[d]?=env'[d]?:=h d (List.mem_append_right _ (by simp [hg,hj,hd]))
    simp only [hj,hd,this]
theorem effOf_congr (h:∀ t ∈ o.looksAt ops,env[t]?=env'[t]?) (hl:∀ t ∈ touch P (evO env) nx o,loc t.1=loc' t.1):effOf P cl ops env loc nx o=effOf P cl ops env' loc' nx o:=by
 unfold effOf
 rw [wantD_congr h,opRes_congr (evO_congr h) hl]
 cases wantD ops env' o with
 | none=>rfl
 | some b=>
  cases b with
  | false=>rfl
  | true=>
   cases hr:opRes P (evO env') loc' nx o with
   | none=>rfl
   | some x=>
    obtain ⟨c,res⟩:=x
    cases c with
    | false=>rfl
    | true=>
     cases res with
     | call f args=>
      have:callArgs loc args=callArgs loc' args:=callArgs_congr fun j hj=>by
       have:=opRes_call hr j hj
       rw [touch_congr (evO_congr h)] at hl
       exact hl _ this
      simp only [effR,this]
     | turn f args=>
      have:turnArgs loc args=turnArgs loc' args:=turnArgs_congr fun j hj=>by
       have:=opRes_turn hr j hj
       rw [touch_congr (evO_congr h)] at hl
       exact hl _ this
      have h2:methArgs loc args=methArgs loc' args:=methArgs_congr fun j hj=>by
       have:=opRes_turn hr j hj
       rw [touch_congr (evO_congr h)] at hl
       exact hl _ this
      simp only [effR,this,h2]
     | fresh f t args=>
      have:callArgs loc args=callArgs loc' args:=callArgs_congr fun j hj=>by
       have:=(opRes_fresh hr).2 j hj
       rw [touch_congr (evO_congr h)] at hl
       exact hl _ this
      simp only [effR,this]
     | _=>rfl
theorem effOf_mem {j:Nat} {b:Blk} (he:effOf P cl ops env loc nx o=some e) (hm:e.mem=some (j,b)):(j,true) ∈ touch P (evO env) nx o∧(j=nx∨(loc j).isSome=true):=by
 unfold effOf at he
 split at he
 ·split at he
  ·rename_i res hr
   cases res with
   | val v=>simp [effR] at he;subst he;simp at hm
   | alloc b' v=>simp [effR] at he;subst he;simp at hm;obtain ⟨e1,_⟩:=hm;subst e1;exact ⟨opRes_alloc hr,.inl rfl⟩
   | grow j' b' v=>simp [effR] at he;subst he;simp at hm;obtain ⟨e1,_⟩:=hm;subst e1;exact opRes_grow hr
   | store j' b'=>simp [effR] at he;subst he;simp at hm;obtain ⟨e1,_⟩:=hm;subst e1;exact ⟨(opRes_write hr).1,.inr (opRes_write hr).2⟩
   | put j' b' v=>simp [effR] at he;subst he;simp at hm;obtain ⟨e1,_⟩:=hm;subst e1;exact ⟨(opRes_put hr).1,.inr (opRes_put hr).2⟩
   | call f args=>
    simp only [effR] at he
    split at he
    ·split at he
     ·split at he
      ·simp at he
      ·injection he with he;subst he;simp at hm
     ·simp at he
    ·simp at he
   | turn f args=>
    simp only [effR] at he
    split at he
    case h_2=>
     split at he
     case h_2=>simp at he
     rename_i hma
     split at he
     case h_2=>simp at he
     injection he with he;subst he;simp at hm
     obtain ⟨e1,_⟩:=hm;subst e1
     exact ⟨opRes_turn hr _ (methArgs_mem hma).1,.inr (methArgs_mem hma).2⟩
    rename_i hta
    split at he
    case h_2=>simp at he
    split at he
    case h_2=>simp at he
    injection he with he;subst he;simp at hm
    obtain ⟨e1,_⟩:=hm;subst e1
    exact ⟨opRes_turn hr _ (turnArgs_mem hta).1,.inr (turnArgs_mem hta).2⟩
   | fresh f t args=>
    simp only [effR] at he
    split at he
    case h_2=>simp at he
    split at he
    case h_2=>simp at he
    split at he
    case h_2=>simp at he
    injection he with he;subst he;simp at hm
    obtain ⟨e1,_⟩:=hm;subst e1
    exact ⟨(opRes_fresh hr).1,.inl rfl⟩
  ·simp at he
 ·injection he with he;subst he;simp at hm
 ·simp at he
theorem effOf_dst (he:effOf P cl ops env loc nx o=some e):e.dst=o.dst:=by
 unfold effOf at he
 split at he
 ·split at he
  ·rename_i res hr
   cases res with
   | val v=>simp [effR] at he;subst he;rfl
   | alloc b' v=>simp [effR] at he;subst he;rfl
   | grow j' b' v=>simp [effR] at he;subst he;rfl
   | store j' b'=>simp [effR] at he;subst he;rfl
   | put j' b' v=>simp [effR] at he;subst he;rfl
   | call f args=>
    simp only [effR] at he
    split at he
    ·split at he
     ·split at he
      ·simp at he
      ·injection he with he;subst he;rfl
     ·simp at he
    ·simp at he
   | turn f args=>
    simp only [effR] at he
    split at he
    case h_2=>
     split at he
     case h_2=>simp at he
     split at he
     case h_2=>simp at he
     injection he with he;subst he;rfl
    split at he
    case h_2=>simp at he
    split at he
    case h_2=>simp at he
    injection he with he;subst he;rfl
   | fresh f t args=>
    simp only [effR] at he
    split at he
    case h_2=>simp at he
    split at he
    case h_2=>simp at he
    split at he
    case h_2=>simp at he
    injection he with he;subst he;rfl
  ·simp at he
 ·injection he with he;subst he;rfl
 ·simp at he
end
end Go.Proofs.YtkpligkggnjcoaaGreatDoor.Ev
/-! EvI -/
namespace Go.Proofs.YtkpligkggnjcoaaGreatDoor.Ev
open Go.RowKit
def locOf (st:St):Nat→Option Blk:=fun k=>st.loc[k]?
def applyE (st:St) (e:Eff):St:=
 { st with
  env:=putD st.env e.dst e.v
  loc:=match e.mem with
   | some (j,b)=>if j<st.loc.length then st.loc.set j b else st.loc ++ [b]
   | none=>st.loc }
def stepE (P:Program) (cl:FuncId→List AV→Option AV) (ops:Array Oper) (st:St) (o:Oper):Option Eff:=effOf P cl ops st.env (locOf st) st.loc.length o
def maskOf (acc:List Nat) (o:Oper):Nat:=o.after.toList.foldl (fun s e=>if Region.binds .any e=true then (s ||| 2 ^ e.on) ||| acc.getD e.on 0 else s) 0
def masks:List Oper→List Nat→List Nat
 | [],acc=>acc
 | o :: os,acc=>masks os (acc ++ [maskOf acc o])
def clashes (bf:List Nat) (i:Nat) (t:Nat × Bool):List (Nat × Nat × Bool)→Bool
 | []=>false
 | (k,j,wr) :: rest=>((j == t.1&&(wr || t.2))&&!((bf.getD i 0).testBit k)) || clashes bf i t rest
def clashAny (bf:List Nat) (i:Nat) (tr:List (Nat × Nat × Bool)):List (Nat × Bool)→Bool
 | []=>false
 | t :: ts=>clashes bf i t tr || clashAny bf i tr ts
def addTr (i:Nat) (tr:List (Nat × Nat × Bool)):List (Nat × Bool)→List (Nat × Nat × Bool)
 | []=>tr
 | t :: ts=>(i,t.1,t.2) :: addTr i tr ts
def runOps (P:Program) (cl:FuncId→List AV→Option AV) (ops:Array Oper) (draw:Bool) (bf:List Nat):List Oper→Nat→St→List (Nat × Nat × Bool)→Option St
 | [],_,st,_=>some st
 | o :: rest,i,st,tr=>match stepE P cl ops st o with
  | some e=>match draw with
   | true=>match clashAny bf i tr (touch P (evO st.env) st.loc.length o) with
    | true=>none
    | false=>runOps P cl ops draw bf rest (i+1) (applyE st e) (addTr i tr (touch P (evO st.env) st.loc.length o))
   | false=>runOps P cl ops draw bf rest (i+1) (applyE st e) tr
  | none=>none
def depSlot (ops:Array Oper) (x y:Oper):Bool:=
 (match x.dst with | some d=>(y.looksAt ops).contains d || y.dst == some d | none=>false) || (match y.dst with | some d=>(x.looksAt ops).contains d | none=>false)
def regOkAt (ops:Array Oper) (bf:List Nat) (i:Nat) (oi:Oper):Bool:=
 (oi.after.toList.all fun e=>!Region.binds .any e || decide (e.on<i))&&(List.range i).all fun k=>match ops[k]? with
  | some ok=>!depSlot ops ok oi || (bf.getD i 0).testBit k
  | none=>true
def regOk (ops:Array Oper) (bf:List Nat):Bool:=(List.range ops.size).all fun i=>match ops[i]? with
 | some oi=>regOkAt ops bf i oi
 | none=>true
section
variable {P:Program} {cl:FuncId→List AV→Option AV} {X:Fx} {w:World} {A0:Nat→Prop} {r:Rr} {ds:List Nat} {sav:List AV} {sv:Array Value} {yl:Option Nat} {a:Act} {ops:Array Oper} {ro:Option Nat} {n:Nat} {Q:Exit→Act→World→Prop}
theorem locOf_len (st:St):locOf st st.loc.length=none:=by simp [locOf]
theorem locOf_apply {st:St} {o:Oper} {e:Eff} (h:stepE P cl ops st o=some e):locOf (applyE st e)=locE e (locOf st):=by
 funext k
 unfold locOf applyE locE
 cases hm:e.mem with
 | none=>rfl
 | some jb=>
  obtain ⟨j,b⟩:=jb
  simp only
  rcases (effOf_mem h hm).2 with hj | hj
  ·subst hj
   simp only [Nat.lt_irrefl,if_false]
   by_cases hk:k=st.loc.length
   ·simp [hk]
   ·rw [if_neg hk]
    by_cases hlt:k<st.loc.length
    ·rw [List.getElem?_append_left hlt]
    ·rw [List.getElem?_append_right (by omega),List.getElem?_eq_none (by simp;omega),List.getElem?_eq_none (by omega)]
  ·have hlt:j<st.loc.length:=by
    simp only [locOf] at hj
    cases hh:st.loc[j]? with
    | none=>simp [hh] at hj
    | some x=>exact (List.getElem?_eq_some_iff.1 hh).1
   simp only [hlt,if_true,List.getElem?_set]
   by_cases hk:k=j
   ·subst hk;simp
   ·simp [hk,Ne.symm hk]
theorem addTr_mem {i:Nat} {tr:List (Nat × Nat × Bool)}:∀ {ts:List (Nat × Bool)} {x:Nat × Nat × Bool},x ∈ addTr i tr ts ↔ (x ∈ tr∨∃ t ∈ ts,x=(i,t.1,t.2))
 | [],x=>by simp [addTr]
 | t :: ts,x=>by
  simp only [addTr,List.mem_cons,addTr_mem (ts:=ts)]
  constructor
  ·rintro (h | h | ⟨t',ht,h⟩)
   ·exact .inr ⟨t,.inl rfl,h⟩
   ·exact .inl h
   ·exact .inr ⟨t',.inr ht,h⟩
  ·rintro (h | ⟨t',rfl | ht,h⟩)
   ·exact .inr (.inl h)
   ·exact .inl h
   ·exact .inr (.inr ⟨t',ht,h⟩)
theorem clashes_false {bf:List Nat} {i:Nat} {t:Nat × Bool}:∀ {tr:List (Nat × Nat × Bool)},clashes bf i t tr=false→∀ x ∈ tr,x.2.1=t.1→(x.2.2=true∨t.2=true)→(bf.getD i 0).testBit x.1=true
 | [],_,x,hx,_,_=>by cases hx
 | (k,j,wr) :: rest,h,x,hx,he,hw=>by
  simp only [clashes,Bool.or_eq_false_iff] at h
  rcases List.mem_cons.1 hx with rfl | hx
  ·have h1:=h.1
   simp only at he hw
   cases hb:(bf.getD i 0).testBit k with
   | true=>rfl
   | false=>
    rw [hb] at h1
    simp only [he,beq_self_eq_true,Bool.true_and,Bool.not_false,Bool.and_true] at h1
    rcases hw with hw | hw<;>simp [hw] at h1
  ·exact clashes_false h.2 x hx he hw
theorem clashAny_false {bf:List Nat} {i:Nat} {tr:List (Nat × Nat × Bool)}:∀ {ts:List (Nat × Bool)},clashAny bf i tr ts=false→∀ t ∈ ts,∀ x ∈ tr,x.2.1=t.1→(x.2.2=true∨t.2=true)→(bf.getD i 0).testBit x.1=true
 | [],_,t,ht=>by cases ht
 | t' :: ts,h,t,ht=>by
  simp only [clashAny,Bool.or_eq_false_iff] at h
  rcases List.mem_cons.1 ht with rfl | ht
  ·exact clashes_false h.1
  ·exact clashAny_false h.2 t ht
theorem trace {bf:List Nat}:∀ (l:List Oper) (i:Nat) (st st':St) (tr:List (Nat × Nat × Bool)),runOps P cl ops true bf l i st tr=some st' →
  ∃ (S:Nat→St) (R:Nat→Eff),S i=st∧S (i+l.length)=st'∧(∀ k o,l[k]?=some o→stepE P cl ops (S (i+k)) o=some (R (i+k))∧S (i+k+1)=applyE (S (i+k)) (R (i+k))) ∧
   (∀ k o,l[k]?=some o→∀ t ∈ touch P (evO (S (i+k)).env) (S (i+k)).loc.length o,
    (∀ x ∈ tr,x.2.1=t.1→(x.2.2=true∨t.2=true)→(bf.getD (i+k) 0).testBit x.1=true) ∧
    ∀ k' o',k'<k→l[k']?=some o'→∀ t' ∈ touch P (evO (S (i+k')).env) (S (i+k')).loc.length o',t'.1=t.1→(t'.2=true∨t.2=true)→(bf.getD (i+k) 0).testBit (i+k')=true)
 | [],i,st,st',tr,h=>by
  simp [runOps] at h;subst h
  exact ⟨fun _=>st,fun _=>⟨none,.top,none⟩,rfl,rfl,fun k o hk=>by simp at hk,fun k o hk=>by simp at hk⟩
 | o :: rest,i,st,st',tr,h=>by
  simp only [runOps] at h
  split at h
  ·rename_i e he
   split at h
   ·simp at h
   ·rename_i hc
    obtain ⟨S,R,h1,h2,h3,h4⟩:=trace rest (i+1) (applyE st e) st' _ h
    have hS:∀ k,(if i+1+k=i then st else S (i+1+k))=S (i+1+k):=fun k=>if_neg (by omega)
    refine ⟨fun k=>if k=i then st else S k,fun k=>if k=i then e else R k,if_pos rfl,?_,fun k o' hk=>?_,fun k o' hk t ht=>?_⟩
    ·show (if i+(rest.length+1)=i then st else S (i+(rest.length+1)))=st'
     rw [if_neg (by omega),← h2];congr 1;omega
    ·cases k with
     | zero=>
      simp at hk;subst hk
      simp only [Nat.add_zero,if_true]
      exact ⟨he,by rw [if_neg (by omega)];exact h1⟩
     | succ k=>
      have e1:i+(k+1)=i+1+k:=by omega
      have:=h3 k o' (by simpa using hk)
      simp only [e1]
      rw [if_neg (show ¬ i+1+k=i by omega),if_neg (show ¬ i+1+k=i by omega),if_neg (show ¬ i+1+k+1=i by omega)]
      exact this
    ·cases k with
     | zero=>
      simp at hk;subst hk
      simp only [Nat.add_zero,if_true] at ht ⊢
      exact ⟨clashAny_false hc t ht,fun k' o'' hk'=>by omega⟩
     | succ k=>
      have e1:i+(k+1)=i+1+k:=by omega
      simp only [e1] at ht ⊢
      rw [if_neg (show ¬ i+1+k=i by omega)] at ht
      obtain ⟨g1,g2⟩:=h4 k o' (by simpa using hk) t ht
      refine ⟨fun x hx=>g1 x (addTr_mem.2 (.inl hx)),fun k' o'' hk' ho'' t' ht' he' hw'=>?_⟩
      cases k' with
      | zero=>
       simp at ho'';subst ho''
       simp only [Nat.add_zero,if_true] at ht'
       exact g1 (i,t'.1,t'.2) (addTr_mem.2 (.inr ⟨t',ht',rfl⟩)) he' hw'
      | succ k'=>
       have e2:i+(k'+1)=i+1+k':=by omega
       simp only [e2] at ht' ⊢
       rw [if_neg (show ¬ i+1+k'=i by omega)] at ht'
       exact g2 k' o'' (by omega) (by simpa using ho'') t' ht' he' hw'
  ·simp at h
theorem foldl_mask {acc:List Nat} {j:Nat}:∀ (l:List Edge) (s:Nat),(l.foldl (fun s e=>if Region.binds .any e=true then (s ||| 2 ^ e.on) ||| acc.getD e.on 0 else s) s).testBit j=true →
  s.testBit j=true∨∃ e ∈ l,Region.binds .any e=true∧(e.on=j∨(acc.getD e.on 0).testBit j=true)
 | [],s,h=>.inl h
 | e :: l,s,h=>by
  simp only [List.foldl_cons] at h
  rcases foldl_mask l _ h with h | ⟨e',he',h'⟩
  ·split at h
   ·rename_i hb
    rw [Nat.testBit_or,Nat.testBit_or,Bool.or_eq_true,Bool.or_eq_true] at h
    rcases h with (h | h) | h
    ·exact .inl h
    ·rw [Nat.testBit_two_pow] at h
     exact .inr ⟨e,by simp,hb,.inl (by simpa using h)⟩
    ·exact .inr ⟨e,by simp,hb,.inr h⟩
   ·exact .inl h
  ·exact .inr ⟨e',by simp [he'],h'⟩
theorem masks_spec:∀ (l:List Oper) (acc:List Nat),(masks l acc).take acc.length=acc∧(masks l acc).length=acc.length+l.length ∧
  ∀ i o,l[i]?=some o→(masks l acc)[acc.length+i]?=some (maskOf ((masks l acc).take (acc.length+i)) o)
 | [],acc=>⟨by simp [masks],by simp [masks],fun i o h=>by simp at h⟩
 | o :: os,acc=>by
  obtain ⟨h1,h2,h3⟩:=masks_spec os (acc ++ [maskOf acc o])
  simp only [masks]
  have ht:(masks os (acc ++ [maskOf acc o])).take acc.length=acc:=by
   have:=congrArg (List.take acc.length) h1
   rw [List.take_take] at this
   simpa using this
  refine ⟨ht,by rw [h2];simp;omega,fun i o' hi=>?_⟩
  cases i with
  | zero=>
   simp at hi;subst hi
   simp only [Nat.add_zero,ht]
   have:((masks os (acc ++ [maskOf acc o])).take (acc ++ [maskOf acc o]).length)[acc.length]?=(acc ++ [maskOf acc o])[acc.length]?:=by rw [h1]
   rw [List.getElem?_take] at this
   simpa using this
  | succ i=>
   have:=h3 i o' (by simpa using hi)
   simp only [List.length_append,List.length_singleton] at this
   rw [show acc.length+(i+1)=acc.length+1+i by omega]
   exact this
def Closed (ops:Array Oper) (L:Nat→Bool):Prop:=∀ i o,ops[i]?=some o→L i=true→∀ e ∈ o.after,Region.binds .any e=true→L e.on=true
theorem closed_before {L:Nat→Bool} (hL:Closed ops L):∀ (i:Nat) (o:Oper),ops[i]?=some o→(∀ e ∈ o.after,Region.binds .any e=true→L e.on=true)→∀ k,((masks ops.toList []).getD i 0).testBit k=true→L k=true:=by
 intro i
 induction i using Nat.strongRecOn with
 | _ i ih=>
  intro o ho hr k hk
  have hsp:=(masks_spec ops.toList []).2.2 i o (by simpa using ho)
  simp only [List.length_nil,Nat.zero_add] at hsp
  rw [List.getD_eq_getElem?_getD,hsp,Option.getD_some] at hk
  unfold maskOf at hk
  rcases foldl_mask _ _ hk with h | ⟨e,he,hb,h⟩
  ·simp at h
  ·have hLe:=hr e (by simpa using he) hb
   rcases h with h | h
   ·rw [← h];exact hLe
   ·have hlt:e.on<i:=by
     rcases Nat.lt_or_ge e.on i with hlt | hge
     ·exact hlt
     ·rw [List.getD_eq_getElem?_getD,List.getElem?_eq_none (by simp;omega)] at h
      simp at h
    have hlo:e.on<ops.size:=Nat.lt_trans hlt (Array.getElem?_eq_some_iff.1 ho).1
    refine ih e.on hlt ops[e.on] (Array.getElem?_eq_getElem hlo) (hL e.on _ (Array.getElem?_eq_getElem hlo) hLe) k ?_
    rw [List.getD_eq_getElem?_getD,List.getElem?_take,if_pos hlt] at h
    rw [List.getD_eq_getElem?_getD]
    exact h
def eL (R:Nat→Eff) (L:Nat→Bool) (env0:List AV):Nat→List AV
 | 0=>env0
 | k+1=>if L k=true then putD (eL R L env0 k) (R k).dst (R k).v else eL R L env0 k
def lL (R:Nat→Eff) (L:Nat→Bool) (loc0:Nat→Option Blk):Nat→Nat→Option Blk
 | 0=>loc0
 | k+1=>if L k=true then locE (R k) (lL R L loc0 k) else lL R L loc0 k
theorem putD_length (env:List AV) (d:Option Nat) (v:AV):(putD env d v).length=env.length:=by cases d<;>simp [putD]
theorem eL_length (R:Nat→Eff) (L:Nat→Bool) (env0:List AV):∀ k,(eL R L env0 k).length=env0.length
 | 0=>rfl
 | k+1=>by simp only [eL];split<;>simp [putD_length,eL_length R L env0 k]
theorem putD_get_ne {env:List AV} {d:Option Nat} {v:AV} {t:Nat} (h:d≠some t):(putD env d v)[t]?=env[t]?:=by
 cases d with
 | none=>rfl
 | some d=>simp only [putD];rw [List.getElem?_set,if_neg (fun e=>h (by rw [e]))]
theorem eL_agree {R:Nat→Eff} {L:Nat→Bool} {env0:List AV} {t i:Nat} (h1:∀ k,k<i→(R k).dst=some t→L k=true) (h2:∀ k,i≤k→(R k).dst=some t→L k=false):∀ m,i≤m→(eL R L env0 m)[t]?=(eL R (fun _=>true) env0 i)[t]?:=by
 have low:∀ k,k≤i→(eL R L env0 k)[t]?=(eL R (fun _=>true) env0 k)[t]?:=by
  intro k
  induction k with
  | zero=>intro _;rfl
  | succ k ih=>
   intro hk
   have ih:=ih (by omega)
   simp only [eL,if_true]
   by_cases hd:(R k).dst=some t
   ·rw [if_pos (h1 k (by omega) hd),hd]
    simp only [putD,List.getElem?_set,if_true]
    rw [eL_length,eL_length]
   ·rw [putD_get_ne hd]
    split
    ·rw [putD_get_ne hd];exact ih
    ·exact ih
 intro m hm
 induction m with
 | zero=>
  have:i=0:=by omega
  subst this;rfl
 | succ m ih=>
  by_cases he:i=m+1
  ·subst he;exact low _ (Nat.le_refl _)
  ·have hm':i≤m:=by omega
   simp only [eL]
   split
   ·rename_i hL
    have hd:(R m).dst≠some t:=fun hd=>by rw [h2 m hm' hd] at hL;cases hL
    rw [putD_get_ne hd];exact ih hm'
   ·exact ih hm'
theorem locE_ne {e:Eff} {l:Nat→Option Blk} {t:Nat} (h:∀ b,e.mem≠some (t,b)):locE e l t=l t:=by
 unfold locE
 cases hm:e.mem with
 | none=>rfl
 | some jb=>
  obtain ⟨j,b⟩:=jb
  simp only
  rw [if_neg (fun e'=>h b (by rw [hm,e']))]
theorem lL_agree {R:Nat→Eff} {L:Nat→Bool} {loc0:Nat→Option Blk} {t i:Nat} (h1:∀ k b,k<i→(R k).mem=some (t,b)→L k=true) (h2:∀ k b,i≤k→(R k).mem=some (t,b)→L k=false):∀ m,i≤m→lL R L loc0 m t=lL R (fun _=>true) loc0 i t:=by
 have low:∀ k,k≤i→lL R L loc0 k t=lL R (fun _=>true) loc0 k t:=by
  intro k
  induction k with
  | zero=>intro _;rfl
  | succ k ih=>
   intro hk
   have ih:=ih (by omega)
   simp only [lL,if_true]
   by_cases hd:∃ b,(R k).mem=some (t,b)
   ·obtain ⟨b,hb⟩:=hd
    rw [if_pos (h1 k b (by omega) hb)]
    simp [locE,hb]
   ·rw [locE_ne (fun b hb=>hd ⟨b,hb⟩)]
    split
    ·rw [locE_ne (fun b hb=>hd ⟨b,hb⟩)];exact ih
    ·exact ih
 intro m hm
 induction m with
 | zero=>
  have:i=0:=by omega
  subst this;rfl
 | succ m ih=>
  by_cases he:i=m+1
  ·subst he;exact low _ (Nat.le_refl _)
  ·have hm':i≤m:=by omega
   simp only [lL]
   split
   ·rename_i hL
    rw [locE_ne (fun b hb=>by rw [h2 m b hm' hb] at hL;cases hL)];exact ih hm'
   ·exact ih hm'
def addL (L:Nat→Bool) (i:Nat):Nat→Bool:=fun k=>if k=i then true else L k
theorem putD_comm {env:List AV} {d d':Option Nat} {v v':AV} (h:∀ t,d=some t→d'≠some t):putD (putD env d v) d' v'=putD (putD env d' v') d v:=by
 cases d with
 | none=>rfl
 | some d=>cases d' with
  | none=>rfl
  | some d'=>
   simp only [putD]
   exact List.set_comm v v' (fun e=>h d rfl (by rw [e]))
theorem eL_add {R:Nat→Eff} {L:Nat→Bool} {env0:List AV} {i:Nat} (hi:L i=false) (h:∀ k,i<k→L k=true→∀ t,(R i).dst=some t→(R k).dst≠some t):∀ m,i<m→eL R (addL L i) env0 m=putD (eL R L env0 m) (R i).dst (R i).v:=by
 have low:∀ k,k≤i→eL R (addL L i) env0 k=eL R L env0 k:=by
  intro k
  induction k with
  | zero=>intro _;rfl
  | succ k ih=>intro hk;simp only [eL,addL,if_neg (show ¬ k=i by omega)];rw [show eL R (addL L i) env0 k=eL R L env0 k from ih (by omega)]
 intro m hm
 induction m with
 | zero=>omega
 | succ m ih=>
  by_cases he:m=i
  ·subst he
   simp only [eL,addL,if_true,hi,Bool.false_eq_true,if_false]
   rw [show eL R (addL L m) env0 m=eL R L env0 m from low m (Nat.le_refl _)]
  ·have hm':i<m:=by omega
   simp only [eL,addL,if_neg he]
   rw [show eL R (addL L i) env0 m=putD (eL R L env0 m) (R i).dst (R i).v from ih hm']
   split
   ·rename_i hL
    exact putD_comm (h m hm' hL)
   ·rfl
theorem locE_comm {e e':Eff} {l:Nat→Option Blk} (h:∀ j b b',e.mem=some (j,b)→e'.mem≠some (j,b')):locE e' (locE e l)=locE e (locE e' l):=by
 funext k
 unfold locE
 cases hm:e.mem with
 | none=>rfl
 | some jb=>
  obtain ⟨j,b⟩:=jb
  cases hm':e'.mem with
  | none=>rfl
  | some jb'=>
   obtain ⟨j',b'⟩:=jb'
   simp only
   by_cases h1:k=j'<;>by_cases h2:k=j
   ·exact absurd hm' (by rw [← h1,h2];exact h j b b' hm)
   ·simp [h1]
    intro e;subst e;exact absurd h1 h2
   ·simp [h2]
    intro e;subst e;exact absurd h2 (fun h=>h1 h)
   ·simp [h1,h2]
theorem lL_add {R:Nat→Eff} {L:Nat→Bool} {loc0:Nat→Option Blk} {i:Nat} (hi:L i=false) (h:∀ k,i<k→L k=true→∀ j b b',(R i).mem=some (j,b)→(R k).mem≠some (j,b')):∀ m,i<m→lL R (addL L i) loc0 m=locE (R i) (lL R L loc0 m):=by
 have low:∀ k,k≤i→lL R (addL L i) loc0 k=lL R L loc0 k:=by
  intro k
  induction k with
  | zero=>intro _;rfl
  | succ k ih=>intro hk;simp only [lL,addL,if_neg (show ¬ k=i by omega)];rw [show lL R (addL L i) loc0 k=lL R L loc0 k from ih (by omega)]
 intro m hm
 induction m with
 | zero=>omega
 | succ m ih=>
  by_cases he:m=i
  ·subst he
   simp only [lL,addL,if_true,hi,Bool.false_eq_true,if_false]
   rw [show lL R (addL L m) loc0 m=lL R L loc0 m from low m (Nat.le_refl _)]
  ·have hm':i<m:=by omega
   simp only [lL,addL,if_neg he]
   rw [show lL R (addL L i) loc0 m=locE (R i) (lL R L loc0 m) from ih hm']
   split
   ·rename_i hL
    exact locE_comm (h m hm' hL)
   ·rfl
theorem eL_congr {R:Nat→Eff} {L L':Nat→Bool} {env0:List AV}:∀ m,(∀ k,k<m→L k=L' k)→eL R L env0 m=eL R L' env0 m
 | 0,_=>rfl
 | m+1,h=>by simp only [eL];rw [h m (by omega),eL_congr m (fun k hk=>h k (by omega))]
theorem lL_congr {R:Nat→Eff} {L L':Nat→Bool} {loc0:Nat→Option Blk}:∀ m,(∀ k,k<m→L k=L' k)→lL R L loc0 m=lL R L' loc0 m
 | 0,_=>rfl
 | m+1,h=>by simp only [lL];rw [h m (by omega),lL_congr m (fun k hk=>h k (by omega))]
end
end Go.Proofs.YtkpligkggnjcoaaGreatDoor.Ev
/-! EvJ -/
namespace Go.Proofs.YtkpligkggnjcoaaGreatDoor.Ev
open Go.RowKit
section
variable {P:Program} {cl:FuncId→List AV→Option AV} {X:Fx} {w:World} {A0:Nat→Prop} {r:Rr} {ds:List Nat} {sav:List AV} {sv:Array Value} {yl:Option Nat} {a:Act} {ops:Array Oper} {ro:Option Nat} {n:Nat} {Q:Exit→Act→World→Prop} {yk:Nat}
theorem regOk_dep {bf:List Nat} (h:regOk ops bf=true) {i k:Nat} {oi ok:Oper} (hi:ops[i]?=some oi) (hk:ops[k]?=some ok) (hlt:k<i) (hd:depSlot ops ok oi=true):(bf.getD i 0).testBit k=true:=by
 have hin:i<ops.size:=(Array.getElem?_eq_some_iff.1 hi).1
 have h1:=List.all_eq_true.1 h i (List.mem_range.2 hin)
 simp only [hi,regOkAt,Bool.and_eq_true] at h1
 have h2:=List.all_eq_true.1 h1.2 k (List.mem_range.2 hlt)
 simp only [hk,hd,Bool.not_true,Bool.false_or] at h2
 exact h2
theorem regOk_after {bf:List Nat} (h:regOk ops bf=true) {i:Nat} {oi:Oper} (hi:ops[i]?=some oi):∀ e ∈ oi.after,Region.binds .any e=true→e.on<i:=by
 have hin:i<ops.size:=(Array.getElem?_eq_some_iff.1 hi).1
 have h1:=List.all_eq_true.1 h i (List.mem_range.2 hin)
 simp only [hi,regOkAt,Bool.and_eq_true] at h1
 intro e he hb
 have:=List.all_eq_true.1 h1.1 e (by simpa using he)
 simpa [hb] using this
structure Lex (P:Program) (cl:FuncId→List AV→Option AV) (ops:Array Oper) (yk:Nat) (S:Nat→St) (R:Nat→Eff):Prop where
 step:∀ k o,ops[k]?=some o→k≠yk→stepE P cl ops (S k) o=some (R k)
 dst:∀ k o,ops[k]?=some o→(R k).dst=o.dst
 memt:∀ k o,ops[k]?=some o→∀ j b,(R k).mem=some (j,b)→(j,true) ∈ touch P (evO (S k).env) (S k).loc.length o
 env:∀ k o,ops[k]?=some o→(S (k+1)).env=putD (S k).env (R k).dst (R k).v
 lf:∀ k o,ops[k]?=some o→locOf (S (k+1))=locE (R k) (locOf (S k))
 grow:∀ k o,ops[k]?=some o→(S k).loc.length≤(S (k+1)).loc.length
 meet:∀ k o,ops[k]?=some o→∀ t ∈ touch P (evO (S k).env) (S k).loc.length o,∀ k' o',k'<k→ops[k']?=some o'→∀ t' ∈ touch P (evO (S k').env) (S k').loc.length o',t'.1=t.1→(t'.2=true∨t.2=true) →
  ((masks ops.toList []).getD k 0).testBit k'=true
theorem Lex.frame {S:Nat→St} {R:Nat→Eff} (h:Lex P cl ops yk S R):∀ k,k≤ops.size→(S k).env=eL R (fun _=>true) (S 0).env k∧locOf (S k)=lL R (fun _=>true) (locOf (S 0)) k:=by
 intro k
 induction k with
 | zero=>intro _;exact ⟨rfl,rfl⟩
 | succ k ih=>
  intro hk
  obtain ⟨i1,i2⟩:=ih (by omega)
  have ho:ops[k]?=some ops[k]:=Array.getElem?_eq_getElem (by omega)
  refine ⟨?_,?_⟩
  ·rw [h.env k _ ho];simp only [eL,if_true];rw [← i1]
  ·rw [h.lf k _ ho];simp only [lL,if_true];rw [← i2]
theorem Lex.agree {S:Nat→St} {R:Nat→Eff} (h:Lex P cl ops yk S R) (hok:regOk ops (masks ops.toList [])=true) {L:Nat→Bool} (hL:Closed ops L) {i:Nat} {o:Oper} (hi:ops[i]?=some o) (hiL:L i=false)
  (hready:∀ e ∈ o.after,Region.binds .any e=true→L e.on=true) (hout:∀ k,ops.size≤k→L k=false) :
  (∀ t ∈ o.looksAt ops,(eL R L (S 0).env ops.size)[t]?=(S i).env[t]?)∧(∀ t ∈ touch P (evO (S i).env) (S i).loc.length o,lL R L (locOf (S 0)) ops.size t.1=locOf (S i) t.1):=by
 have hin:i<ops.size:=(Array.getElem?_eq_some_iff.1 hi).1
 have opAt:∀ k (hk:k<ops.size),ops[k]?=some (ops[k]'hk):=fun k hk=>Array.getElem?_eq_getElem hk
 have dstOf:∀ k (hk:k<ops.size),(R k).dst=(ops[k]'hk).dst:=fun k hk=>h.dst k _ (opAt k hk)
 have before:∀ k,((masks ops.toList []).getD i 0).testBit k=true→L k=true:=closed_before hL i o hi hready
 have behind:∀ k,k<ops.size→((masks ops.toList []).getD k 0).testBit i=true→L k=false:=fun k hk hb=>by
  cases hLk:L k with
  | false=>rfl
  | true=>
   have:=closed_before hL k _ (opAt k hk) (hL k _ (opAt k hk) hLk) i hb
   rw [hiL] at this;cases this
 constructor
 ·intro t ht
  rw [(h.frame i (by omega)).1]
  refine eL_agree (fun k hk hd=>?_) (fun k hk hd=>?_) ops.size (by omega)
  ·refine before k (regOk_dep hok hi (opAt k (by omega)) hk ?_)
   rw [dstOf k (by omega)] at hd
   simp [depSlot,hd,ht]
  ·by_cases hlt:k<ops.size
   ·by_cases he:k=i
    ·rw [he];exact hiL
    ·refine behind k hlt (regOk_dep hok (opAt k hlt) hi (by omega) ?_)
     rw [dstOf k hlt] at hd
     simp [depSlot,hd,ht]
   ·exact hout k (by omega)
 ·intro t ht
  rw [(h.frame i (by omega)).2]
  refine lL_agree (fun k b hk hm=>?_) (fun k b hk hm=>?_) ops.size (by omega)
  ·have hw:=h.memt k _ (opAt k (by omega)) _ _ hm
   exact before k (h.meet i o hi t ht k _ hk (opAt k (by omega)) _ hw rfl (.inl rfl))
  ·by_cases hlt:k<ops.size
   ·by_cases he:k=i
    ·rw [he];exact hiL
    ·have hw:=h.memt k _ (opAt k hlt) _ _ hm
     exact behind k hlt (h.meet k _ (opAt k hlt) _ hw i o (by omega) hi t ht rfl (.inr rfl))
   ·exact hout k (by omega)
theorem Lex.add {S:Nat→St} {R:Nat→Eff} (h:Lex P cl ops yk S R) (hok:regOk ops (masks ops.toList [])=true) {L:Nat→Bool} (hL:Closed ops L) {i:Nat} {o:Oper} (hi:ops[i]?=some o) (hiL:L i=false)
  (hout:∀ k,ops.size≤k→L k=false) :
  eL R (addL L i) (S 0).env ops.size=putD (eL R L (S 0).env ops.size) (R i).dst (R i).v∧lL R (addL L i) (locOf (S 0)) ops.size=locE (R i) (lL R L (locOf (S 0)) ops.size):=by
 have hin:i<ops.size:=(Array.getElem?_eq_some_iff.1 hi).1
 have opAt:∀ k (hk:k<ops.size),ops[k]?=some (ops[k]'hk):=fun k hk=>Array.getElem?_eq_getElem hk
 have dstOf:∀ k (hk:k<ops.size),(R k).dst=(ops[k]'hk).dst:=fun k hk=>h.dst k _ (opAt k hk)
 have behind:∀ k,k<ops.size→((masks ops.toList []).getD k 0).testBit i=true→L k=false:=fun k hk hb=>by
  cases hLk:L k with
  | false=>rfl
  | true=>
   have:=closed_before hL k _ (opAt k hk) (hL k _ (opAt k hk) hLk) i hb
   rw [hiL] at this;cases this
 refine ⟨eL_add hiL (fun k hk hLk t hd hd'=>?_) _ hin,lL_add hiL (fun k hk hLk j b b' hm hm'=>?_) _ hin⟩
 ·have hlt:k<ops.size:=by
   rcases Nat.lt_or_ge k ops.size with h | h
   ·exact h
   ·rw [hout k h] at hLk;cases hLk
  have:=behind k hlt (regOk_dep hok (opAt k hlt) hi hk (by
   have ei:o.dst=some t:=by
    have:=dstOf i hin
    rw [hd] at this
    have e2:ops[i]=o:=by rw [opAt i hin] at hi;injection hi
    rw [← e2];exact this.symm
   have ek:(ops[k]'hlt).dst=some t:=by rw [← dstOf k hlt];exact hd'
   simp [depSlot,ei,ek]))
  rw [this] at hLk;cases hLk
 ·have hlt:k<ops.size:=by
   rcases Nat.lt_or_ge k ops.size with h | h
   ·exact h
   ·rw [hout k h] at hLk;cases hLk
  have h1:=h.memt i o hi _ _ hm
  have h2:=h.memt k _ (opAt k hlt) _ _ hm'
  have:=behind k hlt (h.meet k _ (opAt k hlt) _ h2 i o hk hi _ h1 rfl (.inl rfl))
  rw [this] at hLk;cases hLk
theorem fresh {S:Nat→St} {R:Nat→Eff} {L:Nat→Bool} {i:Nat} {o:Oper} (hnew:∀ t ∈ touch P (evO (S i).env) (S i).loc.length o,lL R L (locOf (S 0)) ops.size t.1=locOf (S i) t.1)
  (ha:((S i).loc.length,true) ∈ touch P (evO (S i).env) (S i).loc.length o):lL R L (locOf (S 0)) ops.size (S i).loc.length=none:=by
 rw [hnew _ ha];exact locOf_len _
def left (n:Nat) (listed:Array Bool):Nat:=((List.range n).filter fun i=>!listed.getD i true).length
theorem filter_lt {p q:Nat→Bool}:∀ (l:List Nat),(∀ x ∈ l,q x=true→p x=true)→(∃ x ∈ l,p x=true∧q x=false)→(l.filter q).length<(l.filter p).length
 | [],_,h=>by obtain ⟨x,hx,_⟩:=h;cases hx
 | y :: l,h1,h2=>by
  have le:∀ (l:List Nat),(∀ x ∈ l,q x=true→p x=true)→(l.filter q).length≤(l.filter p).length:=by
   intro l
   induction l with
   | nil=>intro _;simp
   | cons y l ih=>
    intro h
    have ih:=ih fun x hx=>h x (by simp [hx])
    simp only [List.filter_cons]
    cases hq:q y with
    | true=>simp [h y (by simp) hq];exact ih
    | false=>cases p y<;>simp<;>omega
  have hl:=le l fun x hx=>h1 x (by simp [hx])
  obtain ⟨x,hx,hp,hq⟩:=h2
  rcases List.mem_cons.1 hx with rfl | hx
  ·simp only [List.filter_cons,hp,hq,if_true,Bool.false_eq_true,if_false,List.length_cons];omega
  ·have ih:=filter_lt l (fun x hx=>h1 x (by simp [hx])) ⟨x,hx,hp,hq⟩
   simp only [List.filter_cons]
   cases hqy:q y with
   | true=>simp [h1 y (by simp) hqy];exact ih
   | false=>cases p y<;>simp<;>omega
theorem ready_nil (hok:regOk ops (masks ops.toList [])=true) {listed:Array Bool} (hs:listed.size=ops.size) (h:Region.ready .any ops listed=[]):∀ i,i<ops.size→listed.getD i false=true:=by
 intro i
 induction i using Nat.strongRecOn with
 | _ i ih=>
  intro hi
  cases hv:listed.getD i false with
  | true=>rfl
  | false=>
   have hmem:i ∈ Region.ready .any ops listed:=by
    have ho:ops[i]?=some ops[i]:=Array.getElem?_eq_getElem hi
    refine List.mem_filter.2 ⟨List.mem_range.2 hi,?_⟩
    have hlt:i<listed.size:=by omega
    have e1:listed.getD i true=false:=by
     rw [Array.getD_eq_getD_getElem?,Array.getElem?_eq_getElem hlt,Option.getD_some] at hv ⊢;exact hv
    simp only [e1,Bool.not_false,Bool.true_and,ho,Option.map_some,Option.getD_some,Array.all_eq_true']
    intro e he
    cases hb:Region.binds .any e with
    | false=>rfl
    | true=>
     simp only [Bool.not_true,Bool.false_or]
     have:=regOk_after hok ho e he hb
     exact ih e.on this (by omega)
   rw [h] at hmem;cases hmem
theorem any_order {X1:Fx} (hcl:∀ f args v,cl f args=some v→CC P f args v) (hgd:∀ A0 O w,X A0 O w→GOK P w) (hg1:∀ A0 O w,X1 A0 O w→GOK P w) (hok:regOk ops (masks ops.toList [])=true) {S:Nat→St} {R:Nat→Eff} (hlex:Lex P cl ops yk S R)
  (hys:∀ o,ops[yk]?=some o→∀ (A0:Nat→Prop) (env:List AV) (loc:Nat→Option Blk) (r:Rr) (a:Act) (w:World) (K:Act→World→Prop),(∀ t ∈ o.looksAt ops,env[t]?=(S yk).env[t]?)→FR X yl A0 sav sv env loc r ds a w →
   (∀ A0' r' a' w',FR X1 yl A0' sav sv (putD env (R yk).dst (R yk).v) (locE (R yk) loc) r' ds a' w'→K a' w')→if Region.wanted o (yielded ops a.tmps) then o.wpIn (WF ro) n P a w K Q else (∀ f,o.about P w a.eval=some f→(WF ro).fn f)∧K (a.put o.dst undef) w)
  (hQ:∀ A0 r' a' w',FR (if yk<ops.size then X1 else X) yl A0 sav sv (S ops.size).env (locOf (S ops.size)) r' ds a' w'→Q .normal a' w') :
  ∀ (fuel:Nat) (listed:Array Bool) (A0:Nat→Prop) (r:Rr) (a:Act) (w:World),listed.size=ops.size→left ops.size listed≤fuel→Closed ops (fun k=>listed.getD k false) →
   FR (if listed.getD yk false=true then X1 else X) yl A0 sav sv (eL R (fun k=>listed.getD k false) (S 0).env ops.size) (lL R (fun k=>listed.getD k false) (locOf (S 0)) ops.size) r ds a w→wpAnyIn (WF ro) n P .any ops Q fuel listed a w:=by
 have done:∀ (listed:Array Bool) (A0:Nat→Prop) (r:Rr) (a:Act) (w:World),listed.size=ops.size→Region.ready .any ops listed=[] →
   FR (if listed.getD yk false=true then X1 else X) yl A0 sav sv (eL R (fun k=>listed.getD k false) (S 0).env ops.size) (lL R (fun k=>listed.getD k false) (locOf (S 0)) ops.size) r ds a w→Q .normal a w:=by
  intro listed A0 r a w hs hr hfr
  have hall:=ready_nil hok hs hr
  have hX:(if listed.getD yk false=true then X1 else X)=(if yk<ops.size then X1 else X):=by
   by_cases hy:yk<ops.size
   ·rw [if_pos hy,if_pos (hall yk hy)]
   ·rw [if_neg hy,if_neg (by rw [Array.getD_eq_getD_getElem?,Array.getElem?_eq_none (by omega)];simp)]
  rw [hX] at hfr
  rw [eL_congr (L':=fun _=>true) ops.size (fun k hk=>hall k hk),lL_congr (L':=fun _=>true) ops.size (fun k hk=>hall k hk)] at hfr
  obtain ⟨e1,e2⟩:=hlex.frame ops.size (Nat.le_refl _)
  rw [← e1,← e2] at hfr
  exact hQ A0 r a w hfr
 intro fuel
 induction fuel with
 | zero=>
  intro listed A0 r a w hs hleft _ hfr
  have hnil:Region.ready .any ops listed=[]:=by
   cases hr:Region.ready .any ops listed with
   | nil=>rfl
   | cons i rs=>
    have hi:i ∈ Region.ready .any ops listed:=by rw [hr];simp
    obtain ⟨h1,h2⟩:=List.mem_filter.1 hi
    simp only [Bool.and_eq_true] at h2
    have hmem:i ∈ (List.range ops.size).filter fun i=>!listed.getD i true:=List.mem_filter.2 ⟨h1,h2.1⟩
    have:0<left ops.size listed:=List.length_pos_of_mem hmem
    omega
  exact ⟨hnil,done listed A0 r a w hs hnil hfr⟩
 | succ fuel ih=>
  intro listed A0 r a w hs hleft hcl' hfr
  refine ⟨fun hnil=>done listed A0 r a w hs hnil hfr,fun i hi=>?_⟩
  obtain ⟨h1,h2⟩:=List.mem_filter.1 hi
  have hin:i<ops.size:=List.mem_range.1 h1
  have hlt:i<listed.size:=by omega
  have ho:ops[i]?=some ops[i]:=Array.getElem?_eq_getElem hin
  simp only [Bool.and_eq_true,Bool.not_eq_true',ho,Option.map_some,Option.getD_some,Array.all_eq_true'] at h2
  obtain ⟨hun,haft⟩:=h2
  have hiL:listed.getD i false=false:=by
   rw [Array.getD_eq_getD_getElem?,Array.getElem?_eq_getElem hlt,Option.getD_some] at hun ⊢;exact hun
  have hready:∀ e ∈ (ops[i]).after,Region.binds .any e=true→listed.getD e.on false=true:=fun e he hb=>by
   have:=haft e he
   simpa [hb] using this
  have hout:∀ k,ops.size≤k→listed.getD k false=false:=fun k hk=>by
   rw [Array.getD_eq_getD_getElem?,Array.getElem?_eq_none (by omega)];rfl
  obtain ⟨g1,g2⟩:=hlex.agree hok hcl' ho hiL hready hout
  obtain ⟨k1,k2⟩:=hlex.add hok hcl' ho hiL hout
  have hlisted:∀ k,(listed.setIfInBounds i true).getD k false=addL (fun k=>listed.getD k false) i k:=fun k=>by
   unfold addL
   rw [Array.getD_eq_getD_getElem?,Array.getElem?_setIfInBounds]
   by_cases he:i=k
   ·subst he;simp [hlt]
   ·rw [if_neg he,if_neg (Ne.symm he),← Array.getD_eq_getD_getElem?]
  unfold wpOpIn
  simp only [ho]
  have fin:∀ (Xn:Fx) (A0':Nat→Prop) (r':Rr) (a':Act) (w':World),(if (listed.setIfInBounds i true).getD yk false=true then X1 else X)=Xn →
    FR Xn yl A0' sav sv (putD (eL R (fun k=>listed.getD k false) (S 0).env ops.size) (R i).dst (R i).v) (locE (R i) (lL R (fun k=>listed.getD k false) (locOf (S 0)) ops.size)) r' ds a' w'→wpAnyIn (WF ro) n P .any ops Q fuel (listed.setIfInBounds i true) a' w':=by
   intro Xn A0' r' a' w' hXn hfr'
   refine ih (listed.setIfInBounds i true) A0' r' a' w' (by simp [hs]) ?_ ?_ ?_
   ·have:left ops.size (listed.setIfInBounds i true)<left ops.size listed:=by
     refine filter_lt _ (fun x hx hq=>?_) ⟨i,List.mem_range.2 hin,by simp [hun],?_⟩
     ·have hx':x<listed.size:=by have:=List.mem_range.1 hx;omega
      rw [Array.getD_eq_getD_getElem?,Array.getElem?_setIfInBounds] at hq
      by_cases he:i=x
      ·subst he;simp [hlt] at hq
      ·rw [if_neg he,← Array.getD_eq_getD_getElem?] at hq;exact hq
     ·rw [Array.getD_eq_getD_getElem?,Array.getElem?_setIfInBounds];simp [hlt]
    omega
   ·intro k o hk hLk e he hb
    simp only [hlisted] at hLk ⊢
    unfold addL at hLk ⊢
    split
    ·rfl
    ·split at hLk
     ·rename_i hki
      subst hki
      have:o=ops[k]:=by rw [ho] at hk;injection hk with hk;exact hk.symm
      subst this
      exact hready e he hb
     ·exact hcl' k o hk hLk e he hb
   ·rw [eL_congr (L':=addL (fun k=>listed.getD k false) i) ops.size (fun k _=>hlisted k),lL_congr (L':=addL (fun k=>listed.getD k false) i) ops.size (fun k _=>hlisted k),k1,k2]
    rw [hXn];exact hfr'
  by_cases hik:i=yk
  ·have hfr0:FR X yl A0 sav sv (eL R (fun k=>listed.getD k false) (S 0).env ops.size) (lL R (fun k=>listed.getD k false) (locOf (S 0)) ops.size) r ds a w:=by
    rw [← hik,if_neg (by rw [hiL];simp)] at hfr;exact hfr
   have hyo:ops[yk]?=some ops[i]:=by rw [← hik];exact ho
   refine hys _ hyo A0 _ _ r a w _ (fun t ht=>by rw [← hik];exact g1 t ht) hfr0 (fun A0' r' a' w' hfr'=>?_)
   rw [← hik] at hfr'
   exact fin X1 A0' r' a' w' (by rw [← hik,hlisted];simp [addL]) hfr'
  ·have hXn:(if (listed.setIfInBounds i true).getD yk false=true then X1 else X)=(if listed.getD yk false=true then X1 else X):=by
    rw [hlisted];simp only [addL,if_neg (Ne.symm hik)]
   have hstep:=hlex.step i _ ho hik
   unfold stepE at hstep
   have etouch:touch P (evO (eL R (fun k=>listed.getD k false) (S 0).env ops.size)) (S i).loc.length ops[i]=touch P (evO (S i).env) (S i).loc.length ops[i]:=touch_congr (evO_congr (ops:=ops) g1)
   have heff:effOf P cl ops (eL R (fun k=>listed.getD k false) (S 0).env ops.size) (lL R (fun k=>listed.getD k false) (locOf (S 0)) ops.size) (S i).loc.length ops[i]=some (R i):=by
    rw [effOf_congr (env':=(S i).env) (loc':=locOf (S i)) g1 (fun t ht=>by rw [etouch] at ht;exact g2 t ht)]
    exact hstep
   have hnx:∀ c b v f t ar,opRes P (evO (eL R (fun k=>listed.getD k false) (S 0).env ops.size)) (lL R (fun k=>listed.getD k false) (locOf (S 0)) ops.size) (S i).loc.length ops[i]=some (c,.alloc b v)∨opRes P (evO (eL R (fun k=>listed.getD k false) (S 0).env ops.size)) (lL R (fun k=>listed.getD k false) (locOf (S 0)) ops.size) (S i).loc.length ops[i]=some (c,.grow (S i).loc.length b v)∨opRes P (evO (eL R (fun k=>listed.getD k false) (S 0).env ops.size)) (lL R (fun k=>listed.getD k false) (locOf (S 0)) ops.size) (S i).loc.length ops[i]=some (c,.fresh f t ar) →
     (lL R (fun k=>listed.getD k false) (locOf (S 0)) ops.size) (S i).loc.length=none:=fun c b v f t ar hr=>by
    have:((S i).loc.length,true) ∈ touch P (evO (eL R (fun k=>listed.getD k false) (S 0).env ops.size)) (S i).loc.length ops[i]:=by
     rcases hr with hr | hr | hr
     ·exact opRes_alloc hr
     ·exact (opRes_grow hr).1
     ·exact (opRes_fresh hr).1
    rw [etouch] at this
    exact fresh g2 this
   exact op_step hcl (by split;exact hg1;exact hgd) hfr hnx heff (fun r' a' w' hfr'=>fin _ A0 r' a' w' hXn hfr')
end
end Go.Proofs.YtkpligkggnjcoaaGreatDoor.Ev
/-! EvK -/
namespace Go.Proofs.YtkpligkggnjcoaaGreatDoor.Ev
open Go.RowKit
structure Stands (P:Program) (X:Fx):Prop where
 run:∀ A0 O O' w w',X A0 O w→Turn O w w'→(∀ b,O' b→O b∨w.heap.size≤b)→X A0 O' w'
 good:∀ A0 O w,X A0 O w→GOK P w
instance {P:Program} {X:Fx}:CoeFun (Stands P X) (fun _=>∀ A0 O O' w w',X A0 O w→Turn O w w'→(∀ b,O' b→O b∨w.heap.size≤b)→X A0 O' w'):=⟨Stands.run⟩
def YH (P:Program) (yl:Option Nat) (evs:List (List AV × Bool)) (Y:Nat→Fx):Prop:=
 (∀ i,Stands P (Y i))∧∀ (i:Nat) (x:List AV) (b:Bool),evs[i]?=some (x,b)→∀ (ro:Option Nat) (n:Nat) (A0 O:Nat→Prop) (w:World) (us:Array Value) (R:Ending→World→Prop),
  (∀ k,A0 k→k<w.heap.size)→(∀ k,O k→k<w.heap.size∧¬ A0 k)→Y i A0 O w→VRs w (fun k=>A0 k∨O k) noR x us →
  (∀ A0' w',Y (i+1) A0' O w'→Keeps A0 A0' w w'→(∀ k,A0' k→k<w'.heap.size)→R (.returned (.bool b)) w') →
  ∃ l f tmps assign body,yl=some l∧(Instr.yield l us).run P w=.ok (.round l f tmps assign body) w∧RoundIn (WF ro) n P l f tmps assign body w R
def Rc (ro:Option Nat) (Y:Nat→Fx):Prop:=∀ l,ro=some l→∀ i A0 O w,Y i A0 O w→∃ x,w.heap[l]?=some (.loop x)
def Post (Y:Nat→Fx) (yl:Option Nat) (sv:Array Value) (e:Exit) (st:St) (e':Exit) (a:Act) (w:World):Prop:=
 e'=e∧∃ A0 r ds,FR (Y st.out.length) yl A0 st.sav sv st.env (locOf st) r ds a w
def Ext (st st':St):Prop:=∃ l,st'.out=l ++ st.out
theorem Ext.refl (st:St):Ext st st:=⟨[],rfl⟩
theorem Ext.trans {a b c:St} (h:Ext a b) (k:Ext b c):Ext a c:=by
 obtain ⟨l,h⟩:=h;obtain ⟨m,k⟩:=k
 exact ⟨m ++ l,by rw [k,h,List.append_assoc]⟩
theorem Ext.pre {a b:St} (h:Ext a b) {evs:List (List AV × Bool)} (k:b.out.reverse <+: evs):a.out.reverse <+: evs:=by
 obtain ⟨l,h⟩:=h
 rw [h,List.reverse_append] at k
 exact (List.prefix_append _ _).trans k
def Ld (P:Program) (c:Code) (st:St) (e:Exit) (st':St):Prop:=
 Ext st st'∧∀ (yl:Option Nat) (evs:List (List AV × Bool)) (Y:Nat→Fx),st'.out.reverse <+: evs→YH P yl evs Y→∀ (ro:Option Nat) (n:Nat),Rc ro Y→∀ (A0:Nat→Prop) (r:Rr) (ds:List Nat) (sv:Array Value) (a:Act) (w:World),
  FR (Y st.out.length) yl A0 st.sav sv st.env (locOf st) r ds a w→c.wpIn (WF ro) n P (Post Y yl sv e st') a w
def wpL (c:Code) (F:Fence) (n:Nat) (P:Program) (Q:Exit→Act→World→Prop) (a:Act) (w:World):Prop:=
 ∀ (b:Frame) (k:List Item) (cs:List Frame),b.roundOf=F.round→F.fn b.fn→F.room (cs.length+1+n) →
  ∃ e a' w',Q e a' w'∧ArrivesIn (Machine.fenced P F) P (lone (b.atR a (.code c :: .inLoop c :: k)) cs w) b k cs e a' w'
section
variable {F:Fence} {n:Nat} {P:Program} {Q:Exit→Act→World→Prop} {a:Act} {w:World} {c:Code}
theorem wpL_step (h:c.wpIn F n P (Exit.then (wpL c F n P Q) Q) a w):wpL c F n P Q a w:=by
 intro b k cs hro hb hr
 obtain ⟨e,a₁,w₁,hq,harr⟩:=h b (.inLoop c :: k) cs hro hb hr
 cases e with
 | normal=>
  obtain ⟨e₂,a₂,w₂,hq₂,harr₂⟩:=hq b k cs hro hb hr
  exact ⟨e₂,a₂,w₂,hq₂,.of_steps (StepsIn.trans harr (.one (fenced_calm hb hr rfl) stepR_inLoop)) harr₂⟩
 | exit id=>exact ⟨_,a₁,w₁,hq,.pass (x:=.inLoop c) rfl (fun _ _=>.inl (by simp)) harr⟩
 | goto l=>exact ⟨_,a₁,w₁,hq,.pass (x:=.inLoop c) rfl (fun _ _=>.inl (by simp)) harr⟩
 | ret=>exact ⟨_,a₁,w₁,hq,.pass (x:=.inLoop c) rfl (fun _ _=>.inl (by simp)) harr⟩
 | panic ch=>exact ⟨_,a₁,w₁,hq,.pass (x:=.inLoop c) rfl (fun _ _=>.inl (by simp)) harr⟩
 | outgrown=>exact ⟨_,a₁,w₁,hq,.pass (x:=.inLoop c) rfl (fun _ _=>.inl (by simp)) harr⟩
theorem wpIn_of_wpL (h:wpL c F n P Q a w):(Code.loop c).wpIn F n P Q a w:=by
 intro b k cs hro hb hr
 obtain ⟨e,a',w',hq,harr⟩:=h b k cs hro hb hr
 exact ⟨e,a',w',hq,.of_steps (.one (fenced_calm hb hr rfl) stepR_loop) harr⟩
end
def LdL (P:Program) (c:Code) (st:St) (e:Exit) (st':St):Prop:=
 Ext st st'∧∀ (yl:Option Nat) (evs:List (List AV × Bool)) (Y:Nat→Fx),st'.out.reverse <+: evs→YH P yl evs Y→∀ (ro:Option Nat) (n:Nat),Rc ro Y→∀ (A0:Nat→Prop) (r:Rr) (ds:List Nat) (sv:Array Value) (a:Act) (w:World),
  FR (Y st.out.length) yl A0 st.sav sv st.env (locOf st) r ds a w→wpL c (WF ro) n P (Post Y yl sv e st') a w
def Tidy (st st':St):Prop:=st'.out=st.out∧∀ (X:Fx) (yl:Option Nat) (A0:Nat→Prop) (r:Rr) (ds:List Nat) (sv:Array Value) (a:Act) (w:World),
 FR X yl A0 st.sav sv st.env (locOf st) r ds a w→∃ r',FR X yl A0 st'.sav sv st'.env (locOf st') r' ds a w
theorem Tidy.ext {st st':St} (h:Tidy st st'):Ext st st':=⟨[],h.1⟩
section
variable {P:Program} {c x y:Code} {st st1 st2 st':St} {e:Exit}
theorem Ld.skip:Ld P .skip st .normal st:=
 ⟨.refl _,fun _ _ _ _ _ _ _ _ A0 r ds _ _ _ h=>wpIn_skip ⟨rfl,A0,r,ds,h⟩⟩
theorem Ld.exit {id:Nat}:Ld P (.exit id) st (.exit id) st:=
 ⟨.refl _,fun _ _ _ _ _ _ _ _ A0 r ds _ _ _ h=>wpIn_exit ⟨rfl,A0,r,ds,h⟩⟩
theorem Ld.label {l:Nat}:Ld P (.label l) st .normal st:=
 ⟨.refl _,fun _ _ _ _ _ _ _ _ A0 r ds _ _ _ h=>wpIn_label ⟨rfl,A0,r,ds,h⟩⟩
theorem Ld.ret:Ld P .ret st .ret st:=
 ⟨.refl _,fun _ _ _ _ _ _ _ _ A0 r ds _ _ _ h=>wpIn_ret ⟨rfl,A0,r,ds,h⟩⟩
theorem Ld.seq (h:Ld P x st .normal st1) (k:Ld P y st1 e st2):Ld P (.seq x y) st e st2:=by
 refine ⟨h.1.trans k.1,fun yl evs Y he hY ro n hrc A0 r ds sv a w hfr=>wpIn_seq (wpIn_mono (h.2 yl evs Y (k.1.pre he) hY ro n hrc A0 r ds sv a w hfr) ?_)⟩
 rintro e' a' w' ⟨rfl,A0',r',ds',hfr'⟩
 exact k.2 yl evs Y he hY ro n hrc A0' r' ds' sv a' w' hfr'
theorem Ld.seqX (h:Ld P x st e st1) (hne:e≠.normal):Ld P (.seq x y) st e st1:=by
 refine ⟨h.1,fun yl evs Y he hY ro n hrc A0 r ds sv a w hfr=>wpIn_seq (wpIn_mono (h.2 yl evs Y he hY ro n hrc A0 r ds sv a w hfr) ?_)⟩
 rintro e' a' w' hp
 obtain ⟨rfl,hfr'⟩:=hp
 cases e' with
 | normal=>exact absurd rfl hne
 | _=>exact ⟨rfl,hfr'⟩
theorem Ld.cond {o:Operand} {t:Bool} (hc:evO st.env o=some (.bool t)) (h:Ld P (if t=true then x else y) st e st'):Ld P (.cond o x y) st e st':=by
 refine ⟨h.1,fun yl evs Y he hY ro n hrc A0 r ds sv a w hfr=>?_⟩
 have hv:=hfr.eval o _ hc
 refine wpIn_cond (t:=t) ?_ (h.2 yl evs Y he hY ro n hrc A0 r ds sv a w hfr)
 generalize hz:a.eval o=z at hv
 cases hv
 rfl
def leave (id:Nat):Exit→Exit
 | .exit id'=>if id'=id then .normal else .exit id'
 | e=>e
theorem Ld.block {id:Nat} (h:Ld P c st e st'):Ld P (.block id c) st (leave id e) st':=by
 refine ⟨h.1,fun yl evs Y he hY ro n hrc A0 r ds sv a w hfr=>wpIn_block (wpIn_mono (h.2 yl evs Y he hY ro n hrc A0 r ds sv a w hfr) ?_)⟩
 rintro e' a' w' ⟨rfl,hfr'⟩
 cases e' with
 | exit id'=>
  simp only [Exit.inBlock,leave]
  split
  ·exact ⟨rfl,hfr'⟩
  ·exact ⟨rfl,hfr'⟩
 | _=>exact ⟨rfl,hfr'⟩
section
variable {b:Frame} {k:List Item} {cs:List Frame} {a:Act} {w:World}
theorem stepR_scope {c:Code}:Go.step P (lone (b.atR a (.code (.scope c) :: k)) cs w)=.next (lone (b.atR a (.code c :: .inScope c :: k)) cs w):=
 step_lone_go (by simp [stepG,stepG.exec,Frame.atR])
theorem stepR_inScope {c:Code}:Go.step P (lone (b.atR a (.inScope c :: k)) cs w)=.next (lone (b.atR a k) cs w):=
 step_lone_go (by simp [stepG,stepG.exec,Frame.atR])
theorem wpIn_scope {F:Fence} {n:Nat} {c:Code} {Q:Exit→Act→World→Prop} (h:c.wpIn F n P Q a w) (hQ:∀ l a w,¬ Q (.goto l) a w):(Code.scope c).wpIn F n P Q a w:=by
 intro b k cs hro hb hr
 have h0:(lone (b.atR a (.code (.scope c) :: k)) cs w).fenced P F:=fenced_calm hb hr rfl
 obtain ⟨e,a₁,w₁,hq,harr⟩:=h b (.inScope c :: k) cs hro hb hr
 cases e with
 | normal=>exact ⟨.normal,a₁,w₁,hq,.head h0 stepR_scope (StepsIn.trans harr (.one (fenced_calm hb hr rfl) stepR_inScope))⟩
 | exit id'=>
  have hx:exitTo id' (.inScope c :: k)=exitTo id' k:=by simp [exitTo]
  exact ⟨.exit id',a₁,w₁,hq,fun k' hk=>.head h0 stepR_scope (harr.1 k' (by rw [hx];exact hk)),
   fun hr' hk=>let ⟨k₁,h1,h2⟩:=harr.2 hr' (by rw [hx];exact hk);⟨k₁,h1,.head h0 stepR_scope h2⟩⟩
 | goto l=>exact absurd hq (hQ l a₁ w₁)
 | ret=>exact ⟨.ret,a₁,w₁,hq,fun hr=>let ⟨t,hs⟩:=harr.1 hr;⟨t,.head h0 stepR_scope hs⟩,fun hr=>let ⟨t,hs⟩:=harr.2 hr;⟨t,.head h0 stepR_scope hs⟩⟩
 | panic ch=>obtain ⟨t,hs⟩:=harr;exact ⟨.panic ch,a₁,w₁,hq,t,.head h0 stepR_scope hs⟩
 | outgrown=>exact ⟨.outgrown,a₁,w₁,hq,harr.imp id (Outgrown.of_steps (StepsIn.one h0 stepR_scope).steps)⟩
end
def notGoto:Exit→Bool
 | .goto _=>false
 | _=>true
theorem Ld.scope (h:Ld P c st e st') (he:notGoto e=true):Ld P (.scope c) st e st':=by
 refine ⟨h.1,fun yl evs Y hp hY ro n hrc A0 r ds sv a w hfr=>wpIn_scope (h.2 yl evs Y hp hY ro n hrc A0 r ds sv a w hfr) ?_⟩
 rintro l a' w' ⟨rfl,_⟩
 simp [notGoto] at he
theorem LdL.more (h:Ld P c st .normal st1) (k:LdL P c st1 e st2):LdL P c st e st2:=by
 refine ⟨h.1.trans k.1,fun yl evs Y he hY ro n hrc A0 r ds sv a w hfr=>wpL_step (wpIn_mono (h.2 yl evs Y (k.1.pre he) hY ro n hrc A0 r ds sv a w hfr) ?_)⟩
 rintro e' a' w' ⟨rfl,A0',r',ds',hfr'⟩
 exact k.2 yl evs Y he hY ro n hrc A0' r' ds' sv a' w' hfr'
theorem LdL.done (h:Ld P c st e st1) (hne:e≠.normal):LdL P c st e st1:=by
 refine ⟨h.1,fun yl evs Y he hY ro n hrc A0 r ds sv a w hfr=>wpL_step (wpIn_mono (h.2 yl evs Y he hY ro n hrc A0 r ds sv a w hfr) ?_)⟩
 rintro e' a' w' ⟨rfl,hfr'⟩
 cases e' with
 | normal=>exact absurd rfl hne
 | _=>exact ⟨rfl,hfr'⟩
theorem LdL.loop (h:LdL P c st e st'):Ld P (.loop c) st e st':=
 ⟨h.1,fun yl evs Y he hY ro n hrc A0 r ds sv a w hfr=>wpIn_of_wpL (h.2 yl evs Y he hY ro n hrc A0 r ds sv a w hfr)⟩
theorem Ld.pre (t:Tidy st st1) (h:Ld P c st1 e st2):Ld P c st e st2:=by
 refine ⟨t.ext.trans h.1,fun yl evs Y he hY ro n hrc A0 r ds sv a w hfr=>?_⟩
 obtain ⟨r',hfr'⟩:=t.2 _ _ _ _ _ _ _ _ hfr
 rw [← t.1] at hfr'
 exact h.2 yl evs Y he hY ro n hrc A0 r' ds sv a w hfr'
theorem LdL.pre (t:Tidy st st1) (h:LdL P c st1 e st2):LdL P c st e st2:=by
 refine ⟨t.ext.trans h.1,fun yl evs Y he hY ro n hrc A0 r ds sv a w hfr=>?_⟩
 obtain ⟨r',hfr'⟩:=t.2 _ _ _ _ _ _ _ _ hfr
 rw [← t.1] at hfr'
 exact h.2 yl evs Y he hY ro n hrc A0 r' ds sv a w hfr'
theorem Ld.post (h:Ld P c st e st1) (t:Tidy st1 st2):Ld P c st e st2:=by
 refine ⟨h.1.trans t.ext,fun yl evs Y he hY ro n hrc A0 r ds sv a w hfr=>wpIn_mono (h.2 yl evs Y (t.ext.pre he) hY ro n hrc A0 r ds sv a w hfr) ?_⟩
 rintro e' a' w' ⟨rfl,A0',r',ds',hfr'⟩
 obtain ⟨r2,h2⟩:=t.2 _ _ _ _ _ _ _ _ hfr'
 exact ⟨rfl,A0',r2,ds',by rw [t.1];exact h2⟩
def LdO (P:Program) (ops:Array Oper) (l:List Oper) (i:Nat) (st st':St):Prop:=
 Ext st st'∧∀ (yl:Option Nat) (evs:List (List AV × Bool)) (Y:Nat→Fx),st'.out.reverse <+: evs→YH P yl evs Y→∀ (ro:Option Nat) (n:Nat),Rc ro Y→∀ (A0:Nat→Prop) (r:Rr) (ds:List Nat) (sv:Array Value) (a:Act) (w:World),
  FR (Y st.out.length) yl A0 st.sav sv st.env (locOf st) r ds a w→wpOpsIn (WF ro) n P ops (Post Y yl sv .normal st') (List.range' i l.length) a w
variable {ops:Array Oper} {rest:List Oper} {o:Oper} {i:Nat} {cl:FuncId→List AV→Option AV}
theorem LdO.nil:LdO P ops [] i st st:=⟨.refl _,fun _ _ _ _ _ _ _ _ A0 r ds _ _ _ h=>⟨rfl,A0,r,ds,h⟩⟩
theorem LdO.step (hcl:∀ f args v,cl f args=some v→CC P f args v) (h0:ops[i]?=some o) {eff:Eff} (he:stepE P cl ops st o=some eff) (h:LdO P ops rest (i+1) (applyE st eff) st'):LdO P ops (o :: rest) i st st':=by
 refine ⟨h.1,fun yl evs Y hev hY ro n hrc A0 r ds sv a w hfr=>?_⟩
 simp only [List.length_cons,List.range'_succ,wpOpsIn,h0]
 refine op_step hcl (hY.1 _).good hfr (fun _ _ _ _ _ _ _=>locOf_len st) he (fun r' a' w' hfr'=>?_)
 refine h.2 yl evs Y hev hY ro n hrc A0 r' ds sv a' w' ?_
 rw [locOf_apply he]
 exact hfr'
theorem FR.ownNot {X:Fx} {yl:Option Nat} {A0:Nat→Prop} {sav env:List AV} {sv:Array Value} {loc:Nat→Option Blk} {r:Rr} {ds:List Nat} {a:Act} {w:World} (h:FR X yl A0 sav sv env loc r ds a w):∀ k,own r ds k→¬ A0 k:=by
 rintro k (hj | hk)
 ·exact h.dis k hj
 ·exact (h.dok k hk).2
theorem FR.other {X X':Fx} {yl:Option Nat} {A0 A0':Nat→Prop} {sav env:List AV} {sv:Array Value} {loc:Nat→Option Blk} {r:Rr} {ds:List Nat} {a:Act} {w w':World} (h:FR X yl A0 sav sv env loc r ds a w) (hX:X' A0' (own r ds) w')
  (hclo:∀ A0 O O' w w',X' A0 O w→Turn O w w'→(∀ b,O' b→O b∨w.heap.size≤b)→X' A0 O' w') (hk:Keeps A0 A0' w w') (ha0:∀ k,A0' k→k<w'.heap.size):FR X' yl A0' sav sv env loc r ds a w':=by
 have hdis:∀ b,OwnR r b→¬ A0' b:=fun b hj hA=>by
  rcases hk.more b hA with h1 | h1
  ·exact h.dis b hj h1
  ·have:=h.lt b hj;omega
 have hk':Keeps (AR A0 r ds) (AR A0' r ds) w w':=by
  refine ⟨hk.size,fun b hb hA=>hk.block b hb (fun h1=>hA (.inl h1)),fun b hA=>?_⟩
  rcases hA with h1 | h1
  ·exact (hk.more b h1).imp .inl id
  ·exact .inl (.inr h1)
 refine ⟨h.env.mono hk' (fun _ _ h=>h),h.sav.mono hk' (fun _ _ h=>h),fun j k hj=>(h.mem j k hj).keep hk' (fun _ _ h=>h) (fun b hb=>hk.block b (h.lt b (.of hb)) (h.dis b (.of hb))),h.dom,h.domL,h.inj,h.injL,h.sep,hdis,fun b hj=>Nat.lt_of_lt_of_le (h.lt b hj) hk.size,h.sepD,ha0,hX,hclo,h.dfr,h.dnd,fun q hq=>⟨?_,fun hA=>?_⟩,h.ylv⟩
 ·rw [hk.block q (Array.getElem?_eq_some_iff.1 (h.dok q hq).1).1 (h.dok q hq).2];exact (h.dok q hq).1
 ·rcases hk.more q hA with h1 | h1
  ·exact (h.dok q hq).2 h1
  ·have:=(Array.getElem?_eq_some_iff.1 (h.dok q hq).1).1;omega
theorem yield_step {Y:Nat→Fx} {yl:Option Nat} {evs:List (List AV × Bool)} {ro:Option Nat} {n m:Nat} {A0:Nat→Prop} {r:Rr} {ds:List Nat} {sav env:List AV} {sv:Array Value} {loc:Nat→Option Blk} {a:Act} {w:World} {c:Call} {f:Operand} {vs:List AV} {b:Bool} {K:Act→World→Prop} {Q:Exit→Act→World→Prop}
  (hY:YH P yl evs Y) (hlen:evs[m]?=some (vs,b)) (hw:wantD ops env o=some true) (ho:o.op=.call c) (hc:c.callee=.value f)
  (hf:evO env f=some .yv) (hvs:mapEv (evO env) c.args.toList=some vs) (hn:vs.all noL=true) (hfr:FR (Y m) yl A0 sav sv env loc r ds a w)
  (hK:∀ A0' a' w',FR (Y (m+1)) yl A0' sav sv (putD env o.dst (.bool b)) loc r ds a' w'→K a' w'):if Region.wanted o (yielded ops a.tmps) then o.wpIn (WF ro) n P a w K Q else (∀ f,o.about P w a.eval=some f→(WF ro).fn f)∧K (a.put o.dst undef) w:=by
 rw [if_pos (wantD_true hfr hw)]
 have hargs:=mapEv_rel hfr.cx.val _ _ hvs
 have e1:(c.args.toList.map a.eval).toArray=c.args.map a.eval:=Array.ext' (by simp)
 rw [e1] at hargs
 have hargs':VRs w (fun k=>A0 k∨own r ds k) noR vs (c.args.map a.eval):=hargs.weaken hn (fun b h=>h)
 have hfv:=hfr.eval f _ hf
 generalize hz:a.eval f=z at hfv
 cases hfv with
 | yv hl=>
  rename_i l
  obtain ⟨l',f',tmps,assign,body,hyl,hrun,hround⟩:=hY.2 m vs b hlen ro (n - 1) A0 (own r ds) w (c.args.map a.eval)
   (fun
    | .returned v,w''=>K (a.put o.dst v) w''
    | .panicked chain,w''=>Q (.panic chain) a w''
    | .outgrown,_=>LetsOut Q)
   hfr.a0 (fun k hk=>⟨hfr.arLt k (.inr hk),hfr.ownNot k hk⟩) hfr.inv hargs'
   (fun A0' w' hy' hk ha0=>by
    refine hK A0' _ w' ?_
    have hfr':=hfr.other (X':=Y (m+1)) hy' (hY.1 _).run hk ha0
    exact hfr'.val (Bel.refl _ _) (.bool:VR w' (AR A0' r ds) r (.bool b) (.bool b)) o.dst)
  have:l=l':=by
   have h1:=hfr.ylv
   rw [hl,hyl] at h1
   injection h1
  subst this
  refine ⟨fun _ _=>trivial,?_⟩
  rw [Oper.semAt_eq _ _ _ (fun d hd=>by rw [ho] at hd;cases hd)]
  have:(execOp a.eval o).run P w=.ok (.round l f' tmps assign body) w:=by
   simp only [execOp,ho,resolve,hc,hz,Deferred.ofValue,Sem.run_bind,Sem.run_pure,Result.andThen_ok,invoke,Array.empty_append,hrun]
  rw [this,Oper.uponIn_round]
  exact ⟨fun h=>by simp [wf_depth] at h,hround⟩
theorem next_event {evs:List (List AV × Bool)} {x:List AV × Bool} (h:(x :: st.out).reverse <+: evs):evs[st.out.length]?=some x:=by
 simp only [List.reverse_cons] at h
 obtain ⟨t,ht⟩:=h
 rw [← ht,List.append_assoc,List.getElem?_append_right (by simp)]
 simp
theorem LdO.yield (h0:ops[i]?=some o) {c:Call} {f:Operand} {vs:List AV} {b:Bool} (hw:wantD ops st.env o=some true) (ho:o.op=.call c) (hc:c.callee=.value f)
  (hf:evO st.env f=some .yv) (hvs:mapEv (evO st.env) c.args.toList=some vs) (hn:vs.all noL=true)
  (h:LdO P ops rest (i+1) { st with env:=putD st.env o.dst (.bool b),out:=(vs,b) :: st.out } st'):LdO P ops (o :: rest) i st st':=by
 refine ⟨Ext.trans ⟨[(vs,b)],rfl⟩ h.1,fun yl evs Y hev hY ro n hrc A0 r ds sv a w hfr=>?_⟩
 simp only [List.length_cons,List.range'_succ,wpOpsIn,h0]
 exact yield_step hY (next_event (h.1.pre hev)) hw ho hc hf hvs hn hfr (fun A0' a' w' hfr'=>h.2 yl evs Y hev hY ro n hrc A0' r ds sv a' w' hfr')
theorem Ld.region {id:Nat} (h:LdO P ops ops.toList 0 st st'):Ld P (.region id ops false) st .normal st':=by
 refine ⟨h.1,fun yl evs Y hev hY ro n hrc A0 r ds sv a w hfr=>wpIn_region ?_⟩
 have:=h.2 yl evs Y hev hY ro n hrc A0 r ds sv a w hfr
 rw [List.range_eq_range',← Array.length_toList]
 exact this
theorem FR.drew {X:Fx} {yl:Option Nat} {A0:Nat→Prop} {sav env:List AV} {sv:Array Value} {loc:Nat→Option Blk} {r:Rr} {ds:List Nat} {a:Act} {w:World} (h:FR X yl A0 sav sv env loc r ds a w):FR X yl A0 sav sv env loc r ds a { w with drawn:=w.drawn+1 }:=by
 have:=h.val (Bel.refl w.heap.size w).drew (x:=.top) (v:=undef) .top none
 exact this
def StepY (P:Program) (cl:FuncId→List AV→Option AV) (ops:Array Oper) (st:St) (o:Oper) (e:Eff) (st1:St):Bool→Prop
 | false=>stepE P cl ops st o=some e∧st1=applyE st e
 | true=>∃ (c:Call) (f:Operand) (vs:List AV) (b:Bool),wantD ops st.env o=some true∧o.op=.call c∧c.callee=.value f∧evO st.env f=some .yv∧mapEv (evO st.env) c.args.toList=some vs∧vs.all noL=true ∧
   e=⟨o.dst,.bool b,none⟩∧st1={ st with env:=putD st.env o.dst (.bool b),out:=(vs,b) :: st.out }
inductive Wk (P:Program) (cl:FuncId→List AV→Option AV) (ops:Array Oper) (bf:List Nat):List Oper→Nat→St→List (Nat × Nat × Bool)→Bool→St→Prop
 | nil {i:Nat} {st:St} {tr:List (Nat × Nat × Bool)} {y:Bool}:Wk P cl ops bf [] i st tr y st
 | cons {o:Oper} {rest:List Oper} {i:Nat} {st st1 st':St} {tr:List (Nat × Nat × Bool)} {y isY:Bool} {e:Eff} (hs:StepY P cl ops st o e st1 isY) (hy:isY=true→y=false)
   (hc:clashAny bf i tr (touch P (evO st.env) st.loc.length o)=false) (h:Wk P cl ops bf rest (i+1) st1 (addTr i tr (touch P (evO st.env) st.loc.length o)) (y || isY) st'):Wk P cl ops bf (o :: rest) i st tr y st'
theorem Wk.trace {bf:List Nat} {l:List Oper} {i:Nat} {st st':St} {tr:List (Nat × Nat × Bool)} {y:Bool} (h:Wk P cl ops bf l i st tr y st') :
  ∃ (S:Nat→St) (R:Nat→Eff) (yk:Nat),S i=st∧S (i+l.length)=st'∧i≤yk∧(y=true→i+l.length≤yk)∧(∀ k o,l[k]?=some o→StepY P cl ops (S (i+k)) o (R (i+k)) (S (i+k+1)) (decide (i+k=yk))) ∧
   (∀ k o,l[k]?=some o→∀ t ∈ touch P (evO (S (i+k)).env) (S (i+k)).loc.length o,
    (∀ x ∈ tr,x.2.1=t.1→(x.2.2=true∨t.2=true)→(bf.getD (i+k) 0).testBit x.1=true) ∧
    ∀ k' o',k'<k→l[k']?=some o'→∀ t' ∈ touch P (evO (S (i+k')).env) (S (i+k')).loc.length o',t'.1=t.1→(t'.2=true∨t.2=true)→(bf.getD (i+k) 0).testBit (i+k')=true):=by
 induction h with
 | nil=>
  rename_i i st tr y
  exact ⟨fun _=>st,fun _=>⟨none,.top,none⟩,i,rfl,rfl,Nat.le_refl _,fun _=>Nat.le_refl _,fun k o hk=>by simp at hk,fun k o hk=>by simp at hk⟩
 | cons hs hy hc _ ih=>
  rename_i o rest i st st1 st' tr y isY e _
  obtain ⟨S,R,yk,h1,h2,h3,h5,h6,h4⟩:=ih
  refine ⟨fun k=>if k=i then st else S k,fun k=>if k=i then e else R k,if isY=true then i else yk,if_pos rfl,?_,?_,?_,fun k o' hk=>?_,fun k o' hk t ht=>?_⟩
  ·show (if i+(rest.length+1)=i then st else S (i+(rest.length+1)))=st'
   rw [if_neg (by omega),← h2];congr 1;omega
  ·split<;>omega
  ·intro hyt
   cases isY with
   | true=>have:=hy rfl;rw [hyt] at this;cases this
   | false=>
    have:=h5 (by simp [hyt])
    simp only [List.length_cons,Bool.false_eq_true,if_false];omega
  ·cases k with
   | zero=>
    simp at hk;subst hk
    simp only [Nat.add_zero,if_true]
    rw [if_neg (show ¬ i+1=i by omega),h1]
    cases isY with
    | true=>simpa using hs
    | false=>
     have:¬ i=yk:=by omega
     simpa [this] using hs
   | succ k=>
    have e1:i+(k+1)=i+1+k:=by omega
    have hk':rest[k]?=some o':=by simpa using hk
    have:=h6 k o' hk'
    simp only [e1]
    rw [if_neg (show ¬ i+1+k=i by omega),if_neg (show ¬ i+1+k=i by omega),if_neg (show ¬ i+1+k+1=i by omega)]
    cases isY with
    | false=>simpa using this
    | true=>
     have hlt:=(List.getElem?_eq_some_iff.1 hk').1
     have h7:=h5 (by simp)
     have n1:¬ i+1+k=yk:=by omega
     have n2:¬ i+1+k=i:=by omega
     simpa [n1,n2] using this
  ·cases k with
   | zero=>
    simp at hk;subst hk
    simp only [Nat.add_zero,if_true] at ht ⊢
    exact ⟨clashAny_false hc t ht,fun k' o'' hk'=>by omega⟩
   | succ k=>
    have e1:i+(k+1)=i+1+k:=by omega
    simp only [e1] at ht ⊢
    rw [if_neg (show ¬ i+1+k=i by omega)] at ht
    obtain ⟨g1,g2⟩:=h4 k o' (by simpa using hk) t ht
    refine ⟨fun x hx=>g1 x (addTr_mem.2 (.inl hx)),fun k' o'' hk' ho'' t' ht' he' hw'=>?_⟩
    cases k' with
    | zero=>
     simp at ho'';subst ho''
     simp only [Nat.add_zero,if_true] at ht'
     exact g1 (i,t'.1,t'.2) (addTr_mem.2 (.inr ⟨t',ht',rfl⟩)) he' hw'
    | succ k'=>
     have e2:i+(k'+1)=i+1+k':=by omega
     simp only [e2] at ht' ⊢
     rw [if_neg (show ¬ i+1+k'=i by omega)] at ht'
     exact g2 k' o'' (by omega) (by simpa using ho'') t' ht' he' hw'
theorem StepY.keep {st1:St} {e:Eff} {y:Bool} (h:StepY P cl ops st o e st1 y):e.dst=o.dst∧st1.env=putD st.env e.dst e.v∧locOf st1=locE e (locOf st)∧st.loc.length≤st1.loc.length∧st1.sav=st.sav ∧
  (∀ j b,e.mem=some (j,b)→(j,true) ∈ touch P (evO st.env) st.loc.length o):=by
 cases y with
 | false=>
  obtain ⟨h1,rfl⟩:=h
  refine ⟨effOf_dst h1,rfl,locOf_apply h1,?_,rfl,fun j b hm=>(effOf_mem h1 hm).1⟩
  unfold applyE
  cases e.mem with
  | none=>simp
  | some jb=>obtain ⟨j,b⟩:=jb;simp only;split<;>simp
 | true=>
  obtain ⟨c,f,vs,b,_,_,_,_,_,_,rfl,rfl⟩:=h
  exact ⟨rfl,rfl,rfl,Nat.le_refl _,rfl,fun j b hm=>by simp at hm⟩
theorem StepY.out {st1:St} {e:Eff} (h:StepY P cl ops st o e st1 false):st1.out=st.out:=by
 obtain ⟨_,rfl⟩:=h
 rfl
theorem Ld.regionAny {id:Nat} (hcl:∀ f args v,cl f args=some v→CC P f args v) (hm:P.follows .mixedOrders=true) (hok:regOk ops (masks ops.toList [])=true)
  (h:Wk P cl ops (masks ops.toList []) ops.toList 0 st [] false st'):Ld P (.region id ops true) st .normal st':=by
 obtain ⟨S,R,yk,h1,h2,_,_,h3,h4⟩:=h.trace
 simp only [Nat.zero_add,Array.length_toList] at h1 h2 h3 h4
 have hS:∀ k o,ops[k]?=some o→StepY P cl ops (S k) o (R k) (S (k+1)) (decide (k=yk)):=fun k o hk=>h3 k o (by simpa using hk)
 have opAt:∀ k (hk:k<ops.size),ops[k]?=some (ops[k]'hk):=fun k hk=>Array.getElem?_eq_getElem hk
 have hlex:Lex P cl ops yk S R:=⟨fun k o hk hne=>by have:=hS k o hk;simp only [hne,decide_false] at this;exact this.1,fun k o hk=>(hS k o hk).keep.1,fun k o hk=>(hS k o hk).keep.2.2.2.2.2,
  fun k o hk=>(hS k o hk).keep.2.1,fun k o hk=>(hS k o hk).keep.2.2.1,fun k o hk=>(hS k o hk).keep.2.2.2.1,
  fun k o hk t ht k' o' hk' ho' t' ht' e1 e2=>(h4 k o (by simpa using hk) t ht).2 k' o' hk' (by simpa using ho') t' ht' e1 e2⟩
 have hsav:∀ k,k≤ops.size→(S k).sav=st.sav:=by
  intro k
  induction k with
  | zero=>intro _;rw [h1]
  | succ k ih=>intro hk;rw [(hS k _ (opAt k (by omega))).keep.2.2.2.2.1];exact ih (by omega)
 have hout:∀ k,k≤ops.size→(S k).out=if yk<k then (S (yk+1)).out else st.out:=by
  intro k
  induction k with
  | zero=>intro _;rw [h1,if_neg (by omega)]
  | succ k ih=>
   intro hk
   by_cases he:k=yk
   ·rw [if_pos (by omega),he]
   ·have:=hS k _ (opAt k (by omega))
    simp only [he,decide_false] at this
    rw [this.out,ih (by omega)]
    by_cases hl:yk<k
    ·rw [if_pos hl,if_pos (by omega)]
    ·rw [if_neg hl,if_neg (by omega)]
 have hyout:yk<ops.size→∃ x,(S (yk+1)).out=x :: st.out:=fun hy=>by
  have:=hS yk _ (opAt yk hy)
  simp only [decide_true] at this
  obtain ⟨c,f,vs,b,_,_,_,_,_,_,_,e2⟩:=this
  refine ⟨(vs,b),?_⟩
  rw [e2,hout yk (by omega),if_neg (by omega)]
 have hend:st'.out=if yk<ops.size then (S (yk+1)).out else st.out:=by rw [← h2,hout ops.size (Nat.le_refl _)]
 refine ⟨?_,fun yl evs Y hev hY ro n hrc A0 r ds sv a w hfr=>wpIn_region_any hm ?_⟩
 ·by_cases hy:yk<ops.size
  ·obtain ⟨x,hx⟩:=hyout hy
   exact ⟨[x],by rw [hend,if_pos hy,hx];rfl⟩
  ·exact ⟨[],by rw [hend,if_neg hy];rfl⟩
 refine any_order hcl (hY.1 _).good (hY.1 _).good hok hlex (ds:=ds) (X:=Y st.out.length) (X1:=Y (st.out.length+1)) (sav:=st.sav) (sv:=sv) (yl:=yl) (fun o ho A1 env loc r1 a1 w1 K hag hfr1 hK=>?_) (fun A1 r' a' w' hfr'=>?_) ops.size (Array.replicate ops.size false) A0 r a _ (by simp) ?_ (fun i o _ hi=>?_) ?_
 ·have hs:=hS yk o ho
  simp only [decide_true] at hs
  have hy:yk<ops.size:=(Array.getElem?_eq_some_iff.1 ho).1
  obtain ⟨c,f,vs,b,g1,g2,g3,g4,g5,g6,g7,g8⟩:=hs
  have hwant:wantD ops env o=some true:=by rw [← g1];exact wantD_congr hag
  have hev':evs[st.out.length]?=some (vs,b):=by
   have hx:st'.out=(vs,b) :: st.out:=by rw [hend,if_pos hy,g8,hout yk (by omega),if_neg (by omega)]
   rw [hx] at hev
   exact next_event hev
  have hco:=evO_congr (ops:=ops) hag
  rw [g7] at hK
  exact yield_step hY hev' hwant g2 g3 (by rw [← g4];exact hco f (by rw [g2];simp [Op.operands,Call.operands,g3])) (by rw [← g5];exact mapEv_congr fun x hx=>hco x (by rw [g2];simp only [Op.operands,Call.operands,Array.mem_append];exact .inr (by simpa using hx))) g6 hfr1 (fun A0' a' w' h=>hK A0' r1 a' w' h)
 ·rw [h2] at hfr'
  refine ⟨rfl,A1,r',ds,?_⟩
  have hs':st'.sav=st.sav:=by rw [← h2];exact hsav _ (Nat.le_refl _)
  rw [hs',hend]
  by_cases hy:yk<ops.size
  ·obtain ⟨x,hx⟩:=hyout hy
   rw [if_pos hy] at hfr' ⊢
   rw [hx];exact hfr'
  ·rw [if_neg hy] at hfr' ⊢
   exact hfr'
 ·unfold left
  exact Nat.le_trans (List.length_filter_le _ _) (by simp)
 ·simp [Array.getD_eq_getD_getElem?,Array.getElem?_replicate] at hi
  split at hi<;>simp at hi
 ·have hz:∀ k,(Array.replicate ops.size false).getD k false=false:=fun k=>by
   simp only [Array.getD_eq_getD_getElem?,Array.getElem?_replicate]
   split<;>rfl
  have hf:(fun k=>(Array.replicate ops.size false).getD k false)=fun _=>false:=funext hz
  have z1:∀ m,eL R (fun _=>false) (S 0).env m=(S 0).env:=fun m=>by
   induction m with
   | zero=>rfl
   | succ m ih=>simp only [eL,Bool.false_eq_true,if_false];exact ih
  have z2:∀ m,lL R (fun _=>false) (locOf (S 0)) m=locOf (S 0):=fun m=>by
   induction m with
   | zero=>rfl
   | succ m ih=>simp only [lL,Bool.false_eq_true,if_false];exact ih
  rw [hf,z1,z2,h1,if_neg (by rw [hz];simp)]
  exact hfr.drew
end
end Go.Proofs.YtkpligkggnjcoaaGreatDoor.Ev
/-! EvL -/
namespace Go.Proofs.YtkpligkggnjcoaaGreatDoor.Ev
open Go.RowKit
section
variable {P:Program} {cl:FuncId→List AV→Option AV} {ops:Array Oper}
end
section
variable {X:Fx} {A0:Nat→Prop} {sav env:List AV} {sv:Array Value} {yl:Option Nat} {loc:Nat→Option Blk} {r:Rr} {ds ds':List Nat} {a a':Act} {w w':World}
theorem FR.move (h:FR X yl A0 sav sv env loc r ds a w) (ht:a'.tmps=a.tmps) (hturn:Turn (own r ds) w w') (hown:∀ b,OwnR r b→w'.heap[b]?=w.heap[b]?) (hds:∀ q,q ∈ ds'→q ∈ ds∨w.heap.size≤q)
  (hd:a'.defers=ds'.map fun q=>{ target:=.collected q,args:=#[] }) (hn:ds'.Nodup) (hok:∀ q,q ∈ ds'→w'.heap[q]?=some (.deferred (some []))∧¬ A0 q):FR X yl A0 sav sv env loc r ds' a' w':=by
 have hk:Keeps (AR A0 r ds) (AR A0 r ds') w w':=by
  refine ⟨hturn.size,fun b hb hA=>hturn.block b hb (fun ho=>hA (.inr ho)),fun b hb=>?_⟩
  rcases hb with hb | hb | hb
  ·exact .inl (.inl hb)
  ·exact .inl (.inr (.inl hb))
  ·exact (hds b hb).imp (fun h=>.inr (.inr h)) id
 refine ⟨by rw [ht];exact h.env.mono hk (fun _ _ h=>h),h.sav.mono hk (fun _ _ h=>h),fun j k hj=>(h.mem j k hj).keep hk (fun _ _ h=>h) (fun b hb=>hown b (.of hb)),h.dom,h.domL,h.inj,h.injL,h.sep,h.dis,fun b hj=>Nat.lt_of_lt_of_le (h.lt b hj) hturn.size,fun b hj hq=>(hds b hq).elim (h.sepD b hj) (fun e=>by have:=h.lt b hj;omega),
  fun b hb=>Nat.lt_of_lt_of_le (h.a0 b hb) hturn.size,h.clo _ _ _ _ _ h.inv hturn ?_,h.clo,hd,hn,hok,h.ylv⟩
 ·rintro b (hb | hb)
  ·exact .inl (.inl hb)
  ·exact (hds b hb).imp .inr id
theorem FR.markNot (h:FR X yl A0 sav sv env loc r ds a w) {q b:Nat} (hq:q ∈ ds) (hj:OwnR r b):b≠q:=fun e=>h.sepD b hj (by rw [e];exact hq)
theorem FR.shut {q:Nat} (h:FR X yl A0 sav sv env loc r (q :: ds) a w):FR X yl A0 sav sv env loc r ds { a with defers:=ds.map fun q=>{ target:=.collected q,args:=#[] } } (w.putObj q (.deferred none)):=by
 refine h.move rfl ⟨rfl,rfl,rfl,by simp,fun b _ hb=>World.putObj_heap_other (fun e=>hb (by subst e;exact .inr (by simp))),dle.of (Nat.le_refl _)⟩ (fun b hj=>World.putObj_heap_other (h.markNot (by simp) hj)) (fun q' hq'=>.inl (by simp [hq'])) rfl (List.nodup_cons.1 h.dnd).2 (fun q' hq'=>⟨?_,(h.dok q' (by simp [hq'])).2⟩)
 rw [World.putObj_heap_other (fun e=>(List.nodup_cons.1 h.dnd).1 (by rw [← e];exact hq'))]
 exact (h.dok q' (by simp [hq'])).1
theorem leaves_marks {F:Fence} {n:Nat} {P:Program} {fn:Func} {R:Ending→World→Prop}:∀ (ds:List Nat) (a:Act) (w:World),FR X yl A0 sav sv env loc r ds a w →
  (∀ (a':Act) (w':World),a'.tmps=a.tmps→FR X yl A0 sav sv env loc r [] a' w'→∃ v,(results fn a.tmps).run P w'=.ok v w'∧R (.returned v) w')→LeavesInM F n P fn a.tmps R a.defers .returning w
 | [],a,w,h,hR=>by
  have:=h.dfr
  simp only [List.map_nil] at this
  rw [this]
  exact hR a w rfl h
 | q :: ds,a,w,h,hR=>by
  have:=h.dfr
  simp only [List.map_cons] at this
  rw [this]
  refine ⟨by simp,.inl ⟨q,w.putObj q (.deferred none),rfl,run_takeDeferred (h.dok q (by simp)).1,?_⟩⟩
  exact leaves_marks ds { a with defers:=ds.map fun q=>{ target:=.collected q,args:=#[] } } _ h.shut (fun a' w' ht hfr=>hR a' w' ht hfr)
end
def resAV1 (P:Program) (st:St):ResultVar→Option AV
 | .tmp t=>st.env[t]?
 | .cell a t=>match st.env[a]? with
  | some (.lptr j wd row col)=>match locOf st j with
   | some (.flat _ cs)=>loadAV P t cs (row * wd+col)
   | _=>none
  | _=>none
def resL (P:Program) (st:St):List ResultVar→Option (List AV)
 | []=>some []
 | x :: xs=>match resAV1 P st x with
  | some v=>match resL P st xs with
   | some vs=>some (v :: vs)
   | none=>none
  | none=>none
def resAV (P:Program) (st:St) (fn:Func):Option AV:=match resL P st fn.results.toList with
 | some [v]=>expR (locOf st) v
 | some vs=>match expAll (locOf st) vs with
  | some xs=>some (.tup xs)
  | none=>none
 | none=>none
def rdRes (tmps:Array Value):ResultVar→Sem Value
 | .tmp t=>pure (tmps.getD t undef)
 | .cell c t=>asAddr (tmps.getD c undef) >>= fun x=>loadVar t x
theorem results_eq (fn:Func) (tmps:Array Value):results fn tmps=(fn.results.toList.mapM (rdRes tmps) >>= fun vs=>pure (if h:vs.toArray.size=1 then vs.toArray[0] else .tuple vs.toArray)):=by
 unfold results
 simp only [Array.mapM_eq_mapM_toList,map_eq_pure_bind,bind_assoc,pure_bind]
 congr 1
section
variable {P:Program} {X:Fx} {A0:Nat→Prop} {st:St} {sv:Array Value} {yl:Option Nat} {r:Rr} {ds:List Nat} {a:Act} {w:World}
theorem resAV1_rel (h:FR X yl A0 st.sav sv st.env (locOf st) r ds a w) {x:ResultVar} {v:AV} (hx:resAV1 P st x=some v) :
  ∃ u,(rdRes a.tmps x).run P w=.ok u w∧VR w (AR A0 r ds) r v u:=by
 cases x with
 | tmp t=>
  obtain ⟨u,hu,hr⟩:=h.env.get hx
  exact ⟨u,by simp [rdRes,Array.getD_eq_getD_getElem?,hu],hr⟩
 | cell c t=>
  simp only [resAV1] at hx
  split at hx
  ·rename_i j wd row col hj
   split at hx
   ·rename_i u cs hl
    obtain ⟨z,hz,hr⟩:=h.env.get hj
    cases hr with
    | lptr hrj ho=>
     rename_i b off
     obtain ⟨b',hb',us,hh,hc⟩:=h.mem _ _ hl
     rw [hrj] at hb';injection hb' with hb';subst hb'
     obtain ⟨v',hv',hr'⟩:=load_flat (P:=P) hh hc hx
     subst ho
     exact ⟨v',by simp only [rdRes,Array.getD_eq_getD_getElem?,hz,Option.getD_some,asAddr,Sem.run_bind,Sem.run_pure,Result.andThen_ok,hv'],hr'⟩
   ·simp at hx
  ·simp at hx
theorem resL_rel (h:FR X yl A0 st.sav sv st.env (locOf st) r ds a w):∀ {l:List ResultVar} {vs:List AV},resL P st l=some vs →
  ∃ us:List Value,(l.mapM (rdRes a.tmps)).run P w=.ok us w∧VRs w (AR A0 r ds) r vs us.toArray
 | [],vs,hl=>by simp [resL] at hl;subst hl;exact ⟨[],by simp,VRs.nil⟩
 | x :: xs,vs,hl=>by
  simp only [resL] at hl
  split at hl
  ·rename_i v hv
   split at hl
   ·rename_i vs' hvs
    injection hl with hl;subst hl
    obtain ⟨u,hu,hr⟩:=resAV1_rel h hv
    obtain ⟨us,hus,hrs⟩:=resL_rel h hvs
    refine ⟨u :: us,?_,?_⟩
    ·simp only [List.mapM_cons,Sem.run_bind,hu,Result.andThen_ok,hus,Sem.run_pure]
    ·have:=(VRs.one hr).append hrs
     simpa using this
   ·simp at hl
  ·simp at hl
theorem resAV_rel (h:FR X yl A0 st.sav sv st.env (locOf st) r ds a w) {fn:Func} {v:AV} {A:Nat→Prop} (hA:∀ b,A b→A0 b) (hv:resAV P st fn=some v):∃ u,(results fn a.tmps).run P w=.ok u w∧VR w A noR v u:=by
 unfold resAV at hv
 have hAA:∀ b,A b→AR A0 r ds b:=fun b hb=>.inl (hA b hb)
 have hno:∀ b,OwnR r b→¬ A b:=fun b hj hb=>h.dis b hj (hA b hb)
 split at hv
 ·rename_i x hl
  obtain ⟨us,hus,hrs⟩:=resL_rel h hl
  have h1:us.length=1:=by have:=hrs.1;simpa using this.symm
  obtain ⟨u,rfl⟩:∃ u,us=[u]:=by
   match us,h1 with
   | [u],_=>exact ⟨u,rfl⟩
  refine ⟨u,?_,expR_rel h.mem hAA (OwnR.all hno) hv (hrs.2 0 x u rfl rfl)⟩
  simp only [results_eq,Sem.run_bind,hus,Result.andThen_ok,Sem.run_pure]
  rfl
 ·rename_i vs hne hl
  obtain ⟨us,hus,hrs⟩:=resL_rel h hl
  split at hv
  ·rename_i xs hx
   injection hv with hv;subst hv
   have h1:us.length≠1:=fun e=>by
    have hlen:vs.length=1:=by have:=hrs.1;simp at this;omega
    match vs,hlen with
    | [x],_=>exact hne x rfl
   have:=expAlls_rel h.mem hAA (OwnR.all hno) hx hrs
   refine ⟨.tuple us.toArray,?_,.tup this.1 this.2⟩
   simp only [results_eq,Sem.run_bind,hus,Result.andThen_ok,Sem.run_pure]
   simp [h1]
  ·simp at hv
 ·simp at hv
end
def entry (fn:Func) (args:List AV):St:={ env:=args ++ List.replicate (fn.ntmps - args.length) .top,loc:=[] }
theorem VRs.tops {w:World} {A:Nat→Prop} {r:Rr} (n:Nat) (u:Value):VRs w A r (List.replicate n .top) (Array.replicate n u):=
 ⟨by simp,fun i x v hx hv=>by
  rw [List.getElem?_replicate] at hx
  split at hx
  ·injection hx with hx;subst hx;exact .top
  ·simp at hx⟩
def yR (yl:Option Nat):Rr:=fun j=>match j with
 | .yl=>yl
 | _=>none
theorem yR_own {yl:Option Nat} {b:Nat}:¬ OwnR (yR yl) b:=fun h=>by rcases h with ⟨j,h⟩ | ⟨j,v,h⟩<;>simp [yR] at h
theorem noR_le (r:Rr) (j:Key) (b:Nat) (h:noR j=some b):r j=some b:=by simp [noR] at h
theorem FR.entry {X:Fx} {yl:Option Nat} {A0:Nat→Prop} {fn:Func} {args:List AV} {us:Array Value} {w:World} (hX:X A0 (fun _=>False) w) (hS:∀ A0 O O' w w',X A0 O w→Turn O w w'→(∀ b,O' b→O b∨w.heap.size≤b)→X A0 O' w') (ha0:∀ b,A0 b→b<w.heap.size) (hv:VRs w A0 (yR yl) args us) :
  FR X yl A0 (Ev.entry fn args).sav #[] (Ev.entry fn args).env (locOf (Ev.entry fn args)) (yR yl) [] { tmps:=us ++ Array.replicate (fn.ntmps - us.size) undef,defers:=[] } w:=by
 have hno:∀ b,¬ own (yR yl) [] b:=fun b hb=>by
  rcases hb with hj | hb
  ·exact yR_own hj
  ·simp at hb
 have hk:Keeps A0 (AR A0 (yR yl) []) w w:=⟨Nat.le_refl _,fun _ _ _=>rfl,fun b hb=>by
  rcases hb with hb | hb
  ·exact .inl hb
  ·exact absurd hb (hno b)⟩
 refine ⟨?_,VRs.nil,fun j k hj=>by simp [locOf,Ev.entry] at hj,fun j b hj=>by simp [yR] at hj,fun j v b hj=>by simp [yR] at hj,fun i j b hj=>by simp [yR] at hj,fun i j v u b hj=>by simp [yR] at hj,fun i j v b hj=>by simp [yR] at hj,fun b hj=>absurd hj yR_own,fun b hj=>absurd hj yR_own,fun b hj=>absurd hj yR_own,ha0,hS _ _ _ _ _ hX ⟨rfl,rfl,rfl,Nat.le_refl _,fun _ _ _=>rfl,dle.refl _⟩ (fun b hb=>absurd hb (hno b)),hS,rfl,List.nodup_nil,fun q hq=>by simp at hq,rfl⟩
 have:=(hv.mono hk (r':=yR yl) (fun _ _ h=>h)).append (VRs.tops (fn.ntmps - us.size) undef)
 simpa [Ev.entry,hv.1] using this
theorem callsIn_round {ro:Option Nat} {n:Nat} {P:Program} {f:FuncId} {us:Array Value} {w:World} {R:Ending→World→Prop} (h:CallsIn (WF none) n P f us w R):CallsIn (WF ro) n P f us w R:=by
 cases ro with
 | none=>exact h
 | some l=>exact h
section
variable {P:Program} {f:FuncId} {fn:Func} {c:Code}
theorem PC.of_ld {args:List AV} {st':St} {e:Exit} {x:AV} (hf:P.funcs[f]?=some fn) (hb:fn.body=some c) (h:Ld P c (entry fn args) e st') (he:e=.normal∨e=.ret) (hout:st'.out=[]) (hr:resAV P st' fn=some x) :
  PC P f args x:=by
 intro ro n A w us hG hA hv
 apply callsIn_round
 refine callsIn_of_wp_marks hf hb trivial ?_
 let X:Fx:=fun A0 O w'=>(∀ b,A b→A0 b)∧Bel w.heap.size w w'∧∀ b,O b→w.heap.size≤b
 have hS:Stands P X:=⟨fun A0 O O' w1 w2 hX ht hO=>⟨hX.1,⟨⟨ht.os.trans hX.2.1.os,ht.tape.trans hX.2.1.tape,ht.output.trans hX.2.1.output,Nat.le_trans hX.2.1.size ht.size,fun k hk=>by
   rw [ht.block k (Nat.lt_of_lt_of_le hk hX.2.1.size) (fun ho=>by have:=hX.2.2 k ho;omega)];exact hX.2.1.block k hk⟩,(hX.2.1.drawn).trans (ht.drawn)⟩,
  fun b hb=>by
   rcases hO b hb with h1 | h1
   ·exact hX.2.2 b h1
   ·exact Nat.le_trans hX.2.1.size h1⟩,fun A0 O w1 hX=>hG.bel hX.2.1⟩
 have hfr:FR X none A (entry fn args).sav #[] (entry fn args).env (locOf (entry fn args)) (yR none) [] { tmps:=us ++ Array.replicate (fn.ntmps - us.size) undef,defers:=[] } w:=
  FR.entry ⟨fun _ h=>h,Bel.refl _ _,fun _ h=>h.elim⟩ hS.run hA (hv.mono (Keeps.refl _ _) (noR_le _))
 have hwp:=h.2 none [] (fun _=>X) (by rw [hout];simp) ⟨fun _=>hS,fun i x b hi=>by simp at hi⟩ none n (fun l hl=>by cases hl) A (yR none) [] #[] _ w hfr
 refine wpIn_mono hwp ?_
 rintro e' a' w' ⟨rfl,A0',r',ds',hfr'⟩
 have hleave:LeavesInM (WF none) n P fn a'.tmps (fun e w'=>∃ v,e=.returned v∧VR w' A noR x v∧Bel w.heap.size w w') a'.defers .returning w':=by
  refine leaves_marks ds' a' w' hfr' (fun a2 w2 ht h2=>?_)
  obtain ⟨u,hu,hru⟩:=resAV_rel h2 h2.inv.1 hr
  rw [ht] at hu
  exact ⟨u,hu,u,rfl,hru,h2.inv.2.1⟩
 rcases he with rfl | rfl
 ·exact hleave
 ·exact hleave
def freshAV (P:Program) (st:St) (fn:Func) (t:TypeId):Option AV:=match resL P st fn.results.toList with
 | some [.osl j v _]=>match locOf st j with
  | some (.list t' wd v' n g)=>match Nat.beq t' t&&Nat.beq v v' with
   | true=>some (.xsl wd n g 0 n none)
   | false=>none
  | _=>none
 | some [.nilsl]=>match zeroAV P t with
  | some zs=>match Nat.blt 0 zs.length with
   | true=>some (.xsl zs.length 0 ⟨zs.map tagOf,fun _ _=>.top⟩ 0 0 none)
   | false=>none
  | none=>none
 | _=>none
theorem FC.of_ld {args:List AV} {st':St} {e:Exit} {t:TypeId} {wd n row len:Nat} {g:Get AV} {cap:Option Nat} (hf:P.funcs[f]?=some fn) (hb:fn.body=some c) (h:Ld P c (entry fn args) e st') (he:e=.normal∨e=.ret) (hout:st'.out=[]) (hr:freshAV P st' fn t=some (.xsl wd n g row len cap)) (hfull:fullCK g.tag wd=true) :
  FC P f t args wd n g:=by
 intro ro m A w us hG hA hv
 apply callsIn_round
 refine callsIn_of_wp_marks hf hb trivial ?_
 let X:Fx:=fun A0 O w'=>(∀ b,A b→A0 b)∧Bel w.heap.size w w'∧∀ b,O b→w.heap.size≤b
 have hS:Stands P X:=⟨fun A0 O O' w1 w2 hX ht hO=>⟨hX.1,⟨⟨ht.os.trans hX.2.1.os,ht.tape.trans hX.2.1.tape,ht.output.trans hX.2.1.output,Nat.le_trans hX.2.1.size ht.size,fun k hk=>by
   rw [ht.block k (Nat.lt_of_lt_of_le hk hX.2.1.size) (fun ho=>by have:=hX.2.2 k ho;omega)];exact hX.2.1.block k hk⟩,(hX.2.1.drawn).trans (ht.drawn)⟩,
  fun b hb=>by
   rcases hO b hb with h1 | h1
   ·exact hX.2.2 b h1
   ·exact Nat.le_trans hX.2.1.size h1⟩,fun A0 O w1 hX=>hG.bel hX.2.1⟩
 have hfr:FR X none A (entry fn args).sav #[] (entry fn args).env (locOf (entry fn args)) (yR none) [] { tmps:=us ++ Array.replicate (fn.ntmps - us.size) undef,defers:=[] } w:=
  FR.entry ⟨fun _ h=>h,Bel.refl _ _,fun _ h=>h.elim⟩ hS.run hA (hv.mono (Keeps.refl _ _) (noR_le _))
 have hwp:=h.2 none [] (fun _=>X) (by rw [hout];simp) ⟨fun _=>hS,fun i x b hi=>by simp at hi⟩ none m (fun l hl=>by cases hl) A (yR none) [] #[] _ w hfr
 refine wpIn_mono hwp ?_
 rintro e' a' w' ⟨rfl,A0',r',ds',hfr'⟩
 have hleave:LeavesInM (WF none) m P fn a'.tmps (fun en w'=>∃ e c rows,en=.returned (.slice (slBase e) n c)∧(∀ b,e=b+1→w.heap.size≤b)∧(e=0→n=0∧c=0)∧(n≤c∧n≤maxL)∧0<wd ∧
   w'.ownsRow 0 t wd (.slice (slBase e) n c) n rows∧RowsR w' A g n wd rows∧Bel w.heap.size w w') a'.defers .returning w':=by
  refine leaves_marks ds' a' w' hfr' (fun a2 w2 ht h2=>?_)
  unfold freshAV at hr
  have hres:∀ x,resL P st' fn.results.toList=some [x]→∃ u,(results fn a2.tmps).run P w2=.ok u w2∧VR w2 (AR A0' r' []) r' x u:=fun x hl=>by
   obtain ⟨us,hus,hrs⟩:=resL_rel h2 hl
   have h1:us.length=1:=by have:=hrs.1;simpa using this.symm
   obtain ⟨u,rfl⟩:∃ u,us=[u]:=by
    match us,h1 with
    | [u],_=>exact ⟨u,rfl⟩
   refine ⟨u,?_,hrs.2 0 x u rfl rfl⟩
   simp only [results_eq,Sem.run_bind,hus,Result.andThen_ok,Sem.run_pure]
   rfl
  split at hr
  ·rename_i j v n0 hl
   split at hr
   ·rename_i t' wd' v' n' g' hloc
    split at hr
    ·rename_i hbq
     simp only [Bool.and_eq_true] at hbq
     have e1:=Nat.eq_of_beq_eq_true hbq.1;have e2:=Nat.eq_of_beq_eq_true hbq.2;subst e1;subst e2
     injection hr with hr;injection hr with q1 q2 q3 _ _ _;subst q1;subst q2;subst q3
     obtain ⟨u,hu,hru⟩:=hres _ hl
     rw [ht] at hu
     obtain ⟨e0,c0,xs,m1,m2,m3,m4,m5,m6,m7,m8⟩:=h2.mem _ _ hloc
     cases hru with
     | osl b1 b2 b3 b4 b5=>
      rw [m1] at b1;injection b1 with b1;subst b1
      rw [m2] at b2;injection b2 with b2;subst b2
      rw [m3] at b3;injection b3 with b3;subst b3
      exact ⟨_,hu,e0,c0,xs,rfl,fun b hb=>h2.inv.2.2 b (.inl (.inr ⟨_,_,by rw [m1,hb]⟩)),m4,m5,m6,m7,rows_any hfull m8,h2.inv.2.1⟩
    ·simp at hr
   ·simp at hr
  ·rename_i hl
   split at hr
   ·rename_i zs hz
    split at hr
    ·rename_i hpos
     rw [Nat.blt_eq] at hpos
     injection hr with hr;injection hr with q1 q2 q3 _ _ _;subst q1;subst q2;subst q3
     obtain ⟨u,hu,hru⟩:=hres _ hl
     rw [ht] at hu
     cases hru
     exact ⟨_,hu,0,0,[],rfl,fun b hb=>by omega,fun _=>⟨rfl,rfl⟩,⟨Nat.le_refl _,Nat.zero_le _⟩,hpos,⟨by simp,.inl ⟨rfl,rfl⟩⟩,fun i k hi=>by omega,h2.inv.2.1⟩
    ·simp at hr
   ·simp at hr
  ·simp at hr
 rcases he with rfl | rfl
 ·exact hleave
 ·exact hleave
def IC (P:Program) (g:FuncId) (us vs:List AV) (evs:List (List AV × Bool)):Prop:=
 ∀ (ro:Option Nat) (n l:Nat) (Y:Nat→Fx) (A0:Nat→Prop) (w:World) (args:Array Value),YH P (some l) evs Y→(∀ b,A0 b→b<w.heap.size)→Y 0 A0 (fun _=>False) w →
  VRs w A0 (yR (some l)) (us ++ [.yv] ++ vs) args →
  CallsIn (WF ro) n P g args w fun e w'=>(∃ v,e=.returned v)∧∃ A0',Y evs.length A0' (fun _=>False) w'∧∀ b,A0' b→b<w'.heap.size
theorem IC.of_ld {us vs:List AV} {st':St} {e:Exit} {evs:List (List AV × Bool)} {x:AV} (hf:P.funcs[f]?=some fn) (hb:fn.body=some c)
  (bs:Nat→Bool) (h:Ld P c { entry fn (us ++ [.yv] ++ vs) with bs:=bs } e st') (he:e=.normal∨e=.ret) (hout:st'.out.reverse=evs) (hr:resAV P st' fn=some x):IC P f us vs evs:=by
 intro ro n l Y A0 w args hY hA0 hw hv
 apply callsIn_round
 refine callsIn_of_wp_marks hf hb trivial ?_
 have hfr:=FR.entry (fn:=fn) hw (hY.1 0).run hA0 hv
 have hwp:=h.2 (some l) evs Y (by rw [hout];exact List.prefix_refl _) hY none n (fun l hl=>by cases hl) A0 (yR (some l)) [] #[] _ w hfr
 refine wpIn_mono hwp ?_
 rintro e' a' w' ⟨rfl,A0',r',ds',hfr'⟩
 have hlen:st'.out.length=evs.length:=by rw [← hout];simp
 have hleave:LeavesInM (WF none) n P fn a'.tmps (fun e w'=>(∃ v,e=.returned v)∧∃ A0',Y evs.length A0' (fun _=>False) w'∧∀ b,A0' b→b<w'.heap.size) a'.defers .returning w':=by
  refine leaves_marks ds' a' w' hfr' (fun a2 w2 ht h2=>?_)
  obtain ⟨u,hu,_⟩:=resAV_rel (A:=fun _=>False) h2 (fun _ h=>h.elim) hr
  rw [ht] at hu
  refine ⟨u,hu,⟨u,rfl⟩,A0',?_,h2.a0⟩
  rw [← hlen]
  exact h2.clo _ _ _ _ _ h2.inv ⟨rfl,rfl,rfl,Nat.le_refl _,fun _ _ _=>rfl,dle.refl _⟩ (fun _ h=>h.elim)
 rcases he with rfl | rfl
 ·exact hleave
 ·exact hleave
end
end Go.Proofs.YtkpligkggnjcoaaGreatDoor.Ev
/-! EvLI -/
namespace Go.Proofs.YtkpligkggnjcoaaGreatDoor.Ev
open Go.RowKit
theorem VRs.split {w:World} {A:Nat→Prop} {r:Rr} {xs ys:List AV} {us vs:Array Value} (h:VRs w A r (xs ++ ys) (us ++ vs)) (hl:xs.length=us.size):VRs w A r xs us∧VRs w A r ys vs:=by
 refine ⟨⟨hl,fun i x u hx hu=>?_⟩,by have:=h.1;simp at this;omega,fun i x u hx hu=>?_⟩
 ·have h1:=(List.getElem?_eq_some_iff.1 hx).1
  exact h.2 i x u (by rw [List.getElem?_append_left h1];exact hx) (by rw [Array.getElem?_append_left (by omega)];exact hu)
 ·exact h.2 (xs.length+i) x u (by rw [List.getElem?_append_right (by omega)];simpa using hx) (by rw [Array.getElem?_append_right (by omega)];simpa [hl] using hu)
def resIn (P:Program) (st:St) (fn:Func):Option AV:=match resL P st fn.results.toList with
 | some [v]=>some v
 | some vs=>some (.tup vs)
 | none=>none
section
variable {P:Program} {X:Fx} {A0:Nat→Prop} {st:St} {sv:Array Value} {yl:Option Nat} {r:Rr} {ds:List Nat} {a:Act} {w:World}
theorem resIn_rel (h:FR X yl A0 st.sav sv st.env (locOf st) r ds a w) {fn:Func} {v:AV} (hv:resIn P st fn=some v):∃ u,(results fn a.tmps).run P w=.ok u w∧VR w (AR A0 r ds) r v u:=by
 unfold resIn at hv
 split at hv
 ·rename_i x hl
  injection hv with hv;subst hv
  obtain ⟨us,hus,hrs⟩:=resL_rel h hl
  have h1:us.length=1:=by have:=hrs.1;simpa using this.symm
  obtain ⟨u,rfl⟩:∃ u,us=[u]:=by
   match us,h1 with
   | [u],_=>exact ⟨u,rfl⟩
  refine ⟨u,?_,hrs.2 0 x u rfl rfl⟩
  simp only [results_eq,Sem.run_bind,hus,Result.andThen_ok,Sem.run_pure]
  rfl
 ·rename_i vs hne hl
  injection hv with hv;subst hv
  obtain ⟨us,hus,hrs⟩:=resL_rel h hl
  have h1:us.length≠1:=fun e=>by
   have hlen:vs.length=1:=by have:=hrs.1;simp at this;omega
   match vs,hlen with
   | [x],_=>exact hne x rfl
  refine ⟨.tuple us.toArray,?_,.tup hrs.1 hrs.2⟩
  simp only [results_eq,Sem.run_bind,hus,Result.andThen_ok,Sem.run_pure]
  simp [h1]
 ·cases hv
end
def InX (Y:Fx) (ds:List Nat):Fx:=fun A2 O w=>∃ A1:Nat→Prop,(∀ b,A2 b ↔ A1 b∨b ∈ ds)∧Y A1 (fun b=>O b∨b ∈ ds) w∧∀ q,q ∈ ds→¬ A1 q∧¬ O q∧w.heap[q]?=some (.deferred (some []))
theorem InX.stands {P:Program} {Y:Fx} (hY:Stands P Y) (ds:List Nat):Stands P (InX Y ds):=by
 refine ⟨?_,fun A0 O w ⟨A1,_,hy,_⟩=>hY.good _ _ _ hy⟩
 rintro A2 O O' w w' ⟨A1,hA,hy,hq⟩ ht hO
 refine ⟨A1,hA,?_,fun q hq'=>⟨(hq q hq').1,fun h=>?_,?_⟩⟩
 ·refine hY.run _ _ _ _ _ hy ⟨ht.os,ht.tape,ht.output,ht.size,fun b hb hn=>ht.block b hb (fun h=>hn (.inl h)),ht.drawn⟩ (fun b hb=>?_)
  rcases hb with h | h
  ·exact (hO b h).imp .inl id
  ·exact .inl (.inr h)
 ·rcases hO q h with h | h
  ·exact (hq q hq').2.1 h
  ·have:=(Array.getElem?_eq_some_iff.1 (hq q hq').2.2).1;omega
 ·rw [ht.block q (Array.getElem?_eq_some_iff.1 (hq q hq').2.2).1 (hq q hq').2.1];exact (hq q hq').2.2
def inSt (fn:Func) (args:List AV) (st:St):St:={ env:=(entry fn args).env,loc:=st.loc,sav:=st.env ++ st.sav,bs:=st.bs,out:=[] }
def IL0 (P:Program) (g:FuncId) (args:List AV) (st:St) (v:AV) (st3:St):Prop:=
 ∃ (fn:Func) (cc:Code) (e1:Exit) (st2:St),P.funcs[g]?=some fn∧nameOk fn=true∧fn.body=some cc∧Ld P cc (inSt fn args st) e1 st2∧(e1=.normal∨e1=.ret)∧st2.out=[]∧resIn P st2 fn=some v ∧
  st2.sav=st3.env ++ st3.sav∧st3.env.length=st.env.length∧st3.loc=st2.loc∧st3.bs=st.bs∧st3.out=st.out
theorem inl_calls {P:Program} {g:FuncId} {args:List AV} {st st3:St} {v:AV} (h:IL0 P g args st v st3) {yl:Option Nat} {Y:Fx} (hY:Stands P Y) {A0:Nat→Prop} {r:Rr} {ds:List Nat} {sv:Array Value} {a:Act} {w:World} {us:Array Value} {ro:Option Nat} {n:Nat}
  (hfr:FR Y yl A0 st.sav sv st.env (locOf st) r ds a w) (hus:VRs w (AR A0 r ds) r args us) :
  CallsIn (WF ro) n P g us w fun e w'=>∃ u A1 r',e=.returned u∧FR Y yl A1 st3.sav sv st3.env (locOf st3) r' ds a w'∧VR w' (AR A1 r' ds) r' v u:=by
 obtain ⟨fn,cc,e1,st2,hfn,hok,hb,hl,he,hout,hr,hsav,hlen,hloc,_,_⟩:=h
 apply callsIn_round
 refine callsIn_of_wp_marks hfn hb trivial ?_
 have hAR:∀ b,AR (fun b=>A0 b∨b ∈ ds) r [] b ↔ AR A0 r ds b:=fun b=>by
  constructor
  ·rintro ((h | h) | h | h)
   ·exact .inl h
   ·exact .inr (.inr h)
   ·exact .inr (.inl h)
   ·simp at h
  ·rintro (h | h | h)
   ·exact .inl (.inl h)
   ·exact .inr (.inl h)
   ·exact .inl (.inr h)
 have hk:Keeps (AR A0 r ds) (AR (fun b=>A0 b∨b ∈ ds) r []) w w:=⟨Nat.le_refl _,fun _ _ _=>rfl,fun b h=>.inl ((hAR b).1 h)⟩
 have hfr1:FR (InX Y ds) yl (fun b=>A0 b∨b ∈ ds) (inSt fn args st).sav (a.tmps ++ sv) (inSt fn args st).env (locOf (inSt fn args st)) r [] { tmps:=us ++ Array.replicate (fn.ntmps - us.size) undef,defers:=[] } w:=by
  refine ⟨?_,(hfr.env.mono hk (fun _ _ h=>h)).append (hfr.sav.mono hk (fun _ _ h=>h)),fun j k hj=>(hfr.mem j k hj).keep hk (fun _ _ h=>h) (fun _ _=>rfl),hfr.dom,hfr.domL,hfr.inj,hfr.injL,hfr.sep,fun b hb=>?_,hfr.lt,fun b _=>by simp,fun b hb=>?_,
   ⟨A0,fun _=>Iff.rfl,?_,fun q hq=>⟨(hfr.dok q hq).2,fun h=>?_,(hfr.dok q hq).1⟩⟩,(InX.stands hY ds).run,rfl,List.nodup_nil,fun q hq=>by simp at hq,hfr.ylv⟩
  ·have:=(hus.mono hk (fun _ _ h=>h)).append (VRs.tops (fn.ntmps - us.size) undef)
   simpa [inSt,Ev.entry,hus.1] using this
  ·rintro (h | h)
   ·exact hfr.dis b hb h
   ·exact hfr.sepD b hb h
  ·rcases hb with h | h
   ·exact hfr.a0 b h
   ·exact hfr.arLt b (.inr (.inr h))
  ·exact hfr.clo _ _ _ _ _ hfr.inv ⟨rfl,rfl,rfl,Nat.le_refl _,fun _ _ _=>rfl,dle.refl _⟩ (fun b hb=>by
    rcases hb with (h | h) | h
    ·exact .inl (.inl h)
    ·simp at h
    ·exact .inl (.inr h))
  ·rcases h with h | h
   ·exact hfr.sepD q h hq
   ·simp at h
 have hwp:=hl.2 yl [] (fun _=>InX Y ds) (by rw [hout];simp) ⟨fun _=>InX.stands hY ds,fun i x b hi=>by simp at hi⟩ none n (fun l hl=>by cases hl) _ r [] _ _ w hfr1
 refine wpIn_mono hwp ?_
 rintro e' a' w' ⟨rfl,A0',r',ds',hfr'⟩
 have hleave:LeavesInM (WF none) n P fn a'.tmps (fun e w'=>∃ u A1 r',e=.returned u∧FR Y yl A1 st3.sav sv st3.env (locOf st3) r' ds a w'∧VR w' (AR A1 r' ds) r' v u) a'.defers .returning w':=by
  refine leaves_marks ds' a' w' hfr' (fun a2 w2 ht h2=>?_)
  obtain ⟨u,hu,hru⟩:=resIn_rel h2 hr
  rw [ht] at hu
  obtain ⟨A1,hA,hy,hq⟩:=h2.inv
  have hAR2:∀ b,AR A1 r' ds b ↔ AR A0' r' [] b:=fun b=>by
   constructor
   ·rintro (h | h | h)
    ·exact .inl ((hA b).2 (.inl h))
    ·exact .inr (.inl h)
    ·exact .inl ((hA b).2 (.inr h))
   ·rintro (h | h | h)
    ·rcases (hA b).1 h with h | h
     ·exact .inl h
     ·exact .inr (.inr h)
    ·exact .inr (.inl h)
    ·simp at h
  have hk2:Keeps (AR A0' r' []) (AR A1 r' ds) w2 w2:=⟨Nat.le_refl _,fun _ _ _=>rfl,fun b h=>.inl ((hAR2 b).1 h)⟩
  have hs:=h2.sav.mono hk2 (fun _ _ h=>h)
  rw [hsav] at hs
  obtain ⟨hs1,hs2⟩:=hs.split (by rw [hlen];exact hfr.env.1)
  have hloc':locOf st3=locOf st2:=by funext k;simp only [locOf,hloc]
  refine ⟨u,hu,u,A1,r',rfl,?_,hru.mono hk2 (fun _ _ h=>h)⟩
  rw [hloc']
  refine ⟨hs1,hs2,fun j k hj=>(h2.mem j k hj).keep hk2 (fun _ _ h=>h) (fun _ _=>rfl),h2.dom,h2.domL,h2.inj,h2.injL,h2.sep,fun b hb h=>h2.dis b hb ((hA b).2 (.inl h)),h2.lt,fun b hb h=>h2.dis b hb ((hA b).2 (.inr h)),fun b h=>h2.a0 b ((hA b).2 (.inl h)),?_,hY.run,hfr.dfr,hfr.dnd,fun q hq'=>⟨(hq q hq').2.2,(hq q hq').1⟩,h2.ylv⟩
  exact hY.run _ _ _ _ _ hy ⟨rfl,rfl,rfl,Nat.le_refl _,fun _ _ _=>rfl,dle.refl _⟩ (fun b hb=>by
   rcases hb with h | h
   ·exact .inl (.inl (.inl h))
   ·exact .inl (.inr h))
 rcases he with rfl | rfl
 ·exact hleave
 ·exact hleave
def IL (P:Program) (g:FuncId) (args:List AV) (st:St) (v:AV) (st3:St):Prop:=
 (∃ fn,P.funcs[g]?=some fn∧nameOk fn=true)∧st3.bs=st.bs∧st3.out=st.out ∧
  ∀ (yl:Option Nat) (Y:Fx),Stands P Y→∀ (A0:Nat→Prop) (r:Rr) (ds:List Nat) (sv:Array Value) (a:Act) (w:World) (us:Array Value) (ro:Option Nat) (n:Nat),
   FR Y yl A0 st.sav sv st.env (locOf st) r ds a w→VRs w (AR A0 r ds) r args us →
   CallsIn (WF ro) n P g us w fun e w'=>∃ u A1 r',e=.returned u∧FR Y yl A1 st3.sav sv st3.env (locOf st3) r' ds a w'∧VR w' (AR A1 r' ds) r' v u
theorem IL0.il {P:Program} {g:FuncId} {args:List AV} {st st3:St} {v:AV} (h:IL0 P g args st v st3):IL P g args st v st3:=by
 refine ⟨?_,?_,?_,fun yl Y hY A0 r ds sv a w us ro n hfr hus=>inl_calls h hY hfr hus⟩
 ·obtain ⟨fn,_,_,_,h1,h2,_⟩:=h;exact ⟨fn,h1,h2⟩
 ·obtain ⟨_,_,_,_,_,_,_,_,_,_,_,_,_,_,h,_⟩:=h;exact h
 ·obtain ⟨_,_,_,_,_,_,_,_,_,_,_,_,_,_,_,h⟩:=h;exact h
theorem LdO.inl {P:Program} {ops:Array Oper} {rest:List Oper} {o:Oper} {i:Nat} {st st' st3:St} (h0:ops[i]?=some o) {c:Call} {f:Operand} {g:FuncId} {xs ys vs:List AV} {v:AV} (hw:wantD ops st.env o=some true) (ho:o.op=.call c) (hc:c.callee=.value f)
  (hf:evO st.env f=some (.fn (.func g) xs ys)) (hvs:mapEv (evO st.env) c.args.toList=some vs) (hil:IL P g (xs ++ vs ++ ys) st v st3) (h:LdO P ops rest (i+1) { st3 with env:=putD st3.env o.dst v } st'):LdO P ops (o :: rest) i st st':=by
 have hout:st3.out=st.out:=hil.2.2.1
 refine ⟨?_,fun yl evs Y hev hY ro n hrc A0 r ds sv a w hfr=>?_⟩
 ·obtain ⟨l,hl⟩:=h.1
  exact ⟨l,by rw [hl];show l ++ st3.out=_;rw [hout]⟩
 simp only [List.length_cons,List.range'_succ,wpOpsIn,h0]
 rw [if_pos (wantD_true hfr hw)]
 have hargs:=mapEv_rel hfr.cx.val _ _ hvs
 have e1:(c.args.toList.map a.eval).toArray=c.args.map a.eval:=Array.ext' (by simp)
 rw [e1] at hargs
 have hfv:=hfr.eval f _ hf
 generalize hz:a.eval f=z at hfv
 cases hfv with
 | fn hx hy hr1 hr2=>
  rename_i us0 vs0
  refine ⟨fun _ _=>trivial,?_⟩
  rw [Oper.semAt_eq _ _ _ (fun d hd=>by rw [ho] at hd;cases hd)]
  obtain ⟨fn,hfn,hok⟩:=hil.1
  simp only [nameOk,Bool.and_eq_true,Bool.not_eq_true'] at hok
  obtain ⟨hb,hn⟩:=hok
  have hbn:fn.body.isNone=false:=by
   cases hbb:fn.body with
   | none=>simp [hbb] at hb
   | some b=>rfl
  have hrun:(execOp a.eval o).run P w=.ok (.enter g (us0 ++ c.args.map a.eval ++ vs0)) w:=by
   simp only [execOp,ho,resolve,hc,hz,Deferred.ofValue,Sem.run_bind,Sem.run_pure,Result.andThen_ok,invoke,callFunc,run_program,hfn,hn,Bool.false_eq_true,if_false,hbn]
  rw [hrun,Oper.uponIn_enter]
  refine ⟨fun h=>by simp [wf_depth] at h,?_⟩
  refine (hil.2.2.2 _ _ (hY.1 _) _ _ _ _ _ _ _ _ _ hfr (VRs.append (VRs.append ⟨hx,hr1⟩ hargs) ⟨hy,hr2⟩)).mono ?_
  rintro e' w' ⟨u,A1,r',rfl,hfr',hu⟩
  refine h.2 yl evs Y hev hY ro n hrc A1 r' ds sv _ w' ?_
  show FR (Y st3.out.length) yl A1 st3.sav sv (putD st3.env o.dst v) (locOf st3) r' ds _ w'
  rw [hout]
  exact hfr'.val (Bel.refl _ _) hu o.dst
end Go.Proofs.YtkpligkggnjcoaaGreatDoor.Ev
