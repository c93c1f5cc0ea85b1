/- Parts of the proof, joined: the symbolic walk and what it is told of each function. Condition: as each theorem says. -/
import Derived.Deep.LoopGhost
import Derived.Test.YtfccndnnpkiajaaDy1
set_option linter.unusedVariables false
set_option linter.unusedSimpArgs false
set_option linter.unusedSectionVars false
namespace Go.Proofs.Ytfccndnnpkiajaa
open Go.RowKit Go.ChangeShapes Go.WideShapes Go.Deep
inductive KI
 | code (c:Code)
 | blk (id:Nat)
 | mark (j:Nat)
structure Lg where
 ts:List Nat
 ms:List Nat
inductive Tr
 | ret (st:St)
 | nrm (st:St) (lg:Lg)
 | ext (id:Nat) (st:St)
 | need (ps:List Prop) (t:Tr)
 | br (b:Bool) (t1 t2:Tr)
 | brp (p q:Prop) (t1 t2:Tr)
 | lab (ls:List Nat) (t:Tr)
 | hav (r:RL) (t:RL→Tr)
 | back (j:Nat) (st:St)
 | loop (body:Code) (k:List KI) (st:St)
 | stuck (c:Nat) (o:Option Op) (st:St)
def Lg.add (lg:Lg) (us:List (Option Tmp×Upd)):Lg:=⟨us.filterMap (·.1)++lg.ts,us.flatMap (fun x=>x.2.mem.map (·.1))++lg.ms⟩
def line:Tr→Option (List Prop×St×Lg)
 | .nrm st lg=>some ([],st,lg)
 | .need ps t=>match line t with
  | some (qs,st,lg)=>some (ps++qs,st,lg)
  | none=>none
 | _=>none
def mrgE (b:Bool):BE→BE→BE
 | .cells T vs,.cells T' us=>if T=T' then (if vs.length=us.length then (if (mrgL b vs us).all SV.flat then .cells T (mrgL b vs us) else .dead) else .dead) else .dead
 | .row T ls r,.row T' ls' r'=>if T=T' then (match RL.ite b r r' with | some r2=> .row T (ls++ls') r2 | none=> .dead) else .dead
 | .obj o,.obj o'=>match OD.ite b o o' with | some o2=> .obj o2 | none=> .dead
 | _,_=> .dead
def clash:SV→SV→Bool
 | .own _,.nil | .nil,.own _ | .own _,.sl _ _ | .sl _ _,.own _=>true
 | .own t,.own u=>!(Nat.beq t u)
 | _,_=>false
def meet (b:Bool) (st:St) (x y:St×Lg):Option (St×Lg):=
 if (x.2.ms++y.2.ms).all (fun t=>!(st.m t).live||(mrgE b (x.1.m t) (y.1.m t)).live)&&!((x.2.ts++y.2.ts).any fun i=>clash (x.1.s i) (y.1.s i)) then
 some (⟨(x.2.ts++y.2.ts).map (fun i=>(i,mrgV b (x.1.s i) (y.1.s i)))++st.tm,st.nt,(x.2.ms++y.2.ms).map (fun t=>(t,mrgE b (x.1.m t) (y.1.m t)))++st.mm,max x.1.nx y.1.nx⟩,⟨x.2.ts++y.2.ts,x.2.ms++y.2.ms⟩)
 else none
def hvTr (ls:List Nat) (k:List (Nat×BE)→Tr):List (Nat×BE)→List (Nat×BE)→Tr
 | acc,[]=>k acc
 | acc,(t,.row T ms r)::rest=>match hitL ls ms with
  | true=> .hav r fun q=>hvTr ls k (acc++[(t,.row T ms q)]) rest
  | false=>hvTr ls k (acc++[(t,.row T ms r)]) rest
 | acc,(t,e)::rest=>hvTr ls k (acc++[(t,hvE ls e)]) rest
def cHv (P:Program) (st:St) (o:Oper):Option (List Prop×List Nat):=
 match o.guard,o.dst,o.op with
 | none,none,.store T x y=>match zag (st.ev x),zag (st.ev y),zbi P T with
  | (.el ls r i off,n1),(s,n2),some 1=>match (r.elem ls i)[off]?,s with
   | some (.int k _),.int k' _=>if k=k' then some (n1++n2,ls) else none
   | some (.str _),.str _=>some (n1++n2,ls)
   | _,_=>none
  | _,_,_=>none
 | _,_,_=>none
def zh1:List Oper→Option (List Oper×Oper)
 | []=>none
 | [o]=>some ([],o)
 | o::r=>match zh1 r with
  | some (l,q)=>some (o::l,q)
  | none=>none
theorem zeI:∀ {l l1:List Oper} {o:Oper},zh1 l=some (l1,o)→l=l1++[o]
 | [],_,_,h=>by simp [zh1] at h
 | [o],_,_,h=>by
  simp only [zh1,Option.some.injEq,Prod.mk.injEq] at h
  obtain ⟨rfl,rfl⟩:=h
  rfl
 | o::o2::r,l1,q,h=>by
  simp only [zh1] at h
  split at h
  case h_2=>simp at h
  rename_i l3 q3 e
  simp only [Option.some.injEq,Prod.mk.injEq] at h
  obtain ⟨rfl,rfl⟩:=h
  rw [zeI (l:=o2::r) e];rfl
mutual
def exec (P:Program) (C:Cfg) (more:Nat→St→TypeId→Op→Option Upd):Nat→Code→List KI→St→Lg→Tr
 | 0,_,_,st,_=> .stuck 0 none st
 | n+1,c,k,st,lg=>match c with
  | .skip=>contN P C more n k st lg
  | .seq a b=>exec P C more n a (.code b::k) st lg
  | .block id c=>exec P C more n c (.blk id::k) st lg
  | .exit id=>contE P C more n id k st lg
  | .ret=> .ret st
  | .cond x a b=>match zag (st.ev x) with
   | (.bool t,ps)=>match line (exec P C more n a [] st ⟨[],[]⟩),line (exec P C more n b [] st ⟨[],[]⟩) with
    | some (p1,s1,l1),some (p2,s2,l2)=>match meet t st (s1,l1) (s2,l2) with
     | some (st2,l3)=> .need (ps++p1.map (fun p=>t=true→p)++p2.map (fun p=>t=false→p)) (contN P C more n k st2 ⟨l3.ts++lg.ts,l3.ms++lg.ms⟩)
     | none=> .need ps (.br t (exec P C more n a k st lg) (exec P C more n b k st lg))
    | _,_=> .need ps (.br t (exec P C more n a k st lg) (exec P C more n b k st lg))
   | (.ub p q,ps)=> .need ps (.brp p q (exec P C more n a k st lg) (exec P C more n b k st lg))
   | _=> .stuck n none st
  | .region id ops draw=>match runU P C more ops st.nx ops.toList (st.grow (widS ops.toList)) with
   | .ok us rs st2=>
    if draw then (if fwd 0 ops.toList&&zcH us rs (ancs ops.toList []) 0 us rs then .need (us.flatMap (fun x=>x.2.needs)) (contN P C more n k st2 (lg.add us)) else .stuck n none st)
    else .need (us.flatMap (fun x=>x.2.needs)) (contN P C more n k st2 (lg.add us))
   | .bad c o s=>match draw,zh1 ops.toList with
    | false,some (l1,o1)=>match runU P C more ops st.nx l1 (st.grow (widS ops.toList)) with
     | .ok us rs st2=>match cHv P st2 o1 with
      | some (ns,ls)=> .need (us.flatMap (fun x=>x.2.needs)++ns) (.lab ls (hvTr ls (fun mm=>contN P C more n k ⟨hvTm ls st2.tm,st2.nt,mm,st2.nx⟩ lg) [] ((dedK [] (st2.mm.map (·.1))).map fun t=>(t,st2.m t))))
      | none=>match cWr C st2 o1 with
       | some (ns,ls,r)=> .need (us.flatMap (fun x=>x.2.needs)++ns) (.lab ls (contN P C more n k (wrSt ls o1.dst r st2) lg))
       | none=> .stuck c (some o) s
     | .bad _ _ _=> .stuck c (some o) s
    | _,_=> .stuck c (some o) s
  | .loop body=> .loop body k st
  | _=> .stuck n none st
def contN (P:Program) (C:Cfg) (more:Nat→St→TypeId→Op→Option Upd):Nat→List KI→St→Lg→Tr
 | 0,_,st,_=> .stuck 0 none st
 | n+1,k,st,lg=>match k with
  | []=> .nrm st lg
  | .code c::k=>exec P C more n c k st lg
  | .blk _::k=>contN P C more n k st lg
  | .mark j::_=> .back j st
def contE (P:Program) (C:Cfg) (more:Nat→St→TypeId→Op→Option Upd):Nat→Nat→List KI→St→Lg→Tr
 | 0,_,_,st,_=> .stuck 0 none st
 | n+1,id,k,st,lg=>match k with
  | []=> .ext id st
  | .code _::k=>contE P C more n id k st lg
  | .mark _::k=>contE P C more n id k st lg
  | .blk i::k=>if id=i then contN P C more n k st lg else contE P C more n id k st lg
end
def qOf (P:Program) (J:Nat→Act→World→Prop):List KI→(Exit→Act→World→Prop)→Exit→Act→World→Prop
 | [],Q=>Q
 | .code c::k,Q=>Exit.then (c.wp P (qOf P J k Q)) (qOf P J k Q)
 | .blk id::k,Q=>Exit.inBlock id (qOf P J k Q)
 | .mark j::k,Q=>Exit.then (J j) (qOf P J k Q)
section
variable (P : Program) (base : Nat) (X : Cx) (w0 : World) (J : Nat → Act → World → Prop) (Q : Exit → Act → World → Prop)
def den:Tr→Prop
 | .ret st=>∀ E a w,st.Ok base X w0 E a w→Q .ret a w
 | .nrm st _=>∀ E a w,st.Ok base X w0 E a w→Q .normal a w
 | .ext id st=>∀ E a w,st.Ok base X w0 E a w→Q (.exit id) a w
 | .need ps t=>(∀ p∈ps,p)∧den t
 | .br b t1 t2=>(b=true→den t1)∧(b=false→den t2)
 | .brp p q t1 t2=>(p→den t1)∧(q→den t2)
 | .lab ls t=>(∀ i,i∈ls→X.nl≤i)∧den t
 | .hav r t=>RL.All r fun q=>den (t q)
 | .back j st=>∀ E a w,st.Ok base X w0 E a w→J j a w
 | .loop body k st=>∀ E a w,st.Ok base X w0 E a w→(Code.loop body).wp P (qOf P J k Q) a w
 | .stuck _ _ _=>False
end
structure Fr (s0:St) (lg:Lg) (s:St):Prop where
 tml:s.nt=s0.nt
 tm:∀ i,i∉lg.ts→s.s i=s0.s i
 m:∀ t,t∉lg.ms→s.m t=s0.m t
def frT (s0:St):Tr→Prop
 | .nrm st lg=>Fr s0 lg st
 | .need _ t=>frT s0 t
 | .br _ a b=>frT s0 a∧frT s0 b
 | .brp _ _ a b=>frT s0 a∧frT s0 b
 | _=>True
theorem zfZ {s0:St}:∀ {t:Tr} {ps:List Prop} {st:St} {lg:Lg},frT s0 t→line t=some (ps,st,lg)→Fr s0 lg st
 | .nrm st lg,ps,st2,lg2,h,e=>by
  simp only [line,Option.some.injEq,Prod.mk.injEq] at e
  obtain ⟨_,rfl,rfl⟩:=e;exact h
 | .need qs t,ps,st2,lg2,h,e=>by
  simp only [line] at e
  split at e
  case h_2=>simp at e
  rename_i e2
  simp only [Option.some.injEq,Prod.mk.injEq] at e
  obtain ⟨_,rfl,rfl⟩:=e
  exact zfZ (t:=t) h e2
 | .ret _,_,_,_,_,e=>by simp [line] at e
 | .ext _ _,_,_,_,_,e=>by simp [line] at e
 | .br _ _ _,_,_,_,_,e=>by simp [line] at e
 | .brp _ _ _ _,_,_,_,_,e=>by simp [line] at e
 | .lab _ _,_,_,_,_,e=>by simp [line] at e
 | .hav _ _,_,_,_,_,e=>by simp [line] at e
 | .loop _ _ _,_,_,_,_,e=>by simp [line] at e
 | .back _ _,_,_,_,_,e=>by simp [line] at e
 | .stuck _ _ _,_,_,_,_,e=>by simp [line] at e
theorem zii {P:Program} {C:Cfg} {more:Nat→St→TypeId→Op→Option Upd} {ops:Array Oper} {c n:Nat} {l:List Oper} {st st2 s0:St} {us:List (Option Tmp×Upd)} {rs:List (List Key)} {lg:Lg} (h:runU P C more ops c l (st.grow n) = .ok us rs st2) (hf:Fr s0 lg st):Fr s0 (lg.add us) st2:=by
 obtain ⟨_,_,rfl,_⟩:=zfV _ _ _ _ _ _ h
 have hl:=zcR (fun _=>true) 0 us (st.grow n)
 have key:∀ k,(∀ j,¬ Wr us j k)→(apl (fun _=>true) 0 us (st.grow n)).get k=(st.grow n).get k:=by
  intro k hk
  rw [zeb (D':=fun _=>false) 0 us (st.grow n) (st.grow n) ⟨rfl,rfl⟩ rfl (fun j hj=>absurd hj (hk j)),zd8 0 us _ _ (fun _ _=>rfl)]
 refine ⟨hl.tm.trans hf.tml,fun i hi=>?_,fun t hnt=>?_⟩
 ·simp only [Lg.add,List.mem_append,not_or] at hi
  have:=key (.t i) (fun j ⟨d,u,h1,h2⟩=>hi.1 (by
   simp only [wrs,List.mem_append] at h2
   rcases h2 with h2 | h2
   ·cases d with
    | none=>simp at h2
    | some d=>simp at h2;subst h2;exact List.mem_filterMap.2 ⟨_,List.mem_of_getElem? h1,rfl⟩
   ·simp at h2))
  simp only [St.get,KV.v.injEq] at this
  rw [this];exact hf.tm i hi.2
 ·simp only [Lg.add,List.mem_append,not_or] at hnt
  have:=key (.m t) (fun j ⟨d,u,h1,h2⟩=>hnt.1 (by
   simp only [wrs,List.mem_append] at h2
   rcases h2 with h2 | h2
   ·cases d<;>simp at h2
   ·obtain ⟨p,hp,e⟩:=List.mem_map.1 h2
    simp only [Key.m.injEq] at e
    exact List.mem_flatMap.2 ⟨_,List.mem_of_getElem? h1,List.mem_map.2 ⟨p,hp,e⟩⟩))
  simp only [St.get,KV.e.injEq] at this
  rw [this];exact hf.m t hnt.2
theorem zbH {α:Type} (d:α) (f:Nat→α) (rest:List (Nat×α)):∀ (l:List Nat) (i:Nat),zam d (l.map (fun i=>(i,f i))++rest) i=if i∈l then f i else zam d rest i
 | [],i=>by simp
 | j::r,i=>by
  show zam d ((j,f j)::(r.map (fun i=>(i,f i))++rest)) i=_
  rw [zaz,zbH d f rest r i]
  by_cases h:i=j
  ·subst h;simp
  ·simp [h]
section
variable {base : Nat} {X : Cx} {w0 : World}
theorem MemOk.weak {E:Env} {w:World} {m m':Nat→BE} (h:MemOk base X w0 E m w) (hm:∀ t,m' t=m t∨m' t = .dead∨((m t).live=true∧(m' t).live=true∧(m' t).isO=(m t).isO∧∀ v,Holds E w t v (m t)→Holds E w t v (m' t))):MemOk base X w0 E m' w:=by
 have hh:∀ u b,Has E m' u b→Has E m u b:=by
  intro u b ⟨hl,v,hv,hb⟩
  rcases hm u with e | e | ⟨e,_,e2,_⟩
  ·rw [e] at hl hb;exact ⟨hl,v,hv,hb⟩
  ·rw [e] at hl;cases hl
  ·exact ⟨e,v,hv,Fo.iff e2 hb⟩
 refine h.go (Env.Le.refl E) Same.rfl' (fun u=>m' u≠m u) (fun u hu=>⟨Classical.byContradiction hu,rfl,rfl⟩) (fun u hu hm=>(h.empty u hm).2) (fun _ _ _ _=>rfl)
  (fun u hu=>?_) h.lab h.dis (fun u b hb=>h.sep u b (hh u b hb)) h.old (fun u v b h1 h2=>h.inj u v b (hh u b h1) (hh v b h2)) (BelowX.refl _ _ _)
 rcases hm u with e | e | ⟨e1,e2,_,e3⟩
 ·exact absurd e hu
 ·exact ⟨by rw [e];simp,fun hl=>by rw [e] at hl;cases hl⟩
 ·refine ⟨fun e=>(by rw [e] at e2;cases e2),fun _=>?_⟩
  obtain ⟨v,hv,hh⟩:=h.holds e1
  exact ⟨v,hv,e3 v hh⟩
theorem znV {E:Env} {w:World} {t:Nat} (x y:BE):mrgE true x y = .dead∨(x.live=true∧(mrgE true x y).live=true∧(mrgE true x y).isO=x.isO∧∀ v,Holds E w t v x→Holds E w t v (mrgE true x y)):=by
 unfold mrgE
 split
 ·split
  ·split
   ·split
    ·rename_i hl hf
     refine .inr ⟨rfl,rfl,rfl,fun v h=>?_⟩
     obtain ⟨b,xs,h1,h2,h3,h4⟩:=h
     exact ⟨b,xs,h1,h2,mrgL_t _ _ xs hl h3,hf⟩
    ·exact .inl rfl
   ·exact .inl rfl
  ·exact .inl rfl
 ·split
  ·split
   ·rename_i r2 e
    have e:=RL.ite_t e
    subst e
    exact .inr ⟨rfl,rfl,rfl,fun v h=>OwnR.mono h (Nat.le_refl _) (fun b=>Env.set_mono (fun i hi=>List.mem_append_left _ hi) b)⟩
   ·exact .inl rfl
  ·exact .inl rfl
 ·split
  ·rename_i e
   have e:=OD.ite_t e
   subst e
   exact .inr ⟨rfl,rfl,rfl,fun v h=>h⟩
  ·exact .inl rfl
 ·exact .inl rfl
theorem znW {E:Env} {w:World} {t:Nat} (x y:BE):mrgE false x y = .dead∨(y.live=true∧(mrgE false x y).live=true∧(mrgE false x y).isO=y.isO∧∀ v,Holds E w t v y→Holds E w t v (mrgE false x y)):=by
 unfold mrgE
 split
 ·split
  ·split
   ·split
    ·rename_i hT hl hf
     subst hT
     refine .inr ⟨rfl,rfl,rfl,fun v h=>?_⟩
     obtain ⟨b,xs,h1,h2,h3,h4⟩:=h
     exact ⟨b,xs,h1,h2,mrgL_f _ _ xs hl h3,hf⟩
    ·exact .inl rfl
   ·exact .inl rfl
  ·exact .inl rfl
 ·split
  ·split
   ·rename_i hT _ r2 e
    subst hT
    have e:=RL.ite_f e
    subst e
    exact .inr ⟨rfl,rfl,rfl,fun v h=>OwnR.mono h (Nat.le_refl _) (fun b=>Env.set_mono (fun i hi=>List.mem_append_right _ hi) b)⟩
   ·exact .inl rfl
  ·exact .inl rfl
 ·split
  ·rename_i e
   have e:=OD.ite_f e
   subst e
   exact .inr ⟨rfl,rfl,rfl,fun v h=>h⟩
  ·exact .inl rfl
 ·exact .inl rfl
theorem ziB {b:Bool} {st:St} {x y:St×Lg} {st2:St} {lg:Lg} (h:meet b st x y=some (st2,lg)) (hx:Fr st x.2 x.1) (hy:Fr st y.2 y.1) {E:Env} {a:Act} {w:World} (ho:if b then x.1.Ok base X w0 E a w else y.1.Ok base X w0 E a w):st2.Ok base X w0 E a w:=by
 unfold meet at h
 split at h
 case isFalse=>simp at h
 simp only [Option.some.injEq,Prod.mk.injEq] at h
 obtain ⟨rfl,rfl⟩:=h
 cases b
 ·have ho:y.1.Ok base X w0 E a w:=ho
  refine ⟨ho.defers,ho.size.trans hy.tml,fun i=>?_,ho.mem.weak fun t=>?_⟩
  ·show DenV E w (zam .any (List.map (fun i=>(i,mrgV false (x.1.s i) (y.1.s i))) (x.2.ts++y.2.ts)++st.tm) i) _
   rw [zbH]
   split
   ·exact zi8 _ _ _ (ho.tm i)
   ·rename_i hn
    have:=hy.tm i (fun h=>hn (List.mem_append_right _ h))
    show DenV E w (st.s i) _
    rw [← this];exact ho.tm i
  ·show zam .empty (List.map (fun t=>(t,mrgE false (x.1.m t) (y.1.m t))) (x.2.ms++y.2.ms)++st.mm) t=_∨zam .empty (List.map (fun t=>(t,mrgE false (x.1.m t) (y.1.m t))) (x.2.ms++y.2.ms)++st.mm) t=_∨_
   show _∨_∨(_∧(zam .empty (List.map (fun t=>(t,mrgE false (x.1.m t) (y.1.m t))) (x.2.ms++y.2.ms)++st.mm) t).live=true∧(zam .empty (List.map (fun t=>(t,mrgE false (x.1.m t) (y.1.m t))) (x.2.ms++y.2.ms)++st.mm) t).isO=_∧∀ v,_→Holds E w t v (zam .empty (List.map (fun t=>(t,mrgE false (x.1.m t) (y.1.m t))) (x.2.ms++y.2.ms)++st.mm) t))
   rw [zbH]
   split
   ·exact .inr (znW (x.1.m t) (y.1.m t))
   ·rename_i hn
    exact .inl (hy.m t (fun h=>hn (List.mem_append_right _ h))).symm
 ·have ho:x.1.Ok base X w0 E a w:=ho
  refine ⟨ho.defers,ho.size.trans hx.tml,fun i=>?_,ho.mem.weak fun t=>?_⟩
  ·show DenV E w (zam .any (List.map (fun i=>(i,mrgV true (x.1.s i) (y.1.s i))) (x.2.ts++y.2.ts)++st.tm) i) _
   rw [zbH]
   split
   ·exact zi7 _ _ _ (ho.tm i)
   ·rename_i hn
    have:=hx.tm i (fun h=>hn (List.mem_append_left _ h))
    show DenV E w (st.s i) _
    rw [← this];exact ho.tm i
  ·show zam .empty (List.map (fun t=>(t,mrgE true (x.1.m t) (y.1.m t))) (x.2.ms++y.2.ms)++st.mm) t=_∨zam .empty (List.map (fun t=>(t,mrgE true (x.1.m t) (y.1.m t))) (x.2.ms++y.2.ms)++st.mm) t=_∨_
   show _∨_∨(_∧(zam .empty (List.map (fun t=>(t,mrgE true (x.1.m t) (y.1.m t))) (x.2.ms++y.2.ms)++st.mm) t).live=true∧(zam .empty (List.map (fun t=>(t,mrgE true (x.1.m t) (y.1.m t))) (x.2.ms++y.2.ms)++st.mm) t).isO=_∧∀ v,_→Holds E w t v (zam .empty (List.map (fun t=>(t,mrgE true (x.1.m t) (y.1.m t))) (x.2.ms++y.2.ms)++st.mm) t))
   rw [zbH]
   split
   ·exact .inr (znV (x.1.m t) (y.1.m t))
   ·rename_i hn
    exact .inl (hx.m t (fun h=>hn (List.mem_append_left _ h))).symm
theorem zmE {b:Bool} {st s0:St} {x y:St×Lg} {st2:St} {l3 lg:Lg} (h:meet b st x y=some (st2,l3)) (hf:Fr s0 lg st):Fr s0 ⟨l3.ts++lg.ts,l3.ms++lg.ms⟩ st2:=by
 unfold meet at h
 split at h
 case isFalse=>simp at h
 simp only [Option.some.injEq,Prod.mk.injEq] at h
 obtain ⟨rfl,rfl⟩:=h
 refine ⟨hf.tml,fun i hi=>?_,fun t hnt=>?_⟩
 ·simp only [List.mem_append,not_or] at hi
  show zam .any (List.map (fun i=>(i,mrgV b (x.1.s i) (y.1.s i))) (x.2.ts++y.2.ts)++st.tm) i=_
  rw [zbH,if_neg (fun h=>(List.mem_append.1 h).elim hi.1.1 hi.1.2)]
  exact hf.tm i hi.2
 ·simp only [List.mem_append,not_or] at hnt
  show zam .empty (List.map (fun t=>(t,mrgE b (x.1.m t) (y.1.m t))) (x.2.ms++y.2.ms)++st.mm) t=_
  rw [zbH,if_neg (fun h=>(List.mem_append.1 h).elim hnt.1.1 hnt.1.2)]
  exact hf.m t hnt.2
end
theorem Fr.refl (st:St):Fr st ⟨[],[]⟩ st:=⟨rfl,fun _ _=>rfl,fun _ _=>rfl⟩
theorem zjb (P:Program) (C:Cfg) (more:Nat→St→TypeId→Op→Option Upd):∀ (n:Nat),(∀ c k st lg s0,Fr s0 lg st→frT s0 (exec P C more n c k st lg))∧(∀ k st lg s0,Fr s0 lg st→frT s0 (contN P C more n k st lg))∧(∀ id k st lg s0,Fr s0 lg st→frT s0 (contE P C more n id k st lg)):=by
 intro n
 induction n with
 | zero=>
  refine ⟨fun c k st lg s0 h=>?_,fun k st lg s0 h=>?_,fun id k st lg s0 h=>?_⟩
  ·unfold exec;trivial
  ·unfold contN;trivial
  ·unfold contE;trivial
 | succ n ih=>
  obtain ⟨ih1,ih2,ih3⟩:=ih
  refine ⟨fun c k st lg s0 h=>?_,fun k st lg s0 h=>?_,fun id k st lg s0 h=>?_⟩
  ·unfold exec
   cases c with
   | skip=>exact ih2 _ _ _ _ h
   | seq a b=>exact ih1 _ _ _ _ _ h
   | block id c=>exact ih1 _ _ _ _ _ h
   | exit id=>exact ih3 _ _ _ _ _ h
   | ret=>trivial
   | loop b=>trivial
   | cond x a b=>
    simp only []
    split
    ·split
     ·split
      ·rename_i hm
       exact ih2 _ _ _ _ (zmE hm h)
      ·exact ⟨ih1 _ _ _ _ _ h,ih1 _ _ _ _ _ h⟩
     ·exact ⟨ih1 _ _ _ _ _ h,ih1 _ _ _ _ _ h⟩
    ·exact ⟨ih1 _ _ _ _ _ h,ih1 _ _ _ _ _ h⟩
    ·trivial
   | region id ops draw=>
    simp only []
    split
    ·rename_i hr
     split
     ·split
      ·exact ih2 _ _ _ _ (zii hr h)
      ·trivial
     ·exact ih2 _ _ _ _ (zii hr h)
    ·split
     ·split
      ·split
       ·trivial
       ·split<;>trivial
      ·trivial
     ·trivial
   | _=>trivial
  ·unfold contN
   cases k with
   | nil=>exact h
   | cons x k=>
    cases x with
    | code c=>exact ih1 _ _ _ _ _ h
    | blk i=>exact ih2 _ _ _ _ h
    | mark j=>trivial
  ·unfold contE
   cases k with
   | nil=>trivial
   | cons x k=>
    cases x with
    | code c=>exact ih3 _ _ _ _ _ h
    | mark j=>exact ih3 _ _ _ _ _ h
    | blk i=>
     simp only []
     split
     ·exact ih2 _ _ _ _ h
     ·exact ih3 _ _ _ _ _ h
theorem zd0 {P:Program} {C:Cfg} {more:Nat→St→TypeId→Op→Option Upd} {ops:Array Oper}:∀ (l:List Oper) (c:Nat) (st st2:St) (us:List (Option Tmp×Upd)) (rs:List (List Key)),runU P C more ops c l st = .ok us rs st2→zc7 P C more ops c l st = .ok st2 (us.flatMap (fun x=>x.2.needs))
 | [],c,st,st2,us,rs,h=>by
  simp only [runU,RU.ok.injEq] at h
  obtain ⟨rfl,rfl,rfl⟩:=h
  rfl
 | o::l,c,st,st2,us,rs,h=>by
  simp only [runU] at h
  split at h
  case h_2=>simp at h
  rename_i u hu
  split at h
  case h_2=>simp at h
  rename_i h2
  simp only [RU.ok.injEq] at h
  obtain ⟨rfl,rfl,rfl⟩:=h
  simp only [zc7,hu,zd0 l _ _ _ _ _ h2,List.flatMap_cons]
theorem zeT {P:Program} {base:Nat} {X:Cx} {w0:World} {J:Nat→Act→World→Prop} {Q:Exit→Act→World→Prop}:∀ {t:Tr} {ps:List Prop} {st:St} {lg:Lg},line t=some (ps,st,lg)→(∀ p∈ps,p)→(∀ E a w,st.Ok base X w0 E a w→Q .normal a w)→den P base X w0 J Q t
 | .nrm st lg,ps,st2,lg2,e,hp,hq=>by
  simp only [line,Option.some.injEq,Prod.mk.injEq] at e
  obtain ⟨_,rfl,rfl⟩:=e;exact hq
 | .need qs t,ps,st2,lg2,e,hp,hq=>by
  simp only [line] at e
  split at e
  case h_2=>simp at e
  rename_i e2
  simp only [Option.some.injEq,Prod.mk.injEq] at e
  obtain ⟨rfl,rfl,rfl⟩:=e
  exact ⟨fun p h=>hp p (List.mem_append_left _ h),zeT (t:=t) e2 (fun p h=>hp p (List.mem_append_right _ h)) hq⟩
 | .ret _,_,_,_,e,_,_=>by simp [line] at e
 | .ext _ _,_,_,_,e,_,_=>by simp [line] at e
 | .br _ _ _,_,_,_,e,_,_=>by simp [line] at e
 | .brp _ _ _ _,_,_,_,e,_,_=>by simp [line] at e
 | .lab _ _,_,_,_,e,_,_=>by simp [line] at e
 | .hav _ _,_,_,_,e,_,_=>by simp [line] at e
 | .loop _ _ _,_,_,_,e,_,_=>by simp [line] at e
 | .back _ _,_,_,_,e,_,_=>by simp [line] at e
 | .stuck _ _ _,_,_,_,e,_,_=>by simp [line] at e
section
variable {P : Program} {base : Nat} {X : Cx} {w0 : World}
theorem zcX {C:Cfg} (hC:zdv P C) {more:Nat→St→TypeId→Op→Option Upd} (hM:zct P more) {ops:Array Oper} {Q:Exit→Act→World→Prop} {rest:List Oper}:∀ (l:List Oper) (c:Nat) (st st2:St) (n:List Prop),zc7 P C more ops c l st = .ok st2 n→(∀ p∈n,p) →
  (∀ E' a' w',st2.Ok base X w0 E' a' w'→wpList P ops Q rest a' w')→∀ (E:Env) (a:Act) (w:World),st.Ok base X w0 E a w→wpList P ops Q (l++rest) a w
 | [],c,st,st2,n,hr,hn,hQ,E,a,w,h=>by
  simp only [zc7,RO.ok.injEq] at hr
  obtain ⟨rfl,rfl⟩:=hr
  exact hQ E a w h
 | o::l,c,st,st2,n,hr,hn,hQ,E,a,w,h=>by
  simp only [zc7] at hr
  split at hr
  case h_2=>simp at hr
  rename_i u hu
  split at hr
  case h_2=>simp at hr
  rename_i st3 n3 h3
  simp only [RO.ok.injEq] at hr
  obtain ⟨rfl,rfl⟩:=hr
  refine wpList_step fun K hK=>?_
  exact zdD hC hM hu h (fun p hp=>hn p (List.mem_append_left _ hp)) (fun E' a' w' h'=>hK a' w' (zcX hC hM l (c+wid o.op) _ _ _ h3 (fun p hp=>hn p (List.mem_append_right _ hp)) hQ E' a' w' h'))
theorem zf4 {J:Nat→Act→World→Prop} {Q:Exit→Act→World→Prop} {ls:List Nat} {k:List (Nat×BE)→Tr} {G:Nat→RL→Prop} (f:Nat→BE):∀ (ts:List Nat) (acc:List (Nat×BE)),ts.Nodup→den P base X w0 J Q (hvTr ls k acc (ts.map fun t=>(t,f t))) →
  (∀ t T ms r,t∈ts→f t = .row T ms r→hitL ls ms=true→∃ q,RL.Like r q∧G t q) →
  ∃ g:Nat→BE,den P base X w0 J Q (k (acc++ts.map fun t=>(t,g t)))∧∀ t,t∈ts→(∃ T ms r q,f t = .row T ms r∧hitL ls ms=true∧g t = .row T ms q∧G t q)∨((∀ T ms r,f t = .row T ms r→hitL ls ms=false)∧g t=hvE ls (f t))
 | [],acc,_,h,_=>⟨f,by simpa [hvTr] using h,fun t ht=>by cases ht⟩
 | t::ts,acc,hnd,h,hG=>by
  have hts:t∉ts:=(List.nodup_cons.1 hnd).1
  have tl:∀ (e:BE),den P base X w0 J Q (hvTr ls k (acc++[(t,e)]) (ts.map fun t=>(t,f t)))→((∃ T ms r q,f t = .row T ms r∧hitL ls ms=true∧e = .row T ms q∧G t q)∨((∀ T ms r,f t = .row T ms r→hitL ls ms=false)∧e=hvE ls (f t))) →
    ∃ g:Nat→BE,den P base X w0 J Q (k (acc++(t::ts).map fun t=>(t,g t)))∧∀ s,s∈t::ts→(∃ T ms r q,f s = .row T ms r∧hitL ls ms=true∧g s = .row T ms q∧G s q)∨((∀ T ms r,f s = .row T ms r→hitL ls ms=false)∧g s=hvE ls (f s)):=by
   intro e hd he
   obtain ⟨g,g1,g2⟩:=zf4 f ts (acc++[(t,e)]) (List.nodup_cons.1 hnd).2 hd (fun s T ms r hs=>hG s T ms r (List.mem_cons_of_mem _ hs))
   refine ⟨fun s=>if s=t then e else g s,?_,fun s hs=>?_⟩
   ·have e1:(t::ts).map (fun s=>(s,if s=t then e else g s))=(t,e)::ts.map fun s=>(s,g s):=by
     simp only [List.map_cons,if_true]
     congr 1
     apply List.map_congr_left
     intro s hs
     rw [if_neg (fun (e2:s=t)=>hts (e2▸hs))]
    rw [e1]
    simpa using g1
   ·by_cases hst:s=t
    ·subst hst;simp only [if_true];exact he
    ·simp only [if_neg hst]
     exact g2 s ((List.mem_cons.1 hs).resolve_left hst)
  simp only [List.map_cons] at h
  cases hft:f t with
  | row T ms r=>
   rw [hft] at h
   simp only [hvTr] at h
   cases hh:hitL ls ms
   ·rw [hh] at h
    exact tl _ h (.inr ⟨fun T' ms' r' e=>by rw [hft] at e;cases e;exact hh,by rw [hft];rfl⟩)
   ·rw [hh] at h
    obtain ⟨q,q1,q2⟩:=hG t T ms r (List.mem_cons_self ..) hft hh
    exact tl _ (RL.all_of h q1) (.inl ⟨T,ms,r,q,hft,hh,rfl,q2⟩)
  | empty=>rw [hft] at h;simp only [hvTr] at h;exact tl _ h (.inr ⟨fun _ _ _ e=>(by rw [hft] at e;cases e),by rw [hft]⟩)
  | dead=>rw [hft] at h;simp only [hvTr] at h;exact tl _ h (.inr ⟨fun _ _ _ e=>(by rw [hft] at e;cases e),by rw [hft]⟩)
  | cells T vs=>rw [hft] at h;simp only [hvTr] at h;exact tl _ h (.inr ⟨fun _ _ _ e=>(by rw [hft] at e;cases e),by rw [hft]⟩)
  | obj o=>rw [hft] at h;simp only [hvTr] at h;exact tl _ h (.inr ⟨fun _ _ _ e=>(by rw [hft] at e;cases e),by rw [hft]⟩)
theorem zdf:∀ (l seen:List Nat),(dedK seen l).Nodup
 | [],seen=>List.nodup_nil
 | b::r,seen=>by
  simp only [dedK]
  cases hb:seen.contains b
  ·simp only [cond_false]
   refine List.nodup_cons.2 ⟨fun h=>?_,zdf r _⟩
   exact ((zd3 r (b::seen) b).1 h).2 (List.mem_cons_self ..)
  ·simp only [cond_true];exact zdf r _
theorem zfx {α:Type} {d:α}:∀ {l:List (Nat×α)} {t:Nat},t∉l.map (·.1)→zam d l t=d
 | [],t,_=>rfl
 | (k,v)::r,t,h=>by
  simp only [List.map_cons,List.mem_cons,not_or] at h
  rw [zaz,if_neg h.1]
  exact zfx h.2
theorem zoh {st:St} {E:Env} {a:Act} {w:World} (ho:st.Ok base X w0 E a w) {ls:List Nat} {p:Addr} {v0 u:Value} {t0:Ty} {d0 d1:D} {S0:Nat→Prop} (hf:t0.flat=true) (h0:Rd w S0 t0 v0 d0) (h1:Rd w S0 t0 u d1) (hc:w.cell? p=some v0)
  (hp:E.set ls p.block) (hnl:∀ i,i∈ls→X.nl≤i) {J:Nat→Act→World→Prop} {Q:Exit→Act→World→Prop} {k:List (Nat×BE)→Tr} (hd:den P base X w0 J Q (hvTr ls k [] ((dedK [] (st.mm.map (·.1))).map fun t=>(t,st.m t)))) :
  ∃ mm,den P base X w0 J Q (k mm)∧(⟨hvTm ls st.tm,st.nt,mm,st.nx⟩:St).Ok base X w0 E a (w.setCell p u):=by
 obtain ⟨g,g1,g2⟩:=zf4 (G:=fun t q=>∀ v,E.β t=some v→∀ T ms r,st.m t = .row T ms r→OwnR 0 (w.setCell p u) T (E.set ms) q.tys v q.rows) st.m _ _ (zdf _ _) hd (fun t T ms r ht hm hh=>by
  obtain ⟨v,k1,k2⟩:=ho.mem.row t _ _ _ hm
  obtain ⟨aa,c,ef⟩:=k2.form
  have hHas:∀ b,v.ownBlock=some b→Has E st.m t b:=fun b hb=>Has.row hm k1 (by rw [← zaq ⟨aa,_,c,ef⟩];exact hb)
  obtain ⟨q,q1,q2,q3⟩:=k2.poke hf h0 h1 hc (fun e=>(ho.mem.sep t _ (hHas _ e)).1 (Env.set_lab hp))
  obtain ⟨q',r1,r2,r3,r4⟩:=RL.like_of q2 q3
  refine ⟨q',r4,fun v' hv' T' ms' r' hm'=>?_⟩
  rw [k1] at hv'
  cases hv'
  rw [hm] at hm'
  cases hm'
  rw [r1,r2];exact q1)
 rw [List.nil_append] at g1
 refine ⟨_,g1,ho.defers,ho.size,fun i=>?_,?_⟩
 ·show DenV E _ (zam .any (hvTm ls st.tm) i) _
  rw [zdS]
  have hi:=ho.tm i
  show DenV E _ (hvS ls (st.s i)) _
  unfold hvS
  cases hcl:SV.cl ls (st.s i)
  ·trivial
  ·have hS:Same (E.cut ls).lab w (w.setCell p u):=⟨by simp [World.setCell],fun b hb _=>Below.heap_setCell _ _ _ _ (fun e=>by
    subst e
    obtain ⟨i,hi,hn⟩:=hb
    obtain ⟨j,hj,hs⟩:=hp
    have:=ho.mem.dis i j _ hi hs
    subst this
    exact hn hj)⟩
   exact DenV.mono (Env.cut_le E ls) hS _ _ (DenV.cut _ _ hcl hi)
 ·refine ho.mem.hav hf h0 h1 hc hp hnl fun t=>?_
  have hlk:(⟨hvTm ls st.tm,st.nt,(dedK [] (st.mm.map (·.1))).map fun t=>(t,g t),st.nx⟩:St).m t=if t∈dedK [] (st.mm.map (·.1)) then g t else .empty:=zfy _ _ _ _
  show (∃ T ms r q,st.m t = .row T ms r∧hitL ls ms=true∧(⟨hvTm ls st.tm,st.nt,(dedK [] (st.mm.map (·.1))).map fun t=>(t,g t),st.nx⟩:St).m t = .row T ms q∧_)∨(_∧(⟨hvTm ls st.tm,st.nt,(dedK [] (st.mm.map (·.1))).map fun t=>(t,g t),st.nx⟩:St).m t=_)
  rw [hlk]
  by_cases ht:t∈dedK [] (st.mm.map (·.1))
  ·rw [if_pos ht]
   rcases g2 t ht with ⟨T,ms,r,q,e1,e2,e3,e4⟩ | ⟨e1,e2⟩
   ·exact .inl ⟨T,ms,r,q,e1,e2,e3,fun v hv=>e4 v hv T ms r e1⟩
   ·exact .inr ⟨e1,e2⟩
  ·rw [if_neg ht]
   have hm:st.m t = .empty:=zfx (fun h=>ht ((zd3 _ _ _).2 ⟨h,by simp⟩))
   exact .inr ⟨fun T ms r e=>(by rw [hm] at e;cases e),by rw [hm];rfl⟩
theorem zou {st:St} {o:Oper} {ns:List Prop} {ls:List Nat} (h:cHv P st o=some (ns,ls)) (hn:∀ p∈ns,p) (hnl:∀ i,i∈ls→X.nl≤i) {J:Nat→Act→World→Prop} {Q Q2:Exit→Act→World→Prop} {k:List (Nat×BE)→Tr} {ops:Array Oper}
  (hd:den P base X w0 J Q (hvTr ls k [] ((dedK [] (st.mm.map (·.1))).map fun t=>(t,st.m t)))) {E:Env} {a:Act} {w:World}
  (hk:∀ mm,den P base X w0 J Q (k mm)→∀ {w':World},(⟨hvTm ls st.tm,st.nt,mm,st.nx⟩:St).Ok base X w0 E a w'→Q2 .normal a w') (ho:st.Ok base X w0 E a w):wpList P ops Q2 [o] a w:=by
 unfold cHv at h
 split at h
 case h_2=>simp at h
 rename_i T x y hg hdst hop
 split at h
 case h_2=>simp at h
 rename_i ls' r i off n1 s n2 e1 e2 e3
 -- the cell that is written
 have fin:∀ (t0:Ty) (s0:SV),(r.elem ls' i)[off]? = some s0→ns=n1++n2→ls=ls'→t0.flat=true→(∀ v,DenV E w s0 v→∃ d,Rd w (fun _=>True) t0 v d)→(∀ v,DenV E w s v→∃ d,Rd w (fun _=>True) t0 v d)→wpList P ops Q2 [o] a w:=by
  intro t0 s0 hs0 hns hls hf hr0 hr1
  subst hns;subst hls
  have hx:=zab (ho.ev x) (fun p hp=>hn p (by rw [e1] at hp;exact List.mem_append_left _ hp))
  have hy:=zab (ho.ev y) (fun p hp=>hn p (by rw [e2] at hp;exact List.mem_append_right _ hp))
  rw [e1] at hx
  rw [e2] at hy
  obtain ⟨hi,b,off0,c,hv,hrd⟩:=hx
  have hsl:Sl w (E.set ls) r.tys (some ⟨b,off0,none⟩) r.len c r.rows:=hrd
  obtain ⟨b',o',eb,hS,hb,vals,hc,hrow⟩:=hsl.rowAt (by omega)
  simp only [Option.some.injEq,Addr.mk.injEq,and_true] at eb
  obtain ⟨rfl,rfl⟩:=eb
  obtain ⟨hl,hRd⟩:=hrow i hi
  have hL:=RdL.of_at (vals i) hl (fun j hj=>hRd j hj)
  have hel:=RL.elem_ok hi hL
  have hoff:off<r.tys.length:=by
   have h1:=(List.getElem?_eq_some_iff.1 hs0).1
   have h2:=hel.len
   simp at h2;omega
  have hd0:=hel.at off (List.getElem?_eq_some_iff.1 hs0).1
  have e4:(r.elem ls i).getD off .any=s0:=by simp [List.getD,hs0]
  have e5:((List.range r.tys.length).map (vals i)).getD off undef=vals i off:=by simp [List.getD,hoff]
  rw [e4,e5] at hd0
  obtain ⟨d0,h0⟩:=hr0 _ hd0
  obtain ⟨d1,h1⟩:=hr1 _ hy
  have hcell:w.cell? ⟨b,off0+i*r.tys.length+off,none⟩=some (vals i off):=hc i off hi hoff
  have hfz:=hsl.thaw hi hoff
  obtain ⟨mm,q1,q2⟩:=zoh ho (p:=⟨b,off0+i*r.tys.length+off,none⟩) hf h0 h1 hcell hS hnl hd
  refine wpList_plain hg fun K hK=>?_
  have hone:(a.eval y).oneCell'=true:=h1.one
  obtain ⟨inf,hinf,hsz⟩:∃ inf,P.info? T=some inf∧inf.size=1:=by
   unfold zbi at e3
   cases hi:P.info? T with
   | none=>rw [hi] at e3;simp at e3
   | some inf=>rw [hi] at e3;exact ⟨inf,rfl,by simpa using e3⟩
  have hrun:=Lib.rl_storeVar_one (P:=P) T inf hinf hsz ⟨b,off0+i*r.tys.length+off,none⟩ (a.eval y) (vals i off) hone w hcell hfz
  refine zez (w':=w.setCell ⟨b,off0+i*r.tys.length+off,none⟩ (a.eval y)) ?_ ?_
  ·simp only [execOp,hop,Instr.storeAt,hv,Instr.sureAddr,Sem.run_bind,Sem.run_pure,Result.andThen,hrun]
  ·rw [hdst]
   exact hK _ _ (wpList_nil (hk mm q1 q2))
 split at h
 ·rename_i k1 n0 k2 m hs0
  split at h
  case isFalse=>simp at h
  rename_i hkk
  subst hkk
  simp only [Option.some.injEq,Prod.mk.injEq] at h
  exact fin (.int k1) _ hs0 h.1.symm h.2.symm rfl (fun v hv=>by obtain ⟨rfl,h2⟩:=hv;exact ⟨_,.int h2⟩) (fun v hv=>by obtain ⟨rfl,h2⟩:=hv;exact ⟨_,.int h2⟩)
 ·rename_i s1 s2 hs0
  simp only [Option.some.injEq,Prod.mk.injEq] at h
  exact fin .str _ hs0 h.1.symm h.2.symm rfl (fun v hv=>by obtain ⟨rfl,h2⟩:=hv;exact ⟨_,.str h2⟩) (fun v hv=>by obtain ⟨rfl,h2⟩:=hv;exact ⟨_,.str h2⟩)
 ·simp at h
theorem zja {C:Cfg} {more:Nat→St→TypeId→Op→Option Upd} (hm:P.follows .mixedOrders=true) (hC:zdv P C) (hCl:zdt C) (hM:zct P more) (hMl:zca more) (hW:WOk P C) {J:Nat→Act→World→Prop}:∀ (n:Nat),
  (∀ c k st lg Q,den P base X w0 J Q (exec P C more n c k st lg)→∀ E a w,st.Ok base X w0 E a w→c.wp P (qOf P J k Q) a w) ∧
  (∀ k st lg Q,den P base X w0 J Q (contN P C more n k st lg)→∀ E a w,st.Ok base X w0 E a w→qOf P J k Q .normal a w) ∧
  (∀ id k st lg Q,den P base X w0 J Q (contE P C more n id k st lg)→∀ E a w,st.Ok base X w0 E a w→qOf P J k Q (.exit id) a w):=by
 intro n
 induction n with
 | zero=>
  refine ⟨fun c k st lg Q h=>?_,fun k st lg Q h=>?_,fun id k st lg Q h=>?_⟩
  ·unfold exec at h;exact h.elim
  ·unfold contN at h;exact h.elim
  ·unfold contE at h;exact h.elim
 | succ n ih=>
  obtain ⟨ih1,ih2,ih3⟩:=ih
  have qret:∀ k Q a w,Q Exit.ret a w→qOf P J k Q .ret a w:=by
   intro k
   induction k with
   | nil=>intro Q a w h;exact h
   | cons x k ihk=>intro Q a w h;cases x<;>exact ihk Q a w h
  refine ⟨fun c k st lg Q h E a w ho=>?_,fun k st lg Q h E a w ho=>?_,fun id k st lg Q h E a w ho=>?_⟩
  ·unfold exec at h
   cases c with
   | skip=>exact wp_skip (ih2 _ _ _ _ h E a w ho)
   | seq x y=>exact wp_seq (ih1 _ _ _ _ _ h E a w ho)
   | block id c=>exact wp_block (ih1 _ _ _ _ _ h E a w ho)
   | exit id=>exact wp_exit (ih3 _ _ _ _ _ h E a w ho)
   | ret=>exact wp_ret (qret k Q a w (h E a w ho))
   | loop b=>exact h E a w ho
   | cond x y z=>
    simp only [] at h
    split at h
    case h_3=>exact h.elim
    case h_2=>
     rename_i p q ps hx
     have hv:=zab (ho.ev x) (fun p hp'=>h.1 p (by rw [hx] at hp';exact hp'))
     rw [hx] at hv
     obtain ⟨t,hv,hp,hq⟩:=hv
     exact wp_cond_split hv (fun e=>ih1 _ _ _ _ _ (h.2.1 (hp e)) E a w ho) (fun e=>ih1 _ _ _ _ _ (h.2.2 (hq e)) E a w ho)
    rename_i t ps hx
    have fork:(∀ p∈ps,p)→(t=true→den P base X w0 J Q (exec P C more n y k st lg))→(t=false→den P base X w0 J Q (exec P C more n z k st lg))→(Code.cond x y z).wp P (qOf P J k Q) a w:=by
     intro hp h1 h2
     have hv:=zab (ho.ev x) (fun p hp'=>hp p (by rw [hx] at hp';exact hp'))
     rw [hx] at hv
     have hv:a.eval x = .bool t:=hv
     exact wp_cond_split hv (fun e=>ih1 _ _ _ _ _ (h1 e) E a w ho) (fun e=>ih1 _ _ _ _ _ (h2 e) E a w ho)
    split at h
    ·rename_i p1 s1 l1 p2 s2 l2 e1 e2
     split at h
     ·rename_i st2 l3 hmt
      obtain ⟨hn,hd⟩:=h
      have hps:∀ p∈ps,p:=fun p hp=>hn p (by simp [hp])
      have hv:=zab (ho.ev x) (fun p hp'=>hps p (by rw [hx] at hp';exact hp'))
      rw [hx] at hv
      have hv:a.eval x = .bool t:=hv
      have f1:=zfZ ((zjb P C more n).1 y [] st ⟨[],[]⟩ st (Fr.refl st)) e1
      have f2:=zfZ ((zjb P C more n).1 z [] st ⟨[],[]⟩ st (Fr.refl st)) e2
      refine wp_cond_split hv (fun e=>?_) (fun e=>?_)
      ·refine Code.wp_mono (Q:=qOf P J [] (fun e a w=>e = .normal∧∃ E,s1.Ok base X w0 E a w)) (fun e2 a2 w2 hq=>?_) (ih1 _ _ _ _ _ (zeT e1 (fun p hp=>hn (t=true→p) (by simp only [List.mem_append,List.mem_map];exact .inl (.inr ⟨p,hp,rfl⟩)) e) (fun E a w h=>⟨rfl,E,h⟩)) E a w ho)
       obtain ⟨rfl,E2,h2⟩:=hq
       exact ih2 _ _ _ _ hd E2 a2 w2 (ziB hmt f1 f2 (by rw [e];exact h2))
      ·refine Code.wp_mono (Q:=qOf P J [] (fun e a w=>e = .normal∧∃ E,s2.Ok base X w0 E a w)) (fun e2 a2 w2 hq=>?_) (ih1 _ _ _ _ _ (zeT e2 (fun p hp=>hn (t=false→p) (by simp only [List.mem_append,List.mem_map];exact .inr ⟨p,hp,rfl⟩) e) (fun E a w h=>⟨rfl,E,h⟩)) E a w ho)
       obtain ⟨rfl,E2,h2⟩:=hq
       exact ih2 _ _ _ _ hd E2 a2 w2 (ziB hmt f1 f2 (by rw [e];exact h2))
     ·exact fork h.1 h.2.1 h.2.2
    ·exact fork h.1 h.2.1 h.2.2
   | region id ops draw=>
    simp only [] at h
    have ho2:=ho.grow (widS ops.toList)
    split at h
    case h_2=>
     split at h
     case h_2=>exact h.elim
     rename_i l1 o1 hlast
     split at h
     case h_2=>exact h.elim
     rename_i us rs st2 hr
     split at h
     case h_2=>
      split at h
      case h_2=>exact h.elim
      rename_i ns ls rr hcw
      obtain ⟨hn,hnl,hd⟩:=h
      refine wp_region_list ?_
      rw [zeI hlast]
      refine zcX hC hM _ _ _ _ _ (zd0 _ _ _ _ _ _ hr) (fun p hp=>hn p (List.mem_append_left _ hp)) (fun E' a' w' h'=>?_) E a w ho2
      exact zos hW hcw (fun p hp=>hn p (List.mem_append_right _ hp)) hnl h' (fun a2 w2 hOk=>ih2 _ _ _ _ hd E' a2 w2 hOk)
     rename_i ns ls hcv
     obtain ⟨hn,hnl,hd⟩:=h
     refine wp_region_list ?_
     rw [zeI hlast]
     refine zcX hC hM _ _ _ _ _ (zd0 _ _ _ _ _ _ hr) (fun p hp=>hn p (List.mem_append_left _ hp)) (fun E' a' w' h'=>?_) E a w ho2
     exact zou hcv (fun p hp=>hn p (List.mem_append_right _ hp)) hnl hd (fun mm' hden w' hOk=>ih2 _ _ _ _ hden E' _ _ hOk) h'
    rename_i us rs st2 hr
    cases draw with
    | false=>
     simp only [Bool.false_eq_true,if_false] at h
     obtain ⟨hn,hd⟩:=h
     exact wp_region_list (zfj hC hM _ _ _ _ _ (zd0 _ _ _ _ _ _ hr) hn (fun E' a' w' h'=>ih2 _ _ _ _ hd E' a' w' h') E a w ho2)
    | true=>
     simp only [if_true] at h
     split at h
     case isFalse=>exact h.elim
     rename_i hch
     obtain ⟨hfw,hin⟩:=Bool.and_eq_true _ _▸hch
     obtain ⟨hn,hd⟩:=h
     refine wp_region_any hm (draws hC hCl hM hMl hr hfw hin (fun x hx p hp=>hn p (List.mem_flatMap.2 ⟨x,hx,hp⟩)) (fun E' a' w' h'=>ih2 _ _ _ _ hd E' a' w' h') ops.size _ (by simp) (by simp) (fun i o _ hd=>?_) E a _ ?_)
     ·exfalso
      simp only [Array.getD_eq_getD_getElem?,Array.getElem?_replicate] at hd
      split at hd<;>simp at hd
     ·rw [zd8 0 us _ _ (fun j _=>by
       simp only [Array.getD_eq_getD_getElem?,Array.getElem?_replicate]
       split<;>rfl)]
      exact ⟨ho2.defers,ho2.size,fun i=>DenV.mono (w:=w) (w':={w with drawn:=w.drawn+1}) (Env.Le.refl E) ⟨Nat.le_refl _,fun _ _ _=>rfl⟩ _ _ (ho2.tm i),ho2.mem.drew _⟩
   | _=>exact h.elim
  ·unfold contN at h
   cases k with
   | nil=>exact h E a w ho
   | cons x k=>
    cases x with
    | code c=>exact ih1 _ _ _ _ _ h E a w ho
    | blk i=>exact ih2 _ _ _ _ h E a w ho
    | mark j=>exact h E a w ho
  ·unfold contE at h
   cases k with
   | nil=>exact h E a w ho
   | cons x k=>
    cases x with
    | code c=>exact ih3 _ _ _ _ _ h E a w ho
    | mark j=>exact ih3 _ _ _ _ _ h E a w ho
    | blk i=>
     simp only [] at h
     show Exit.inBlock i (qOf P J k Q) (.exit id) a w
     split at h
     ·rename_i e;subst e;simp only [Exit.inBlock,if_true];exact ih2 _ _ _ _ h E a w ho
     ·rename_i e;simp only [Exit.inBlock,if_neg e];exact ih3 _ _ _ _ _ h E a w ho
end
attribute [irreducible] exec contN contE
end Go.Proofs.Ytfccndnnpkiajaa
namespace Go.Proofs.Ytfccndnnpkiajaa
open Go.RowKit Go.ChangeShapes Go.WideShapes Go.Deep
def zaF {α:Type}:List (Nat×α)→Nat→Option α
 | [],_=>none
 | (k,v)::r,t=>bif Nat.beq k t then some v else zaF r t
theorem zem {α:Type} (k:Nat) (v:α) (r:List (Nat×α)) (t:Nat):zaF ((k,v)::r) t=if t=k then some v else zaF r t:=by
 show (bif Nat.beq k t then some v else zaF r t)=_
 by_cases h:t=k
 ·subst h;simp
 ·have:Nat.beq k t=false:=by
   cases hb:Nat.beq k t
   ·rfl
   ·exact absurd (Nat.eq_of_beq_eq_true hb).symm h
  rw [this,if_neg h];rfl
theorem zb7 {α:Type}:∀ {l:List (Nat×α)} {t:Nat} {v:α},zaF l t=some v→(t,v)∈l
 | (k,u)::r,t,v,h=>by
  rw [zem] at h
  split at h
  ·rename_i e;subst e
   simp only [Option.some.injEq] at h
   subst h;exact List.mem_cons_self ..
  ·exact List.mem_cons_of_mem _ (zb7 h)
 | [],_,_,h=>by simp [zaF] at h
theorem zcD {α:Type} {d:α}:∀ {l:List (Nat×α)} {t:Nat},zam d l t=d∨(t,zam d l t)∈l
 | [],_=> .inl rfl
 | (k,u)::r,t=>by
  rw [zaz]
  split
  ·rename_i e;subst e;exact .inr (List.mem_cons_self ..)
  ·rcases zcD (d:=d) (l:=r) (t:=t) with h | h
   ·exact .inl h
   ·exact .inr (List.mem_cons_of_mem _ h)
theorem zh0 {α:Type} {d:α}:∀ {l:List (Nat×α)} {t:Nat},t∉l.map (·.1)→zam d l t=d
 | [],_,_=>rfl
 | (k,u)::r,t,h=>by
  simp only [List.map_cons,List.mem_cons,not_or] at h
  rw [zaz,if_neg h.1];exact zh0 h.2
abbrev Rho:=List (Nat×Option Nat)
abbrev Lam:=List (Nat×Nat)
def zkA (nl:Nat) (la:Lam) (i:Nat):Option Nat:=bif Nat.blt i nl then some i else zaF la i
def okL (nl:Nat) (la:Lam) (ls ms:List Nat):Bool:=ms.all fun i=>match zkA nl la i with
 | some k=>ls.contains k
 | none=>false
def zcj (nl:Nat):List Nat→Option Nat
 | []=>none
 | a::r=>bif Nat.ble nl a then some a else zcj nl r
theorem zdW {nl:Nat}:∀ {ls:List Nat} {l:Nat},zcj nl ls=some l→l∈ls∧nl≤l
 | a::r,l,h=>by
  simp only [zcj] at h
  cases hb:Nat.ble nl a
  ·rw [hb] at h;obtain ⟨h1,h2⟩:=zdW (ls:=r) h;exact ⟨List.mem_cons_of_mem _ h1,h2⟩
  ·rw [hb] at h
   simp only [cond_true,Option.some.injEq] at h
   subst h;exact ⟨List.mem_cons_self ..,Nat.le_of_ble_eq_true hb⟩
 | [],_,h=>by simp [zcj] at h
abbrev LeR:=Option (List Prop×List (Nat×Nat))
def zgc (a b:LeR):LeR:=match a,b with
 | some (p,r),some (q,s)=>some (p++q,r++s)
 | _,_=>none
def isSC (ρ:Rho) (t c:Nat):Bool:=match zaF ρ t with
 | some (some d)=>d==c
 | _=>false
def isSN (ρ:Rho) (t:Nat):Bool:=match zaF ρ t with
 | some none=>true
 | _=>false
structure Ren where
 nl:Nat
 nt:Nat
 ρ:Rho
 la:Lam
def leV0 (st:St) (R:Ren):SV→SV→LeR
 | s,.any=>some ([],[])
 | .int k n,.int k' m=>if k=k' then some ([n=m],[]) else none
 | .bool a,.bool b=>some ([a=b],[])
 | .str a,.str b=>some ([a=b],[])
 | .nil,.nil=>some ([],[])
 | .nil,.sl _ r=>some ([r.nilP],[])
 | .sl ms q,.sl ls r=>if okL R.nl R.la ls ms then (match RL.eqP q r with | some p=>some ([p],[]) | none=>none) else none
 | .own c,.own t=>if isSC R.ρ t c then some ([],[]) else none
 | .nil,.own t=>if isSN R.ρ t then some ([],[]) else none
 | .own c,.sl ls r=>match zcj R.nl ls with
  | some l=>(match st.m c with
   | .row _ ms q=>if okL R.nl R.la ls ms then (match RL.eqP q r with | some p=>some ([p,q.len≤140737488355328],[(c,l)]) | none=>none) else none
   | _=>none)
  | none=>none
 | .ptr c o,.ptr t o'=>if isSC R.ρ t c then (if o=o' then some ([],[]) else none) else none
 | .mp c,.mp t=>if isSC R.ρ t c then some ([],[]) else none
 | .fn f,.fn g=>if f=g then some ([],[]) else none
 | .np,.np=>some ([],[])
 | .ro ms o,.ro ls o'=>if okL R.nl R.la ls ms then (match OD.eqP o o' with | some p=>some ([p],[]) | none=>none) else none
 | _,_=>none
def leLs (f:SV→SV→LeR):List SV→List SV→LeR
 | [],[]=>some ([],[])
 | s::ss,t::ts=>zgc (f s t) (leLs f ss ts)
 | _,_=>none
def leVr (st:St) (R:Ren):SV→SV→LeR
 | .rp ms T vs o,.rp ls T' us o'=>if T=T' then (if o=o' then (if okL R.nl R.la ls ms then leLs (leV0 st R) vs us else none) else none) else none
 | s,t=>leV0 st R s t
def leV1 (st:St) (R:Ren):SV→SV→LeR
 | .agg vs,.agg us=>leLs (leV0 st R) vs us
 | .clo f vs,.clo g us=>if f=g then leLs (leVr st R) vs us else none
 | s,t=>leVr st R s t
def leV (st:St) (R:Ren):SV→SV→LeR
 | .tup vs,.tup us=>leLs (leV1 st R) vs us
 | s,t=>leV1 st R s t
def leB (st:St) (R:Ren) (t:Nat):BE→LeR
 | .empty=>none
 | .dead=>some ([],[])
 | .cells T us=>match zaF R.ρ t with
  | some (some c)=>match st.m c with
   | .cells T' vs=>if T=T' then (if us.all SV.flat then leLs (leV0 st R) vs us else none) else none
   | _=>none
  | _=>none
 | .row T ls r=>match zaF R.ρ t with
  | some (some c)=>match st.m c with
   | .row T' ms q=>if T=T' then (if okL R.nl R.la ls ms then (match RL.eqP q r with | some p=>some ([p],[]) | none=>none) else none) else none
   | _=>none
  | some none=>some ([r.nilP],[])
  | none=>none
 | .obj o=>match zaF R.ρ t with
  | some (some c)=>match st.m c with
   | .obj o'=>(match OD.eqP o' o with | some p=>some ([p],[]) | none=>none)
   | _=>none
  | _=>none
def leBs (st:St) (R:Ren):List (Nat×BE)→LeR
 | []=>some ([],[])
 | (t,e)::r=>zgc (leB st R t e) (leBs st R r)
def leTs (st:St) (R:Ren):List (Nat×SV)→LeR
 | []=>some ([],[])
 | (i,t)::r=>zgc (leV1 st R (st.s i) t) (leTs st R r)
def zcT (mm:List (Nat×BE)):Rho→List Nat
 | []=>[]
 | (t,some c)::r=>bif (zam .empty mm t).live then c::zcT mm r else zcT mm r
 | (_,none)::r=>zcT mm r
def zbg:List Nat→Bool
 | []=>true
 | a::r=>!r.contains a&&zbg r
def addR (ρ:Rho) (t:Nat) (v:Option Nat):Rho:=match zaF ρ t with
 | some _=>ρ
 | none=>ρ++[(t,v)]
def zkx (ρ:Rho):SV→SV→Rho
 | .own c,.own t=>addR ρ t (some c)
 | .nil,.own t=>addR ρ t none
 | .ptr c _,.ptr t _=>addR ρ t (some c)
 | .mp c,.mp t=>addR ρ t (some c)
 | _,_=>ρ
def zhw {α:Type} (f:α→SV→SV→α):α→List SV→List SV→α
 | ρ,s::ss,t::ts=>zhw f (f ρ s t) ss ts
 | ρ,_,_=>ρ
def znS {α:Type} (f:α→SV→SV→α) (ρ:α):SV→SV→α
 | .rp ms _ vs _,.rp ls _ us _=>zhw f (f ρ (.sl ms (.rInts [])) (.sl ls (.rInts []))) vs us
 | s,t=>f ρ s t
def zm6 {α:Type} (f:α→SV→SV→α) (ρ:α):SV→SV→α
 | .agg vs,.agg us=>zhw f ρ vs us
 | .clo _ vs,.clo _ us=>zhw (znS f) ρ vs us
 | s,t=>znS f ρ s t
def znR {α:Type} (f:α→SV→SV→α) (ρ:α):SV→SV→α
 | .tup vs,.tup us=>zhw (zm6 f) ρ vs us
 | s,t=>zm6 f ρ s t
def zm5 {α:Type} (f:α→SV→SV→α) (st:St):α→List (Nat×SV)→α
 | ρ,[]=>ρ
 | ρ,(i,t)::r=>zm5 f st (zm6 f ρ (st.s i) t) r
def zfn {α:Type} (f:α→SV→SV→α) (st:St) (mm:List (Nat×BE)):α→Rho→α
 | ρ,[]=>ρ
 | ρ,(t,some c)::r=>match st.m c,zam .empty mm t with
  | .cells _ vs,.cells _ us=>zfn f st mm (zhw f ρ vs us) r
  | .row _ ms _,.row _ ls _=>zfn f st mm (f ρ (.sl ms (.rInts [])) (.sl ls (.rInts []))) r
  | _,_=>zfn f st mm ρ r
 | ρ,_::r=>zfn f st mm ρ r
def addL (nl:Nat) (same:Bool) (ls:List Nat):Lam→List Nat→Lam
 | la,[]=>la
 | la,i::r=>bif Nat.blt i nl then addL nl same ls la r else (match zaF la i with
  | some _=>addL nl same ls la r
  | none=>bif (same&&ls.contains i) then addL nl same ls (la++[(i,i)]) r else (match zcj nl ls with
   | some l=>addL nl same ls (la++[(i,l)]) r
   | none=>addL nl same ls la r))
def lab0 (st:St) (nl:Nat) (same:Bool) (la:Lam):SV→SV→Lam
 | .sl ms _,.sl ls _=>addL nl same ls la ms
 | .own c,.sl ls _=>match st.m c with
  | .row _ ms _=>addL nl same ls la ms
  | _=>la
 | _,_=>la
def idR:Nat→Rho
 | 0=>[]
 | n+1=>idR n++[(n,some n)]
def okR (R:Ren) (mm:List (Nat×BE)) (rel:List (Nat×Nat)):Bool:=
 zbg (zcT mm R.ρ)&&R.ρ.all (fun p=>(mm.map (·.1)).contains p.1)&&rel.all (fun p=>!(zcT mm R.ρ).contains p.1&&Nat.ble R.nl p.2&&(mm.map (·.1)).contains p.2&&rel.all (fun q=>!(p.1==q.1)||p.2==q.2)) &&
 R.la.all (fun p=>Nat.ble R.nl p.2&&(mm.map (·.1)).contains p.2)&&(List.range R.nl).all (fun i=>(mm.map (·.1)).contains i)&&(List.range R.nt).all (fun t=>isSC R.ρ t t)
def znQ (nl nt:Nat) (st:St) (s out:SV) (mm:List (Nat×BE)):Ren:=
 let ρ0:=znR zkx (idR nt) s out
 let ρ:=zfn zkx st mm ρ0 ρ0
 ⟨nl,nt,ρ,zfn (lab0 st nl false) st mm (znR (lab0 st nl false) [] s out) ρ⟩
def zoc (nl nt:Nat) (st:St) (s out:SV) (mm:List (Nat×BE)):LeR:=
 let R:=znQ nl nt st s out mm
 match zgc (leV st R s out) (leBs st R mm) with
 | some (ps,rel)=>if okR R mm rel then some (ps,rel) else none
 | none=>none
def znP (nl nt:Nat) (st st':St):Ren:=
 let ρ0:=zm5 zkx st (idR nt) st'.tm
 let ρ:=zfn zkx st st'.mm ρ0 ρ0
 ⟨nl,nt,ρ,zfn (lab0 st nl true) st st'.mm (zm5 (lab0 st nl true) st [] st'.tm) ρ⟩
def leSt (nl nt:Nat) (st st':St):LeR:=
 let R:=znP nl nt st st'
 match zgc (leTs st R st'.tm) (leBs st R st'.mm) with
 | some (ps,rel)=>if okR R st'.mm rel&&Nat.beq st.nt st'.nt then some (ps,rel) else none
 | none=>none
def Env.ren (E:Env) (st:St) (R:Ren) (rel:List (Nat×Nat)):Env where
 β:=fun t=>match zaF R.ρ t with
  | some (some c)=>E.β c
  | some none=>some (.slice none 0 0)
  | none=>none
 σ:=fun i b=>(∃ j,zkA R.nl R.la j=some i∧E.σ j b)∨∃ c,(c,i)∈rel∧Has E st.m c b
 φ:=fun t b=>match zaF R.ρ t with
  | some (some c)=>E.φ c b
  | _=>False
section
variable {base : Nat} {X : Cx} {w0 : World}
theorem zfq {E:Env} {st:St} {R:Ren} {rel:List (Nat×Nat)} {ls ms:List Nat} (h:okL R.nl R.la ls ms=true) {b:Nat} (hb:E.set ms b):(E.ren st R rel).set ls b:=by
 obtain ⟨i,hi,hs⟩:=hb
 have:=List.all_eq_true.1 h i hi
 split at this
 ·rename_i k hk
  exact ⟨k,by simpa using this,.inl ⟨i,hk,hs⟩⟩
 ·cases this
theorem zeK {ρ:Rho} {t c:Nat} (h:isSC ρ t c=true):zaF ρ t=some (some c):=by
 unfold isSC at h
 split at h
 ·rename_i d e;rw [e];have:d=c:=by simpa using h
  rw [this]
 ·cases h
theorem zmO {ρ:Rho} {t:Nat} (h:isSN ρ t=true):zaF ρ t=some none:=by
 unfold isSN at h
 split at h
 ·assumption
 ·cases h
theorem zfW {E:Env} {st:St} {R:Ren} {rel:List (Nat×Nat)} {t c:Nat} (h:zaF R.ρ t=some (some c)):(E.ren st R rel).β t=E.β c:=by
 show (match zaF R.ρ t with | some (some c)=>E.β c | some none=>some (.slice none 0 0) | none=>none)=_
 rw [h]
theorem znO {E:Env} {st:St} {R:Ren} {rel:List (Nat×Nat)} {t c:Nat} (h:zaF R.ρ t=some (some c)):(E.ren st R rel).φ t=E.φ c:=by
 funext b
 show (match zaF R.ρ t with | some (some c)=>E.φ c b | _=>False)=_
 rw [h]
theorem zl6 {E:Env} {st:St} {R:Ren} {rel:List (Nat×Nat)} {t:Nat} (h:zaF R.ρ t=some none):(E.ren st R rel).β t=some (.slice none 0 0):=by
 show (match zaF R.ρ t with | some (some c)=>E.β c | some none=>some (.slice none 0 0) | none=>none)=_
 rw [h]
theorem zeG {E:Env} {st:St} {w:World} (hm:MemOk base X w0 E st.m w) {R:Ren} {rel:List (Nat×Nat)} {s t:SV} {ps:List Prop} {rl:List (Nat×Nat)} (h:leV0 st R s t=some (ps,rl)) (hp:∀ p∈ps,p) (hr:∀ c,c∈rl→c∈rel) {v:Value} (hv:DenV E w s v):DenV (E.ren st R rel) w t v:=by
 unfold leV0 at h
 split at h
 ·trivial
 ·split at h
  case isFalse=>simp at h
  rename_i k n k' m hk
  simp only [Option.some.injEq,Prod.mk.injEq] at h
  obtain ⟨rfl,rfl⟩:=h
  subst hk
  rw [← hp (n=m) (by simp)];exact hv
 ·simp only [Option.some.injEq,Prod.mk.injEq] at h
  obtain ⟨rfl,rfl⟩:=h
  rename_i a b
  rw [← hp (a=b) (by simp)];exact hv
 ·simp only [Option.some.injEq,Prod.mk.injEq] at h
  obtain ⟨rfl,rfl⟩:=h
  rename_i a b
  rw [← hp (a=b) (by simp)];exact hv
 ·exact hv
 ·simp only [Option.some.injEq,Prod.mk.injEq] at h
  obtain ⟨rfl,rfl⟩:=h
  rename_i r
  have hz:=RL.nilP_ok (hp r.nilP (by simp))
  have:v = .slice none 0 0:=hv
  subst this
  show Rd _ _ _ _ (.sl r.rows)
  rw [hz]
  exact .emp (fun _=>rfl) (by decide)
 ·split at h
  case isFalse=>simp at h
  split at h
  case h_2=>simp at h
  rename_i ms q ls r hok _ p hq
  simp only [Option.some.injEq,Prod.mk.injEq] at h
  obtain ⟨rfl,rfl⟩:=h
  have e:=RL.eqP_ok hq (hp p (by simp))
  subst e
  exact Rd.mono hv (fun b _ hb=>zfq hok hb)
 ·split at h
  case isFalse=>simp at h
  rename_i c t hc
  exact ⟨(zfW (zeK hc)).trans hv.1,hv.2⟩
 ·split at h
  case isFalse=>simp at h
  rename_i t hc
  have hv:v = .slice none 0 0:=hv
  subst hv
  exact ⟨zl6 (zmO hc),rfl⟩
 ·split at h
  case h_2=>simp at h
  split at h
  case h_2=>simp at h
  split at h
  case isFalse=>simp at h
  split at h
  case h_2=>simp at h
  rename_i c ls r _ l h1 _ T ms q hmc hok _ p hq
  simp only [Option.some.injEq,Prod.mk.injEq] at h
  obtain ⟨rfl,rfl⟩:=h
  have e:=RL.eqP_ok hq (hp p (by simp))
  have hle:q.len≤140737488355328:=hp (q.len≤140737488355328) (by simp)
  subst e
  obtain ⟨v',hβ,ho⟩:=hm.row c T ms q hmc
  have hv1:=hv.1
  rw [hβ] at hv1
  simp only [Option.some.injEq] at hv1
  subst hv1
  have hf:=ho.form
  obtain ⟨a,cc,ef⟩:=hf
  have hs:=ho.slO ((E.ren st R rel).set ls) (fun b hb=>zfq hok hb) (fun b _ hb=>⟨l,(zdW h1).1,.inr ⟨c,hr (c,l) (by simp),Has.row hmc hβ (by rw [← zaq ⟨a,_,cc,ef⟩];exact hb)⟩⟩) (by rw [q.rows_len];exact hle)
  obtain ⟨a2,c2,e2,h2⟩:=hs
  rw [e2];exact h2
 ·split at h
  case isFalse=>simp at h
  split at h
  case isFalse=>simp at h
  rename_i c o t o' hc ho
  subst ho
  obtain ⟨b,h1,h2⟩:=hv
  exact ⟨b,(zfW (zeK hc)).trans h1,h2⟩
 ·split at h
  case isFalse=>simp at h
  rename_i c t hc
  obtain ⟨b,h1,h2⟩:=hv
  exact ⟨b,(zfW (zeK hc)).trans h1,h2⟩
 ·split at h
  case isFalse=>simp at h
  rename_i e
  subst e;exact hv
 ·exact hv
 ·split at h
  case isFalse=>simp at h
  split at h
  case h_2=>simp at h
  rename_i ms o ls o' hok _ p hq
  simp only [Option.some.injEq,Prod.mk.injEq] at h
  obtain ⟨rfl,rfl⟩:=h
  have e:=OD.eqP_ok hq (hp p (by simp))
  subst e
  obtain ⟨b,F,h1,h2,h3⟩:=hv
  exact ⟨b,F,h1,h2,fun x hx=>zfq hok (h3 x hx)⟩
 ·simp at h
theorem zcE {a b:LeR} {ps:List Prop} {rl:List (Nat×Nat)} (h:zgc a b=some (ps,rl)):∃ p r q s,a=some (p,r)∧b=some (q,s)∧ps=p++q∧rl=r++s:=by
 unfold zgc at h
 split at h
 ·simp only [Option.some.injEq,Prod.mk.injEq] at h
  exact ⟨_,_,_,_,rfl,rfl,h.1.symm,h.2.symm⟩
 ·simp at h
theorem zdb {E E':Env} {w:World} {rel:List (Nat×Nat)} {f:SV→SV→LeR} (hf:∀ s t ps rl,f s t=some (ps,rl)→(∀ p∈ps,p)→(∀ c,c∈rl→c∈rel)→∀ v,DenV E w s v→DenV E' w t v):∀ (ss ts:List SV) (ps:List Prop) (rl:List (Nat×Nat)),leLs f ss ts=some (ps,rl)→(∀ p∈ps,p)→(∀ c,c∈rl→c∈rel)→ss.length=ts.length∧∀ vs,DenL E w ss vs→DenL E' w ts vs
 | [],[],_,_,_,_,_=>⟨rfl,fun vs h=>by cases vs<;>first | trivial | exact h.elim⟩
 | s::ss,t::ts,ps,rl,h,hp,hr=>by
  obtain ⟨p,r,q,s2,h1,h2,rfl,rfl⟩:=zcE h
  obtain ⟨h3,h4⟩:=zdb hf ss ts q s2 h2 (fun p hp'=>hp p (List.mem_append_right _ hp')) (fun c hc=>hr c (List.mem_append_right _ hc))
  refine ⟨by simp [h3],fun vs hv=>?_⟩
  match vs,hv with
  | v::vs,hv=>exact ⟨hf s t p r h1 (fun p hp'=>hp p (List.mem_append_left _ hp')) (fun c hc=>hr c (List.mem_append_left _ hc)) v hv.1,h4 vs hv.2⟩
 | [],_::_,_,_,h,_,_=>by simp [leLs] at h
 | _::_,[],_,_,h,_,_=>by simp [leLs] at h
theorem ziD {E:Env} {st:St} {w:World} (hm:MemOk base X w0 E st.m w) {R:Ren} {rel:List (Nat×Nat)} (s t:SV) (ps:List Prop) (rl:List (Nat×Nat)) (h:leVr st R s t=some (ps,rl)) (hp:∀ p∈ps,p) (hr:∀ c,c∈rl→c∈rel) (v:Value) (hv:DenV E w s v):DenV (E.ren st R rel) w t v:=by
 unfold leVr at h
 split at h
 ·split at h
  case isFalse=>simp at h
  split at h
  case isFalse=>simp at h
  split at h
  case isFalse=>simp at h
  rename_i e1 e2 hok
  subst e1;subst e2
  obtain ⟨b,xs,h1,h2,h3,h4⟩:=hv
  exact ⟨b,xs,h1,zfq hok h2,h3,(zdb (fun s t ps rl h hp hr v hv=>zeG hm h hp hr hv) _ _ _ _ h hp hr).2 xs h4⟩
 ·exact zeG hm h hp hr hv
theorem zgb {E:Env} {st:St} {w:World} (hm:MemOk base X w0 E st.m w) {R:Ren} {rel:List (Nat×Nat)} (s t:SV) (ps:List Prop) (rl:List (Nat×Nat)) (h:leV1 st R s t=some (ps,rl)) (hp:∀ p∈ps,p) (hr:∀ c,c∈rl→c∈rel) (v:Value) (hv:DenV E w s v):DenV (E.ren st R rel) w t v:=by
 unfold leV1 at h
 split at h
 ·obtain ⟨xs,h1,h2⟩:=hv
  exact ⟨xs,h1,(zdb (fun s t ps rl h hp hr v hv=>zeG hm h hp hr hv) _ _ _ _ h hp hr).2 xs h2⟩
 ·split at h
  case isFalse=>simp at h
  rename_i e
  subst e
  obtain ⟨xs,h1,h2⟩:=hv
  exact ⟨xs,h1,(zdb (ziD hm) _ _ _ _ h hp hr).2 xs h2⟩
 ·exact ziD hm _ _ _ _ h hp hr v hv
theorem zob {E:Env} {st:St} {w:World} (hm:MemOk base X w0 E st.m w) {R:Ren} {rel:List (Nat×Nat)} (s t:SV) (ps:List Prop) (rl:List (Nat×Nat)) (h:leV st R s t=some (ps,rl)) (hp:∀ p∈ps,p) (hr:∀ c,c∈rl→c∈rel) (v:Value) (hv:DenV E w s v):DenV (E.ren st R rel) w t v:=by
 unfold leV at h
 split at h
 ·obtain ⟨xs,h1,h2⟩:=hv
  exact ⟨xs,h1,(zdb (fun s t ps rl h hp hr v hv=>zgb hm s t ps rl h hp hr v hv) _ _ _ _ h hp hr).2 xs h2⟩
 ·exact zgb hm s t ps rl h hp hr v hv
theorem ziF {st:St} {R:Ren}:∀ (mm:List (Nat×BE)) (ps:List Prop) (rl:List (Nat×Nat)),leBs st R mm=some (ps,rl)→∀ t e,(t,e)∈mm→∃ p r,leB st R t e=some (p,r)∧(∀ x,x∈p→x∈ps)∧∀ x,x∈r→x∈rl
 | (t0,e0)::mm,ps,rl,h,t,e,he=>by
  obtain ⟨p,r,q,s2,h1,h2,rfl,rfl⟩:=zcE h
  rcases List.mem_cons.1 he with e1 | e1
  ·cases e1
   exact ⟨p,r,h1,fun x hx=>List.mem_append_left _ hx,fun x hx=>List.mem_append_left _ hx⟩
  ·obtain ⟨p2,r2,h3,h4,h5⟩:=ziF mm q s2 h2 t e e1
   exact ⟨p2,r2,h3,fun x hx=>List.mem_append_right _ (h4 x hx),fun x hx=>List.mem_append_right _ (h5 x hx)⟩
 | [],_,_,_,t,e,he=>by cases he
theorem ziE {st:St} {R:Ren}:∀ (tm:List (Nat×SV)) (ps:List Prop) (rl:List (Nat×Nat)),leTs st R tm=some (ps,rl)→∀ t e,(t,e)∈tm→∃ p r,leV1 st R (st.s t) e=some (p,r)∧(∀ x,x∈p→x∈ps)∧∀ x,x∈r→x∈rl
 | (t0,e0)::mm,ps,rl,h,t,e,he=>by
  obtain ⟨p,r,q,s2,h1,h2,rfl,rfl⟩:=zcE h
  rcases List.mem_cons.1 he with e1 | e1
  ·cases e1
   exact ⟨p,r,h1,fun x hx=>List.mem_append_left _ hx,fun x hx=>List.mem_append_left _ hx⟩
  ·obtain ⟨p2,r2,h3,h4,h5⟩:=ziE mm q s2 h2 t e e1
   exact ⟨p2,r2,h3,fun x hx=>List.mem_append_right _ (h4 x hx),fun x hx=>List.mem_append_right _ (h5 x hx)⟩
 | [],_,_,_,t,e,he=>by cases he
theorem zce {mm:List (Nat×BE)}:∀ {ρ:Rho} {t c:Nat},(t,some c)∈ρ→(zam .empty mm t).live=true→c∈zcT mm ρ
 | (k,u)::r,t,c,h,hl=>by
  rcases List.mem_cons.1 h with e | h2
  ·cases e;simp only [zcT,hl,cond_true];exact List.mem_cons_self ..
  ·cases u with
   | none=>exact zce (ρ:=r) h2 hl
   | some d=>
    simp only [zcT]
    cases (zam BE.empty mm k).live
    ·exact zce (ρ:=r) h2 hl
    ·exact List.mem_cons_of_mem _ (zce (ρ:=r) h2 hl)
 | [],_,_,h,_=>by cases h
theorem zfr {mm:List (Nat×BE)}:∀ {ρ:Rho} {t u c:Nat},zbg (zcT mm ρ)=true→zaF ρ t=some (some c)→zaF ρ u=some (some c)→(zam .empty mm t).live=true→(zam .empty mm u).live=true→t=u
 | (k,v)::r,t,u,c,hn,h1,h2,l1,l2=>by
  rw [zem] at h1 h2
  by_cases e1:t=k
  ·by_cases e2:u=k
   ·rw [e1,e2]
   ·rw [if_pos e1] at h1
    rw [if_neg e2] at h2
    simp only [Option.some.injEq] at h1
    subst h1;subst e1
    simp only [zcT,l1,cond_true,zbg,Bool.and_eq_true] at hn
    have:=zce (zb7 h2) l2
    simp [this] at hn
  ·by_cases e2:u=k
   ·rw [if_neg e1] at h1
    rw [if_pos e2] at h2
    simp only [Option.some.injEq] at h2
    subst h2;subst e2
    simp only [zcT,l2,cond_true,zbg,Bool.and_eq_true] at hn
    have:=zce (zb7 h1) l1
    simp [this] at hn
   ·rw [if_neg e1] at h1
    rw [if_neg e2] at h2
    refine zfr ?_ h1 h2 l1 l2
    cases v with
    | none=>exact hn
    | some d=>
     simp only [zcT] at hn
     cases hl:(zam BE.empty mm k).live
     ·rw [hl] at hn;exact hn
     ·rw [hl] at hn;simp only [cond_true,zbg,Bool.and_eq_true] at hn;exact hn.2
 | [],_,_,_,_,h,_,_,_=>by simp [zaF] at h
theorem MemOk.ren {E:Env} {st:St} {w:World} (hm:MemOk base X w0 E st.m w) {R:Ren} {rel:List (Nat×Nat)} {mm:List (Nat×BE)} {ps:List Prop} {rl:List (Nat×Nat)} (h:leBs st R mm=some (ps,rl)) (hp:∀ p∈ps,p) (hr:∀ c,c∈rl→c∈rel) (hok:okR R mm rel=true)
  (hnl:X.nl=R.nl) (hB:∀ t v,X.B t=some v→t<R.nt):MemOk base X w0 (E.ren st R rel) (zam .empty mm) w:=by
 simp only [okR,Bool.and_eq_true] at hok
 obtain ⟨⟨⟨⟨⟨hnd,hrg⟩,hrel⟩,hla⟩,hlow⟩,hid⟩:=hok
 have hkey:∀ t v,zaF R.ρ t=some v→t∈mm.map (·.1):=fun t v hv=>by
  have:=List.all_eq_true.1 hrg _ (zb7 hv)
  simpa using this
 have hat:∀ t e,(t,e)∈mm→∃ p r,leB st R t e=some (p,r)∧(∀ x,x∈p→x)∧∀ x,x∈r→x∈rel:=by
  intro t e he
  obtain ⟨p,r,h1,h2,h3⟩:=ziF mm ps rl h t e he
  exact ⟨p,r,h1,fun x hx=>hp x (h2 x hx),fun x hx=>hr x (h3 x hx)⟩
 have hin:∀ t e,zam .empty mm t=e→e ≠ .empty→(t,e)∈mm:=by
  intro t e he hne
  rcases zcD (d:=BE.empty) (l:=mm) (t:=t) with h1 | h1
  ·exact absurd (he▸h1) hne
  ·rw [he] at h1;exact h1
 have hnkey:∀ t,zam .empty mm t = .empty→t∉mm.map (·.1):=by
  intro t ht hk
  obtain ⟨⟨t',e⟩,hp2,rfl⟩:=List.mem_map.1 hk
  rcases zcD (d:=BE.empty) (l:=mm) (t:=t') with h1 | h1
  ·have key:∀ (l:List (Nat×BE)) (t:Nat),t∈l.map (·.1)→(∀ e,(t,e)∈l→e ≠ .empty)→zam .empty l t ≠ .empty:=by
    intro l
    induction l with
    | nil=>intro t h;cases h
    | cons q l ih=>
     obtain ⟨k,e⟩:=q
     intro t hk hne
     rw [zaz]
     by_cases hx:t=k
     ·rw [if_pos hx];exact hne e (by rw [hx];exact List.mem_cons_self ..)
     ·rw [if_neg hx]
      simp only [List.map_cons,List.mem_cons] at hk
      exact ih t (hk.resolve_left hx) (fun e he=>hne e (List.mem_cons_of_mem _ he))
   refine key mm t' (List.mem_map.2 ⟨_,hp2,rfl⟩) (fun e he h0=>?_) ht
   obtain ⟨p,r,h2,_⟩:=hat t' e he
   rw [h0] at h2
   simp [leB] at h2
  ·obtain ⟨p,r,h2,_⟩:=hat t' _ h1
   rw [show zam BE.empty mm t'=BE.empty from ht] at h2
   simp [leB] at h2
 -- a label's origin
 have hlab:∀ j i,zkA R.nl R.la j=some i→(j<R.nl∧i=j)∨(R.nl≤j∧R.nl≤i∧i∈mm.map (·.1)):=by
  intro j i hj
  unfold zkA at hj
  rw [zdr] at hj
  split at hj
  ·rename_i hlt
   simp only [Option.some.injEq] at hj
   exact .inl ⟨hlt,hj.symm⟩
  ·rename_i hlt
   have:=List.all_eq_true.1 hla _ (zb7 hj)
   simp only [Bool.and_eq_true] at this
   exact .inr ⟨by omega,Nat.le_of_ble_eq_true this.1,by simpa using this.2⟩
 have hrl:∀ c i,(c,i)∈rel→c∉zcT mm R.ρ∧R.nl≤i∧i∈mm.map (·.1)∧∀ i',(c,i')∈rel→i=i':=by
  intro c i hc
  have:=List.all_eq_true.1 hrel _ hc
  simp only [Bool.and_eq_true,Bool.not_eq_true'] at this
  obtain ⟨⟨⟨h1,h2⟩,h3⟩,h4⟩:=this
  refine ⟨by simpa using h1,Nat.le_of_ble_eq_true h2,by simpa using h3,fun i' hi'=>?_⟩
  have:=List.all_eq_true.1 h4 _ hi'
  simpa using this
 -- a tag that has a block has that of the tag it stands for
 have hhas:∀ t b,Has (E.ren st R rel) (zam .empty mm) t b→∃ c,zaF R.ρ t=some (some c)∧Has E st.m c b:=by
  intro t b ⟨hlive,v,hv,hvb⟩
  have hv:(match zaF R.ρ t with | some (some c)=>E.β c | some none=>some (.slice none 0 0) | none=>none)=some v:=hv
  have hme:=hin t _ rfl (fun e=>by rw [e] at hlive;cases hlive)
  obtain ⟨p,r,h1,_⟩:=hat t _ hme
  generalize zam BE.empty mm t=e at *
  cases hlk:zaF R.ρ t with
  | none=>rw [hlk] at hv;cases hv
  | some o=>
   cases o with
   | none=>
    rw [hlk] at hv;simp only [Option.some.injEq] at hv;subst hv
    cases e with
    | empty=>cases hlive
    | dead=>cases hlive
    | cells T us=>simp [Fo,za4] at hvb
    | row T ls q=>simp [Fo,za4] at hvb
    | obj o=>simp only [leB,hlk] at h1;cases h1
   | some c=>
    rw [hlk] at hv
    refine ⟨c,rfl,?_⟩
    cases e with
    | empty=>cases hlive
    | dead=>cases hlive
    | cells T us=>
     simp only [leB,hlk] at h1
     split at h1
     ·rename_i e2;exact Has.cells e2 hv hvb
     ·simp at h1
    | row T ls q=>
     simp only [leB,hlk] at h1
     split at h1
     ·rename_i e2;exact Has.row e2 hv hvb
     ·simp at h1
    | obj o=>
     have hvb:(E.ren st R rel).φ t b:=hvb
     rw [znO hlk] at hvb
     simp only [leB,hlk] at h1
     split at h1
     ·rename_i e2;exact ⟨by rw [e2];rfl,v,hv,by rw [e2];exact hvb⟩
     ·simp at h1
 refine ⟨fun t ht=>?_,fun t T us ht=>?_,fun t T ls r ht=>?_,fun i b hb=>?_,fun i j b h1 h2=>?_,fun i hi he=>?_,fun t b hb=>?_,fun i b hi hb=>?_,fun t u b h1 h2=>?_,fun t v hv=>?_,hm.below,hm.base,fun t o ht=>?_⟩
 ·have hnk:=hnkey t ht
  have hnl2:zaF R.ρ t=none:=by
   cases hlk:zaF R.ρ t with
   | none=>rfl
   | some v=>exact absurd (hkey t v hlk) hnk
  refine ⟨?_,fun b hb=>?_⟩
  ·show (match zaF R.ρ t with | some (some c)=>E.β c | some none=>some (.slice none 0 0) | none=>none)=none
   rw [hnl2]
  ·rcases hb with ⟨j,hj,hs⟩ | ⟨c,hc,_⟩
   ·rcases hlab j t hj with ⟨h1,rfl⟩ | ⟨_,_,h3⟩
    ·have:=List.all_eq_true.1 hlow t (List.mem_range.2 h1)
     exact hnk (by simpa using this)
    ·exact hnk h3
   ·exact hnk (hrl c t hc).2.2.1
 ·obtain ⟨p,r,h1,h2,h3⟩:=hat t _ (hin t _ ht (by simp))
  simp only [leB] at h1
  split at h1
  case h_2=>simp at h1
  rename_i c hlk
  split at h1
  case h_2=>simp at h1
  rename_i T' vs hc
  split at h1
  case isFalse=>simp at h1
  split at h1
  case isFalse=>simp at h1
  rename_i hT hf
  subst hT
  obtain ⟨b,xs,c1,c2,c3,c4⟩:=hm.cells c _ _ hc
  exact ⟨b,xs,(zfW hlk).trans c1,c2,(zdb (fun s t ps rl h hp hr v hv=>zeG hm h hp hr hv) _ _ _ _ h1 h2 h3).2 xs c3,hf⟩
 ·obtain ⟨p,r2,h1,h2,h3⟩:=hat t _ (hin t _ ht (by simp))
  simp only [leB] at h1
  split at h1
  ·rename_i c hlk
   split at h1
   case h_2=>simp at h1
   rename_i T' ms q hc
   split at h1
   case isFalse=>simp at h1
   split at h1
   case isFalse=>simp at h1
   split at h1
   case h_2=>simp at h1
   rename_i hT hoke _ pp hq
   subst hT
   simp only [Option.some.injEq,Prod.mk.injEq] at h1
   obtain ⟨rfl,rfl⟩:=h1
   have e:=RL.eqP_ok hq (h2 pp (by simp))
   subst e
   obtain ⟨v,c1,c2⟩:=hm.row c _ _ _ hc
   exact ⟨v,(zfW hlk).trans c1,c2.mono (Nat.le_refl _) (fun b hb=>zfq hoke hb)⟩
  ·rename_i hlk
   simp only [Option.some.injEq,Prod.mk.injEq] at h1
   obtain ⟨rfl,rfl⟩:=h1
   have hz:=RL.nilP_ok (h2 r.nilP (by simp))
   exact ⟨.slice none 0 0,zl6 hlk,by rw [hz];exact OwnR.nil _ _ _ _ _⟩
  ·simp at h1
 ·rcases hb with ⟨j,hj,hs⟩ | ⟨c,hc,hh⟩
  ·refine ⟨(hm.lab j b hs).1,fun hi=>?_⟩
   rcases hlab j i hj with ⟨h1,rfl⟩ | ⟨h1,_,_⟩
   ·omega
   ·exact (hm.lab j b hs).2 (by omega)
  ·exact ⟨hm.lt hh,fun _=>(hm.sep c b hh).2⟩
 ·rcases h1 with ⟨j1,hj1,hs1⟩ | ⟨c1,hc1,hh1⟩
  ·rcases h2 with ⟨j2,hj2,hs2⟩ | ⟨c2,hc2,hh2⟩
   ·have:=hm.dis j1 j2 b hs1 hs2
    subst this
    rw [hj1] at hj2
    simpa using hj2
   ·exact absurd ⟨j1,hs1⟩ (hm.sep c2 b hh2).1
  ·rcases h2 with ⟨j2,hj2,hs2⟩ | ⟨c2,hc2,hh2⟩
   ·exact absurd ⟨j2,hs2⟩ (hm.sep c1 b hh1).1
   ·have:=hm.inj c1 c2 b hh1 hh2
    subst this
    exact (hrl c1 i hc1).2.2.2 j hc2
 ·have:=List.all_eq_true.1 hlow i (List.mem_range.2 (by omega))
  exact hnkey i he (by simpa using this)
 ·obtain ⟨c,hlk,hh⟩:=hhas t b hb
  refine ⟨fun ⟨i,hs⟩=>?_,(hm.sep c b hh).2⟩
  rcases hs with ⟨j,_,hs⟩ | ⟨c',hc',hh'⟩
  ·exact (hm.sep c b hh).1 ⟨j,hs⟩
  ·have e:=hm.inj c c' b hh hh'
   subst e
   exact (hrl c i hc').1 (zce (zb7 hlk) hb.1)
 ·rcases hb with ⟨j,hj,hs⟩ | ⟨c,hc,_⟩
  ·rcases hlab j i hj with ⟨h1,rfl⟩ | ⟨_,h2,_⟩
   ·exact hm.old i b hi hs
   ·omega
  ·have:=(hrl c i hc).2.1;omega
 ·obtain ⟨c,hc1,hc2⟩:=hhas t b h1
  obtain ⟨d,hd1,hd2⟩:=hhas u b h2
  have e:=hm.inj c d b hc2 hd2
  subst e
  exact zfr hnd hc1 hd1 h1.1 h2.1
 ·have ht:=hB t v hv
  have:=List.all_eq_true.1 hid t (List.mem_range.2 ht)
  exact (zfW (zeK this)).trans (hm.keep t v hv)
 ·obtain ⟨p,r,h1,h2,h3⟩:=hat t _ (hin t _ ht (by simp))
  simp only [leB] at h1
  split at h1
  case h_2=>simp at h1
  rename_i c hlk
  split at h1
  case h_2=>simp at h1
  rename_i o' hc
  split at h1
  case h_2=>simp at h1
  rename_i pp hq
  simp only [Option.some.injEq,Prod.mk.injEq] at h1
  obtain ⟨rfl,rfl⟩:=h1
  have e:=OD.eqP_ok hq (h2 pp (by simp))
  subst e
  obtain ⟨b,c1,c2⟩:=hm.obj c _ hc
  exact ⟨b,(zfW hlk).trans c1,by rw [znO hlk];exact c2⟩
theorem zmI {nl nt:Nat} {st st':St} {ps:List Prop} {rl:List (Nat×Nat)} (h:leSt nl nt st st'=some (ps,rl)) (hp:∀ p∈ps,p) (hnl:X.nl=nl) (hB:∀ t v,X.B t=some v→t<nt) {E:Env} {a:Act} {w:World} (ho:st.Ok base X w0 E a w):∃ E',st'.Ok base X w0 E' a w:=by
 unfold leSt at h
 simp only at h
 split at h
 case h_2=>simp at h
 rename_i ps2 rel he
 split at h
 case isFalse=>simp at h
 rename_i hok
 simp only [Option.some.injEq,Prod.mk.injEq] at h
 obtain ⟨rfl,rfl⟩:=h
 obtain ⟨hok1,hok2⟩:=Bool.and_eq_true _ _▸hok
 obtain ⟨p,r,q,s,h1,h2,rfl,rfl⟩:=zcE he
 refine ⟨E.ren st (znP nl nt st st') (r++s),ho.defers,ho.size.trans (Nat.eq_of_beq_eq_true hok2),fun i=>?_,ho.mem.ren h2 (fun x hx=>hp x (List.mem_append_right _ hx)) (fun c hc=>List.mem_append_right _ hc) hok1 hnl hB⟩
 rcases zcD (d:=SV.any) (l:=st'.tm) (t:=i) with h3 | h3
 ·show DenV _ w (zam .any st'.tm i) _
  rw [h3];trivial
 ·obtain ⟨p2,r2,h4,h5,h6⟩:=ziE _ _ _ h1 i _ h3
  exact zgb ho.mem _ _ p2 r2 h4 (fun x hx=>hp x (List.mem_append_left _ (h5 x hx))) (fun c hc=>List.mem_append_left _ (h6 c hc)) _ (ho.tm i)
end
end Go.Proofs.Ytfccndnnpkiajaa
namespace Go.Proofs.Ytfccndnnpkiajaa
open Go.RowKit Go.ChangeShapes Go.WideShapes Go.Deep
def asc {α:Type}:Nat→List α→List (Nat×α)
 | _,[]=>[]
 | i,e::r=>(i,e)::asc (i+1) r
theorem zfb {α:Type} (d:α):∀ (k:Nat) (l:List α) (i:Nat),zam d (asc k l) i=if i<k then d else l.getD (i-k) d
 | k,[],i=>by simp [asc,zam]
 | k,e::r,i=>by
  rw [asc,zaz,zfb d (k+1) r i]
  by_cases h1:i=k
  ·subst h1;simp
  ·by_cases h2:i<k
   ·rw [if_neg h1,if_pos (by omega),if_pos h2]
   ·rw [if_neg h1,if_neg (by omega),if_neg h2,show i-k=(i-(k+1))+1 by omega];simp
def mOf (mo:List BE):Nat→BE:=zam .empty (asc 0 mo)
theorem zcv (mo:List BE) (t:Nat):mOf mo t=mo.getD t .empty:=by
 show zam .empty (asc 0 mo) t=_
 rw [zfb,if_neg (by omega),Nat.sub_zero]
def cxIn (E:Env) (mi:List BE) (nl:Nat):Cx:=⟨fun b=>∃ t,Has E (mOf mi) t b,nl,fun i b=>E.σ i b,fun t=>if t<mi.length then E.β t else none⟩
def RpO (out:SV) (mo:List BE) (base:Nat) (X:Cx) (w0:World) (e:Ending) (w':World):Prop:=∃ v E',e = .returned v∧DenV E' w' out v∧MemOk base X w0 E' (mOf mo) w'
def FnG (P:Program) (f:FuncId) (nl:Nat) (mi:List BE) (ins:List SV) (out:SV) (mo:List BE):Prop:=
 FnB P f∧∀ (w:World) (E:Env) (vals:List Value),MemOk w.heap.size (cxIn E mi nl) w E (mOf mi) w→DenL E w ins vals→Calls P f vals.toArray w (RpO out mo w.heap.size (cxIn E mi nl) w)
abbrev D2:List BE:=[.dead,.dead]
abbrev FnC (P:Program) (f:FuncId) (ins:List SV) (out:SV) (mo:List BE):Prop:=FnG P f 1 D2 ins out mo
def zgD (P:Program) (st:St):ResultVar→Option (SV×List Prop)
 | .tmp t=>some (zag (st.s t))
 | .cell a T=>match zbu st (st.s a),aggT P T,zbi P T with
  | some (cs,n),some true,some k=>if k≤cs.length then some (.agg (cs.take k),n) else none
  | some (c::_,n),some false,_=>some (c,n)
  | _,_,_=>none
def resL (P:Program) (st:St):List ResultVar→Option (List SV×List Prop)
 | []=>some ([],[])
 | r::rs=>match zgD P st r,resL P st rs with
  | some (s,n),some (ss,m)=>some (s::ss,n++m)
  | _,_=>none
def resS (P:Program) (fn:Func) (st:St):Option (SV×List Prop):=
 match resL P st fn.results.toList with
 | some ([s],n)=>some (s,n)
 | some (ss,n)=>some (.tup ss,n)
 | none=>none
abbrev zoj (α:Type):Prop:=([]:List α)=[]
def Each:List Prop→Prop
 | []=>True
 | p::ps=>p∧Each ps
theorem Each.out:∀ {ps:List Prop},Each ps→∀ p∈ps,p
 | _::_,h,_,.head _=>h.1
 | _::_,h,p,.tail _ hp=>Each.out h.2 p hp
section
variable {P : Program} {base : Nat} {X : Cx} {w0 : World}
theorem zin {st:St} {E:Env} {a:Act} {w:World} (ho:st.Ok base X w0 E a w) {r:ResultVar} {s:SV} {n:List Prop} (h:zgD P st r=some (s,n)) (hn:∀ p∈n,p) :
  ∃ v,((match r with | .tmp t=>pure (a.tmps.getD t undef) | .cell a' t=>do loadVar t (← asAddr (a.tmps.getD a' undef)):Sem Value)).run P w = .ok v w∧DenV E w s v:=by
 cases r with
 | tmp t=>
  simp only [zgD,Option.some.injEq] at h
  have:=zab (ho.tm t) (fun p hp=>hn p (by rw [h] at hp;exact hp))
  rw [h] at this
  exact ⟨_,rfl,this⟩
 | cell t T=>
  simp only [zgD] at h
  split at h
  case h_3=>simp at h
  ·rename_i cs m k e1 e2 e3
   split at h
   case isFalse=>simp at h
   rename_i hk
   simp only [Option.some.injEq,Prod.mk.injEq] at h
   obtain ⟨rfl,rfl⟩:=h
   obtain ⟨b,off,xs,e,hd,hc⟩:=zcl ho e1 hn (ho.tm t)
   refine ⟨.agg (xs.take k).toArray,?_,xs.take k,rfl,hd.take k⟩
   simp only [e,asAddr,loadVar,Sem.run_bind,Sem.run_pure,Result.andThen,zb4 e2,if_true,zav e3,zcq hc k (by rw [hd.len];exact hk)]
  ·rename_i c rest m _ e1 e2
   simp only [Option.some.injEq,Prod.mk.injEq] at h
   obtain ⟨rfl,rfl⟩:=h
   obtain ⟨b,off,xs,e,hd,hc⟩:=zcl ho e1 hn (ho.tm t)
   match xs,hd with
   | x0::xs,hd=>
    refine ⟨x0,?_,hd.1⟩
    have:=hc 0 x0 rfl
    rw [Nat.add_zero] at this
    simp [e,asAddr,loadVar,zb4 e2,run_load,this]
theorem zio {st:St} {E:Env} {a:Act} {w:World} (ho:st.Ok base X w0 E a w):∀ (rs:List ResultVar) (ss:List SV) (n:List Prop),resL P st rs=some (ss,n)→(∀ p∈n,p) →
  ∃ vs,(List.mapM (fun r=>(match r with | .tmp t=>pure (a.tmps.getD t undef) | .cell a' t=>do loadVar t (← asAddr (a.tmps.getD a' undef)):Sem Value)) rs).run P w = .ok vs w∧DenL E w ss vs
 | [],ss,n,h,hn=>by
  simp only [resL,Option.some.injEq,Prod.mk.injEq] at h
  obtain ⟨rfl,rfl⟩:=h
  exact ⟨[],by simp [Sem.run_pure],trivial⟩
 | r::rs,ss,n,h,hn=>by
  simp only [resL] at h
  split at h
  case h_2=>simp at h
  rename_i s n1 ss2 n2 h1 h2
  simp only [Option.some.injEq,Prod.mk.injEq] at h
  obtain ⟨rfl,rfl⟩:=h
  obtain ⟨v,h3,h4⟩:=zin (P:=P) ho h1 (fun p hp=>hn p (List.mem_append_left _ hp))
  obtain ⟨vs,h5,h6⟩:=zio ho rs ss2 n2 h2 (fun p hp=>hn p (List.mem_append_right _ hp))
  exact ⟨v::vs,by simp only [List.mapM_cons,Sem.run_bind,h3,Result.andThen,h5,Sem.run_pure],h4,h6⟩
theorem zm1 {fn:Func} {st:St} {E:Env} {a:Act} {w:World} (ho:st.Ok base X w0 E a w) {s:SV} {n:List Prop} (h:resS P fn st=some (s,n)) (hn:∀ p∈n,p):∃ v,(results fn a.tmps).run P w = .ok v w∧DenV E w s v:=by
 unfold resS at h
 have key:∀ ss m,resL P st fn.results.toList=some (ss,m)→(∀ p∈m,p)→∃ vs:List Value,(results fn a.tmps).run P w = .ok (if h:vs.toArray.size=1 then vs.toArray[0] else .tuple vs.toArray) w∧DenL E w ss vs:=by
  intro ss m hl hm
  obtain ⟨vs,h1,h2⟩:=zio (P:=P) ho _ _ _ hl hm
  refine ⟨vs,?_,h2⟩
  unfold results
  rw [Sem.run_bind,Array.mapM_eq_mapM_toList,map_eq_pure_bind,Sem.run_bind]
  erw [h1]
  simp [Sem.run_pure,Result.andThen]
 split at h
 ·rename_i s2 m hl
  simp only [Option.some.injEq,Prod.mk.injEq] at h
  obtain ⟨rfl,rfl⟩:=h
  obtain ⟨vs,h1,h2⟩:=key _ _ hl hn
  match vs,h2 with
  | [v],h2=>exact ⟨v,by simpa using h1,h2.1⟩
 ·rename_i ss m hne hl
  simp only [Option.some.injEq,Prod.mk.injEq] at h
  obtain ⟨rfl,rfl⟩:=h
  obtain ⟨vs,h1,h2⟩:=key _ _ hl hn
  refine ⟨.tuple vs.toArray,?_,vs,rfl,h2⟩
  rw [h1,dif_neg]
  intro hs
  have:=h2.len
  match ss,vs,hs,this with
  | [s0],[v0],_,_=>exact hne s0 rfl
  | [],[_],_,hlen=>simp at hlen
  | _::_::_,[_],_,hlen=>simp at hlen
 ·simp at h
end
structure Gl where
 fn:Func
 nl:Nat
 nt:Nat
 out:SV
 mo:List BE
def Fit (X:Cx) (g:Gl):Prop:=X.nl=g.nl∧∀ t v,X.B t=some v→t<g.nt
def zjT (P:Program) (g:Gl) (st:St):Prop:=
 match resS P g.fn st with
 | some (sv,n)=>match zoc g.nl g.nt st sv g.out (asc 0 g.mo) with
  | some (ps,_)=>Each (n++ps)
  | none=>False
 | none=>False
theorem zgv {P:Program} {g:Gl} {st:St} (h:zjT P g st) {base:Nat} {X:Cx} {w0:World} (hX:Fit X g) {E:Env} {a:Act} {w:World} (ho:st.Ok base X w0 E a w):∃ v,(results g.fn a.tmps).run P w = .ok v w∧RpO g.out g.mo base X w0 (.returned v) w:=by
 unfold zjT at h
 split at h
 case h_2=>exact h.elim
 rename_i sv n hr
 split at h
 case h_2=>exact h.elim
 rename_i ps rel hl
 have hall:=Each.out h
 obtain ⟨v,h1,h2⟩:=zm1 ho hr (fun p hp=>hall p (List.mem_append_left _ hp))
 refine ⟨v,h1,v,?_⟩
 unfold zoc at hl
 simp only at hl
 split at hl
 case h_2=>simp at hl
 rename_i ps2 rel2 he
 split at hl
 case isFalse=>simp at hl
 rename_i hok
 simp only [Option.some.injEq,Prod.mk.injEq] at hl
 obtain ⟨rfl,rfl⟩:=hl
 obtain ⟨p,r,q,s,h3,h4,rfl,rfl⟩:=zcE he
 exact ⟨_,rfl,zob ho.mem (rel:=r++s) _ _ _ _ h3 (fun x hx=>hall x (by simp [hx])) (fun c hc=>List.mem_append_left _ hc) v h2,
  ho.mem.ren h4 (fun x hx=>hall x (by simp [hx])) (fun c hc=>List.mem_append_right _ hc) hok hX.1 hX.2⟩
def LoopG (P:Program) (g:Gl) (B:Nat→St→Prop) (body:Code) (k:List KI) (st:St):Prop:=
 ∀ (base:Nat) (X:Cx) (w0:World) (J:Nat→Act→World→Prop),Fit X g→(∀ j st,B j st→∀ E a w,st.Ok base X w0 E a w→J j a w) →
  ∀ E a w,st.Ok base X w0 E a w→(Code.loop body).wp P (qOf P J k (bodyPost P g.fn (RpO g.out g.mo base X w0))) a w
def vc (P:Program) (g:Gl) (B:Nat→St→Prop):Tr→Prop
 | .ret st=>zjT P g st
 | .nrm st _=>zjT P g st
 | .need ps t=>Each ps∧vc P g B t
 | .br b t1 t2=>(b=true→vc P g B t1)∧(b=false→vc P g B t2)
 | .brp p q t1 t2=>(p→vc P g B t1)∧(q→vc P g B t2)
 | .lab ls t=>(ls.all (fun i=>Nat.ble g.nl i)=true)∧vc P g B t
 | .hav r t=>RL.All r fun q=>vc P g B (t q)
 | .back j st=>B j st
 | .loop body k st=>LoopG P g B body k st
 | .ext _ _=>False
 | .stuck _ _ _=>False
theorem zcz {P:Program} {g:Gl} {B:Nat→St→Prop} {base:Nat} {X:Cx} {w0:World} (hX:Fit X g) {J:Nat→Act→World→Prop} (hJ:∀ j st,B j st→∀ E a w,st.Ok base X w0 E a w→J j a w) :
  ∀ (t:Tr),vc P g B t→den P base X w0 J (bodyPost P g.fn (RpO g.out g.mo base X w0)) t
 | .ret st,h=>fun E a w ho=>by
  obtain ⟨v,h1,h2⟩:=zgv h hX ho
  exact ⟨ho.defers,v,h1,h2⟩
 | .nrm st _,h=>fun E a w ho=>by
  obtain ⟨v,h1,h2⟩:=zgv h hX ho
  exact ⟨ho.defers,v,h1,h2⟩
 | .need ps t,h=>⟨h.1.out,zcz hX hJ t h.2⟩
 | .br b t1 t2,h=>⟨fun e=>zcz hX hJ t1 (h.1 e),fun e=>zcz hX hJ t2 (h.2 e)⟩
 | .brp p q t1 t2,h=>⟨fun e=>zcz hX hJ t1 (h.1 e),fun e=>zcz hX hJ t2 (h.2 e)⟩
 | .lab ls t,h=>⟨fun i hi=>by rw [hX.1];exact Nat.le_of_ble_eq_true (List.all_eq_true.1 h.1 i hi),zcz hX hJ t h.2⟩
 | .hav r t,h=>RL.All_mono h fun q hq=>zcz hX hJ (t q) hq
 | .back j st,h=>hJ j st h
 | .loop body k st,h=>h base X w0 J hX hJ
 | .ext _ _,h=>h.elim
 | .stuck _ _ _,h=>h.elim
def st0 (ins:List SV) (mi:List BE) (n:Nat):St:=⟨asc 0 ins,n,asc 0 mi,mi.length⟩
structure World.Fits (P:Program) (C:Cfg) (more:Nat→St→TypeId→Op→Option Upd):Prop where
 mixed:P.follows .mixedOrders=true
 orc:zdv P C
 loc:zdt C
 moreOk:zct P more
 moreLoc:zca more
 wr:WOk P C
inductive PE
 | a
 | b
 | q (r:RL)
def Tr.at:Tr→List PE→Tr
 | .need _ t,r=>Tr.at t r
 | .lab _ t,r=>Tr.at t r
 | .br _ x _,.a::r=>Tr.at x r
 | .br _ _ y,.b::r=>Tr.at y r
 | .brp _ _ x _,.a::r=>Tr.at x r
 | .brp _ _ _ y,.b::r=>Tr.at y r
 | .hav _ t,.q x::r=>Tr.at (t x) r
 | t,_=>t
def Tr.ss:Tr→St
 | .loop _ _ st=>st
 | .back _ st=>st
 | _=>⟨[],0,[],0⟩
def Tr.bd:Tr→Code
 | .loop b _ _=>b
 | _=> .skip
def Tr.kk:Tr→List KI
 | .loop _ k _=>k
 | _=>[]
def zfN (fn:Func):Code:=fn.body.getD .skip
theorem FnG.of_vc {P : Program} {C : Cfg} {more : Nat → St → TypeId → Op → Option Upd} (hF : World.Fits P C more) {f : FuncId} {fn : Func} (hf : P.funcs[f]? = some fn) (hb : fn.body = some (zfN fn)) (hname : fn.name ≠ "runtime.NumGoroutine") {nl : Nat} {mi : List BE} {ins : List SV} {out : SV} {mo : List BE} (hins : Nat.ble ins.length fn.ntmps = true) (n : Nat)
  {p:(List PE→Prop)→Prop} (he:vc P ⟨fn,nl,mi.length,out,mo⟩ (fun _ _=>False) (exec P C more n (zfN fn) [] (st0 ins mi fn.ntmps) ⟨[],[]⟩)=p (fun r=>vc P ⟨fn,nl,mi.length,out,mo⟩ (fun _ _=>False) ((exec P C more n (zfN fn) [] (st0 ins mi fn.ntmps) ⟨[],[]⟩).at r)))
  (h0:p (fun r=>vc P ⟨fn,nl,mi.length,out,mo⟩ (fun _ _=>False) ((exec P C more n (zfN fn) [] (st0 ins mi fn.ntmps) ⟨[],[]⟩).at r))):FnG P f nl mi ins out mo:=by
 have h:=h0
 rw [← he] at h
 clear he h0
 refine ⟨⟨fn,hf,hname,by rw [hb];rfl⟩,fun w E vals hm hd=>?_⟩
 refine calls_of_wp hf hb ?_
 have hX:Fit (cxIn E mi nl) ⟨fn,nl,mi.length,out,mo⟩:=⟨rfl,fun t v hv=>by
  have hv:(if t<mi.length then E.β t else none)=some v:=hv
  split at hv
  ·assumption
  ·cases hv⟩
 have hden:=zcz (base:=w.heap.size) (X:=cxIn E mi nl) (w0:=w) hX (J:=fun _ _ _=>False) (fun _ _ h=>h.elim) _ h
 have hlen:vals.length=ins.length:=hd.len
 have hle:ins.length≤fn.ntmps:=Nat.le_of_ble_eq_true hins
 refine (zja hF.mixed hF.orc hF.loc hF.moreOk hF.moreLoc hF.wr n).1 (zfN fn) [] _ _ _ hden E _ w ⟨rfl,?_,fun i=>?_,hm⟩
 ·simp [st0,hlen];omega
 ·have e:(vals.toArray++Array.replicate (fn.ntmps-vals.toArray.size) undef).getD i undef=(vals++List.replicate (fn.ntmps-ins.length) undef).getD i undef:=by
   simp only [Array.getD_eq_getD_getElem?,List.getD,← hlen]
   rw [← Array.getElem?_toList]
   simp
  rw [e]
  show DenV E w (zam .any (asc 0 ins) i) _
  rw [zfb,if_neg (by omega),Nat.sub_zero]
  by_cases hi:i<ins.length
  ·have:=hd.at i hi
   have e2:(vals++List.replicate (fn.ntmps-ins.length) undef).getD i undef=vals.getD i undef:=by
    simp only [List.getD]
    rw [List.getElem?_append_left (by omega)]
   rw [e2];exact this
  ·rw [show ins.getD i SV.any = .any by simp [List.getD,Nat.le_of_not_lt hi]];trivial
def zdO (j:Nat):List KI→Bool
 | []=>true
 | .mark i::k=>!(i==j)&&zdO j k
 | _::k=>zdO j k
theorem zks {P:Program} {J J':Nat→Act→World→Prop} {j:Nat} (h:∀ i,i≠j→J i=J' i):∀ (k:List KI),zdO j k=true→∀ Q,qOf P J k Q=qOf P J' k Q
 | [],_,_=>rfl
 | .code c::k,hk,Q=>by rw [qOf,qOf,zks h k hk Q]
 | .blk i::k,hk,Q=>by rw [qOf,qOf,zks h k hk Q]
 | .mark i::k,hk,Q=>by
  simp only [zdO,Bool.and_eq_true] at hk
  rw [qOf,qOf,zks h k hk.2 Q,h i (by simpa using hk.1)]
def leP (g:Gl) (st st':St):Prop:=match leSt g.nl g.nt st st' with
 | some (ps,_)=>Each ps
 | none=>False
theorem zlA {g:Gl} {st st':St} (h:leP g st st') {base:Nat} {X:Cx} {w0:World} (hX:Fit X g) {E:Env} {a:Act} {w:World} (ho:st.Ok base X w0 E a w):∃ E',st'.Ok base X w0 E' a w:=by
 unfold leP at h
 split at h
 ·rename_i e;exact zmI e h.out hX.1 hX.2 ho
 ·exact h.elim
def Back {A:Type} (g:Gl) (I:A→Prop) (H:A→St) (μ:A→Nat) (x:A) (st:St):Prop:=∃ y,I y∧μ y<μ x∧leP g st (H y)
theorem LoopG.mk {P:Program} {C:Cfg} {more:Nat→St→TypeId→Op→Option Upd} (hF:World.Fits P C more) {g:Gl} {B:Nat→St→Prop} {body:Code} {k:List KI} {st:St} (j:Nat) (hj:zdO j k=true)
  {A:Type} (I:A→Prop) (H:A→St) (μ:A→Nat) (x0:A) (hI:I x0) (h0:leP g st (H x0)) (n:Nat) (round:∀ x,I x→vc P g (fun i s=>if i=j then Back g I H μ x s else B i s) (exec P C more n body (.mark j::k) (H x) ⟨[],[]⟩)):LoopG P g B body k st:=by
 intro base X w0 J hX hJ E a w ho
 refine wp_loop_ghost (fun m a w=>∃ x,μ x=m∧I x∧∃ E,(H x).Ok base X w0 E a w) (μ x0) ⟨x0,rfl,hI,zlA h0 hX ho⟩ ?_
 rintro m a w ⟨x,rfl,hIx,E,hox⟩
 let J':Nat→Act→World→Prop:=fun i=>if i=j then (fun a w=>∃ m',m'<μ x∧∃ y,μ y=m'∧I y∧∃ E,(H y).Ok base X w0 E a w) else J i
 have hden:=zcz (base:=base) (X:=X) (w0:=w0) hX (J:=J') (fun i s hs E a w ho=>by
  by_cases e:i=j
  ·subst e
   rw [if_pos rfl] at hs
   obtain ⟨y,h1,h2,h3⟩:=hs
   show (if i=i then _ else _:Act→World→Prop) a w
   rw [if_pos rfl]
   exact ⟨_,h2,y,rfl,h1,zlA h3 hX ho⟩
  ·rw [if_neg e] at hs
   show (if i=j then _ else _:Act→World→Prop) a w
   rw [if_neg e]
   exact hJ i s hs E a w ho) _ (round x hIx)
 have:=(zja hF.mixed hF.orc hF.loc hF.moreOk hF.moreLoc hF.wr n).1 body (.mark j::k) _ _ _ hden E a w hox
 rw [qOf,← zks (J:=J) (J':=J') (j:=j) (fun i hi=>by show J i=if i=j then _ else _;rw [if_neg hi]) k hj] at this
 refine Code.wp_mono (fun e a w h=>?_) this
 cases e<;>first | exact h | skip
 have h:J' j a w:=h
 have h:(if j=j then _ else _:Act→World→Prop) a w:=h
 rw [if_pos rfl] at h
 exact h
def wrC:Code→List Nat
 | .region _ ops _=>ops.toList.filterMap (·.dst)
 | .seq a b=>wrC a++wrC b
 | .cond _ a b=>wrC a++wrC b
 | .block _ b=>wrC b
 | .loop b=>wrC b
 | _=>[]
def rdO:Operand→List Nat
 | .tmp t=>[t]
 | _=>[]
def rdC:Code→List Nat
 | .region _ ops _=>ops.toList.flatMap fun o=>o.op.operands.toList.flatMap rdO
 | .seq a b=>rdC a++rdC b
 | .cond x a b=>rdO x++(rdC a++rdC b)
 | .block _ b=>rdC b
 | .loop b=>rdC b
 | _=>[]
def rdK:List KI→List Nat
 | []=>[]
 | .code c::k=>rdC c++rdK k
 | _::k=>rdK k
def rdR (fn:Func):List Nat:=fn.results.toList.map fun r=>match r with
 | .tmp t=>t
 | .cell t _=>t
def canV:SV→SV
 | .tup _=> .any
 | .el _ _ _ _=> .any
 | .oel .. => .any
 | .gd .. => .any
 | s=>s
def isAny:SV→Bool
 | .any=>true
 | _=>false
def dedN:List Nat→List Nat→List Nat
 | _,[]=>[]
 | seen,a::r=>bif seen.contains a then dedN seen r else a::dedN (a::seen) r
def zf5 (wr rd:List Nat) (ov:List (Nat×SV)) (st:St):List Nat→List (Nat×SV)
 | []=>[]
 | i::r=>match zaF ov i with
  | some v=>(i,v)::zf5 wr rd ov st r
  | none=>bif (!(rd.contains i)||wr.contains i||isAny (canV (st.s i))) then zf5 wr rd ov st r else (i,canV (st.s i))::zf5 wr rd ov st r
def zjU:SV→List Nat
 | .own t=>[t]
 | .ptr t _=>[t]
 | .mp t=>[t]
 | .oel t _ _ _=>[t]
 | _=>[]
def tagS:SV→List Nat
 | .agg vs=>vs.flatMap zjU
 | .clo _ vs=>vs.flatMap zjU
 | s=>zjU s
def tagE:BE→List Nat
 | .cells _ vs=>vs.flatMap zjU
 | _=>[]
def znI (om:List (Nat×BE)) (st:St) (l:List Nat):List Nat:=dedN [] (l++l.flatMap fun t=>tagE (match zaF om t with | some v=>v | none=>st.m t))
def zlF (nt:Nat) (lv:List Nat) (om:List (Nat×BE)) (st:St):List Nat→List (Nat×BE)
 | []=>[]
 | t::r=>(t,match zaF om t with | some v=>v | none=>bif (Nat.blt t nt||lv.contains t) then st.m t else .dead)::zlF nt lv om st r
def ziO:List KI→Bool
 | []=>false
 | .mark _::_=>true
 | _::k=>ziO k
def hdRd (fn:Func) (body:Code) (k:List KI):List Nat:=bif ziO k then List.range fn.ntmps else dedN [] (rdC body++(rdK k++rdR fn))
def hdT (ov:List (Nat×SV)) (st:St):List Nat:=dedN [] (ov.map (·.1)++st.tm.map (·.1))
def hdM (om:List (Nat×BE)) (st:St):List Nat:=dedN [] (om.map (·.1)++st.mm.map (·.1))
def hdL (nt:Nat) (om:List (Nat×BE)) (st:St) (tm:List (Nat×SV)):List Nat:=znI om st (znI om st (dedN [] (tm.flatMap (fun p=>tagS p.2)++List.range nt)))
def zcI (fn:Func) (nt:Nat) (body:Code) (k:List KI) (st:St) (ov:List (Nat×SV)) (om:List (Nat×BE)):St:=
 ⟨zf5 (wrC body) (hdRd fn body k) ov st (hdT ov st),st.nt,zlF nt (hdL nt om st (zf5 (wrC body) (hdRd fn body k) ov st (hdT ov st))) om st (hdM om st),st.nx⟩
def Tr.okL (j:Nat):Tr→Bool
 | .loop _ k _=>zdO j k
 | _=>false
def Tr.okB (j:Nat):Tr→Bool
 | .back i _=>Nat.beq i j
 | _=>false
def Tr.okU (j:Nat):Tr→Bool
 | .back i _=>!(Nat.beq i j)
 | _=>false
theorem Tr.okL_eq {X:Tr} {j:Nat} (h:X.okL j=true):X = .loop X.bd X.kk X.ss∧zdO j X.kk=true:=by
 cases X<;>first | exact ⟨rfl,h⟩ | (simp [Tr.okL] at h)
theorem Tr.okB_eq {X:Tr} {j:Nat} (h:X.okB j=true):X = .back j X.ss:=by
 cases X<;>first | (have:=Nat.eq_of_beq_eq_true h;subst this;rfl) | (simp [Tr.okB] at h)
theorem LoopG.head {P:Program} {C:Cfg} {more:Nat→St→TypeId→Op→Option Upd} (hF:World.Fits P C more) {g:Gl} {B:Nat→St→Prop} {X:Tr} (j:Nat)
  {A:Type} (I:A→Prop) (ov:A→List (Nat×SV)) (om:A→List (Nat×BE)) (μ:A→Nat) (x0:A) (hI:I x0) {p0:Prop} (e0:leP g X.ss (zcI g.fn g.nt X.bd X.kk X.ss (ov x0) (om x0))=p0) (h0:p0) (n:Nat) {p:A→(List PE→Prop)→Prop}
  (he:∀ x,vc P g (fun i s=>if i=j then Back g I (fun x=>zcI g.fn g.nt X.bd X.kk X.ss (ov x) (om x)) μ x s else B i s) (exec P C more n X.bd (.mark j::X.kk) (zcI g.fn g.nt X.bd X.kk X.ss (ov x) (om x)) ⟨[],[]⟩) =
   p x (fun r=>vc P g (fun i s=>if i=j then Back g I (fun x=>zcI g.fn g.nt X.bd X.kk X.ss (ov x) (om x)) μ x s else B i s) ((exec P C more n X.bd (.mark j::X.kk) (zcI g.fn g.nt X.bd X.kk X.ss (ov x) (om x)) ⟨[],[]⟩).at r)))
  (round:∀ x,I x→p x (fun r=>vc P g (fun i s=>if i=j then Back g I (fun x=>zcI g.fn g.nt X.bd X.kk X.ss (ov x) (om x)) μ x s else B i s) ((exec P C more n X.bd (.mark j::X.kk) (zcI g.fn g.nt X.bd X.kk X.ss (ov x) (om x)) ⟨[],[]⟩).at r))) (hX:X.okL j=true:=by kernel_rfl):vc P g B X:=by
 obtain ⟨e,hj⟩:=Tr.okL_eq hX
 rw [e]
 exact LoopG.mk hF j hj I (fun x=>zcI g.fn g.nt X.bd X.kk X.ss (ov x) (om x)) μ x0 hI (by rw [e0];exact h0) n (fun x hx=>by rw [he];exact round x hx)
theorem Back.mk {P:Program} {A:Type} {g:Gl} {I:A→Prop} {H:A→St} {μ:A→Nat} {x:A} {B:Nat→St→Prop} {j:Nat} {X:Tr} (y:A) (hI:I y) (hμ:μ y<μ x) {p0:Prop} (e0:leP g X.ss (H y)=p0) (h0:p0) (hX:X.okB j=true:=by kernel_rfl) :
  vc P g (fun i s=>if i=j then Back g I H μ x s else B i s) X:=by
 rw [Tr.okB_eq hX]
 show (if j=j then Back g I H μ x X.ss else B j X.ss)
 rw [if_pos rfl]
 exact ⟨y,hI,hμ,by rw [e0];exact h0⟩
theorem Back.up {P:Program} {g:Gl} {R:St→Prop} {B:Nat→St→Prop} {j:Nat} {X:Tr} (h:vc P g B X) (hX:X.okU j=true:=by kernel_rfl):vc P g (fun i s=>if i=j then R s else B i s) X:=by
 cases X<;>simp only [Tr.okU,Bool.false_eq_true] at hX
 rename_i i st
 show (if i=j then R st else B i st)
 rw [if_neg (fun e=>by subst e;simp at hX)]
 exact h
attribute [irreducible] vc Tr.at zcI leP Tr.ss Tr.bd Tr.kk
end Go.Proofs.Ytfccndnnpkiajaa
namespace Go.Proofs.Ytfccndnnpkiajaa
open Go.RowKit Go.ChangeShapes Go.WideShapes Go.Deep
structure Ent where
 f:FuncId
 wr:Bool
 al:List Nat
 gl:List Nat
 nl:Nat
 vr:List (Nat×TypeId×RL)
 go:List SV→List BE→Option (List Prop×SV×List BE)
def zar (P:Program) (e:Ent):Prop:=FnB P e.f∧∀ ins mi n out mo,e.go ins mi=some (n,out,mo)→(∀ p∈n,p)→FnG P e.f e.nl mi ins out mo
def zh6:List Ent→FuncId→Option Ent
 | [],_=>none
 | e::r,f=>bif Nat.beq e.f f then some e else zh6 r f
theorem zfA:∀ {tab:List Ent} {f:FuncId} {e:Ent},zh6 tab f=some e→e∈tab∧e.f=f
 | [],_,_,h=>by simp [zh6] at h
 | a::r,f,e,h=>by
  simp only [zh6] at h
  cases hb:Nat.beq a.f f
  ·rw [hb] at h
   obtain ⟨h1,h2⟩:=zfA (tab:=r) h
   exact ⟨List.mem_cons_of_mem _ h1,h2⟩
  ·rw [hb] at h
   simp only [cond_true,Option.some.injEq] at h
   subst h
   exact ⟨List.mem_cons_self ..,Nat.eq_of_beq_eq_true hb⟩
def idxO:List Nat→Nat→Option Nat
 | [],_=>none
 | a::r,t=>bif Nat.beq a t then some 0 else (match idxO r t with | some k=>some (k+1) | none=>none)
theorem zeN:∀ {T:List Nat} {t k:Nat},idxO T t=some k→T[k]? = some t
 | a::r,t,k,h=>by
  simp only [idxO] at h
  cases hb:Nat.beq a t
  ·rw [hb] at h
   simp only [cond_false] at h
   split at h
   ·rename_i k2 e
    simp only [Option.some.injEq] at h
    subst h
    simpa using zeN e
   ·simp at h
  ·rw [hb] at h
   simp only [cond_true,Option.some.injEq] at h
   subst h
   have:=Nat.eq_of_beq_eq_true hb
   subst this;rfl
 | [],_,_,h=>by simp [idxO] at h
theorem zf3:∀ {T:List Nat} {t:Nat},idxO T t=none→t∉T
 | a::r,t,h=>by
  simp only [idxO] at h
  cases hb:Nat.beq a t
  ·rw [hb] at h
   simp only [cond_false] at h
   split at h
   ·simp at h
   ·rename_i e
    simp only [List.mem_cons,not_or]
    exact ⟨fun e2=>by rw [e2] at hb;simp at hb,zf3 e⟩
  ·rw [hb] at h;simp at h
 | [],_,_=>by simp
theorem zeC:∀ {T:List Nat} {i j t:Nat},zbg T=true→T[i]? = some t→T[j]? = some t→i=j
 | a::r,0,0,t,_,_,_=>rfl
 | a::r,0,j+1,t,h,h1,h2=>by
  simp only [List.getElem?_cons_zero,Option.some.injEq] at h1
  subst h1
  have:a∈r:=List.mem_of_getElem? (by simpa using h2)
  simp only [zbg,Bool.and_eq_true] at h
  simp [this] at h
 | a::r,i+1,0,t,h,h1,h2=>by
  simp only [List.getElem?_cons_zero,Option.some.injEq] at h2
  subst h2
  have:a∈r:=List.mem_of_getElem? (by simpa using h1)
  simp only [zbg,Bool.and_eq_true] at h
  simp [this] at h
 | a::r,i+1,j+1,t,h,h1,h2=>by
  simp only [zbg,Bool.and_eq_true] at h
  exact congrArg (· + 1) (zeC h.2 (by simpa using h1) (by simpa using h2))
 | [],i,_,_,_,h1,_=>by simp at h1
structure Vw where
 m:Nat→BE
 T:List Nat
def lA (l:Nat):Nat:=bif Nat.blt l 1000 then l else l % 1000
def lO (l:Nat):Nat:=bif Nat.blt l 1000 then l else l / 1000
def loL (l:Nat):List Nat:=bif Nat.beq (lA l) (lO l) then [lA l] else [lA l,lO l]
theorem loL_A (l:Nat):lA l∈loL l:=by unfold loL;cases Nat.beq (lA l) (lO l)<;>simp
theorem loL_O (l:Nat):lO l∈loL l:=by
 unfold loL
 cases h:Nat.beq (lA l) (lO l)
 ·simp
 ·simp [Nat.eq_of_beq_eq_true h]
section view
variable (V : Vw) (l : Nat)
def vw0:SV→SV×List Prop
 | .sl _ r=>(.sl [lA l] r,[])
 | .own t=>match idxO V.T t with
  | some k=>(.own (2+k),[])
  | none=>match V.m t with
   | .row _ _ r=>(.sl (loL l) r,[r.len≤140737488355328])
   | _=>(.any,[])
 | .ptr t o=>match idxO V.T t with
  | some k=>(.ptr (2+k) o,[])
  | none=>(.any,[])
 | .int k n=>(.int k n,[])
 | .bool b=>(.bool b,[])
 | .str s=>(.str s,[])
 | .nil=>(.nil,[])
 | .np=>(.np,[])
 | .fn f=>(.fn f,[])
 | _=>(.any,[])
def vwL (f:SV→SV×List Prop):List SV→List SV×List Prop
 | []=>([],[])
 | s::r=>((f s).1::(vwL f r).1,(f s).2++(vwL f r).2)
def vwR:SV→SV×List Prop
 | .ptr t o=>match idxO V.T t with
  | some k=>(.ptr (2+k) o,[])
  | none=>match V.m t with
   | .cells T vs=>(.rp [lO l] T (vwL (vw0 V l) vs).1 o,(vwL (vw0 V l) vs).2)
   | .obj ob=>bif Nat.beq o 0 then (.ro [lO l] ob,[]) else (.any,[])
   | _=>(.any,[])
 | .rp _ T vs o=>(.rp [lA l] T (vwL (vw0 V l) vs).1 o,(vwL (vw0 V l) vs).2)
 | .ro _ ob=>(.ro [lA l] ob,[])
 | s=>vw0 V l s
def vw1:SV→SV×List Prop
 | .agg vs=>(.agg (vwL (vw0 V l) vs).1,(vwL (vw0 V l) vs).2)
 | .clo f vs=>(.clo f (vwL (vwR V l) vs).1,(vwL (vwR V l) vs).2)
 | s=>vwR V l s
def vwB:BE→BE×List Prop
 | .cells T vs=>(.cells T (vwL (vw0 V l) vs).1,(vwL (vw0 V l) vs).2)
 | .row T _ r=>(.row T [l] r,[])
 | .obj o=>(.obj o,[])
 | _=>(.dead,[])
def lp0:SV→List (Nat×Nat)
 | .sl ls _=>ls.map fun i=>(lA l,i)
 | .own t=>match idxO V.T t with
  | some _=>[]
  | none=>match V.m t with
   | .row _ ls _=>ls.map fun i=>(lA l,i)
   | _=>[]
 | _=>[]
def lpR:SV→List (Nat×Nat)
 | .ptr t o=>match idxO V.T t with
  | some _=>[]
  | none=>match V.m t with
   | .cells _ vs=>vs.flatMap (lp0 V l)
   | _=>[]
 | .rp ls _ vs _=>(ls.map fun i=>(lA l,i))++vs.flatMap (lp0 V l)
 | .ro ls _=>ls.map fun i=>(lA l,i)
 | s=>lp0 V l s
def lp1:SV→List (Nat×Nat)
 | .agg vs=>vs.flatMap (lp0 V l)
 | .clo _ vs=>vs.flatMap (lpR V l)
 | s=>lpR V l s
def lpB:BE→List (Nat×Nat)
 | .cells _ vs=>vs.flatMap (lp0 V l)
 | .row _ ls _=>ls.map fun i=>(l,i)
 | _=>[]
def op0:SV→List (Nat×Nat)
 | .own t=>match idxO V.T t with
  | some _=>[]
  | none=>[(lO l,t)]
 | _=>[]
def opR:SV→List (Nat×Nat)
 | .ptr t o=>match idxO V.T t with
  | some _=>[]
  | none=>match V.m t with
   | .cells _ vs=>(lO l,t)::vs.flatMap (op0 V l)
   | .obj _=>[(lO l,t)]
   | _=>[]
 | .rp _ _ vs _=>vs.flatMap (op0 V l)
 | s=>op0 V l s
def op1:SV→List (Nat×Nat)
 | .agg vs=>vs.flatMap (op0 V l)
 | .clo _ vs=>vs.flatMap (opR V l)
 | s=>opR V l s
def opB:BE→List (Nat×Nat)
 | .cells _ vs=>vs.flatMap (op0 V l)
 | _=>[]
end view
def zipL {α β:Type} (f:Nat→α→β):List α→List Nat→List β
 | [],_=>[]
 | a::r,[]=>f 0 a::zipL f r []
 | a::r,l::ls=>f l a::zipL f r ls
theorem zcb {α β:Type} {f:Nat→α→β}:∀ {xs:List α} {ls:List Nat} {i:Nat} {a:α},xs[i]? = some a→(zipL f xs ls)[i]? = some (f (ls.getD i 0) a)
 | a::r,[],0,x,h=>by simp only [List.getElem?_cons_zero,Option.some.injEq] at h;subst h;rfl
 | a::r,l::ls,0,x,h=>by simp only [List.getElem?_cons_zero,Option.some.injEq] at h;subst h;rfl
 | a::r,[],i+1,x,h=>by
  have:=zcb (f:=f) (xs:=r) (ls:=[]) (i:=i) (a:=x) (by simpa using h)
  simpa [zipL] using this
 | a::r,l::ls,i+1,x,h=>by
  have:=zcb (f:=f) (xs:=r) (ls:=ls) (i:=i) (a:=x) (by simpa using h)
  simpa [zipL] using this
 | [],_,_,_,h=>by simp at h
theorem zdw {α β:Type} {f:Nat→α→β}:∀ (xs:List α) (ls:List Nat),(zipL f xs ls).length=xs.length
 | [],_=>rfl
 | a::r,[]=>by simp [zipL,zdw r]
 | a::r,l::ls=>by simp [zipL,zdw r]
structure Cl where
 V:Vw
 al:List Nat
 gl:List Nat
 nl:Nat
 svs:List SV
def Cl.aV (q:Cl):List (SV×List Prop):=zipL (fun l s=>vw1 q.V l s) q.svs q.al
def Cl.bV (q:Cl):List (BE×List Prop):=zipL (fun l t=>vwB q.V l (q.V.m t)) q.V.T q.gl
def Cl.ins (q:Cl):List SV:=q.aV.map (·.1)
def Cl.mi (q:Cl):List BE:= .dead :: .dead::q.bV.map (·.1)
def Cl.needs (q:Cl):List Prop:=q.aV.flatMap (·.2)++q.bV.flatMap (·.2)
def Cl.LP (q:Cl):List (Nat×Nat):=(zipL (fun l s=>lp1 q.V l s) q.svs q.al).flatMap id++(zipL (fun l t=>lpB q.V l (q.V.m t)) q.V.T q.gl).flatMap id
def Cl.OP (q:Cl):List (Nat×Nat):=(zipL (fun l s=>op1 q.V l s) q.svs q.al).flatMap id++(zipL (fun l t=>opB q.V l (q.V.m t)) q.V.T q.gl).flatMap id
def fnP (l:List (Nat×Nat)):Bool:=l.all fun p=>l.all fun q=>!(Nat.beq p.2 q.2)||Nat.beq p.1 q.1
def Cl.ok (q:Cl):Bool:=
 zbg q.V.T&&fnP q.LP&&fnP q.OP&&q.LP.all (fun p=>Nat.blt p.1 q.nl)&&q.OP.all (fun p=>Nat.blt p.1 q.nl&&!(q.V.T.contains p.2))&&Nat.ble q.nl (2+q.V.T.length)&&q.V.T.all (fun u=>(q.V.m u).live) &&
 q.bV.all (fun e=>match e.1 with | .cells _ vs=>vs.all SV.flat | _=>true)
def relL (q:Cl) (c:Nat) (ls:List Nat):List Nat:=ls.flatMap fun i=>bif Nat.blt i q.nl then (q.LP.filter fun p=>Nat.beq p.1 i).map (·.2) else [c+(i-q.nl)]
def relT (q:Cl) (c t:Nat):Nat:=bif Nat.blt t (2+q.V.T.length) then q.V.T.getD (t-2) 0 else c+(t-(2+q.V.T.length))
def rel0 (q:Cl) (c:Nat):SV→SV
 | .sl ls r=> .sl (relL q c ls) r
 | .own t=> .own (relT q c t)
 | .ptr t o=> .ptr (relT q c t) o
 | .int k n=> .int k n
 | .bool b=> .bool b
 | .str s=> .str s
 | .nil=> .nil
 | .np=> .np
 | .fn f=> .fn f
 | _=> .any
def rel1 (q:Cl) (c:Nat):SV→SV
 | .agg vs=> .agg (vs.map (rel0 q c))
 | .clo f vs=> .clo f (vs.map (rel0 q c))
 | s=>rel0 q c s
def relV (q:Cl) (c:Nat):SV→SV
 | .tup vs=> .tup (vs.map (rel1 q c))
 | s=>rel1 q c s
def relB (q:Cl) (c:Nat):BE→BE
 | .cells T vs=> .cells T (vs.map (rel0 q c))
 | .row T ls r=> .row T (relL q c ls) r
 | .obj o=> .obj o
 | _=> .dead
def okLs (q:Cl) (ls:List Nat):Bool:=ls.all fun i=>bif Nat.blt i q.nl then !(q.OP.any fun p=>Nat.beq p.1 i) else Nat.blt (i-q.nl) 16
def ok0 (q:Cl) (n:Nat):SV→Bool
 | .own t=>Nat.blt 1 t&&Nat.blt t n
 | .ptr t _=>Nat.blt 1 t&&Nat.blt t n
 | .sl ls _=>okLs q ls
 | _=>true
def ok1 (q:Cl) (n:Nat):SV→Bool
 | .agg vs=>vs.all (ok0 q n)
 | .clo _ vs=>vs.all (ok0 q n)
 | s=>ok0 q n s
def okV (q:Cl) (n:Nat):SV→Bool
 | .tup vs=>vs.all (ok1 q n)
 | s=>ok1 q n s
def okB (q:Cl) (n:Nat):BE→Bool
 | .cells _ vs=>vs.all (ok0 q n)
 | .row _ ls _=>okLs q ls
 | _=>true
def Cl.okO (q:Cl) (out:SV) (mo:List BE):Bool:=okV q mo.length out&&mo.all (okB q mo.length)&&Nat.ble mo.length (2+q.V.T.length+16)&&Nat.ble (2+q.V.T.length) mo.length
def asg {α:Type} (f:Nat→Nat→α):Nat→List Nat→List (Nat×α)
 | _,[]=>[]
 | k,t::r=>(t,f k t)::asg f (k+1) r
def Cl.upds (q:Cl) (c:Nat) (mo:List BE):List (Nat×BE):=
 asg (fun k _=>relB q c (mo.getD (2+k) .dead)) 0 q.V.T++asg (fun j _=>relB q c (mo.getD (2+q.V.T.length+j) .dead)) 0 (blkN c 16)
section
variable {P : Program} {base : Nat} {X : Cx} {w0 : World}
def Cl.env (q:Cl) (E:Env):Env where
 β:=fun t=>match t with
  | 0=>none
  | 1=>none
  | k+2=>match q.V.T[k]? with
   | some u=>E.β u
   | none=>none
 σ:=fun i b=>(∃ j,(i,j)∈q.LP∧E.σ j b)∨∃ t,(i,t)∈q.OP∧Has E q.V.m t b
 φ:=fun t b=>match t with
  | 0=>False
  | 1=>False
  | k+2=>match q.V.T[k]? with
   | some u=>E.φ u b
   | none=>False
theorem Cl.env_β (q:Cl) (E:Env) {t k:Nat} (h:idxO q.V.T t=some k):(q.env E).β (2+k)=E.β t:=by
 rw [Nat.add_comm]
 show (match q.V.T[k]? with | some u=>E.β u | none=>none)=_
 rw [zeN h]
theorem zee {E E':Env} {w:World} {f:SV→SV×List Prop}:∀ (ss:List SV) (vs:List Value),(∀ s,s∈ss→∀ v,DenV E w s v→(∀ p∈(f s).2,p)→DenV E' w (f s).1 v)→DenL E w ss vs→(∀ p∈(vwL f ss).2,p)→DenL E' w (vwL f ss).1 vs
 | [],[],_,_,_=>trivial
 | s::ss,v::vs,hf,h,hn=>⟨hf s (List.mem_cons_self ..) v h.1 (fun p hp=>hn p (List.mem_append_left _ hp)),zee ss vs (fun s hs=>hf s (List.mem_cons_of_mem _ hs)) h.2 (fun p hp=>hn p (List.mem_append_right _ hp))⟩
 | [],_::_,_,h,_=>h.elim
 | _::_,[],_,h,_=>h.elim
section den
variable {q : Cl} {E : Env} {w : World} (hm : MemOk base X w0 E q.V.m w) {l : Nat}
include hm
theorem Cl.set0 {l:Nat} {ls:List Nat} {b:Nat} (hl:∀ i,i∈ls→(l,i)∈q.LP) (hb:E.set ls b):(q.env E).set [l] b:=by
 obtain ⟨i,hi,hs⟩:=hb
 exact ⟨l,by simp,.inl ⟨i,hl i hi,hs⟩⟩
theorem Cl.set1 {ls ms:List Nat} {b:Nat} (hms:lA l∈ms) (hl:∀ i,i∈ls→(lA l,i)∈q.LP) (hb:E.set ls b):(q.env E).set ms b:=by
 obtain ⟨i,hi,hs⟩:=hb
 exact ⟨lA l,hms,.inl ⟨i,hl i hi,hs⟩⟩
theorem Cl.den0 {s:SV} (hl:∀ p,p∈lp0 q.V l s→p∈q.LP) (ho:∀ p,p∈op0 q.V l s→p∈q.OP) {v:Value} (hv:DenV E w s v) (hn:∀ p∈(vw0 q.V l s).2,p):DenV (q.env E) w (vw0 q.V l s).1 v:=by
 cases s
 case sl ls r=>exact Rd.mono hv (fun b _ hb=>Cl.set1 hm (by simp) (fun i hi=>hl _ (List.mem_map.2 ⟨i,hi,rfl⟩)) hb)
 case own t=>
  simp only [vw0,lp0,op0] at hn hl ho ⊢
  cases hi:idxO q.V.T t with
  | some k=>exact ⟨(q.env_β E hi).trans hv.1,hv.2⟩
  | none=>
   rw [hi] at hn hl ho
   simp only at hn hl ho ⊢
   cases hmt:q.V.m t with
   | row T ls r=>
    rw [hmt] at hn hl
    obtain ⟨v',hβ,ho2⟩:=hm.row t T ls r hmt
    have hv1:=hv.1
    rw [hβ] at hv1
    simp only [Option.some.injEq] at hv1
    subst hv1
    obtain ⟨a,cc,ef⟩:=ho2.form
    have hle:r.len≤140737488355328:=hn _ (by simp)
    have hs:=ho2.slO ((q.env E).set (loL l)) (fun b hb=>Cl.set1 hm (loL_A l) (fun i hi=>hl _ (List.mem_map.2 ⟨i,hi,rfl⟩)) hb) (fun b _ hb=>⟨lO l,loL_O l,.inr ⟨t,ho _ (by simp),Has.row hmt hβ (by rw [← zaq ⟨a,_,cc,ef⟩];exact hb)⟩⟩) (by rw [r.rows_len];exact hle)
    obtain ⟨a2,c2,e2,h2⟩:=hs
    rw [e2];exact h2
   | _=>trivial
 case ptr t o=>
  simp only [vw0]
  cases hi:idxO q.V.T t with
  | some k=>
   obtain ⟨b,h1,h2⟩:=hv
   exact ⟨b,(q.env_β E hi).trans h1,h2⟩
  | none=>trivial
 all_goals first | exact hv | trivial
theorem Cl.denR {s:SV} (hl:∀ p,p∈lpR q.V l s→p∈q.LP) (ho:∀ p,p∈opR q.V l s→p∈q.OP) {v:Value} (hv:DenV E w s v) (hn:∀ p∈(vwR q.V l s).2,p):DenV (q.env E) w (vwR q.V l s).1 v:=by
 cases s
 case ptr t o=>
  simp only [vwR,lpR,opR] at hn hl ho ⊢
  cases hi:idxO q.V.T t with
  | some k=>
   obtain ⟨b,h1,h2⟩:=hv
   exact ⟨b,(q.env_β E hi).trans h1,h2⟩
  | none=>
   rw [hi] at hn hl ho
   simp only at hn hl ho ⊢
   cases hmt:q.V.m t with
   | cells T vs=>
    rw [hmt] at hn hl ho
    obtain ⟨b,h1,rfl⟩:=hv
    obtain ⟨b',xs,c1,c2,c3,c4⟩:=hm.cells t T vs hmt
    rw [c1] at h1
    simp only [Option.some.injEq,Value.pointer.injEq,Addr.mk.injEq,and_true] at h1
    subst h1
    refine ⟨b',xs,rfl,⟨lO l,by simp,.inr ⟨t,ho _ (List.mem_cons_self ..),Has.cells hmt c1 rfl⟩⟩,c2,zee vs xs (fun s hs v hv hp=>Cl.den0 hm (fun p hp=>hl p (List.mem_flatMap.2 ⟨s,hs,hp⟩)) (fun p hp=>ho p (List.mem_cons_of_mem _ (List.mem_flatMap.2 ⟨s,hs,hp⟩))) hv hp) c3 hn⟩
   | obj ob=>
    rw [hmt] at ho
    cases hb:Nat.beq o 0
    ·simp only [hb,cond_false];trivial
    ·simp only [hb,cond_true]
     have e0:=Nat.eq_of_beq_eq_true hb
     subst e0
     obtain ⟨b,h1,rfl⟩:=hv
     obtain ⟨b',c1,c2⟩:=hm.obj t ob hmt
     rw [c1] at h1
     simp only [Option.some.injEq,Value.pointer.injEq,Addr.mk.injEq,and_true] at h1
     subst h1
     refine ⟨b',E.φ t,rfl,c2,fun x hx=>⟨lO l,by simp,.inr ⟨t,ho _ (by simp),?_⟩⟩⟩
     exact ⟨by rw [hmt];rfl,_,c1,by rw [hmt];exact hx⟩
   | _=>trivial
 case rp ls T vs o=>
  obtain ⟨b,xs,h1,h2,h3,h4⟩:=hv
  exact ⟨b,xs,h1,Cl.set1 hm (by simp) (fun i hi=>hl _ (List.mem_append_left _ (List.mem_map.2 ⟨i,hi,rfl⟩))) h2,h3,zee vs xs (fun s hs v hv hp=>Cl.den0 hm (fun p hp=>hl p (List.mem_append_right _ (List.mem_flatMap.2 ⟨s,hs,hp⟩))) (fun p hp=>ho p (List.mem_flatMap.2 ⟨s,hs,hp⟩)) hv hp) h4 hn⟩
 case ro ls ob=>
  obtain ⟨b,F,h1,h2,h3⟩:=hv
  exact ⟨b,F,h1,h2,fun x hx=>Cl.set1 hm (by simp) (fun i hi=>hl _ (List.mem_map.2 ⟨i,hi,rfl⟩)) (h3 x hx)⟩
 all_goals
  have h2:=fun h1 h3 h4=>Cl.den0 (q:=q) (l:=l) hm (v:=v) h1 h3 hv h4
  exact h2 hl ho hn
theorem Cl.den1 {s:SV} (hl:∀ p,p∈lp1 q.V l s→p∈q.LP) (ho:∀ p,p∈op1 q.V l s→p∈q.OP) {v:Value} (hv:DenV E w s v) (hn:∀ p∈(vw1 q.V l s).2,p):DenV (q.env E) w (vw1 q.V l s).1 v:=by
 cases s
 case agg vs=>
  obtain ⟨xs,h1,h2⟩:=hv
  exact ⟨xs,h1,zee vs xs (fun s hs v hv hp=>Cl.den0 hm (fun p hp=>hl p (List.mem_flatMap.2 ⟨s,hs,hp⟩)) (fun p hp=>ho p (List.mem_flatMap.2 ⟨s,hs,hp⟩)) hv hp) h2 hn⟩
 case clo f vs=>
  obtain ⟨xs,h1,h2⟩:=hv
  exact ⟨xs,h1,zee vs xs (fun s hs v hv hp=>Cl.denR hm (fun p hp=>hl p (List.mem_flatMap.2 ⟨s,hs,hp⟩)) (fun p hp=>ho p (List.mem_flatMap.2 ⟨s,hs,hp⟩)) hv hp) h2 hn⟩
 all_goals
  have h2:=fun h1 h3 h4=>Cl.denR (q:=q) (l:=l) hm (v:=v) h1 h3 hv h4
  exact h2 hl ho hn
theorem Cl.denA:∀ (svs:List SV) (al:List Nat) (vals:List Value),(∀ p,p∈(zipL (fun l s=>lp1 q.V l s) svs al).flatMap id→p∈q.LP)→(∀ p,p∈(zipL (fun l s=>op1 q.V l s) svs al).flatMap id→p∈q.OP)→DenL E w svs vals→(∀ p∈(zipL (fun l s=>vw1 q.V l s) svs al).flatMap (·.2),p) →
  DenL (q.env E) w ((zipL (fun l s=>vw1 q.V l s) svs al).map (·.1)) vals
 | [],_,[],_,_,_,_=>trivial
 | s::r,[],v::vals,hl,ho,hv,hn=>
  ⟨Cl.den1 hm (fun p hp=>hl p (List.mem_append_left _ hp)) (fun p hp=>ho p (List.mem_append_left _ hp)) hv.1 (fun p hp=>hn p (List.mem_append_left _ hp)),
   Cl.denA r [] vals (fun p hp=>hl p (List.mem_append_right _ hp)) (fun p hp=>ho p (List.mem_append_right _ hp)) hv.2 (fun p hp=>hn p (List.mem_append_right _ hp))⟩
 | s::r,a::al,v::vals,hl,ho,hv,hn=>
  ⟨Cl.den1 hm (fun p hp=>hl p (List.mem_append_left _ hp)) (fun p hp=>ho p (List.mem_append_left _ hp)) hv.1 (fun p hp=>hn p (List.mem_append_left _ hp)),
   Cl.denA r al vals (fun p hp=>hl p (List.mem_append_right _ hp)) (fun p hp=>ho p (List.mem_append_right _ hp)) hv.2 (fun p hp=>hn p (List.mem_append_right _ hp))⟩
 | [],_,_::_,_,_,h,_=>h.elim
 | _::_,_,[],_,_,h,_=>h.elim
end den
end
end Go.Proofs.Ytfccndnnpkiajaa
