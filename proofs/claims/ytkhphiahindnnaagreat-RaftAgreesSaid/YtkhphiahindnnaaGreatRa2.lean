/- Parts of the proof, joined: the symbolic walk and what it is told of each function. Condition: as each theorem says. -/
import Derived.Deep.LoopGhost
import Derived.Test.YtkhphiahindnnaaGreatRa1
set_option linter.unusedVariables false
set_option linter.unusedSimpArgs false
set_option linter.unusedSectionVars false
namespace Go.Proofs.YtkhphiahindnnaaGreat
open Go.RowKit Go.ChangeShapes Go.WideShapes Go.Deep
def zao:SV->List Nat
 | .ptr t _=>[t]
 | .mp t=>[t]
 | .own t=>[t]
 | .oel t _ _ _=>[t]
 | .ov t _=>[t]
 | _=>[]
def svR:SV->List Nat
 | .rp _ _ vs _=>vs.flatMap zao
 | s=>zao s
def zaZ:SV->List Nat
 | .agg vs=>vs.flatMap zao
 | .gd _ (.agg vs)=>vs.flatMap zao
 | .gd _ (.clo _ vs)=>vs.flatMap svR
 | .gd _ s=>svR s
 | .clo _ vs=>vs.flatMap svR
 | s=>svR s
def zb5 (st:St) (ss:List SV):List Nat:=
 ss.flatMap zaZ++(ss.flatMap zaZ).flatMap fun t=>match st.m t with | .cells _ vs=>vs.flatMap zao | _=>[]
theorem zdy (op:Op):0<wid op:=by unfold wid;split<;>decide
def blkN:Nat->Nat->List Nat
 | _,0=>[]
 | c,n+1=>c::blkN (c+1) n
theorem zdr:∀ (n c t:Nat),t∈blkN c n↔c<=t/\t<c+n
 | 0,c,t=>by simp [blkN]
 | n+1,c,t=>by rw [blkN,List.mem_cons,zdr n];omega
structure Agree (a b:St) (c n:Nat) (xs:List Operand):Prop where
 like:Like a b
 ev:∀ x,x∈xs->a.ev x=b.ev x
 m:∀ t,t∈blkN c n\/t∈zb5 a (xs.map fun x=>(zal (a.ev x)).1)->a.m t=b.m t
 w:∀ t,t∈zb5 a (xs.map fun x=>(zal (a.ev x)).1)->a.m (lbF t)=b.m (lbF t)
theorem zwg {st:St} {ss:List SV} {s:SV} (hs:s∈ss) {t:Nat} (ht:t∈zao s):t∈zb5 st ss:=by
 refine List.mem_append_left _ (List.mem_flatMap.2 ⟨s,hs,?_⟩)
 cases s<;>first | exact ht | (simp [zao] at ht)
theorem Agree.tag {a b:St} {c n:Nat} {xs:List Operand} (h:Agree a b c n xs) {x:Operand} (hx:x∈xs) {t:Nat} (ht:t∈zao (zal (a.ev x)).1):a.m t=b.m t:=
 h.m t (.inr (zwg (List.mem_map.2 ⟨x,hx,rfl⟩) ht))
theorem Agree.cells {a b:St} {c n:Nat} {xs:List Operand} (h:Agree a b c n xs) {x:Operand} (hx:x∈xs):zc3 a (zal (a.ev x)).1=zc3 b (zal (a.ev x)).1:=by
 have:=fun t=>h.tag hx (t:=t)
 cases hs:(zal (a.ev x)).1<;>simp only [zc3]<;>rw [hs] at this<;>rw [this _ (by simp [zao])]
theorem Agree.len {a b:St} {c n:Nat} {xs:List Operand} (h:Agree a b c n xs) {x:Operand} (hx:x∈xs):lenV a (zal (a.ev x)).1=lenV b (zal (a.ev x)).1:=by
 have:=fun t=>h.tag hx (t:=t)
 cases hs:(zal (a.ev x)).1<;>simp only [lenV]<;>rw [hs] at this<;>rw [this _ (by simp [zao])]
theorem Agree.free {a b:St} {c n:Nat} {xs:List Operand} (h:Agree a b c n xs) (hn:0<n):a.free c=b.free c:=by
 simp only [St.free,h.m c (.inl ((zdr n c c).2 ⟨Nat.le_refl _,by omega⟩))]
def zfF (C:Cfg):Prop:=∀ c f a b svs,Like a b->(∀ t,t∈blkN c 24\/t∈zb5 a svs->a.m t=b.m t)->C.orc c f a svs=C.orc c f b svs
def zdN (more:Nat->St->TypeId->Op->Option Upd):Prop:=∀ c a b ty op,Agree a b c (wid op) op.operands.toList->more c a ty op=more c b ty op
theorem zeX {a b:St}:∀ (xs:List Operand),(∀ x,x∈xs->a.ev x=b.ev x)->evL a xs=evL b xs
 | [],_=>rfl
 | x::r,h=>by rw [evL,evL,h x (List.mem_cons_self ..),zeX r (fun y hy=>h y (List.mem_cons_of_mem _ hy))]
theorem zls {a:St}:∀ (xs:List Operand),(evL a xs).1=xs.map fun x=>(zal (a.ev x)).1
 | []=>rfl
 | x::r=>by rw [evL,List.map_cons,zls r]
theorem zd8 {a b:St}:∀ (xs:List (Nat×Operand)),(∀ x,x∈xs.map (·.2)->a.ev x=b.ev x)->zck a xs=zck b xs
 | [],_=>rfl
 | (i,x)::r,h=>by rw [zck,zck,h x (by simp),zd8 r (fun y hy=>h y (List.mem_cons_of_mem _ hy))]
theorem zog {P:Program} {C:Cfg} {more:Nat->St->TypeId->Op->Option Upd} (hC:zfF C) (hM:zdN more) {c:Nat} {a b:St} {ty:TypeId} {op:Op} (h:Agree a b c (wid op) op.operands.toList):core P C more c a ty op=core P C more c b ty op:=by
 have hev:=h.ev
 unfold core
 split
 ·rename_i x;simp only [zlI,hev x (by simp [Op.operands])]
 ·rename_i x;simp only [zlI,hev x (by simp [Op.operands])]
 ·rename_i x y z;simp only [ztB,hev x (by simp [Op.operands]),hev y (by simp [Op.operands]),hev z (by simp [Op.operands])]
 ·rename_i T x;simp only [cBox,hev x (by simp [Op.operands]),h.free (zdy _)]
 ·simp only [znd,h.free (zdy _)]
 ·rename_i T ps
  simp only [znc]
  rw [zd8 ps.toList (fun x hx=>hev x (by simpa [Op.operands] using hx))]
 ·rename_i T x
  simp only [ztG]
  rw [h.cells (x:=x) (by simp [Op.operands]),hev x (by simp [Op.operands])]
 ·rename_i T x y
  have e:zhW P a T x y=zhW P b T x y:=by
   have hx:=hev x (by simp [Op.operands])
   have ht:=fun t=>h.tag (x:=x) (by simp [Op.operands]) (t:=t)
   simp only [zhW,hev y (by simp [Op.operands])]
   rw [<- hx]
   rcases hs:zal (a.ev x) with ⟨s,n⟩
   rw [hs] at ht
   cases s
   case ptr t off=>
    have e2:=ht t (by simp [zao])
    rcases zal (b.ev y) with ⟨s2,n2⟩
    cases zc7 P T with
    | none=>rfl
    | some k=>simp only [e2]
   all_goals rfl
  rw [e,hM c a b ty _ h]
 ·rename_i T x f;simp only [zbD,hev x (by simp [Op.operands])]
 ·rename_i T x f;simp only [znb,hev x (by simp [Op.operands])]
 ·rename_i T x i
  simp only [zed,hev i (by simp [Op.operands])]
  have hx:=hev x (by simp [Op.operands])
  have ht:=fun t=>h.tag (x:=x) (by simp [Op.operands]) (t:=t)
  rw [<- hx]
  rcases hs:zal (a.ev x) with ⟨s,n⟩
  rw [hs] at ht
  cases zch P T with
  | none=>rfl
  | some e=>
   rcases zal (b.ev i) with ⟨si,n1⟩
   cases si
   case int k m=>
    cases hz:zc7 P e with
    | none=>cases s<;>simp only [hz]
    | some sz=>
     cases s
     case own t=>simp only [hz];rw [ht t (by simp [zao])]
     all_goals simp only [hz]
   all_goals rfl
 ·rename_i x i;simp only [zfW,hev x (by simp [Op.operands])]
 ·rename_i op T x y T2
  have e:cBin P a op T x y=cBin P b op T x y:=by simp only [cBin,hev x (by simp [Op.operands]),hev y (by simp [Op.operands])]
  rw [e,hM c a b ty _ h]
 ·rename_i op T x;simp only [cUn,hev x (by simp [Op.operands])]
 ·rename_i s d x
  have e:zor P a s d x=zor P b s d x:=by simp only [zor,hev x (by simp [Op.operands])]
  rw [e,hM c a b ty _ h]
 ·rename_i x;simp only [cNil,hev x (by simp [Op.operands])]
 ·rename_i f xs ts
  have hmem:∀ x,x∈xs.toList->x∈(Op.call ⟨.value (.func f),xs,ts⟩).operands.toList:=fun x hx=>by simp [Op.operands,Call.operands];exact .inr (by simpa using hx)
  have e2:=zeX xs.toList (fun x hx=>hev x (hmem x hx))
  have e3:=hC c f a b (evL a xs.toList).1 h.like (fun t ht=>h.m t (by
   rcases ht with ht | ht
   ·exact .inl ht
   ·right
    rw [zls] at ht
    simp only [zb5,List.mem_append,List.mem_flatMap] at ht ⊢
    have key:∀ s,s∈List.map (fun x=>(zal (a.ev x)).1) xs.toList->s∈List.map (fun x=>(zal (a.ev x)).1) (Op.call ⟨.value (.func f),xs,ts⟩).operands.toList:=by
     intro s hs
     obtain ⟨x,hx,e⟩:=List.mem_map.1 hs
     exact List.mem_map.2 ⟨x,hmem x hx,e⟩
    rcases ht with ⟨s,h1,h2⟩ | ⟨t2,⟨s,h1,h2⟩,h3⟩
    ·exact .inl ⟨s,key s h1,h2⟩
    ·exact .inr ⟨t2,⟨s,key s h1,h2⟩,h3⟩))
  simp only [cFun]
  rw [e3,e2]
 ·rename_i t0 xs ts
  have hmem:∀ x,x∈xs.toList->x∈(Op.call ⟨.value (.tmp t0),xs,ts⟩).operands.toList:=fun x hx=>by simp [Op.operands,Call.operands];exact .inr (by simpa using hx)
  have e2:=zeX xs.toList (fun x hx=>hev x (hmem x hx))
  have e0:=hev (.tmp t0) (by simp [Op.operands,Call.operands])
  have key:∀ f cs,(∀ s,s∈cs->∃ x,x∈(Op.call ⟨.value (.tmp t0),xs,ts⟩).operands.toList/\(∀ t,t∈svR s->t∈zaZ (zal (a.ev x)).1))->(∀ s,s∈cs->zaZ s=svR s)->C.orc c f a ((evL a xs.toList).1++cs)=C.orc c f b ((evL a xs.toList).1++cs):=by
   intro f cs hcs hlf
   refine hC c f a b _ h.like (fun t ht=>h.m t ?_)
   rcases ht with ht | ht
   ·exact .inl ht
   ·right
    rw [zls] at ht
    have hin:∀ t2,t2∈((xs.toList.map fun x=>(zal (a.ev x)).1)++cs).flatMap zaZ->t2∈(List.map (fun x=>(zal (a.ev x)).1) (Op.call ⟨.value (.tmp t0),xs,ts⟩).operands.toList).flatMap zaZ:=by
     intro t2 h2
     obtain ⟨s,hs,h3⟩:=List.mem_flatMap.1 h2
     rcases List.mem_append.1 hs with hs | hs
     ·obtain ⟨x,hx,e⟩:=List.mem_map.1 hs
      exact List.mem_flatMap.2 ⟨s,List.mem_map.2 ⟨x,hmem x hx,e⟩,h3⟩
     ·obtain ⟨x,hx,h4⟩:=hcs s hs
      exact List.mem_flatMap.2 ⟨_,List.mem_map.2 ⟨x,hx,rfl⟩,h4 t2 (by rw [<- hlf s hs];exact h3)⟩
    simp only [zb5,List.mem_append] at ht ⊢
    rcases ht with h1 | h1
    ·exact .inl (hin t h1)
    ·obtain ⟨t2,h2,h3⟩:=List.mem_flatMap.1 h1
     exact .inr (List.mem_flatMap.2 ⟨t2,hin t2 h2,h3⟩)
  simp only [cClo]
  rw [<- e2,<- e0]
  rcases hs:zal (a.ev (.tmp t0)) with ⟨s,n⟩
  cases s
  case fn f=>simp only [];have:=key f [] (fun s hs=>by cases hs) (fun s hs=>by cases hs);rw [List.append_nil] at this;rw [this]
  case clo f cs=>
   by_cases hfl:cs.all SV.cap=true
   ·have:=key f cs (fun s hs2=>⟨.tmp t0,by simp [Op.operands,Call.operands],fun t ht=>by rw [hs];exact List.mem_flatMap.2 ⟨s,hs2,ht⟩⟩) (fun s hs2=>by
     have:=List.all_eq_true.1 hfl s hs2
     cases s<;>first | rfl | (simp [SV.cap,SV.flat] at this))
    simp only [hfl,if_true,this]
   ·simp only [hfl,if_false,Bool.false_eq_true]
  all_goals rfl
 ·rename_i x T
  simp only [cLen]
  rw [h.len (x:=x) (by simp [Op.operands,Call.operands]),hev x (by simp [Op.operands,Call.operands])]
 ·exact hM c a b ty _ h
theorem zgA {P:Program} {C:Cfg} {more:Nat->St->TypeId->Op->Option Upd} (hC:zfF C) (hM:zdN more) {c:Nat} {a b:St} {ty:TypeId} {op:Op} (h:Agree a b c (wid op) op.operands.toList):zeh P C more c a ty op=zeh P C more c b ty op:=by
 unfold zeh;rw [zog (P:=P) (ty:=ty) hC hM h,hM c a b ty op h]
theorem zqp {a b:St} {s:SV} (h:∀ t,t∈zao s->a.m t=b.m t):frz0 a s=frz0 b s/\zdJ a s=zdJ b s:=by
 cases s
 case own t=>
  have:=h t (by simp [zao])
  simp only [frz0,zdJ,this,and_self]
 all_goals exact ⟨rfl,rfl⟩
theorem zvE {a b:St} {s:SV} (h:∀ t,t∈zaZ (zal s).1->a.m t=b.m t):frz1 a s=frz1 b s/\zfu a s=zfu b s:=by
 cases s
 case agg vs=>
  have h:∀ t,t∈vs.flatMap zao->a.m t=b.m t:=h
  have key:∀ (l:List SV),(∀ t,t∈l.flatMap zao->a.m t=b.m t)->l.map (frz0 a)=l.map (frz0 b)/\l.flatMap (zdJ a)=l.flatMap (zdJ b):=by
   intro l
   induction l with
   | nil=>intro _;exact ⟨rfl,rfl⟩
   | cons x l ih=>
    intro hl
    have h1:=zqp (a:=a) (b:=b) (s:=x) (fun t ht=>hl t (List.mem_append_left _ ht))
    have h2:=ih (fun t ht=>hl t (List.mem_append_right _ ht))
    simp only [List.map_cons,List.flatMap_cons,h1.1,h1.2,h2.1,h2.2,and_self]
  exact ⟨congrArg SV.agg (key vs h).1,(key vs h).2⟩
 case own u=>exact zqp (s:= .own u) fun t ht=>h t ht
 all_goals exact ⟨rfl,rfl⟩
theorem ze8:∀ {xs:List Operand} {i:Nat},i∈ze9 xs -> .tmp i∈xs
 | [],i,h=>by simp [ze9] at h
 | x::r,i,h=>by
  cases x with
  | tmp t=>
   rcases List.mem_cons.1 h with e | h
   ·rw [e];exact List.mem_cons_self ..
   ·exact List.mem_cons_of_mem _ (ze8 h)
  | _=>exact List.mem_cons_of_mem _ (ze8 h)
theorem zcO:∀ {xs:List Operand} {i:Nat},.tmp i∈xs->i∈ze9 xs
 | [],i,h=>by cases h
 | x::r,i,h=>by
  rcases List.mem_cons.1 h with e | h2
  ·rw [<- e];exact List.mem_cons_self ..
  ·cases x with
   | tmp t=>exact List.mem_cons_of_mem _ (zcO h2)
   | _=>exact zcO (xs:=r) h2
theorem zqm {st:St} {s:SV} {t:Nat} (h:t∈zao (frz0 st s)):t∈zao s:=by
 rcases zfv st s with e | ⟨u,hu⟩
 ·rwa [e] at h
 ·obtain ⟨rfl,T,ls,r,_,e⟩:=zcz hu
  rw [e] at h
  simp [zao] at h
theorem zql {st:St} {s:SV} {t:Nat} (h:t∈zaZ (zal (frz1 st s)).1):t∈zaZ (zal s).1:=by
 cases s
 case agg vs=>
  obtain ⟨x,hx,ht⟩:=List.mem_flatMap.1 h
  obtain ⟨y,hy,rfl⟩:=List.mem_map.1 hx
  exact List.mem_flatMap.2 ⟨y,hy,zqm ht⟩
 case own u=>
  rcases zfv st (.own u) with e | ⟨v,hv⟩
  ·rwa [show frz1 st (.own u)=frz0 st (.own u) from rfl,e] at h
  ·obtain ⟨_,T,ls,r,_,e⟩:=zcz hv
   rw [show frz1 st (.own u)=frz0 st (.own u) from rfl,e] at h
   have h:t∈([]:List Nat):=h
   cases h
 all_goals exact h
theorem znQ {P:Program} {C:Cfg} {more:Nat->St->TypeId->Op->Option Upd} (hC:zfF C) (hM:zdN more) {c:Nat} {a b:St} {ty:TypeId} {op:Op} (h:Agree a b c (wid op) op.operands.toList):full P C more c a ty op=full P C more c b ty op:=by
 generalize hxs:op.operands.toList=xs at h
 have hag:Agree a b c (wid op) op.operands.toList:=by rw [hxs];exact h
 have htag:∀ i,i∈ze9 xs->∀ t,t∈zaZ (zal (a.s i)).1->t∈zb5 a (xs.map fun x=>(zal (a.ev x)).1):=fun i hi t ht=>
  List.mem_append_left _ (List.mem_flatMap.2 ⟨(zal (a.s i)).1,List.mem_map.2 ⟨.tmp i,ze8 hi,rfl⟩,ht⟩)
 have hs:∀ i,i∈ze9 xs->a.s i=b.s i:=fun i hi=>h.ev (.tmp i) (ze8 hi)
 have he:∀ i,i∈ze9 xs->frz1 a (a.s i)=frz1 b (b.s i)/\zfu a (a.s i)=zfu b (b.s i):=fun i hi=>by
  rw [<- hs i hi]
  exact zvE fun t ht=>h.m t (.inr (htag i hi t ht))
 have hts:zcT a xs=zcT b xs:=by
  unfold zcT
  have:∀ (l:List Nat),(∀ i,i∈l->i∈ze9 xs)->(l.flatMap fun i=>zfu a (a.s i))=l.flatMap fun i=>zfu b (b.s i):=by
   intro l
   induction l with
   | nil=>intro _;rfl
   | cons x l ih=>
    intro hl
    rw [List.flatMap_cons,List.flatMap_cons,(he x (hl x (List.mem_cons_self ..))).2,ih fun i hi=>hl i (List.mem_cons_of_mem _ hi)]
  exact this _ fun i hi=>hi
 have hdt:∀ t,t∈zcT a xs->t∈zb5 a (xs.map fun x=>(zal (a.ev x)).1):=fun t ht=>by
  obtain ⟨i,hi,h2⟩:=List.mem_flatMap.1 ht
  refine htag i hi t ?_
  cases hsi:a.s i with
  | agg vs=>
   rw [hsi] at h2
   obtain ⟨x,hx,h3⟩:=List.mem_flatMap.1 h2
   obtain ⟨rfl,_⟩:=zcz h3
   exact List.mem_flatMap.2 ⟨_,hx,by simp [zao]⟩
  | own u=>
   rw [hsi] at h2
   obtain ⟨e,_⟩:=zcz (s:= .own u) h2
   cases e
   exact List.mem_singleton.2 rfl
  | _=>rw [hsi] at h2;simp [zfu] at h2
 have hin:∀ t,t∈zcT a xs->a.m t=b.m t:=fun t ht=>h.m t (.inr (hdt t ht))
 have hfr:∀ l:List Nat,(∀ t,t∈l->t∈zcT a xs)->l.all (fun t=>a.free (lbF t))=l.all (fun t=>b.free (lbF t)):=by
  intro l
  induction l with
  | nil=>intro _;rfl
  | cons x l ih=>
   intro hl
   rw [List.all_cons,List.all_cons,ih fun t ht=>hl t (List.mem_cons_of_mem _ ht)]
   simp only [St.free,h.w x (hdt x (hl x (List.mem_cons_self ..)))]
 have hN:∀ l:List Nat,(∀ t,t∈l->t∈zcT a xs)->frzN a l=frzN b l:=by
  intro l
  induction l with
  | nil=>intro _;rfl
  | cons x l ih=>
   intro hl
   have h1:=hin x (hl x (List.mem_cons_self ..))
   have h2:=ih fun t ht=>hl t (List.mem_cons_of_mem _ ht)
   unfold frzN
   rw [h2,h1]
 have hm:∀ t,a.m t=b.m t->(zdu a xs).m t=(zdu b xs).m t:=fun t ht=>by
  rw [zgB,zgB,hts]
  have:∀ (l:List Nat),putF (ze3 l) a.m t=putF (ze3 l) b.m t:=by
   intro l
   induction l with
   | nil=>exact ht
   | cons x l ih=>
    show (if t=x then _ else if t=lbF x then _ else putF (ze3 l) a.m t)=(if t=x then _ else if t=lbF x then _ else putF (ze3 l) b.m t)
    rw [ih]
  exact this _
 have hag2:Agree (zdu a xs) (zdu b xs) c (wid op) xs:=by
  have hev:∀ x,x∈xs->(zdu a xs).ev x=(zdu b xs).ev x:=fun x hx=>by
   cases x with
   | tmp i=>
    show (zdu a xs).s i=(zdu b xs).s i
    rw [ziD,ziD,if_pos (zcO hx),if_pos (zcO hx)]
    exact (he i (zcO hx)).1
   | _=>rfl
  have hsub:∀ t,t∈(xs.map fun x=>(zal ((zdu a xs).ev x)).1).flatMap zaZ->t∈(xs.map fun x=>(zal (a.ev x)).1).flatMap zaZ:=fun t ht=>by
   obtain ⟨s,hs,h3⟩:=List.mem_flatMap.1 ht
   obtain ⟨x,hx,rfl⟩:=List.mem_map.1 hs
   refine List.mem_flatMap.2 ⟨_,List.mem_map.2 ⟨x,hx,rfl⟩,?_⟩
   cases x with
   | tmp i=>
    have h3:t∈zaZ (zal ((zdu a xs).s i)).1:=h3
    rw [ziD,if_pos (zcO hx)] at h3
    exact zql h3
   | _=>exact h3
  have hdp:∀ t,t∈zb5 (zdu a xs) (xs.map fun x=>(zal ((zdu a xs).ev x)).1)->t∈zb5 a (xs.map fun x=>(zal (a.ev x)).1):=fun t ht=>by
   rcases List.mem_append.1 ht with ht | ht
   ·exact List.mem_append_left _ (hsub t ht)
   ·obtain ⟨u,hu,h3⟩:=List.mem_flatMap.1 ht
    refine List.mem_append_right _ (List.mem_flatMap.2 ⟨u,hsub u hu,?_⟩)
    rw [zgB] at h3
    have key:∀ (l:List Nat),putF (ze3 l) a.m u=a.m u\/putF (ze3 l) a.m u = .dead:=by
     intro l
     induction l with
     | nil=>exact .inl rfl
     | cons x l ih=>
      show (if u=x then _ else if u=lbF x then _ else putF (ze3 l) a.m u)=_\/(if u=x then _ else if u=lbF x then _ else putF (ze3 l) a.m u)=_
      by_cases e:u=x
      ·rw [if_pos e];exact .inr rfl
      ·rw [if_neg e]
       by_cases e2:u=lbF x
       ·rw [if_pos e2];exact .inr rfl
       ·rw [if_neg e2];exact ih
    rcases key (zcT a xs) with e | e
    ·rw [e] at h3;exact h3
    ·rw [e] at h3;cases h3
  refine ⟨⟨h.like.tm,h.like.mm⟩,hev,fun t ht=>hm t (h.m t (ht.imp id (hdp t))),fun t ht=>hm _ (h.w t (hdp t ht))⟩
 unfold full
 rw [hxs,zgA hC hM hag,hts]
 rw [zgA hC hM (a:=zdu a xs) (b:=zdu b xs) (by rw [hxs];exact hag2)]
 have h2:=hN (zcT a xs) fun t ht=>ht
 have h4:=hfr (zcT a xs) fun t ht=>ht
 rw [hts] at h2 h4
 split
 ·rfl
 ·cases hts2:zcT b xs with
  | nil=>rfl
  | cons t ts=>rw [hts2] at h2 h4;simp only [h2,h4]
def rds (ops:Array Oper) (c:Nat) (o:Oper) (st:St):List Key:=
 (o.looksAt ops).map Key.t++(bif zcc o.op then [] else ((zb5 st (o.op.operands.toList.map fun x=>(zal (st.ev x)).1)).map lbF++(blkN c (wid o.op)++zb5 st (o.op.operands.toList.map fun x=>(zal (st.ev x)).1))).map Key.m)
theorem ziz {P:Program} {C:Cfg} {more:Nat->St->TypeId->Op->Option Upd} {c:Nat} {a b:St} {ty:TypeId} {op:Op} (hm:zcc op=true) (hev:∀ x,x∈op.operands.toList->a.ev x=b.ev x) :
  zeh P C more c a ty op=zeh P C more c b ty op/\∀ u,zeh P C more c b ty op=some u->u.mem=[]:=by
 cases op<;>simp only [zcc,Bool.false_eq_true] at hm
 case move x=>
  have e:=hev x (by simp [Op.operands])
  simp only [zeh,core,zlI,e,Option.some.injEq]
  exact ⟨trivial,fun u h=>by subst h;rfl⟩
 case assign x=>
  have e:=hev x (by simp [Op.operands])
  simp only [zeh,core,zlI,e,Option.some.injEq]
  exact ⟨trivial,fun u h=>by subst h;rfl⟩
 case nilCheck x=>
  have e:=hev x (by simp [Op.operands])
  have e2:cNil a x=cNil b x:=by simp only [cNil,e]
  simp only [zeh,core,e2,zcc,cond_true]
  refine ⟨trivial,fun u h=>?_⟩
  split at h
  ·rename_i u2 h2
   simp only [Option.some.injEq] at h
   subst h
   unfold cNil at h2
   split at h2<;>first | (simp only [Option.some.injEq] at h2;subst h2;rfl) | cases h2
  ·cases h
 case fieldAddr T x f=>
  have e:=hev x (by simp [Op.operands])
  have e2:zbD P a T x f=zbD P b T x f:=by simp only [zbD,e]
  simp only [zeh,core,e2,zcc,cond_true]
  refine ⟨trivial,fun u h=>?_⟩
  split at h
  ·rename_i u2 h2
   simp only [Option.some.injEq] at h
   subst h
   unfold zbD at h2
   split at h2
   ·split at h2
    ·split at h2
     ·cases h2
     ·split at h2
      ·simp only [Option.some.injEq] at h2;subst h2;rfl
      ·cases h2
    ·cases h2
   ·cases h2
  ·cases h
theorem zf7 {P:Program} {C:Cfg} {more:Nat->St->TypeId->Op->Option Upd} {c:Nat} {a:St} {ty:TypeId} {op:Op} (hm:zcc op=true):full P C more c a ty op=zeh P C more c a ty op:=by
 unfold full
 cases zeh P C more c a ty op with
 | some u=>rfl
 | none=>rw [hm];rfl
theorem zjM {P:Program} {C:Cfg} {more:Nat->St->TypeId->Op->Option Upd} {c:Nat} {a b:St} {ty:TypeId} {op:Op} (hm:zcc op=true) (hev:∀ x,x∈op.operands.toList->a.ev x=b.ev x) :
  full P C more c a ty op=full P C more c b ty op/\∀ u,full P C more c b ty op=some u->u.mem=[]:=by
 rw [zf7 hm,zf7 hm]
 exact ziz hm hev
theorem zjw {P:Program} {C:Cfg} {more:Nat->St->TypeId->Op->Option Upd} (hC:zfF C) (hM:zdN more) {ops:Array Oper} {c:Nat} {o:Oper} {a b:St} (hl:Like a b) (h:∀ k,k∈rds ops c o a->a.get k=b.get k) :
  zej P C more ops c o a=zej P C more ops c o b:=by
 have ht:∀ t,t∈o.looksAt ops->a.s t=b.s t:=fun t ht=>by
  have:=h (.t t) (List.mem_append_left _ (List.mem_map.2 ⟨t,ht,rfl⟩))
  simpa [St.get] using this
 have hev:∀ x,x∈o.op.operands.toList->a.ev x=b.ev x:=by
  intro x hx
  cases x with
  | tmp t=>
   refine ht t ?_
   simp only [Oper.looksAt,List.mem_append,List.mem_filterMap]
   exact .inl ⟨.tmp t,hx,rfl⟩
  | _=>rfl
 have hgb:∀ j pol,o.guard=some (j,pol)->zhD ops a j pol=zhD ops b j pol:=by
  intro j pol hg
  unfold zhD
  cases hd:(ops[j]?).bind (·.dst) with
  | none=>rfl
  | some t=>
   simp only []
   rw [ht t (by simp [Oper.looksAt,hg,hd])]
 cases hml:zcc o.op with
 | true=>
  obtain ⟨hf,hmm⟩:=zjM (P:=P) (C:=C) (more:=more) (c:=c) (ty:=o.type) hml hev
  unfold zej
  cases hg:o.guard with
  | none=>exact hf
  | some jp=>
   obtain ⟨j,pol⟩:=jp
   simp only [hgb j pol hg,hf]
   cases hr:full P C more c b o.type o.op with
   | none=>rfl
   | some u=>
    have hd:zf2 u.mem=true:=by rw [hmm u hr];rfl
    simp only [hd,if_true]
 | false=>
  have hag:Agree a b c (wid o.op) o.op.operands.toList:=⟨hl,hev,fun t ht2=>by
   have:=h (.m t) (by unfold rds;rw [hml];exact List.mem_append_right _ (List.mem_map.2 ⟨t,List.mem_append_right _ (List.mem_append.2 ht2),rfl⟩))
   simpa [St.get] using this,fun t ht2=>by
   have:=h (.m (lbF t)) (by unfold rds;rw [hml];exact List.mem_append_right _ (List.mem_map.2 ⟨lbF t,List.mem_append_left _ (List.mem_map.2 ⟨t,ht2,rfl⟩),rfl⟩))
   simpa [St.get] using this⟩
  have hcore:full P C more c a o.type o.op=full P C more c b o.type o.op:=znQ hC hM hag
  unfold zej
  cases hg:o.guard with
  | none=>exact hcore
  | some jp=>
   obtain ⟨j,pol⟩:=jp
   have hfr:a.free c=b.free c:=hag.free (zdy _)
   have hbl:blkG (wid o.op) c a.free=blkG (wid o.op) c b.free:=zhY fun t h1 h2=>by
    simp only [St.free,hag.m t (.inl ((zdr (wid o.op) c t).2 ⟨h1,h2⟩))]
   simp only [hgb j pol hg,hcore,hfr,hbl]
inductive RU
 | ok (us:List (Option Tmp×Upd)) (rs:List (List Key)) (st:St)
 | bad (c:Nat) (o:Op) (st:St)
def runU (P:Program) (C:Cfg) (more:Nat->St->TypeId->Op->Option Upd) (ops:Array Oper):Nat->List Oper->St->RU
 | _,[],st=> .ok [] [] st
 | c,o::r,st=>match zej P C more ops c o st with
  | some u=>match runU P C more ops (c+wid o.op) r (st.app o.dst u) with
   | .ok us rs st2=> .ok ((o.dst,u)::us) (rds ops c o st::rs) st2
   | .bad c o s=> .bad c o s
  | none=> .bad c o.op st
theorem zkT {P:Program} {C:Cfg} {more:Nat->St->TypeId->Op->Option Upd} {ops:Array Oper}:∀ (l:List Oper) (c:Nat) (st st2:St) (us:List (Option Tmp×Upd)) (rs:List (List Key)),runU P C more ops c l st = .ok us rs st2 ->
  us.length=l.length/\rs.length=l.length/\st2=apl (fun _=>true) 0 us st/\∀ i o,l[i]? = some o->∃ u,us[i]? = some (o.dst,u)/\rs[i]? = some (rds ops (c+widS (l.take i)) o (apl (fun n=>decide (n<i)) 0 us st))/\zej P C more ops (c+widS (l.take i)) o (apl (fun n=>decide (n<i)) 0 us st)=some u
 | [],c,st,st2,us,rs,h=>by
  simp only [runU,RU.ok.injEq] at h
  obtain ⟨rfl,rfl,rfl⟩:=h
  exact ⟨rfl,rfl,rfl,fun i o h=>by simp at h⟩
 | o::l,c,st,st2,us,rs,h=>by
  simp only [runU] at h
  split at h
  case h_2=>simp at h
  rename_i u hu
  split at h
  case h_2=>simp at h
  rename_i us2 rs2 st3 h2
  simp only [RU.ok.injEq] at h
  obtain ⟨rfl,rfl,rfl⟩:=h
  obtain ⟨h3,h4,h5,h6⟩:=zkT l (c+wid o.op) _ _ _ _ h2
  have shiftD:∀ (l:List (Option Tmp×Upd)) (n:Nat) (D D':Nat->Bool) (s:St),(∀ i,D (n+1+i)=D' (n+i))->apl D (n+1) l s=apl D' n l s:=by
   intro l
   induction l with
   | nil=>intro _ _ _ _ _;rfl
   | cons x l ih=>
    intro n D D' s hD
    obtain ⟨d,v⟩:=x
    rw [apl,apl]
    have h0:=hD 0
    rw [Nat.add_zero,Nat.add_zero] at h0
    rw [h0]
    exact ih (n+1) D D' _ (fun i=>by have:=hD (i+1);rwa [show n+1+(i+1)=n+1+1+i by omega,show n+(i+1)=n+1+i by omega] at this)
  refine ⟨by simp [h3],by simp [h4],?_,fun i o' ho=>?_⟩
  ·rw [h5,apl,if_pos rfl]
   exact (shiftD us2 0 _ _ _ (fun _=>rfl)).symm
  ·cases i with
   | zero=>
    simp only [List.getElem?_cons_zero,Option.some.injEq] at ho
    subst ho
    have e:apl (fun n=>decide (n<0)) 0 ((o.dst,u)::us2) st=st:=zfX _ _ _ _ (fun j _=>by simp)
    refine ⟨u,rfl,?_,?_⟩
    ·rw [e];rfl
    ·rw [e];exact hu
   | succ i=>
    obtain ⟨u2,h7,h8,h9⟩:=h6 i o' (by simpa using ho)
    have e:apl (fun n=>decide (n<i+1)) 0 ((o.dst,u)::us2) st=apl (fun n=>decide (n<i)) 0 us2 (st.app o.dst u):=by
     rw [apl,if_pos (by simp)]
     exact shiftD us2 0 _ _ _ (fun j=>by simp only [Nat.zero_add,decide_eq_decide];omega)
    refine ⟨u2,by simpa using h7,?_,?_⟩
    ·rw [e,List.take_succ_cons,show c+widS (o::l.take i)=c+wid o.op+widS (l.take i) by rw [widS];omega];simpa using h8
    ·rw [e,List.take_succ_cons,show c+widS (o::l.take i)=c+wid o.op+widS (l.take i) by rw [widS];omega];exact h9
def zpW (ua:Option Tmp×Upd) (ra:List Key) (ub:Option Tmp×Upd) (rb:List Key):Bool:=
 Key.apart (wrs ua.1 ua.2) (wrs ub.1 ub.2)&&Key.apart (wrs ua.1 ua.2) rb&&Key.apart (wrs ub.1 ub.2) ra
def zeS (an:Nat) (ub:Option Tmp×Upd) (rb:List Key):Nat->List (Option Tmp×Upd)->List (List Key)->Bool
 | i,ua::us,ra::rs=>(an.testBit i||zpW ua ra ub rb)&&zeS an ub rb (i+1) us rs
 | _,_,_=>true
def zeT (us:List (Option Tmp×Upd)) (rs:List (List Key)) (an:List Nat):Nat->List (Option Tmp×Upd)->List (List Key)->Bool
 | j,ub::usb,rb::rsb=>zeS (an.getD j 0) ub rb 0 (us.take j) (rs.take j)&&zeT us rs an (j+1) usb rsb
 | _,_,_=>true
theorem zey {an:Nat} {ub:Option Tmp×Upd} {rb:List Key}:∀ (k:Nat) (us:List (Option Tmp×Upd)) (rs:List (List Key)),zeS an ub rb k us rs=true->∀ i ua ra,us[i]? = some ua->rs[i]? = some ra->an.testBit (k+i)=true\/zpW ua ra ub rb=true
 | k,u::us,r::rs,h,i,ua,ra,hu,hr=>by
  simp only [zeS,Bool.and_eq_true,Bool.or_eq_true] at h
  cases i with
  | zero=>simp only [List.getElem?_cons_zero,Option.some.injEq] at hu hr;subst hu;subst hr;exact h.1
  | succ i=>have:=zey (k+1) us rs h.2 i ua ra (by simpa using hu) (by simpa using hr);rwa [show k+(i+1)=k+1+i by omega]
 | _,[],_,_,i,_,_,hu,_=>by simp at hu
 | _,_::_,[],_,i,_,_,_,hr=>by simp at hr
theorem zez {us:List (Option Tmp×Upd)} {rs:List (List Key)} {an:List Nat}:∀ (k:Nat) (usb:List (Option Tmp×Upd)) (rsb:List (List Key)),zeT us rs an k usb rsb=true->∀ j ub rb,usb[j]? = some ub->rsb[j]? = some rb->zeS (an.getD (k+j) 0) ub rb 0 (us.take (k+j)) (rs.take (k+j))=true
 | k,u::usb,r::rsb,h,j,ub,rb,hu,hr=>by
  simp only [zeT,Bool.and_eq_true] at h
  cases j with
  | zero=>simp only [List.getElem?_cons_zero,Option.some.injEq] at hu hr;subst hu;subst hr;exact h.1
  | succ j=>have:=zez (k+1) usb rsb h.2 j ub rb (by simpa using hu) (by simpa using hr);rwa [show k+(j+1)=k+1+j by omega]
 | _,[],_,_,j,_,_,hu,_=>by simp at hu
 | _,_::_,[],_,j,_,_,_,hr=>by simp at hr
def fwd:Nat->List Oper->Bool
 | _,[]=>true
 | i,o::r=>o.after.toList.all (fun e=>Nat.blt e.on i||!Region.binds .any e)&&fwd (i+1) r
theorem zqi:∀ (k:Nat) (l:List Oper),fwd k l=true->∀ i o,l[i]? = some o->∀ e∈o.after.toList,Region.binds .any e=true->e.on<k+i
 | k,o::r,h,i,o',ho,e,he,hb=>by
  simp only [fwd,Bool.and_eq_true] at h
  cases i with
  | zero=>
   simp only [List.getElem?_cons_zero,Option.some.injEq] at ho
   subst ho
   have:=List.all_eq_true.1 h.1 e he
   simp only [Bool.or_eq_true,hb,Bool.not_true,Bool.false_eq_true,or_false] at this
   have:=this
   simp [Nat.blt] at this
   omega
  | succ i=>have:=zqi (k+1) r h.2 i o' (by simpa using ho) e he hb;omega
 | _,[],_,i,o',ho,_,_,_=>by simp at ho
section
variable {P : Program} {base : Nat} {X : Cx} {w0 : World} {st : St}
theorem draws {C:Cfg} (hC:zgZ P C) (hCl:zfF C) {more:Nat->St->TypeId->Op->Option Upd} (hM:zff P more) (hMl:zdN more) {ops:Array Oper} {Q:Exit->Act->World->Prop} {c:Nat} {us:List (Option Tmp×Upd)} {rs:List (List Key)} {st2:St}
  (hr:runU P C more ops c ops.toList st = .ok us rs st2) (hf:fwd 0 ops.toList=true) (hi:zeT us rs (ancs ops.toList []) 0 us rs=true) (hn:∀ x,x∈us->∀ p,p∈x.2.needs->p)
  (hQ:∀ E a w,st2.Ok base X w0 E a w->Q .normal a w):∀ (fuel:Nat) (listed:Array Bool),listed.size=ops.size->(listed.toList.filter (!·)).length=fuel->zrE ops.toList (fun i=>listed.getD i false) ->
  ∀ E a w,(apl (fun i=>listed.getD i false) 0 us st).Ok base X w0 E a w->wpAny P .any ops Q fuel listed a w:=by
 obtain ⟨hul,hrl,hst2,hat⟩:=zkT ops.toList c st st2 us rs hr
 have hsz:ops.toList.length=ops.size:=Array.length_toList
 -- two operations that hang together are ordered
 have hdep:∀ (D:Nat->Bool),zrE ops.toList D->∀ i j ui ri uj rj,us[i]? = some ui->rs[i]? = some ri->us[j]? = some uj->rs[j]? = some rj->i<j->D j=true->D i=false->zpW ui ri uj rj=true:=by
  intro D hD i j ui ri uj rj h1 h2 h3 h4 hij hj hi'
  have:=zez 0 us rs hi j uj rj h3 h4
  rw [Nat.zero_add] at this
  rcases zey 0 _ _ this i ui ri (by rw [List.getElem?_take,if_pos hij];exact h1) (by rw [List.getElem?_take,if_pos hij];exact h2) with h5 | h5
  ·rw [Nat.zero_add] at h5
   have:=zlM ops.toList [] (fun i o ho hd=>hD i o ho (by simpa using hd)) (fun j i hb _=>by simp at hb) j i h5 hj
   rw [hi'] at this;cases this
  ·exact h5
 intro fuel
 induction fuel with
 | zero=>
  intro listed hls hfl hcl E a w h
  have hall:∀ i,i<ops.size->listed.getD i false=true:=by
   intro i hi
   have hz:listed.toList.filter (!·)=[]:=List.eq_nil_of_length_eq_zero hfl
   have hm:listed[i]'(by omega)∈listed.toList:=by simp
   have:=List.filter_eq_nil_iff.1 hz _ hm
   rw [Array.getD_eq_getD_getElem?,Array.getElem?_eq_getElem (by omega)]
   simpa using this
  refine ⟨?_,?_⟩
  ·unfold Region.ready
   refine List.filter_eq_nil_iff.2 fun i hi=>?_
   have hi':=List.mem_range.1 hi
   have:=hall i hi'
   have e:listed.getD i true=true:=by
    rw [Array.getD_eq_getD_getElem?,Array.getElem?_eq_getElem (by omega)] at this ⊢
    simpa using this
   simp [e]
  ·refine hQ E a w ?_
   rw [hst2]
   rw [zr9 0 us st (fun i=>listed.getD i false) (fun j hj=>by rw [Nat.zero_add];exact hall j (by omega))] at h
   exact h
 | succ fuel ih=>
  intro listed hls hfl hcl E a w h
  refine ⟨fun hnil=>?_,fun j hj=>?_⟩
  ·-- the least one that is not listed is ready
   exfalso
   have hex:∃ i,i<ops.size/\listed.getD i false=false:=by
    have hne:listed.toList.filter (!·)≠[]:=by intro e;rw [e] at hfl;simp at hfl
    obtain ⟨b,hb⟩:=List.exists_mem_of_ne_nil _ hne
    obtain ⟨h1,h2⟩:=List.mem_filter.1 hb
    obtain ⟨i,hi,e⟩:=List.mem_iff_getElem.1 h1
    have hi2:i<listed.size:=by simpa using hi
    refine ⟨i,by omega,?_⟩
    rw [Array.getD_eq_getD_getElem?,Array.getElem?_eq_getElem hi2]
    simp at h2 e ⊢
    rw [e];exact h2
   have key:∀ n i,i<=n->i<ops.size->listed.getD i false=false->False:=by
    intro n
    induction n with
    | zero=>
     intro i hin hi hl
     have hi0:i=0:=by omega
     subst hi0
     have hmem:0∈Region.ready .any ops listed:=by
      unfold Region.ready
      refine List.mem_filter.2 ⟨List.mem_range.2 hi,?_⟩
      have e1:listed.getD 0 true=false:=by
       rw [Array.getD_eq_getD_getElem?,Array.getElem?_eq_getElem (by omega)] at hl ⊢;simpa using hl
      rw [e1,Array.getElem?_eq_getElem hi]
      simp only [Bool.not_false,Option.map_some,Option.getD_some,Bool.true_and]
      rw [<- Array.all_toList]
      refine List.all_eq_true.2 fun e he=>?_
      cases hb:Region.binds .any e
      ·rfl
      ·have:=zqi 0 ops.toList hf 0 ops[0] (by rw [Array.getElem?_toList,Array.getElem?_eq_getElem hi]) e he hb;omega
     rw [hnil] at hmem;cases hmem
    | succ n ihn=>
     intro i hin hi hl
     have hmem:i∈Region.ready .any ops listed:=by
      unfold Region.ready
      refine List.mem_filter.2 ⟨List.mem_range.2 hi,?_⟩
      have e1:listed.getD i true=false:=by
       rw [Array.getD_eq_getD_getElem?,Array.getElem?_eq_getElem (by omega)] at hl ⊢;simpa using hl
      rw [e1,Array.getElem?_eq_getElem hi]
      simp only [Bool.not_false,Option.map_some,Option.getD_some,Bool.true_and]
      rw [<- Array.all_toList]
      refine List.all_eq_true.2 fun e he=>?_
      cases hb:Region.binds .any e
      ·rfl
      ·have hlt:=zqi 0 ops.toList hf i ops[i] (by rw [Array.getElem?_toList,Array.getElem?_eq_getElem hi]) e he hb
       cases hd:listed.getD e.on false
       ·exact (ihn e.on (by omega) (by omega) hd).elim
       ·rfl
     rw [hnil] at hmem;cases hmem
   obtain ⟨i,hi,hl⟩:=hex
   exact key i i (Nat.le_refl _) hi hl
  ·unfold Region.ready at hj
   obtain ⟨hj1,hj2⟩:=List.mem_filter.1 hj
   have hjs:=List.mem_range.1 hj1
   obtain ⟨hj3,hj4⟩:=Bool.and_eq_true _ _▸hj2
   have hjl:listed.getD j false=false:=by
    rw [Array.getD_eq_getD_getElem?,Array.getElem?_eq_getElem (by omega)] at hj3 ⊢
    simpa using hj3
   have hoj:ops.toList[j]? = some ops[j]:=by rw [Array.getElem?_toList,Array.getElem?_eq_getElem hjs]
   have hpre:∀ e∈ops[j].after.toList,Region.binds .any e=true->listed.getD e.on false=true:=by
    rw [Array.getElem?_eq_getElem hjs] at hj4
    simp only [Option.map_some,Option.getD_some] at hj4
    rw [<- Array.all_toList] at hj4
    intro e he hb
    have:=List.all_eq_true.1 hj4 e he
    rw [hb] at this
    simpa using this
   obtain ⟨u,hu1,hu2,hu3⟩:=hat j ops[j] hoj
   let D:=fun i=>listed.getD i false
   -- a writer of a key that j looks at or writes
   have hrd:∀ i ui ri,us[i]? = some ui->rs[i]? = some ri->i≠j->∀ k,k∈wrs ui.1 ui.2->(k∈rds ops (c+widS (ops.toList.take j)) ops[j] (apl (fun n=>decide (n<j)) 0 us st)\/k∈wrs ops[j].dst u)->D i=decide (i<j):=by
    intro i ui ri h1 h2 hne k hk hor
    by_cases hij:i<j
    ·rw [decide_eq_true hij]
     cases hd:D i
     ·-- then i stands ahead of j: closed with j
      exfalso
      have hind:=zez 0 us rs hi j _ _ hu1 hu2
      rw [Nat.zero_add] at hind
      rcases zey 0 _ _ hind i ui ri (by rw [List.getElem?_take,if_pos hij];exact h1) (by rw [List.getElem?_take,if_pos hij];exact h2) with h5 | h5
      ·rw [Nat.zero_add] at h5
       have hcl2:zrE ops.toList (fun n=>decide (n=j)||D n):=by
        intro n o ho hd' e he hb
        simp only [Bool.or_eq_true,decide_eq_true_eq] at hd' ⊢
        rcases hd' with rfl | hd'
        ·rw [hoj] at ho;cases ho;exact .inr (hpre e he hb)
        ·exact .inr (hcl n o ho hd' e he hb)
       have:=zlM (D:=fun n=>decide (n=j)||D n) ops.toList [] (fun i o ho hd=>hcl2 i o ho (by simpa using hd)) (fun j i hb _=>by simp at hb) j i h5 (by simp)
       simp only [Bool.or_eq_true,decide_eq_true_eq] at this
       rcases this with h6 | h6
       ·exact hne h6
       ·rw [hd] at h6;cases h6
      ·simp only [zpW,Bool.and_eq_true] at h5
       rcases hor with h6 | h6
       ·exact Key.apart_ok h5.1.2 hk h6
       ·exact Key.apart_ok h5.1.1 hk h6
     ·rfl
    ·rw [decide_eq_false hij]
     cases hd:D i
     ·rfl
     ·exfalso
      have h5:=hdep D hcl j i _ _ ui ri hu1 hu2 h1 h2 (by omega) hd hjl
      simp only [zpW,Bool.and_eq_true] at h5
      rcases hor with h6 | h6
      ·exact Key.apart_ok h5.2 hk h6
      ·exact Key.apart_ok h5.1.1 h6 hk
   have hrsAt:∀ (i:Nat) (ui:Option Tmp×Upd),us[i]? = some ui->∃ ri,rs[i]? = some ri:=by
    intro i ui h1
    have:=(List.getElem?_eq_some_iff.1 h1).1
    exact ⟨rs[i]'(by omega),List.getElem?_eq_getElem _⟩
   have hlikeD:=(zfe D 0 us st)
   have hlikeJ:=(zfe (fun n=>decide (n<j)) 0 us st)
   -- what the operation does here is what it does in the text's order
   have hstep:zej P C more ops (c+widS (ops.toList.take j)) ops[j] (apl D 0 us st)=some u:=by
    rw [<- hu3]
    refine (zjw hCl hMl (hlikeJ.trans hlikeD.symm) (fun k hk=>?_)).symm
    refine zgY 0 us st st ⟨rfl,rfl⟩ rfl (fun n hw=>?_)
    obtain ⟨d,v,h1,h2⟩:=hw
    obtain ⟨rn,h3⟩:=hrsAt n _ h1
    rw [Nat.zero_add]
    by_cases hne:n=j
    ·subst hne
     show decide (n<n)=D n
     rw [show D n=false from hjl];simp
    ·exact (hrd n (d,v) rn h1 h3 hne k h2 (.inl hk)).symm
   have hlisted:∀ i,(listed.setIfInBounds j true).getD i false=(decide (i=j)||D i):=by
    intro i
    simp only [Array.getD_eq_getD_getElem?,Array.getElem?_setIfInBounds,D]
    by_cases e:j=i
    ·subst e;simp [hls,hjs]
    ·have:¬ i=j:=fun e2=>e e2.symm
     simp [e,this]
   unfold wpOp
   rw [Array.getElem?_eq_getElem hjs]
   simp only []
   have hres:=zjv hC hM hstep (Q:=Q) (K:=wpAny P .any ops Q fuel (listed.setIfInBounds j true)) h (fun p hp=>hn _ (List.mem_of_getElem? hu1) p hp) (fun E' a' w' h'=>?_)
   ·split
    ·rename_i hw;rw [if_pos hw] at hres;exact .inl hres
    ·rename_i hw;rw [if_neg hw] at hres;exact hres
   ·refine ih _ (by simpa using hls) ?_ ?_ E' a' w' ?_
    ·have e1:listed.toList=listed.toList.take j++false::listed.toList.drop (j+1):=by
      have hjl2:listed[j]'(by omega)=false:=by
       rw [Array.getD_eq_getD_getElem?,Array.getElem?_eq_getElem (by omega)] at hjl;simpa using hjl
      rw [<- hjl2,<- Array.getElem_toList (by rw [Array.length_toList];omega),<- List.drop_eq_getElem_cons,List.take_append_drop]
     have e2:(listed.setIfInBounds j true).toList=listed.toList.take j++true::listed.toList.drop (j+1):=by
      rw [Array.toList_setIfInBounds,List.set_eq_take_append_cons_drop,if_pos (by rw [Array.length_toList];omega)]
     rw [e1] at hfl
     rw [e2]
     simp only [List.filter_append,List.length_append,List.filter_cons,Bool.not_false,Bool.not_true,if_true,Bool.false_eq_true,if_false,List.length_cons] at hfl ⊢
     omega
    ·intro n o ho hd e he hb
     have hd:(listed.setIfInBounds j true).getD n false=true:=hd
     show (listed.setIfInBounds j true).getD e.on false=true
     rw [hlisted] at hd ⊢
     simp only [Bool.or_eq_true,decide_eq_true_eq] at hd ⊢
     rcases hd with rfl | hd
     ·rw [hoj] at ho;cases ho;exact .inr (hpre e he hb)
     ·exact .inr (hcl n o ho hd e he hb)
    ·have e3:(fun i=>(listed.setIfInBounds j true).getD i false)=(fun i=>decide (i=j)||D i):=funext hlisted
     rw [e3]
     refine St.Ok.congr ?_ (fun k=>?_) h'
     ·exact ((St.app_like _ _ _).trans hlikeD).trans (zfe _ 0 us st).symm
     ·by_cases hk:k∈wrs ops[j].dst u
      ·have hu1':us[j]? = some (ops[j].dst,u):=hu1
       refine (znh 0 us st _ j _ u hu1' hk (by simp) (fun n hjn hw=>?_) hlikeD.symm).symm
       obtain ⟨d,v,h1,h2⟩:=hw
       obtain ⟨rn,h3⟩:=hrsAt n _ h1
       have:=hrd n (d,v) rn h1 h3 (by omega) k h2 (.inr hk)
       rw [Nat.zero_add]
       simp only [this]
       have hx:¬ n=j:=by omega
       have hy:¬ n<j:=by omega
       simp [hx,hy]
      ·rw [St.app_ne hk]
       refine zgY 0 us st st ⟨rfl,rfl⟩ rfl (fun n hw=>?_)
       obtain ⟨d,v,h1,h2⟩:=hw
       rw [Nat.zero_add]
       by_cases hne:n=j
       ·subst hne
        rw [hu1] at h1
        simp only [Option.some.injEq,Prod.mk.injEq] at h1
        obtain ⟨rfl,rfl⟩:=h1
        exact absurd h2 hk
       ·simp [hne]
end
end Go.Proofs.YtkhphiahindnnaaGreat
namespace Go.Proofs.YtkhphiahindnnaaGreat
open Go.RowKit Go.ChangeShapes Go.WideShapes Go.Deep
inductive KI
 | code (c:Code)
 | blk (id:Nat)
 | mark (j:Nat)
structure Lg where
 ts:List Nat
 ms:List Nat
inductive Tr
 | ret (st:St)
 | nrm (st:St) (lg:Lg)
 | ext (id:Nat) (st:St)
 | need (ps:List Prop) (t:Tr)
 | br (b:Bool) (t1 t2:Tr)
 | brp (p q:Prop) (t1 t2:Tr)
 | back (j:Nat) (st:St)
 | loop (body:Code) (k:List KI) (st:St)
 | stuck (c:Nat) (o:Option Op) (st:St)
def Lg.add (lg:Lg) (us:List (Option Tmp×Upd)):Lg:=⟨us.filterMap (·.1)++lg.ts,us.flatMap (fun x=>x.2.mem.map (·.1))++lg.ms⟩
def line:Tr->Option (List Prop×St×Lg)
 | .nrm st lg=>some ([],st,lg)
 | .need ps t=>match line t with
  | some (qs,st,lg)=>some (ps++qs,st,lg)
  | none=>none
 | _=>none
def mrgE (b:Bool):BE->BE->BE
 | .cells T vs,.cells T' us=>if T=T' then (if vs.length=us.length then (if (mrgL b vs us).all SV.flat then .cells T (mrgL b vs us) else .dead) else .dead) else .dead
 | .row T ls r,.row T' ls' r'=>if T=T' then (match RL.ite b r r' with | some r2=> .row T (ls++ls') r2 | none=> .dead) else .dead
 | .obj o,.obj o'=>match OD.ite b o o' with | some o2=> .obj o2 | none=> .dead
 | _,_=> .dead
def clash:SV->SV->Bool
 | .own _,.nil | .nil,.own _ | .own _,.sl _ _ | .sl _ _,.own _=>true
 | .own t,.own u=>!(Nat.beq t u)
 | _,_=>false
def meet (b:Bool) (st:St) (x y:St×Lg):Option (St×Lg):=
 if (x.2.ms++y.2.ms).all (fun t=>!(st.m t).live||(mrgE b (x.1.m t) (y.1.m t)).live)&&!((x.2.ts++y.2.ts).any fun i=>clash (x.1.s i) (y.1.s i)) then
 some (⟨(x.2.ts++y.2.ts).map (fun i=>(i,mrgV b (x.1.s i) (y.1.s i)))++st.tm,st.nt,(x.2.ms++y.2.ms).map (fun t=>(t,mrgE b (x.1.m t) (y.1.m t)))++st.mm,max x.1.nx y.1.nx⟩,⟨x.2.ts++y.2.ts,x.2.ms++y.2.ms⟩)
 else none
mutual
def exec (P:Program) (C:Cfg) (more:Nat->St->TypeId->Op->Option Upd):Nat->Code->List KI->St->Lg->Tr
 | 0,_,_,st,_=> .stuck 0 none st
 | n+1,c,k,st,lg=>match c with
  | .skip=>contN P C more n k st lg
  | .seq a b=>exec P C more n a (.code b::k) st lg
  | .block id c=>exec P C more n c (.blk id::k) st lg
  | .exit id=>contE P C more n id k st lg
  | .ret=> .ret st
  | .cond x a b=>match zal (st.ev x) with
   | (.bool t,ps)=>match line (exec P C more n a [] st ⟨[],[]⟩),line (exec P C more n b [] st ⟨[],[]⟩) with
    | some (p1,s1,l1),some (p2,s2,l2)=>match meet t st (s1,l1) (s2,l2) with
     | some (st2,l3)=> .need (ps++p1.map (fun p=>t=true->p)++p2.map (fun p=>t=false->p)) (contN P C more n k st2 ⟨l3.ts++lg.ts,l3.ms++lg.ms⟩)
     | none=> .need ps (.br t (exec P C more n a k st lg) (exec P C more n b k st lg))
    | _,_=> .need ps (.br t (exec P C more n a k st lg) (exec P C more n b k st lg))
   | (.ub p q,ps)=> .need ps (.brp p q (exec P C more n a k st lg) (exec P C more n b k st lg))
   | _=> .stuck n none st
  | .region id ops draw=>match runU P C more ops st.nx ops.toList (st.grow (widS ops.toList)) with
   | .ok us rs st2=>
    if draw then (if fwd 0 ops.toList&&zeT us rs (ancs ops.toList []) 0 us rs then .need (us.flatMap (fun x=>x.2.needs)) (contN P C more n k st2 (lg.add us)) else .stuck n none st)
    else .need (us.flatMap (fun x=>x.2.needs)) (contN P C more n k st2 (lg.add us))
   | .bad c o s=> .stuck c (some o) s
  | .loop body=> .loop body k st
  | _=> .stuck n none st
def contN (P:Program) (C:Cfg) (more:Nat->St->TypeId->Op->Option Upd):Nat->List KI->St->Lg->Tr
 | 0,_,st,_=> .stuck 0 none st
 | n+1,k,st,lg=>match k with
  | []=> .nrm st lg
  | .code c::k=>exec P C more n c k st lg
  | .blk _::k=>contN P C more n k st lg
  | .mark j::_=> .back j st
def contE (P:Program) (C:Cfg) (more:Nat->St->TypeId->Op->Option Upd):Nat->Nat->List KI->St->Lg->Tr
 | 0,_,_,st,_=> .stuck 0 none st
 | n+1,id,k,st,lg=>match k with
  | []=> .ext id st
  | .code _::k=>contE P C more n id k st lg
  | .mark _::k=>contE P C more n id k st lg
  | .blk i::k=>if id=i then contN P C more n k st lg else contE P C more n id k st lg
end
def qOf (P:Program) (J:Nat->Act->World->Prop):List KI->(Exit->Act->World->Prop)->Exit->Act->World->Prop
 | [],Q=>Q
 | .code c::k,Q=>Exit.then (c.wp P (qOf P J k Q)) (qOf P J k Q)
 | .blk id::k,Q=>Exit.inBlock id (qOf P J k Q)
 | .mark j::k,Q=>Exit.then (J j) (qOf P J k Q)
section
variable (P : Program) (base : Nat) (X : Cx) (w0 : World) (J : Nat -> Act -> World -> Prop) (Q : Exit -> Act -> World -> Prop)
def den:Tr->Prop
 | .ret st=>∀ E a w,st.Ok base X w0 E a w->Q .ret a w
 | .nrm st _=>∀ E a w,st.Ok base X w0 E a w->Q .normal a w
 | .ext id st=>∀ E a w,st.Ok base X w0 E a w->Q (.exit id) a w
 | .need ps t=>(∀ p∈ps,p)/\den t
 | .br b t1 t2=>(b=true->den t1)/\(b=false->den t2)
 | .brp p q t1 t2=>(p->den t1)/\(q->den t2)
 | .back j st=>∀ E a w,st.Ok base X w0 E a w->J j a w
 | .loop body k st=>∀ E a w,st.Ok base X w0 E a w->(Code.loop body).wp P (qOf P J k Q) a w
 | .stuck _ _ _=>False
end
structure Fr (s0:St) (lg:Lg) (s:St):Prop where
 tml:s.nt=s0.nt
 tm:∀ i,i∉lg.ts->s.s i=s0.s i
 m:∀ t,t∉lg.ms->s.m t=s0.m t
def frT (s0:St):Tr->Prop
 | .nrm st lg=>Fr s0 lg st
 | .need _ t=>frT s0 t
 | .br _ a b=>frT s0 a/\frT s0 b
 | .brp _ _ a b=>frT s0 a/\frT s0 b
 | _=>True
theorem zlh {s0:St}:∀ {t:Tr} {ps:List Prop} {st:St} {lg:Lg},frT s0 t->line t=some (ps,st,lg)->Fr s0 lg st
 | .nrm st lg,ps,st2,lg2,h,e=>by
  simp only [line,Option.some.injEq,Prod.mk.injEq] at e
  obtain ⟨_,rfl,rfl⟩:=e;exact h
 | .need qs t,ps,st2,lg2,h,e=>by
  simp only [line] at e
  split at e
  case h_2=>simp at e
  rename_i e2
  simp only [Option.some.injEq,Prod.mk.injEq] at e
  obtain ⟨_,rfl,rfl⟩:=e
  exact zlh (t:=t) h e2
 | .ret _,_,_,_,_,e=>by simp [line] at e
 | .ext _ _,_,_,_,_,e=>by simp [line] at e
 | .br _ _ _,_,_,_,_,e=>by simp [line] at e
 | .brp _ _ _ _,_,_,_,_,e=>by simp [line] at e
 | .loop _ _ _,_,_,_,_,e=>by simp [line] at e
 | .back _ _,_,_,_,_,e=>by simp [line] at e
 | .stuck _ _ _,_,_,_,_,e=>by simp [line] at e
theorem zoR {P:Program} {C:Cfg} {more:Nat->St->TypeId->Op->Option Upd} {ops:Array Oper} {c n:Nat} {l:List Oper} {st st2 s0:St} {us:List (Option Tmp×Upd)} {rs:List (List Key)} {lg:Lg} (h:runU P C more ops c l (st.grow n) = .ok us rs st2) (hf:Fr s0 lg st):Fr s0 (lg.add us) st2:=by
 obtain ⟨_,_,rfl,_⟩:=zkT _ _ _ _ _ _ h
 have hl:=zfe (fun _=>true) 0 us (st.grow n)
 have key:∀ k,(∀ j,¬ Wr us j k)->(apl (fun _=>true) 0 us (st.grow n)).get k=(st.grow n).get k:=by
  intro k hk
  rw [zgY (D':=fun _=>false) 0 us (st.grow n) (st.grow n) ⟨rfl,rfl⟩ rfl (fun j hj=>absurd hj (hk j)),zfX 0 us _ _ (fun _ _=>rfl)]
 refine ⟨hl.tm.trans hf.tml,fun i hi=>?_,fun t hnt=>?_⟩
 ·simp only [Lg.add,List.mem_append,not_or] at hi
  have:=key (.t i) (fun j ⟨d,u,h1,h2⟩=>hi.1 (by
   simp only [wrs,List.mem_append] at h2
   rcases h2 with h2 | h2
   ·cases d with
    | none=>simp at h2
    | some d=>simp at h2;subst h2;exact List.mem_filterMap.2 ⟨_,List.mem_of_getElem? h1,rfl⟩
   ·simp at h2))
  simp only [St.get,KV.v.injEq] at this
  rw [this];exact hf.tm i hi.2
 ·simp only [Lg.add,List.mem_append,not_or] at hnt
  have:=key (.m t) (fun j ⟨d,u,h1,h2⟩=>hnt.1 (by
   simp only [wrs,List.mem_append] at h2
   rcases h2 with h2 | h2
   ·cases d<;>simp at h2
   ·obtain ⟨p,hp,e⟩:=List.mem_map.1 h2
    simp only [Key.m.injEq] at e
    exact List.mem_flatMap.2 ⟨_,List.mem_of_getElem? h1,List.mem_map.2 ⟨p,hp,e⟩⟩))
  simp only [St.get,KV.e.injEq] at this
  rw [this];exact hf.m t hnt.2
theorem zdf {α:Type} (d:α) (f:Nat->α) (rest:List (Nat×α)):∀ (l:List Nat) (i:Nat),zaM d (l.map (fun i=>(i,f i))++rest) i=if i∈l then f i else zaM d rest i
 | [],i=>by simp
 | j::r,i=>by
  show zaM d ((j,f j)::(r.map (fun i=>(i,f i))++rest)) i=_
  rw [zbz,zdf d f rest r i]
  by_cases h:i=j
  ·subst h;simp
  ·simp [h]
section
variable {base : Nat} {X : Cx} {w0 : World}
theorem MemOk.weak {E:Env} {w:World} {m m':Nat->BE} (h:MemOk base X w0 E m w) (hm:∀ t,m' t=m t\/m' t = .dead\/((m t).live=true/\(m' t).live=true/\(m' t).isO=(m t).isO/\∀ v,Holds E w t v (m t)->Holds E w t v (m' t))):MemOk base X w0 E m' w:=by
 have hh:∀ u b,Has E m' u b->Has E m u b:=by
  intro u b ⟨hl,v,hv,hb⟩
  rcases hm u with e | e | ⟨e,_,e2,_⟩
  ·rw [e] at hl hb;exact ⟨hl,v,hv,hb⟩
  ·rw [e] at hl;cases hl
  ·exact ⟨e,v,hv,Fo.iff e2 hb⟩
 refine h.go (Env.Le.refl E) Same.rfl' (fun u=>m' u≠m u) (fun u hu=>⟨Classical.byContradiction hu,rfl,rfl⟩) (fun u hu hm=>(h.empty u hm).2) (fun _ _ _ _=>rfl)
  (fun u hu=>?_) h.lab h.dis (fun u b hb=>h.sep u b (hh u b hb)) h.old (fun u v b h1 h2=>h.inj u v b (hh u b h1) (hh v b h2)) (BelowX.refl _ _ _)
 rcases hm u with e | e | ⟨e1,e2,_,e3⟩
 ·exact absurd e hu
 ·exact ⟨by rw [e];simp,fun hl=>by rw [e] at hl;cases hl⟩
 ·refine ⟨fun e=>(by rw [e] at e2;cases e2),fun _=>?_⟩
  obtain ⟨v,hv,hh⟩:=h.holds e1
  exact ⟨v,hv,e3 v hh⟩
theorem zxg {E:Env} {w:World} {t:Nat} (x y:BE):mrgE true x y = .dead\/(x.live=true/\(mrgE true x y).live=true/\(mrgE true x y).isO=x.isO/\∀ v,Holds E w t v x->Holds E w t v (mrgE true x y)):=by
 unfold mrgE
 split
 ·split
  ·split
   ·split
    ·rename_i hl hf
     refine .inr ⟨rfl,rfl,rfl,fun v h=>?_⟩
     obtain ⟨b,xs,h1,h2,h3,h4⟩:=h
     exact ⟨b,xs,h1,h2,mrgL_t _ _ xs hl h3,hf⟩
    ·exact .inl rfl
   ·exact .inl rfl
  ·exact .inl rfl
 ·split
  ·split
   ·rename_i r2 e
    have e:=RL.ite_t e
    subst e
    exact .inr ⟨rfl,rfl,rfl,fun v h=>OwnR.mono h (Nat.le_refl _) (fun b=>Env.set_mono (fun i hi=>List.mem_append_left _ hi) b)⟩
   ·exact .inl rfl
  ·exact .inl rfl
 ·split
  ·rename_i e
   have e:=OD.ite_t e
   subst e
   exact .inr ⟨rfl,rfl,rfl,fun v h=>h⟩
  ·exact .inl rfl
 ·exact .inl rfl
theorem zxh {E:Env} {w:World} {t:Nat} (x y:BE):mrgE false x y = .dead\/(y.live=true/\(mrgE false x y).live=true/\(mrgE false x y).isO=y.isO/\∀ v,Holds E w t v y->Holds E w t v (mrgE false x y)):=by
 unfold mrgE
 split
 ·split
  ·split
   ·split
    ·rename_i hT hl hf
     subst hT
     refine .inr ⟨rfl,rfl,rfl,fun v h=>?_⟩
     obtain ⟨b,xs,h1,h2,h3,h4⟩:=h
     exact ⟨b,xs,h1,h2,mrgL_f _ _ xs hl h3,hf⟩
    ·exact .inl rfl
   ·exact .inl rfl
  ·exact .inl rfl
 ·split
  ·split
   ·rename_i hT _ r2 e
    subst hT
    have e:=RL.ite_f e
    subst e
    exact .inr ⟨rfl,rfl,rfl,fun v h=>OwnR.mono h (Nat.le_refl _) (fun b=>Env.set_mono (fun i hi=>List.mem_append_right _ hi) b)⟩
   ·exact .inl rfl
  ·exact .inl rfl
 ·split
  ·rename_i e
   have e:=OD.ite_f e
   subst e
   exact .inr ⟨rfl,rfl,rfl,fun v h=>h⟩
  ·exact .inl rfl
 ·exact .inl rfl
theorem zp2 {b:Bool} {st:St} {x y:St×Lg} {st2:St} {lg:Lg} (h:meet b st x y=some (st2,lg)) (hx:Fr st x.2 x.1) (hy:Fr st y.2 y.1) {E:Env} {a:Act} {w:World} (ho:if b then x.1.Ok base X w0 E a w else y.1.Ok base X w0 E a w):st2.Ok base X w0 E a w:=by
 unfold meet at h
 split at h
 case isFalse=>simp at h
 simp only [Option.some.injEq,Prod.mk.injEq] at h
 obtain ⟨rfl,rfl⟩:=h
 cases b
 ·have ho:y.1.Ok base X w0 E a w:=ho
  refine ⟨ho.defers,ho.size.trans hy.tml,fun i=>?_,ho.mem.weak fun t=>?_⟩
  ·show DenV E w (zaM .any (List.map (fun i=>(i,mrgV false (x.1.s i) (y.1.s i))) (x.2.ts++y.2.ts)++st.tm) i) _
   rw [zdf]
   split
   ·exact zpw _ _ _ (ho.tm i)
   ·rename_i hn
    have:=hy.tm i (fun h=>hn (List.mem_append_right _ h))
    show DenV E w (st.s i) _
    rw [<- this];exact ho.tm i
  ·show zaM .empty (List.map (fun t=>(t,mrgE false (x.1.m t) (y.1.m t))) (x.2.ms++y.2.ms)++st.mm) t=_\/zaM .empty (List.map (fun t=>(t,mrgE false (x.1.m t) (y.1.m t))) (x.2.ms++y.2.ms)++st.mm) t=_\/_
   show _\/_\/(_/\(zaM .empty (List.map (fun t=>(t,mrgE false (x.1.m t) (y.1.m t))) (x.2.ms++y.2.ms)++st.mm) t).live=true/\(zaM .empty (List.map (fun t=>(t,mrgE false (x.1.m t) (y.1.m t))) (x.2.ms++y.2.ms)++st.mm) t).isO=_/\∀ v,_->Holds E w t v (zaM .empty (List.map (fun t=>(t,mrgE false (x.1.m t) (y.1.m t))) (x.2.ms++y.2.ms)++st.mm) t))
   rw [zdf]
   split
   ·exact .inr (zxh (x.1.m t) (y.1.m t))
   ·rename_i hn
    exact .inl (hy.m t (fun h=>hn (List.mem_append_right _ h))).symm
 ·have ho:x.1.Ok base X w0 E a w:=ho
  refine ⟨ho.defers,ho.size.trans hx.tml,fun i=>?_,ho.mem.weak fun t=>?_⟩
  ·show DenV E w (zaM .any (List.map (fun i=>(i,mrgV true (x.1.s i) (y.1.s i))) (x.2.ts++y.2.ts)++st.tm) i) _
   rw [zdf]
   split
   ·exact zpv _ _ _ (ho.tm i)
   ·rename_i hn
    have:=hx.tm i (fun h=>hn (List.mem_append_left _ h))
    show DenV E w (st.s i) _
    rw [<- this];exact ho.tm i
  ·show zaM .empty (List.map (fun t=>(t,mrgE true (x.1.m t) (y.1.m t))) (x.2.ms++y.2.ms)++st.mm) t=_\/zaM .empty (List.map (fun t=>(t,mrgE true (x.1.m t) (y.1.m t))) (x.2.ms++y.2.ms)++st.mm) t=_\/_
   show _\/_\/(_/\(zaM .empty (List.map (fun t=>(t,mrgE true (x.1.m t) (y.1.m t))) (x.2.ms++y.2.ms)++st.mm) t).live=true/\(zaM .empty (List.map (fun t=>(t,mrgE true (x.1.m t) (y.1.m t))) (x.2.ms++y.2.ms)++st.mm) t).isO=_/\∀ v,_->Holds E w t v (zaM .empty (List.map (fun t=>(t,mrgE true (x.1.m t) (y.1.m t))) (x.2.ms++y.2.ms)++st.mm) t))
   rw [zdf]
   split
   ·exact .inr (zxg (x.1.m t) (y.1.m t))
   ·rename_i hn
    exact .inl (hx.m t (fun h=>hn (List.mem_append_left _ h))).symm
theorem zvt {b:Bool} {st s0:St} {x y:St×Lg} {st2:St} {l3 lg:Lg} (h:meet b st x y=some (st2,l3)) (hf:Fr s0 lg st):Fr s0 ⟨l3.ts++lg.ts,l3.ms++lg.ms⟩ st2:=by
 unfold meet at h
 split at h
 case isFalse=>simp at h
 simp only [Option.some.injEq,Prod.mk.injEq] at h
 obtain ⟨rfl,rfl⟩:=h
 refine ⟨hf.tml,fun i hi=>?_,fun t hnt=>?_⟩
 ·simp only [List.mem_append,not_or] at hi
  show zaM .any (List.map (fun i=>(i,mrgV b (x.1.s i) (y.1.s i))) (x.2.ts++y.2.ts)++st.tm) i=_
  rw [zdf,if_neg (fun h=>(List.mem_append.1 h).elim hi.1.1 hi.1.2)]
  exact hf.tm i hi.2
 ·simp only [List.mem_append,not_or] at hnt
  show zaM .empty (List.map (fun t=>(t,mrgE b (x.1.m t) (y.1.m t))) (x.2.ms++y.2.ms)++st.mm) t=_
  rw [zdf,if_neg (fun h=>(List.mem_append.1 h).elim hnt.1.1 hnt.1.2)]
  exact hf.m t hnt.2
end
theorem Fr.refl (st:St):Fr st ⟨[],[]⟩ st:=⟨rfl,fun _ _=>rfl,fun _ _=>rfl⟩
theorem zqy (P:Program) (C:Cfg) (more:Nat->St->TypeId->Op->Option Upd):∀ (n:Nat),(∀ c k st lg s0,Fr s0 lg st->frT s0 (exec P C more n c k st lg))/\(∀ k st lg s0,Fr s0 lg st->frT s0 (contN P C more n k st lg))/\(∀ id k st lg s0,Fr s0 lg st->frT s0 (contE P C more n id k st lg)):=by
 intro n
 induction n with
 | zero=>
  refine ⟨fun c k st lg s0 h=>?_,fun k st lg s0 h=>?_,fun id k st lg s0 h=>?_⟩
  ·unfold exec;trivial
  ·unfold contN;trivial
  ·unfold contE;trivial
 | succ n ih=>
  obtain ⟨ih1,ih2,ih3⟩:=ih
  refine ⟨fun c k st lg s0 h=>?_,fun k st lg s0 h=>?_,fun id k st lg s0 h=>?_⟩
  ·unfold exec
   cases c with
   | skip=>exact ih2 _ _ _ _ h
   | seq a b=>exact ih1 _ _ _ _ _ h
   | block id c=>exact ih1 _ _ _ _ _ h
   | exit id=>exact ih3 _ _ _ _ _ h
   | ret=>trivial
   | loop b=>trivial
   | cond x a b=>
    simp only []
    split
    ·split
     ·split
      ·rename_i hm
       exact ih2 _ _ _ _ (zvt hm h)
      ·exact ⟨ih1 _ _ _ _ _ h,ih1 _ _ _ _ _ h⟩
     ·exact ⟨ih1 _ _ _ _ _ h,ih1 _ _ _ _ _ h⟩
    ·exact ⟨ih1 _ _ _ _ _ h,ih1 _ _ _ _ _ h⟩
    ·trivial
   | region id ops draw=>
    simp only []
    split
    ·rename_i hr
     split
     ·split
      ·exact ih2 _ _ _ _ (zoR hr h)
      ·trivial
     ·exact ih2 _ _ _ _ (zoR hr h)
    ·trivial
   | _=>trivial
  ·unfold contN
   cases k with
   | nil=>exact h
   | cons x k=>
    cases x with
    | code c=>exact ih1 _ _ _ _ _ h
    | blk i=>exact ih2 _ _ _ _ h
    | mark j=>trivial
  ·unfold contE
   cases k with
   | nil=>trivial
   | cons x k=>
    cases x with
    | code c=>exact ih3 _ _ _ _ _ h
    | mark j=>exact ih3 _ _ _ _ _ h
    | blk i=>
     simp only []
     split
     ·exact ih2 _ _ _ _ h
     ·exact ih3 _ _ _ _ _ h
theorem zms {P:Program} {C:Cfg} {more:Nat->St->TypeId->Op->Option Upd} {ops:Array Oper}:∀ (l:List Oper) (c:Nat) (st st2:St) (us:List (Option Tmp×Upd)) (rs:List (List Key)),runU P C more ops c l st = .ok us rs st2->zhv P C more ops c l st = .ok st2 (us.flatMap (fun x=>x.2.needs))
 | [],c,st,st2,us,rs,h=>by
  simp only [runU,RU.ok.injEq] at h
  obtain ⟨rfl,rfl,rfl⟩:=h
  rfl
 | o::l,c,st,st2,us,rs,h=>by
  simp only [runU] at h
  split at h
  case h_2=>simp at h
  rename_i u hu
  split at h
  case h_2=>simp at h
  rename_i h2
  simp only [RU.ok.injEq] at h
  obtain ⟨rfl,rfl,rfl⟩:=h
  simp only [zhv,hu,zms l _ _ _ _ _ h2,List.flatMap_cons]
theorem ziX {P:Program} {base:Nat} {X:Cx} {w0:World} {J:Nat->Act->World->Prop} {Q:Exit->Act->World->Prop}:∀ {t:Tr} {ps:List Prop} {st:St} {lg:Lg},line t=some (ps,st,lg)->(∀ p∈ps,p)->(∀ E a w,st.Ok base X w0 E a w->Q .normal a w)->den P base X w0 J Q t
 | .nrm st lg,ps,st2,lg2,e,hp,hq=>by
  simp only [line,Option.some.injEq,Prod.mk.injEq] at e
  obtain ⟨_,rfl,rfl⟩:=e;exact hq
 | .need qs t,ps,st2,lg2,e,hp,hq=>by
  simp only [line] at e
  split at e
  case h_2=>simp at e
  rename_i e2
  simp only [Option.some.injEq,Prod.mk.injEq] at e
  obtain ⟨rfl,rfl,rfl⟩:=e
  exact ⟨fun p h=>hp p (List.mem_append_left _ h),ziX (t:=t) e2 (fun p h=>hp p (List.mem_append_right _ h)) hq⟩
 | .ret _,_,_,_,e,_,_=>by simp [line] at e
 | .ext _ _,_,_,_,e,_,_=>by simp [line] at e
 | .br _ _ _,_,_,_,e,_,_=>by simp [line] at e
 | .brp _ _ _ _,_,_,_,e,_,_=>by simp [line] at e
 | .loop _ _ _,_,_,_,e,_,_=>by simp [line] at e
 | .back _ _,_,_,_,e,_,_=>by simp [line] at e
 | .stuck _ _ _,_,_,_,e,_,_=>by simp [line] at e
section
variable {P : Program} {base : Nat} {X : Cx} {w0 : World}
theorem zqx {C:Cfg} {more:Nat->St->TypeId->Op->Option Upd} (hm:P.follows .mixedOrders=true) (hC:zgZ P C) (hCl:zfF C) (hM:zff P more) (hMl:zdN more) {J:Nat->Act->World->Prop}:∀ (n:Nat),
  (∀ c k st lg Q,den P base X w0 J Q (exec P C more n c k st lg)->∀ E a w,st.Ok base X w0 E a w->c.wp P (qOf P J k Q) a w) /\
  (∀ k st lg Q,den P base X w0 J Q (contN P C more n k st lg)->∀ E a w,st.Ok base X w0 E a w->qOf P J k Q .normal a w) /\
  (∀ id k st lg Q,den P base X w0 J Q (contE P C more n id k st lg)->∀ E a w,st.Ok base X w0 E a w->qOf P J k Q (.exit id) a w):=by
 intro n
 induction n with
 | zero=>
  refine ⟨fun c k st lg Q h=>?_,fun k st lg Q h=>?_,fun id k st lg Q h=>?_⟩
  ·unfold exec at h;exact h.elim
  ·unfold contN at h;exact h.elim
  ·unfold contE at h;exact h.elim
 | succ n ih=>
  obtain ⟨ih1,ih2,ih3⟩:=ih
  have qret:∀ k Q a w,Q Exit.ret a w->qOf P J k Q .ret a w:=by
   intro k
   induction k with
   | nil=>intro Q a w h;exact h
   | cons x k ihk=>intro Q a w h;cases x<;>exact ihk Q a w h
  refine ⟨fun c k st lg Q h E a w ho=>?_,fun k st lg Q h E a w ho=>?_,fun id k st lg Q h E a w ho=>?_⟩
  ·unfold exec at h
   cases c with
   | skip=>exact wp_skip (ih2 _ _ _ _ h E a w ho)
   | seq x y=>exact wp_seq (ih1 _ _ _ _ _ h E a w ho)
   | block id c=>exact wp_block (ih1 _ _ _ _ _ h E a w ho)
   | exit id=>exact wp_exit (ih3 _ _ _ _ _ h E a w ho)
   | ret=>exact wp_ret (qret k Q a w (h E a w ho))
   | loop b=>exact h E a w ho
   | cond x y z=>
    simp only [] at h
    split at h
    case h_3=>exact h.elim
    case h_2=>
     rename_i p q ps hx
     have hv:=zae (ho.ev x) (fun p hp'=>h.1 p (by rw [hx] at hp';exact hp'))
     rw [hx] at hv
     obtain ⟨t,hv,hp,hq⟩:=hv
     exact wp_cond_split hv (fun e=>ih1 _ _ _ _ _ (h.2.1 (hp e)) E a w ho) (fun e=>ih1 _ _ _ _ _ (h.2.2 (hq e)) E a w ho)
    rename_i t ps hx
    have fork:(∀ p∈ps,p)->(t=true->den P base X w0 J Q (exec P C more n y k st lg))->(t=false->den P base X w0 J Q (exec P C more n z k st lg))->(Code.cond x y z).wp P (qOf P J k Q) a w:=by
     intro hp h1 h2
     have hv:=zae (ho.ev x) (fun p hp'=>hp p (by rw [hx] at hp';exact hp'))
     rw [hx] at hv
     have hv:a.eval x = .bool t:=hv
     exact wp_cond_split hv (fun e=>ih1 _ _ _ _ _ (h1 e) E a w ho) (fun e=>ih1 _ _ _ _ _ (h2 e) E a w ho)
    split at h
    ·rename_i p1 s1 l1 p2 s2 l2 e1 e2
     split at h
     ·rename_i st2 l3 hmt
      obtain ⟨hn,hd⟩:=h
      have hps:∀ p∈ps,p:=fun p hp=>hn p (by simp [hp])
      have hv:=zae (ho.ev x) (fun p hp'=>hps p (by rw [hx] at hp';exact hp'))
      rw [hx] at hv
      have hv:a.eval x = .bool t:=hv
      have f1:=zlh ((zqy P C more n).1 y [] st ⟨[],[]⟩ st (Fr.refl st)) e1
      have f2:=zlh ((zqy P C more n).1 z [] st ⟨[],[]⟩ st (Fr.refl st)) e2
      refine wp_cond_split hv (fun e=>?_) (fun e=>?_)
      ·refine Code.wp_mono (Q:=qOf P J [] (fun e a w=>e = .normal/\∃ E,s1.Ok base X w0 E a w)) (fun e2 a2 w2 hq=>?_) (ih1 _ _ _ _ _ (ziX e1 (fun p hp=>hn (t=true->p) (by simp only [List.mem_append,List.mem_map];exact .inl (.inr ⟨p,hp,rfl⟩)) e) (fun E a w h=>⟨rfl,E,h⟩)) E a w ho)
       obtain ⟨rfl,E2,h2⟩:=hq
       exact ih2 _ _ _ _ hd E2 a2 w2 (zp2 hmt f1 f2 (by rw [e];exact h2))
      ·refine Code.wp_mono (Q:=qOf P J [] (fun e a w=>e = .normal/\∃ E,s2.Ok base X w0 E a w)) (fun e2 a2 w2 hq=>?_) (ih1 _ _ _ _ _ (ziX e2 (fun p hp=>hn (t=false->p) (by simp only [List.mem_append,List.mem_map];exact .inr ⟨p,hp,rfl⟩) e) (fun E a w h=>⟨rfl,E,h⟩)) E a w ho)
       obtain ⟨rfl,E2,h2⟩:=hq
       exact ih2 _ _ _ _ hd E2 a2 w2 (zp2 hmt f1 f2 (by rw [e];exact h2))
     ·exact fork h.1 h.2.1 h.2.2
    ·exact fork h.1 h.2.1 h.2.2
   | region id ops draw=>
    simp only [] at h
    have ho2:=ho.grow (widS ops.toList)
    split at h
    case h_2=>
     exact h.elim
    rename_i us rs st2 hr
    cases draw with
    | false=>
     simp only [Bool.false_eq_true,if_false] at h
     obtain ⟨hn,hd⟩:=h
     exact wp_region_list (zj2 hC hM _ _ _ _ _ (zms _ _ _ _ _ _ hr) hn (fun E' a' w' h'=>ih2 _ _ _ _ hd E' a' w' h') E a w ho2)
    | true=>
     simp only [if_true] at h
     split at h
     case isFalse=>exact h.elim
     rename_i hch
     obtain ⟨hfw,hin⟩:=Bool.and_eq_true _ _▸hch
     obtain ⟨hn,hd⟩:=h
     refine wp_region_any hm (draws hC hCl hM hMl hr hfw hin (fun x hx p hp=>hn p (List.mem_flatMap.2 ⟨x,hx,hp⟩)) (fun E' a' w' h'=>ih2 _ _ _ _ hd E' a' w' h') ops.size _ (by simp) (by simp) (fun i o _ hd=>?_) E a _ ?_)
     ·exfalso
      simp only [Array.getD_eq_getD_getElem?,Array.getElem?_replicate] at hd
      split at hd<;>simp at hd
     ·rw [zfX 0 us _ _ (fun j _=>by
       simp only [Array.getD_eq_getD_getElem?,Array.getElem?_replicate]
       split<;>rfl)]
      exact ⟨ho2.defers,ho2.size,fun i=>DenV.mono (w:=w) (w':={w with drawn:=w.drawn+1}) (Env.Le.refl E) ⟨Nat.le_refl _,fun _ _ _=>rfl⟩ _ _ (ho2.tm i),ho2.mem.drew _⟩
   | _=>exact h.elim
  ·unfold contN at h
   cases k with
   | nil=>exact h E a w ho
   | cons x k=>
    cases x with
    | code c=>exact ih1 _ _ _ _ _ h E a w ho
    | blk i=>exact ih2 _ _ _ _ h E a w ho
    | mark j=>exact h E a w ho
  ·unfold contE at h
   cases k with
   | nil=>exact h E a w ho
   | cons x k=>
    cases x with
    | code c=>exact ih3 _ _ _ _ _ h E a w ho
    | mark j=>exact ih3 _ _ _ _ _ h E a w ho
    | blk i=>
     simp only [] at h
     show Exit.inBlock i (qOf P J k Q) (.exit id) a w
     split at h
     ·rename_i e;subst e;simp only [Exit.inBlock,if_true];exact ih2 _ _ _ _ h E a w ho
     ·rename_i e;simp only [Exit.inBlock,if_neg e];exact ih3 _ _ _ _ _ h E a w ho
end
attribute [irreducible] exec contN contE
end Go.Proofs.YtkhphiahindnnaaGreat
namespace Go.Proofs.YtkhphiahindnnaaGreat
open Go.RowKit Go.ChangeShapes Go.WideShapes Go.Deep
def zbn {α:Type}:List (Nat×α)->Nat->Option α
 | [],_=>none
 | (k,v)::r,t=>bif Nat.beq k t then some v else zbn r t
theorem zhA {α:Type} (k:Nat) (v:α) (r:List (Nat×α)) (t:Nat):zbn ((k,v)::r) t=if t=k then some v else zbn r t:=by
 show (bif Nat.beq k t then some v else zbn r t)=_
 by_cases h:t=k
 ·subst h;simp
 ·have:Nat.beq k t=false:=by
   cases hb:Nat.beq k t
   ·rfl
   ·exact absurd (Nat.eq_of_beq_eq_true hb).symm h
  rw [this,if_neg h];rfl
theorem zcP {α:Type}:∀ {l:List (Nat×α)} {t:Nat} {v:α},zbn l t=some v->(t,v)∈l
 | (k,u)::r,t,v,h=>by
  rw [zhA] at h
  split at h
  ·rename_i e;subst e
   simp only [Option.some.injEq] at h
   subst h;exact List.mem_cons_self ..
  ·exact List.mem_cons_of_mem _ (zcP h)
 | [],_,_,h=>by simp [zbn] at h
theorem zeN {α:Type} {d:α}:∀ {l:List (Nat×α)} {t:Nat},zaM d l t=d\/(t,zaM d l t)∈l
 | [],_=> .inl rfl
 | (k,u)::r,t=>by
  rw [zbz]
  split
  ·rename_i e;subst e;exact .inr (List.mem_cons_self ..)
  ·rcases zeN (d:=d) (l:=r) (t:=t) with h | h
   ·exact .inl h
   ·exact .inr (List.mem_cons_of_mem _ h)
theorem znI {α:Type} {d:α}:∀ {l:List (Nat×α)} {t:Nat},t∉l.map (·.1)->zaM d l t=d
 | [],_,_=>rfl
 | (k,u)::r,t,h=>by
  simp only [List.map_cons,List.mem_cons,not_or] at h
  rw [zbz,if_neg h.1];exact znI h.2
abbrev Rho:=List (Nat×Option Nat)
abbrev Lam:=List (Nat×Nat)
def zsR (nl:Nat) (la:Lam) (i:Nat):Option Nat:=bif Nat.blt i nl then some i else zbn la i
def okL (nl:Nat) (la:Lam) (ls ms:List Nat):Bool:=ms.all fun i=>match zsR nl la i with
 | some k=>ls.contains k
 | none=>false
def zdV (nl:Nat):List Nat->Option Nat
 | []=>none
 | a::r=>bif Nat.ble nl a then some a else zdV nl r
theorem zgD {nl:Nat}:∀ {ls:List Nat} {l:Nat},zdV nl ls=some l->l∈ls/\nl<=l
 | a::r,l,h=>by
  simp only [zdV] at h
  cases hb:Nat.ble nl a
  ·rw [hb] at h;obtain ⟨h1,h2⟩:=zgD (ls:=r) h;exact ⟨List.mem_cons_of_mem _ h1,h2⟩
  ·rw [hb] at h
   simp only [cond_true,Option.some.injEq] at h
   subst h;exact ⟨List.mem_cons_self ..,Nat.le_of_ble_eq_true hb⟩
 | [],_,h=>by simp [zdV] at h
abbrev LeR:=Option (List Prop×List (Nat×Nat))
def zlj (a b:LeR):LeR:=match a,b with
 | some (p,r),some (q,s)=>some (p++q,r++s)
 | _,_=>none
def isSC (ρ:Rho) (t c:Nat):Bool:=match zbn ρ t with
 | some (some d)=>d==c
 | _=>false
def isSN (ρ:Rho) (t:Nat):Bool:=match zbn ρ t with
 | some none=>true
 | _=>false
structure Ren where
 nl:Nat
 nt:Nat
 ρ:Rho
 la:Lam
def leV0 (st:St) (R:Ren):SV->SV->LeR
 | s,.any=>some ([],[])
 | .int k n,.int k' m=>if k=k' then some ([n=m],[]) else none
 | .bool a,.bool b=>some ([a=b],[])
 | .str a,.str b=>some ([a=b],[])
 | .nil,.nil=>some ([],[])
 | .nil,.sl _ r=>some ([r.nilP],[])
 | .sl ms q,.sl ls r=>if okL R.nl R.la ls ms then (match RL.eqP q r with | some p=>some ([p],[]) | none=>none) else none
 | .own c,.own t=>if isSC R.ρ t c then some ([],[]) else none
 | .nil,.own t=>if isSN R.ρ t then some ([],[]) else none
 | .own c,.sl ls r=>match zdV R.nl ls with
  | some l=>(match st.m c with
   | .row _ ms q=>if okL R.nl R.la ls ms then (match RL.eqP q r with | some p=>some ([p,q.len<=17592186044416],[(c,l)]) | none=>none) else none
   | _=>none)
  | none=>none
 | .ptr c o,.ptr t o'=>if isSC R.ρ t c then (if o=o' then some ([],[]) else none) else none
 | .mp c,.mp t=>if isSC R.ρ t c then some ([],[]) else none
 | .fn f,.fn g=>if f=g then some ([],[]) else none
 | .np,.np=>some ([],[])
 | .ro ms o,.ro ls o'=>if okL R.nl R.la ls ms then (match OD.eqP o o' with | some p=>some ([p],[]) | none=>none) else none
 | _,_=>none
def leLs (f:SV->SV->LeR):List SV->List SV->LeR
 | [],[]=>some ([],[])
 | s::ss,t::ts=>zlj (f s t) (leLs f ss ts)
 | _,_=>none
def leVr (st:St) (R:Ren):SV->SV->LeR
 | .rp ms T vs o,.rp ls T' us o'=>if T=T' then (if o=o' then (if okL R.nl R.la ls ms then leLs (leV0 st R) vs us else none) else none) else none
 | s,t=>leV0 st R s t
def leV1 (st:St) (R:Ren):SV->SV->LeR
 | .agg vs,.agg us=>leLs (leV0 st R) vs us
 | .clo f vs,.clo g us=>if f=g then leLs (leVr st R) vs us else none
 | s,t=>leVr st R s t
def leV (st:St) (R:Ren):SV->SV->LeR
 | .tup vs,.tup us=>leLs (leV1 st R) vs us
 | s,t=>leV1 st R s t
def leB (st:St) (R:Ren) (t:Nat):BE->LeR
 | .empty=>none
 | .dead=>some ([],[])
 | .cells T us=>match zbn R.ρ t with
  | some (some c)=>match st.m c with
   | .cells T' vs=>if T=T' then (if us.all SV.flat then leLs (leV0 st R) vs us else none) else none
   | _=>none
  | _=>none
 | .row T ls r=>match zbn R.ρ t with
  | some (some c)=>match st.m c with
   | .row T' ms q=>if T=T' then (if okL R.nl R.la ls ms then (match RL.eqP q r with | some p=>some ([p],[]) | none=>none) else none) else none
   | _=>none
  | some none=>some ([r.nilP],[])
  | none=>none
 | .obj o=>match zbn R.ρ t with
  | some (some c)=>match st.m c with
   | .obj o'=>(match OD.eqP o' o with | some p=>some ([p],[]) | none=>none)
   | _=>none
  | _=>none
def leBs (st:St) (R:Ren):List (Nat×BE)->LeR
 | []=>some ([],[])
 | (t,e)::r=>zlj (leB st R t e) (leBs st R r)
def leTs (st:St) (R:Ren):List (Nat×SV)->LeR
 | []=>some ([],[])
 | (i,t)::r=>zlj (leV1 st R (st.s i) t) (leTs st R r)
def zfg (mm:List (Nat×BE)):Rho->List Nat
 | []=>[]
 | (t,some c)::r=>bif (zaM .empty mm t).live then c::zfg mm r else zfg mm r
 | (_,none)::r=>zfg mm r
def zcl:List Nat->Bool
 | []=>true
 | a::r=>!r.contains a&&zcl r
def addR (ρ:Rho) (t:Nat) (v:Option Nat):Rho:=match zbn ρ t with
 | some _=>ρ
 | none=>ρ++[(t,v)]
def zsA (ρ:Rho):SV->SV->Rho
 | .own c,.own t=>addR ρ t (some c)
 | .nil,.own t=>addR ρ t none
 | .ptr c _,.ptr t _=>addR ρ t (some c)
 | .mp c,.mp t=>addR ρ t (some c)
 | _,_=>ρ
def zn8 {α:Type} (f:α->SV->SV->α):α->List SV->List SV->α
 | ρ,s::ss,t::ts=>zn8 f (f ρ s t) ss ts
 | ρ,_,_=>ρ
def zwV {α:Type} (f:α->SV->SV->α) (ρ:α):SV->SV->α
 | .rp ms _ vs _,.rp ls _ us _=>zn8 f (f ρ (.sl ms (.rInts [])) (.sl ls (.rInts []))) vs us
 | s,t=>f ρ s t
def zvi {α:Type} (f:α->SV->SV->α) (ρ:α):SV->SV->α
 | .agg vs,.agg us=>zn8 f ρ vs us
 | .clo _ vs,.clo _ us=>zn8 (zwV f) ρ vs us
 | s,t=>zwV f ρ s t
def zwU {α:Type} (f:α->SV->SV->α) (ρ:α):SV->SV->α
 | .tup vs,.tup us=>zn8 (zvi f) ρ vs us
 | s,t=>zvi f ρ s t
def zvh {α:Type} (f:α->SV->SV->α) (st:St):α->List (Nat×SV)->α
 | ρ,[]=>ρ
 | ρ,(i,t)::r=>zvh f st (zvi f ρ (st.s i) t) r
def zjC {α:Type} (f:α->SV->SV->α) (st:St) (mm:List (Nat×BE)):α->Rho->α
 | ρ,[]=>ρ
 | ρ,(t,some c)::r=>match st.m c,zaM .empty mm t with
  | .cells _ vs,.cells _ us=>zjC f st mm (zn8 f ρ vs us) r
  | .row _ ms _,.row _ ls _=>zjC f st mm (f ρ (.sl ms (.rInts [])) (.sl ls (.rInts []))) r
  | _,_=>zjC f st mm ρ r
 | ρ,_::r=>zjC f st mm ρ r
def addL (nl:Nat) (same:Bool) (ls:List Nat):Lam->List Nat->Lam
 | la,[]=>la
 | la,i::r=>bif Nat.blt i nl then addL nl same ls la r else (match zbn la i with
  | some _=>addL nl same ls la r
  | none=>bif (same&&ls.contains i) then addL nl same ls (la++[(i,i)]) r else (match zdV nl ls with
   | some l=>addL nl same ls (la++[(i,l)]) r
   | none=>addL nl same ls la r))
def lab0 (st:St) (nl:Nat) (same:Bool) (la:Lam):SV->SV->Lam
 | .sl ms _,.sl ls _=>addL nl same ls la ms
 | .own c,.sl ls _=>match st.m c with
  | .row _ ms _=>addL nl same ls la ms
  | _=>la
 | _,_=>la
def idR:Nat->Rho
 | 0=>[]
 | n+1=>idR n++[(n,some n)]
def okR (R:Ren) (mm:List (Nat×BE)) (rel:List (Nat×Nat)):Bool:=
 zcl (zfg mm R.ρ)&&R.ρ.all (fun p=>(mm.map (·.1)).contains p.1)&&rel.all (fun p=>!(zfg mm R.ρ).contains p.1&&Nat.ble R.nl p.2&&(mm.map (·.1)).contains p.2&&rel.all (fun q=>!(p.1==q.1)||p.2==q.2)) &&
 R.la.all (fun p=>Nat.ble R.nl p.2&&(mm.map (·.1)).contains p.2)&&(List.range R.nl).all (fun i=>(mm.map (·.1)).contains i)&&(List.range R.nt).all (fun t=>isSC R.ρ t t)
def zwS (nl nt:Nat) (st:St) (s out:SV) (mm:List (Nat×BE)):Ren:=
 let ρ0:=zwU zsA (idR nt) s out
 let ρ:=zjC zsA st mm ρ0 ρ0
 ⟨nl,nt,ρ,zjC (lab0 st nl false) st mm (zwU (lab0 st nl false) [] s out) ρ⟩
def zxm (nl nt:Nat) (st:St) (s out:SV) (mm:List (Nat×BE)):LeR:=
 let R:=zwS nl nt st s out mm
 match zlj (leV st R s out) (leBs st R mm) with
 | some (ps,rel)=>if okR R mm rel then some (ps,rel) else none
 | none=>none
def zwR (nl nt:Nat) (st st':St):Ren:=
 let ρ0:=zvh zsA st (idR nt) st'.tm
 let ρ:=zjC zsA st st'.mm ρ0 ρ0
 ⟨nl,nt,ρ,zjC (lab0 st nl true) st st'.mm (zvh (lab0 st nl true) st [] st'.tm) ρ⟩
def leSt (nl nt:Nat) (st st':St):LeR:=
 let R:=zwR nl nt st st'
 match zlj (leTs st R st'.tm) (leBs st R st'.mm) with
 | some (ps,rel)=>if okR R st'.mm rel&&Nat.beq st.nt st'.nt then some (ps,rel) else none
 | none=>none
def Env.ren (E:Env) (st:St) (R:Ren) (rel:List (Nat×Nat)):Env where
 β:=fun t=>match zbn R.ρ t with
  | some (some c)=>E.β c
  | some none=>some (.slice none 0 0)
  | none=>none
 σ:=fun i b=>(∃ j,zsR R.nl R.la j=some i/\E.σ j b)\/∃ c,(c,i)∈rel/\Has E st.m c b
 φ:=fun t b=>match zbn R.ρ t with
  | some (some c)=>E.φ c b
  | _=>False
section
variable {base : Nat} {X : Cx} {w0 : World}
theorem zjG {E:Env} {st:St} {R:Ren} {rel:List (Nat×Nat)} {ls ms:List Nat} (h:okL R.nl R.la ls ms=true) {b:Nat} (hb:E.set ms b):(E.ren st R rel).set ls b:=by
 obtain ⟨i,hi,hs⟩:=hb
 have:=List.all_eq_true.1 h i hi
 split at this
 ·rename_i k hk
  exact ⟨k,by simpa using this,.inl ⟨i,hk,hs⟩⟩
 ·cases this
theorem zi3 {ρ:Rho} {t c:Nat} (h:isSC ρ t c=true):zbn ρ t=some (some c):=by
 unfold isSC at h
 split at h
 ·rename_i d e;rw [e];have:d=c:=by simpa using h
  rw [this]
 ·cases h
theorem zv1 {ρ:Rho} {t:Nat} (h:isSN ρ t=true):zbn ρ t=some none:=by
 unfold isSN at h
 split at h
 ·assumption
 ·cases h
theorem zkU {E:Env} {st:St} {R:Ren} {rel:List (Nat×Nat)} {t c:Nat} (h:zbn R.ρ t=some (some c)):(E.ren st R rel).β t=E.β c:=by
 show (match zbn R.ρ t with | some (some c)=>E.β c | some none=>some (.slice none 0 0) | none=>none)=_
 rw [h]
theorem zwQ {E:Env} {st:St} {R:Ren} {rel:List (Nat×Nat)} {t c:Nat} (h:zbn R.ρ t=some (some c)):(E.ren st R rel).φ t=E.φ c:=by
 funext b
 show (match zbn R.ρ t with | some (some c)=>E.φ c b | _=>False)=_
 rw [h]
theorem zud {E:Env} {st:St} {R:Ren} {rel:List (Nat×Nat)} {t:Nat} (h:zbn R.ρ t=some none):(E.ren st R rel).β t=some (.slice none 0 0):=by
 show (match zbn R.ρ t with | some (some c)=>E.β c | some none=>some (.slice none 0 0) | none=>none)=_
 rw [h]
theorem zi1 {E:Env} {st:St} {w:World} (hm:MemOk base X w0 E st.m w) {R:Ren} {rel:List (Nat×Nat)} {s t:SV} {ps:List Prop} {rl:List (Nat×Nat)} (h:leV0 st R s t=some (ps,rl)) (hp:∀ p∈ps,p) (hr:∀ c,c∈rl->c∈rel) {v:Value} (hv:DenV E w s v):DenV (E.ren st R rel) w t v:=by
 unfold leV0 at h
 split at h
 ·trivial
 ·split at h
  case isFalse=>simp at h
  rename_i k n k' m hk
  simp only [Option.some.injEq,Prod.mk.injEq] at h
  obtain ⟨rfl,rfl⟩:=h
  subst hk
  rw [<- hp (n=m) (by simp)];exact hv
 ·simp only [Option.some.injEq,Prod.mk.injEq] at h
  obtain ⟨rfl,rfl⟩:=h
  rename_i a b
  rw [<- hp (a=b) (by simp)];exact hv
 ·simp only [Option.some.injEq,Prod.mk.injEq] at h
  obtain ⟨rfl,rfl⟩:=h
  rename_i a b
  rw [<- hp (a=b) (by simp)];exact hv
 ·exact hv
 ·simp only [Option.some.injEq,Prod.mk.injEq] at h
  obtain ⟨rfl,rfl⟩:=h
  rename_i r
  have hz:=RL.nilP_ok (hp r.nilP (by simp))
  have:v = .slice none 0 0:=hv
  subst this
  show Rd _ _ _ _ (.sl r.rows)
  rw [hz]
  exact .emp (fun _=>rfl) (by decide)
 ·split at h
  case isFalse=>simp at h
  split at h
  case h_2=>simp at h
  rename_i ms q ls r hok _ p hq
  simp only [Option.some.injEq,Prod.mk.injEq] at h
  obtain ⟨rfl,rfl⟩:=h
  have e:=RL.eqP_ok hq (hp p (by simp))
  subst e
  exact Rd.mono hv (fun b _ hb=>zjG hok hb)
 ·split at h
  case isFalse=>simp at h
  rename_i c t hc
  exact ⟨(zkU (zi3 hc)).trans hv.1,hv.2⟩
 ·split at h
  case isFalse=>simp at h
  rename_i t hc
  have hv:v = .slice none 0 0:=hv
  subst hv
  exact ⟨zud (zv1 hc),rfl⟩
 ·split at h
  case h_2=>simp at h
  split at h
  case h_2=>simp at h
  split at h
  case isFalse=>simp at h
  split at h
  case h_2=>simp at h
  rename_i c ls r _ l h1 _ T ms q hmc hok _ p hq
  simp only [Option.some.injEq,Prod.mk.injEq] at h
  obtain ⟨rfl,rfl⟩:=h
  have e:=RL.eqP_ok hq (hp p (by simp))
  have hle:q.len<=17592186044416:=hp (q.len<=17592186044416) (by simp)
  subst e
  obtain ⟨v',hβ,ho⟩:=hm.row c T ms q hmc
  have hv1:=hv.1
  rw [hβ] at hv1
  simp only [Option.some.injEq] at hv1
  subst hv1
  have hf:=ho.form
  obtain ⟨a,cc,ef⟩:=hf
  have hs:=ho.slO ((E.ren st R rel).set ls) (fun b hb=>zjG hok hb) (fun b _ hb=>⟨l,(zgD h1).1,.inr ⟨c,hr (c,l) (by simp),Has.row hmc hβ (by rw [<- zaN ⟨a,_,cc,ef⟩];exact hb)⟩⟩) (by rw [q.rows_len];exact hle)
  obtain ⟨a2,c2,e2,h2⟩:=hs
  rw [e2];exact h2
 ·split at h
  case isFalse=>simp at h
  split at h
  case isFalse=>simp at h
  rename_i c o t o' hc ho
  subst ho
  obtain ⟨b,h1,h2⟩:=hv
  exact ⟨b,(zkU (zi3 hc)).trans h1,h2⟩
 ·split at h
  case isFalse=>simp at h
  rename_i c t hc
  obtain ⟨b,h1,h2⟩:=hv
  exact ⟨b,(zkU (zi3 hc)).trans h1,h2⟩
 ·split at h
  case isFalse=>simp at h
  rename_i e
  subst e;exact hv
 ·exact hv
 ·split at h
  case isFalse=>simp at h
  split at h
  case h_2=>simp at h
  rename_i ms o ls o' hok _ p hq
  simp only [Option.some.injEq,Prod.mk.injEq] at h
  obtain ⟨rfl,rfl⟩:=h
  have e:=OD.eqP_ok hq (hp p (by simp))
  subst e
  obtain ⟨b,F,h1,h2,h3⟩:=hv
  exact ⟨b,F,h1,h2,fun x hx=>zjG hok (h3 x hx)⟩
 ·simp at h
theorem zeP {a b:LeR} {ps:List Prop} {rl:List (Nat×Nat)} (h:zlj a b=some (ps,rl)):∃ p r q s,a=some (p,r)/\b=some (q,s)/\ps=p++q/\rl=r++s:=by
 unfold zlj at h
 split at h
 ·simp only [Option.some.injEq,Prod.mk.injEq] at h
  exact ⟨_,_,_,_,rfl,rfl,h.1.symm,h.2.symm⟩
 ·simp at h
theorem zfp {E E':Env} {w:World} {rel:List (Nat×Nat)} {f:SV->SV->LeR} (hf:∀ s t ps rl,f s t=some (ps,rl)->(∀ p∈ps,p)->(∀ c,c∈rl->c∈rel)->∀ v,DenV E w s v->DenV E' w t v):∀ (ss ts:List SV) (ps:List Prop) (rl:List (Nat×Nat)),leLs f ss ts=some (ps,rl)->(∀ p∈ps,p)->(∀ c,c∈rl->c∈rel)->ss.length=ts.length/\∀ vs,DenL E w ss vs->DenL E' w ts vs
 | [],[],_,_,_,_,_=>⟨rfl,fun vs h=>by cases vs<;>first | trivial | exact h.elim⟩
 | s::ss,t::ts,ps,rl,h,hp,hr=>by
  obtain ⟨p,r,q,s2,h1,h2,rfl,rfl⟩:=zeP h
  obtain ⟨h3,h4⟩:=zfp hf ss ts q s2 h2 (fun p hp'=>hp p (List.mem_append_right _ hp')) (fun c hc=>hr c (List.mem_append_right _ hc))
  refine ⟨by simp [h3],fun vs hv=>?_⟩
  match vs,hv with
  | v::vs,hv=>exact ⟨hf s t p r h1 (fun p hp'=>hp p (List.mem_append_left _ hp')) (fun c hc=>hr c (List.mem_append_left _ hc)) v hv.1,h4 vs hv.2⟩
 | [],_::_,_,_,h,_,_=>by simp [leLs] at h
 | _::_,[],_,_,h,_,_=>by simp [leLs] at h
theorem zpF {E:Env} {st:St} {w:World} (hm:MemOk base X w0 E st.m w) {R:Ren} {rel:List (Nat×Nat)} (s t:SV) (ps:List Prop) (rl:List (Nat×Nat)) (h:leVr st R s t=some (ps,rl)) (hp:∀ p∈ps,p) (hr:∀ c,c∈rl->c∈rel) (v:Value) (hv:DenV E w s v):DenV (E.ren st R rel) w t v:=by
 unfold leVr at h
 split at h
 ·split at h
  case isFalse=>simp at h
  split at h
  case isFalse=>simp at h
  split at h
  case isFalse=>simp at h
  rename_i e1 e2 hok
  subst e1;subst e2
  obtain ⟨b,xs,h1,h2,h3,h4⟩:=hv
  exact ⟨b,xs,h1,zjG hok h2,h3,(zfp (fun s t ps rl h hp hr v hv=>zi1 hm h hp hr hv) _ _ _ _ h hp hr).2 xs h4⟩
 ·exact zi1 hm h hp hr hv
theorem zli {E:Env} {st:St} {w:World} (hm:MemOk base X w0 E st.m w) {R:Ren} {rel:List (Nat×Nat)} (s t:SV) (ps:List Prop) (rl:List (Nat×Nat)) (h:leV1 st R s t=some (ps,rl)) (hp:∀ p∈ps,p) (hr:∀ c,c∈rl->c∈rel) (v:Value) (hv:DenV E w s v):DenV (E.ren st R rel) w t v:=by
 unfold leV1 at h
 split at h
 ·obtain ⟨xs,h1,h2⟩:=hv
  exact ⟨xs,h1,(zfp (fun s t ps rl h hp hr v hv=>zi1 hm h hp hr hv) _ _ _ _ h hp hr).2 xs h2⟩
 ·split at h
  case isFalse=>simp at h
  rename_i e
  subst e
  obtain ⟨xs,h1,h2⟩:=hv
  exact ⟨xs,h1,(zfp (zpF hm) _ _ _ _ h hp hr).2 xs h2⟩
 ·exact zpF hm _ _ _ _ h hp hr v hv
theorem zxl {E:Env} {st:St} {w:World} (hm:MemOk base X w0 E st.m w) {R:Ren} {rel:List (Nat×Nat)} (s t:SV) (ps:List Prop) (rl:List (Nat×Nat)) (h:leV st R s t=some (ps,rl)) (hp:∀ p∈ps,p) (hr:∀ c,c∈rl->c∈rel) (v:Value) (hv:DenV E w s v):DenV (E.ren st R rel) w t v:=by
 unfold leV at h
 split at h
 ·obtain ⟨xs,h1,h2⟩:=hv
  exact ⟨xs,h1,(zfp (fun s t ps rl h hp hr v hv=>zli hm s t ps rl h hp hr v hv) _ _ _ _ h hp hr).2 xs h2⟩
 ·exact zli hm s t ps rl h hp hr v hv
theorem zpH {st:St} {R:Ren}:∀ (mm:List (Nat×BE)) (ps:List Prop) (rl:List (Nat×Nat)),leBs st R mm=some (ps,rl)->∀ t e,(t,e)∈mm->∃ p r,leB st R t e=some (p,r)/\(∀ x,x∈p->x∈ps)/\∀ x,x∈r->x∈rl
 | (t0,e0)::mm,ps,rl,h,t,e,he=>by
  obtain ⟨p,r,q,s2,h1,h2,rfl,rfl⟩:=zeP h
  rcases List.mem_cons.1 he with e1 | e1
  ·cases e1
   exact ⟨p,r,h1,fun x hx=>List.mem_append_left _ hx,fun x hx=>List.mem_append_left _ hx⟩
  ·obtain ⟨p2,r2,h3,h4,h5⟩:=zpH mm q s2 h2 t e e1
   exact ⟨p2,r2,h3,fun x hx=>List.mem_append_right _ (h4 x hx),fun x hx=>List.mem_append_right _ (h5 x hx)⟩
 | [],_,_,_,t,e,he=>by cases he
theorem zpG {st:St} {R:Ren}:∀ (tm:List (Nat×SV)) (ps:List Prop) (rl:List (Nat×Nat)),leTs st R tm=some (ps,rl)->∀ t e,(t,e)∈tm->∃ p r,leV1 st R (st.s t) e=some (p,r)/\(∀ x,x∈p->x∈ps)/\∀ x,x∈r->x∈rl
 | (t0,e0)::mm,ps,rl,h,t,e,he=>by
  obtain ⟨p,r,q,s2,h1,h2,rfl,rfl⟩:=zeP h
  rcases List.mem_cons.1 he with e1 | e1
  ·cases e1
   exact ⟨p,r,h1,fun x hx=>List.mem_append_left _ hx,fun x hx=>List.mem_append_left _ hx⟩
  ·obtain ⟨p2,r2,h3,h4,h5⟩:=zpG mm q s2 h2 t e e1
   exact ⟨p2,r2,h3,fun x hx=>List.mem_append_right _ (h4 x hx),fun x hx=>List.mem_append_right _ (h5 x hx)⟩
 | [],_,_,_,t,e,he=>by cases he
theorem zdT {mm:List (Nat×BE)}:∀ {ρ:Rho} {t c:Nat},(t,some c)∈ρ->(zaM .empty mm t).live=true->c∈zfg mm ρ
 | (k,u)::r,t,c,h,hl=>by
  rcases List.mem_cons.1 h with e | h2
  ·cases e;simp only [zfg,hl,cond_true];exact List.mem_cons_self ..
  ·cases u with
   | none=>exact zdT (ρ:=r) h2 hl
   | some d=>
    simp only [zfg]
    cases (zaM BE.empty mm k).live
    ·exact zdT (ρ:=r) h2 hl
    ·exact List.mem_cons_of_mem _ (zdT (ρ:=r) h2 hl)
 | [],_,_,h,_=>by cases h
theorem zjH {mm:List (Nat×BE)}:∀ {ρ:Rho} {t u c:Nat},zcl (zfg mm ρ)=true->zbn ρ t=some (some c)->zbn ρ u=some (some c)->(zaM .empty mm t).live=true->(zaM .empty mm u).live=true->t=u
 | (k,v)::r,t,u,c,hn,h1,h2,l1,l2=>by
  rw [zhA] at h1 h2
  by_cases e1:t=k
  ·by_cases e2:u=k
   ·rw [e1,e2]
   ·rw [if_pos e1] at h1
    rw [if_neg e2] at h2
    simp only [Option.some.injEq] at h1
    subst h1;subst e1
    simp only [zfg,l1,cond_true,zcl,Bool.and_eq_true] at hn
    have:=zdT (zcP h2) l2
    simp [this] at hn
  ·by_cases e2:u=k
   ·rw [if_neg e1] at h1
    rw [if_pos e2] at h2
    simp only [Option.some.injEq] at h2
    subst h2;subst e2
    simp only [zfg,l2,cond_true,zcl,Bool.and_eq_true] at hn
    have:=zdT (zcP h1) l1
    simp [this] at hn
   ·rw [if_neg e1] at h1
    rw [if_neg e2] at h2
    refine zjH ?_ h1 h2 l1 l2
    cases v with
    | none=>exact hn
    | some d=>
     simp only [zfg] at hn
     cases hl:(zaM BE.empty mm k).live
     ·rw [hl] at hn;exact hn
     ·rw [hl] at hn;simp only [cond_true,zcl,Bool.and_eq_true] at hn;exact hn.2
 | [],_,_,_,_,h,_,_,_=>by simp [zbn] at h
theorem MemOk.ren {E:Env} {st:St} {w:World} (hm:MemOk base X w0 E st.m w) {R:Ren} {rel:List (Nat×Nat)} {mm:List (Nat×BE)} {ps:List Prop} {rl:List (Nat×Nat)} (h:leBs st R mm=some (ps,rl)) (hp:∀ p∈ps,p) (hr:∀ c,c∈rl->c∈rel) (hok:okR R mm rel=true)
  (hnl:X.nl=R.nl) (hB:∀ t v,X.B t=some v->t<R.nt):MemOk base X w0 (E.ren st R rel) (zaM .empty mm) w:=by
 simp only [okR,Bool.and_eq_true] at hok
 obtain ⟨⟨⟨⟨⟨hnd,hrg⟩,hrel⟩,hla⟩,hlow⟩,hid⟩:=hok
 have hkey:∀ t v,zbn R.ρ t=some v->t∈mm.map (·.1):=fun t v hv=>by
  have:=List.all_eq_true.1 hrg _ (zcP hv)
  simpa using this
 have hat:∀ t e,(t,e)∈mm->∃ p r,leB st R t e=some (p,r)/\(∀ x,x∈p->x)/\∀ x,x∈r->x∈rel:=by
  intro t e he
  obtain ⟨p,r,h1,h2,h3⟩:=zpH mm ps rl h t e he
  exact ⟨p,r,h1,fun x hx=>hp x (h2 x hx),fun x hx=>hr x (h3 x hx)⟩
 have hin:∀ t e,zaM .empty mm t=e->e ≠ .empty->(t,e)∈mm:=by
  intro t e he hne
  rcases zeN (d:=BE.empty) (l:=mm) (t:=t) with h1 | h1
  ·exact absurd (he▸h1) hne
  ·rw [he] at h1;exact h1
 have hnkey:∀ t,zaM .empty mm t = .empty->t∉mm.map (·.1):=by
  intro t ht hk
  obtain ⟨⟨t',e⟩,hp2,rfl⟩:=List.mem_map.1 hk
  rcases zeN (d:=BE.empty) (l:=mm) (t:=t') with h1 | h1
  ·have key:∀ (l:List (Nat×BE)) (t:Nat),t∈l.map (·.1)->(∀ e,(t,e)∈l->e ≠ .empty)->zaM .empty l t ≠ .empty:=by
    intro l
    induction l with
    | nil=>intro t h;cases h
    | cons q l ih=>
     obtain ⟨k,e⟩:=q
     intro t hk hne
     rw [zbz]
     by_cases hx:t=k
     ·rw [if_pos hx];exact hne e (by rw [hx];exact List.mem_cons_self ..)
     ·rw [if_neg hx]
      simp only [List.map_cons,List.mem_cons] at hk
      exact ih t (hk.resolve_left hx) (fun e he=>hne e (List.mem_cons_of_mem _ he))
   refine key mm t' (List.mem_map.2 ⟨_,hp2,rfl⟩) (fun e he h0=>?_) ht
   obtain ⟨p,r,h2,_⟩:=hat t' e he
   rw [h0] at h2
   simp [leB] at h2
  ·obtain ⟨p,r,h2,_⟩:=hat t' _ h1
   rw [show zaM BE.empty mm t'=BE.empty from ht] at h2
   simp [leB] at h2
 -- a label's origin
 have hlab:∀ j i,zsR R.nl R.la j=some i->(j<R.nl/\i=j)\/(R.nl<=j/\R.nl<=i/\i∈mm.map (·.1)):=by
  intro j i hj
  unfold zsR at hj
  rw [zfD] at hj
  split at hj
  ·rename_i hlt
   simp only [Option.some.injEq] at hj
   exact .inl ⟨hlt,hj.symm⟩
  ·rename_i hlt
   have:=List.all_eq_true.1 hla _ (zcP hj)
   simp only [Bool.and_eq_true] at this
   exact .inr ⟨by omega,Nat.le_of_ble_eq_true this.1,by simpa using this.2⟩
 have hrl:∀ c i,(c,i)∈rel->c∉zfg mm R.ρ/\R.nl<=i/\i∈mm.map (·.1)/\∀ i',(c,i')∈rel->i=i':=by
  intro c i hc
  have:=List.all_eq_true.1 hrel _ hc
  simp only [Bool.and_eq_true,Bool.not_eq_true'] at this
  obtain ⟨⟨⟨h1,h2⟩,h3⟩,h4⟩:=this
  refine ⟨by simpa using h1,Nat.le_of_ble_eq_true h2,by simpa using h3,fun i' hi'=>?_⟩
  have:=List.all_eq_true.1 h4 _ hi'
  simpa using this
 -- a tag that has a block has that of the tag it stands for
 have hhas:∀ t b,Has (E.ren st R rel) (zaM .empty mm) t b->∃ c,zbn R.ρ t=some (some c)/\Has E st.m c b:=by
  intro t b ⟨hlive,v,hv,hvb⟩
  have hv:(match zbn R.ρ t with | some (some c)=>E.β c | some none=>some (.slice none 0 0) | none=>none)=some v:=hv
  have hme:=hin t _ rfl (fun e=>by rw [e] at hlive;cases hlive)
  obtain ⟨p,r,h1,_⟩:=hat t _ hme
  generalize zaM BE.empty mm t=e at *
  cases hlk:zbn R.ρ t with
  | none=>rw [hlk] at hv;cases hv
  | some o=>
   cases o with
   | none=>
    rw [hlk] at hv;simp only [Option.some.injEq] at hv;subst hv
    cases e with
    | empty=>cases hlive
    | dead=>cases hlive
    | cells T us=>simp [Fo,zaV] at hvb
    | row T ls q=>simp [Fo,zaV] at hvb
    | obj o=>simp only [leB,hlk] at h1;cases h1
   | some c=>
    rw [hlk] at hv
    refine ⟨c,rfl,?_⟩
    cases e with
    | empty=>cases hlive
    | dead=>cases hlive
    | cells T us=>
     simp only [leB,hlk] at h1
     split at h1
     ·rename_i e2;exact Has.cells e2 hv hvb
     ·simp at h1
    | row T ls q=>
     simp only [leB,hlk] at h1
     split at h1
     ·rename_i e2;exact Has.row e2 hv hvb
     ·simp at h1
    | obj o=>
     have hvb:(E.ren st R rel).φ t b:=hvb
     rw [zwQ hlk] at hvb
     simp only [leB,hlk] at h1
     split at h1
     ·rename_i e2;exact ⟨by rw [e2];rfl,v,hv,by rw [e2];exact hvb⟩
     ·simp at h1
 refine ⟨fun t ht=>?_,fun t T us ht=>?_,fun t T ls r ht=>?_,fun i b hb=>?_,fun i j b h1 h2=>?_,fun i hi he=>?_,fun t b hb=>?_,fun i b hi hb=>?_,fun t u b h1 h2=>?_,fun t v hv=>?_,hm.below,hm.base,fun t o ht=>?_⟩
 ·have hnk:=hnkey t ht
  have hnl2:zbn R.ρ t=none:=by
   cases hlk:zbn R.ρ t with
   | none=>rfl
   | some v=>exact absurd (hkey t v hlk) hnk
  refine ⟨?_,fun b hb=>?_⟩
  ·show (match zbn R.ρ t with | some (some c)=>E.β c | some none=>some (.slice none 0 0) | none=>none)=none
   rw [hnl2]
  ·rcases hb with ⟨j,hj,hs⟩ | ⟨c,hc,_⟩
   ·rcases hlab j t hj with ⟨h1,rfl⟩ | ⟨_,_,h3⟩
    ·have:=List.all_eq_true.1 hlow t (List.mem_range.2 h1)
     exact hnk (by simpa using this)
    ·exact hnk h3
   ·exact hnk (hrl c t hc).2.2.1
 ·obtain ⟨p,r,h1,h2,h3⟩:=hat t _ (hin t _ ht (by simp))
  simp only [leB] at h1
  split at h1
  case h_2=>simp at h1
  rename_i c hlk
  split at h1
  case h_2=>simp at h1
  rename_i T' vs hc
  split at h1
  case isFalse=>simp at h1
  split at h1
  case isFalse=>simp at h1
  rename_i hT hf
  subst hT
  obtain ⟨b,xs,c1,c2,c3,c4⟩:=hm.cells c _ _ hc
  exact ⟨b,xs,(zkU hlk).trans c1,c2,(zfp (fun s t ps rl h hp hr v hv=>zi1 hm h hp hr hv) _ _ _ _ h1 h2 h3).2 xs c3,hf⟩
 ·obtain ⟨p,r2,h1,h2,h3⟩:=hat t _ (hin t _ ht (by simp))
  simp only [leB] at h1
  split at h1
  ·rename_i c hlk
   split at h1
   case h_2=>simp at h1
   rename_i T' ms q hc
   split at h1
   case isFalse=>simp at h1
   split at h1
   case isFalse=>simp at h1
   split at h1
   case h_2=>simp at h1
   rename_i hT hoke _ pp hq
   subst hT
   simp only [Option.some.injEq,Prod.mk.injEq] at h1
   obtain ⟨rfl,rfl⟩:=h1
   have e:=RL.eqP_ok hq (h2 pp (by simp))
   subst e
   obtain ⟨v,c1,c2⟩:=hm.row c _ _ _ hc
   exact ⟨v,(zkU hlk).trans c1,c2.mono (Nat.le_refl _) (fun b hb=>zjG hoke hb)⟩
  ·rename_i hlk
   simp only [Option.some.injEq,Prod.mk.injEq] at h1
   obtain ⟨rfl,rfl⟩:=h1
   have hz:=RL.nilP_ok (h2 r.nilP (by simp))
   exact ⟨.slice none 0 0,zud hlk,by rw [hz];exact OwnR.nil _ _ _ _ _⟩
  ·simp at h1
 ·rcases hb with ⟨j,hj,hs⟩ | ⟨c,hc,hh⟩
  ·refine ⟨(hm.lab j b hs).1,fun hi=>?_⟩
   rcases hlab j i hj with ⟨h1,rfl⟩ | ⟨h1,_,_⟩
   ·omega
   ·exact (hm.lab j b hs).2 (by omega)
  ·exact ⟨hm.lt hh,fun _=>(hm.sep c b hh).2⟩
 ·rcases h1 with ⟨j1,hj1,hs1⟩ | ⟨c1,hc1,hh1⟩
  ·rcases h2 with ⟨j2,hj2,hs2⟩ | ⟨c2,hc2,hh2⟩
   ·have:=hm.dis j1 j2 b hs1 hs2
    subst this
    rw [hj1] at hj2
    simpa using hj2
   ·exact absurd ⟨j1,hs1⟩ (hm.sep c2 b hh2).1
  ·rcases h2 with ⟨j2,hj2,hs2⟩ | ⟨c2,hc2,hh2⟩
   ·exact absurd ⟨j2,hs2⟩ (hm.sep c1 b hh1).1
   ·have:=hm.inj c1 c2 b hh1 hh2
    subst this
    exact (hrl c1 i hc1).2.2.2 j hc2
 ·have:=List.all_eq_true.1 hlow i (List.mem_range.2 (by omega))
  exact hnkey i he (by simpa using this)
 ·obtain ⟨c,hlk,hh⟩:=hhas t b hb
  refine ⟨fun ⟨i,hs⟩=>?_,(hm.sep c b hh).2⟩
  rcases hs with ⟨j,_,hs⟩ | ⟨c',hc',hh'⟩
  ·exact (hm.sep c b hh).1 ⟨j,hs⟩
  ·have e:=hm.inj c c' b hh hh'
   subst e
   exact (hrl c i hc').1 (zdT (zcP hlk) hb.1)
 ·rcases hb with ⟨j,hj,hs⟩ | ⟨c,hc,_⟩
  ·rcases hlab j i hj with ⟨h1,rfl⟩ | ⟨_,h2,_⟩
   ·exact hm.old i b hi hs
   ·omega
  ·have:=(hrl c i hc).2.1;omega
 ·obtain ⟨c,hc1,hc2⟩:=hhas t b h1
  obtain ⟨d,hd1,hd2⟩:=hhas u b h2
  have e:=hm.inj c d b hc2 hd2
  subst e
  exact zjH hnd hc1 hd1 h1.1 h2.1
 ·have ht:=hB t v hv
  have:=List.all_eq_true.1 hid t (List.mem_range.2 ht)
  exact (zkU (zi3 this)).trans (hm.keep t v hv)
 ·obtain ⟨p,r,h1,h2,h3⟩:=hat t _ (hin t _ ht (by simp))
  simp only [leB] at h1
  split at h1
  case h_2=>simp at h1
  rename_i c hlk
  split at h1
  case h_2=>simp at h1
  rename_i o' hc
  split at h1
  case h_2=>simp at h1
  rename_i pp hq
  simp only [Option.some.injEq,Prod.mk.injEq] at h1
  obtain ⟨rfl,rfl⟩:=h1
  have e:=OD.eqP_ok hq (h2 pp (by simp))
  subst e
  obtain ⟨b,c1,c2⟩:=hm.obj c _ hc
  exact ⟨b,(zkU hlk).trans c1,by rw [zwQ hlk];exact c2⟩
theorem zvz {nl nt:Nat} {st st':St} {ps:List Prop} {rl:List (Nat×Nat)} (h:leSt nl nt st st'=some (ps,rl)) (hp:∀ p∈ps,p) (hnl:X.nl=nl) (hB:∀ t v,X.B t=some v->t<nt) {E:Env} {a:Act} {w:World} (ho:st.Ok base X w0 E a w):∃ E',st'.Ok base X w0 E' a w:=by
 unfold leSt at h
 simp only at h
 split at h
 case h_2=>simp at h
 rename_i ps2 rel he
 split at h
 case isFalse=>simp at h
 rename_i hok
 simp only [Option.some.injEq,Prod.mk.injEq] at h
 obtain ⟨rfl,rfl⟩:=h
 obtain ⟨hok1,hok2⟩:=Bool.and_eq_true _ _▸hok
 obtain ⟨p,r,q,s,h1,h2,rfl,rfl⟩:=zeP he
 refine ⟨E.ren st (zwR nl nt st st') (r++s),ho.defers,ho.size.trans (Nat.eq_of_beq_eq_true hok2),fun i=>?_,ho.mem.ren h2 (fun x hx=>hp x (List.mem_append_right _ hx)) (fun c hc=>List.mem_append_right _ hc) hok1 hnl hB⟩
 rcases zeN (d:=SV.any) (l:=st'.tm) (t:=i) with h3 | h3
 ·show DenV _ w (zaM .any st'.tm i) _
  rw [h3];trivial
 ·obtain ⟨p2,r2,h4,h5,h6⟩:=zpG _ _ _ h1 i _ h3
  exact zli ho.mem _ _ p2 r2 h4 (fun x hx=>hp x (List.mem_append_left _ (h5 x hx))) (fun c hc=>List.mem_append_left _ (h6 c hc)) _ (ho.tm i)
end
end Go.Proofs.YtkhphiahindnnaaGreat
namespace Go.Proofs.YtkhphiahindnnaaGreat
open Go.RowKit Go.ChangeShapes Go.WideShapes Go.Deep
def asc {α:Type}:Nat->List α->List (Nat×α)
 | _,[]=>[]
 | i,e::r=>(i,e)::asc (i+1) r
theorem zjf {α:Type} (d:α):∀ (k:Nat) (l:List α) (i:Nat),zaM d (asc k l) i=if i<k then d else l.getD (i-k) d
 | k,[],i=>by simp [asc,zaM]
 | k,e::r,i=>by
  rw [asc,zbz,zjf d (k+1) r i]
  by_cases h1:i=k
  ·subst h1;simp
  ·by_cases h2:i<k
   ·rw [if_neg h1,if_pos (by omega),if_pos h2]
   ·rw [if_neg h1,if_neg (by omega),if_neg h2,show i-k=(i-(k+1))+1 by omega];simp
def mOf (mo:List BE):Nat->BE:=zaM .empty (asc 0 mo)
theorem zeu (mo:List BE) (t:Nat):mOf mo t=mo.getD t .empty:=by
 show zaM .empty (asc 0 mo) t=_
 rw [zjf,if_neg (by omega),Nat.sub_zero]
def cxIn (E:Env) (mi:List BE) (nl:Nat):Cx:=⟨fun b=>∃ t,Has E (mOf mi) t b,nl,fun i b=>E.σ i b,fun t=>if t<mi.length then E.β t else none⟩
def RpO (out:SV) (mo:List BE) (base:Nat) (X:Cx) (w0:World) (e:Ending) (w':World):Prop:=∃ v E',e = .returned v/\DenV E' w' out v/\MemOk base X w0 E' (mOf mo) w'
def FnG (P:Program) (f:FuncId) (nl:Nat) (mi:List BE) (ins:List SV) (out:SV) (mo:List BE):Prop:=
 FnB P f/\∀ (w:World) (E:Env) (vals:List Value),MemOk w.heap.size (cxIn E mi nl) w E (mOf mi) w->DenL E w ins vals->Calls P f vals.toArray w (RpO out mo w.heap.size (cxIn E mi nl) w)
abbrev D2:List BE:=[.dead,.dead]
abbrev FnC (P:Program) (f:FuncId) (ins:List SV) (out:SV) (mo:List BE):Prop:=FnG P f 1 D2 ins out mo
def zmu (P:Program) (st:St):ResultVar->Option (SV×List Prop)
 | .tmp t=>some (zal (st.s t))
 | .cell a T=>match zc3 st (st.s a),aggT P T,zc7 P T with
  | some (cs,n),some true,some k=>if k<=cs.length then some (.agg (cs.take k),n) else none
  | some (c::_,n),some false,_=>some (c,n)
  | _,_,_=>none
def resL (P:Program) (st:St):List ResultVar->Option (List SV×List Prop)
 | []=>some ([],[])
 | r::rs=>match zmu P st r,resL P st rs with
  | some (s,n),some (ss,m)=>some (s::ss,n++m)
  | _,_=>none
def resS (P:Program) (fn:Func) (st:St):Option (SV×List Prop):=
 match resL P st fn.results.toList with
 | some ([s],n)=>some (s,n)
 | some (ss,n)=>some (.tup ss,n)
 | none=>none
abbrev zxu (α:Type):Prop:=([]:List α)=[]
def Each:List Prop->Prop
 | []=>True
 | p::ps=>p/\Each ps
theorem Each.out:∀ {ps:List Prop},Each ps->∀ p∈ps,p
 | _::_,h,_,.head _=>h.1
 | _::_,h,p,.tail _ hp=>Each.out h.2 p hp
section
variable {P : Program} {base : Nat} {X : Cx} {w0 : World}
theorem zoX {st:St} {E:Env} {a:Act} {w:World} (ho:st.Ok base X w0 E a w) {r:ResultVar} {s:SV} {n:List Prop} (h:zmu P st r=some (s,n)) (hn:∀ p∈n,p) :
  ∃ v,((match r with | .tmp t=>pure (a.tmps.getD t undef) | .cell a' t=>do loadVar t (<- asAddr (a.tmps.getD a' undef)):Sem Value)).run P w = .ok v w/\DenV E w s v:=by
 cases r with
 | tmp t=>
  simp only [zmu,Option.some.injEq] at h
  have:=zae (ho.tm t) (fun p hp=>hn p (by rw [h] at hp;exact hp))
  rw [h] at this
  exact ⟨_,rfl,this⟩
 | cell t T=>
  simp only [zmu] at h
  split at h
  case h_3=>simp at h
  ·rename_i cs m k e1 e2 e3
   split at h
   case isFalse=>simp at h
   rename_i hk
   simp only [Option.some.injEq,Prod.mk.injEq] at h
   obtain ⟨rfl,rfl⟩:=h
   obtain ⟨b,off,xs,e,hd,hc⟩:=zec ho e1 hn (ho.tm t)
   refine ⟨.agg (xs.take k).toArray,?_,xs.take k,rfl,hd.take k⟩
   simp only [e,asAddr,loadVar,Sem.run_bind,Sem.run_pure,Result.andThen,zcN e2,if_true,zaO e3,zek hc k (by rw [hd.len];exact hk)]
  ·rename_i c rest m _ e1 e2
   simp only [Option.some.injEq,Prod.mk.injEq] at h
   obtain ⟨rfl,rfl⟩:=h
   obtain ⟨b,off,xs,e,hd,hc⟩:=zec ho e1 hn (ho.tm t)
   match xs,hd with
   | x0::xs,hd=>
    refine ⟨x0,?_,hd.1⟩
    have:=hc 0 x0 rfl
    rw [Nat.add_zero] at this
    simp [e,asAddr,loadVar,zcN e2,run_load,this]
theorem zoY {st:St} {E:Env} {a:Act} {w:World} (ho:st.Ok base X w0 E a w):∀ (rs:List ResultVar) (ss:List SV) (n:List Prop),resL P st rs=some (ss,n)->(∀ p∈n,p) ->
  ∃ vs,(List.mapM (fun r=>(match r with | .tmp t=>pure (a.tmps.getD t undef) | .cell a' t=>do loadVar t (<- asAddr (a.tmps.getD a' undef)):Sem Value)) rs).run P w = .ok vs w/\DenL E w ss vs
 | [],ss,n,h,hn=>by
  simp only [resL,Option.some.injEq,Prod.mk.injEq] at h
  obtain ⟨rfl,rfl⟩:=h
  exact ⟨[],by simp [Sem.run_pure],trivial⟩
 | r::rs,ss,n,h,hn=>by
  simp only [resL] at h
  split at h
  case h_2=>simp at h
  rename_i s n1 ss2 n2 h1 h2
  simp only [Option.some.injEq,Prod.mk.injEq] at h
  obtain ⟨rfl,rfl⟩:=h
  obtain ⟨v,h3,h4⟩:=zoX (P:=P) ho h1 (fun p hp=>hn p (List.mem_append_left _ hp))
  obtain ⟨vs,h5,h6⟩:=zoY ho rs ss2 n2 h2 (fun p hp=>hn p (List.mem_append_right _ hp))
  exact ⟨v::vs,by simp only [List.mapM_cons,Sem.run_bind,h3,Result.andThen,h5,Sem.run_pure],h4,h6⟩
theorem zvd {fn:Func} {st:St} {E:Env} {a:Act} {w:World} (ho:st.Ok base X w0 E a w) {s:SV} {n:List Prop} (h:resS P fn st=some (s,n)) (hn:∀ p∈n,p):∃ v,(results fn a.tmps).run P w = .ok v w/\DenV E w s v:=by
 unfold resS at h
 have key:∀ ss m,resL P st fn.results.toList=some (ss,m)->(∀ p∈m,p)->∃ vs:List Value,(results fn a.tmps).run P w = .ok (if h:vs.toArray.size=1 then vs.toArray[0] else .tuple vs.toArray) w/\DenL E w ss vs:=by
  intro ss m hl hm
  obtain ⟨vs,h1,h2⟩:=zoY (P:=P) ho _ _ _ hl hm
  refine ⟨vs,?_,h2⟩
  unfold results
  rw [Sem.run_bind,Array.mapM_eq_mapM_toList,map_eq_pure_bind,Sem.run_bind]
  erw [h1]
  simp [Sem.run_pure,Result.andThen]
 split at h
 ·rename_i s2 m hl
  simp only [Option.some.injEq,Prod.mk.injEq] at h
  obtain ⟨rfl,rfl⟩:=h
  obtain ⟨vs,h1,h2⟩:=key _ _ hl hn
  match vs,h2 with
  | [v],h2=>exact ⟨v,by simpa using h1,h2.1⟩
 ·rename_i ss m hne hl
  simp only [Option.some.injEq,Prod.mk.injEq] at h
  obtain ⟨rfl,rfl⟩:=h
  obtain ⟨vs,h1,h2⟩:=key _ _ hl hn
  refine ⟨.tuple vs.toArray,?_,vs,rfl,h2⟩
  rw [h1,dif_neg]
  intro hs
  have:=h2.len
  match ss,vs,hs,this with
  | [s0],[v0],_,_=>exact hne s0 rfl
  | [],[_],_,hlen=>simp at hlen
  | _::_::_,[_],_,hlen=>simp at hlen
 ·simp at h
end
structure Gl where
 fn:Func
 nl:Nat
 nt:Nat
 out:SV
 mo:List BE
def Fit (X:Cx) (g:Gl):Prop:=X.nl=g.nl/\∀ t v,X.B t=some v->t<g.nt
def zrJ (P:Program) (g:Gl) (st:St):Prop:=
 match resS P g.fn st with
 | some (sv,n)=>match zxm g.nl g.nt st sv g.out (asc 0 g.mo) with
  | some (ps,_)=>Each (n++ps)
  | none=>False
 | none=>False
theorem zlW {P:Program} {g:Gl} {st:St} (h:zrJ P g st) {base:Nat} {X:Cx} {w0:World} (hX:Fit X g) {E:Env} {a:Act} {w:World} (ho:st.Ok base X w0 E a w):∃ v,(results g.fn a.tmps).run P w = .ok v w/\RpO g.out g.mo base X w0 (.returned v) w:=by
 unfold zrJ at h
 split at h
 case h_2=>exact h.elim
 rename_i sv n hr
 split at h
 case h_2=>exact h.elim
 rename_i ps rel hl
 have hall:=Each.out h
 obtain ⟨v,h1,h2⟩:=zvd ho hr (fun p hp=>hall p (List.mem_append_left _ hp))
 refine ⟨v,h1,v,?_⟩
 unfold zxm at hl
 simp only at hl
 split at hl
 case h_2=>simp at hl
 rename_i ps2 rel2 he
 split at hl
 case isFalse=>simp at hl
 rename_i hok
 simp only [Option.some.injEq,Prod.mk.injEq] at hl
 obtain ⟨rfl,rfl⟩:=hl
 obtain ⟨p,r,q,s,h3,h4,rfl,rfl⟩:=zeP he
 exact ⟨_,rfl,zxl ho.mem (rel:=r++s) _ _ _ _ h3 (fun x hx=>hall x (by simp [hx])) (fun c hc=>List.mem_append_left _ hc) v h2,
  ho.mem.ren h4 (fun x hx=>hall x (by simp [hx])) (fun c hc=>List.mem_append_right _ hc) hok hX.1 hX.2⟩
def LoopG (P:Program) (g:Gl) (B:Nat->St->Prop) (body:Code) (k:List KI) (st:St):Prop:=
 ∀ (base:Nat) (X:Cx) (w0:World) (J:Nat->Act->World->Prop),Fit X g->(∀ j st,B j st->∀ E a w,st.Ok base X w0 E a w->J j a w) ->
  ∀ E a w,st.Ok base X w0 E a w->(Code.loop body).wp P (qOf P J k (bodyPost P g.fn (RpO g.out g.mo base X w0))) a w
def vc (P:Program) (g:Gl) (B:Nat->St->Prop):Tr->Prop
 | .ret st=>zrJ P g st
 | .nrm st _=>zrJ P g st
 | .need ps t=>Each ps/\vc P g B t
 | .br b t1 t2=>(b=true->vc P g B t1)/\(b=false->vc P g B t2)
 | .brp p q t1 t2=>(p->vc P g B t1)/\(q->vc P g B t2)
 | .back j st=>B j st
 | .loop body k st=>LoopG P g B body k st
 | .ext _ _=>False
 | .stuck _ _ _=>False
theorem zgc {P:Program} {g:Gl} {B:Nat->St->Prop} {base:Nat} {X:Cx} {w0:World} (hX:Fit X g) {J:Nat->Act->World->Prop} (hJ:∀ j st,B j st->∀ E a w,st.Ok base X w0 E a w->J j a w) :
  ∀ (t:Tr),vc P g B t->den P base X w0 J (bodyPost P g.fn (RpO g.out g.mo base X w0)) t
 | .ret st,h=>fun E a w ho=>by
  obtain ⟨v,h1,h2⟩:=zlW h hX ho
  exact ⟨ho.defers,v,h1,h2⟩
 | .nrm st _,h=>fun E a w ho=>by
  obtain ⟨v,h1,h2⟩:=zlW h hX ho
  exact ⟨ho.defers,v,h1,h2⟩
 | .need ps t,h=>⟨h.1.out,zgc hX hJ t h.2⟩
 | .br b t1 t2,h=>⟨fun e=>zgc hX hJ t1 (h.1 e),fun e=>zgc hX hJ t2 (h.2 e)⟩
 | .brp p q t1 t2,h=>⟨fun e=>zgc hX hJ t1 (h.1 e),fun e=>zgc hX hJ t2 (h.2 e)⟩
 | .back j st,h=>hJ j st h
 | .loop body k st,h=>h base X w0 J hX hJ
 | .ext _ _,h=>h.elim
 | .stuck _ _ _,h=>h.elim
def st0 (ins:List SV) (mi:List BE) (n:Nat):St:=⟨asc 0 ins,n,asc 0 mi,mi.length⟩
structure World.Fits (P:Program) (C:Cfg) (more:Nat->St->TypeId->Op->Option Upd):Prop where
 mixed:P.follows .mixedOrders=true
 orc:zgZ P C
 loc:zfF C
 moreOk:zff P more
 moreLoc:zdN more
inductive PE
 | a
 | b
def Tr.at:Tr->List PE->Tr
 | .need _ t,r=>Tr.at t r
 | .br _ x _,.a::r=>Tr.at x r
 | .br _ _ y,.b::r=>Tr.at y r
 | .brp _ _ x _,.a::r=>Tr.at x r
 | .brp _ _ _ y,.b::r=>Tr.at y r
 | t,_=>t
def Tr.ss:Tr->St
 | .loop _ _ st=>st
 | .back _ st=>st
 | _=>⟨[],0,[],0⟩
def Tr.bd:Tr->Code
 | .loop b _ _=>b
 | _=> .skip
def Tr.kk:Tr->List KI
 | .loop _ k _=>k
 | _=>[]
def zkD (fn:Func):Code:=fn.body.getD .skip
theorem FnG.of_vc {P : Program} {C : Cfg} {more : Nat → St → TypeId → Op → Option Upd} (hF : World.Fits P C more) {f : FuncId} {fn : Func} (hf : P.funcs[f]? = some fn) (hb : fn.body = some (zkD fn)) (hname : fn.name ≠ "runtime.NumGoroutine") {nl : Nat} {mi : List BE} {ins : List SV} {out : SV} {mo : List BE} (hins : Nat.ble ins.length fn.ntmps = true) (n : Nat)
  {p:(List PE->Prop)->Prop} (he:vc P ⟨fn,nl,mi.length,out,mo⟩ (fun _ _=>False) (exec P C more n (zkD fn) [] (st0 ins mi fn.ntmps) ⟨[],[]⟩)=p (fun r=>vc P ⟨fn,nl,mi.length,out,mo⟩ (fun _ _=>False) ((exec P C more n (zkD fn) [] (st0 ins mi fn.ntmps) ⟨[],[]⟩).at r)))
  (h0:p (fun r=>vc P ⟨fn,nl,mi.length,out,mo⟩ (fun _ _=>False) ((exec P C more n (zkD fn) [] (st0 ins mi fn.ntmps) ⟨[],[]⟩).at r))):FnG P f nl mi ins out mo:=by
 have h:=h0
 rw [<- he] at h
 clear he h0
 refine ⟨⟨fn,hf,hname,by rw [hb];rfl⟩,fun w E vals hm hd=>?_⟩
 refine calls_of_wp hf hb ?_
 have hX:Fit (cxIn E mi nl) ⟨fn,nl,mi.length,out,mo⟩:=⟨rfl,fun t v hv=>by
  have hv:(if t<mi.length then E.β t else none)=some v:=hv
  split at hv
  ·assumption
  ·cases hv⟩
 have hden:=zgc (base:=w.heap.size) (X:=cxIn E mi nl) (w0:=w) hX (J:=fun _ _ _=>False) (fun _ _ h=>h.elim) _ h
 have hlen:vals.length=ins.length:=hd.len
 have hle:ins.length<=fn.ntmps:=Nat.le_of_ble_eq_true hins
 refine (zqx hF.mixed hF.orc hF.loc hF.moreOk hF.moreLoc n).1 (zkD fn) [] _ _ _ hden E _ w ⟨rfl,?_,fun i=>?_,hm⟩
 ·simp [st0,hlen];omega
 ·have e:(vals.toArray++Array.replicate (fn.ntmps-vals.toArray.size) undef).getD i undef=(vals++List.replicate (fn.ntmps-ins.length) undef).getD i undef:=by
   simp only [Array.getD_eq_getD_getElem?,List.getD,<- hlen]
   rw [<- Array.getElem?_toList]
   simp
  rw [e]
  show DenV E w (zaM .any (asc 0 ins) i) _
  rw [zjf,if_neg (by omega),Nat.sub_zero]
  by_cases hi:i<ins.length
  ·have:=hd.at i hi
   have e2:(vals++List.replicate (fn.ntmps-ins.length) undef).getD i undef=vals.getD i undef:=by
    simp only [List.getD]
    rw [List.getElem?_append_left (by omega)]
   rw [e2];exact this
  ·rw [show ins.getD i SV.any = .any by simp [List.getD,Nat.le_of_not_lt hi]];trivial
def zgz (j:Nat):List KI->Bool
 | []=>true
 | .mark i::k=>!(i==j)&&zgz j k
 | _::k=>zgz j k
theorem zs4 {P:Program} {J J':Nat->Act->World->Prop} {j:Nat} (h:∀ i,i≠j->J i=J' i):∀ (k:List KI),zgz j k=true->∀ Q,qOf P J k Q=qOf P J' k Q
 | [],_,_=>rfl
 | .code c::k,hk,Q=>by rw [qOf,qOf,zs4 h k hk Q]
 | .blk i::k,hk,Q=>by rw [qOf,qOf,zs4 h k hk Q]
 | .mark i::k,hk,Q=>by
  simp only [zgz,Bool.and_eq_true] at hk
  rw [qOf,qOf,zs4 h k hk.2 Q,h i (by simpa using hk.1)]
def leP (g:Gl) (st st':St):Prop:=match leSt g.nl g.nt st st' with
 | some (ps,_)=>Each ps
 | none=>False
theorem zup {g:Gl} {st st':St} (h:leP g st st') {base:Nat} {X:Cx} {w0:World} (hX:Fit X g) {E:Env} {a:Act} {w:World} (ho:st.Ok base X w0 E a w):∃ E',st'.Ok base X w0 E' a w:=by
 unfold leP at h
 split at h
 ·rename_i e;exact zvz e h.out hX.1 hX.2 ho
 ·exact h.elim
def Back {A:Type} (g:Gl) (I:A->Prop) (H:A->St) (μ:A->Nat) (x:A) (st:St):Prop:=∃ y,I y/\μ y<μ x/\leP g st (H y)
theorem LoopG.mk {P:Program} {C:Cfg} {more:Nat->St->TypeId->Op->Option Upd} (hF:World.Fits P C more) {g:Gl} {B:Nat->St->Prop} {body:Code} {k:List KI} {st:St} (j:Nat) (hj:zgz j k=true)
  {A:Type} (I:A->Prop) (H:A->St) (μ:A->Nat) (x0:A) (hI:I x0) (h0:leP g st (H x0)) (n:Nat) (round:∀ x,I x->vc P g (fun i s=>if i=j then Back g I H μ x s else B i s) (exec P C more n body (.mark j::k) (H x) ⟨[],[]⟩)):LoopG P g B body k st:=by
 intro base X w0 J hX hJ E a w ho
 refine wp_loop_ghost (fun m a w=>∃ x,μ x=m/\I x/\∃ E,(H x).Ok base X w0 E a w) (μ x0) ⟨x0,rfl,hI,zup h0 hX ho⟩ ?_
 rintro m a w ⟨x,rfl,hIx,E,hox⟩
 let J':Nat->Act->World->Prop:=fun i=>if i=j then (fun a w=>∃ m',m'<μ x/\∃ y,μ y=m'/\I y/\∃ E,(H y).Ok base X w0 E a w) else J i
 have hden:=zgc (base:=base) (X:=X) (w0:=w0) hX (J:=J') (fun i s hs E a w ho=>by
  by_cases e:i=j
  ·subst e
   rw [if_pos rfl] at hs
   obtain ⟨y,h1,h2,h3⟩:=hs
   show (if i=i then _ else _:Act->World->Prop) a w
   rw [if_pos rfl]
   exact ⟨_,h2,y,rfl,h1,zup h3 hX ho⟩
  ·rw [if_neg e] at hs
   show (if i=j then _ else _:Act->World->Prop) a w
   rw [if_neg e]
   exact hJ i s hs E a w ho) _ (round x hIx)
 have:=(zqx hF.mixed hF.orc hF.loc hF.moreOk hF.moreLoc n).1 body (.mark j::k) _ _ _ hden E a w hox
 rw [qOf,<- zs4 (J:=J) (J':=J') (j:=j) (fun i hi=>by show J i=if i=j then _ else _;rw [if_neg hi]) k hj] at this
 refine Code.wp_mono (fun e a w h=>?_) this
 cases e<;>first | exact h | skip
 have h:J' j a w:=h
 have h:(if j=j then _ else _:Act->World->Prop) a w:=h
 rw [if_pos rfl] at h
 exact h
def wrC:Code->List Nat
 | .region _ ops _=>ops.toList.filterMap (·.dst)
 | .seq a b=>wrC a++wrC b
 | .cond _ a b=>wrC a++wrC b
 | .block _ b=>wrC b
 | .loop b=>wrC b
 | _=>[]
def rdO:Operand->List Nat
 | .tmp t=>[t]
 | _=>[]
def rdC:Code->List Nat
 | .region _ ops _=>ops.toList.flatMap fun o=>o.op.operands.toList.flatMap rdO
 | .seq a b=>rdC a++rdC b
 | .cond x a b=>rdO x++(rdC a++rdC b)
 | .block _ b=>rdC b
 | .loop b=>rdC b
 | _=>[]
def rdK:List KI->List Nat
 | []=>[]
 | .code c::k=>rdC c++rdK k
 | _::k=>rdK k
def rdR (fn:Func):List Nat:=fn.results.toList.map fun r=>match r with
 | .tmp t=>t
 | .cell t _=>t
def canV:SV->SV
 | .tup _=> .any
 | .el _ _ _ _=> .any
 | .oel .. => .any
 | .ov .. => .any
 | .gd .. => .any
 | s=>s
def isAny:SV->Bool
 | .any=>true
 | _=>false
def dedN:List Nat->List Nat->List Nat
 | _,[]=>[]
 | seen,a::r=>bif seen.contains a then dedN seen r else a::dedN (a::seen) r
def zkh (wr rd:List Nat) (ov:List (Nat×SV)) (st:St):List Nat->List (Nat×SV)
 | []=>[]
 | i::r=>match zbn ov i with
  | some v=>(i,v)::zkh wr rd ov st r
  | none=>bif (!(rd.contains i)||wr.contains i||isAny (canV (st.s i))) then zkh wr rd ov st r else (i,canV (st.s i))::zkh wr rd ov st r
def zrO:SV->List Nat
 | .own t=>[t]
 | .ptr t _=>[t]
 | .mp t=>[t]
 | .oel t _ _ _=>[t]
 | .ov t _=>[t]
 | _=>[]
def tagS:SV->List Nat
 | .agg vs=>vs.flatMap zrO
 | .clo _ vs=>vs.flatMap zrO
 | s=>zrO s
def tagE:BE->List Nat
 | .cells _ vs=>vs.flatMap zrO
 | _=>[]
def zwI (om:List (Nat×BE)) (st:St) (l:List Nat):List Nat:=dedN [] (l++l.flatMap fun t=>tagE (match zbn om t with | some v=>v | none=>st.m t))
def zus (nt:Nat) (lv:List Nat) (om:List (Nat×BE)) (st:St):List Nat->List (Nat×BE)
 | []=>[]
 | t::r=>(t,match zbn om t with | some v=>v | none=>bif (Nat.blt t nt||lv.contains t) then st.m t else .dead)::zus nt lv om st r
def zqh:List KI->Bool
 | []=>false
 | .mark _::_=>true
 | _::k=>zqh k
def hdRd (fn:Func) (body:Code) (k:List KI):List Nat:=bif zqh k then List.range fn.ntmps else dedN [] (rdC body++(rdK k++rdR fn))
def hdT (ov:List (Nat×SV)) (st:St):List Nat:=dedN [] (ov.map (·.1)++st.tm.map (·.1))
def hdM (om:List (Nat×BE)) (st:St):List Nat:=dedN [] (om.map (·.1)++st.mm.map (·.1))
def hdL (nt:Nat) (om:List (Nat×BE)) (st:St) (tm:List (Nat×SV)):List Nat:=zwI om st (zwI om st (dedN [] (tm.flatMap (fun p=>tagS p.2)++List.range nt)))
def zeV (fn:Func) (nt:Nat) (body:Code) (k:List KI) (st:St) (ov:List (Nat×SV)) (om:List (Nat×BE)):St:=
 ⟨zkh (wrC body) (hdRd fn body k) ov st (hdT ov st),st.nt,zus nt (hdL nt om st (zkh (wrC body) (hdRd fn body k) ov st (hdT ov st))) om st (hdM om st),st.nx⟩
def Tr.okL (j:Nat):Tr->Bool
 | .loop _ k _=>zgz j k
 | _=>false
def Tr.okB (j:Nat):Tr->Bool
 | .back i _=>Nat.beq i j
 | _=>false
def Tr.okU (j:Nat):Tr->Bool
 | .back i _=>!(Nat.beq i j)
 | _=>false
theorem Tr.okL_eq {X:Tr} {j:Nat} (h:X.okL j=true):X = .loop X.bd X.kk X.ss/\zgz j X.kk=true:=by
 cases X<;>first | exact ⟨rfl,h⟩ | (simp [Tr.okL] at h)
theorem Tr.okB_eq {X:Tr} {j:Nat} (h:X.okB j=true):X = .back j X.ss:=by
 cases X<;>first | (have:=Nat.eq_of_beq_eq_true h;subst this;rfl) | (simp [Tr.okB] at h)
theorem LoopG.head {P:Program} {C:Cfg} {more:Nat->St->TypeId->Op->Option Upd} (hF:World.Fits P C more) {g:Gl} {B:Nat->St->Prop} {X:Tr} (j:Nat)
  {A:Type} (I:A->Prop) (ov:A->List (Nat×SV)) (om:A->List (Nat×BE)) (μ:A->Nat) (x0:A) (hI:I x0) {p0:Prop} (e0:leP g X.ss (zeV g.fn g.nt X.bd X.kk X.ss (ov x0) (om x0))=p0) (h0:p0) (n:Nat) {p:A->(List PE->Prop)->Prop}
  (he:∀ x,vc P g (fun i s=>if i=j then Back g I (fun x=>zeV g.fn g.nt X.bd X.kk X.ss (ov x) (om x)) μ x s else B i s) (exec P C more n X.bd (.mark j::X.kk) (zeV g.fn g.nt X.bd X.kk X.ss (ov x) (om x)) ⟨[],[]⟩) =
   p x (fun r=>vc P g (fun i s=>if i=j then Back g I (fun x=>zeV g.fn g.nt X.bd X.kk X.ss (ov x) (om x)) μ x s else B i s) ((exec P C more n X.bd (.mark j::X.kk) (zeV g.fn g.nt X.bd X.kk X.ss (ov x) (om x)) ⟨[],[]⟩).at r)))
  (round:∀ x,I x->p x (fun r=>vc P g (fun i s=>if i=j then Back g I (fun x=>zeV g.fn g.nt X.bd X.kk X.ss (ov x) (om x)) μ x s else B i s) ((exec P C more n X.bd (.mark j::X.kk) (zeV g.fn g.nt X.bd X.kk X.ss (ov x) (om x)) ⟨[],[]⟩).at r))) (hX:X.okL j=true:=by kernel_rfl):vc P g B X:=by
 obtain ⟨e,hj⟩:=Tr.okL_eq hX
 rw [e]
 exact LoopG.mk hF j hj I (fun x=>zeV g.fn g.nt X.bd X.kk X.ss (ov x) (om x)) μ x0 hI (by rw [e0];exact h0) n (fun x hx=>by rw [he];exact round x hx)
theorem Back.mk {P:Program} {A:Type} {g:Gl} {I:A->Prop} {H:A->St} {μ:A->Nat} {x:A} {B:Nat->St->Prop} {j:Nat} {X:Tr} (y:A) (hI:I y) (hμ:μ y<μ x) {p0:Prop} (e0:leP g X.ss (H y)=p0) (h0:p0) (hX:X.okB j=true:=by kernel_rfl) :
  vc P g (fun i s=>if i=j then Back g I H μ x s else B i s) X:=by
 rw [Tr.okB_eq hX]
 show (if j=j then Back g I H μ x X.ss else B j X.ss)
 rw [if_pos rfl]
 exact ⟨y,hI,hμ,by rw [e0];exact h0⟩
theorem Back.up {P:Program} {g:Gl} {R:St->Prop} {B:Nat->St->Prop} {j:Nat} {X:Tr} (h:vc P g B X) (hX:X.okU j=true:=by kernel_rfl):vc P g (fun i s=>if i=j then R s else B i s) X:=by
 cases X<;>simp only [Tr.okU,Bool.false_eq_true] at hX
 rename_i i st
 show (if i=j then R st else B i st)
 rw [if_neg (fun e=>by subst e;simp at hX)]
 exact h
attribute [irreducible] vc Tr.at zeV leP Tr.ss Tr.bd Tr.kk
end Go.Proofs.YtkhphiahindnnaaGreat
namespace Go.Proofs.YtkhphiahindnnaaGreat
open Go.RowKit Go.ChangeShapes Go.WideShapes Go.Deep
structure Ent where
 f:FuncId
 wr:Bool
 al:List Nat
 gl:List Nat
 nl:Nat
 vr:List (Nat×TypeId×RL)
 go:List SV->List BE->Option (List Prop×SV×List BE)
def zaf (P:Program) (e:Ent):Prop:=FnB P e.f/\∀ ins mi n out mo,e.go ins mi=some (n,out,mo)->(∀ p∈n,p)->FnG P e.f e.nl mi ins out mo
def znS:List Ent->FuncId->Option Ent
 | [],_=>none
 | e::r,f=>bif Nat.beq e.f f then some e else znS r f
theorem zkp:∀ {tab:List Ent} {f:FuncId} {e:Ent},znS tab f=some e->e∈tab/\e.f=f
 | [],_,_,h=>by simp [znS] at h
 | a::r,f,e,h=>by
  simp only [znS] at h
  cases hb:Nat.beq a.f f
  ·rw [hb] at h
   obtain ⟨h1,h2⟩:=zkp (tab:=r) h
   exact ⟨List.mem_cons_of_mem _ h1,h2⟩
  ·rw [hb] at h
   simp only [cond_true,Option.some.injEq] at h
   subst h
   exact ⟨List.mem_cons_self ..,Nat.eq_of_beq_eq_true hb⟩
def idxO:List Nat->Nat->Option Nat
 | [],_=>none
 | a::r,t=>bif Nat.beq a t then some 0 else (match idxO r t with | some k=>some (k+1) | none=>none)
theorem zi6:∀ {T:List Nat} {t k:Nat},idxO T t=some k->T[k]? = some t
 | a::r,t,k,h=>by
  simp only [idxO] at h
  cases hb:Nat.beq a t
  ·rw [hb] at h
   simp only [cond_false] at h
   split at h
   ·rename_i k2 e
    simp only [Option.some.injEq] at h
    subst h
    simpa using zi6 e
   ·simp at h
  ·rw [hb] at h
   simp only [cond_true,Option.some.injEq] at h
   subst h
   have:=Nat.eq_of_beq_eq_true hb
   subst this;rfl
 | [],_,_,h=>by simp [idxO] at h
theorem zkf:∀ {T:List Nat} {t:Nat},idxO T t=none->t∉T
 | a::r,t,h=>by
  simp only [idxO] at h
  cases hb:Nat.beq a t
  ·rw [hb] at h
   simp only [cond_false] at h
   split at h
   ·simp at h
   ·rename_i e
    simp only [List.mem_cons,not_or]
    exact ⟨fun e2=>by rw [e2] at hb;simp at hb,zkf e⟩
  ·rw [hb] at h;simp at h
 | [],_,_=>by simp
theorem ziw:∀ {T:List Nat} {i j t:Nat},zcl T=true->T[i]? = some t->T[j]? = some t->i=j
 | a::r,0,0,t,_,_,_=>rfl
 | a::r,0,j+1,t,h,h1,h2=>by
  simp only [List.getElem?_cons_zero,Option.some.injEq] at h1
  subst h1
  have:a∈r:=List.mem_of_getElem? (by simpa using h2)
  simp only [zcl,Bool.and_eq_true] at h
  simp [this] at h
 | a::r,i+1,0,t,h,h1,h2=>by
  simp only [List.getElem?_cons_zero,Option.some.injEq] at h2
  subst h2
  have:a∈r:=List.mem_of_getElem? (by simpa using h1)
  simp only [zcl,Bool.and_eq_true] at h
  simp [this] at h
 | a::r,i+1,j+1,t,h,h1,h2=>by
  simp only [zcl,Bool.and_eq_true] at h
  exact congrArg (· + 1) (ziw h.2 (by simpa using h1) (by simpa using h2))
 | [],i,_,_,_,h1,_=>by simp at h1
structure Vw where
 m:Nat->BE
 T:List Nat
def lA (l:Nat):Nat:=bif Nat.blt l 1000 then l else l % 1000
def lO (l:Nat):Nat:=bif Nat.blt l 1000 then l else l / 1000
def loL (l:Nat):List Nat:=bif Nat.beq (lA l) (lO l) then [lA l] else [lA l,lO l]
theorem loL_A (l:Nat):lA l∈loL l:=by unfold loL;cases Nat.beq (lA l) (lO l)<;>simp
theorem loL_O (l:Nat):lO l∈loL l:=by
 unfold loL
 cases h:Nat.beq (lA l) (lO l)
 ·simp
 ·simp [Nat.eq_of_beq_eq_true h]
section view
variable (V : Vw) (l : Nat)
def vw0:SV->SV×List Prop
 | .sl _ r=>(.sl [lA l] r,[])
 | .own t=>match idxO V.T t with
  | some k=>(.own (2+k),[])
  | none=>match V.m t with
   | .row _ _ r=>(.sl (loL l) r,[r.len<=17592186044416])
   | _=>(.any,[])
 | .ptr t o=>match idxO V.T t with
  | some k=>(.ptr (2+k) o,[])
  | none=>(.any,[])
 | .int k n=>(.int k n,[])
 | .bool b=>(.bool b,[])
 | .str s=>(.str s,[])
 | .nil=>(.nil,[])
 | .np=>(.np,[])
 | .fn f=>(.fn f,[])
 | _=>(.any,[])
def vwL (f:SV->SV×List Prop):List SV->List SV×List Prop
 | []=>([],[])
 | s::r=>((f s).1::(vwL f r).1,(f s).2++(vwL f r).2)
def vwR:SV->SV×List Prop
 | .ptr t o=>match idxO V.T t with
  | some k=>(.ptr (2+k) o,[])
  | none=>match V.m t with
   | .cells T vs=>(.rp [lO l] T (vwL (vw0 V l) vs).1 o,(vwL (vw0 V l) vs).2)
   | .obj ob=>bif Nat.beq o 0 then (.ro [lO l] ob,[]) else (.any,[])
   | _=>(.any,[])
 | .rp _ T vs o=>(.rp [lA l] T (vwL (vw0 V l) vs).1 o,(vwL (vw0 V l) vs).2)
 | .ro _ ob=>(.ro [lA l] ob,[])
 | s=>vw0 V l s
def vw1:SV->SV×List Prop
 | .agg vs=>(.agg (vwL (vw0 V l) vs).1,(vwL (vw0 V l) vs).2)
 | .clo f vs=>(.clo f (vwL (vwR V l) vs).1,(vwL (vwR V l) vs).2)
 | s=>vwR V l s
def vwB:BE->BE×List Prop
 | .cells T vs=>(.cells T (vwL (vw0 V l) vs).1,(vwL (vw0 V l) vs).2)
 | .row T _ r=>(.row T [l] r,[])
 | .obj o=>(.obj o,[])
 | _=>(.dead,[])
def lp0:SV->List (Nat×Nat)
 | .sl ls _=>ls.map fun i=>(lA l,i)
 | .own t=>match idxO V.T t with
  | some _=>[]
  | none=>match V.m t with
   | .row _ ls _=>ls.map fun i=>(lA l,i)
   | _=>[]
 | _=>[]
def lpR:SV->List (Nat×Nat)
 | .ptr t o=>match idxO V.T t with
  | some _=>[]
  | none=>match V.m t with
   | .cells _ vs=>vs.flatMap (lp0 V l)
   | _=>[]
 | .rp ls _ vs _=>(ls.map fun i=>(lA l,i))++vs.flatMap (lp0 V l)
 | .ro ls _=>ls.map fun i=>(lA l,i)
 | s=>lp0 V l s
def lp1:SV->List (Nat×Nat)
 | .agg vs=>vs.flatMap (lp0 V l)
 | .clo _ vs=>vs.flatMap (lpR V l)
 | s=>lpR V l s
def lpB:BE->List (Nat×Nat)
 | .cells _ vs=>vs.flatMap (lp0 V l)
 | .row _ ls _=>ls.map fun i=>(l,i)
 | _=>[]
def op0:SV->List (Nat×Nat)
 | .own t=>match idxO V.T t with
  | some _=>[]
  | none=>[(lO l,t)]
 | _=>[]
def opR:SV->List (Nat×Nat)
 | .ptr t o=>match idxO V.T t with
  | some _=>[]
  | none=>match V.m t with
   | .cells _ vs=>(lO l,t)::vs.flatMap (op0 V l)
   | .obj _=>[(lO l,t)]
   | _=>[]
 | .rp _ _ vs _=>vs.flatMap (op0 V l)
 | s=>op0 V l s
def op1:SV->List (Nat×Nat)
 | .agg vs=>vs.flatMap (op0 V l)
 | .clo _ vs=>vs.flatMap (opR V l)
 | s=>opR V l s
def opB:BE->List (Nat×Nat)
 | .cells _ vs=>vs.flatMap (op0 V l)
 | _=>[]
end view
def zipL {α β:Type} (f:Nat->α->β):List α->List Nat->List β
 | [],_=>[]
 | a::r,[]=>f 0 a::zipL f r []
 | a::r,l::ls=>f l a::zipL f r ls
theorem zdO {α β:Type} {f:Nat->α->β}:∀ {xs:List α} {ls:List Nat} {i:Nat} {a:α},xs[i]? = some a->(zipL f xs ls)[i]? = some (f (ls.getD i 0) a)
 | a::r,[],0,x,h=>by simp only [List.getElem?_cons_zero,Option.some.injEq] at h;subst h;rfl
 | a::r,l::ls,0,x,h=>by simp only [List.getElem?_cons_zero,Option.some.injEq] at h;subst h;rfl
 | a::r,[],i+1,x,h=>by
  have:=zdO (f:=f) (xs:=r) (ls:=[]) (i:=i) (a:=x) (by simpa using h)
  simpa [zipL] using this
 | a::r,l::ls,i+1,x,h=>by
  have:=zdO (f:=f) (xs:=r) (ls:=ls) (i:=i) (a:=x) (by simpa using h)
  simpa [zipL] using this
 | [],_,_,_,h=>by simp at h
theorem zfH {α β:Type} {f:Nat->α->β}:∀ (xs:List α) (ls:List Nat),(zipL f xs ls).length=xs.length
 | [],_=>rfl
 | a::r,[]=>by simp [zipL,zfH r]
 | a::r,l::ls=>by simp [zipL,zfH r]
structure Cl where
 V:Vw
 al:List Nat
 gl:List Nat
 nl:Nat
 svs:List SV
def Cl.aV (q:Cl):List (SV×List Prop):=zipL (fun l s=>vw1 q.V l s) q.svs q.al
def Cl.bV (q:Cl):List (BE×List Prop):=zipL (fun l t=>vwB q.V l (q.V.m t)) q.V.T q.gl
def Cl.ins (q:Cl):List SV:=q.aV.map (·.1)
def Cl.mi (q:Cl):List BE:= .dead :: .dead::q.bV.map (·.1)
def Cl.needs (q:Cl):List Prop:=q.aV.flatMap (·.2)++q.bV.flatMap (·.2)
def Cl.LP (q:Cl):List (Nat×Nat):=(zipL (fun l s=>lp1 q.V l s) q.svs q.al).flatMap id++(zipL (fun l t=>lpB q.V l (q.V.m t)) q.V.T q.gl).flatMap id
def Cl.OP (q:Cl):List (Nat×Nat):=(zipL (fun l s=>op1 q.V l s) q.svs q.al).flatMap id++(zipL (fun l t=>opB q.V l (q.V.m t)) q.V.T q.gl).flatMap id
def fnP (l:List (Nat×Nat)):Bool:=l.all fun p=>l.all fun q=>!(Nat.beq p.2 q.2)||Nat.beq p.1 q.1
def Cl.ok (q:Cl):Bool:=
 zcl q.V.T&&fnP q.LP&&fnP q.OP&&q.LP.all (fun p=>Nat.blt p.1 q.nl)&&q.OP.all (fun p=>Nat.blt p.1 q.nl&&!(q.V.T.contains p.2))&&Nat.ble q.nl (2+q.V.T.length)&&q.V.T.all (fun u=>(q.V.m u).live) &&
 q.bV.all (fun e=>match e.1 with | .cells _ vs=>vs.all SV.flat | _=>true)
def relL (q:Cl) (c:Nat) (ls:List Nat):List Nat:=ls.flatMap fun i=>bif Nat.blt i q.nl then (q.LP.filter fun p=>Nat.beq p.1 i).map (·.2) else [c+(i-q.nl)]
def relT (q:Cl) (c t:Nat):Nat:=bif Nat.blt t (2+q.V.T.length) then q.V.T.getD (t-2) 0 else c+(t-(2+q.V.T.length))
def rel0 (q:Cl) (c:Nat):SV->SV
 | .sl ls r=> .sl (relL q c ls) r
 | .own t=> .own (relT q c t)
 | .ptr t o=> .ptr (relT q c t) o
 | .int k n=> .int k n
 | .bool b=> .bool b
 | .str s=> .str s
 | .nil=> .nil
 | .np=> .np
 | .fn f=> .fn f
 | _=> .any
def rel1 (q:Cl) (c:Nat):SV->SV
 | .agg vs=> .agg (vs.map (rel0 q c))
 | .clo f vs=> .clo f (vs.map (rel0 q c))
 | s=>rel0 q c s
def relV (q:Cl) (c:Nat):SV->SV
 | .tup vs=> .tup (vs.map (rel1 q c))
 | s=>rel1 q c s
def relB (q:Cl) (c:Nat):BE->BE
 | .cells T vs=> .cells T (vs.map (rel0 q c))
 | .row T ls r=> .row T (relL q c ls) r
 | .obj o=> .obj o
 | _=> .dead
def okLs (q:Cl) (ls:List Nat):Bool:=ls.all fun i=>bif Nat.blt i q.nl then !(q.OP.any fun p=>Nat.beq p.1 i) else Nat.blt (i-q.nl) 16
def ok0 (q:Cl) (n:Nat):SV->Bool
 | .own t=>Nat.blt 1 t&&Nat.blt t n
 | .ptr t _=>Nat.blt 1 t&&Nat.blt t n
 | .sl ls _=>okLs q ls
 | _=>true
def ok1 (q:Cl) (n:Nat):SV->Bool
 | .agg vs=>vs.all (ok0 q n)
 | .clo _ vs=>vs.all (ok0 q n)
 | s=>ok0 q n s
def okV (q:Cl) (n:Nat):SV->Bool
 | .tup vs=>vs.all (ok1 q n)
 | s=>ok1 q n s
def okB (q:Cl) (n:Nat):BE->Bool
 | .cells _ vs=>vs.all (ok0 q n)
 | .row _ ls _=>okLs q ls
 | _=>true
def Cl.okO (q:Cl) (out:SV) (mo:List BE):Bool:=okV q mo.length out&&mo.all (okB q mo.length)&&Nat.ble mo.length (2+q.V.T.length+16)&&Nat.ble (2+q.V.T.length) mo.length
def asg {α:Type} (f:Nat->Nat->α):Nat->List Nat->List (Nat×α)
 | _,[]=>[]
 | k,t::r=>(t,f k t)::asg f (k+1) r
def Cl.upds (q:Cl) (c:Nat) (mo:List BE):List (Nat×BE):=
 asg (fun k _=>relB q c (mo.getD (2+k) .dead)) 0 q.V.T++asg (fun j _=>relB q c (mo.getD (2+q.V.T.length+j) .dead)) 0 (blkN c 16)
section
variable {P : Program} {base : Nat} {X : Cx} {w0 : World}
def Cl.env (q:Cl) (E:Env):Env where
 β:=fun t=>match t with
  | 0=>none
  | 1=>none
  | k+2=>match q.V.T[k]? with
   | some u=>E.β u
   | none=>none
 σ:=fun i b=>(∃ j,(i,j)∈q.LP/\E.σ j b)\/∃ t,(i,t)∈q.OP/\Has E q.V.m t b
 φ:=fun t b=>match t with
  | 0=>False
  | 1=>False
  | k+2=>match q.V.T[k]? with
   | some u=>E.φ u b
   | none=>False
theorem Cl.env_β (q:Cl) (E:Env) {t k:Nat} (h:idxO q.V.T t=some k):(q.env E).β (2+k)=E.β t:=by
 rw [Nat.add_comm]
 show (match q.V.T[k]? with | some u=>E.β u | none=>none)=_
 rw [zi6 h]
theorem zhm {E E':Env} {w:World} {f:SV->SV×List Prop}:∀ (ss:List SV) (vs:List Value),(∀ s,s∈ss->∀ v,DenV E w s v->(∀ p∈(f s).2,p)->DenV E' w (f s).1 v)->DenL E w ss vs->(∀ p∈(vwL f ss).2,p)->DenL E' w (vwL f ss).1 vs
 | [],[],_,_,_=>trivial
 | s::ss,v::vs,hf,h,hn=>⟨hf s (List.mem_cons_self ..) v h.1 (fun p hp=>hn p (List.mem_append_left _ hp)),zhm ss vs (fun s hs=>hf s (List.mem_cons_of_mem _ hs)) h.2 (fun p hp=>hn p (List.mem_append_right _ hp))⟩
 | [],_::_,_,h,_=>h.elim
 | _::_,[],_,h,_=>h.elim
section den
variable {q : Cl} {E : Env} {w : World} (hm : MemOk base X w0 E q.V.m w) {l : Nat}
include hm
theorem Cl.set0 {l:Nat} {ls:List Nat} {b:Nat} (hl:∀ i,i∈ls->(l,i)∈q.LP) (hb:E.set ls b):(q.env E).set [l] b:=by
 obtain ⟨i,hi,hs⟩:=hb
 exact ⟨l,by simp,.inl ⟨i,hl i hi,hs⟩⟩
theorem Cl.set1 {ls ms:List Nat} {b:Nat} (hms:lA l∈ms) (hl:∀ i,i∈ls->(lA l,i)∈q.LP) (hb:E.set ls b):(q.env E).set ms b:=by
 obtain ⟨i,hi,hs⟩:=hb
 exact ⟨lA l,hms,.inl ⟨i,hl i hi,hs⟩⟩
theorem Cl.den0 {s:SV} (hl:∀ p,p∈lp0 q.V l s->p∈q.LP) (ho:∀ p,p∈op0 q.V l s->p∈q.OP) {v:Value} (hv:DenV E w s v) (hn:∀ p∈(vw0 q.V l s).2,p):DenV (q.env E) w (vw0 q.V l s).1 v:=by
 cases s
 case sl ls r=>exact Rd.mono hv (fun b _ hb=>Cl.set1 hm (by simp) (fun i hi=>hl _ (List.mem_map.2 ⟨i,hi,rfl⟩)) hb)
 case own t=>
  simp only [vw0,lp0,op0] at hn hl ho ⊢
  cases hi:idxO q.V.T t with
  | some k=>exact ⟨(q.env_β E hi).trans hv.1,hv.2⟩
  | none=>
   rw [hi] at hn hl ho
   simp only at hn hl ho ⊢
   cases hmt:q.V.m t with
   | row T ls r=>
    rw [hmt] at hn hl
    obtain ⟨v',hβ,ho2⟩:=hm.row t T ls r hmt
    have hv1:=hv.1
    rw [hβ] at hv1
    simp only [Option.some.injEq] at hv1
    subst hv1
    obtain ⟨a,cc,ef⟩:=ho2.form
    have hle:r.len<=17592186044416:=hn _ (by simp)
    have hs:=ho2.slO ((q.env E).set (loL l)) (fun b hb=>Cl.set1 hm (loL_A l) (fun i hi=>hl _ (List.mem_map.2 ⟨i,hi,rfl⟩)) hb) (fun b _ hb=>⟨lO l,loL_O l,.inr ⟨t,ho _ (by simp),Has.row hmt hβ (by rw [<- zaN ⟨a,_,cc,ef⟩];exact hb)⟩⟩) (by rw [r.rows_len];exact hle)
    obtain ⟨a2,c2,e2,h2⟩:=hs
    rw [e2];exact h2
   | _=>trivial
 case ptr t o=>
  simp only [vw0]
  cases hi:idxO q.V.T t with
  | some k=>
   obtain ⟨b,h1,h2⟩:=hv
   exact ⟨b,(q.env_β E hi).trans h1,h2⟩
  | none=>trivial
 all_goals first | exact hv | trivial
theorem Cl.denR {s:SV} (hl:∀ p,p∈lpR q.V l s->p∈q.LP) (ho:∀ p,p∈opR q.V l s->p∈q.OP) {v:Value} (hv:DenV E w s v) (hn:∀ p∈(vwR q.V l s).2,p):DenV (q.env E) w (vwR q.V l s).1 v:=by
 cases s
 case ptr t o=>
  simp only [vwR,lpR,opR] at hn hl ho ⊢
  cases hi:idxO q.V.T t with
  | some k=>
   obtain ⟨b,h1,h2⟩:=hv
   exact ⟨b,(q.env_β E hi).trans h1,h2⟩
  | none=>
   rw [hi] at hn hl ho
   simp only at hn hl ho ⊢
   cases hmt:q.V.m t with
   | cells T vs=>
    rw [hmt] at hn hl ho
    obtain ⟨b,h1,rfl⟩:=hv
    obtain ⟨b',xs,c1,c2,c3,c4⟩:=hm.cells t T vs hmt
    rw [c1] at h1
    simp only [Option.some.injEq,Value.pointer.injEq,Addr.mk.injEq,and_true] at h1
    subst h1
    refine ⟨b',xs,rfl,⟨lO l,by simp,.inr ⟨t,ho _ (List.mem_cons_self ..),Has.cells hmt c1 rfl⟩⟩,c2,zhm vs xs (fun s hs v hv hp=>Cl.den0 hm (fun p hp=>hl p (List.mem_flatMap.2 ⟨s,hs,hp⟩)) (fun p hp=>ho p (List.mem_cons_of_mem _ (List.mem_flatMap.2 ⟨s,hs,hp⟩))) hv hp) c3 hn⟩
   | obj ob=>
    rw [hmt] at ho
    cases hb:Nat.beq o 0
    ·simp only [hb,cond_false];trivial
    ·simp only [hb,cond_true]
     have e0:=Nat.eq_of_beq_eq_true hb
     subst e0
     obtain ⟨b,h1,rfl⟩:=hv
     obtain ⟨b',c1,c2⟩:=hm.obj t ob hmt
     rw [c1] at h1
     simp only [Option.some.injEq,Value.pointer.injEq,Addr.mk.injEq,and_true] at h1
     subst h1
     refine ⟨b',E.φ t,rfl,c2,fun x hx=>⟨lO l,by simp,.inr ⟨t,ho _ (by simp),?_⟩⟩⟩
     exact ⟨by rw [hmt];rfl,_,c1,by rw [hmt];exact hx⟩
   | _=>trivial
 case rp ls T vs o=>
  obtain ⟨b,xs,h1,h2,h3,h4⟩:=hv
  exact ⟨b,xs,h1,Cl.set1 hm (by simp) (fun i hi=>hl _ (List.mem_append_left _ (List.mem_map.2 ⟨i,hi,rfl⟩))) h2,h3,zhm vs xs (fun s hs v hv hp=>Cl.den0 hm (fun p hp=>hl p (List.mem_append_right _ (List.mem_flatMap.2 ⟨s,hs,hp⟩))) (fun p hp=>ho p (List.mem_flatMap.2 ⟨s,hs,hp⟩)) hv hp) h4 hn⟩
 case ro ls ob=>
  obtain ⟨b,F,h1,h2,h3⟩:=hv
  exact ⟨b,F,h1,h2,fun x hx=>Cl.set1 hm (by simp) (fun i hi=>hl _ (List.mem_map.2 ⟨i,hi,rfl⟩)) (h3 x hx)⟩
 all_goals
  have h2:=fun h1 h3 h4=>Cl.den0 (q:=q) (l:=l) hm (v:=v) h1 h3 hv h4
  exact h2 hl ho hn
theorem Cl.den1 {s:SV} (hl:∀ p,p∈lp1 q.V l s->p∈q.LP) (ho:∀ p,p∈op1 q.V l s->p∈q.OP) {v:Value} (hv:DenV E w s v) (hn:∀ p∈(vw1 q.V l s).2,p):DenV (q.env E) w (vw1 q.V l s).1 v:=by
 cases s
 case agg vs=>
  obtain ⟨xs,h1,h2⟩:=hv
  exact ⟨xs,h1,zhm vs xs (fun s hs v hv hp=>Cl.den0 hm (fun p hp=>hl p (List.mem_flatMap.2 ⟨s,hs,hp⟩)) (fun p hp=>ho p (List.mem_flatMap.2 ⟨s,hs,hp⟩)) hv hp) h2 hn⟩
 case clo f vs=>
  obtain ⟨xs,h1,h2⟩:=hv
  exact ⟨xs,h1,zhm vs xs (fun s hs v hv hp=>Cl.denR hm (fun p hp=>hl p (List.mem_flatMap.2 ⟨s,hs,hp⟩)) (fun p hp=>ho p (List.mem_flatMap.2 ⟨s,hs,hp⟩)) hv hp) h2 hn⟩
 all_goals
  have h2:=fun h1 h3 h4=>Cl.denR (q:=q) (l:=l) hm (v:=v) h1 h3 hv h4
  exact h2 hl ho hn
theorem Cl.denA:∀ (svs:List SV) (al:List Nat) (vals:List Value),(∀ p,p∈(zipL (fun l s=>lp1 q.V l s) svs al).flatMap id->p∈q.LP)->(∀ p,p∈(zipL (fun l s=>op1 q.V l s) svs al).flatMap id->p∈q.OP)->DenL E w svs vals->(∀ p∈(zipL (fun l s=>vw1 q.V l s) svs al).flatMap (·.2),p) ->
  DenL (q.env E) w ((zipL (fun l s=>vw1 q.V l s) svs al).map (·.1)) vals
 | [],_,[],_,_,_,_=>trivial
 | s::r,[],v::vals,hl,ho,hv,hn=>
  ⟨Cl.den1 hm (fun p hp=>hl p (List.mem_append_left _ hp)) (fun p hp=>ho p (List.mem_append_left _ hp)) hv.1 (fun p hp=>hn p (List.mem_append_left _ hp)),
   Cl.denA r [] vals (fun p hp=>hl p (List.mem_append_right _ hp)) (fun p hp=>ho p (List.mem_append_right _ hp)) hv.2 (fun p hp=>hn p (List.mem_append_right _ hp))⟩
 | s::r,a::al,v::vals,hl,ho,hv,hn=>
  ⟨Cl.den1 hm (fun p hp=>hl p (List.mem_append_left _ hp)) (fun p hp=>ho p (List.mem_append_left _ hp)) hv.1 (fun p hp=>hn p (List.mem_append_left _ hp)),
   Cl.denA r al vals (fun p hp=>hl p (List.mem_append_right _ hp)) (fun p hp=>ho p (List.mem_append_right _ hp)) hv.2 (fun p hp=>hn p (List.mem_append_right _ hp))⟩
 | [],_,_::_,_,_,h,_=>h.elim
 | _::_,_,[],_,_,h,_=>h.elim
end den
end
end Go.Proofs.YtkhphiahindnnaaGreat
