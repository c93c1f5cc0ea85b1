/- Parts of the proof, joined: the symbolic walk and what it is told of each function. Condition: as each theorem says. -/
import Derived.SizedLaws
import Derived.Test.YtkhphiahindnnaaGreatRa6
set_option linter.unusedVariables false
set_option linter.unusedSimpArgs false
set_option linter.unusedSectionVars false
namespace Go.Proofs.YtkhphiahindnnaaGreat
namespace Ag
theorem znj {Q:Peer->Prop} {l:List Peer} {i:Nat} {f:Peer->Peer} (h:∀ p,p∈l->Q p) (hi:i<l.length) (hf:Q (f (l.getD i default))):∀ p,p∈setP l i f->Q p:=fun p hp=>by
 unfold setP at hp
 rcases List.mem_or_eq_of_mem_set hp with e | e
 ·exact h p e
 ·rw [e];exact hf
theorem zoN {l:List Peer} {i:Nat} {f:Peer->Peer} (hi:i<l.length):(setP l i f).getD i default=f (l.getD i default):=by
 unfold setP
 exact zdI hi
structure PeerK (g:Gh) (t:Int) (N:Nat) (p:Peer):Prop where
 m:0<=p.match_
 n:p.match_<p.next
 e:p.next<=N+2
 k:(p.match_-1).toNat=0\/∃ q,g.K p.node t q/\(p.match_-1).toNat<=q.length
 d:I64 p.node
theorem zvg {g:Gh} {t:Int} {N:Nat} {b:Peer} (hb:PeerK g t N b) {y:Int} (h1:b.match_<=y) (h2:y<=N+1) (hN:N<=8000) (hk:(y-1).toNat=0\/∃ q,g.K b.node t q/\(y-1).toNat<=q.length):PeerK g t N ⟨b.node,if IntKind.i64.wrap (y+1)>b.next then IntKind.i64.wrap (y+1) else b.next,y,b.round⟩:=by
 have b1:=hb.m
 have b2:=hb.n
 have b3:=hb.e
 have e:IntKind.i64.wrap (y+1)=y+1:=zaD ⟨by omega,by omega⟩
 refine ⟨by show 0<=y;omega,?_,?_,hk,hb.d⟩
 ·show y<if IntKind.i64.wrap (y+1)>b.next then IntKind.i64.wrap (y+1) else b.next
  rw [e]
  split<;>omega
 ·show (if IntKind.i64.wrap (y+1)>b.next then IntKind.i64.wrap (y+1) else b.next)<=_
  rw [e]
  split<;>omega
section
variable {c0 : Config} {L : Nat} {T v : Int} {s : Step} {g : Gh} {a : AN} {m : Message}
theorem SI.peersK (h:SI c0 L T v s g a) (hr:s.n.role=4):∀ p,p∈s.n.peers->PeerK g a.term a.log.length p:=fun p hp=>by
 obtain ⟨⟨p1,p2,p3⟩,p4⟩:=h.pe p hp
 obtain ⟨x,x1,x2,x3,x4⟩:=h.ni.led (h.ab.role.trans hr)
 refine ⟨p1,p2,p3,?_,p4⟩
 have:=x4 (p.node,(p.match_-1).toNat) (by rw [h.ab.mat hr];exact List.mem_map.2 ⟨p,hp,rfl⟩)
 exact this
theorem SI.withP (h:SI c0 L T v s g a) (hr:s.n.role=4) {l:List Peer} (hl:∀ p,p∈l->PeerK g a.term a.log.length p):∃ a',SI c0 L T v (withP s l) g a'/\a'.log=a.log/\a'.term=a.term/\a'.role=4:=by
 have ab:=h.ab
 refine ⟨{a with mat:=l.map fun p=>(p.node,(p.match_-1).toNat)},⟨h.gi,h.ni.same rfl rfl rfl rfl rfl (fun e=>?_) (fun e p hp=>?_),⟨ab.term,ab.vote,ab.role,ab.yes,ab.com,ab.idx,ab.kept,fun _=>rfl⟩,h.id,h.ms,h.be,h.bl,h.bt,fun p hp=>⟨⟨(hl p hp).m,(hl p hp).n,(hl p hp).e⟩,(hl p hp).d⟩⟩,rfl,rfl,ab.role.trans hr⟩
 ·rw [ab.role,hr] at e;cases e
 ·obtain ⟨y,hy,rfl⟩:=List.mem_map.1 hp
  exact (hl y hy).k
theorem SI.answer (h:SI c0 L T v s g a):SI c0 L T v (zbd s) g a:=h.same rfl rfl rfl rfl rfl rfl rfl rfl (by show s.n.reads.filter _=s.n.reads;rw [h.id.2.2.1];rfl)
theorem SI.hears6 (h:SI c0 L T v s g a) (h0:mayC c0=true) (hL:L<=7000) (M:MI c0 g m) (h6:m.kind=6) (hi:I64 m.index):Res c0 L T v (za1 s m) g:=by
 have ab:=h.ab
 have hbl:=h.bl
 unfold za1
 cases hs:zfk s m with
 | true=>rw [if_pos rfl];exact h.res
 | false=>
  rw [if_neg (by decide)]
  unfold zfk at hs
  rw [Bool.or_eq_false_iff,Bool.or_eq_false_iff,bne_eq_false_iff_eq,bne_eq_false_iff_eq,decide_eq_false_iff_not] at hs
  obtain ⟨⟨hr,ht⟩,hp⟩:=hs
  obtain ⟨p1,p2⟩:=zis (ps:=s.n.peers) (v:=m.from_) (by omega)
  have hat:atM s m=(zaT s.n.peers m.from_).toNat:=rfl
  rw [<- hat] at p1 p2
  have hP:=h.peersK hr
  have hl:=ab.last (by omega)
  have hR:∀ p,p∈zaJ s m->PeerK g a.term a.log.length p:=by
   unfold zaJ
   split
   ·refine znj hP p2 ?_
    have:=hP _ (zbL (d:=default) p2)
    exact ⟨this.m,this.n,this.e,this.k,this.d⟩
   ·exact hP
  have hRl:=zby s m
  have hRn:((zaJ s m).getD (atM s m) default).node=m.from_:=by
   unfold zaJ
   split
   ·rw [zoN p2];exact p1
   ·exact p1
  cases hok:m.ok with
  | true=>
   obtain ⟨q,q1,q2⟩:=M.k6 h6 hok
   by_cases hix:m.index<=(zam s.n.kept).1
   ·rw [decide_eq_true hix,Bool.and_true,if_pos rfl]
    rw [hl] at hix
    have hix:m.index<=(a.log.length:Int)+1:=hix
    have hM:(∀ p,p∈zel s m->PeerK g a.term a.log.length p):=by
     have hb:=hR _ (zbL (d:=default) (by rw [hRl];exact p2))
     have b1:=hb.m
     have b2:=hb.n
     have b3:=hb.e
     have hMl:(zcA s m).length=s.n.peers.length:=by unfold zcA;rw [zdP,hRl]
     have hme:(zcA s m).getD (atM s m) default=⟨((zaJ s m).getD (atM s m) default).node,((zaJ s m).getD (atM s m) default).next,if m.index>((zaJ s m).getD (atM s m) default).match_ then m.index else ((zaJ s m).getD (atM s m) default).match_,((zaJ s m).getD (atM s m) default).round⟩:=zoN (by rw [hRl];exact p2)
     have hk:((if m.index>((zaJ s m).getD (atM s m) default).match_ then m.index else ((zaJ s m).getD (atM s m) default).match_)-1).toNat=0\/∃ q,g.K m.from_ a.term q/\((if m.index>((zaJ s m).getD (atM s m) default).match_ then m.index else ((zaJ s m).getD (atM s m) default).match_)-1).toNat<=q.length:=by
      split
      ·exact .inr ⟨q,by rw [ab.term,<- ht];exact q1,by omega⟩
      ·have:=hb.k
       rw [hRn] at this
       exact this
     have hy1:((zaJ s m).getD (atM s m) default).match_<=(if m.index>((zaJ s m).getD (atM s m) default).match_ then m.index else ((zaJ s m).getD (atM s m) default).match_):=by split<;>omega
     have hy2:(if m.index>((zaJ s m).getD (atM s m) default).match_ then m.index else ((zaJ s m).getD (atM s m) default).match_)<=(a.log.length:Int)+1:=by split<;>omega
     have hup:=zvg hb hy1 hy2 (by omega) (by rw [hRn];exact hk)
     unfold zel setP
     rw [hme]
     intro p hp
     rcases List.mem_or_eq_of_mem_set hp with e | e
     ·unfold zcA setP at e
      rcases List.mem_or_eq_of_mem_set e with e | e
      ·exact hR p e
      ·-- this one is put over
       refine Classical.byContradiction fun hno=>?_
       obtain ⟨i,hi1,hi2⟩:=List.getElem_of_mem hp
       rw [List.length_set,hMl] at hi1
       by_cases hie:i=atM s m
       ·subst hie
        rw [List.getElem_set_self] at hi2
        apply hno
        rw [<- hi2]
        exact hup
       ·rw [List.getElem_set_ne (by omega)] at hi2
        apply hno
        rw [<- hi2]
        have:(zcA s m)[i]'(by rw [hMl];exact hi1)=(zaJ s m)[i]'(by rw [hRl];exact hi1):=by
         unfold zcA setP
         rw [List.getElem_set_ne (by omega)]
        rw [this]
        exact hR _ (List.getElem_mem _)
     ·rw [e]
      exact hup
    obtain ⟨a1,h1,l1,t1,r1⟩:=h.withP hr hM
    obtain ⟨g2,a2,h2,x2,l2,t2,r2⟩:=h1.count h0 (by omega) hr
    have h2:SI c0 L T v (zbm s m) g2 a2:=h2
    have hr2:(zbm s m).n.role=4:=by rw [<- h2.ab.role];exact r2
    split
    ·have hin:nowP s m∈(zbm s m).n.peers:=zbL (by rw [zhS];exact p2)
     exact ⟨g2,a2,(h2.to h0 (by omega) hr2 (h2.pe _ hin)).answer,x2⟩
    ·exact ⟨g2,a2,h2.answer,x2⟩
   ·rw [decide_eq_false hix,Bool.and_false,if_neg (by decide),if_pos rfl]
    obtain ⟨a1,h1,_⟩:=h.withP hr hR
    exact h1.answer.res
  | false=>
   rw [Bool.false_and,if_neg (by decide),if_neg (by decide)]
   have hN:∀ p,p∈zbI s m->PeerK g a.term a.log.length p:=by
    unfold zbI
    refine znj hR (by rw [hRl];exact p2) ?_
    have hb:=hR _ (zbL (l:=zaJ s m) (d:=default) (by rw [hRl];exact p2))
    generalize (zaJ s m).getD (atM s m) default=b at hb
    obtain ⟨b1,b2,b3,b4,b5⟩:=hb
    have e1:IntKind.i64.wrap (b.next-1)=b.next-1:=zaD ⟨by omega,by omega⟩
    have e2:IntKind.i64.wrap (b.match_+1)=b.match_+1:=zaD ⟨by omega,by omega⟩
    have e3:zhd m b<=b.next:=by
     unfold zhd
     rw [e1]
     have:=hi.1
     split
     ·rw [zaD ⟨by omega,by omega⟩];omega
     ·rw [zaD ⟨by omega,by omega⟩];omega
    refine ⟨b1,?_,?_,b4,b5⟩
    ·show b.match_<(if zhd m b>IntKind.i64.wrap (b.match_+1) then zhd m b else IntKind.i64.wrap (b.match_+1))
     rw [e2]
     split<;>omega
    ·show (if zhd m b>IntKind.i64.wrap (b.match_+1) then zhd m b else IntKind.i64.wrap (b.match_+1))<=_
     rw [e2]
     split<;>omega
   obtain ⟨a1,h1,l1,t1,r1⟩:=h.withP hr hN
   have hin:(zbI s m).getD (atM s m) default∈zbI s m:=zbL (by rw [zdR];exact p2)
   exact (h1.to h0 (by omega) hr (h1.pe _ hin)).answer.res
theorem SI.hear {n:Node} (h:SI c0 L T v (zag n) g a) (h0:mayC c0=true) (hv0:v≠0) (hL:L<=7000) (hT:T<=1000000) (M:Msg c0 g T v m) (hno:n.kept.Ok):Res c0 (L+1) (T+1) v (zbP n m) g:=by
 have hmo:=M.ok.ok
 have K:=M.ok
 unfold zbP
 by_cases hm:mayM n m=true
 ·rw [if_pos hm]
  have h8:m.kind=5->m.entries.length<=8:=fun h5=>by
   unfold mayM zkE at hm
   rw [if_neg (by omega),if_pos h5,Bool.and_eq_true] at hm
   unfold ziH at hm
   rw [Bool.and_eq_true,decide_eq_true_eq] at hm
   exact hm.2.1
  rcases h.hear_0 hT M with ⟨hb,e⟩ | ⟨hb,a',h1,r1,t1⟩
  ·rw [e]
   have hle:m.kind≠1->(m.kind≠2\/m.ok=false)->m.term<=n.kept.term:=fun k1 k2=>by
    unfold zcr at hb
    rw [Bool.and_eq_false_iff,Bool.and_eq_false_iff,decide_eq_false_iff_not] at hb
    rcases hb with (e | e) | e
    ·omega
    ·exact absurd (bne_eq_false_iff_eq.1 e) k1
    ·rw [Bool.not_eq_false',Bool.and_eq_true,beq_iff_eq] at e
     rcases k2 with k2 | k2
     ·exact absurd e.1 k2
     ·rw [k2] at e;cases e.2
   unfold zbK
   split
   ·exact (h.hears1 M).mono (by omega) (by omega)
   split
   ·exact h.hears2 h0 hv0 hL hT
   split
   ·rename_i k3
    exact (h.hears3 (by omega) hv0 M k3).mono (by omega) (by omega)
   split
   ·rename_i k4
    exact (h.hears4 h0 hL M k4).mono (by omega) (by omega)
   split
   ·rename_i k5
    exact (h.hears5 (by omega) M.mi K k5 (hle (by omega) (.inl (by omega))) hno).mono (by omega) (by omega)
   split
   ·rename_i k6
    exact (h.hears6 h0 hL M.mi k6 hmo.index).mono (by omega) (by omega)
   split
   ·rename_i k7
    exact (h.hears7 (by omega) M.mi K k7 (hle (by omega) (.inl (by omega)))).mono (by omega) (by omega)
   ·exact (h.mono (by omega) (by omega)).res
  ·have M1:=M.mono (show T<=T+1 by omega)
   have hkok:(zaW n m).n.kept.Ok:=zeU hno hmo
   unfold zbK
   split
   ·exact (h1.hears1 M1).mono (by omega) (Int.le_refl _)
   split
   ·exact (h1.skip2 (by omega)).mono (by omega) (Int.le_refl _)
   split
   ·rename_i k3
    exact (h1.hears3 (by omega) hv0 M1 k3).mono (by omega) (Int.le_refl _)
   split
   ·rename_i k4
    exact h1.hears4 h0 hL M1 k4
   split
   ·rename_i k5
    exact (h1.hears5 (by omega) M.mi K k5 (by omega) hkok).mono (by omega) (Int.le_refl _)
   split
   ·rename_i k6
    exact (h1.hears6 h0 hL M.mi k6 hmo.index).mono (by omega) (Int.le_refl _)
   split
   ·rename_i k7
    exact (h1.hears7 (by omega) M.mi K k7 (by omega)).mono (by omega) (Int.le_refl _)
   ·exact (h1.mono (by omega) (Int.le_refl _)).res
 ·rw [if_neg hm]
  exact (h.mono (by omega) (by omega)).res
end
end Ag
end Go.Proofs.YtkhphiahindnnaaGreat
namespace Go.Proofs.YtkhphiahindnnaaGreat
namespace Ag
theorem zwm {c0:Config} {l:za0} {e:Entry} (h:e.kind=2):cfg0 c0 (l++[e])=e.config:=by
 unfold cfg0
 rw [List.reverse_append]
 show (match (e::l.reverse).find? _ with | some e=>e.config | none=>c0)=_
 rw [List.find?_cons,show (e.kind==2)=true by simpa using h]
section
variable {c0 : Config} {L : Nat} {T v : Int} {s : Step} {g : Gh} {a : AN} {m : Message}
theorem SI.prop {n:Node} (h:SI c0 L T v (zag n) g a) (h0:mayC c0=true) (hL:L<=7000) (hr:n.role=4) {data:ByteArray} (hd:data.size<=100):Res c0 (L+1) T v (zs8 n data) g:=by
 obtain ⟨g2,a2,h2,x2,l2,t2,r2⟩:=h.lay (by omega) (e:=opE data) hr ⟨by show I64 3;exact ⟨by decide,by decide⟩,COk.zero,hd⟩ (fun e=>absurd e (by show ¬ (3:Int)=2;decide))
 obtain ⟨g3,a3,h3,x3,l3,t3,r3⟩:=h2.count h0 (by omega) (by rw [<- h2.ab.role];exact r2)
 exact ⟨g3,a3,h3.all h0 (by omega) (by rw [<- h3.ab.role];exact r3),x2.trans x3⟩
theorem KAbs.cfAt {k:Kept} {log:za0} {q:Nat} (hk:KAbs c0 k log q) (ho:onC k=true) (hi:∀ j,j<log.length->(log.getD j default).index=j+2):(zaS log:Int)+1<=(zav k (zam k).1).2.1\/zaS log<=q:=by
 by_cases hlt:zaS log<=q
 ·exact .inr hlt
 ·refine .inl ?_
  have ha:=zeQ (l:=log) log.length (Nat.le_refl _)
  rw [List.take_length] at ha
  have hle:=zbX log
  obtain ⟨p,hp⟩:∃ p,zaS log=p+1:=⟨zaS log-1,by omega⟩
  rw [hp] at ha hle
  have hk2:=ha.1 (by omega)
  rw [Nat.add_sub_cancel] at hk2
  have hend:=hk.end_
  have hl1:=zax ho
  have ht:(zau k (zam k).1).2=0:=by
   rw [hl1,hend,hk.term ho hk.le (Nat.le_refl _)]
  have hfind:k.entries.reverse.find? (cfgB (zam k).1)=some (log.getD p default):=by
   have e1:∀ x∈k.entries.reverse,cfgB (zam k).1 x=(x.kind==2):=fun x hx=>by
    have:=zuh ho (List.mem_reverse.1 hx)
    unfold cfgB
    rw [hl1,decide_eq_true this.2,Bool.true_and]
   rw [zdW e1,hk.en]
   have e2:log.drop q=(log.drop q).take (p-q)++(log.getD p default::log.drop (p+1)):=by
    have e3:=List.take_append_drop (p-q) (log.drop q)
    rw [List.drop_drop,show q+(p-q)=p by omega,List.drop_eq_getElem_cons (show p<log.length by omega)] at e3
    rw [show log.getD p default=log[p]'(by omega) by rw [List.getD_eq_getElem?_getD,List.getElem?_eq_getElem (by omega)];rfl]
    exact e3.symm
   rw [e2,List.reverse_append,List.find?_append,List.reverse_cons,List.find?_append]
   have e4:(log.drop (p+1)).reverse.find? (fun e=>e.kind==2)=none:=by
    rw [List.find?_eq_none]
    intro x hx
    obtain ⟨i,i1,i2⟩:=List.getElem_of_mem (List.mem_reverse.1 hx)
    rw [List.length_drop] at i1
    rw [List.getElem_drop] at i2
    have:=ha.2 (p+1+i) (by omega) (by omega)
    rw [List.getD_eq_getElem?_getD,List.getElem?_eq_getElem (by omega)] at this
    have this:¬ (log[p+1+i]'(by omega)).kind=2:=this
    rw [i2] at this
    simpa using this
   rw [e4,Option.none_or,List.find?_cons,show ((log.getD p default).kind==2)=true by simpa using hk2]
   rfl
  unfold zav
  rw [if_pos ht]
  show _<=(cfgR k (zam k).1).2
  unfold cfgR
  rw [hfind]
  show _<=(log.getD p default).index
  rw [hi p (by omega),hp]
  omega
theorem SI.change {n:Node} {ch:Change} (h:SI c0 L T v (zag n) g a) (h0:mayC c0=true) (hL:L<=7000) (hs:setE n=0) (hc:chgE n ch=0):Res c0 (L+1) T v (chgS n ch) g:=by
 have ab:=h.ab
 have hbl:=h.bl
 obtain ⟨hle,hst⟩:=zkQ hs
 have hr:n.role=4:=(zeO hle).2
 have hr':a.role=4:=ab.role.trans hr
 obtain ⟨q,q1,hk⟩:=ab.kept
 have ho:=ab.on (by omega)
 have hco:=h.ni.com
 have hcm:n.commit=a.com+1:=ab.com
 have hti:=hk.term ho q1 hco
 have hst:zbw (a.log.take a.com)=a.term:=by
  rw [hcm] at hst
  have hti:zau n.kept ((a.com:Int)+1)=_:=hti
  rw [hti] at hst
  rw [ab.term]
  exact hst
 obtain ⟨x,x1,x2,x3,x4⟩:=h.ni.led hr'
 have ht2:=h.gi.H.two _ _ x1
 have hc0:0<a.com:=by
  rcases Nat.eq_zero_or_pos a.com with e | e
  ·rw [e] at hst
   have:(1:Int)=a.term:=hst
   omega
  ·exact e
 obtain ⟨cm,c1,c2,c3⟩:=h.ni.sure.resolve_left (by omega)
 obtain ⟨y,y1,y2,y3,y4,y5⟩:=h.gi.M.ok cm c1
 have hct:cm.t=a.term:=by
  -- an entry of this term stands in what is sure by then
  have hlen:(a.log.take a.com).length=a.com:=by rw [List.length_take];omega
  have hpl:=zaH c3
  have e1:(cm.p.getD (a.com-1) default).term=a.term:=by
   rw [zbl (by omega),hlen] at hst
   rw [<- za7 c3 (by omega)]
   exact hst
  have hyl:=zaH (y2.trans y3)
  have e2:(y.l.getD (a.com-1) default).term=a.term:=by
   rw [<- za7 (y2.trans y3) (by omega)]
   exact e1
  by_cases hb:a.com-1<y.e.length
  ·have:=h.gi.H.lo _ _ y1 _ hb
   rw [za7 (h.gi.H.pre _ _ y1) hb] at this
   omega
  ·have:=h.gi.H.hi _ _ y1 (a.com-1) (by omega) (by omega)
   omega
 have hyx:y=x:=by
  rw [hct,x1] at y1
  exact (Option.some.inj y1).symm
 subst hyx
 have hcl:cm.l <+: a.log:=by rw [<- x3];exact y3
 -- what the change is
 unfold chgE at hc
 split at hc
 ·cases hc
 rename_i hat
 split at hc
 ·cases hc
 rename_i hap
 have hB:zbs (za6 n) ch.kind ch.node=true:=by
  cases hb:zbs (za6 n) ch.kind ch.node with
  | true=>rfl
  | false=>
   exfalso
   apply hap
   left
   unfold zbM
   rw [hb]
   decide
 have hcf:=ab.conf (by omega)
 have hcf:za6 n=cfg0 c0 a.log:=hcf
 have hnx:ze4 n ch=zc5 (cfg0 c0 a.log) ch.kind ch.node:=by
  unfold ze4 zb2
  rw [if_pos hB,hcf]
 have hcov:zaS a.log<=a.com:=by
  have hat:¬ n.commit<(zav n.kept (zam n.kept).1).2.1:=hat
  rcases hk.cfAt ho ab.idx with e | e
  ·have e:(zaS a.log:Int)+1<=(zav n.kept (zam n.kept).1).2.1:=e
   omega
  ·omega
 obtain ⟨g1,a1,h1,w1,l1,t1,r1⟩:=h.lay (by omega) (e:=zt9 (ze4 n ch)) hr ⟨by show I64 2;exact ⟨by decide,by decide⟩,by show COk (ze4 n ch);rw [hnx,<- hcf];exact COk.may (zgX hB),Nat.zero_le _⟩ (fun _=>by
  have htk:∀ e:Entry,(a.log++[e]).take a.log.length=a.log:=fun e=>by rw [List.take_append_of_le_length (Nat.le_refl _),List.take_length]
  have htk2:∀ e:Entry,(a.log++[e]).take (a.log.length+1)=a.log++[e]:=fun e=>by rw [List.take_of_length_le];rw [List.length_append];exact Nat.le_refl _
  unfold zha
  rw [htk,htk2]
  refine ⟨⟨cm,c1,hct,hcl⟩,.inr ⟨cm,c1,by omega,?_,y2.trans hcl,fun _=>hcl⟩,ch.kind,ch.node,by rw [<- hcf];exact hB,?_⟩
  ·rw [List.take_append_of_le_length (zbX a.log)]
   exact (zbx hcov).trans c3
  ·rw [zwm (by rfl)]
   exact hnx)
 have h1:SI c0 (L+1) T v (chg1 n ch) g1 a1:=h1
 have hr1:(chg1 n ch).n.role=4:=hr
 have hPs:=h1.peersK hr1
 have hb1:=h1.bl
 have hlast:=h1.ab.last (by omega)
 obtain ⟨a2,h2,l2,t2,r2⟩:=h1.withP hr1 (l:=(zay (chg1 n ch).n).map (zaE (chg1 n ch))) (fun p hp=>by
  obtain ⟨o,hoo,rfl⟩:=List.mem_map.1 hp
  have hoi:=zjE hoo
  unfold zaE
  split
  ·rename_i hge
   exact hPs _ (zbL (zis hge).2)
  ·refine ⟨Int.le_refl _,?_,?_,.inl rfl,by show I64 o;exact ⟨by omega,by omega⟩⟩
   ·show 0<(zam (chg1 n ch).n.kept).1
    rw [hlast]
    show (0:Int)<(a1.log.length:Int)+1
    omega
   ·show (zam (chg1 n ch).n.kept).1<=_
    rw [hlast]
    show (a1.log.length:Int)+1<=_
    omega)
 have h2:SI c0 (L+1) T v (chg2 n ch) g1 a2:=h2
 obtain ⟨g3,a3,h3,x3',l3,t3,r3⟩:=h2.count h0 (by omega) (by rw [<- h2.ab.role];exact r2)
 exact ⟨g3,a3,h3.all h0 (by omega) (by rw [<- h3.ab.role];exact r3),w1.trans x3'⟩
theorem SI.comp {n:Node} (h:SI c0 L T v (zag n) g a) (hL:L<=8000) {data:ByteArray} (hd:data.size<=100) (hlt:n.kept.snap.index<n.commit):Res c0 L T v (zlD n n.commit data) g:=by
 have ab:=h.ab
 have hbl:=h.bl
 obtain ⟨q,q1,hk⟩:=ab.kept
 have ho:=ab.on (by omega)
 have hco:=h.ni.com
 have hcm:n.commit=a.com+1:=ab.com
 have hk:KAbs c0 n.kept a.log q:=hk
 have ho:onC n.kept=true:=ho
 have hsi:=hk.si
 have hend:=hk.end_
 have hti:=hk.term ho q1 hco
 have hw:IntKind.i64.wrap (n.commit-n.kept.snap.index)=((a.com-q:Nat):Int):=by
  rw [hsi,hcm,zaD ⟨by omega,by omega⟩]
  omega
 have hcc:(zav n.kept n.commit).1=cfg0 c0 (a.log.take a.com):=by
  rw [zlH ho hlt (by omega),show (n.commit-n.kept.snap.index).toNat=a.com-q by omega,hk.en,hk.sc]
  have e1:(a.log.drop q).take (a.com-q)=(a.log.take a.com).drop q:=by rw [List.drop_take]
  have e2:a.log.take q=(a.log.take a.com).take q:=by rw [List.take_take,Nat.min_eq_left q1]
  rw [e1,e2]
  conv=>rhs;rw [<- List.take_append_drop q (a.log.take a.com)]
  unfold cfg0
  rw [List.reverse_append,List.find?_append]
  cases List.find? (fun e=>e.kind==2) ((a.log.take a.com).drop q).reverse<;>rfl
 have e1:(zlD n n.commit data).n={n with kept:={n.kept with entries:=n.kept.entries.drop (a.com-q),snap:=⟨n.commit,(zau n.kept n.commit).1,(zav n.kept n.commit).1,data⟩}}:=by
  show {n with kept:={n.kept with entries:=(if (zau n.kept n.commit).2=0/\(zau n.kept n.commit).1=(zau n.kept n.commit).1 then n.kept.entries.drop (IntKind.i64.wrap (n.commit-n.kept.snap.index)).toNat else []),snap:=⟨n.commit,(zau n.kept n.commit).1,(zav n.kept n.commit).1,data⟩}}=_
  rw [if_pos ⟨by rw [hcm,hti],rfl⟩,hw,Int.toNat_natCast]
 refine ⟨g,a,⟨h.gi,h.ni,?_,by rw [e1];exact ⟨h.id.1,h.id.2.1,h.id.2.2.1,hd,h.id.2.2.2.2⟩,h.ms,h.be,hbl,h.bt,by rw [e1];exact h.pe⟩,Ext.refl _ _⟩
 rw [e1]
 exact ⟨ab.term,ab.vote,ab.role,ab.yes,ab.com,ab.idx,⟨a.com,Nat.le_refl _,hk.cut q1 hco hcm (by show (zau n.kept n.commit).1=_;rw [hcm,hti]) hcc⟩,ab.mat⟩
theorem SI.newN {n:Node} (h:SI c0 L T v (zag n) g a):Res c0 L T v (zag (newN v n.kept)) g:=by
 have ab:=h.ab
 obtain ⟨q,q1,hk⟩:=ab.kept
 refine ⟨g,⟨a.term,a.vote,a.log,q,1,[],[]⟩,⟨h.gi,h.ni.rest rfl rfl rfl q1 (by show (1:Int)≠3;decide) (by show (1:Int)≠4;decide),⟨ab.term,ab.vote,rfl,rfl,hk.si,ab.idx,⟨q,Nat.le_refl _,hk⟩,fun e=>by cases e⟩,⟨rfl,rfl,rfl,h.id.2.2.2⟩,h.ms,h.be,h.bl,h.bt,fun p hp=>by cases hp⟩,Ext.refl _ _⟩
end
end Ag
end Go.Proofs.YtkhphiahindnnaaGreat
namespace Go.Proofs.YtkhphiahindnnaaGreat
namespace Ag
section
variable {c0 : Config} {L : Nat} {T v : Int} {s : Step} {g : Gh} {a : AN} {m : Message}
theorem zsQ {n:AN} (hn:NI g v n) (hH:ElOk g.el) (hb:n.term<=2000000) {k:Nat} (hk:k<=n.log.length):I64 (zbw (n.log.take k)):=by
 have hone:=hn.one
 rcases Nat.eq_zero_or_pos k with e | e
 ·rw [e];exact zvB
 ·rw [zb0 e hk]
  have h1:=hn.hi (k-1) (by omega)
  have h2:=hn.val.term2 hH (k:=k-1) (by omega)
  exact ⟨by omega,by omega⟩
theorem COk.ls {c:Config} (h:COk c):(c.voters.length<=17592186044416/\∀ y∈c.voters,I64 y)/\(c.learners.length<=17592186044416/\∀ y∈c.learners,I64 y):=
 ⟨⟨Nat.le_trans h.v.1 (by decide),h.v.2⟩,⟨Nat.le_trans h.l.1 (by decide),h.l.2⟩⟩
theorem SI.ents (h:SI c0 L T v s g a) (hL:L<=7000):s.n.kept.entries.length<=L/\∀ e∈s.n.kept.entries,EOk e/\I64 e.index/\I64 e.term:=by
 have ab:=h.ab
 have hbl:=h.bl
 have hbt:=h.bt
 obtain ⟨q,q1,hk⟩:=ab.kept
 have hl:=hk.len
 refine ⟨by omega,fun e he=>?_⟩
 rw [hk.en] at he
 have hmem:e∈a.log:=List.mem_of_mem_drop he
 refine ⟨h.eok e hmem,?_⟩
 obtain ⟨i,i1,i2⟩:=List.getElem_of_mem hmem
 have hg:a.log.getD i default=e:=by rw [List.getD_eq_getElem?_getD,List.getElem?_eq_getElem i1];exact i2
 have j1:=ab.idx i i1
 have j2:=h.ni.hi i i1
 have j3:=h.ni.val.term2 h.gi.H i1
 rw [hg] at j1 j2 j3
 exact ⟨⟨by omega,by omega⟩,⟨by omega,by omega⟩⟩
theorem EOk.ok {e:Entry} (h:EOk e/\I64 e.index/\I64 e.term):e.Ok:=⟨h.2.1,h.2.2,h.1.k,h.1.c.ls.1,h.1.c.ls.2,Nat.le_trans h.1.d (by decide)⟩
theorem SI.keptOk (h:SI c0 L T v s g a) (h0:mayC c0=true) (hL:L<=7000) (hg:Good2 s.n):s.n.kept.Ok:=by
 have ab:=h.ab
 have hbl:=h.bl
 have hbt:=h.bt
 have hc:=hg.core
 obtain ⟨q,q1,hk⟩:=ab.kept
 have hle:=hk.le
 have he:=h.ents hL
 have hcf:COk s.n.kept.snap.config:=by rw [hk.sc];exact COk.may (h.gi.may h0 (h.ni.val.take q))
 have ht:=hc.term
 have hv:=hc.vote
 have hsi:=hk.si
 exact ⟨⟨by omega,by omega⟩,⟨by omega,by omega⟩,⟨by omega,by omega⟩,by rw [hk.st];exact zsQ h.ni h.gi.H hbt.2 hle,hcf.ls.1,hcf.ls.2,Nat.le_trans h.id.2.2.2.1 (by decide),⟨Nat.le_trans he.1 (by omega),fun e hm=>EOk.ok (he.2 e hm)⟩⟩
theorem zpS {l:List Int} (h:isC l=true):l.length<=16:=by
 unfold isC at h
 rw [Bool.and_eq_true,decide_eq_true_eq,decide_eq_true_eq] at h
 exact h.2
theorem SI.peersL (h:SI c0 L T v s g a) (hg:Good2 s.n):s.n.peers.length<=16:=by
 by_cases h4:s.n.role=4
 ·have hp:=((zbu h4).1 hg.rest).1
  have hl:=congrArg List.length hp
  rw [List.length_map] at hl
  rw [hl]
  refine Nat.le_trans (zgP _ _) (zef _).2
 ·rw [(zcw h4 hg.rest).1];exact Nat.zero_le _
theorem SI.peersI (h:SI c0 L T v s g a) (hL:L<=7000):∀ p∈s.n.peers,I64 p.next:=fun p hp=>by
 have:=(h.pe p hp).1
 have hbl:=h.bl
 exact ⟨by omega,by omega⟩
theorem SI.nodeOk (h:SI c0 L T v s g a) (h0:mayC c0=true) (hL:L<=7000) (hg:Good2 s.n):s.n.Ok:=by
 have hk:=h.keptOk h0 hL hg
 have hbl:=h.bl
 have hc:=hg.core
 have h1:=hc.id
 have h2:=hg.role
 have h3:=hc.lo
 have h4:=hc.hi
 have h5:=hc.lead
 have h6:=hc.elapsed
 have h7:=(zdA hc.on).1
 have h8:=hc.last
 refine ⟨⟨by omega,by omega⟩,⟨by omega,by omega⟩,hk.term,hk.vote,hk.snap_index,hk.snap_term,hk.snap_config_voters,hk.snap_config_learners,hk.snap_data,hk.entries,⟨by omega,by omega⟩,⟨by omega,by omega⟩,⟨by omega,by omega⟩,⟨Nat.le_trans (zpS hc.yes) (by decide),fun y hy=>?_⟩,⟨Nat.le_trans (h.peersL hg) (by decide),fun p hp=>?_⟩,by rw [h.id.2.1];exact zcJ,by rw [h.id.2.2.1];exact ⟨by decide,fun y hy=>by cases hy⟩⟩
 ·have:=hc.yesn y hy
  exact ⟨by omega,by omega⟩
 ·obtain ⟨⟨p1,p2,p3⟩,p4⟩:=h.pe p hp
  by_cases h4:s.n.role=4
  ·have hr:=(zlc hg h4 (h.peersI hL) p hp)
   have r1:=hr.r1
   have r0:=hr.r0
   have e0:=h.id.2.1
   exact ⟨p4,⟨by omega,by omega⟩,⟨by omega,by omega⟩,⟨by omega,by omega⟩⟩
  ·rw [(zcw h4 hg.rest).1] at hp
   cases hp
theorem SI.near (h:SI c0 L T v s g a) (hL:L<=7000):Near s.n:=by
 have hbl:=h.bl
 have hbt:=h.bt
 have ht:=h.ab.term
 obtain ⟨q,q1,hk⟩:=h.ab.kept
 have h1:=hk.end_
 have h2:=(h.ents hL).1
 exact ⟨by omega,by omega,by rw [h.id.2.1];decide,by omega⟩
theorem SI.few (h:SI c0 L T v s g a) (h0:mayC c0=true) (hL:L<=5000) (hg:Good2 s.n):Few 5000 (zag s.n):=by
 obtain ⟨q,q1,hk⟩:=h.ab.kept
 have he:=h.ents (by omega)
 have hcf:COk s.n.kept.snap.config:=by rw [hk.sc];exact COk.may (h.gi.may h0 (h.ni.val.take q))
 refine ⟨Nat.le_trans he.1 hL,fun e hm=>⟨Nat.le_trans (he.2 e hm).1.c.v.1 (by decide),Nat.le_trans (he.2 e hm).1.c.l.1 (by decide)⟩,⟨Nat.le_trans hcf.v.1 (by decide),Nat.le_trans hcf.l.1 (by decide)⟩,Nat.le_trans (zpS hg.core.yes) (by decide),Nat.le_trans (h.peersL hg) (by decide),by show s.n.reads.length<=_;rw [h.id.2.2.1];exact Nat.zero_le _,Nat.zero_le _,Nat.zero_le _,Nat.zero_le _,Nat.zero_le _⟩
end
structure PI (c0:Config) (N:Nat) (g:Gh) (ns:List Node) (net:List Message):Prop where
 node:∀ i,i<ns.length->∃ a,SI c0 N (N+1) (i+1) (zag (ns.getD i default)) g a
 good:∀ i,i<ns.length->Good2 (ns.getD i default)
 msg:∀ m,m∈net->(∃ v,Sent c0 g v (N+1) m)/\1<=m.from_/\m.from_<=5
theorem PI.sub {c0:Config} {N:Nat} {g:Gh} {ns:List Node} {net net':List Message} (h:PI c0 N g ns net) (hs:∀ m,m∈net'->m∈net):PI c0 N g ns net':=⟨h.node,h.good,fun m hm=>h.msg m (hs m hm)⟩
def Keeps (g g':Gh):Prop:=∀ t x,g.el t=some x->∃ x',g'.el t=some x'/\x'.id=x.id
theorem Keeps.refl (g:Gh):Keeps g g:=fun t x h=>⟨x,h,rfl⟩
theorem PI.mono {c0:Config} {N:Nat} {g:Gh} {ns:List Node} {net:List Message} (h:PI c0 N g ns net):PI c0 (N+1) g ns net:=by
 refine ⟨fun i hi=>?_,h.good,fun m hm=>?_⟩
 ·obtain ⟨a,ha⟩:=h.node i hi
  exact ⟨a,ha.mono (by omega) (by push_cast;omega)⟩
 ·obtain ⟨⟨v,hv⟩,h2⟩:=h.msg m hm
  exact ⟨⟨v,hv.ext (Ext.refl v g) (by push_cast;omega)⟩,h2⟩
theorem PI.step {c0:Config} {N:Nat} {g:Gh} {ns:List Node} {net:List Message} (h:PI c0 N g ns net) {i:Nat} (hi:i<ns.length) {s:Step} (hr:Res c0 (N+1) (N+1+1) (i+1) s g) (hg:Good2 s.n):∃ g',PI c0 (N+1) g' (ns.set i s.n) (net++s.o.messages)/\Keeps g g':=by
 obtain ⟨g',a',h1,he⟩:=hr
 refine ⟨g',⟨fun j hj=>?_,fun j hj=>?_,fun m hm=>?_⟩,fun t x hx=>?_⟩
 ·rw [List.length_set] at hj
  by_cases hij:j=i
  ·subst hij
   refine ⟨a',?_⟩
   rw [show (ns.set j s.n).getD j default=s.n by simp [List.getD,hj]]
   exact ⟨h1.gi,h1.ni,h1.ab,h1.id,fun m hm=>(by cases hm),h1.be,h1.bl,⟨by have:=h1.bt.1;push_cast;omega,h1.bt.2⟩,h1.pe⟩
  ·obtain ⟨a,ha⟩:=h.node j hj
   rw [show (ns.set i s.n).getD j default=ns.getD j default by simp [List.getD,List.getElem?_set,show ¬ i=j from fun e=>hij e.symm]]
   refine ⟨a,⟨h1.gi,ha.ni.ext he (by omega),ha.ab,ha.id,fun m hm=>(by cases hm),h1.be,Nat.le_succ_of_le ha.bl,⟨by have:=ha.bt.1;push_cast;omega,ha.bt.2⟩,ha.pe⟩⟩
 ·rw [List.length_set] at hj
  by_cases hij:j=i
  ·subst hij
   rw [show (ns.set j s.n).getD j default=s.n by simp [List.getD,hj]]
   exact hg
  ·rw [show (ns.set i s.n).getD j default=ns.getD j default by simp [List.getD,List.getElem?_set,show ¬ i=j from fun e=>hij e.symm]]
   exact h.good j hj
 ·rcases List.mem_append.1 hm with hm | hm
  ·obtain ⟨⟨v,hv⟩,h2⟩:=h.msg m hm
   exact ⟨⟨v,hv.mi.ext he,hv.fr,hv.t1,by have:=hv.t2;push_cast;omega,hv.ok⟩,h2⟩
  ·have hs:=h1.ms m hm
   refine ⟨⟨_,hs.mi,hs.fr,hs.t1,by have:=hs.t2;push_cast;omega,hs.ok⟩,?_⟩
   have hid:=hg.core.id
   rw [hs.fr,<- h1.id.1]
   exact hid
 ·obtain ⟨x',y1,y2,_⟩:=he.el t x hx
  exact ⟨x',y1,y2⟩
def zcK (p:Play) (i:Nat) (r:Step×Int):Play×Bool:=zdv p i r.1.n r.1.o r.2
theorem zpM {l:List Message} {m:Message} (h:m∈zhf l):m∈l:=by
 unfold zhf at h
 split at h
 ·exact List.mem_of_mem_drop h
 ·exact h
structure Comes (c0:Config) (N:Nat) (g:Gh) (p:Play) (r:Play×Bool):Prop where
 ok:r.2=true
 len:r.1.ns.length=p.ns.length
 pi:∃ g',PI c0 N g' r.1.ns r.1.net/\Keeps g g'
theorem zdX {c0:Config} {N:Nat} {g:Gh} {p:Play} (h:PI c0 N g p.ns p.net) {i:Nat} (hi:i<p.ns.length) {r:Step×Int} (h1:r.2≠1) (h2:r.2=0->Res c0 (N+1) (N+1+1) (i+1) r.1 g/\Good2 r.1.n):Comes c0 (N+1) g p (zcK p i r):=by
 unfold zcK zdv
 by_cases he:r.2=0
 ·rw [if_neg (fun e=>e he)]
  obtain ⟨a1,a2⟩:=h2 he
  obtain ⟨g',b1,b2⟩:=h.step hi a1 a2
  exact ⟨rfl,List.length_set,g',b1.sub fun m hm=>zpM hm,b2⟩
 ·rw [if_pos he]
  exact ⟨bne_iff_ne.2 h1,rfl,g,h.mono,Keeps.refl g⟩
section
variable {c0 : Config} {N : Nat} {g : Gh} {p : Play} {i : Nat}
theorem znt (h:PI c0 N g p.ns p.net) (h0:mayC c0=true) (hN:N<=700) (hi:i<p.ns.length):Comes c0 (N+1) g p (zcK p i (zds (p.ns.getD i default))):=by
 obtain ⟨a,ha⟩:=h.node i hi
 have hg:=h.good i hi
 refine zdX h hi ?_ fun _=>?_
 ·rw [zds,if_pos hg.right];show (0:Int)≠1;decide
 ·rw [zds,if_pos hg.right]
  exact ⟨ha.tick h0 (by omega) (by omega) (by push_cast;omega),(zo3 hg (ha.near (by omega))).good⟩
theorem zg2 (n:Node) (hg:Good2 n):zbF n≠1:=by
 unfold zbF
 rw [if_pos hg.right]
 split<;>decide
theorem zn7 (h:PI c0 N g p.ns p.net) (h0:mayC c0=true) (hN:N<=700) (hi:i<p.ns.length) {d:ByteArray} (hd:d.size<=100):Comes c0 (N+1) g p (zcK p i (zbW (p.ns.getD i default) d)):=by
 obtain ⟨a,ha⟩:=h.node i hi
 have hg:=h.good i hi
 refine zdX h hi ?_ fun he=>?_
 ·unfold zbW
  split
  ·exact zg2 _ hg
  split
  ·show (2:Int)≠1;decide
  ·show (0:Int)≠1;decide
 ·unfold zbW at he ⊢
  split at he
  ·rename_i h1;exact absurd he h1
  rename_i h1
  split at he
  ·exact absurd he (by show ¬ (2:Int)=0;decide)
  rename_i h2
  rw [if_neg h1,if_neg h2]
  have h4:=(zeO (Classical.not_not.1 h1)).2
  have hp:=ha.peersI (by omega)
  refine ⟨Res.mono (ha.prop h0 (by omega) h4 hd) (Nat.le_refl _) (by omega),(zpd hg (ha.near (by omega)) h4 hp).good⟩
theorem zrq (h:PI c0 N g p.ns p.net) (h0:mayC c0=true) (hN:N<=700) (hi:i<p.ns.length) {ch:Change}:Comes c0 (N+1) g p (zcK p i (chgC (p.ns.getD i default) ch)):=by
 obtain ⟨a,ha⟩:=h.node i hi
 have hg:=h.good i hi
 refine zdX h hi ?_ fun he=>?_
 ·unfold chgC
  split
  ·show setE _≠1
   unfold setE
   split
   ·exact zg2 _ hg
   split<;>decide
  split
  ·show chgE _ _≠1
   unfold chgE
   split
   ·decide
   split
   ·decide
   split
   ·decide
   split<;>decide
  ·show (0:Int)≠1;decide
 ·unfold chgC at he ⊢
  split at he
  ·rename_i h1;exact absurd he h1
  rename_i h1
  split at he
  ·rename_i h2;exact absurd he h2
  rename_i h2
  rw [if_neg h1,if_neg h2]
  have h1:=Classical.not_not.1 h1
  have h2:=Classical.not_not.1 h2
  have h4:=(zeO (zkQ h1).1).2
  have hp:=ha.peersI (by omega)
  have hB:zbs (za6 (p.ns.getD i default)) ch.kind ch.node=true:=by
   cases hb:zbs (za6 (p.ns.getD i default)) ch.kind ch.node with
   | true=>rfl
   | false=>
    exfalso
    unfold chgE at h2
    split at h2
    ·cases h2
    split at h2
    ·cases h2
    rename_i hap
    apply hap
    left
    unfold zbM
    rw [hb]
    decide
  exact ⟨Res.mono (ha.change h0 (by omega) h1 h2) (Nat.le_refl _) (by omega),(zlG hg (ha.near (by omega)) h4 hB hp).good⟩
theorem zoj (h:PI c0 N g p.ns p.net) (h0:mayC c0=true) (hN:N<=700) (hi:i<p.ns.length) {d:ByteArray} (hd:d.size<=100):Comes c0 (N+1) g p (zcK p i (zbZ (p.ns.getD i default) (p.ns.getD i default).commit d)):=by
 obtain ⟨a,ha⟩:=h.node i hi
 have hg:=h.good i hi
 refine zdX h hi ?_ fun he=>?_
 ·unfold zbZ
  rw [if_neg (by rw [hg.right];decide)]
  split
  ·show (150:Int)≠1;decide
  split
  ·show (2:Int)≠1;decide
  ·show (0:Int)≠1;decide
 ·unfold zbZ at he ⊢
  rw [if_neg (by rw [hg.right];decide)] at he ⊢
  split at he
  ·exact absurd he (by show ¬ (150:Int)=0;decide)
  rename_i h1
  split at he
  ·exact absurd he (by show ¬ (2:Int)=0;decide)
  rename_i h2
  rw [if_neg h1,if_neg h2]
  have hlt:(p.ns.getD i default).kept.snap.index<(p.ns.getD i default).commit:=by omega
  exact ⟨Res.mono (ha.comp (by omega) hd hlt) (by omega) (by omega),(zkA hg hlt).good⟩
theorem zsG {n:Node} (h:Good2 n):Good2 (newN n.id n.kept):=by
 have c:=h.core
 have hs:=(zdA c.on).1
 refine ⟨⟨c.id,c.len,c.on,c.term,c.vote,⟨by show (0:Int)<=0;decide,by show (0:Int)<=900000000;decide⟩,⟨by show (0:Int)<=0;decide,by show (0:Int)<=900000000;decide⟩,c.last,⟨by show (0:Int)<=0;decide,by show (0:Int)<=1000;decide⟩,Int.le_refl _,by show n.kept.snap.index<=n.kept.snap.index+(n.kept.entries.length:Int);omega,zg4,fun y hy=>(by cases hy),c.confs⟩,⟨by show (1:Int)<=1;decide,by show (1:Int)<=4;decide⟩,?_⟩
 rw [zbU (by show ¬ (1:Int)=4;decide)]
 rfl
def newT (n:Node) (e:Int):Step×Int:=(⟨n,outZ⟩,e)
theorem zps (h:PI c0 N g p.ns p.net) (h0:mayC c0=true) (hN:N<=700) (hi:i<p.ns.length):Comes c0 (N+1) g p (zcK p i (newT (newC (i+1) (p.ns.getD i default).kept).1 (newC (i+1) (p.ns.getD i default).kept).2)):=by
 obtain ⟨a,ha⟩:=h.node i hi
 have hg:=h.good i hi
 have hid:(p.ns.getD i default).id=i+1:=ha.id.1
 have hn:=zsG hg
 rw [hid] at hn
 unfold newC
 rw [if_pos hn.right]
 refine zdX h hi (by show (0:Int)≠1;decide) fun _=>⟨Res.mono ha.newN (by omega) (by omega),hn⟩
end
section
variable {c0 : Config} {N : Nat} {g : Gh} {ns : List Node} {net : List Message}
theorem PI.agree (h:PI c0 N g ns net) {i j:Nat} (hi:i<ns.length) (hj:j<ns.length) {k:Nat} (hN:N<=7000) (hk:k<(ns.getD i default).kept.entries.length) (h1:((ns.getD i default).kept.entries.getD k default).index<=(ns.getD i default).commit)
  (h2:((ns.getD i default).kept.entries.getD k default).index<=(ns.getD j default).commit) (h3:(ns.getD j default).kept.snap.index<=((ns.getD i default).kept.entries.getD k default).index) :
  zau (ns.getD j default).kept ((ns.getD i default).kept.entries.getD k default).index=(((ns.getD i default).kept.entries.getD k default).term,0) /\
  (0<=((ns.getD i default).kept.entries.getD k default).index-(ns.getD j default).kept.snap.index-1->(((ns.getD i default).kept.entries.getD k default).index-(ns.getD j default).kept.snap.index-1).toNat<(ns.getD j default).kept.entries.length /\
   (ns.getD j default).kept.entries.getD (((ns.getD i default).kept.entries.getD k default).index-(ns.getD j default).kept.snap.index-1).toNat default=(ns.getD i default).kept.entries.getD k default):=by
 obtain ⟨a,ha⟩:=h.node i hi
 obtain ⟨b,hb⟩:=h.node j hj
 obtain ⟨q,q1,hq⟩:=ha.ab.kept
 obtain ⟨r,r1,hr⟩:=hb.ab.kept
 have hq:KAbs c0 (ns.getD i default).kept a.log q:=hq
 have hr:KAbs c0 (ns.getD j default).kept b.log r:=hr
 have ho:onC (ns.getD j default).kept=true:=hb.ab.on (by have:=hb.bl;omega)
 have ca:(ns.getD i default).commit=a.com+1:=ha.ab.com
 have cb:(ns.getD j default).commit=b.com+1:=hb.ab.com
 have hla:=hq.len
 have hlb:=hr.len
 have hac:=ha.ni.com
 have hbc:=hb.ni.com
 have hra:=hr.le
 have hsr:=hr.si
 rw [hq.en,zdm] at h1 h2 h3 ⊢
 have hix:=ha.ab.idx (q+k) (by omega)
 rw [hix] at h1 h2 h3 ⊢
 -- the same up to there
 have hsame:a.log.getD (q+k) default=b.log.getD (q+k) default:=by
  obtain ⟨c,c1,c2,c3⟩:=ha.ni.sure.resolve_left (by omega)
  obtain ⟨d,d1,d2,d3⟩:=hb.ni.sure.resolve_left (by omega)
  have e1:a.log.getD (q+k) default=c.p.getD (q+k) default:=by
   have hl:(a.log.take a.com).length=a.com:=by rw [List.length_take];omega
   rw [<- za7 (zar a.log a.com) (by omega),za7 c3 (by omega)]
  have e2:b.log.getD (q+k) default=d.p.getD (q+k) default:=by
   have hl:(b.log.take b.com).length=b.com:=by rw [List.length_take];omega
   rw [<- za7 (zar b.log b.com) (by omega),za7 d3 (by omega)]
  have l1:=zaH c3
  have l2:=zaH d3
  rw [List.length_take] at l1 l2
  rw [e1,e2]
  rcases zsk ha.gi.H ha.gi.L ha.gi.M ha.gi.one c1 d1 with e | e
  ·exact za7 e (by omega)
  ·exact (za7 e (by omega)).symm
 refine ⟨?_,fun h0=>?_⟩
 ·rw [show ((q+k:Nat):Int)+2=((q+k+1:Nat):Int)+1 by push_cast;omega,hr.term ho (by omega) (by omega),zb0 (by omega) (by omega),Nat.add_sub_cancel,hsame]
 ·have e:(((q+k:Nat):Int)+2-(ns.getD j default).kept.snap.index-1).toNat=q+k-r:=by omega
  rw [e,hr.en,zdm,show r+(q+k-r)=q+k by omega]
  exact ⟨by rw [List.length_drop];omega,hsame.symm⟩
theorem PI.lead (h:PI c0 N g ns net) {i:Nat} (hi:i<ns.length) (hr:(ns.getD i default).role=4):∃ x,g.el (ns.getD i default).kept.term=some x/\x.id=(ns.getD i default).id:=by
 obtain ⟨a,ha⟩:=h.node i hi
 obtain ⟨x,x1,x2,_⟩:=ha.ni.led (ha.ab.role.trans hr)
 have ht:a.term=(ns.getD i default).kept.term:=ha.ab.term
 have hid:(ns.getD i default).id=i+1:=ha.id.1
 exact ⟨x,by rw [<- ht];exact x1,by rw [x2,hid]⟩
end
def g0:Gh:=⟨fun _=>none,fun _=>False,fun _ _ _=>False,fun _ _ _ _ _=>False,fun _ _ _=>False⟩
def zbt (v:Nat):List Int:=(List.range v).map fun (i:Nat)=>(i:Int)+1
def cfgV (v:Nat):Config:=⟨zbt v,[]⟩
def zpR (c:Config):Kept:=⟨1,0,⟨1,1,c,zs⟩,[]⟩
theorem cfgV_may:∀ v,v<6->0<v->mayC (cfgV v)=true:=by decide
theorem g0_gi (c0:Config):GI adjC majC c0 g0:=by
 refine ⟨⟨fun _ _ h=>(by cases h),fun _ _ h=>(by cases h),fun _ _ h=>(by cases h),fun _ _ h=>(by cases h),fun _ _ h=>(by cases h)⟩,fun _ _ h=>(by cases h),⟨fun _ h=>h.elim⟩,fun _ h=>h.elim,fun _ h=>h.elim,fun _ _ _ h=>h.elim,fun _ _ _ h=>h.elim,fun _ _ h=>(by cases h),fun _ _ _ _ _ h=>h.elim,fun _ _ _ _ _ h=>h.elim,fun _ _ _ _ _ _ _ _ h=>h.elim,fun _ _ _ _ h=>h.elim,fun _ _ _ h=>h.elim,fun _ _ _ _ h=>h.elim⟩
theorem zsn {c0:Config} (h0:mayC c0=true) (i:Nat) (hi:i<5):SI c0 0 (0+1) ((i:Int)+1) (zag (newN (i+1) (zpR c0))) g0 ⟨1,0,[],0,1,[],[]⟩:=by
 refine ⟨g0_gi c0,?_,⟨rfl,rfl,rfl,rfl,rfl,fun k hk=>absurd hk (Nat.not_lt_zero k),⟨0,Nat.le_refl _,Nat.le_refl _,rfl,rfl,rfl,rfl⟩,fun e=>by cases e⟩,⟨rfl,rfl,rfl,Nat.zero_le _,⟨by omega,by omega⟩⟩,fun m hm=>(by cases hm),fun t x hx=>(by cases hx),Nat.le_refl _,⟨by show (1:Int)<=0+1;decide,by show (1:Int)<=2000000;decide⟩,fun p hp=>(by cases hp)⟩
 exact ⟨fun k hk=>absurd hk (Nat.not_lt_zero k),Int.le_refl _,fun k hk=>absurd hk (Nat.not_lt_zero k),fun _ _ _ _ h=>h.elim,fun e=>absurd rfl e,fun _ _ h=>h.elim,fun _ _ h=>h.elim,Nat.le_refl _,.inl rfl,fun e=>(by cases e),fun e=>(by cases e)⟩
theorem start_good {c0:Config} (h0:mayC c0=true) (i:Nat) (hi:i<5):Good2 (newN (i+1) (zpR c0)):=by
 have hon:onC (zpR c0)=true:=rfl
 refine ⟨⟨⟨by show (1:Int)<=(i:Int)+1;omega,by show (i:Int)+1<=5;omega⟩,Nat.zero_le _,hon,⟨by show (0:Int)<=1;decide,by show (1:Int)<=900000000;decide⟩,⟨Int.le_refl _,by show (0:Int)<=900000000;decide⟩,⟨Int.le_refl _,by show (0:Int)<=900000000;decide⟩,⟨Int.le_refl _,by show (0:Int)<=900000000;decide⟩,by show (1:Int)+0<=900000000;decide,⟨Int.le_refl _,by show (0:Int)<=1000;decide⟩,Int.le_refl _,by show (1:Int)<=1+0;decide,zg4,fun y hy=>(by cases hy),?_⟩,⟨by show (1:Int)<=1;decide,by show (1:Int)<=4;decide⟩,?_⟩
 ·show (([]:List Entry).all _&&mayC c0)=true
  rw [h0];rfl
 ·rw [zbU (by show ¬ (1:Int)=4;decide)]
  rfl
def startL (c0:Config) (n:Nat):List Node:=(List.range n).map fun (i:Nat)=>newN ((i:Int)+1) (zpR c0)
theorem zso {c0:Config} (h0:mayC c0=true) {n:Nat} (hn:n<=5):PI c0 0 g0 (startL c0 n) []:=by
 have hget:∀ i,i<(startL c0 n).length->i<5/\(startL c0 n).getD i default=newN (i+1) (zpR c0):=fun i hi=>by
  have hl:(startL c0 n).length=n:=by simp [startL]
  rw [hl] at hi
  exact ⟨by omega,by simp [startL,List.getD,hi]⟩
 refine ⟨fun i hi=>?_,fun i hi=>?_,fun m hm=>(by cases hm)⟩
 ·obtain ⟨h1,h2⟩:=hget i hi
  rw [h2]
  exact ⟨_,zsn h0 i h1⟩
 ·obtain ⟨h1,h2⟩:=hget i hi
  rw [h2]
  exact start_good h0 i h1
end Ag
end Go.Proofs.YtkhphiahindnnaaGreat
namespace Go.Proofs.YtkhphiahindnnaaGreat
namespace Ag
def abcS:ByteArray:=⟨#[97,98,99,100,101,102,103,104,105,106,107,108,109,110,111,112,113,114,115,116,117,118,119,120,121,122]⟩
def sS:ByteArray:=⟨#[115]⟩
def zrN (k:Int):ByteArray:=abcS.extract (k.tmod 26).toNat abcS.size
def ziu (p:Play):Play:=⟨p.ns,p.net,IntKind.i64.wrap (p.many+1)⟩
def zdC (l:List Message) (i:Nat):List Message:=l.take i++l.drop (i+1)
noncomputable def zaq (p:Play) (m:Move):Play×Bool:=
 if 2<=m.kind/\m.kind<=4 then
  if m.at_<0\/(p.net.length:Int)<=m.at_ then (p,true)
  else if m.kind=4 then (⟨p.ns,p.net++[p.net.getD m.at_.toNat default],p.many⟩,true)
  else if m.kind=3\/(p.net.getD m.at_.toNat default).to_<1\/(p.ns.length:Int)<(p.net.getD m.at_.toNat default).to_ then (⟨p.ns,zdC p.net m.at_.toNat,p.many⟩,true)
  else zcK ⟨p.ns,zdC p.net m.at_.toNat,p.many⟩ ((p.net.getD m.at_.toNat default).to_-1).toNat (zcC (p.ns.getD ((p.net.getD m.at_.toNat default).to_-1).toNat default) (p.net.getD m.at_.toNat default))
 else if m.node<1\/(p.ns.length:Int)<m.node then (p,true)
 else if m.kind=1 then zcK p (m.node-1).toNat (zds (p.ns.getD (m.node-1).toNat default))
 else if m.kind=5 then zcK (ziu p) (m.node-1).toNat (zbW (p.ns.getD (m.node-1).toNat default) (zrN (IntKind.i64.wrap (p.many+1))))
 else if m.kind=6 then zcK p (m.node-1).toNat (chgC (p.ns.getD (m.node-1).toNat default) m.change)
 else if m.kind=7 then zcK p (m.node-1).toNat (newT (newC m.node (p.ns.getD (m.node-1).toNat default).kept).1 (newC m.node (p.ns.getD (m.node-1).toNat default).kept).2)
 else if m.kind=8 then zcK p (m.node-1).toNat (zbZ (p.ns.getD (m.node-1).toNat default) (p.ns.getD (m.node-1).toNat default).commit sS)
 else (p,true)
theorem zh4 {l:List Message} {i:Nat} {m:Message} (h:m∈zdC l i):m∈l:=by
 unfold zdC at h
 rcases List.mem_append.1 h with h | h
 ·exact List.mem_of_mem_take h
 ·exact List.mem_of_mem_drop h
theorem znu (k:Int):(zrN k).size<=100:=by
 unfold zrN
 rw [ByteArray.size_extract]
 have:abcS.size=26:=rfl
 omega
section
variable {c0 : Config} {N : Nat} {g : Gh} {p : Play} {m : Move}
theorem Comes.same (h:PI c0 N g p.ns p.net) {q:Play} (e1:q.ns=p.ns) (e2:∀ x,x∈q.net->x∈p.net):Comes c0 (N+1) g p (q,true):=
 ⟨rfl,by show q.ns.length=_;rw [e1],g,by show PI c0 (N+1) g q.ns q.net;rw [e1];exact h.mono.sub e2,Keeps.refl g⟩
theorem Comes.of {q:Play} {r:Play×Bool} (h:Comes c0 N g q r) (e:q.ns=p.ns):Comes c0 N g p r:=⟨h.ok,by rw [h.len,e],h.pi⟩
theorem zh6 (h:PI c0 N g p.ns p.net) (h0:mayC c0=true) (hN:N<=700):Comes c0 (N+1) g p (zaq p m):=by
 unfold zaq
 split
 ·split
  ·exact Comes.same h rfl fun x hx=>hx
  rename_i h1
  have hin:p.net.getD m.at_.toNat default∈p.net:=zbL (by omega)
  split
  ·refine Comes.same h rfl fun x hx=>?_
   rcases List.mem_append.1 hx with hx | hx
   ·exact hx
   ·rw [List.mem_singleton] at hx;rw [hx];exact hin
  split
  ·exact Comes.same h rfl fun x hx=>zh4 hx
  rename_i h2
  obtain ⟨x,hx⟩:∃ x,p.net.getD m.at_.toNat default=x:=⟨_,rfl⟩
  rw [hx] at hin h2 ⊢
  have hi:(x.to_-1).toNat<p.ns.length:=by omega
  -- the message is heard in the play where it is not under way any more; what it says holds all the same
  obtain ⟨a,ha⟩:=h.node _ hi
  have hg:=h.good _ hi
  obtain ⟨⟨v,hv⟩,hf⟩:=h.msg x hin
  have hq:PI c0 N g p.ns (zdC p.net m.at_.toNat):=h.sub fun y hy=>zh4 hy
  refine (zdX (p:=⟨p.ns,zdC p.net m.at_.toNat,p.many⟩) hq hi ?_ fun _=>?_).of rfl
  ·rw [zcC,if_pos hg.right];show (0:Int)≠1;decide
  ·rw [zcC,if_pos hg.right]
   exact ⟨ha.hear h0 (by omega) (by omega) (by push_cast;omega) ⟨hv.mi,by omega,hf,hv.t1,hv.t2,hv.ok⟩ (ha.keptOk h0 (by omega) hg),(zpZ hg (ha.near (by omega)) (ha.nodeOk h0 (by omega) hg) hv.ok.ok).good⟩
 split
 ·exact Comes.same h rfl fun x hx=>hx
 rename_i h2
 have hi:(m.node-1).toNat<p.ns.length:=by omega
 have hmn:(((m.node-1).toNat:Nat):Int)+1=m.node:=by omega
 split
 ·exact znt h h0 hN hi
 split
 ·exact (zn7 (p:=ziu p) h h0 hN hi (znu _)).of rfl
 split
 ·exact zrq h h0 hN hi
 split
 ·have:=zps h h0 hN hi
  rw [hmn] at this
  exact this
 split
 ·exact zoj h h0 hN hi (by decide)
 ·exact Comes.same h rfl fun x hx=>hx
end
structure Bd (N:Nat) (p:Play):Prop where
 m0:0<=p.many
 m1:p.many<=N
 net:p.net.length<=100+N
theorem zpN (l:List Message):(zhf l).length<=100:=by
 unfold zhf
 split
 ·rw [List.length_drop];omega
 ·omega
theorem zdY {N:Nat} {p:Play} (h:Bd N p) (i:Nat) (r:Step×Int):Bd N (zcK p i r).1:=by
 unfold zcK zdv
 split
 ·exact h
 ·exact ⟨h.m0,h.m1,Nat.le_trans (zpN _) (by omega)⟩
theorem zh5 (l:List Message) (i:Nat):(zdC l i).length<=l.length:=by
 unfold zdC
 rw [List.length_append,List.length_take,List.length_drop]
 omega
theorem Bd.up {N:Nat} {p:Play} (h:Bd N p):Bd (N+1) p:=⟨h.m0,by have:=h.m1;push_cast;omega,by have:=h.net;omega⟩
theorem zsH {N:Nat} {p:Play} {m:Move} (h:Bd N p) (hN:N<=1000):Bd (N+1) (zaq p m).1:=by
 have hu:=h.up
 have hone:Bd (N+1) (ziu p):=by
  have e:IntKind.i64.wrap (p.many+1)=p.many+1:=zaD ⟨by have:=h.m0;omega,by have:=h.m1;omega⟩
  refine ⟨?_,?_,hu.net⟩
  ·show 0<=IntKind.i64.wrap (p.many+1)
   rw [e];have:=h.m0;omega
  ·show IntKind.i64.wrap (p.many+1)<=_
   rw [e];have:=h.m1;push_cast;omega
 have hcut:Bd (N+1) ⟨p.ns,zdC p.net m.at_.toNat,p.many⟩:=⟨hu.m0,hu.m1,Nat.le_trans (zh5 _ _) hu.net⟩
 unfold zaq
 split
 ·split
  ·exact hu
  split
  ·exact ⟨hu.m0,hu.m1,by show (p.net++[_]).length<=_;rw [List.length_append,List.length_singleton];have:=h.net;omega⟩
  split
  ·exact hcut
  ·exact zdY hcut _ _
 split
 ·exact hu
 split
 ·exact zdY hu _ _
 split
 ·exact zdY hone _ _
 split
 ·exact zdY hu _ _
 split
 ·exact zdY hu _ _
 split
 ·exact zdY hu _ _
 ·exact hu
noncomputable def zaj (p:Play) (l:List Move) (i:Nat):Play:=(l.take i).foldl (fun q m=>(zaq q m).1) p
theorem playAt_0 (p:Play) (l:List Move):zaj p l 0=p:=by simp [zaj]
theorem playAt_succ (p:Play) (l:List Move) {i:Nat} (hi:i<l.length):zaj p l (i+1)=(zaq (zaj p l i) (l.getD i default)).1:=by
 unfold zaj
 rw [List.take_add_one,List.getElem?_eq_getElem hi,List.foldl_append]
 simp [List.getD,hi]
def zbJ (l:List Int) (n:Node):List Int:=if n.role=4 then (if l.length<2\/l.getD (l.length-2) 0≠n.kept.term then l++[n.kept.term,n.id] else l) else l
def zaC (ns:List Node) (l:List Int) (j:Nat):List Int:=(ns.take j).foldl zbJ l
noncomputable def zaA (p:Play) (l:List Move):Nat->List Int
 | 0=>[]
 | i+1=>zaC (zaj p l (i+1)).ns (zaA p l i) (zaj p l (i+1)).ns.length
structure LeadOk (g:Gh) (l:List Int):Prop where
 ev:l.length % 2=0
 ok:∀ k,k+1<l.length->k % 2=0->∃ x,g.el (l.getD k 0)=some x/\x.id=l.getD (k+1) 0
theorem LeadOk.keep {g g':Gh} {l:List Int} (h:LeadOk g l) (hk:Keeps g g'):LeadOk g' l:=by
 refine ⟨h.ev,fun k h1 h2=>?_⟩
 obtain ⟨x,a,b⟩:=h.ok k h1 h2
 obtain ⟨y,c,d⟩:=hk _ _ a
 exact ⟨y,c,d.trans b⟩
theorem LeadOk.step {g:Gh} {l:List Int} (h:LeadOk g l) {n:Node} (hn:n.role=4->∃ x,g.el n.kept.term=some x/\x.id=n.id):LeadOk g (zbJ l n):=by
 unfold zbJ
 split
 ·rename_i hr
  split
  ·have he:=h.ev
   refine ⟨by rw [List.length_append];show (l.length+2) % 2=0;omega,fun k h1 h2=>?_⟩
   rw [List.length_append] at h1
   have h1:k+1<l.length+2:=h1
   by_cases hk:k+1<l.length
   ·rw [zfP (by omega),zfP hk]
    exact h.ok k hk h2
   ·have hk:k=l.length:=by omega
    subst hk
    have e1:(l++[n.kept.term,n.id]).getD l.length 0=n.kept.term:=by simp [List.getD]
    have e2:(l++[n.kept.term,n.id]).getD (l.length+1) 0=n.id:=by simp [List.getD,List.getElem?_append_right]
    rw [e1,e2]
    exact hn hr
  ·exact h
 ·exact h
theorem LeadOk.uniq {g:Gh} {l:List Int} (h:LeadOk g l) {n:Node} (hr:n.role=4) (hn:n.role=4->∃ x,g.el n.kept.term=some x/\x.id=n.id) {k:Nat} (h1:k+1<l.length) (h2:k % 2=0) (ht:l.getD k 0=n.kept.term):l.getD (k+1) 0=n.id:=by
 obtain ⟨x,a,b⟩:=h.ok k h1 h2
 obtain ⟨y,c,d⟩:=hn hr
 rw [ht,c] at a
 simp only [Option.some.injEq] at a
 subst a
 exact b.symm.trans d
theorem zdE (ns:List Node) (l:List Int) {j:Nat} (hj:j<ns.length):zaC ns l (j+1)=zbJ (zaC ns l j) (ns.getD j default):=by
 unfold zaC
 rw [List.take_add_one,List.getElem?_eq_getElem hj,List.foldl_append]
 simp [List.getD,hj]
theorem zg1 (ns:List Node) (l:List Int):zaC ns l 0=l:=by simp [zaC]
theorem zjX (l:List Int) (n:Node):(zbJ l n).length<=l.length+2:=by
 unfold zbJ
 split
 ·split
  ·rw [List.length_append];exact Nat.le_refl _
  ·omega
 ·omega
theorem zew (ns:List Node) (l:List Int):∀ j,j<=ns.length->(zaC ns l j).length<=l.length+2*j
 | 0,_=>by rw [zg1];omega
 | j+1,h=>by
  rw [zdE _ _ (by omega)]
  have h1:=zew ns l j (by omega)
  have h2:=zjX (zaC ns l j) (ns.getD j default)
  omega
structure AtI (c0:Config) (n:Nat) (p:Play) (l:List Move) (i:Nat):Prop where
 len:(zaj p l i).ns.length=n
 bd:Bd i (zaj p l i)
 pi:∃ g,PI c0 i g (zaj p l i).ns (zaj p l i).net/\LeadOk g (zaA p l i)
 ll:(zaA p l i).length<=10*i
theorem PI.leads {c0:Config} {N:Nat} {g:Gh} {ns:List Node} {net:List Message} (h:PI c0 N g ns net) {l:List Int} (hl:LeadOk g l):∀ j,j<=ns.length->LeadOk g (zaC ns l j)
 | 0,_=>by rw [zg1];exact hl
 | j+1,hj=>by
  rw [zdE _ _ (by omega)]
  exact (PI.leads h hl j (by omega)).step (h.lead (by omega))
theorem at_i {c0:Config} (h0:mayC c0=true) {n:Nat} (hn:n<=5) {p:Play} (hp:p=⟨startL c0 n,[],0⟩) (l:List Move) (hl:l.length<=600):∀ i,i<=l.length->AtI c0 n p l i
 | 0,_=>by
  have e:=playAt_0 p l
  refine ⟨by rw [e,hp];simp [startL],by rw [e,hp];exact ⟨Int.le_refl _,Int.le_refl _,Nat.zero_le _⟩,⟨g0,by rw [e,hp];exact zso h0 hn,⟨rfl,fun k hk=>absurd hk (Nat.not_lt_zero _)⟩⟩,Nat.zero_le _⟩
 | i+1,hi=>by
  have ih:=at_i h0 hn hp l hl i (by omega)
  obtain ⟨g,hg,hL⟩:=ih.pi
  have e:=playAt_succ p l (i:=i) (by omega)
  have hc:=zh6 (m:=l.getD i default) hg h0 (by omega)
  obtain ⟨g',h1,h2⟩:=hc.pi
  rw [<- e] at h1
  have hlen:(zaj p l (i+1)).ns.length=n:=by rw [e,hc.len,ih.len]
  refine ⟨hlen,by rw [e];exact zsH ih.bd (by omega),⟨g',h1,h1.leads (hL.keep h2) _ (Nat.le_refl _)⟩,?_⟩
  show (zaC (zaj p l (i+1)).ns (zaA p l i) (zaj p l (i+1)).ns.length).length<=_
  have a:=zew (zaj p l (i+1)).ns (zaA p l i) _ (Nat.le_refl _)
  have b:=ih.ll
  omega
end Ag
end Go.Proofs.YtkhphiahindnnaaGreat
namespace Go.Proofs.YtkhphiahindnnaaGreat
namespace Ag
theorem zrK {n:Node} (h:Few 5000 (zag n)):Few 20000 (zcM n):=by
 unfold zcM
 split
 ·split
  ·exact (Few.all (B:=5000) (s:=⟨{n with elapsed:=0},outZ⟩) ⟨h.entries,h.ec,h.sc,h.yes,h.peers,h.reads,h.records,h.messages,h.ready,h.lost⟩).mono (by decide)
  ·exact h.tick1.mono (by decide)
 split
 ·exact h.tick1.mono (by decide)
 have k:=h.tick1.run 2 (by decide)
 split
 ·exact k.stand.mono (by decide)
 ·exact (k.ask _).mono (by decide)
theorem zsW {n:Node} {m:Message} (h:Few 5000 (zag n)) (hm:SmallDM m) (hno:n.kept.Ok) (hmo:m.Ok):Few 20000 (zbP n m):=by
 unfold zbP
 split
 ·exact zg6 (zdH h) hm (zeU hno hmo) hmo
 ·exact h.mono (by decide)
def OutF (r:Step×Int):Prop:=r.1.o.messages.length<=1000000
theorem zde {n:Node} {e:Int}:OutF (⟨n,outZ⟩,e):=Nat.zero_le _
structure MoveG (p:Play):Prop where
 m0:0<=p.many/\p.many<=1000000
 net:p.net.length<=1000000
 ln:p.ns.length<=1000000
 few:∀ i,i<p.ns.length->Few 5000 (zag (p.ns.getD i default))
 msg:∀ x,x∈p.net->SmallM x/\SmallDM x
 tick:∀ i,i<p.ns.length->OutF (zds (p.ns.getD i default))
 hear:∀ i x,i<p.ns.length->x∈p.net->OutF (zcC (p.ns.getD i default) x)
 prop:∀ i d,i<p.ns.length->OutF (zbW (p.ns.getD i default) d)
 chg:∀ i c,i<p.ns.length->OutF (chgC (p.ns.getD i default) c)
 comp:∀ i c d,i<p.ns.length->OutF (zbZ (p.ns.getD i default) c d)
theorem zsI {c0:Config} {N:Nat} {g:Gh} {p:Play} (h:PI c0 N g p.ns p.net) (hb:Bd N p) (h0:mayC c0=true) (hN:N<=700) (hl:p.ns.length<=5):MoveG p:=by
 have hf:∀ i,i<p.ns.length->Few 5000 (zag (p.ns.getD i default)):=fun i hi=>by
  obtain ⟨a,ha⟩:=h.node i hi
  exact ha.few h0 (by omega) (h.good i hi)
 have hm:∀ x,x∈p.net->MOk x:=fun x hx=>by
  obtain ⟨⟨v,hv⟩,_⟩:=h.msg x hx
  exact hv.ok
 refine ⟨⟨hb.m0,by have:=hb.m1;omega⟩,by have:=hb.net;omega,by omega,hf,fun x hx=>(hm x hx).small,fun i hi=>?_,fun i x hi hx=>?_,fun i d hi=>?_,fun i c hi=>?_,fun i c d hi=>?_⟩
 ·unfold zds
  split
  ·exact Nat.le_trans (zrK (hf i hi)).messages (by decide)
  ·exact zde
 ·unfold zcC
  split
  ·obtain ⟨a,ha⟩:=h.node i hi
   exact Nat.le_trans (zsW (hf i hi) (hm x hx).small.2 (ha.keptOk h0 (by omega) (h.good i hi)) (hm x hx).ok).messages (by decide)
  ·exact zde
 ·unfold zbW
  split
  ·exact zde
  split
  ·exact zde
  ·exact Nat.le_trans ((hf i hi).lay (e:=opE d) smallD0).count.all.messages (by decide)
 ·unfold chgC
  split
  ·exact zde
  split
  ·exact zde
  ·exact Nat.le_trans (hf i hi).chg2.count.all.messages (by decide)
 ·unfold zbZ
  split
  ·exact zde
  split
  ·exact zde
  split
  ·exact zde
  ·exact Nat.le_trans ((hf i hi).comp c d).messages (by decide)
end Ag
end Go.Proofs.YtkhphiahindnnaaGreat
namespace Go.Proofs.YtkhphiahindnnaaGreat
open Go.RowKit Go.ChangeShapes Go.WideShapes Go.Deep
end Go.Proofs.YtkhphiahindnnaaGreat
namespace Go.Proofs.YtkhphiahindnnaaGreat
open Go.RowKit Go.ChangeShapes Go.WideShapes Go.Deep
set_option maxRecDepth 100000
end Go.Proofs.YtkhphiahindnnaaGreat
namespace Go.Proofs.YtkhphiahindnnaaGreat
open Go.RowKit Go.ChangeShapes Go.WideShapes Go.Deep
end Go.Proofs.YtkhphiahindnnaaGreat
namespace Go.Proofs.YtkhphiahindnnaaGreat
open Go.RowKit Go.ChangeShapes Go.WideShapes Go.Deep
set_option maxRecDepth 100000
end Go.Proofs.YtkhphiahindnnaaGreat
namespace Go.Proofs.YtkhphiahindnnaaGreat
open Go.RowKit Go.ChangeShapes Go.WideShapes Go.Deep
end Go.Proofs.YtkhphiahindnnaaGreat
namespace Go.Proofs.YtkhphiahindnnaaGreat
open Go.RowKit Go.ChangeShapes Go.WideShapes Go.Deep
set_option maxRecDepth 100000
def elM1:Message:=⟨2,2,1,2,0,0,[],0,0,true,zeg,0,0,zs⟩
def elM2:Message:=⟨4,3,1,2,0,0,[],0,0,true,zeg,0,0,zs⟩
def el1:Step:=zbh (zcg 10).n elM1
def el2:Step:=zbh el1.n elM2
theorem el_right:zan (zcg 10).n=true/\zan el1.n=true:=⟨by kernel_rfl,by kernel_rfl⟩
theorem el_few:fewB (zcg 10)=true/\fewB el1=true/\fewB el2=true:=⟨by kernel_rfl,by kernel_rfl,by kernel_rfl⟩
theorem zmD {s:Step} (h:fewB s=true):Few 40000 s:=by
 unfold fewB at h
 simp only [Bool.and_eq_true,decide_eq_true_eq,List.all_eq_true] at h
 obtain ⟨⟨⟨⟨⟨⟨⟨⟨⟨⟨h1,h2⟩,h3⟩,h4⟩,h5⟩,h6⟩,h7⟩,h8⟩,h9⟩,h10⟩,h11⟩:=h
 exact ⟨by omega,fun e he=>by have:=h2 e he;exact ⟨by omega,by omega⟩,⟨by omega,by omega⟩,by omega,by omega,by omega,by omega,by omega,by omega,by omega⟩
theorem zkM (a b c d e f g h:Int) (o:Bool) (x y:Int) (z:ByteArray):SmallM ⟨a,b,c,d,e,f,[],g,h,o,zeg,x,y,z⟩:=⟨⟨by simp,fun x hx=>by cases hx⟩,⟨Nat.zero_le _,Nat.zero_le _⟩⟩
noncomputable def tabEl:List Ent:=[zq6,zvP,zqU]
theorem zmd:∀ e∈tabEl,zaf Tryz.prog e:=zaa zkv (zaa zmG (zaa zoc zad))
theorem elected_fn:FnC Tryz.prog 18 [] (.tup [.agg (el2.n.svs [1]),.bool true]) D2:=by
 refine FnG.of_vc (zak zmd fun _=>none) Tryz.func18 rfl (by decide) rfl 300 (p:=fun (V:List PE->Prop)=>True/\True/\True/\V []) (by kernel_rfl) ?_
 simp only [qN0,qN24,imp_self,implies_true,true_and,and_true,zah,zai]
 refine LoopG.head (zak zmd fun _=>none) 0 (A:=Nat) (fun j=>j<=10) (fun j=>[(4,.int .i64 j),(3,.int .i64 0)]) (fun j=>[(31,.cells 49 ((zcg j).n.svs [900])),(900,.dead)]) (fun j=>10-j) 0 (Nat.zero_le _) (p0:=let v3:=Step.n (zcg (0:Nat));(0:Int)=(↑(0:Nat):Int)/\(0:Int)=0/\false=false/\qN0 startN v3 (qN24 startN v3 ((0:Int)=0/\(0:Int)=0/\(0:Int)=0/\(0:Int)=0/\(0:Int)=0/\(0:Int)=0/\ByteArray.mk #[]=ByteArray.mk #[]/\(0:Int)=0/\(0:Int)=0/\(0:Int)=0/\(0:Int)=0/\True))) (by kernel_rfl) ?_ 300 (p:=fun (x:Nat) (V:List PE->Prop)=>let v2:=Step.n (zcg x);let v6:=(0:Int);let v7:=(4:Int);let v8:=(2:Int);let v9:=ByteArray.mk #[];let v10:=v6==v6;let v11:=Snap.mk v6 v6 (Config.mk [] []) v9;let v12:=decide ((↑x:Int)<10);let v13:=zac v12 v10 false;let v14:=Message.mk v8 v8 (1:Int) v8 v6 v6 [] v6 v6 true v11 v6 v6 v9;let v15:=Message.mk v7 (3:Int) (1:Int) v8 v6 v6 [] v6 v6 true v11 v6 v6 v9;let v16:=zbS v2 v14;let v17:=Step.n (Prod.fst v16);let v18:=zac v10 (Prod.snd v16==v6) false;let v19:=zbS v17 v15;let v20:=Prod.fst v19;let v28:=(↑(v20.o.messages.length):Int);let v29:=zac v18 (Prod.snd v19==v6) false;let v30:=zac v29 (v20.n.role==v7) false;let v31:=zac v30 (v28==v8) false;let v32:=zac v31 ((↑(v20.o.records.length):Int)==1) false;((v12=true->v12=true)/\(v12=true->v12=true)/\True)/\True/\(v13=true->(Few 50000 (zag v2)/\True)/\True/\V [PE.a])/\(v13=false->(Few 40000 (zag v2)/\SmallM v14/\(v8=v8\/v8=v7)/\True)/\(Few 40000 (zag v17)/\SmallM v15/\(v7=v8\/v7=v7)/\True)/\((v10=true->v10=true)/\(v10=true->v10=true)/\(v18=true->v18=true)/\(v18=true->v18=true)/\(v29=true->v29=true)/\(v29=true->v29=true)/\(v29=true->v29=true)/\(v30=true->v30=true)/\(v30=true->v30=true)/\(v30=true->v30=true)/\(v30=true->v30=true)/\(v31=true->v31=true)/\(v31=true->v31=true)/\(v31=true->v31=true)/\(v31=true->v31=true)/\(v32=true->v32=true)/\(v32=true->v32=true)/\(v32=true->v6<=v6)/\(v32=true->v6<v28)/\(v32=true->v32=true)/\(v32=true->v32=true)/\(v32=true->v32=true)/\(v32=true->v32=true)/\True)/\qN0 v20.n el2.n (qN24 v20.n el2.n (zac v32 (Message.kind (List.getD v20.o.messages (Int.toNat v6) default)==5) false=true/\True)))) (by intro x;kernel_rfl) ?_
 ·repeat' apply And.intro
  all_goals first | trivial | rfl
 rintro j hj
 simp only [qN0,qN24,imp_self,implies_true,true_and,and_true,decide_eq_true_eq,decide_eq_false_iff_not]
 refine ⟨fun h=>?_,fun h=>?_⟩
 ·have hj2:j<10:=by
   by_cases g:(j:Int)<10
   ·omega
   ·simp [zac,g] at h
  have ht:zds (zcg j).n=(zcg (j+1),0):=by rw [zds,if_pos (zjq j hj2)];rfl
  refine ⟨(zhn j (by omega)).z,?_⟩
  refine Back.mk (j+1) (by omega) (by omega) (p0:=let v0:=zds (Step.n (zcg j));let v1:=Step.n (Prod.fst v0);let v5:=Step.n (zcg (j+(1:Nat)));IntKind.wrap IntKind.i64 ((↑j:Int)+(1:Int))=(↑(j+(1:Nat)):Int)/\Prod.snd v0=0/\false=false/\qN0 v1 v5 (qN24 v1 v5 ((0:Int)=0/\(0:Int)=0/\(0:Int)=0/\(0:Int)=0/\(0:Int)=0/\(0:Int)=0/\ByteArray.mk #[]=ByteArray.mk #[]/\(0:Int)=0/\(0:Int)=0/\(0:Int)=0/\(0:Int)=0/\True))) (by kernel_rfl) ?_
  simp only [qN0,qN24,true_and,and_true]
  rw [ht]
  simp only [qN0,qN24,zbN (i:=j) (by omega),true_and,and_true]
  first | done | omega | rfl
 ·have hj2:¬ j<10:=by
   intro g
   have:(j:Int)<10:=by omega
   simp [zac,this] at h
  obtain rfl:j=10:=by omega
  have e1:zbS (zcg 10).n (Message.mk 2 2 1 2 0 0 [] 0 0 true (Snap.mk 0 0 (Config.mk [] []) (ByteArray.mk #[])) 0 0 (ByteArray.mk #[]))=(el1,0):=by
   rw [zbS,if_pos el_right.1];rfl
  have e2:zbS el1.n (Message.mk 4 3 1 2 0 0 [] 0 0 true (Snap.mk 0 0 (Config.mk [] []) (ByteArray.mk #[])) 0 0 (ByteArray.mk #[]))=(el2,0):=by
   rw [zbS,if_pos el_right.2];rfl
  simp only [e1,e2]
  have hl:el2.o.messages.length=2:=by kernel_rfl
  have h0:(0:Int)<(el2.o.messages.length:Int):=by rw [hl];decide
  refine ⟨⟨(zmD el_few.1).z,zkM _ _ _ _ _ _ _ _ _ _ _ _,.inl trivial⟩,⟨(zmD el_few.2.1).z,zkM _ _ _ _ _ _ _ _ _ _ _ _,.inr trivial⟩,⟨fun _=>by decide,fun _=>h0⟩,?_⟩
  repeat' apply And.intro
  all_goals first | trivial | rfl | kernel_rfl
def ziR:Ent:=ent0 18 ([],.tup [.agg (el2.n.svs [1]),.bool true],D2)
theorem zgM:zaf Tryz.prog ziR:=ziJ elected_fn.1 fun _=>elected_fn
def ziN:Ent:=ent2 13 dNode dStr fun n d=>([Few 50000 (zag n)],refO (zbW n d).1.n (zbW n d).1.o (zbW n d).2,D3d)
theorem zgK:zaf Tryz.prog ziN:=za3 (fnB Tryz.func13 (by decide) rfl) fun n d h=>zn6 n d (h _ (by simp))
noncomputable def tabEp:List Ent:=[zq6,ziR,ziN]
theorem zse:∀ e∈tabEp,zaf Tryz.prog e:=zaa zkv (zaa zgM (zaa zgK zad))
theorem proposes_fn:FnC Tryz.prog 8 [] (.bool true) D2:=by
 refine FnG.of_vc (zak zse fun _=>none) Tryz.func8 rfl (by decide) rfl 300 (p:=fun (V:List PE->Prop)=>let v0:=ByteArray.mk #[(120:UInt8)];let v1:=zbW el2.n v0;let v3:=zac true (Prod.snd v1==0) false;let v4:=zac v3 ((↑(List.length (Kept.entries (Node.kept (Step.n (Prod.fst v1))))):Int)==2) false;let v5:=zac v4 ((↑(List.length (Out.messages (Step.o (Prod.fst v1)))):Int)==2) false;True/\True/\True/\(Few 50000 (zag el2.n)/\True)/\(Few 50000 (zag startN)/\True)/\((true=true->true=true)/\(true=true->true=true)/\(v3=true->v3=true)/\(v3=true->v3=true)/\(v3=true->v3=true)/\(v3=true->v3=true)/\(v3=true->v3=true)/\(v4=true->v4=true)/\(v4=true->v4=true)/\(v4=true->v4=true)/\(v4=true->v4=true)/\(v5=true->v5=true)/\(v5=true->v5=true)/\True)/\zac v5 (Prod.snd (zbW startN v0)==170) false=true/\True) (by kernel_rfl) ?_
 simp only [imp_self,implies_true,true_and,and_true,zah,zai]
 exact ⟨(zqv el_few.2.2).z,(zhn 0 (by decide)).z,by kernel_rfl⟩
def elM3:Message:=⟨6,2,1,2,2,0,[],0,0,true,zeg,0,0,zs⟩
def el3:Step:=zqd el2.n elM3
theorem zth {s:Step} (h:fewB s=true):Few 20000 s:=by
 unfold fewB at h
 simp only [Bool.and_eq_true,decide_eq_true_eq,List.all_eq_true] at h
 obtain ⟨⟨⟨⟨⟨⟨⟨⟨⟨⟨h1,h2⟩,h3⟩,h4⟩,h5⟩,h6⟩,h7⟩,h8⟩,h9⟩,h10⟩,h11⟩:=h
 exact ⟨by omega,fun e he=>by have:=h2 e he;exact ⟨by omega,by omega⟩,⟨by omega,by omega⟩,by omega,by omega,by omega,by omega,by omega,by omega,by omega⟩
theorem el3_facts:zan el2.n=true/\fewB el3=true/\el3.n.commit=2:=⟨by kernel_rfl,by kernel_rfl,by kernel_rfl⟩
theorem ztn:zem el2.n (Message.mk 6 2 1 2 2 0 [] 0 0 true (Snap.mk 0 0 (Config.mk [] []) (ByteArray.mk #[])) 0 0 (ByteArray.mk #[]))=(el3,0):=by
 rw [zem,if_pos el3_facts.1];rfl
noncomputable def tabHs:List Ent:=[ziR,zu8]
theorem zsa:∀ e∈tabHs,zaf Tryz.prog e:=zaa zgM (zaa zqT zad)
theorem hears_fn:FnC Tryz.prog 7 [] (.bool true) D2:=by
 refine FnG.of_vc (zak zsa fun _=>none) Tryz.func7 rfl (by decide) rfl 300 (p:=fun (V:List PE->Prop)=>let v0:=(6:Int);let v1:=(2:Int);let v2:=(0:Int);let v3:=Message.mk v0 v1 (1:Int) v1 v1 v2 [] v2 v2 true (Snap.mk v2 v2 (Config.mk [] []) (ByteArray.mk #[])) v2 v2 (ByteArray.mk #[]);let v4:=zem el2.n v3;let v5:=zac true (Prod.snd v4==v2) false;True/\True/\(Few 20000 (zag el2.n)/\SmallM v3/\(v0=v1\/v0=4\/v0=v0)/\True)/\((true=true->true=true)/\(true=true->true=true)/\(v5=true->v5=true)/\(v5=true->v5=true)/\(v5=true->v5=true)/\True)/\zac v5 (Node.commit (Step.n (Prod.fst v4))==v1) false=true/\True) (by kernel_rfl) ?_
 simp only [imp_self,implies_true,true_and,and_true,zah,zai]
 rw [ztn]
 exact ⟨⟨(zth el_few.2.2).z,zkM _ _ _ _ _ _ _ _ _ _ _ _,.inr (.inr trivial)⟩,by kernel_rfl⟩
def zu6:Ent:=ent0 7 ([],.bool true,D2)
theorem zqR:zaf Tryz.prog zu6:=ziJ hears_fn.1 fun _=>hears_fn
def zuA:Ent:=ent2 14 dNode dChange fun n t=>([Few 50000 (zag n)],refO (chgC n t).1.n (chgC n t).1.o (chgC n t).2,D3d)
theorem zqZ:zaf Tryz.prog zuA:=za3 (fnB Tryz.func14 (by decide) rfl) fun n t h=>zrr n t (h _ (by simp))
def zmO:Ent:=ent3 15 dNode dInt dStr fun n i d=>([Few 50000 (zag n)],refO (zbZ n i d).1.n (zbZ n i d).1.o (zbZ n i d).2,D3d)
theorem zl2:zaf Tryz.prog zmO:=zlt (fnB Tryz.func15 (by decide) rfl) fun n i d h=>zoi n i d (h _ (by simp))
end Go.Proofs.YtkhphiahindnnaaGreat
namespace Go.Proofs.YtkhphiahindnnaaGreat
open Go.RowKit Go.ChangeShapes Go.WideShapes Go.Deep
open Ag
set_option maxRecDepth 100000
noncomputable def tabPm:List Ent:=[zxC,zu7,zvP,ziN,zuA,eNew,zmO]
theorem zrV:∀ e∈tabPm,zaf Tryz.prog e:=zaa zt0 (zaa zqS (zaa zmG (zaa zgK (zaa zqZ (zaa zly (zaa zl2 zad))))))
theorem zpx (p:Play) (m:Move) (G:MoveG p):FnG Tryz.prog 5 2 (pMi p) [.ptr 2 0,.agg (m.svs [0])] (.bool (zaq p m).2) (pMo (zaq p m).1):=by
 refine FnG.of_vc (zak zrV fun _=>none) Tryz.func5 rfl (by decide) rfl 300 (p:=fun (V:List PE->Prop)=>let v0:=Move.kind m;let v1:=Move.node m;let v2:=Play.net p;let v3:=Play.ns p;let v4:=Move.at_ m;let v5:=Play.many p;let v6:=Int.toNat v4;let v7:=v3.length;let v8:=v2.length;let v9:=(0:Int);let v10:=(1:Int);let v11:=Prod.fst (zaq p m);let v12:=Prod.snd (zaq p m);let v13:=(↑v8:Int);let v14:=(↑v7:Int);let v15:=List.take v6 v2;let v16:=Play.ns v11;let v17:=Play.net v11;let v18:=Play.many v11;let v19:=v15.length;let v20:=List.getD v2 v6 default;let v21:=v20.to_;let v22:=v0==8;let v23:=v0==5;let v24:=v0==v10;let v25:=v0==6;let v26:=v0==3;let v27:=v0==4;let v28:=v0==7;let v29:=[v20];let v30:=IntKind.wrap IntKind.i64 (v4+v10);let v31:=IntKind.wrap IntKind.i64 (v5+v10);let v32:=IntKind.wrap IntKind.i64 (v1-v10);let v33:=Int.toNat v32;let v34:=decide (v1<v10);let v35:=decide (v4<v9);let v36:=decide (v0>=2);let v37:=List.drop (Int.toNat v30) v2;let v38:=Int.tmod v31 (26:Int);let v39:=List.getD v3 v33 default;let v40:=IntKind.wrap IntKind.i64 (v21-v10);let v41:=v39.kept;let v42:=zds v39;let v43:=Int.toNat v40;let v44:=chgC v39 (Move.change m);let v45:=Prod.snd v42;let v46:=Prod.fst v42;let v47:=newC v1 v41;let v48:=v46.o;let v49:=Prod.fst v44;let v50:=Prod.snd v44;let v51:=v49.o;let v52:=Prod.snd v47;let v53:=List.getD v3 v43 default;let v54:=zac v36 (decide (v0<=4)) false;let v55:=v15++v37;let v56:=zcC v53 v20;let v57:=zac v34 true (decide (v1>v14));let v58:=zac v35 true (decide (v4>=v13));let v59:=Prod.fst v56;let v60:=Prod.snd v56;let v61:=v59.o;let v62:=zac v26 true (decide (v21<v10));let v63:=zbZ v39 v39.commit (ByteArray.mk #[(115:UInt8)]);let v64:=Prod.fst v63;let v65:=Prod.snd v63;let v66:=v64.o;let v67:=zdv p v33 (Prod.fst v47) (Out.mk [] [] [] []) v52;let v68:=Prod.fst v67;let v69:=zac v62 true (decide (v21>v14));let v70:=zdv p v33 v46.n v48 v45;let v71:=Prod.fst v70;let v72:=zdv p v33 v49.n v51 v50;let v73:=Prod.fst v72;let v74:=ByteArray.mk #[(97:UInt8),(98:UInt8),(99:UInt8),(100:UInt8),(101:UInt8),(102:UInt8),(103:UInt8),(104:UInt8),(105:UInt8),(106:UInt8),(107:UInt8),(108:UInt8),(109:UInt8),(110:UInt8),(111:UInt8),(112:UInt8),(113:UInt8),(114:UInt8),(115:UInt8),(116:UInt8),(117:UInt8),(118:UInt8),(119:UInt8),(120:UInt8),(121:UInt8),(122:UInt8)];let v75:=ByteArray.size v74;let v76:=zdv (Play.mk v3 v55 v5) v43 v59.n v61 v60;let v77:=zdv p v33 v64.n v66 v65;let v78:=Prod.fst v76;let v79:=Prod.fst v77;let v80:=zbW v39 (ByteArray.extract v74 (Int.toNat v38) v75);let v81:=Prod.fst v80;let v82:=Prod.snd v80;let v83:=v81.o;let v84:=zdv (Play.mk v3 v2 v31) v33 v81.n v83 v82;let v85:=Prod.fst v84;True/\((v36=true->v36=true)/\(v36=true->v36=true)/\(v36=true->v36=true)/\True)/\True/\(v54=true->(((!v35)=true->(!v35)=true)/\((!v35)=true->(!v35)=true)/\((!v35)=true->(!v35)=true)/\((!v35)=true->(!v35)=true)/\((!v35)=true->(!v35)=true)/\((!v35)=true->(!v35)=true)/\((!v35)=true->(!v35)=true)/\(v35=false->(!v35)=true)/\True)/\True/\(v58=true->True/\true=v12/\v5=v18/\v3=v16/\v2=v17/\True)/\(v58=false->(v9<=v4/\v4<v13/\v6<v8/\True)/\True/\True/\(v27=true->((v8+v29.length)*(1024:Nat)<=140737488355328/\True)/\True/\true=v12/\v5=v18/\v3=v16/\v2++v29=v17/\True)/\(v27=false->True/\(v9<=v4/\v4<=v13/\((0:Nat)+v19)*(1024:Nat)<=140737488355328/\True)/\(v9<=v30/\v30<=v13/\(v19+v37.length)*(1024:Nat)<=140737488355328/\True)/\True/\(((!v26)=true->(!v26)=true)/\((!v26)=true->(!v26)=true)/\(v26=false->(!v26)=true)/\((!v62)=true->(!v62)=true)/\((!v62)=true->(!v62)=true)/\((!v62)=true->(!v62)=true)/\((!v62)=true->(!v62)=true)/\((!v62)=true->(!v62)=true)/\((!v62)=true->(!v62)=true)/\((!v62)=true->(!v62)=true)/\(v62=false->(!v62)=true)/\True)/\True/\(v69=true->True/\true=v12/\v5=v18/\v3=v16/\v55=v17/\True)/\(v69=false->(v9<=v40/\v40<v14/\v43<v7/\Few 5000 (zag v53)/\SmallM v20/\SmallDM v20/\True)/\((v60=v9->v9<=v40/\v40<v14)/\v55.length<=1000000/\v61.messages.length<=1000000/\True)/\Prod.snd v76=v12/\Play.many v78=v18/\Play.ns v78=v16/\Play.net v78=v17/\True))))/\(v54=false->(((!v34)=true->(!v34)=true)/\((!v34)=true->(!v34)=true)/\((!v34)=true->(!v34)=true)/\((!v34)=true->(!v34)=true)/\((!v34)=true->(!v34)=true)/\((!v34)=true->(!v34)=true)/\((!v34)=true->(!v34)=true)/\(v34=false->(!v34)=true)/\True)/\True/\(v57=true->True/\true=v12/\v5=v18/\v3=v16/\v2=v17/\True)/\(v57=false->True/\True/\True/\True/\(v24=true->(v9<=v32/\v32<v14/\v33<v7/\Few 50000 (zag v39)/\True)/\((v45=v9->v9<=v32/\v32<v14)/\v8<=1000000/\v48.messages.length<=1000000/\True)/\Prod.snd v70=v12/\Play.many v71=v18/\Play.ns v71=v16/\Play.net v71=v17/\True)/\(v24=false->True/\True/\(v23=true->True/\(v9<=v32/\v32<v14/\v33<v7/\(26:Int)≠v9/\Lit.wf (Lit.int IntKind.i64 v38)=true/\v9<=v38/\v38<=(↑v75:Int)/\Few 50000 (zag v39)/\True)/\((v82=v9->v9<=v32/\v32<v14)/\v8<=1000000/\v83.messages.length<=1000000/\True)/\Prod.snd v84=v12/\Play.many v85=v18/\Play.ns v85=v16/\Play.net v85=v17/\True)/\(v23=false->True/\True/\(v25=true->(v9<=v32/\v32<v14/\v33<v7/\Few 50000 (zag v39)/\True)/\((v50=v9->v9<=v32/\v32<v14)/\v8<=1000000/\v51.messages.length<=1000000/\True)/\Prod.snd v72=v12/\Play.many v73=v18/\Play.ns v73=v16/\Play.net v73=v17/\True)/\(v25=false->True/\True/\(v28=true->(v9<=v32/\v32<v14/\v33<v7/\zbQ v41/\True)/\((v52=v9->v9<=v32/\v32<v14)/\v8<=1000000/\(0:Nat)<=1000000/\True)/\Prod.snd v67=v12/\Play.many v68=v18/\Play.ns v68=v16/\Play.net v68=v17/\True)/\(v28=false->True/\True/\(v22=true->(v9<=v32/\v32<v14/\v33<v7/\v9<=v32/\v32<v14/\v33<v7/\Few 50000 (zag v39)/\True)/\((v65=v9->v9<=v32/\v32<v14)/\v8<=1000000/\v66.messages.length<=1000000/\True)/\Prod.snd v77=v12/\Play.many v79=v18/\Play.ns v79=v16/\Play.net v79=v17/\True)/\(v22=false->True/\true=v12/\v5=v18/\v3=v16/\v2=v17/\True)))))))) (by kernel_rfl) ?_
 dsimp only
 simp only [imp_self,implies_true,true_and,and_true,zah,zai]
 have nt:∀ b:Bool,b=false->(!b)=true:=fun b h=>by rw [h];rfl
 refine ⟨fun hk=>?_,fun hk=>?_⟩
 ·rw [Bool.and_eq_true,decide_eq_true_eq,decide_eq_true_eq] at hk
  have hk':2<=m.kind/\m.kind<=4:=hk
  refine ⟨nt _,fun ha=>?_,fun ha=>?_⟩
  ·rw [Bool.or_eq_true,decide_eq_true_eq,decide_eq_true_eq] at ha
   have e:zaq p m=(p,true):=by unfold zaq;rw [if_pos hk',if_pos (by omega)]
   rw [e]
   exact ⟨rfl,rfl,rfl,rfl⟩
  ·rw [Bool.or_eq_false_iff,decide_eq_false_iff_not,decide_eq_false_iff_not] at ha
   have ha':¬ (m.at_<0\/(p.net.length:Int)<=m.at_):=by omega
   have hnl:=G.net
   have hnn:=G.ln
   have hlt:m.at_.toNat<p.net.length:=by omega
   have ew1:IntKind.wrap IntKind.i64 (m.at_+1)=m.at_+1:=zaD ⟨by omega,by omega⟩
   have etn:(m.at_+1).toNat=m.at_.toNat+1:=by omega
   have hcl:=zh5 p.net m.at_.toNat
   have hcl':(p.net.take m.at_.toNat++p.net.drop (m.at_.toNat+1)).length<=p.net.length:=hcl
   have hcl2:=hcl'
   rw [List.length_append] at hcl2
   simp only [ew1,etn]
   refine ⟨⟨by omega,by omega,hlt⟩,fun h4=>?_,fun h4=>?_⟩
   ·have h4:m.kind=4:=by simpa using h4
    have e:zaq p m=(⟨p.ns,p.net++[p.net.getD m.at_.toNat default],p.many⟩,true):=by unfold zaq;rw [if_pos hk',if_neg ha',if_pos h4]
    rw [e]
    exact ⟨by show (p.net.length+1)*1024<=_;omega,rfl,rfl,rfl,rfl⟩
   ·have h4:¬ m.kind=4:=by simpa using h4
    refine ⟨⟨by omega,by omega,by omega⟩,⟨by omega,by omega,by omega⟩,⟨nt _,nt _⟩,fun h3=>?_,fun h3=>?_⟩
    ·have h3':m.kind=3\/(p.net.getD m.at_.toNat default).to_<1\/(p.ns.length:Int)<(p.net.getD m.at_.toNat default).to_:=by
      rw [Bool.or_eq_true,Bool.or_eq_true,beq_iff_eq,decide_eq_true_eq,decide_eq_true_eq] at h3
      rcases h3 with (h3 | h3) | h3
      ·exact .inl h3
      ·exact .inr (.inl h3)
      ·exact .inr (.inr h3)
     have e:zaq p m=(⟨p.ns,zdC p.net m.at_.toNat,p.many⟩,true):=by unfold zaq;rw [if_pos hk',if_neg ha',if_neg h4,if_pos h3']
     rw [e]
     exact ⟨rfl,rfl,rfl,rfl⟩
    ·have h3':¬ (m.kind=3\/(p.net.getD m.at_.toNat default).to_<1\/(p.ns.length:Int)<(p.net.getD m.at_.toNat default).to_):=by
      rw [Bool.or_eq_false_iff,Bool.or_eq_false_iff,beq_eq_false_iff_ne,decide_eq_false_iff_not,decide_eq_false_iff_not] at h3
      rintro (g | g | g)
      ·exact h3.1.1 g
      ·exact h3.1.2 g
      ·exact h3.2 g
     have e:zaq p m=zcK ⟨p.ns,zdC p.net m.at_.toNat,p.many⟩ ((p.net.getD m.at_.toNat default).to_-1).toNat (zcC (p.ns.getD ((p.net.getD m.at_.toNat default).to_-1).toNat default) (p.net.getD m.at_.toNat default)):=by unfold zaq;rw [if_pos hk',if_neg ha',if_neg h4,if_neg h3']
     have hin:p.net.getD m.at_.toNat default∈p.net:=zbL hlt
     have ew2:IntKind.wrap IntKind.i64 ((p.net.getD m.at_.toNat default).to_-1)=(p.net.getD m.at_.toNat default).to_-1:=zaD ⟨by omega,by omega⟩
     rw [e,ew2]
     have hi:((p.net.getD m.at_.toNat default).to_-1).toNat<p.ns.length:=by omega
     refine ⟨⟨by omega,by omega,hi,G.few _ hi,(G.msg _ hin).1,(G.msg _ hin).2⟩,⟨fun _=>⟨by omega,by omega⟩,by omega,G.hear _ _ hi hin⟩,rfl,rfl,rfl,rfl⟩
 ·have hk':¬ (2<=m.kind/\m.kind<=4):=fun h=>by
   rw [Bool.and_eq_false_iff,decide_eq_false_iff_not,decide_eq_false_iff_not] at hk
   omega
  have hnl:=G.net
  have hnn:=G.ln
  refine ⟨nt _,fun hn=>?_,fun hn=>?_⟩
  ·have hn':m.node<1\/(p.ns.length:Int)<m.node:=by
    rw [Bool.or_eq_true,decide_eq_true_eq,decide_eq_true_eq] at hn
    omega
   have e:zaq p m=(p,true):=by unfold zaq;rw [if_neg hk',if_pos hn']
   rw [e]
   exact ⟨rfl,rfl,rfl,rfl⟩
  ·have hn':¬ (m.node<1\/(p.ns.length:Int)<m.node):=by
    rw [Bool.or_eq_false_iff,decide_eq_false_iff_not,decide_eq_false_iff_not] at hn
    omega
   have ew3:IntKind.wrap IntKind.i64 (m.node-1)=m.node-1:=zaD ⟨by omega,by omega⟩
   have hi:(m.node-1).toNat<p.ns.length:=by omega
   have hf:=(G.few _ hi).mono (show 5000<=50000 by decide)
   rw [ew3]
   refine ⟨fun h1=>?_,fun h1=>⟨fun h5=>?_,fun h5=>⟨fun h6=>?_,fun h6=>⟨fun h7=>?_,fun h7=>⟨fun h8=>?_,fun h8=>?_⟩⟩⟩⟩⟩
   ·have h1:m.kind=1:=by simpa using h1
    have e:zaq p m=zcK p (m.node-1).toNat (zds (p.ns.getD (m.node-1).toNat default)):=by unfold zaq;rw [if_neg hk',if_neg hn',if_pos h1]
    rw [e]
    exact ⟨⟨by omega,by omega,hi,hf⟩,⟨fun _=>⟨by omega,by omega⟩,hnl,G.tick _ hi⟩,rfl,rfl,rfl,rfl⟩
   ·have h1:¬ m.kind=1:=by simpa using h1
    have h5:m.kind=5:=by simpa using h5
    have e:zaq p m=zcK (ziu p) (m.node-1).toNat (zbW (p.ns.getD (m.node-1).toNat default) (zrN (IntKind.i64.wrap (p.many+1)))):=by unfold zaq;rw [if_neg hk',if_neg hn',if_neg h1,if_pos h5]
    have hm0:=G.m0
    have ew4:IntKind.wrap IntKind.i64 (p.many+1)=p.many+1:=zaD ⟨by omega,by omega⟩
    rw [e]
    have ht1:=Int.tmod_nonneg 26 (show 0<=p.many+1 by omega)
    have ht2:=Int.tmod_lt_of_pos (p.many+1) (show (0:Int)<26 by decide)
    have hsz:(ByteArray.mk #[97,98,99,100,101,102,103,104,105,106,107,108,109,110,111,112,113,114,115,116,117,118,119,120,121,122]).size=26:=rfl
    refine ⟨⟨by omega,by omega,hi,by decide,by rw [ew4];exact zcF ⟨by omega,by omega⟩,by rw [ew4];exact ht1,by rw [ew4,hsz];show _<=(26:Int);omega,hf⟩,⟨fun _=>⟨by omega,by omega⟩,hnl,G.prop _ _ hi⟩,rfl,rfl,rfl,rfl⟩
   ·have h1:¬ m.kind=1:=by simpa using h1
    have h5:¬ m.kind=5:=by simpa using h5
    have h6:m.kind=6:=by simpa using h6
    have e:zaq p m=zcK p (m.node-1).toNat (chgC (p.ns.getD (m.node-1).toNat default) m.change):=by unfold zaq;rw [if_neg hk',if_neg hn',if_neg h1,if_neg h5,if_pos h6]
    rw [e]
    exact ⟨⟨by omega,by omega,hi,hf⟩,⟨fun _=>⟨by omega,by omega⟩,hnl,G.chg _ _ hi⟩,rfl,rfl,rfl,rfl⟩
   ·have h1:¬ m.kind=1:=by simpa using h1
    have h5:¬ m.kind=5:=by simpa using h5
    have h6:¬ m.kind=6:=by simpa using h6
    have h7:m.kind=7:=by simpa using h7
    have e:zaq p m=zcK p (m.node-1).toNat (newT (newC m.node (p.ns.getD (m.node-1).toNat default).kept).1 (newC m.node (p.ns.getD (m.node-1).toNat default).kept).2):=by unfold zaq;rw [if_neg hk',if_neg hn',if_neg h1,if_neg h5,if_neg h6,if_pos h7]
    rw [e]
    exact ⟨⟨by omega,by omega,hi,hf.k (by decide)⟩,⟨fun _=>⟨by omega,by omega⟩,hnl,Nat.zero_le _⟩,rfl,rfl,rfl,rfl⟩
   ·have h1:¬ m.kind=1:=by simpa using h1
    have h5:¬ m.kind=5:=by simpa using h5
    have h6:¬ m.kind=6:=by simpa using h6
    have h7:¬ m.kind=7:=by simpa using h7
    have h8:m.kind=8:=by simpa using h8
    have e:zaq p m=zcK p (m.node-1).toNat (zbZ (p.ns.getD (m.node-1).toNat default) (p.ns.getD (m.node-1).toNat default).commit sS):=by unfold zaq;rw [if_neg hk',if_neg hn',if_neg h1,if_neg h5,if_neg h6,if_neg h7,if_pos h8]
    rw [e]
    exact ⟨⟨by omega,by omega,hi,by omega,by omega,hi,hf⟩,⟨fun _=>⟨by omega,by omega⟩,hnl,G.comp _ _ _ hi⟩,rfl,rfl,rfl,rfl⟩
   ·have h1:¬ m.kind=1:=by simpa using h1
    have h5:¬ m.kind=5:=by simpa using h5
    have h6:¬ m.kind=6:=by simpa using h6
    have h7:¬ m.kind=7:=by simpa using h7
    have h8:¬ m.kind=8:=by simpa using h8
    have e:zaq p m=(p,true):=by unfold zaq;rw [if_neg hk',if_neg hn',if_neg h1,if_neg h5,if_neg h6,if_neg h7,if_neg h8]
    rw [e]
    exact ⟨rfl,rfl,rfl,rfl⟩
noncomputable def zx9:Ent:=zxv 5 2 mPl dMove vrP [1,0] glP fun p m=>([MoveG p],.bool (zaq p m).2,pMo (zaq p m).1)
theorem zxi:MoveG ⟨[],[],0⟩:=⟨⟨Int.le_refl _,by decide⟩,Nat.zero_le _,Nat.zero_le _,fun i hi=>absurd hi (Nat.not_lt_zero _),fun x hx=>(by cases hx),fun i hi=>absurd hi (Nat.not_lt_zero _),fun i x hi=>absurd hi (Nat.not_lt_zero _),fun i d hi=>absurd hi (Nat.not_lt_zero _),fun i d hi=>absurd hi (Nat.not_lt_zero _),fun i c d hi=>absurd hi (Nat.not_lt_zero _)⟩
theorem ztw:zaf Tryz.prog zx9:=ztk (zpx ⟨[],[],0⟩ default zxi).1 fun p m h=>zpx p m (h _ (by simp))
def tabPe:List Ent:=[eNew]
theorem zik:∀ e∈tabPe,zaf Tryz.prog e:=zaa zly zad
theorem zjo (j:Nat):zbt (j+1)=zbt j++[(j:Int)+1]:=by
 unfold zbt
 rw [List.range_succ,List.map_append]
 rfl
def zfr (c:Config):Kept:=⟨1,0,⟨1,1,c,zs⟩,[]⟩
def zcv (c:Config) (n:Nat):List Node:=(List.range n).map fun (i:Nat)=>newN ((i:Int)+1) (zfr c)
def zbA (v:Int):Nat:=if v+1<=5 then (v+1).toNat else 5
def bMo (ns:List Node):List BE:=[.dead,.dead,.cells 36 [.own 3,.nil,.int .i64 0],.row 49 [1] (.rNode ns)]
theorem zng (v:Int) (h1:1<=v) (h2:v<=5) (hR:∀ j:Nat,j<5->zan (newN ((j:Int)+1) (zfr (cfgV v.toNat)))=true):FnC Tryz.prog 4 [.int .i64 v] (.tup [.ptr 2 0,.bool true]) (bMo (zcv (cfgV v.toNat) (zbA v))):=by
 refine FnG.of_vc (zak zik fun _=>none) Tryz.func4 rfl (by decide) rfl 300 (p:=fun (V:List PE->Prop)=>True/\True/\True/\V []) (by kernel_rfl) ?_
 dsimp only
 refine ⟨trivial,trivial,trivial,?_⟩
 refine LoopG.head (zak zik fun _=>none) 0 (A:=Nat) (fun j=>(j:Int)<=v) (fun j=>[(5,.int .i64 ((j:Int)+1)),(3,.bool false)]) (fun j=>[(5,.cells 40 [.own 901,.nil]),(901,.row 3 [] (.rInts (zbt j)))]) (fun j=>v.toNat-j) 0 (by show ((0:Nat):Int)<=v;omega) (p0:=(1:Int)=(↑(0:Nat):Int)+(1:Int)/\false=false/\v=v/\zbt (0:Nat)=[]/\True) (by kernel_rfl) ?_ 300 (p:=fun (x:Nat) (V:List PE->Prop)=>let v0:=(↑x:Int)+(1:Int);let v1:=decide (v0<=v);True/\True/\(v1=true->((List.length (zbt x)+List.length [v0])*(1024:Nat)<=140737488355328/\True)/\True/\V [PE.a])/\(v1=false->True/\True/\V [PE.b])) (by intro x;kernel_rfl) ?_
 ·exact ⟨rfl,rfl,rfl,rfl,trivial⟩
 rintro j hj
 have hj:(j:Int)<=v:=hj
 have hvl:∀ k,(zbt k).length=k:=fun k=>by simp [zbt]
 dsimp only
 refine ⟨trivial,trivial,fun h=>?_,fun h=>?_⟩
 ·have h:(j:Int)+1<=v:=of_decide_eq_true h
  refine ⟨⟨by rw [hvl];show (j+1)*1024<=_;omega,trivial⟩,trivial,?_⟩
  refine Back.mk (j+1) (by show ((j+1:Nat):Int)<=v;omega) (by show v.toNat-(j+1)<v.toNat-j;omega) (p0:=let v0:=(↑j:Int)+(1:Int);IntKind.wrap IntKind.i64 (v0+(1:Int))=(↑(j+(1:Nat)):Int)+(1:Int)/\false=false/\v=v/\zbt j++[v0]=zbt (j+(1:Nat))/\True) (by kernel_rfl) ?_
  dsimp only
  refine ⟨by rw [zaD ⟨by omega,by omega⟩];push_cast;rfl,rfl,rfl,(zjo j).symm,trivial⟩
 have h:¬ (j:Int)+1<=v:=of_decide_eq_false h
 have hjv:j=v.toNat:=by omega
 subst hjv
 refine ⟨trivial,trivial,?_⟩
 refine LoopG.head (zak zik fun _=>none) 0 (A:=Nat) (fun j=>j<=zbA v) (fun j=>[(7,.int .i64 ((j:Int)+1)),(3,.bool false)]) (fun j=>[(5,.cells 40 [.sl [903] (.rInts (zbt v.toNat)),.nil]),(903,.dead),(12,.cells 36 [.own 904,.nil,.int .i64 0]),(904,.row 49 [905] (.rNode (zcv (cfgV v.toNat) j))),(905,.dead)]) (fun j=>zbA v-j) 0 (Nat.zero_le _) (p0:=let v0:=zbt (Int.toNat v);(1:Int)=(↑(0:Nat):Int)+(1:Int)/\false=false/\v=v/\v0=v0/\v0.length<=17592186044416/\(0:Int)=0/\zcv (cfgV (Int.toNat v)) (0:Nat)=[]/\True) (by kernel_rfl) ?_ 300 (p:=fun (x:Nat) (V:List PE->Prop)=>let v0:=cfgV (Int.toNat v);let v1:=zcv v0 x;let v2:=(1:Int);let v3:=(0:Int);let v4:=IntKind.wrap IntKind.i64 (v+v2);let v5:=(↑x:Int)+v2;let v6:=Kept.mk v2 v3 (Snap.mk v2 v2 (Config.mk (zbt (Int.toNat v)) []) (ByteArray.mk #[])) [];let v7:=newC v5 v6;let v8:=Prod.snd v7 != v3;let v9:=decide (v5<=v4);let v10:=zac v9 (decide (v5<=5)) false;((v9=true->v9=true)/\(v9=true->v9=true)/\True)/\True/\(v10=true->(zbQ v6/\True)/\True/\True/\(v8=true->True/\false=true/\v3=v3/\v1=zcv v0 (zbA v)/\True)/\(v8=false->((v1.length+List.length [Prod.fst v7])*(1024:Nat)<=140737488355328/\True)/\True/\V [PE.a,PE.b]))/\(v10=false->True/\true=true/\v3=v3/\v1=zcv v0 (zbA v)/\True)) (by intro x;kernel_rfl) ?_
 ·dsimp only
  refine ⟨rfl,rfl,rfl,rfl,by rw [hvl];omega,rfl,rfl,trivial⟩
 rintro j hj
 have hj:j<=zbA v:=hj
 have hM:zbA v<=5/\(zbA v:Int)<=v+1/\((zbA v:Int)=5\/(zbA v:Int)=v+1):=by
  unfold zbA
  split<;>omega
 have ew:IntKind.wrap IntKind.i64 (v+1)=v+1:=zaD ⟨by omega,by omega⟩
 dsimp only
 rw [ew]
 refine ⟨⟨id,id,trivial⟩,trivial,fun h=>?_,fun h=>?_⟩
 ·rw [zah,Bool.and_eq_true,decide_eq_true_eq,decide_eq_true_eq] at h
  have hj5:j<5:=by omega
  have e:newC ((j:Int)+1) (Kept.mk 1 0 (Snap.mk 1 1 (Config.mk (zbt v.toNat) []) (ByteArray.mk #[])) [])=(newN ((j:Int)+1) (zfr (cfgV v.toNat)),0):=by
   have:=hR j hj5
   unfold newC
   exact if_pos this
  simp only [e]
  refine ⟨⟨⟨⟨Nat.zero_le _,fun x hx=>(by cases hx)⟩,by show (zbt v.toNat).length<=_;rw [hvl];omega,Nat.zero_le _⟩,trivial⟩,trivial,trivial,fun h=>absurd h (by decide),fun _=>⟨⟨?_,trivial⟩,trivial,?_⟩⟩
  ·show ((zcv (cfgV v.toNat) j).length+1)*1024<=_
   have:(zcv (cfgV v.toNat) j).length=j:=by simp [zcv]
   omega
  ·refine Back.mk (j+1) (by show j+1<=zbA v;omega) (by show zbA v-(j+1)<zbA v-j;omega) (p0:=let v0:=zbt (Int.toNat v);let v1:=cfgV (Int.toNat v);let v2:=(1:Int);let v3:=(↑j:Int)+v2;IntKind.wrap IntKind.i64 (v3+v2)=(↑(j+(1:Nat)):Int)+v2/\false=false/\v=v/\v0=v0/\(0:Int)=0/\zcv v1 j++[Prod.fst (newC v3 (Kept.mk v2 (0:Int) (Snap.mk v2 v2 (Config.mk v0 []) (ByteArray.mk #[])) []))]=zcv v1 (j+(1:Nat))/\True) (by kernel_rfl) ?_
   dsimp only
   rw [e]
   refine ⟨by rw [zaD ⟨by omega,by omega⟩];push_cast;rfl,rfl,rfl,rfl,rfl,?_,trivial⟩
   show zcv (cfgV v.toNat) j++[newN ((j:Int)+1) (zfr (cfgV v.toNat))]=_
   unfold zcv
   rw [List.range_succ,List.map_append]
   rfl
 ·rw [zah,Bool.and_eq_false_iff,decide_eq_false_iff_not,decide_eq_false_iff_not] at h
  have hje:j=zbA v:=by omega
  subst hje
  exact ⟨trivial,rfl,rfl,rfl,trivial⟩
theorem zjx:∀ j:Nat,j<5->zan (newN ((j:Int)+1) (zfr (cfgV (1:Int).toNat)))=true:=by
 have h1:zan (newN 1 (zfr (cfgV 1)))=true:=by kernel_rfl
 have h2:zan (newN 2 (zfr (cfgV 1)))=true:=by kernel_rfl
 have h3:zan (newN 3 (zfr (cfgV 1)))=true:=by kernel_rfl
 have h4:zan (newN 4 (zfr (cfgV 1)))=true:=by kernel_rfl
 have h5:zan (newN 5 (zfr (cfgV 1)))=true:=by kernel_rfl
 intro j hj
 match j,hj with
 | 0,_=>exact h1
 | 1,_=>exact h2
 | 2,_=>exact h3
 | 3,_=>exact h4
 | 4,_=>exact h5
def zuC:Ent:=ent1 4 dInt fun v=>([1<=v,v<=5,∀ j:Nat,j<5->zan (newN ((j:Int)+1) (zfr (cfgV v.toNat)))=true],.tup [.ptr 2 0,.bool true],bMo (zcv (cfgV v.toNat) (zbA v)))
theorem zrb:zaf Tryz.prog zuC:=za4 (zng 1 (by decide) (by decide) zjx).1 fun v h=>zng v (h _ (by simp)) (h _ (by simp)) (h _ (by simp))
def zqH:Ent:=ent0 8 ([],.bool true,D2)
theorem znX:zaf Tryz.prog zqH:=ziJ proposes_fn.1 fun _=>proposes_fn
noncomputable def tabPt:List Ent:=[zuC,zx9,zuE,zu6,zqH]
theorem zeB:∀ e∈tabPt,zaf Tryz.prog e:=zaa zrb (zaa ztw (zaa zrg (zaa zqR (zaa znX zad))))
theorem zpE {l:List Int} {n:Node} (h:n.role≠4):zbJ l n=l:=by unfold zbJ;rw [if_neg h]
theorem zrB {c0:Config} {N:Nat} {g:Gh} {ns:List Node} {net:List Message} (h:PI c0 N g ns net) (hN:N<=700) {i j:Nat} (hi:i<ns.length) (hj:j<ns.length):AgreeG (ns.getD i default) (ns.getD j default):=by
 obtain ⟨a,ha⟩:=h.node i hi
 obtain ⟨b,hb⟩:=h.node j hj
 have he:=ha.ents (by omega)
 obtain ⟨q,q1,hq⟩:=ha.ab.kept
 obtain ⟨r,r1,hr⟩:=hb.ab.kept
 have hq:KAbs c0 (ns.getD i default).kept a.log q:=hq
 have hr:KAbs c0 (ns.getD j default).kept b.log r:=hr
 have hbl:=ha.bl
 have hbb:=hb.bl
 have hrl:=hr.le
 have hql:=hq.le
 have hqn:=hq.len
 have hsi:=hr.si
 refine ⟨Nat.le_trans he.1 (by omega),fun k hk=>⟨fun h1 h2 h3=>h.agree hi hj (by omega) hk h1 h2 h3,?_⟩,by omega,by omega⟩
 rw [hq.en,zdm]
 have:=ha.ab.idx (q+k) (by omega)
 omega
theorem ziq (v:Int) (l:List Move):FnC Tryz.prog 3 [dInt.can v,dMoves.can l] (.bool true) D2:=by
 refine FnG.of_vc (zak zeB fun _=>none) Tryz.func3 rfl (by decide) rfl 300 (p:=fun (V:List PE->Prop)=>let v0:=(1:Int);let v1:=(↑(l.length):Int);let v2:=decide (v<v0);let v3:=zac v2 true (decide (v>5));let v4:=zac v3 true (decide (v1>600));True/\(((!v2)=true->(!v2)=true)/\(v2=false->(!v2)=true)/\((!v3)=true->(!v3)=true)/\((!v3)=true->(!v3)=true)/\(v3=false->(!v3)=true)/\True)/\True/\(v4=true->True/\true=true/\True)/\(v4=false->(v0<=v/\v<=5/\(∀ (j:Nat),j<5->zan (newN ((↑j:Int)+v0) (zfr (cfgV (Int.toNat v))))=true)/\True)/\True/\True/\((!true)=true->True/\false=true/\True)/\((!true)=false->True/\True/\V [PE.b,PE.b]))) (by kernel_rfl) ?_
 dsimp only
 have nt:∀ b:Bool,b=false->(!b)=true:=fun b h=>by rw [h];rfl
 refine ⟨trivial,⟨id,nt _,id,id,nt _,trivial⟩,trivial,fun _=>⟨trivial,rfl,trivial⟩,fun h=>?_⟩
 have hh:1<=v/\v<=5/\l.length<=600:=by
  rw [zai,zai,Bool.or_eq_false_iff,Bool.or_eq_false_iff,decide_eq_false_iff_not,decide_eq_false_iff_not,decide_eq_false_iff_not] at h
  omega
 obtain ⟨hv1,hv5,hl6⟩:=hh
 have hM:zbA v<=5:=by unfold zbA;split<;>omega
 have hmay:mayC (Ag.cfgV v.toNat)=true:=Ag.cfgV_may v.toNat (by omega) (by omega)
 obtain ⟨p0,hp0⟩:∃ p0:Play,p0=⟨Ag.startL (Ag.cfgV v.toNat) (zbA v),[],0⟩:=⟨_,rfl⟩
 have hat:=Ag.at_i hmay hM hp0 l hl6
 have hRt:∀ j:Nat,j<5->zan (newN ((j:Int)+1) (zfr (cfgV v.toNat)))=true:=fun j hj=>(Ag.start_good hmay j hj).right
 refine ⟨⟨hv1,hv5,hRt,trivial⟩,trivial,trivial,fun h=>absurd h (by decide),fun _=>⟨trivial,trivial,?_⟩⟩
 refine LoopG.head (zak zeB fun _=>none) 0 (A:=Nat) (fun i=>i<=l.length) (fun i=>[(8,.int .i64 i),(7,.own 904),(4,.bool false)]) (fun i=>[(23,.cells 36 [.own 901,.own 902,.int .i64 (zaj p0 l i).many]),(901,.row 49 [903] (.rNode (zaj p0 l i).ns)),(902,.row 58 [903] (.rMessage (zaj p0 l i).net)),(903,.dead),(904,.row 3 [] (.rInts (zaA p0 l i)))]) (fun i=>l.length-i) 0 (Nat.zero_le _) (p0:=let v0:=zaj p0 l (0:Nat);(0:Int)=(↑(0:Nat):Int)/\false=false/\l=l/\(0:Int)=Play.many v0/\zcv (cfgV (Int.toNat v)) (zbA v)=Play.ns v0/\Play.net v0=[]/\zaA p0 l (0:Nat)=[]/\True) (by kernel_rfl) ?_ 300 (p:=fun (x:Nat) (V:List PE->Prop)=>let v0:=(↑x:Int);let v1:=(↑(l.length):Int);let v2:=!Prod.snd (zaq (zaj p0 l x) (List.getD l x default));let v3:=decide (v0<v1);True/\True/\(v3=true->((0:Int)<=v0/\v0<v1/\MoveG (zaj p0 l x)/\True)/\True/\(v2=true->True/\false=true/\True)/\(v2=false->True/\V [PE.a,PE.b]))/\(v3=false->((true=true->true=true)/\True)/\zac true true false=true/\True)) (by intro x;kernel_rfl) ?_
 ·have e0:=Ag.playAt_0 p0 l
  dsimp only
  rw [e0]
  subst hp0
  exact ⟨rfl,rfl,rfl,rfl,rfl,rfl,rfl,trivial⟩
 rintro i hi
 have hi:i<=l.length:=hi
 dsimp only
 refine ⟨trivial,trivial,fun h=>?_,fun _=>⟨⟨id,trivial⟩,rfl,trivial⟩⟩
 have h:(i:Int)<(l.length:Int):=of_decide_eq_true h
 have hi2:i<l.length:=by omega
 have A:=hat i (by omega)
 obtain ⟨g,hg,hL⟩:=A.pi
 have hc:=zh6 (m:=l.getD i default) hg hmay (by omega)
 have hmv:(zaq (zaj p0 l i) (l.getD i default)).2=true:=hc.ok
 have hG:MoveG (zaj p0 l i):=zsI hg A.bd hmay (by omega) (by rw [A.len];exact hM)
 have hN5:(zaq (zaj p0 l i) (l.getD i default)).1.ns.length<=5:=by rw [hc.len,A.len];exact hM
 obtain ⟨g',h1,h2⟩:=hc.pi
 have hAg:∀ j k,j<(zaq (zaj p0 l i) (l.getD i default)).1.ns.length->k<(zaq (zaj p0 l i) (l.getD i default)).1.ns.length->AgreeG ((zaq (zaj p0 l i) (l.getD i default)).1.ns.getD j default) ((zaq (zaj p0 l i) (l.getD i default)).1.ns.getD k default):=fun j k hj hk=>zrB h1 (by omega) hj hk
 have hLj:=h1.leads (hL.keep h2)
 have hLn:∀ j,j<=(zaq (zaj p0 l i) (l.getD i default)).1.ns.length->(zaC (zaq (zaj p0 l i) (l.getD i default)).1.ns (zaA p0 l i) j).length<=100000:=fun j hj=>by
  have a1:=zew (zaq (zaj p0 l i) (l.getD i default)).1.ns (zaA p0 l i) j hj
  have a2:=A.ll
  omega
 have hNx:=Ag.playAt_succ p0 l hi2
 have hL0:=zg1 (zaq (zaj p0 l i) (l.getD i default)).1.ns (zaA p0 l i)
 have hL1:∀ j,j<=(zaq (zaj p0 l i) (l.getD i default)).1.ns.length->(zaC (zaq (zaj p0 l i) (l.getD i default)).1.ns (zaA p0 l i) j).length % 2=0:=fun j hj=>(hLj j hj).ev
 have hLs:∀ j,j<(zaq (zaj p0 l i) (l.getD i default)).1.ns.length->zaC (zaq (zaj p0 l i) (l.getD i default)).1.ns (zaA p0 l i) (j+1)=zbJ (zaC (zaq (zaj p0 l i) (l.getD i default)).1.ns (zaA p0 l i) j) ((zaq (zaj p0 l i) (l.getD i default)).1.ns.getD j default):=fun j hj=>zdE (zaq (zaj p0 l i) (l.getD i default)).1.ns _ hj
 simp only [hmv]
 refine ⟨⟨Int.natCast_nonneg _,h,hG,trivial⟩,trivial,fun h=>absurd h (by decide),fun _=>⟨trivial,?_⟩⟩
 refine LoopG.head (zak zeB fun _=>none) 1 (A:=Nat) (fun j=>j<=(zaq (zaj p0 l i) (l.getD i default)).1.ns.length) (fun j=>[(9,.int .i64 j),(7,.own 914),(4,.bool false)]) (fun j=>[(914,.row 3 [] (.rInts (zaC (zaq (zaj p0 l i) (l.getD i default)).1.ns (zaA p0 l i) j)))]) (fun j=>(zaq (zaj p0 l i) (l.getD i default)).1.ns.length-j) 0 (Nat.zero_le _) (p0:=let v0:=(↑i:Int);let v1:=(↑(l.length):Int);let v2:=List.getD l i default;let v3:=Move.node v2;let v4:=Move.change v2;let v5:=Move.kind v2;let v6:=Move.at_ v2;let v7:=Change.kind v4;let v8:=Change.node v4;let v9:=zaq (zaj p0 l i) v2;let v10:=Prod.snd v9;let v11:=Prod.fst v9;let v12:=Play.ns v11;let v13:=Play.net v11;let v14:=!v10;let v15:=Play.many v11;let v16:=decide (v0<v1);(0:Int)=(↑(0:Nat):Int)/\false=false/\v14=v14/\v10=v10/\v5=v5/\v3=v3/\v6=v6/\v7=v7/\v8=v8/\v0=v0/\l=l/\v16=v16/\v1=v1/\l=l/\v0=v0/\v0=v0/\l=l/\zaA p0 l i=zaC v12 (zaA p0 l i) (0:Nat)/\v15=v15/\v12=v12/\v13=v13/\True) (by kernel_rfl) ?_ 300 (p:=fun (x:Nat) (V:List PE->Prop)=>let v0:=(↑x:Int);let v1:=List.length (Play.ns (Prod.fst (zaq (zaj p0 l i) (List.getD l i default))));let v2:=(↑v1:Int);let v3:=decide (v0<v2);True/\True/\(v3=true->((0:Int)<=v0/\v0<v2/\x<v1/\True)/\True/\V [PE.a])/\(v3=false->True/\V [PE.b])) (by intro x;kernel_rfl) ?_
 ·dsimp only
  repeat' apply And.intro
  all_goals first | rfl | exact hL0.symm | trivial
 rintro j hj
 have hj:j<=(zaq (zaj p0 l i) (l.getD i default)).1.ns.length:=hj
 dsimp only
 refine ⟨trivial,trivial,fun h=>?_,fun h=>?_⟩
 ·have h:(j:Int)<((zaq (zaj p0 l i) (l.getD i default)).1.ns.length:Int):=of_decide_eq_true h
  have hj2:j<(zaq (zaj p0 l i) (l.getD i default)).1.ns.length:=by omega
  refine ⟨⟨Int.natCast_nonneg _,h,hj2,trivial⟩,trivial,?_⟩
  refine LoopG.head (zak zeB fun _=>none) 2 (A:=Nat) (fun k=>k<=(zaq (zaj p0 l i) (l.getD i default)).1.ns.length) (fun k=>[(11,.int .i64 k),(4,.bool false)]) (fun _=>[]) (fun k=>(zaq (zaj p0 l i) (l.getD i default)).1.ns.length-k) 0 (Nat.zero_le _) (p0:=let v0:=(↑j:Int);let v1:=(↑i:Int);let v2:=(↑(l.length):Int);let v3:=List.getD l i default;let v4:=Move.at_ v3;let v5:=Move.change v3;let v6:=Move.node v3;let v7:=Move.kind v3;let v8:=Change.kind v5;let v9:=Change.node v5;let v10:=zaq (zaj p0 l i) v3;let v11:=Prod.fst v10;let v12:=Prod.snd v10;let v13:=Play.many v11;let v14:=!v12;let v15:=Play.ns v11;let v16:=Play.net v11;let v17:=(↑(v15.length):Int);let v18:=zaC v15 (zaA p0 l i) j;let v19:=List.getD v15 j default;let v20:=v19.peers;let v21:=v19.lead;let v22:=v19.commit;let v23:=v19.elapsed;let v24:=v19.yes;let v25:=v19.round;let v26:=v19.reads;let v27:=v19.id;let v28:=v19.kept;let v29:=v19.role;let v30:=v28.entries;let v31:=v28.snap;let v32:=v28.term;let v33:=v28.vote;let v34:=v31.data;let v35:=v31.config;let v36:=decide (v1<v2);let v37:=v31.index;let v38:=v31.term;let v39:=v35.voters;let v40:=v35.learners;let v41:=decide (v0<v17);(0:Int)=(↑(0:Nat):Int)/\false=false/\v27=v27/\v29=v29/\v32=v32/\v33=v33/\v37=v37/\v38=v38/\v39=v39/\v40=v40/\v34=v34/\v30=v30/\v22=v22/\v21=v21/\v23=v23/\v24=v24/\v20=v20/\v25=v25/\v26=v26/\v0=v0/\v41=v41/\v17=v17/\v0=v0/\v0=v0/\v14=v14/\v12=v12/\v7=v7/\v6=v6/\v4=v4/\v8=v8/\v9=v9/\v1=v1/\l=l/\v36=v36/\v2=v2/\l=l/\v1=v1/\v1=v1/\l=l/\v27=v27/\v29=v29/\v32=v32/\v33=v33/\v37=v37/\v38=v38/\v39=v39/\v40=v40/\v34=v34/\v30=v30/\v22=v22/\v21=v21/\v23=v23/\v24=v24/\v20=v20/\v25=v25/\v26=v26/\v18=v18/\v13=v13/\v15=v15/\v16=v16/\True) (by kernel_rfl) ?_ 300 (p:=fun (x:Nat) (V:List PE->Prop)=>let v0:=(↑x:Int);let v1:=(↑j:Int) != v0;let v2:=Play.ns (Prod.fst (zaq (zaj p0 l i) (List.getD l i default)));let v3:=zac v1 (!true) false;let v4:=v2.length;let v5:=(↑v4:Int);let v6:=List.getD v2 j default;let v7:=v6.role != 4;let v8:=decide (v0<v5);True/\True/\(v8=true->((v1=true->v1=true)/\(v1=true->v1=true)/\(v1=true->v1=true)/\(v1=true->v1=true)/\(v1=true->v1=true)/\(v1=true->(0:Int)<=v0)/\(v1=true->v0<v5)/\(v1=true->v1=true)/\(v1=true->x<v4)/\(v1=true->v1=true)/\(v1=true->v1=true)/\(v1=true->AgreeG v6 (List.getD v2 x default))/\(v1=true->v1=true)/\(v1=true->v1=true)/\True)/\True/\(v3=true->True/\false=true/\True)/\(v3=false->True/\V [PE.a,PE.b]))/\(v8=false->True/\True/\(v7=true->True/\V [PE.b,PE.a])/\(v7=false->True/\V [PE.b,PE.b]))) (by intro x;kernel_rfl) ?_
  ·dsimp only
   repeat' apply And.intro
   all_goals first | rfl | trivial
  rintro k hk
  have hk:k<=(zaq (zaj p0 l i) (l.getD i default)).1.ns.length:=hk
  dsimp only
  simp only [imp_self,implies_true,true_and,and_true,zah,zai]
  refine ⟨fun h=>?_,fun h=>⟨fun hr=>?_,fun hr=>?_⟩⟩
  ·have h:(k:Int)<((zaq (zaj p0 l i) (l.getD i default)).1.ns.length:Int):=of_decide_eq_true h
   have hk2:k<(zaq (zaj p0 l i) (l.getD i default)).1.ns.length:=by omega
   refine ⟨⟨fun _=>Int.natCast_nonneg _,fun _=>h,fun _=>hk2,fun _=>hAg j k hj2 hk2⟩,fun h=>by simp at h,fun _=>?_⟩
   refine Back.mk (k+1) (by show k+1<=(zaq (zaj p0 l i) (l.getD i default)).1.ns.length;omega) (by show (zaq (zaj p0 l i) (l.getD i default)).1.ns.length-(k+1)<(zaq (zaj p0 l i) (l.getD i default)).1.ns.length-k;omega) (p0:=let v0:=(↑j:Int);let v1:=(↑i:Int);let v2:=(↑(l.length):Int);let v3:=List.getD l i default;let v4:=Move.at_ v3;let v5:=Move.change v3;let v6:=Move.node v3;let v7:=Move.kind v3;let v8:=Change.kind v5;let v9:=Change.node v5;let v10:=zaq (zaj p0 l i) v3;let v11:=Prod.fst v10;let v12:=Prod.snd v10;let v13:=Play.many v11;let v14:=!v12;let v15:=Play.ns v11;let v16:=Play.net v11;let v17:=(↑(v15.length):Int);let v18:=zaC v15 (zaA p0 l i) j;let v19:=List.getD v15 j default;let v20:=v19.peers;let v21:=v19.lead;let v22:=v19.commit;let v23:=v19.elapsed;let v24:=v19.yes;let v25:=v19.round;let v26:=v19.reads;let v27:=v19.id;let v28:=v19.kept;let v29:=v19.role;let v30:=v28.entries;let v31:=v28.snap;let v32:=v28.term;let v33:=v28.vote;let v34:=v31.data;let v35:=v31.config;let v36:=decide (v1<v2);let v37:=v31.index;let v38:=v31.term;let v39:=v35.voters;let v40:=v35.learners;let v41:=decide (v0<v17);IntKind.wrap IntKind.i64 ((↑k:Int)+(1:Int))=(↑(k+(1:Nat)):Int)/\false=false/\v27=v27/\v29=v29/\v32=v32/\v33=v33/\v37=v37/\v38=v38/\v39=v39/\v40=v40/\v34=v34/\v30=v30/\v22=v22/\v21=v21/\v23=v23/\v24=v24/\v20=v20/\v25=v25/\v26=v26/\v0=v0/\v41=v41/\v17=v17/\v0=v0/\v0=v0/\v14=v14/\v12=v12/\v7=v7/\v6=v6/\v4=v4/\v8=v8/\v9=v9/\v1=v1/\l=l/\v36=v36/\v2=v2/\l=l/\v1=v1/\v1=v1/\l=l/\v27=v27/\v29=v29/\v32=v32/\v33=v33/\v37=v37/\v38=v38/\v39=v39/\v40=v40/\v34=v34/\v30=v30/\v22=v22/\v21=v21/\v23=v23/\v24=v24/\v20=v20/\v25=v25/\v26=v26/\v18=v18/\v13=v13/\v15=v15/\v16=v16/\True) (by kernel_rfl) ?_
   dsimp only
   repeat' apply And.intro
   all_goals first | rfl | trivial | (rw [zaD ⟨by omega,by omega⟩];rfl)
  ·refine Back.up (Back.mk (j+1) (by show j+1<=(zaq (zaj p0 l i) (l.getD i default)).1.ns.length;omega) (by show (zaq (zaj p0 l i) (l.getD i default)).1.ns.length-(j+1)<(zaq (zaj p0 l i) (l.getD i default)).1.ns.length-j;omega) (p0:=let v0:=(↑i:Int);let v1:=(↑(l.length):Int);let v2:=List.getD l i default;let v3:=Move.node v2;let v4:=Move.change v2;let v5:=Move.kind v2;let v6:=Move.at_ v2;let v7:=Change.kind v4;let v8:=Change.node v4;let v9:=zaq (zaj p0 l i) v2;let v10:=Prod.snd v9;let v11:=Prod.fst v9;let v12:=Play.net v11;let v13:=Play.ns v11;let v14:=!v10;let v15:=Play.many v11;let v16:=decide (v0<v1);IntKind.wrap IntKind.i64 ((↑j:Int)+(1:Int))=(↑(j+(1:Nat)):Int)/\false=false/\v14=v14/\v10=v10/\v5=v5/\v3=v3/\v6=v6/\v7=v7/\v8=v8/\v0=v0/\l=l/\v16=v16/\v1=v1/\l=l/\v0=v0/\v0=v0/\l=l/\zaC v13 (zaA p0 l i) j=zaC v13 (zaA p0 l i) (j+(1:Nat))/\v15=v15/\v13=v13/\v12=v12/\True) (by kernel_rfl) ?_)
   have hs:=hLs j hj2
   have hr:((zaq (zaj p0 l i) (l.getD i default)).1.ns.getD j default).role≠4:=by simpa using hr
   rw [zpE hr] at hs
   dsimp only
   repeat' apply And.intro
   all_goals first | rfl | exact hs.symm | trivial | (rw [zaD ⟨by omega,by omega⟩];rfl)
  ·have hr:((zaq (zaj p0 l i) (l.getD i default)).1.ns.getD j default).role=4:=by simpa using hr
   have hln:=hLn j hj
   have hev:=hL1 j hj
   refine LoopG.head (zak zeB fun _=>none) 3 (A:=Nat) (fun z=>2*z<=(zaC (zaq (zaj p0 l i) (l.getD i default)).1.ns (zaA p0 l i) j).length) (fun z=>[(12,.int .i64 (2*(z:Int))),(4,.bool false)]) (fun _=>[]) (fun z=>(zaC (zaq (zaj p0 l i) (l.getD i default)).1.ns (zaA p0 l i) j).length-2*z) 0 (by show 2*0<=_;omega) (p0:=let v0:=(↑k:Int);let v1:=(↑i:Int);let v2:=(↑j:Int);let v3:=(↑(l.length):Int);let v4:=List.getD l i default;let v5:=Move.node v4;let v6:=Move.at_ v4;let v7:=Move.change v4;let v8:=Move.kind v4;let v9:=Change.node v7;let v10:=Change.kind v7;let v11:=zaq (zaj p0 l i) v4;let v12:=Prod.fst v11;let v13:=Prod.snd v11;let v14:=Play.many v12;let v15:=Play.net v12;let v16:=!v13;let v17:=Play.ns v12;let v18:=(↑(v17.length):Int);let v19:=List.getD v17 j default;let v20:=zaC v17 (zaA p0 l i) j;let v21:=v19.reads;let v22:=v19.lead;let v23:=v19.elapsed;let v24:=v19.round;let v25:=v19.role;let v26:=v19.yes;let v27:=v19.id;let v28:=v19.kept;let v29:=v19.peers;let v30:=v19.commit;let v31:=v28.vote;let v32:=v28.entries;let v33:=v28.snap;let v34:=v28.term;let v35:=decide (v1<v3);let v36:=v33.data;let v37:=v33.index;let v38:=v33.config;let v39:=v33.term;let v40:=v38.learners;let v41:=v38.voters;let v42:=v25 != 4;let v43:=decide (v2<v18);let v44:=decide (v0<v18);(0:Int)=2*(↑(0:Nat):Int)/\false=false/\v42=v42/\v25=v25/\v44=v44/\v18=v18/\v0=v0/\v0=v0/\v27=v27/\v25=v25/\v34=v34/\v31=v31/\v37=v37/\v39=v39/\v41=v41/\v40=v40/\v36=v36/\v32=v32/\v30=v30/\v22=v22/\v23=v23/\v26=v26/\v29=v29/\v24=v24/\v21=v21/\v2=v2/\v43=v43/\v18=v18/\v2=v2/\v2=v2/\v16=v16/\v13=v13/\v8=v8/\v5=v5/\v6=v6/\v10=v10/\v9=v9/\v1=v1/\l=l/\v35=v35/\v3=v3/\l=l/\v1=v1/\v1=v1/\l=l/\v27=v27/\v25=v25/\v34=v34/\v31=v31/\v37=v37/\v39=v39/\v41=v41/\v40=v40/\v36=v36/\v32=v32/\v30=v30/\v22=v22/\v23=v23/\v26=v26/\v29=v29/\v24=v24/\v21=v21/\v20=v20/\v14=v14/\v17=v17/\v15=v15/\True) (by kernel_rfl) ?_ 300 (p:=fun (x:Nat) (V:List PE->Prop)=>let v0:=(0:Int);let v1:=(2:Int);let v2:=v1*(↑x:Int);let v3:=Play.ns (Prod.fst (zaq (zaj p0 l i) (List.getD l i default)));let v4:=Int.toNat v2;let v5:=zaC v3 (zaA p0 l i) j;let v6:=List.getD v3 j default;let v7:=v6.id;let v8:=v5.length;let v9:=v6.kept.term;let v10:=(↑v8:Int);let v11:=IntKind.wrap IntKind.i64 (v2+(1:Int));let v12:=Int.toNat v11;let v13:=IntKind.wrap IntKind.i64 (v10-v1);let v14:=Int.toNat v13;let v15:=decide (v10<v1);let v16:=List.getD v5 v4 v0==v9;let v17:=decide (v11<v10);let v18:=zac v16 (List.getD v5 v12 v0 != v7) false;let v19:=zac v15 true (List.getD v5 v14 v0 != v9);True/\True/\(v17=true->(v0<=v2/\v2<v10/\v4<v8/\(v16=true->v16=true)/\(v16=true->v16=true)/\(v16=true->v16=true)/\(v16=true->v0<=v11)/\(v16=true->v11<v10)/\(v16=true->v16=true)/\(v16=true->v12<v8)/\(v16=true->v16=true)/\(v16=true->v16=true)/\(v16=true->v16=true)/\(v16=true->v16=true)/\True)/\True/\(v18=true->True/\false=true/\True)/\(v18=false->True/\V [PE.a,PE.b]))/\(v17=false->(((!v15)=true->(!v15)=true)/\((!v15)=true->(!v15)=true)/\((!v15)=true->(!v15)=true)/\((!v15)=true->(!v15)=true)/\((!v15)=true->v0<=v13)/\((!v15)=true->v13<v10)/\((!v15)=true->(!v15)=true)/\((!v15)=true->v14<v8)/\((!v15)=true->(!v15)=true)/\((!v15)=true->(!v15)=true)/\((!v15)=true->(!v15)=true)/\((!v15)=true->(!v15)=true)/\(v15=false->(!v15)=true)/\True)/\True/\(v19=true->((v8+List.length ([v9]++[v7]))*(1024:Nat)<=140737488355328/\True)/\True/\V [PE.b,PE.a])/\(v19=false->True/\V [PE.b,PE.b]))) (by intro x;kernel_rfl) ?_
   ·dsimp only
    repeat' apply And.intro
    all_goals first | rfl | trivial
   rintro z hz
   have hz:2*z<=(zaC (zaq (zaj p0 l i) (l.getD i default)).1.ns (zaA p0 l i) j).length:=hz
   obtain ⟨nd,hnd⟩:∃ nd,(zaq (zaj p0 l i) (l.getD i default)).1.ns.getD j default=nd:=⟨_,rfl⟩
   obtain ⟨ld,hld⟩:∃ ld,(zaC (zaq (zaj p0 l i) (l.getD i default)).1.ns (zaA p0 l i) j)=ld:=⟨_,rfl⟩
   dsimp only
   rw [hld,hnd]
   have ewz:IntKind.wrap IntKind.i64 (2*(z:Int)+1)=2*(z:Int)+1:=zaD ⟨by omega,by omega⟩
   have etz:(2*(z:Int)).toNat=2*z:=by omega
   have etz1:(2*(z:Int)+1).toNat=2*z+1:=by omega
   simp only [imp_self,implies_true,true_and,and_true,zah,zai,ewz,etz,etz1]
   have hUq:∀ k,k+1<ld.length->k % 2=0->ld.getD k 0=nd.kept.term->ld.getD (k+1) 0=nd.id:=fun k k1 k2 k3=>by
    have hlk:=hLj j hj
    rw [hld] at hlk
    have hle:=h1.lead hj2
    rw [hnd] at hle hr
    exact hlk.uniq hr hle k1 k2 k3
   have hst:=hLs j hj2
   rw [hld,hnd] at hst
   rw [hnd] at hr
   rw [hld] at hln hev hz
   refine ⟨fun hc=>?_,fun hc=>?_⟩
   ·have hc:=of_decide_eq_true hc
    refine ⟨⟨by omega,by omega,by omega,fun _=>by omega,fun _=>by omega,fun _=>by omega⟩,fun hb=>?_,fun _=>?_⟩
    ·rw [Bool.and_eq_true,beq_iff_eq,bne_iff_ne] at hb
     exact absurd (hUq (2*z) (by omega) (by omega) hb.1) hb.2
    ·refine Back.mk (z+1) (by show 2*(z+1)<=ld.length;omega) (by show ld.length-2*(z+1)<ld.length-2*z;omega) (p0:=let v0:=(↑k:Int);let v1:=(↑i:Int);let v2:=(↑j:Int);let v3:=(↑(l.length):Int);let v4:=List.getD l i default;let v5:=Move.node v4;let v6:=Move.at_ v4;let v7:=Move.change v4;let v8:=Move.kind v4;let v9:=Change.node v7;let v10:=Change.kind v7;let v11:=zaq (zaj p0 l i) v4;let v12:=Prod.fst v11;let v13:=Prod.snd v11;let v14:=Play.many v12;let v15:=Play.net v12;let v16:=!v13;let v17:=Play.ns v12;let v18:=(↑(v17.length):Int);let v19:=List.getD v17 j default;let v20:=v19.peers;let v21:=v19.lead;let v22:=v19.kept;let v23:=v19.elapsed;let v24:=v19.yes;let v25:=v19.round;let v26:=v19.commit;let v27:=v19.id;let v28:=v19.role;let v29:=v19.reads;let v30:=v22.vote;let v31:=v22.snap;let v32:=v22.term;let v33:=v22.entries;let v34:=v31.index;let v35:=v31.data;let v36:=v31.config;let v37:=decide (v1<v3);let v38:=v31.term;let v39:=v36.learners;let v40:=v36.voters;let v41:=v28 != 4;let v42:=decide (v2<v18);let v43:=decide (v0<v18);IntKind.wrap IntKind.i64 ((2:Int)*(↑z:Int)+(2:Int))=2*(↑(z+(1:Nat)):Int)/\false=false/\v41=v41/\v28=v28/\v43=v43/\v18=v18/\v0=v0/\v0=v0/\v27=v27/\v28=v28/\v32=v32/\v30=v30/\v34=v34/\v38=v38/\v40=v40/\v39=v39/\v35=v35/\v33=v33/\v26=v26/\v21=v21/\v23=v23/\v24=v24/\v20=v20/\v25=v25/\v29=v29/\v2=v2/\v42=v42/\v18=v18/\v2=v2/\v2=v2/\v16=v16/\v13=v13/\v8=v8/\v5=v5/\v6=v6/\v10=v10/\v9=v9/\v1=v1/\l=l/\v37=v37/\v3=v3/\l=l/\v1=v1/\v1=v1/\l=l/\v27=v27/\v28=v28/\v32=v32/\v30=v30/\v34=v34/\v38=v38/\v40=v40/\v39=v39/\v35=v35/\v33=v33/\v26=v26/\v21=v21/\v23=v23/\v24=v24/\v20=v20/\v25=v25/\v29=v29/\ld=ld/\v14=v14/\v17=v17/\v15=v15/\True) (by kernel_rfl) ?_
     dsimp only
     repeat' apply And.intro
     all_goals first | rfl | trivial | (rw [zaD ⟨by omega,by omega⟩];push_cast;omega)
   ·have hc:=of_decide_eq_false hc
    refine ⟨⟨?_,?_,?_,fun h=>by rw [h];rfl⟩,fun ha=>⟨?_,?_⟩,fun ha=>?_⟩
    ·intro h
     have h:¬ (ld.length:Int)<2:=by simpa using h
     rw [zaD ⟨by omega,by omega⟩];omega
    ·intro h
     have h:¬ (ld.length:Int)<2:=by simpa using h
     rw [zaD ⟨by omega,by omega⟩];omega
    ·intro h
     have h:¬ (ld.length:Int)<2:=by simpa using h
     rw [zaD ⟨by omega,by omega⟩];omega
    ·show (ld.length+2)*1024<=_
     omega
    ·refine Back.up (Back.up (Back.mk (j+1) (by show j+1<=(zaq (zaj p0 l i) (l.getD i default)).1.ns.length;omega) (by show (zaq (zaj p0 l i) (l.getD i default)).1.ns.length-(j+1)<(zaq (zaj p0 l i) (l.getD i default)).1.ns.length-j;omega) (p0:=let v0:=(↑i:Int);let v1:=(↑(l.length):Int);let v2:=List.getD l i default;let v3:=Move.node v2;let v4:=Move.kind v2;let v5:=Move.change v2;let v6:=Move.at_ v2;let v7:=Change.kind v5;let v8:=Change.node v5;let v9:=zaq (zaj p0 l i) v2;let v10:=Prod.fst v9;let v11:=Prod.snd v9;let v12:=Play.many v10;let v13:=Play.ns v10;let v14:=Play.net v10;let v15:=!v11;let v16:=List.getD v13 j default;let v17:=decide (v0<v1);IntKind.wrap IntKind.i64 ((↑j:Int)+(1:Int))=(↑(j+(1:Nat)):Int)/\false=false/\v15=v15/\v11=v11/\v4=v4/\v3=v3/\v6=v6/\v7=v7/\v8=v8/\v0=v0/\l=l/\v17=v17/\v1=v1/\l=l/\v0=v0/\v0=v0/\l=l/\ld++([v16.kept.term]++[v16.id])=zaC v13 (zaA p0 l i) (j+(1:Nat))/\v12=v12/\v13=v13/\v14=v14/\True) (by kernel_rfl) ?_))
     have hcd:ld.length<2\/ld.getD (ld.length-2) 0≠nd.kept.term:=by
      by_cases h2:ld.length<2
      ·exact .inl h2
      ·rw [Bool.or_eq_true,decide_eq_true_eq,bne_iff_ne,zaD ⟨by omega,by omega⟩,show ((ld.length:Int)-2).toNat=ld.length-2 by omega] at ha
       rcases ha with ha | ha
       ·omega
       ·exact .inr ha
     have hap:ld++([((zaq (zaj p0 l i) (l.getD i default)).1.ns.getD j default).kept.term]++[((zaq (zaj p0 l i) (l.getD i default)).1.ns.getD j default).id])=zaC (zaq (zaj p0 l i) (l.getD i default)).1.ns (zaA p0 l i) (j+1):=by
      rw [hst,hnd,zbJ,if_pos hr,if_pos hcd]
      rfl
     dsimp only
     repeat' apply And.intro
     all_goals first | rfl | exact hap | trivial | (rw [zaD ⟨by omega,by omega⟩];rfl)
    ·refine Back.up (Back.up (Back.mk (j+1) (by show j+1<=(zaq (zaj p0 l i) (l.getD i default)).1.ns.length;omega) (by show (zaq (zaj p0 l i) (l.getD i default)).1.ns.length-(j+1)<(zaq (zaj p0 l i) (l.getD i default)).1.ns.length-j;omega) (p0:=let v0:=(↑i:Int);let v1:=(↑(l.length):Int);let v2:=List.getD l i default;let v3:=Move.node v2;let v4:=Move.change v2;let v5:=Move.kind v2;let v6:=Move.at_ v2;let v7:=Change.kind v4;let v8:=Change.node v4;let v9:=zaq (zaj p0 l i) v2;let v10:=Prod.snd v9;let v11:=Prod.fst v9;let v12:=Play.net v11;let v13:=Play.ns v11;let v14:=!v10;let v15:=Play.many v11;let v16:=decide (v0<v1);IntKind.wrap IntKind.i64 ((↑j:Int)+(1:Int))=(↑(j+(1:Nat)):Int)/\false=false/\v14=v14/\v10=v10/\v5=v5/\v3=v3/\v6=v6/\v7=v7/\v8=v8/\v0=v0/\l=l/\v16=v16/\v1=v1/\l=l/\v0=v0/\v0=v0/\l=l/\ld=zaC v13 (zaA p0 l i) (j+(1:Nat))/\v15=v15/\v13=v13/\v12=v12/\True) (by kernel_rfl) ?_))
     have hcd:¬ (ld.length<2\/ld.getD (ld.length-2) 0≠nd.kept.term):=by
      rw [Bool.or_eq_false_iff,decide_eq_false_iff_not,bne_eq_false_iff_eq] at ha
      have h2:¬ ld.length<2:=by have:=ha.1;omega
      have h3:=ha.2
      rw [zaD ⟨by omega,by omega⟩,show ((ld.length:Int)-2).toNat=ld.length-2 by omega] at h3
      rintro (g | g)
      ·exact h2 g
      ·exact g h3
     have hap:ld=zaC (zaq (zaj p0 l i) (l.getD i default)).1.ns (zaA p0 l i) (j+1):=by
      rw [hst,zbJ,if_pos hr,if_neg hcd]
     dsimp only
     repeat' apply And.intro
     all_goals first | rfl | exact hap | trivial | (rw [zaD ⟨by omega,by omega⟩];rfl)
 ·have h:¬ (j:Int)<((zaq (zaj p0 l i) (l.getD i default)).1.ns.length:Int):=of_decide_eq_false h
  have hje:j=(zaq (zaj p0 l i) (l.getD i default)).1.ns.length:=by omega
  refine ⟨trivial,?_⟩
  refine Back.up (Back.mk (i+1) (by show i+1<=l.length;omega) (by show l.length-(i+1)<l.length-i;omega) (p0:=let v0:=i+(1:Nat);let v1:=Prod.fst (zaq (zaj p0 l i) (List.getD l i default));let v2:=Play.ns v1;let v3:=zaj p0 l v0;IntKind.wrap IntKind.i64 ((↑i:Int)+(1:Int))=(↑v0:Int)/\false=false/\l=l/\Play.many v1=Play.many v3/\v2=Play.ns v3/\Play.net v1=Play.net v3/\zaC v2 (zaA p0 l i) j=zaA p0 l v0/\True) (by kernel_rfl) ?_)
  dsimp only
  refine ⟨by rw [zaD ⟨by omega,by omega⟩];rfl,rfl,rfl,by rw [hNx],by rw [hNx],by rw [hNx],?_,trivial⟩
  subst hje
  show zaC (zaq (zaj p0 l i) (l.getD i default)).1.ns (zaA p0 l i) (zaq (zaj p0 l i) (l.getD i default)).1.ns.length=zaC (zaj p0 l (i+1)).ns (zaA p0 l i) (zaj p0 l (i+1)).ns.length
  rw [hNx]
theorem zrj {w:World} {a:Option Addr} {n m:Nat} {l:List Move} (h:Sl w (fun b=>b<w.heap.size) Move.ty a n m (l.map Move.enc)):DenV (E0 fun b=>b<w.heap.size) w (.sl [0] (.rMove l)) (.slice a n m):=
 Rd.mono h fun b _ hb=>znn hb
theorem law_raftAgrees (v:Int) (a:Option Addr) (n m:Nat) (l:List Move) (w:World) (h0:I64 v) (h:Sl w (fun b=>b<w.heap.size) Move.ty a n m (l.map Move.enc)) :
  Calls Tryz.prog 3 #[.int .i64 v,.slice a n m] w fun e w'=>e = .returned (.bool true)/\Below w.heap.size w w' :=
 zpI (ziq v l) w (fun b=>b<w.heap.size) (fun _ hb=>hb) [.int .i64 v,.slice a n m] ⟨⟨rfl,zcF h0⟩,zrj h,trivial⟩
end Go.Proofs.YtkhphiahindnnaaGreat
namespace Go.Proofs.YtkhphiahindnnaaGreat
open Go.RowKit Go.ChangeShapes Go.WideShapes Go.Deep
def zo2 (P:Program) (ts:List Ty) (ok:TypeId->List Ty->Bool):Nat->List Field->Bool
 | o,[]=>o==ts.length
 | o,f::fs=>f.offset==o&&ok f.type ((ts.drop o).take (P.cellsOf f.type))&&decide (o+P.cellsOf f.type<=ts.length)&&zo2 P ts ok (o+P.cellsOf f.type) fs
def okTy (P:Program):Nat->TypeId->List Ty->Bool
 | 0,_,_=>false
 | n+1,t,ts=>match P.underlying t with
  | some (.int k)=>match ts with | [.int k']=>decide (k=k') | _=>false
  | some .bool=>match ts with | [.bool]=>true | _=>false
  | some .string=>match ts with | [.str]=>true | _=>false
  | some (.slice e)=>match ts with | [.sl fs]=>okTy P n e fs&&P.cellsOf e==fs.length&&decide (8<=P.bytesOf e)&&decide (0<fs.length) | _=>false
  | some (.struct fs)=>P.cellsOf t==ts.length&&zo2 P ts (okTy P n) 0 fs.toList
  | _=>false
theorem RdL.append {w:World} {S:Nat->Prop}:∀ {ts us:List Ty} {vs xs:List Value} {ds es:List D},RdL w S ts vs ds->RdL w S us xs es->RdL w S (ts++us) (vs++xs) (ds++es)
 | [],_,[],_,[],_,_,h=>h
 | _::ts,_,_::vs,_,_::ds,_,h,k=>⟨h.1,RdL.append (ts:=ts) (vs:=vs) (ds:=ds) h.2 k⟩
 | _::_,_,[],_,_,_,h,_=>h.elim
 | _::_,_,_::_,_,[],_,h,_=>h.elim
 | [],_,_::_,_,_,_,h,_=>h.elim
 | [],_,[],_,_::_,_,h,_=>h.elim
section
variable {H : Type} {enc : TypeId × Value -> H} {P : Program} {w : World} {base : Nat} {spare : Nat -> Bool} {held : Bool}
def zwB (P:Program) (t:TypeId) (d:DataW H):Prop:=∀ n∈d.weights P t,n<=reachBytes
theorem zlX (ok:TypeId->List Ty->Bool) (ts:List Ty) (cs:List Value) (hcl:cs.length=ts.length):∀ (fs:List Field) (o:Nat),o<=ts.length->zo2 P ts ok o fs=true ->
  (∀ f∈fs,∀ us,ok f.type us=true->∃ ds,RdL w (fun b=>b<w.heap.size) us ((cs.drop f.offset).take (P.cellsOf f.type)) ds) ->
  ∃ ds,RdL w (fun b=>b<w.heap.size) (ts.drop o) (cs.drop o) ds
 | [],o,ho,h,_=>by
  simp only [zo2,beq_iff_eq] at h
  subst h
  rw [List.drop_length,List.drop_eq_nil_of_le (by omega)]
  exact ⟨[],trivial⟩
 | f::fs,o,ho,h,hf=>by
  simp only [zo2,Bool.and_eq_true,beq_iff_eq,decide_eq_true_eq] at h
  obtain ⟨⟨⟨rfl,h2⟩,h3⟩,h4⟩:=h
  obtain ⟨d1,k1⟩:=hf f (List.mem_cons_self ..) _ h2
  obtain ⟨d2,k2⟩:=zlX ok ts cs hcl fs _ h3 h4 (fun g hg=>hf g (List.mem_cons_of_mem _ hg))
  refine ⟨d1++d2,?_⟩
  have e1:ts.drop f.offset=(ts.drop f.offset).take (P.cellsOf f.type)++ts.drop (f.offset+P.cellsOf f.type):=by
   rw [<- List.drop_drop,List.take_append_drop]
  have e2:cs.drop f.offset=(cs.drop f.offset).take (P.cellsOf f.type)++cs.drop (f.offset+P.cellsOf f.type):=by
   rw [<- List.drop_drop,List.take_append_drop]
  rw [e1,e2]
  exact RdL.append k1 k2
theorem zga {e:TypeId}:∀ {l:List (DataW H)} {d:DataW H},d∈l->∀ n∈d.weights P e,n∈DataW.weightsAll P e l
 | x::l,d,hd,n,hn=>by
  simp only [DataW.weightsAll,List.mem_append]
  rcases List.mem_cons.1 hd with h | h
  ·subst h;exact .inl hn
  ·exact .inr (zga h n hn)
theorem zfl:∀ (n:Nat) (t:TypeId) (ts:List Ty) (fuel:Nat) (cs:List Value) (x:DataW H×List MemPlace),okTy P n t ts=true->DataW.trod enc P w base spare held fuel t cs=some x->zwB P t x.1->w.noneFrozen x.2 ->
  ∃ ds,RdL w (fun b=>b<w.heap.size) ts cs ds
 | 0,_,_,_,_,_,h,_,_,_=>by simp [okTy] at h
 | n+1,t,ts,fuel,cs,x,h,ht,hw,hz=>by
  unfold okTy at h
  split at h
  ·rename_i k hu
   split at h
   ·rename_i k'
    have hk:k=k':=of_decide_eq_true h
    subst hk
    obtain ⟨m,rfl,_,hm⟩:=DataW.trod_int hu ht
    exact ⟨[.int m],.int hm,trivial⟩
   ·cases h
  ·rename_i hu
   split at h
   ·obtain ⟨b,rfl,_⟩:=DataW.trod_bool hu ht
    exact ⟨[.bool b],.bool,trivial⟩
   ·cases h
  ·rename_i hu
   split at h
   ·obtain ⟨s,rfl,rfl,_⟩:=DataW.trod_string hu ht
    have:=hw s.data.toList.length (by simp [DataW.weights])
    refine ⟨[.str s],.str ?_,trivial⟩
    have e:s.data.toList.length=s.size:=by rw [Array.length_toList];rfl
    rw [e] at this
    unfold reachBytes at this
    omega
   ·cases h
  ·rename_i e hu
   split at h
   ·rename_i fs
    simp only [Bool.and_eq_true,beq_iff_eq,decide_eq_true_eq] at h
    obtain ⟨⟨⟨h1,h2⟩,h3⟩,h4⟩:=h
    rcases open_slice hu ht with ⟨rfl,_⟩ | ⟨a,len,cap,m,n',Dd,Pl,rfl,hb,hl,hm,hmm,hx,hi⟩
    ·exact ⟨[.sl []],.emp (fun _=>rfl) (by simp [maxLen]),trivial⟩
    ·have hlm:len<=m:=by rw [hmm];split<;>omega
     have hx1:x.1 = .slice ((List.range len).map Dd) ((List.range (m-len)).map fun j=>Dd (len+j)):=by rw [hx]
     have hbd:len*8<=reachBytes:=by
      have:=hw ((((List.range len).map Dd).length+((List.range (m-len)).map fun j=>Dd (len+j)).length)*P.bytesOf e) (by rw [hx1];simp [DataW.weights,hu])
      simp only [List.length_map,List.length_range] at this
      exact Nat.le_trans (Nat.mul_le_mul (by omega) h3) this
     have each:∀ i,i<len->∃ cs' ds,w.cells? base (a.add (i*P.cellsOf e)) (P.cellsOf e)=some cs'/\RdL w (fun b=>b<w.heap.size) fs cs' ds:=by
      intro i hi'
      obtain ⟨cs',hc,htt⟩:=hi i (by omega)
      obtain ⟨ds,hd⟩:=zfl n e fs n' cs' _ h1 htt (fun q hq=>hw q (by
       rw [hx1]
       simp only [DataW.weights,hu,List.mem_cons,List.mem_append]
       exact .inr (.inl (zga (List.mem_map.2 ⟨i,List.mem_range.2 hi',rfl⟩) q hq)))) (fun b off hp=>hz b off (by
       rw [hx]
       exact List.mem_append.2 (.inr (List.mem_flatMap.2 ⟨i,List.mem_range.2 (by omega),hp⟩))))
      exact ⟨cs',ds,hc,hd⟩
     by_cases hp:0<len
     ·let C:Nat->List Value:=fun i=>if hh:i<len then Classical.choose (each i hh) else []
      let DD:Nat->List D:=fun i=>if hh:i<len then Classical.choose (Classical.choose_spec (each i hh)) else []
      have hC:∀ i,i<len->w.cells? base (a.add (i*P.cellsOf e)) (P.cellsOf e)=some (C i)/\RdL w (fun b=>b<w.heap.size) fs (C i) (DD i):=by
       intro i hh
       simp only [C,DD,hh,dif_pos]
       exact Classical.choose_spec (Classical.choose_spec (each i hh))
      have hcell:∀ i j,i<len->j<fs.length->w.cell? ((a.add (i*fs.length)).add j)=some ((C i).getD j undef):=by
       intro i j hi' hj
       obtain ⟨c1,c2⟩:=hC i hi'
       rw [h2] at c1
       obtain ⟨_,hcl,hat⟩:=World.cells?_some c1
       rw [hat j hj]
       simp [List.getD,List.getElem?_eq_getElem (show j<(C i).length by omega)]
      have h00:=hcell 0 0 hp h4
      obtain ⟨b,off,spot⟩:=a
      have hspot:spot=none:=by simpa [Addr.add] using World.cell?_spot h00
      subst hspot
      have hblk:b<w.heap.size:=by
       have:=World.block_lt_of_cell? _ _ h00
       simpa [Addr.add] using this
      refine ⟨[.sl ((List.range len).map DD)],.row (fun i j=>(C i).getD j undef) hp (by simp) hl hm (by unfold reachBytes at hbd;omega) hblk hblk (fun i j hi' hj=>?_) (fun i hi'=>?_) (fun i j hi' hj=>?_) (fun i j hi' hj=>?_),trivial⟩
      ·have:=hcell i j hi' hj
       rwa [WideShapes.add_plain,WideShapes.add_plain] at this
      ·have:=(hC i hi').2.lens.2
       simpa [List.getD,hi'] using this
      ·have:=(hC i hi').2.at j hj
       simpa [List.getD,hi'] using this
      ·refine hz b _ ?_
       rw [hx]
       refine List.mem_append.2 (.inl ?_)
       unfold MemPlace.row
       refine List.mem_map.2 ⟨i*fs.length+j,List.mem_range.2 ?_,by rw [Nat.add_assoc]⟩
       rw [h2]
       have h5:(i+1)*fs.length<=m*fs.length:=Nat.mul_le_mul_right _ (by omega)
       rw [Nat.add_mul] at h5;omega
     ·have h0:len=0:=by omega
      subst h0
      exact ⟨[.sl []],.emp (fun hh=>by cases hh) hm,trivial⟩
   ·cases h
  ·rename_i fs hu
   simp only [Bool.and_eq_true,beq_iff_eq] at h
   obtain ⟨h1,h2⟩:=h
   obtain ⟨xs,n',_,hx,hcl,hxl,hall⟩:=DataW.trod_struct hu ht
   have:=zlX (P:=P) (w:=w) (okTy P n) ts cs (by omega) fs.toList 0 (Nat.zero_le _) h2 (fun f hf us hus=>by
    obtain ⟨i,hi⟩:=List.getElem?_of_mem hf
    rw [Array.getElem?_toList] at hi
    have hilt:i<fs.size:=(Array.getElem?_eq_some_iff.1 hi).1
    have h3:=hall i f hi
    rw [List.getElem?_eq_getElem (show i<xs.length by omega)] at h3
    refine zfl n f.type us n' _ _ hus h3 (fun q hq=>hw q ?_) (fun b off hp=>hz b off (by
     rw [hx]
     exact List.mem_flatMap.2 ⟨_,List.getElem_mem (show i<xs.length by omega),hp⟩))
    rw [hx]
    simp only [DataW.weights,hu]
    refine DataW.weights_mem_each (j:=i) (t:=f.type) (d:=xs[i].1) ?_ ?_ q hq
    ·rw [List.getElem?_map,Array.getElem?_toList,hi];rfl
    ·rw [List.getElem?_map,List.getElem?_eq_getElem (show i<xs.length by omega)];rfl)
   simpa using this
  ·cases h
theorem rd_arg {t:TypeId} {ts:List Ty} {v:Value} {d:DataW H} {p:List MemPlace} (n:Nat) (hok:okTy P n t ts=true) (h:DataW.Trod enc P w base spare held t v d p) (hw:zwB P t d) (hz:w.noneFrozen p):∃ ds,RdL w (fun b=>b<w.heap.size) ts v.cells.toList ds:=by
 obtain ⟨fuel,hf⟩:=h
 exact zfl n t ts fuel _ _ hok hf hw hz
theorem light_of {tys:List TypeId} {ds:List (DataW H)} (h:(DataW.weightsEach P tys ds).all (· <= reachBytes)=true) {j:Nat} {t:TypeId} {d:DataW H} (ht:tys[j]? = some t) (hd:ds[j]? = some d):zwB P t d:=fun n hn=>by
 simpa using List.all_eq_true.1 h n (DataW.weights_mem_each ht hd n hn)
end
end Go.Proofs.YtkhphiahindnnaaGreat
