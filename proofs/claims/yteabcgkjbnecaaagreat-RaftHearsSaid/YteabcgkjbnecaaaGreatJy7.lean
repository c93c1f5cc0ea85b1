/- Parts of the proof, joined: the symbolic walk and what it is told of each function. Condition: as each theorem says. -/
import Derived.SizedLaws
import Derived.Test.YteabcgkjbnecaaaGreatJy6
set_option linter.unusedVariables false
set_option linter.unusedSimpArgs false
set_option linter.unusedSectionVars false
namespace Go.Proofs.YteabcgkjbnecaaaGreat
open Go.RowKit Go.ChangeShapes Go.WideShapes Go.Deep
set_option maxRecDepth 100000
def atJ (s:Step) (m:Message) (j:Nat):Int:=if 0≤zaK s.n.peers m.from_∧zaK s.n.peers m.from_<j then zaK s.n.peers m.from_ else -1
theorem zv0 {l:List Peer} {v:Int} (hd:(l.map (·.node)).Nodup) {j:Nat} (hj:j<l.length):(l.getD j default).node=v↔zaK l v=j:=by
 constructor
 ·intro h
  have h0:0≤zaK l v:=by
   rw [zaK,(zdt _).1,List.any_eq_true]
   exact ⟨v,by rw [← h,← zch,zbi (by simpa using hj)];exact List.getElem_mem _,by simp [isV]⟩
  have h1:=zdn l v
  have h2:isV v ((l.map (·.node)).getD (zaK l v).toNat 0)=true:=zgf _ h0
  have h3:(l.map (·.node)).getD (zaK l v).toNat 0=v:=by simpa [isV] using h2
  have hp:(zaK l v).toNat<(l.map (·.node)).length:=by rw [List.length_map];omega
  have hj2:j<(l.map (·.node)).length:=by rw [List.length_map];exact hj
  rw [← zch] at h
  rw [zbi hp] at h3
  rw [zbi hj2] at h
  have h4:=(List.getElem_inj hd (h₀:=hp) (h₁:=hj2)).1 (h3.trans h.symm)
  omega
 ·intro h
  have h2:isV v ((l.map (·.node)).getD (zaK l v).toNat 0)=true:=zgf _ (by show 0≤zaK l v;omega)
  rw [h,Int.toNat_natCast,zch] at h2
  exact beq_iff_eq.1 h2
def pAf (b ok rd:Bool) (idx rnd:Int) (q:Peer):Peer:=
 let v73:=zai rd q.node q.node
 let v74:=zai rd q.next q.next
 let v75:=zai rd q.match_ q.match_
 let v77:=zai rd (if rnd>q.round then rnd else q.round) q.round
 let v79:=if idx>v75 then idx else v75
 let v80:=IntKind.i64.wrap (v79+1)
 let v82:=zai b v79 v75
 let v83:=if v80>v74 then v80 else v74
 let v84:=zai b v83 v74
 let v87:=zac (!ok) (decide (idx<IntKind.i64.wrap (v84-1))) false
 ⟨zai v87 (zai b v73 v73) (zai b v73 v73),zai v87 (IntKind.i64.wrap ((if idx>v82 then idx else v82)+1)) v84,zai v87 v82 v82,zai v87 (zai b v77 v77) (zai b v77 v77)⟩
def agA (b ok rd:Bool) (last idx:Int) (q:Peer):Bool:=
 let v74:=zai rd q.next q.next
 let v75:=zai rd q.match_ q.match_
 let v79:=if idx>v75 then idx else v75
 let v80:=IntKind.i64.wrap (v79+1)
 zac b (decide ((if v80>v74 then v80 else v74)≤last)) (!ok)
def mixS (b:Bool) (x y:Step):Step:=
 ⟨⟨zai b x.n.id y.n.id,zai b x.n.role y.n.role,⟨zai b x.n.kept.term y.n.kept.term,zai b x.n.kept.vote y.n.kept.vote,⟨zai b x.n.kept.snap.index y.n.kept.snap.index,zai b x.n.kept.snap.term y.n.kept.snap.term,⟨if b=true then x.n.kept.snap.config.voters else y.n.kept.snap.config.voters,if b=true then x.n.kept.snap.config.learners else y.n.kept.snap.config.learners⟩,if b=true then x.n.kept.snap.data else y.n.kept.snap.data⟩,if b=true then x.n.kept.entries else y.n.kept.entries⟩,zai b x.n.commit y.n.commit,zai b x.n.lead y.n.lead,zai b x.n.elapsed y.n.elapsed,if b=true then x.n.yes else y.n.yes,if b=true then x.n.peers else y.n.peers,zai b x.n.round y.n.round,if b=true then x.n.reads else y.n.reads⟩,⟨if b=true then x.o.records else y.o.records,if b=true then x.o.messages else y.o.messages,if b=true then x.o.ready else y.o.ready,if b=true then x.o.lost else y.o.lost⟩⟩
theorem zpw (x y:Step):mixS true x y=x:=rfl
theorem zpx (x y:Step):mixS false x y=y:=rfl
def bM (s:Step) (m:Message):Bool:=zac m.ok (decide (m.index≤(zaq s.n.kept).1)) false
def iM (s:Step) (m:Message):Nat:=(atJ s m s.n.peers.length).toNat
def qM (s:Step) (m:Message):Peer:=s.n.peers.getD (iM s m) default
def pM (s:Step) (m:Message):Peer:=pAf (bM s m) m.ok (decide (m.round≤s.n.round)) m.index m.round (qM s m)
def wM (s:Step) (m:Message):Step:=⟨{s.n with peers:=s.n.peers.set (iM s m) (pM s m)},s.o⟩
def xM (s:Step) (m:Message):Step:=mixS (bM s m) (zaW (wM s m)) (wM s m)
def aM (s:Step) (m:Message):Bool:=agA (bM s m) m.ok (decide (m.round≤s.n.round)) (zaq s.n.kept).1 m.index (qM s m)
theorem zfj {α:Type}:∀ (l:List α) (i:Nat) (a b:α),(l.set i a).set i b=l.set i b
 | [],_,_,_=>rfl
 | _::_,0,_,_=>rfl
 | x::l,i+1,a,b=>by simp only [List.set_cons_succ,zfj l i a b]
theorem ziP {α:Type} {l:List α} {i:Nat} {d:α} (h:i<l.length):l.set i (l.getD i d)=l:=by
 rw [zbi h,List.set_getElem_self]
theorem zec {α:Type} {l:List α} {i:Nat} {a d:α} (h:i<l.length):(l.set i a).getD i d=a:=by
 rw [zbi (by rw [List.length_set];exact h),List.getElem_set_self]
def rdP (rd:Bool) (rnd:Int) (p:Peer):Peer:=⟨p.node,p.next,p.match_,if rd=true then (if rnd>p.round then rnd else p.round) else p.round⟩
theorem zpf {s:Step} {m:Message} (h:atM s m<s.n.peers.length):zbL s m=s.n.peers.set (atM s m) (rdP (decide (m.round≤s.n.round)) m.round (s.n.peers.getD (atM s m) default)):=by
 unfold zbL
 by_cases g:decide (m.round≤s.n.round)=true
 ·rw [if_pos g,g];rfl
 ·have g2:decide (m.round≤s.n.round)=false:=by simpa using g
  rw [if_neg g,g2]
  exact (ziP h).symm
theorem pAf_t (rd:Bool) (idx rnd:Int) (q:Peer):pAf true true rd idx rnd q=(fun r:Peer=>(⟨r.node,if IntKind.i64.wrap (r.match_+1)>r.next then IntKind.i64.wrap (r.match_+1) else r.next,r.match_,r.round⟩:Peer)) ((fun r:Peer=>(⟨r.node,r.next,if idx>r.match_ then idx else r.match_,r.round⟩:Peer)) (rdP rd rnd q)):=by cases rd<;>rfl
theorem pAf_o (rd:Bool) (idx rnd:Int) (q:Peer):pAf false true rd idx rnd q=rdP rd rnd q:=by cases rd<;>rfl
theorem pAf_n {rd:Bool} {idx rnd last:Int} {q:Peer} (hi:I64 idx) (h0:0≤q.match_) (h1:q.match_<q.next) (h2:q.next≤1000000000) :
  pAf false false rd idx rnd q=(fun r:Peer=>(⟨r.node,if IntKind.i64.wrap ((if idx<IntKind.i64.wrap (r.next-1) then idx else IntKind.i64.wrap (r.next-1))+1)>IntKind.i64.wrap (r.match_+1) then IntKind.i64.wrap ((if idx<IntKind.i64.wrap (r.next-1) then idx else IntKind.i64.wrap (r.next-1))+1) else IntKind.i64.wrap (r.match_+1),r.match_,r.round⟩:Peer)) (rdP rd rnd q):=by
 have e1:IntKind.i64.wrap (q.next-1)=q.next-1:=zb3 ⟨by omega,by omega⟩
 have e2:IntKind.i64.wrap (q.match_+1)=q.match_+1:=zb3 ⟨by omega,by omega⟩
 have l1:=hi.1
 have l2:=hi.2
 have key:zai (decide (idx<q.next-1)) (IntKind.i64.wrap ((if idx>q.match_ then idx else q.match_)+1)) q.next=if IntKind.i64.wrap ((if idx<q.next-1 then idx else q.next-1)+1)>q.match_+1 then IntKind.i64.wrap ((if idx<q.next-1 then idx else q.next-1)+1) else q.match_+1:=by
  by_cases g:idx<q.next-1
  ·have e3:IntKind.i64.wrap (idx+1)=idx+1:=zb3 ⟨by omega,by omega⟩
   rw [decide_eq_true g,if_pos g,e3]
   show IntKind.i64.wrap _=_
   by_cases g2:idx>q.match_
   ·rw [if_pos g2,e3,if_pos (by omega)]
   ·rw [if_neg g2,e2,if_neg (by omega)]
  ·have e3:IntKind.i64.wrap (q.next-1+1)=q.next:=by rw [zb3 ⟨by omega,by omega⟩];omega
   rw [decide_eq_false g,if_neg g,e3]
   show q.next=_
   by_cases g2:q.next>q.match_+1
   ·rw [if_pos g2]
   ·rw [if_neg g2];omega
 have eP:pAf false false rd idx rnd q=⟨q.node,zai (decide (idx<IntKind.i64.wrap (q.next-1))) (IntKind.i64.wrap ((if idx>q.match_ then idx else q.match_)+1)) q.next,q.match_,(rdP rd rnd q).round⟩:=by
  unfold pAf
  simp only [zaU]
  cases rd<;>rfl
 rw [eP,e1,key]
 simp only [rdP,e1,e2]
theorem zlr {s:Step} {m:Message} (hi:I64 m.index) (hg:LogG s.n.kept) (hp:s.n.role=4→∀ p∈s.n.peers,zcr (zaq s.n.kept).1 s.n.round p=true∧I64 p.next) (hs:zfd s m=false):zax s m=if aM s m=true then zaF (toS (xM s m) (pM s m)) else zaF (xM s m):=by
 have h0:0≤zaK s.n.peers m.from_:=by
  unfold zfd at hs
  simp only [Bool.or_eq_false_iff,decide_eq_false_iff_not] at hs
  omega
 have h4:s.n.role=4:=by
  unfold zfd at hs
  simp only [Bool.or_eq_false_iff] at hs
  exact bne_f hs.1.1
 have hlt:=zdn s.n.peers m.from_
 have eI:iM s m=atM s m:=by
  unfold iM atJ atM
  rw [if_pos ⟨h0,hlt⟩]
 have hat:atM s m<s.n.peers.length:=by unfold atM;omega
 have eR:=zpf (s:=s) (m:=m) hat
 have hR:atM s m<(zbL s m).length:=by rw [zby];exact hat
 have gR:(zbL s m).getD (atM s m) default=rdP (decide (m.round≤s.n.round)) m.round (qM s m):=by rw [eR,zec hat,qM,eI]
 have hB:bM s m=(m.ok&&decide (m.index≤(zaq s.n.kept).1)):=by rw [bM,zaf]
 rw [zax,if_neg (by rw [hs];decide)]
 cases hok:m.ok
 ·have hb:bM s m=false:=by rw [hB,hok];rfl
  have hq:=hp h4 (qM s m) (by rw [qM,eI];exact za4 hat)
  obtain ⟨hpb,hnx⟩:=hq
  have hlast:(zaq s.n.kept).1≤900001000:=by rw [zbe hg.1];exact hg.2.1
  unfold zcr at hpb
  simp only [Bool.and_eq_true,decide_eq_true_eq,wi_iff] at hpb
  obtain ⟨⟨⟨⟨a1,a2⟩,a3⟩,a4⟩,a5⟩:=hpb
  have l1:=hnx.1
  have l2:=hnx.2
  have a6:(qM s m).next≤1000000000:=by
   rw [zb3 ⟨by omega,by omega⟩] at a4;omega
  have eP:pM s m=(fun r:Peer=>(⟨r.node,if zsM m r>IntKind.i64.wrap (r.match_+1) then zsM m r else IntKind.i64.wrap (r.match_+1),r.match_,r.round⟩:Peer)) (rdP (decide (m.round≤s.n.round)) m.round (qM s m)):=by
   rw [pM,hb,hok]
   exact pAf_n (last:=0) hi a1 a3 a6
  have eN:zcf s m=s.n.peers.set (iM s m) (pM s m):=by
   rw [zcf,setP,gR,eP,eR,zfj,eI]
  have eA:aM s m=true:=by rw [aM,hb,hok];rfl
  have eX:xM s m=withP s (zcf s m):=by rw [xM,hb,zpx,eN];rfl
  have eG:(zcf s m).getD (atM s m) default=pM s m:=by rw [eN,eI,zec hat]
  rw [if_neg (by rw [Bool.false_and];decide),if_neg (by decide),if_pos eA,eX,eG]
 ·by_cases hl:m.index≤(zaq s.n.kept).1
  ·have hb:bM s m=true:=by rw [hB,hok,decide_eq_true hl];rfl
   have eP:pM s m=(fun r:Peer=>(⟨r.node,if IntKind.i64.wrap (r.match_+1)>r.next then IntKind.i64.wrap (r.match_+1) else r.next,r.match_,r.round⟩:Peer)) ((fun q:Peer=>(⟨q.node,q.next,if m.index>q.match_ then m.index else q.match_,q.round⟩:Peer)) (rdP (decide (m.round≤s.n.round)) m.round (qM s m))):=by
    rw [pM,hb,hok];exact pAf_t _ _ _ _
   have eM:(zeR s m).getD (atM s m) default=(fun q:Peer=>(⟨q.node,q.next,if m.index>q.match_ then m.index else q.match_,q.round⟩:Peer)) (rdP (decide (m.round≤s.n.round)) m.round (qM s m)):=by
    rw [zeR,setP,zec hR,gR]
   have eO:zeQ s m=s.n.peers.set (iM s m) (pM s m):=by
    have e7:zeQ s m=(zeR s m).set (atM s m) (pM s m):=by rw [eP,← eM];rfl
    rw [e7,zeR,setP,zfj,eR,zfj,eI]
   have eW:withP s (zeQ s m)=wM s m:=by rw [eO];rfl
   have eX:xM s m=zbp s m:=by rw [xM,hb,zpw,zbp,eW]
   have hcp:(zbp s m).n.peers=(wM s m).n.peers:=by
    rw [zbp,eW];unfold zaW;split<;>rfl
   have hck:(zbp s m).n.kept=s.n.kept:=by
    rw [zbp,eW];unfold zaW;split<;>rfl
   have eG:nowP s m=pM s m:=by
    rw [nowP,hcp]
    show (s.n.peers.set (iM s m) (pM s m)).getD (atM s m) default=_
    rw [eI,zec hat]
   have eA:aM s m=decide ((pM s m).next≤(zaq s.n.kept).1):=by
    rw [aM,hb,hok,eP]
    show zac true _ _=_
    cases decide (m.round≤s.n.round)<;>rfl
   rw [if_pos (by rw [decide_eq_true hl];rfl),eX,eG,hck,eA]
   by_cases g:(pM s m).next≤(zaq s.n.kept).1
   ·rw [if_pos g,if_pos (decide_eq_true g)]
   ·rw [if_neg g,if_neg (by rw [decide_eq_false g];decide)]
  ·have hb:bM s m=false:=by rw [hB,hok,decide_eq_false hl];rfl
   have eP:pM s m=rdP (decide (m.round≤s.n.round)) m.round (qM s m):=by rw [pM,hb,hok];exact pAf_o _ _ _ _
   have eX:xM s m=withP s (zbL s m):=by
    have e9:zbL s m=s.n.peers.set (iM s m) (pM s m):=by rw [eP,eR,qM,eI]
    rw [xM,hb,zpx,e9];rfl
   have eA:aM s m=false:=by rw [aM,hb,hok];rfl
   rw [if_neg (by rw [decide_eq_false hl];decide),if_pos rfl,eX,if_neg (by rw [eA];decide)]
theorem zwG (s:Step) (m:Message):decide (atJ s m s.n.peers.length<0)=decide (zaK s.n.peers m.from_<0):=by
 have h:=zdn s.n.peers m.from_
 unfold atJ
 by_cases g:0≤zaK s.n.peers m.from_
 ·rw [if_pos ⟨g,h⟩]
 ·rw [if_neg (fun a=>g a.1),Bool.eq_iff_iff,decide_eq_true_eq,decide_eq_true_eq];omega
theorem ztV {s:Step} {m:Message} (hd:(s.n.peers.map (·.node)).Nodup) {j:Nat} (hj:j<s.n.peers.length):zai ((s.n.peers.getD j default).node==m.from_) (j:Int) (atJ s m j)=atJ s m (j+1):=by
 have h:=zv0 hd hj (v:=m.from_)
 have h0:=(zdt (p:=isV m.from_) (s.n.peers.map (·.node))).2
 have h0 : -1≤zaK s.n.peers m.from_:=h0
 unfold atJ
 by_cases g:(s.n.peers.getD j default).node=m.from_
 ·have e:=h.1 g
  rw [beq_iff_eq.2 g]
  show (j:Int)=_
  rw [if_pos ⟨by omega,by omega⟩,e]
 ·have e:¬ zaK s.n.peers m.from_=j:=fun a=>g (h.2 a)
  rw [beq_eq_false_iff_ne.2 g,show ∀ a b:Int,zai false a b=b from fun _ _=>rfl]
  by_cases g2:0≤zaK s.n.peers m.from_∧zaK s.n.peers m.from_<j
  ·rw [if_pos g2,if_pos ⟨g2.1,by omega⟩]
  ·rw [if_neg g2,if_neg (fun a=>g2 ⟨a.1,by omega⟩)]
noncomputable def tabRm:List Ent:=[zcF,zkU,eRTo,zq5]
theorem zl6:∀ e∈tabRm,zae Tryz.prog e:=zaa zbc (zaa zho (zaa zkP (zaa znA zad)))
set_option maxHeartbeats 4000000 in
theorem zlq (s:Step) (m:Message) (hf:Few 30000 s) (hy:s.o.ready.length≤9000) (hd:(s.n.peers.map (·.node)).Nodup) (hi:I64 m.index) (hg:LogG s.n.kept) (hp:s.n.role=4→∀ p∈s.n.peers,zcr (zaq s.n.kept).1 s.n.round p=true∧I64 p.next):FnG Tryz.prog 160 3 (sMi 125 s) [.ptr 2 0,dMessage.L.can m] (.tup []) (sMo 125 (zax s m)):=by
 obtain ⟨M,hM⟩:∃ M,zax s m=M:=⟨_,rfl⟩
 rw [hM]
 refine FnG.of_vc (zah zl6 fun _=>none) Tryz.func160 rfl (by decide) rfl 300 (p:=fun (V:List PE→Prop)=>True∧True∧True∧V []) (by kernel_rfl) ?_
 obtain ⟨b1,b2,b3,b4,b5⟩:=(hf.sn (by decide)).ls
 obtain ⟨c1,c2,c3,c4⟩:=(hf.so (by decide)).ls
 simp only [qN0,qN6,qO14,true_and]
 refine LoopG.head (zah zl6 fun _=>none) 0 (A:=Nat) (fun j=>j≤s.n.peers.length) (fun j=>[(5,.int .i64 j),(4,.int .i64 (atJ s m j))]) (fun j=>[]) (fun j=>s.n.peers.length-j) 0 (Nat.zero_le _) (p0:=let v0:=m.snap;let v1:=Message.logTerm m;let v7:=v0.config;(0:Int)=(↑(0:Nat):Int)∧(-1:Int)=atJ s m (0:Nat)∧m.kind=m.kind∧m.from_=m.from_∧m.to_=m.to_∧m.term=m.term∧m.index=m.index∧v1=v1∧m.entries=m.entries∧m.commit=m.commit∧m.round=m.round∧m.ok=m.ok∧v0.index=v0.index∧v0.term=v0.term∧v7.voters=v7.voters∧v7.learners=v7.learners∧v0.data=v0.data∧m.ask=m.ask∧m.seq=m.seq∧m.data=m.data∧qN0 s.n s.n (qN6 s.n s.n (qO14 s.o s.o (s.o.lost=s.o.lost∧True)))) (by kernel_rfl) ?_ 300 (p:=fun (x:Nat) (V:List PE→Prop)=>let v2:=m.index;let v3:=s.n;let v6:=m.ok;let v11:=v3.kept;let v25:=!v6;let v40:=(↑x:Int);let v44:=v11.snap;let v45:=atJ s m x;let v46:=Int.toNat v45;let v50:=v3.peers.length;let v56:=(0:Int);let v61:=Prod.fst (zaq v11);let v62:=(↑v50:Int);let v63:=List.getD v3.peers v46 default;let v64:=v3.role != 4;let v69:=decide (m.round≤v3.round);let v70:=zac v64 true (m.term != v11.term);let v71:=zac v6 (decide (v2≤v61)) false;let v72:=decide (v40<v62);let v73:=zai v69 v63.node v63.node;let v74:=zai v69 v63.match_ v63.match_;let v75:=zai v69 v63.next v63.next;let v76:=zac v70 true (decide (v45<v56));let v77:=zai v69 (if m.round>v63.round then m.round else v63.round) v63.round;let v78:=zai v71 v73 v73;let v79:=if v2>v74 then v2 else v74;let v80:=IntKind.wrap IntKind.i64 (v79+(1:Int));let v81:=zai v71 v77 v77;let v82:=zai v71 v79 v74;let v83:=if v80>v75 then v80 else v75;let v84:=zai v71 v83 v75;let v86:=zac v71 (decide (v83≤v61)) v25;let v87:=zac v25 (decide (v2<(IntKind.wrap IntKind.i64 (v84-(1:Int))))) false;let v88:=Peer.mk (zai v87 v78 v78) (zai v87 (IntKind.wrap IntKind.i64 ((if v2>v82 then v2 else v82)+(1:Int))) v84) (zai v87 v82 v82) (zai v87 v81 v81);let v89:=List.set v3.peers v46 v88;let v90:=Node.mk v3.id v3.role v11 v3.commit v3.lead v3.elapsed v3.yes v89 v3.round v3.reads;let v91:=zaW (Step.mk v90 s.o);let v92:=v91.n;let v94:=v92.kept;let v95:=v94.snap;let v97:=if v71=true then v91.o.messages else s.o.messages;let v98:=if v71=true then v91.o.ready else s.o.ready;let v99:=if v71=true then v92.reads else v3.reads;let v100:=if v71=true then v92.peers else v89;let v101:=Out.mk (if v71=true then v91.o.records else s.o.records) v97 v98 (if v71=true then v91.o.lost else s.o.lost);let v102:=Node.mk (zai v71 v92.id v3.id) (zai v71 v92.role v3.role) (Kept.mk (zai v71 v94.term v11.term) (zai v71 v94.vote v11.vote) (Snap.mk (zai v71 v95.index v44.index) (zai v71 v95.term v44.term) (Config.mk (if v71=true then v95.config.voters else v44.config.voters) (if v71=true then v95.config.learners else v44.config.learners)) (if v71=true then v95.data else v44.data)) (if v71=true then v94.entries else v11.entries)) (zai v71 v92.commit v3.commit) (zai v71 v92.lead v3.lead) (zai v71 v92.elapsed v3.elapsed) (if v71=true then v92.yes else v3.yes) v100 (zai v71 v92.round v3.round) v99;let v104:=zaF (Step.mk v102 v101);let v110:=toS (Step.mk v102 v101) v88;let v112:=zaF v110;True∧True∧(v72=true→(v56≤v40∧v40<v62∧x<v50∧True)∧True∧True∧V [PE.a])∧(v72=false→(((!v64)=true→(!v64)=true)∧((!v64)=true→(!v64)=true)∧((!v64)=true→(!v64)=true)∧((!v64)=true→(!v64)=true)∧((!v64)=true→(!v64)=true)∧((!v64)=true→(!v64)=true)∧((!v64)=true→(!v64)=true)∧((!v64)=true→(!v64)=true)∧(v64=false→(!v64)=true)∧((!v70)=true→(!v70)=true)∧(v70=false→(!v70)=true)∧True)∧True∧(v76=true→qN0 v3 (Step.n M) (qN6 v3 (Step.n M) (qO14 s.o (Step.o M) (s.o.lost=(Out.lost (Step.o M))∧True))))∧(v76=false→True∧(v56≤v45∧v45<v62∧v46<v50∧True)∧True∧True∧True∧((v6=true→v6=true)∧(v6=true→v6=true)∧(v6=true→v6=true)∧(v6=true→v6=true)∧True)∧True∧((v25=true→v25=true)∧(v25=true→v25=true)∧(v25=true→v25=true)∧(v25=true→v25=true)∧(v25=true→v25=true)∧(v25=true→v25=true)∧True)∧True∧(v56≤v45∧v45<v62∧v46<v50∧True)∧((v6=true→v6=true)∧(v6=true→v6=true)∧(v6=true→v6=true)∧(v6=true→v6=true)∧True)∧((v71=true→SmallN v90)∧(v71=true→SmallO s.o)∧(v71=true→List.length (Config.voters (zav v90))≤4000)∧(v71=true→List.Nodup (List.map (fun (x:Peer)=>x.node) v89))∧True)∧True∧True∧(v86=true→(SmallN v102∧v97.length≤1000000∧True)∧(SmallN v110.n∧SmallO v110.o∧v110.o.ready.length≤10000∧v110.n.reads.length≤10000∧v110.n.peers.length≤10000∧True)∧qN0 v112.n (Step.n M) (qN6 v112.n (Step.n M) (qO14 v112.o (Step.o M) (v112.o.lost=(Out.lost (Step.o M))∧True))))∧(v86=false→(SmallN v102∧SmallO v101∧v98.length≤10000∧v99.length≤10000∧v100.length≤10000∧True)∧qN0 v104.n (Step.n M) (qN6 v104.n (Step.n M) (qO14 v104.o (Step.o M) (v104.o.lost=(Out.lost (Step.o M))∧True))))))) (by intro x;kernel_rfl) ?_
 ·have e0:(-1:Int)=atJ s m 0:=by unfold atJ;rw [if_neg (by omega)]
  intros
  repeat' apply And.intro
  all_goals first | trivial | rfl | exact e0
 rintro j hj
 have hln:∀ {b:Bool},decide ((j:Int)<(s.n.peers.length:Int))=b→decide ((j:Int)<(s.n.peers.length:Int))=b:=fun h=>h
 intros
 refine ⟨trivial,trivial,fun h6=>⟨⟨Int.natCast_nonneg _,of_decide_eq_true (hln h6),by have h7:=of_decide_eq_true (hln h6);show j<s.n.peers.length;omega,trivial⟩,trivial,trivial,?_⟩,fun h6=>?_⟩
 ·have h7:j<s.n.peers.length:=by have h7:=of_decide_eq_true (hln h6);omega
  have eJ:IntKind.i64.wrap ((j:Int)+1)=((j+1:Nat):Int):=za8 (by omega)
  have eS:=ztV (m:=m) hd h7
  refine Back.mk (j+1) (by show j+1≤_;omega) (by show _-(j+1)<_-j;omega) (p0:=let v0:=m.snap;let v1:=Message.logTerm m;let v16:=v0.config;IntKind.wrap IntKind.i64 ((↑j:Int)+(1:Int))=(↑(j+(1:Nat)):Int)∧zai (Peer.node (List.getD s.n.peers j default)==m.from_) (↑j:Int) (atJ s m j)=atJ s m (j+(1:Nat))∧m.kind=m.kind∧m.from_=m.from_∧m.to_=m.to_∧m.term=m.term∧m.index=m.index∧v1=v1∧m.entries=m.entries∧m.commit=m.commit∧m.round=m.round∧m.ok=m.ok∧v0.index=v0.index∧v0.term=v0.term∧v16.voters=v16.voters∧v16.learners=v16.learners∧v0.data=v0.data∧m.ask=m.ask∧m.seq=m.seq∧m.data=m.data∧qN0 s.n s.n (qN6 s.n s.n (qO14 s.o s.o (s.o.lost=s.o.lost∧True)))) (by kernel_rfl) ?_
  intros
  repeat' apply And.intro
  all_goals first | trivial | rfl | exact eJ | exact eS
 ·have h7:j=s.n.peers.length:=by have h7:=of_decide_eq_false (hln h6);omega
  subst h7
  have hsk:zac (zac (s.n.role != 4) true (m.term != s.n.kept.term)) true (decide (atJ s m s.n.peers.length<0))=zfd s m:=by rw [zwG];exact zkz s m
  refine ⟨⟨fun h=>h,fun h=>h,fun h=>h,fun h=>h,fun h=>h,fun h=>h,fun h=>h,fun h=>h,fun h=>(by rw [h];rfl),fun h=>h,fun h=>(by rw [h];rfl),trivial⟩,trivial,fun h=>?_,fun h=>?_⟩
  ·have h:zfd s m=true:=hsk.symm.trans h
   have e:M=s:=by rw [← hM,zax,if_pos h]
   subst e
   repeat' apply And.intro
   all_goals first | trivial | rfl | assumption
  ·have h:zfd s m=false:=hsk.symm.trans h
   have h0:0≤zaK s.n.peers m.from_:=by
    unfold zfd at h
    simp only [Bool.or_eq_false_iff,decide_eq_false_iff_not] at h
    omega
   have hlt:=zdn s.n.peers m.from_
   have eA:atJ s m s.n.peers.length=zaK s.n.peers m.from_:=by unfold atJ;rw [if_pos ⟨h0,hlt⟩]
   have g1:0≤atJ s m s.n.peers.length:=by omega
   have g2:atJ s m s.n.peers.length<(s.n.peers.length:Int):=by omega
   have g3:(atJ s m s.n.peers.length).toNat<s.n.peers.length:=by omega
   have eM:=zlr hi hg hp h
   rw [hM] at eM
   have k0:Few 30000 (wM s m):=hf.withP (l:=s.n.peers.set (iM s m) (pM s m)) (by rw [List.length_set];exact hf.peers)
   have k1:Few 30000 (xM s m):=by
    unfold xM
    cases bM s m
    ·rw [zpx];exact k0
    ·rw [zpw];exact k0.count
   have k2:Few 30001 (toS (xM s m) (pM s m)):=k1.send _
   have hr0:∀ b:Bool,(mixS b (zaW (wM s m)) (wM s m)).o.ready=s.o.ready:=fun b=>by
    cases b
    ·rfl
    ·rw [zpw,zmM];rfl
   have hr1:(xM s m).o.ready.length≤10000:=by unfold xM;rw [hr0];omega
   have hnd:(((s.n.peers.set (iM s m) (pM s m))).map (·.node)).Nodup:=by
    have e5:(pM s m).node=(qM s m).node:=by
     unfold pM pAf
     simp only [zaU]
    rw [List.map_set,e5,qM,← zch,ziP (by rw [List.length_map];exact g3)]
    exact hd
   refine ⟨trivial,⟨g1,g2,g3,trivial⟩,trivial,trivial,trivial,⟨fun h=>h,fun h=>h,fun h=>h,fun h=>h,trivial⟩,trivial,⟨fun h=>h,fun h=>h,fun h=>h,fun h=>h,fun h=>h,fun h=>h,trivial⟩,trivial,⟨g1,g2,g3,trivial⟩,⟨fun h=>h,fun h=>h,fun h=>h,fun h=>h,trivial⟩,⟨fun _=>k0.sn (by decide),fun _=>k0.so (by decide),fun _=>k0.cf.1,fun _=>hnd,trivial⟩,trivial,trivial,fun h3=>?_,fun h3=>?_⟩
   ·have e:M=zaF (toS (xM s m) (pM s m)):=by rw [eM];exact if_pos h3
    have k3:=k2.answer
    obtain ⟨y1,y2,y3,y4,y5⟩:=(k3.sn (by decide)).ls
    obtain ⟨z1,z2,z3,z4⟩:=(k3.so (by decide)).ls
    subst e
    refine ⟨⟨k1.sn (by decide),Nat.le_trans k1.messages (by decide),trivial⟩,⟨k2.sn (by decide),k2.so (by decide),hr1,Nat.le_trans k2.reads (by decide),Nat.le_trans k2.peers (by decide),trivial⟩,?_⟩
    repeat' apply And.intro
    all_goals first | trivial | rfl | assumption
   ·have e:M=zaF (xM s m):=by rw [eM];exact if_neg (fun a=>absurd (h3.symm.trans a) (by decide))
    have k3:=k1.answer
    obtain ⟨y1,y2,y3,y4,y5⟩:=(k3.sn (by decide)).ls
    obtain ⟨z1,z2,z3,z4⟩:=(k3.so (by decide)).ls
    subst e
    refine ⟨⟨k1.sn (by decide),k1.so (by decide),hr1,Nat.le_trans k1.reads (by decide),Nat.le_trans k1.peers (by decide),trivial⟩,?_⟩
    repeat' apply And.intro
    all_goals first | trivial | rfl | assumption
def zuC:Ent:=zbs 160 3 mSt dMessage.L vrS [1,0] glS fun s m=>([Few 30000 s,s.o.ready.length≤9000,(s.n.peers.map (·.node)).Nodup,I64 m.index,LogG s.n.kept,s.n.role=4→∀ p∈s.n.peers,zcr (zaq s.n.kept).1 s.n.round p=true∧I64 p.next],.tup [],sMo 125 (zax s m))
theorem zqM:zae Tryz.prog zuC:=za2 (fnB Tryz.func160 (by decide) rfl) fun s m h=>zlq s m (h _ (by simp)) (h _ (by simp)) (h _ (by simp)) (h _ (by simp)) (h _ (by simp)) (h _ (by simp))
theorem zod {x:Int} (h:I64 x):wi 4 (IntKind.i64.wrap (x-1))=(decide (1≤x)&&decide (x≤5)):=by
 rw [Bool.eq_iff_iff,zoa h,Bool.and_eq_true,decide_eq_true_eq,decide_eq_true_eq]
theorem zoe {x:Int} (hx:I64 x):wi 899999999 (IntKind.i64.wrap (x-1))=(decide (1≤x)&&decide (x≤900000000)):=by
 have h1:=hx.1
 have h2:=hx.2
 rw [Bool.eq_iff_iff,wi_iff,Bool.and_eq_true,decide_eq_true_eq,decide_eq_true_eq,IntKind.wrap_i64];omega
theorem zvI (n:Node) (m:Message) (hf:I64 m.from_) (ht:I64 m.term):(m.to_ != n.id||m.from_==n.id||decide (m.from_<1)||decide (m.from_>5)||decide (m.kind<1)||decide (m.kind>7)||decide (m.term<1)||decide (m.term>900000000))=!zeD n m:=by
 have e1:∀ a b:Int,decide (a<b)=!decide (b≤a):=fun a b=>by rw [Bool.eq_iff_iff];simp
 have e2:∀ a b:Int,decide (a>b)=!decide (a≤b):=fun a b=>by rw [Bool.eq_iff_iff];simp
 rw [zeD,zod hf,zoe ht]
 simp only [e1,e2,bne]
 generalize decide (1≤m.kind)=x1
 generalize decide (m.kind≤7)=x2
 generalize (m.to_==n.id)=x3
 generalize (m.from_==n.id)=x4
 generalize decide (1≤m.from_)=x5
 generalize decide (m.from_≤5)=x6
 generalize decide (1≤m.term)=x7
 generalize decide (m.term≤900000000)=x8
 cases x1<;>cases x2<;>cases x3<;>cases x4<;>cases x5<;>cases x6<;>cases x7<;>cases x8<;>rfl
theorem zsX (n:Node) (m:Message):FnC Tryz.prog 154 [dNode.can n,dMessage.can m] (.bool (mayM n m)) D2:=by
 refine FnC.g2 dNode dMessage n m (fnB Tryz.func154 (by decide) rfl) fun hno hmo=>?_
 refine FnG.of_vc (zah (zaa zft zad) fun _=>none) Tryz.func154 rfl (by decide) rfl 300 (p:=fun (V:List PE→Prop)=>let v2:=m.kind;let v3:=m.snap.index;let v4:=(1:Int);let v5:=(900000000:Int);let v6:=m.to_ != n.id;let v7:=v2 != 7;let v8:=v2==5;let v9:=!v7;let v10:=zac v6 true (m.from_==n.id);let v11:=decide (v3≥v4);let v12:=zac v10 true (decide (m.from_<v4));let v13:=zac v11 (decide (v3≤v5)) false;let v14:=zac v12 true (decide (m.from_>5));let v15:=zac v14 true (decide (v2<v4));let v16:=zac v15 true (decide (v2>7));let v17:=zac v16 true (decide (m.term<v4));let v18:=zac v17 true (decide (m.term>v5));True∧(((!v6)=true→(!v6)=true)∧((!v6)=true→(!v6)=true)∧((!v6)=true→(!v6)=true)∧((!v6)=true→(!v6)=true)∧(v6=false→(!v6)=true)∧((!v10)=true→(!v10)=true)∧((!v10)=true→(!v10)=true)∧(v10=false→(!v10)=true)∧((!v12)=true→(!v12)=true)∧((!v12)=true→(!v12)=true)∧(v12=false→(!v12)=true)∧((!v14)=true→(!v14)=true)∧((!v14)=true→(!v14)=true)∧(v14=false→(!v14)=true)∧((!v15)=true→(!v15)=true)∧((!v15)=true→(!v15)=true)∧(v15=false→(!v15)=true)∧((!v16)=true→(!v16)=true)∧((!v16)=true→(!v16)=true)∧(v16=false→(!v16)=true)∧((!v17)=true→(!v17)=true)∧((!v17)=true→(!v17)=true)∧(v17=false→(!v17)=true)∧True)∧True∧(v18=true→True∧false=mayM n m∧True)∧(v18=false→True∧True∧(v8=true→True∧V [PE.b,PE.a])∧(v8=false→((v9=true→v9=true)∧(v9=true→v9=true)∧(v9=true→v9=true)∧(v9=true→v9=true)∧((v9&&v11)=true→(v9&&v11)=true)∧((v9&&v11)=true→(v9&&v11)=true)∧((v9&&v11)=true→(v9&&v11)=true)∧(v9=true→v9=true)∧(v9=true→v11=true→(v9&&v11)=true)∧(v9=true→v9=true)∧((v9&&v13)=true→(v9&&v13)=true)∧((v9&&v13)=true→(v9&&v13)=true)∧((v9&&v13)=true→(v9&&v13)=true)∧(v9=true→v9=true)∧(v9=true→v13=true→(v9&&v13)=true)∧(v7=false→v9=true)∧True)∧zac v7 true (zac v13 (mayC m.snap.config) false)=mayM n m∧True))) (by kernel_rfl) ?_
 have hH:=zvI n m hmo.from_ hmo.term
 have hml:=hmo.entries.1
 obtain ⟨B,hB⟩:∃ B,mayM n m=B:=⟨_,rfl⟩
 rw [hB]
 simp only [imp_self,implies_true,true_and,and_true,zaf,zag,notF]
 rw [hH]
 refine ⟨fun h=>?_,fun h=>⟨fun h5=>?_,fun h5=>⟨⟨fun a b=>by rw [a,b];rfl,fun a b=>by rw [a,b];rfl⟩,?_⟩⟩⟩
 ·have h:zeD n m=false:=by simpa using h
  rw [← hB,mayM,h];rfl
 ·have h:zeD n m=true:=by simpa using h
  have h5:m.kind=5:=beq_iff_eq.1 h5
  have eB:B=zff m:=by rw [← hB,mayM,h,zlo,if_neg (by rw [h5];decide),if_pos h5];rfl
  rw [eB]
  refine LoopG.head (zah (zaa zft zad) fun _=>none) 0 (A:=Nat) (fun i=>i≤m.entries.length∧i≤9∧∀ k,k<i→okE m k=true) (fun i=>[(5,.int .i64 i)]) (fun i=>[]) (fun i=>m.entries.length-i) 0 ⟨Nat.zero_le _,by decide,fun k hk=>absurd hk (by omega)⟩ (p0:=let v0:=m.snap;let v1:=Message.logTerm m;let v6:=v0.config;(0:Int)=(↑(0:Nat):Int)∧m.kind=m.kind∧m.from_=m.from_∧m.to_=m.to_∧m.term=m.term∧m.index=m.index∧v1=v1∧m.entries=m.entries∧m.commit=m.commit∧m.round=m.round∧m.ok=m.ok∧v0.index=v0.index∧v0.term=v0.term∧v6.voters=v6.voters∧v6.learners=v6.learners∧v0.data=v0.data∧m.ask=m.ask∧m.seq=m.seq∧m.data=m.data∧True) (by kernel_rfl) ?_ 300 (p:=fun (x:Nat) (V:List PE→Prop)=>let v2:=(↑x:Int);let v3:=(8:Int);let v4:=(↑(m.entries.length):Int);let v5:=List.getD m.entries x default;let v7:=v5.kind==2;let v8:=decide (v5.index≤m.index);let v9:=decide (v2<v4);let v10:=zac v9 (decide (v2≤v3)) false;let v11:=zac v8 true (IntKind.wrap IntKind.i64 (IntKind.wrap IntKind.i64 (v5.index-(1:Int))-v2) != m.index);let v12:=!v11;let v13:=zac v11 true (zac v7 (!mayC v5.config) false);((v9=true→v9=true)∧(v9=true→v9=true)∧True)∧True∧(v10=true→((0:Int)≤v2∧v2<v4∧True)∧(((!v8)=true→(!v8)=true)∧((!v8)=true→(!v8)=true)∧((!v8)=true→(!v8)=true)∧((!v8)=true→(!v8)=true)∧((!v8)=true→(!v8)=true)∧((!v8)=true→(!v8)=true)∧((!v8)=true→(!v8)=true)∧(v8=false→(!v8)=true)∧(v12=true→v12=true)∧(v12=true→v12=true)∧(v12=true→v12=true)∧((v12&&v7)=true→(v12&&v7)=true)∧((v12&&v7)=true→(v12&&v7)=true)∧((v12&&v7)=true→(v12&&v7)=true)∧(v12=true→v12=true)∧(v12=true→v7=true→(v12&&v7)=true)∧(v11=false→v12=true)∧True)∧True∧(v13=true→True∧false=zff m∧True)∧(v13=false→True∧V [PE.a,PE.b]))∧(v10=false→True∧decide (v4≤v3)=zff m∧True)) (by intro x;kernel_rfl) ?_
  ·trivial
  rintro i ⟨hi,hi9,hk⟩
  simp only [imp_self,implies_true,true_and,and_true,decide_eq_true_eq,decide_eq_false_iff_not,notF]
  have hC:∀ x:Entry,x=m.entries.getD i default→zac (zac (decide (x.index≤m.index)) true (IntKind.i64.wrap (IntKind.i64.wrap (x.index-1)-i) != m.index)) true (zac (x.kind==2) (!mayC x.config) false)=!okE m i:=by
   rintro x rfl
   rw [okE,okx]
   generalize decide ((m.entries.getD i default).index≤m.index)=x2
   generalize (IntKind.i64.wrap (IntKind.i64.wrap ((m.entries.getD i default).index-1)-i) != m.index)=x3
   generalize ((m.entries.getD i default).kind==2)=x4
   generalize mayC (m.entries.getD i default).config=x5
   cases x2<;>cases x3<;>cases x4<;>cases x5<;>rfl
  rw [hC _ rfl]
  have hP:zac (decide ((i:Int)<(m.entries.length:Int))) (decide ((i:Int)≤8)) false=(decide (i<m.entries.length)&&decide (i≤8)):=by
   have e1:decide ((i:Int)<(m.entries.length:Int))=decide (i<m.entries.length):=by rw [Bool.eq_iff_iff,decide_eq_true_eq,decide_eq_true_eq];omega
   have e2:decide ((i:Int)≤8)=decide (i≤8):=by rw [Bool.eq_iff_iff,decide_eq_true_eq,decide_eq_true_eq];omega
   rw [zaf,e1,e2]
  rw [hP]
  refine ⟨fun h6=>?_,fun h6=>?_⟩
  ·rw [Bool.and_eq_true,decide_eq_true_eq,decide_eq_true_eq] at h6
   refine ⟨⟨by omega,by omega⟩,⟨fun a=>by rw [decide_eq_false a];rfl,fun a b=>by rw [a,b];rfl⟩,fun h8=>?_,fun h8=>?_⟩
   ·have h8:okE m i=false:=by simpa using h8
    symm
    rw [zff,Bool.and_eq_false_iff]
    right
    rw [List.all_eq_false]
    exact ⟨i,List.mem_range.2 h6.1,by rw [h8];decide⟩
   ·have h8:okE m i=true:=by simpa using h8
    refine Back.mk (i+1) ⟨by omega,by omega,fun k hk2=>?_⟩ (by omega) (p0:=let v0:=m.snap;let v1:=Message.logTerm m;let v6:=v0.config;IntKind.wrap IntKind.i64 ((↑i:Int)+(1:Int))=(↑(i+(1:Nat)):Int)∧m.kind=m.kind∧m.from_=m.from_∧m.to_=m.to_∧m.term=m.term∧m.index=m.index∧v1=v1∧m.entries=m.entries∧m.commit=m.commit∧m.round=m.round∧m.ok=m.ok∧v0.index=v0.index∧v0.term=v0.term∧v6.voters=v6.voters∧v6.learners=v6.learners∧v0.data=v0.data∧m.ask=m.ask∧m.seq=m.seq∧m.data=m.data∧True) (by kernel_rfl) ?_
    ·by_cases e:k=i
     ·subst e;exact h8
     ·exact hk k (by omega)
    ·simp [za8 (i:=i) (by omega)]
  ·rw [zff]
   by_cases g:m.entries.length≤8
   ·have e:i=m.entries.length:=by
     rw [Bool.and_eq_false_iff,decide_eq_false_iff_not,decide_eq_false_iff_not] at h6;omega
    subst e
    have:(List.range m.entries.length).all (okE m)=true:=List.all_eq_true.2 fun k hk2=>hk k (List.mem_range.1 hk2)
    rw [this,Bool.and_true,Bool.eq_iff_iff,decide_eq_true_eq,decide_eq_true_eq];omega
   ·rw [decide_eq_false g,Bool.false_and,decide_eq_false_iff_not];omega
 ·have h:zeD n m=true:=by simpa using h
  have h5:¬ m.kind=5:=fun a=>by rw [a] at h5;cases h5
  rw [← hB,mayM,h,Bool.true_and,zlo]
  by_cases h7:m.kind=7
  ·rw [if_pos h7,zoe hmo.snap_index,h7];rfl
  ·rw [if_neg h7,if_neg h5,bne_iff_ne.2 h7];rfl
def zqF:Ent:=ent2 154 dNode dMessage fun n m=>([],.bool (mayM n m),D2)
theorem znE:zae Tryz.prog zqF:=zar (fnB Tryz.func154 (by decide) rfl) fun n m _=>zsX n m
structure HearOk (s:Step) (m:Message):Prop where
 few:Few 10001 s
 log:LogG s.n.kept
 term:zg0 s.n.kept
 put:zcu s.n.yes m.from_=putL s.n.yes m.from_
 ok:s.n.kept.Ok
 len:s.n.kept.entries.length≤9000
 lo:s.n.kept.snap.index≤s.n.commit
 ready:s.o.ready.length≤9000
 nd:(s.n.peers.map (·.node)).Nodup
 peers:s.n.role=4→∀ p∈s.n.peers,zcr (zaq s.n.kept).1 s.n.round p=true∧I64 p.next
theorem zfX {n:Node} {m:Message} (hmo:m.Ok) (h:mayM n m=true):(1≤m.from_∧m.from_≤5)∧(1≤m.term∧m.term≤900000000):=by
 unfold mayM zeD at h
 rw [zod hmo.from_,zoe hmo.term] at h
 simp only [Bool.and_eq_true,decide_eq_true_eq] at h
 obtain ⟨⟨⟨⟨⟨⟨_,_⟩,h1⟩,_⟩,_⟩,h2⟩,_⟩:=h
 exact ⟨h1,h2⟩
theorem zun {n:Node} {m:Message} (h:mayM n m=true) (h5:m.kind=5):m.entries.length≤8:=by
 unfold mayM zlo at h
 rw [if_neg (by rw [h5];decide),if_pos h5,zff] at h
 simp only [Bool.and_eq_true,decide_eq_true_eq] at h
 exact h.2.1
theorem putC {l:List Int} {v:Int} (h:isC l=true) (hl:∀ y∈l,1≤y∧y≤5) (hv:1≤v∧v≤5):zcu l v=putL l v:=
 (zvm (isC_iff.1 h).1 hl hv.1 hv.2).2
theorem HearOk.self {n:Node} {m:Message} (hf:Few 5000 (zak n)) (hr:zap n=true) (hno:n.Ok) (hmo:m.Ok) (hm:mayM n m=true):HearOk (zak n) m:=by
 have g:=right_iff.1 hr
 have g2:=(znm hno.id (hno.yes.2)).1 hr
 have hl:=zcR hr
 refine ⟨hf.mono (by decide),hl.1,hl.2,putC g.yes g2.core.yesn (zfX hmo hm).1,⟨hno.kept_term,hno.kept_vote,hno.kept_snap_index,hno.kept_snap_term,hno.kept_snap_config_voters,hno.kept_snap_config_learners,hno.kept_snap_data,hno.kept_entries⟩,g.len,g.lo,Nat.zero_le _,?_,fun h4 p hp=>?_⟩
 ·by_cases h4:n.role=4
  ·exact zk4 hr h4
  ·have h9:=g.rest
   rw [if_neg h4] at h9
   simp only [Bool.and_eq_true,decide_eq_true_eq] at h9
   show (n.peers.map _).Nodup
   rw [h9.1];exact List.nodup_nil
 ·have h9:=g.rest
  have h4:n.role=4:=h4
  rw [if_pos h4,zb6] at h9
  simp only [Bool.and_eq_true,List.all_eq_true] at h9
  exact ⟨h9.2 p hp,(hno.peers.2 p hp).next⟩
theorem HearOk.fallen {n:Node} {m:Message} (hf:Few 5000 (zak n)) (hr:zap n=true) (hno:n.Ok) (hmo:m.Ok) (hm:mayM n m=true):HearOk (za0 (zak n) m.term) m:=by
 have g:=right_iff.1 hr
 have hl:=zcR hr
 have ht:=(zfX hmo hm).2
 have h0:=HearOk.self hf hr hno hmo hm
 have hk:(za0 (zak n) m.term).n.kept=(zbO (zak n) m.term).n.kept:=rfl
 refine ⟨hf.fall m.term,?_,?_,putC (show isC []=true by simp [isC]) (fun y hy=>by cases hy) (zfX hmo hm).1,?_,?_,?_,?_,List.nodup_nil,fun h4=>absurd (show (1:Int)=4 from h4) (by decide)⟩
 ·rw [hk];unfold zbO;split
  ·exact h0.log
  ·exact h0.log
 ·rw [hk];unfold zbO;split
  ·show (0:Int)≤m.term∧m.term≤900000001;omega
  ·exact h0.term
 ·rw [hk];unfold zbO;split
  ·exact ⟨hmo.term,(by show I64 0;exact ⟨by decide,by decide⟩),h0.ok.snap_index,h0.ok.snap_term,h0.ok.snap_config_voters,h0.ok.snap_config_learners,h0.ok.snap_data,h0.ok.entries⟩
  ·exact h0.ok
 ·rw [hk];unfold zbO;split
  ·exact h0.len
  ·exact h0.len
 ·show (zbO (zak n) m.term).n.kept.snap.index≤(zbO (zak n) m.term).n.commit
  unfold zbO;split
  ·exact h0.lo
  ·exact h0.lo
 ·rw [zdH];exact Nat.zero_le _
theorem zua (s:Step) (m:Message):zc7 s m 2 (IntKind.i64.wrap (s.n.kept.term+1))=zaM s m:=by
 unfold zc7 zaM
 rw [if_pos (rfl:(2:Int)=2)]
theorem ztZ (s:Step) (m:Message):zc7 s m 3 s.n.kept.term=zbg s m:=by
 unfold zc7 zbg
 rw [if_neg (by decide:¬ (3:Int)=2)]
noncomputable def tabRn:List Ent:=[zqF,zqI,zq6,zxJ,zqL,zjY,zuC,zm5]
theorem zsa:∀ e∈tabRn,zae Tryz.prog e:=zaa znE (zaa zka (zaa znB (zaa ztn (zaa znH (zaa zjX (zaa zqM (zaa zkQ zad)))))))
theorem zyq {a b:Bool} (h:a=true) (g:b=false):(a&&!b)=true:=by rw [h,g];rfl
theorem k0of {k:Int} (a1:(k==1)=false) (a2:(k==2)=false) (a3:(k==3)=false) (a4:(k==4)=false) (a5:(k==5)=false) (a6:(k==6)=false) (a7:(k==7)=false):∀ j:Int,1≤j→j≤7→k≠j:=fun j l u=>by
 have h1:=zcb a1
 have h2:=zcb a2
 have h3:=zcb a3
 have h4:=zcb a4
 have h5:=zcb a5
 have h6:=zcb a6
 have h7:=zcb a7
 omega
theorem zm0 (n:Node) (m:Message):zac (zac (decide (m.term>n.kept.term)) (m.kind != 1) false) (zac (m.kind != 2) true (!m.ok)) false=zct n m:=by
 rw [zaf,zaf,zag]
 have e:∀ a b:Bool,(!a||!b)=!(a&&b):=by decide
 show (_&&_&&(!(m.kind==2)||!m.ok))=_
 rw [e];rfl
set_option maxHeartbeats 4000000 in
theorem zs8 (n:Node) (m:Message) (hf:Few 5000 (zak n)) (hd:SmallDM m) (hr:zap n=true) (hno:n.Ok) (hmo:m.Ok):FnG Tryz.prog 95 3 (sMi 125 (zak n)) [.ptr 2 0,dMessage.L.can m] (.tup []) (sMo 125 (zbk n m)):=by
 obtain ⟨M,hM⟩:∃ M,zbk n m=M:=⟨_,rfl⟩
 rw [hM]
 refine FnG.of_vc (zah zsa fun _=>none) Tryz.func95 rfl (by decide) rfl 300 (p:=fun (V:List PE→Prop)=>let v0:=m.kind;let v1:=Step.n M;let v2:=zak n;let v3:=Step.o M;let v4:=m.from_;let v10:=v2.n;let v16:=v3.lost;let v22:=v10.yes;let v27:=zbj v2 m;let v29:=zax v2 m;let v31:=zaS v2 m;let v32:=zbq v2 m;let v34:=zbd v2 m;let v38:=v10.kept;let v40:=za0 v2 m.term;let v52:=(2:Int);let v57:=(1:Int);let v62:=v40.n;let v75:=zbq v40 m;let v76:=zbd v40 m;let v81:=v62.kept;let v84:=zaS v40 m;let v86:=zbj v40 m;let v87:=zax v40 m;let v123:=v0==7;let v124:=v0==v57;let v125:=v0==v52;let v126:=v0==6;let v127:=v0==3;let v128:=v0 != v52;let v129:=v0==5;let v130:=v0==4;let v131:=zc7 v2 m (3:Int) v38.term;let v137:=decide (m.term>v38.term);let v138:=zc7 v40 m (3:Int) v81.term;let v144:=zc7 v2 m v52 (IntKind.wrap IntKind.i64 (v38.term+v57));let v150:=zac v137 (v0 != v57) false;let v151:=zc7 v40 m v52 (IntKind.wrap IntKind.i64 (v81.term+v57));let v157:=zac v150 (zac v128 true !m.ok) false;True∧(v22.length≤17592186044416∧v10.peers.length≤17592186044416∧v10.reads.length≤17592186044416∧True)∧True∧((!mayM v10 m)=true→qN0 v10 v1 (qN6 v10 v1 (qO14 v2.o v3 (v2.o.lost=v16∧True))))∧((!mayM v10 m)=false→((v137=true→v137=true)∧(v137=true→v137=true)∧(v137=true→v137=true)∧(v150=true→v150=true)∧(v150=true→v150=true)∧(v150=true→v150=true)∧((v150&&!v128)=true→(v150&&!v128)=true)∧((v150&&!v128)=true→(v150&&!v128)=true)∧(v150=true→v150=true)∧(v150=true→v128=false→(v150&&!v128)=true)∧(v150=true→v150=true)∧True)∧True∧(v157=true→(Few 70000 v2∧LogG v38∧True)∧True∧True∧True∧(v124=true→(Few 70000 v40∧True)∧qN0 v86.n v1 (qN6 v86.n v1 (qO14 v86.o v3 (v86.o.lost=v16∧True))))∧(v124=false→True∧True∧(v125=true→(Few 60000 v40∧LogG v81∧zg0 v81∧zcu v62.yes v4=putL v62.yes v4∧True)∧qN0 v151.n v1 (qN6 v151.n v1 (qO14 v151.o v3 (v151.o.lost=v16∧True))))∧(v125=false→True∧True∧(v127=true→(Few 60000 v40∧LogG v81∧True)∧qN0 v75.n v1 (qN6 v75.n v1 (qO14 v75.o v3 (v75.o.lost=v16∧True))))∧(v127=false→True∧True∧(v130=true→(Few 60000 v40∧LogG v81∧zg0 v81∧zcu v62.yes v4=putL v62.yes v4∧True)∧qN0 v138.n v1 (qN6 v138.n v1 (qO14 v138.o v3 (v138.o.lost=v16∧True))))∧(v130=false→True∧True∧(v129=true→(Few 50000 v40∧SmallDM m∧Kept.Ok v81∧Message.Ok m∧LogG v81∧v81.entries.length≤9000∧m.entries.length≤8∧True)∧qN0 v84.n v1 (qN6 v84.n v1 (qO14 v84.o v3 (v84.o.lost=v16∧True))))∧(v129=false→True∧True∧(v126=true→(Few 30000 v40∧v40.o.ready.length≤9000∧List.Nodup (List.map (fun (x:Peer)=>x.node) v62.peers)∧I64 m.index∧LogG v81∧(v62.role=4→∀ (p:Peer),p∈v62.peers→zcr (Prod.fst (zaq v81)) v62.round p=true∧I64 p.next)∧True)∧qN0 v87.n v1 (qN6 v87.n v1 (qO14 v87.o v3 (v87.o.lost=v16∧True))))∧(v126=false→True∧True∧(v123=true→(Few 50000 v40∧SmallDM m∧LogG v81∧v81.snap.index≤v62.commit∧True)∧qN0 v76.n v1 (qN6 v76.n v1 (qO14 v76.o v3 (v76.o.lost=v16∧True))))∧(v123=false→qN0 v62 v1 (qN6 v62 v1 (qO14 v40.o v3 (v40.o.lost=v16∧True)))))))))))∧(v157=false→True∧True∧True∧(v124=true→(Few 70000 v2∧True)∧qN0 v27.n v1 (qN6 v27.n v1 (qO14 v27.o v3 (v27.o.lost=v16∧True))))∧(v124=false→True∧True∧(v125=true→(Few 60000 v2∧LogG v38∧zg0 v38∧zcu v22 v4=putL v22 v4∧True)∧qN0 v144.n v1 (qN6 v144.n v1 (qO14 v144.o v3 (v144.o.lost=v16∧True))))∧(v125=false→True∧True∧(v127=true→(Few 60000 v2∧LogG v38∧True)∧qN0 v32.n v1 (qN6 v32.n v1 (qO14 v32.o v3 (v32.o.lost=v16∧True))))∧(v127=false→True∧True∧(v130=true→(Few 60000 v2∧LogG v38∧zg0 v38∧zcu v22 v4=putL v22 v4∧True)∧qN0 v131.n v1 (qN6 v131.n v1 (qO14 v131.o v3 (v131.o.lost=v16∧True))))∧(v130=false→True∧True∧(v129=true→(Few 50000 v2∧SmallDM m∧Kept.Ok v38∧Message.Ok m∧LogG v38∧v38.entries.length≤9000∧m.entries.length≤8∧True)∧qN0 v31.n v1 (qN6 v31.n v1 (qO14 v31.o v3 (v31.o.lost=v16∧True))))∧(v129=false→True∧True∧(v126=true→(Few 30000 v2∧v2.o.ready.length≤9000∧List.Nodup (List.map (fun (x:Peer)=>x.node) v10.peers)∧I64 m.index∧LogG v38∧(v10.role=4→∀ (p:Peer),p∈v10.peers→zcr (Prod.fst (zaq v38)) v10.round p=true∧I64 p.next)∧True)∧qN0 v29.n v1 (qN6 v29.n v1 (qO14 v29.o v3 (v29.o.lost=v16∧True))))∧(v126=false→True∧True∧(v123=true→(Few 50000 v2∧SmallDM m∧LogG v38∧v38.snap.index≤v10.commit∧True)∧qN0 v34.n v1 (qN6 v34.n v1 (qO14 v34.o v3 (v34.o.lost=v16∧True))))∧(v123=false→qN0 v10 v1 (qN6 v10 v1 (qO14 v2.o v3 (v2.o.lost=v16∧True))))))))))))) (by kernel_rfl) ?_
 have hsn:=hf.sn (by decide)
 have hso:SmallO (zak n).o:=hf.so (by decide)
 obtain ⟨b1,b2,b3,b4,b5⟩:=hsn.ls
 obtain ⟨x1,x2,x3,x4⟩:=hso.ls
 have e1:mayM n m=false→M=zak n:=fun h=>by rw [← hM,zbk,if_neg (by rw [h];decide)]
 intros
 refine ⟨trivial,⟨b2,b3,b4,trivial⟩,trivial,fun h=>?_,fun h=>⟨⟨fun h=>h,fun h=>h,fun h=>h,fun h=>h,fun h=>h,fun h=>h,fun h=>h,fun h=>h,fun h=>h,fun h g=>zyq h g,fun h=>h,trivial⟩,trivial,fun g=>?_,fun g=>?_⟩⟩
 ·have e:=e1 (zn3 h)
  subst e
  repeat' apply And.intro
  all_goals first | trivial | rfl | assumption
 ·have hmay:mayM n m=true:=zjG h
  have hfb:zct n m=true:=(zm0 n m).symm.trans g
  have H:HearOk (za0 (zak n) m.term) m:=HearOk.fallen hf hr hno hmo hmay
  have eM:M=zbG (za0 (zak n) m.term) m:=by rw [← hM,zbk,if_pos hmay,zaX,if_pos hfb]
  have hQ:=zdb (m:=m) H.few hd H.ok hmo
  rw [← eM] at hQ
  obtain ⟨y1,y2,y3,y4,y5⟩:=(hQ.sn (by decide)).ls
  obtain ⟨z1,z2,z3,z4⟩:=(hQ.so (by decide)).ls
  refine ⟨⟨hf.mono (by decide),(zcR hr).1,trivial⟩,trivial,trivial,trivial,fun c1=>⟨⟨H.few.mono (by decide),trivial⟩,?_⟩,fun c1=>⟨trivial,trivial,fun c2=>⟨⟨H.few.mono (by decide),H.log,H.term,H.put,trivial⟩,?_⟩,fun c2=>⟨trivial,trivial,fun c3=>⟨⟨H.few.mono (by decide),H.log,trivial⟩,?_⟩,fun c3=>⟨trivial,trivial,fun c4=>⟨⟨H.few.mono (by decide),H.log,H.term,H.put,trivial⟩,?_⟩,fun c4=>⟨trivial,trivial,fun c5=>⟨⟨H.few.mono (by decide),hd,H.ok,hmo,H.log,H.len,zun hmay (beq_iff_eq.1 c5),trivial⟩,?_⟩,fun c5=>⟨trivial,trivial,fun c6=>⟨⟨H.few.mono (by decide),H.ready,H.nd,hmo.index,H.log,H.peers,trivial⟩,?_⟩,fun c6=>⟨trivial,trivial,fun c7=>⟨⟨H.few.mono (by decide),hd,H.log,H.lo,trivial⟩,?_⟩,fun c7=>?_⟩⟩⟩⟩⟩⟩⟩
  ·have e:M=zbj (za0 (zak n) m.term) m:=eM.trans (zeB (beq_iff_eq.1 c1))
   subst e
   repeat' apply And.intro
   all_goals first | trivial | rfl | assumption
  ·have e:M=zc7 (za0 (zak n) m.term) m 2 (IntKind.i64.wrap ((za0 (zak n) m.term).n.kept.term+1)):=(eM.trans (zeA (beq_iff_eq.1 c2))).trans (zua _ _).symm
   subst e
   repeat' apply And.intro
   all_goals first | trivial | rfl | assumption
  ·have e:M=zbq (za0 (zak n) m.term) m:=eM.trans (ze9 (beq_iff_eq.1 c3))
   subst e
   repeat' apply And.intro
   all_goals first | trivial | rfl | assumption
  ·have e:M=zc7 (za0 (zak n) m.term) m 3 (za0 (zak n) m.term).n.kept.term:=(eM.trans (ze8 (beq_iff_eq.1 c4))).trans (ztZ _ _).symm
   subst e
   repeat' apply And.intro
   all_goals first | trivial | rfl | assumption
  ·have e:M=zaS (za0 (zak n) m.term) m:=eM.trans (ze7 (beq_iff_eq.1 c5))
   subst e
   repeat' apply And.intro
   all_goals first | trivial | rfl | assumption
  ·have e:M=zax (za0 (zak n) m.term) m:=eM.trans (ze6 (beq_iff_eq.1 c6))
   subst e
   repeat' apply And.intro
   all_goals first | trivial | rfl | assumption
  ·have e:M=zbd (za0 (zak n) m.term) m:=eM.trans (zdc (beq_iff_eq.1 c7))
   subst e
   repeat' apply And.intro
   all_goals first | trivial | rfl | assumption
  ·have e:M=za0 (zak n) m.term:=eM.trans (zic (k0of c1 c2 c3 c4 c5 c6 c7))
   subst e
   repeat' apply And.intro
   all_goals first | trivial | rfl | assumption
 ·have hmay:mayM n m=true:=zjG h
  have hfb:¬ zct n m=true:=fun a=>by
   have b:=(zm0 n m).symm.trans g
   rw [a] at b;cases b
  have H:HearOk (zak n) m:=HearOk.self hf hr hno hmo hmay
  have eM:M=zbG (zak n) m:=by rw [← hM,zbk,if_pos hmay,zaX,if_neg hfb]
  have hQ:=zdb (m:=m) H.few hd H.ok hmo
  rw [← eM] at hQ
  obtain ⟨y1,y2,y3,y4,y5⟩:=(hQ.sn (by decide)).ls
  obtain ⟨z1,z2,z3,z4⟩:=(hQ.so (by decide)).ls
  refine ⟨trivial,trivial,trivial,fun c1=>⟨⟨H.few.mono (by decide),trivial⟩,?_⟩,fun c1=>⟨trivial,trivial,fun c2=>⟨⟨H.few.mono (by decide),H.log,H.term,H.put,trivial⟩,?_⟩,fun c2=>⟨trivial,trivial,fun c3=>⟨⟨H.few.mono (by decide),H.log,trivial⟩,?_⟩,fun c3=>⟨trivial,trivial,fun c4=>⟨⟨H.few.mono (by decide),H.log,H.term,H.put,trivial⟩,?_⟩,fun c4=>⟨trivial,trivial,fun c5=>⟨⟨H.few.mono (by decide),hd,H.ok,hmo,H.log,H.len,zun hmay (beq_iff_eq.1 c5),trivial⟩,?_⟩,fun c5=>⟨trivial,trivial,fun c6=>⟨⟨H.few.mono (by decide),H.ready,H.nd,hmo.index,H.log,H.peers,trivial⟩,?_⟩,fun c6=>⟨trivial,trivial,fun c7=>⟨⟨H.few.mono (by decide),hd,H.log,H.lo,trivial⟩,?_⟩,fun c7=>?_⟩⟩⟩⟩⟩⟩⟩
  ·have e:M=zbj (zak n) m:=eM.trans (zeB (beq_iff_eq.1 c1))
   subst e
   repeat' apply And.intro
   all_goals first | trivial | rfl | assumption
  ·have e:M=zc7 (zak n) m 2 (IntKind.i64.wrap ((zak n).n.kept.term+1)):=(eM.trans (zeA (beq_iff_eq.1 c2))).trans (zua _ _).symm
   subst e
   repeat' apply And.intro
   all_goals first | trivial | rfl | assumption
  ·have e:M=zbq (zak n) m:=eM.trans (ze9 (beq_iff_eq.1 c3))
   subst e
   repeat' apply And.intro
   all_goals first | trivial | rfl | assumption
  ·have e:M=zc7 (zak n) m 3 (zak n).n.kept.term:=(eM.trans (ze8 (beq_iff_eq.1 c4))).trans (ztZ _ _).symm
   subst e
   repeat' apply And.intro
   all_goals first | trivial | rfl | assumption
  ·have e:M=zaS (zak n) m:=eM.trans (ze7 (beq_iff_eq.1 c5))
   subst e
   repeat' apply And.intro
   all_goals first | trivial | rfl | assumption
  ·have e:M=zax (zak n) m:=eM.trans (ze6 (beq_iff_eq.1 c6))
   subst e
   repeat' apply And.intro
   all_goals first | trivial | rfl | assumption
  ·have e:M=zbd (zak n) m:=eM.trans (zdc (beq_iff_eq.1 c7))
   subst e
   repeat' apply And.intro
   all_goals first | trivial | rfl | assumption
  ·have e:M=zak n:=eM.trans (zic (k0of c1 c2 c3 c4 c5 c6 c7))
   subst e
   repeat' apply And.intro
   all_goals first | trivial | rfl | assumption
noncomputable def zuA:Ent:=zbs 95 3 mSt dMessage.L vrS [1,0] glS fun s m=>([s.o=outZ,Few 5000 s,SmallDM m,zap s.n=true,s.n.Ok,m.Ok],.tup [],sMo 125 (zbk s.n m))
theorem zqG:zae Tryz.prog zuA:=za2 (fnB Tryz.func95 (by decide) rfl) fun s m h=>by
 obtain ⟨n,o⟩:=s
 have e:o=outZ:=h _ (by simp)
 subst e
 exact zs8 n m (h (Few 5000 ⟨n,outZ⟩) (by simp)) (h (SmallDM m) (by simp)) (h (zap n=true) (by simp)) (h n.Ok (by simp)) (h m.Ok (by simp))
noncomputable def tabRh:List Ent:=[zxM,eRNo,zuA]
theorem zsb:∀ e∈tabRh,zae Tryz.prog e:=zaa zto (zaa zqB (zaa zqG zad))
theorem zoZ (n:Node) (m:Message) (hn:SmallN n) (hr:zap n=false):FnC Tryz.prog 30 [dNode.can n,dMessage.can m] (refO zeroN outZ 1) D3d:=by
 refine FnG.of_vc (zah zoo fun _=>none) Tryz.func30 rfl (by decide) rfl 300 (p:=fun (V:List PE→Prop)=>let v14:=(1:Int) != 0;True∧(SmallN n∧zap n=false∧True)∧True∧True∧(v14=true→True∧qN0 zeroN zeroN (qN27 zeroN zeroN (qO28 outZ outZ ((1:Int)=1∧True))))∧(v14=false→False)) (by kernel_rfl) ?_
 simp only [qN0,qN27,qO28,imp_self,implies_true,true_and,and_true,zaf,zag]
 exact ⟨⟨hn,hr⟩,fun h=>absurd h (by decide)⟩
theorem zoY (n:Node) (m:Message) (hf:Few 5000 (zak n)) (hd:SmallDM m) (hr:zap n=true) (hno:n.Ok) (hmo:m.Ok):FnC Tryz.prog 30 [dNode.can n,dMessage.can m] (refO (zbk n m).n (zbk n m).o 0) D3d:=by
 refine FnG.of_vc (zah zsb fun _=>none) Tryz.func30 rfl (by decide) rfl 300 (p:=fun (V:List PE→Prop)=>let v2:=Step.o (zbk n m);let v4:=Step.n (zbk n m);let v5:=(0:Int);let v30:=Out.mk [] [] [] [];True∧(SmallN n∧zap n=true∧True)∧True∧True∧((v5 != v5)=true→True∧qN0 zeroN v4 (qN27 zeroN v4 (qO28 outZ v2 (v5=v5∧True))))∧((v5 != v5)=false→(v30=outZ∧Few 5000 (Step.mk n v30)∧SmallDM m∧zap n=true∧Node.Ok n∧Message.Ok m∧True)∧True∧qN0 v4 v4 (qN26 v4 v4 (qO25 v2 v2 (v5=v5∧True))))) (by kernel_rfl) ?_
 simp only [qN0,qN26,qN27,qO25,qO28,imp_self,implies_true,true_and,and_true,zaf,zag]
 have hQ:Few 20000 (zbk n m):=by
  unfold zbk
  split
  ·exact zdb (zde hf) hd (zid ⟨hno.kept_term,hno.kept_vote,hno.kept_snap_index,hno.kept_snap_term,hno.kept_snap_config_voters,hno.kept_snap_config_learners,hno.kept_snap_data,hno.kept_entries⟩ hmo) hmo
  ·exact hf.mono (by decide)
 obtain ⟨y1,y2,y3,y4,y5⟩:=(hQ.sn (by decide)).ls
 obtain ⟨z1,z2,z3,z4⟩:=(hQ.so (by decide)).ls
 refine ⟨⟨hf.sn (by decide),hr⟩,fun h=>absurd h (by decide),fun _=>⟨⟨rfl,hf,hd,hr,hno,hmo⟩,?_⟩⟩
 repeat' apply And.intro
 all_goals first | rfl | assumption
theorem zsC (n:Node) (m:Message) (hf:Few 5000 (zak n)) (hm:SmallM m) (hd:SmallDM m):FnC Tryz.prog 30 [dNode.can n,dMessage.can m] (refO (zbY n m).1.n (zbY n m).1.o (zbY n m).2) D3d:=by
 refine FnC.g2 dNode dMessage n m (fnB Tryz.func30 (by decide) rfl) fun hno hmo=>?_
 unfold zbY
 cases hr:zap n
 ·exact zoZ n m (hf.sn (by decide)) hr
 ·exact zoY n m hf hd hr hno hmo
noncomputable def zqH:Ent:=ent2 30 dNode dMessage fun n m=>([Few 5000 (zak n),SmallM m,SmallDM m],refO (zbY n m).1.n (zbY n m).1.o (zbY n m).2,D3d)
theorem znF:zae Tryz.prog zqH:=zar (fnB Tryz.func30 (by decide) rfl) fun n m h=>zsC n m (h _ (by simp)) (h _ (by simp)) (h _ (by simp))
theorem znh {n:Node} {m:Message} (h:zd2 n m=false):SmallDM m:=by
 unfold zd2 zrB at h
 simp only [decide_eq_false_iff_not] at h
 refine ⟨by omega,fun e he=>?_,⟨by omega,by omega⟩⟩
 have:=zlj he
 unfold cntE at this
 exact ⟨by omega,by omega⟩
noncomputable def tabCp:List Ent:=[zxL,zgl]
theorem zsn:∀ e∈tabCp,zae Tryz.prog e:=zaa zin (zaa zc3 zad)
theorem zwu (m:Message) (hd:SmallDM m):FnC Tryz.prog 28 [dMessage.can m] (.agg (m.svs [1])) D2:=by
 refine FnG.of_vc (zah zsn fun _=>none) Tryz.func28 rfl (by decide) rfl 300 (p:=fun (V:List PE→Prop)=>let v0:=m.entries;let v1:=Message.logTerm m;let v2:=m.snap;let v7:=v2.config.voters;let v8:=v2.config.learners;let v9:=(0:Int);True∧(zaC (Kept.mk v9 v9 (Snap.mk v9 v9 (Config.mk [] []) (ByteArray.mk #[])) v0)∧True)∧(v7.length≤1000000∧v8.length≤1000000∧True)∧True∧m.kind=m.kind∧m.from_=m.from_∧m.to_=m.to_∧m.term=m.term∧m.index=m.index∧v1=v1∧v0=v0∧m.commit=m.commit∧m.round=m.round∧m.ok=m.ok∧v2.index=v2.index∧v2.term=v2.term∧v7=v7∧v8=v8∧v2.data=v2.data∧m.ask=m.ask∧m.seq=m.seq∧m.data=m.data∧True) (by kernel_rfl) ?_
 simp only [imp_self,implies_true,true_and,and_true,zaf,zag]
 exact ⟨⟨hd.l',smallD0.c⟩,hd.s.c.1,hd.s.c.2⟩
noncomputable def zyc:Ent:=ent1 28 dMessage fun m=>([SmallDM m],.agg (m.svs [1]),D2)
theorem zt1:zae Tryz.prog zyc:=zan (fnB Tryz.func28 (by decide) rfl) fun m h=>zwu m (h _ (by simp))
noncomputable def tabDz:List Ent:=[zuG,zu8,zyc,zuK,zqH,zuJ,zxY]
theorem zsm:∀ e∈tabDz,zae Tryz.prog e:=zaa zqW (zaa zqA (zaa zt1 (zaa zrd (zaa znF (zaa zrc (zaa ziw zad))))))
theorem zjj (n:Node) (m:Message):FnC Tryz.prog 5 [dNode.can n,dMessage.can m] (.bool true) D2:=by
 refine FnG.of_vc_tail (fitsU zsm zlt zrQ fun _=>none) Tryz.func5 rfl (by decide) (by kernel_rfl) rfl 300 27 (p:=fun (V:List PE→Prop)=>let v0:=Prod.fst (zbY n m);let v1:=Prod.snd (zbY n m);let v4:=zac true (zne v0.n v0.o v1 v0.n v0.o v1 n n) false;True∧True∧True∧(zd2 n m=true→True∧true=true∧True)∧(zd2 n m=false→(SmallN n∧True)∧(SmallDM m∧True)∧(Few 5000 (zak n)∧SmallM m∧SmallDM m∧True)∧(Few 5000 (zak n)∧SmallM m∧SmallDM m∧True)∧(true=true∧true=true∧true=true∧true=true∧true=true∧true=true∧true=true∧true=true∧True)∧true=true∧((v4=true→v4=true)∧(v4=true→v4=true)∧(v4=true→v4=true)∧True)∧zac v4 (decide (m=m)) false=true∧True)) (by kernel_rfl) ?_
 simp only [imp_self,implies_true,true_and,and_true,zaf,zag]
 intro h
 have hf:=zxA h
 have hd:=znh h
 refine ⟨hf.sn (by decide),hd,⟨hf,⟨hd.l',hd.s.c⟩,hd⟩,⟨hf,⟨hd.l',hd.s.c⟩,hd⟩,?_⟩
 simp [zne]
theorem zwr {w:World} {vs:List Value} {x:Message} (h:RdL w (fun b=>b<w.heap.size) Message.ty vs x.enc):DenV (E0 fun b=>b<w.heap.size) w (.agg (x.svs [0])) (.agg vs.toArray):=
 ⟨vs,rfl,Message.svs_of (h.mono fun b _ hb=>zku hb)⟩
theorem law_raftHears (vs:List Value) (n:Node) (us:List Value) (m:Message) (w:World) (h:RdL w (fun b=>b<w.heap.size) Node.ty vs n.enc) (hm:RdL w (fun b=>b<w.heap.size) Message.ty us m.enc) :
  Calls Tryz.prog 5 #[.agg vs.toArray,.agg us.toArray] w fun e w'=>e = .returned (.bool true)∧Below w.heap.size w w' :=
 zpA (zjj n m) w (fun b=>b<w.heap.size) (fun _ hb=>hb) [.agg vs.toArray,.agg us.toArray] ⟨zt7 h,zwr hm,trivial⟩
end Go.Proofs.YteabcgkjbnecaaaGreat
namespace Go.Proofs.YteabcgkjbnecaaaGreat
open Go.RowKit Go.ChangeShapes Go.WideShapes Go.Deep
def zoj (P:Program) (ts:List Ty) (ok:TypeId→List Ty→Bool):Nat→List Field→Bool
 | o,[]=>o==ts.length
 | o,f::fs=>f.offset==o&&ok f.type ((ts.drop o).take (P.cellsOf f.type))&&decide (o+P.cellsOf f.type≤ts.length)&&zoj P ts ok (o+P.cellsOf f.type) fs
def okTy (P:Program):Nat→TypeId→List Ty→Bool
 | 0,_,_=>false
 | n+1,t,ts=>match P.underlying t with
  | some (.int k)=>match ts with | [.int k']=>decide (k=k') | _=>false
  | some .bool=>match ts with | [.bool]=>true | _=>false
  | some .string=>match ts with | [.str]=>true | _=>false
  | some (.slice e)=>match ts with | [.sl fs]=>okTy P n e fs&&P.cellsOf e==fs.length&&decide (8≤P.bytesOf e)&&decide (0<fs.length) | _=>false
  | some (.struct fs)=>P.cellsOf t==ts.length&&zoj P ts (okTy P n) 0 fs.toList
  | _=>false
theorem RdL.append {w:World} {S:Nat→Prop}:∀ {ts us:List Ty} {vs xs:List Value} {ds es:List D},RdL w S ts vs ds→RdL w S us xs es→RdL w S (ts++us) (vs++xs) (ds++es)
 | [],_,[],_,[],_,_,h=>h
 | _::ts,_,_::vs,_,_::ds,_,h,k=>⟨h.1,RdL.append (ts:=ts) (vs:=vs) (ds:=ds) h.2 k⟩
 | _::_,_,[],_,_,_,h,_=>h.elim
 | _::_,_,_::_,_,[],_,h,_=>h.elim
 | [],_,_::_,_,_,_,h,_=>h.elim
 | [],_,[],_,_::_,_,h,_=>h.elim
section
variable {H : Type} {enc : TypeId × Value → H} {P : Program} {w : World} {base : Nat} {spare : Nat → Bool} {held : Bool}
def zwJ (P:Program) (t:TypeId) (d:DataW H):Prop:=∀ n∈d.weights P t,n≤reachBytes
theorem zl1 (ok:TypeId→List Ty→Bool) (ts:List Ty) (cs:List Value) (hcl:cs.length=ts.length):∀ (fs:List Field) (o:Nat),o≤ts.length→zoj P ts ok o fs=true →
  (∀ f∈fs,∀ us,ok f.type us=true→∃ ds,RdL w (fun b=>b<w.heap.size) us ((cs.drop f.offset).take (P.cellsOf f.type)) ds) →
  ∃ ds,RdL w (fun b=>b<w.heap.size) (ts.drop o) (cs.drop o) ds
 | [],o,ho,h,_=>by
  simp only [zoj,beq_iff_eq] at h
  subst h
  rw [List.drop_length,List.drop_eq_nil_of_le (by omega)]
  exact ⟨[],trivial⟩
 | f::fs,o,ho,h,hf=>by
  simp only [zoj,Bool.and_eq_true,beq_iff_eq,decide_eq_true_eq] at h
  obtain ⟨⟨⟨rfl,h2⟩,h3⟩,h4⟩:=h
  obtain ⟨d1,k1⟩:=hf f (List.mem_cons_self ..) _ h2
  obtain ⟨d2,k2⟩:=zl1 ok ts cs hcl fs _ h3 h4 (fun g hg=>hf g (List.mem_cons_of_mem _ hg))
  refine ⟨d1++d2,?_⟩
  have e1:ts.drop f.offset=(ts.drop f.offset).take (P.cellsOf f.type)++ts.drop (f.offset+P.cellsOf f.type):=by
   rw [← List.drop_drop,List.take_append_drop]
  have e2:cs.drop f.offset=(cs.drop f.offset).take (P.cellsOf f.type)++cs.drop (f.offset+P.cellsOf f.type):=by
   rw [← List.drop_drop,List.take_append_drop]
  rw [e1,e2]
  exact RdL.append k1 k2
theorem zf2 {e:TypeId}:∀ {l:List (DataW H)} {d:DataW H},d∈l→∀ n∈d.weights P e,n∈DataW.weightsAll P e l
 | x::l,d,hd,n,hn=>by
  simp only [DataW.weightsAll,List.mem_append]
  rcases List.mem_cons.1 hd with h | h
  ·subst h;exact .inl hn
  ·exact .inr (zf2 h n hn)
theorem ze0:∀ (n:Nat) (t:TypeId) (ts:List Ty) (fuel:Nat) (cs:List Value) (x:DataW H×List MemPlace),okTy P n t ts=true→DataW.trod enc P w base spare held fuel t cs=some x→zwJ P t x.1→w.noneFrozen x.2 →
  ∃ ds,RdL w (fun b=>b<w.heap.size) ts cs ds
 | 0,_,_,_,_,_,h,_,_,_=>by simp [okTy] at h
 | n+1,t,ts,fuel,cs,x,h,ht,hw,hz=>by
  unfold okTy at h
  split at h
  ·rename_i k hu
   split at h
   ·rename_i k'
    have hk:k=k':=of_decide_eq_true h
    subst hk
    obtain ⟨m,rfl,_,hm⟩:=DataW.trod_int hu ht
    exact ⟨[.int m],.int hm,trivial⟩
   ·cases h
  ·rename_i hu
   split at h
   ·obtain ⟨b,rfl,_⟩:=DataW.trod_bool hu ht
    exact ⟨[.bool b],.bool,trivial⟩
   ·cases h
  ·rename_i hu
   split at h
   ·obtain ⟨s,rfl,rfl,_⟩:=DataW.trod_string hu ht
    have:=hw s.data.toList.length (by simp [DataW.weights])
    refine ⟨[.str s],.str ?_,trivial⟩
    have e:s.data.toList.length=s.size:=by rw [Array.length_toList];rfl
    rw [e] at this
    unfold reachBytes at this
    omega
   ·cases h
  ·rename_i e hu
   split at h
   ·rename_i fs
    simp only [Bool.and_eq_true,beq_iff_eq,decide_eq_true_eq] at h
    obtain ⟨⟨⟨h1,h2⟩,h3⟩,h4⟩:=h
    rcases open_slice hu ht with ⟨rfl,_⟩ | ⟨a,len,cap,m,n',Dd,Pl,rfl,hb,hl,hm,hmm,hx,hi⟩
    ·exact ⟨[.sl []],.emp (fun _=>rfl) (by simp [maxLen]),trivial⟩
    ·have hlm:len≤m:=by rw [hmm];split<;>omega
     have hx1:x.1 = .slice ((List.range len).map Dd) ((List.range (m-len)).map fun j=>Dd (len+j)):=by rw [hx]
     have hbd:len*8≤reachBytes:=by
      have:=hw ((((List.range len).map Dd).length+((List.range (m-len)).map fun j=>Dd (len+j)).length)*P.bytesOf e) (by rw [hx1];simp [DataW.weights,hu])
      simp only [List.length_map,List.length_range] at this
      exact Nat.le_trans (Nat.mul_le_mul (by omega) h3) this
     have each:∀ i,i<len→∃ cs' ds,w.cells? base (a.add (i*P.cellsOf e)) (P.cellsOf e)=some cs'∧RdL w (fun b=>b<w.heap.size) fs cs' ds:=by
      intro i hi'
      obtain ⟨cs',hc,htt⟩:=hi i (by omega)
      obtain ⟨ds,hd⟩:=ze0 n e fs n' cs' _ h1 htt (fun q hq=>hw q (by
       rw [hx1]
       simp only [DataW.weights,hu,List.mem_cons,List.mem_append]
       exact .inr (.inl (zf2 (List.mem_map.2 ⟨i,List.mem_range.2 hi',rfl⟩) q hq)))) (fun b off hp=>hz b off (by
       rw [hx]
       exact List.mem_append.2 (.inr (List.mem_flatMap.2 ⟨i,List.mem_range.2 (by omega),hp⟩))))
      exact ⟨cs',ds,hc,hd⟩
     by_cases hp:0<len
     ·let C:Nat→List Value:=fun i=>if hh:i<len then Classical.choose (each i hh) else []
      let DD:Nat→List D:=fun i=>if hh:i<len then Classical.choose (Classical.choose_spec (each i hh)) else []
      have hC:∀ i,i<len→w.cells? base (a.add (i*P.cellsOf e)) (P.cellsOf e)=some (C i)∧RdL w (fun b=>b<w.heap.size) fs (C i) (DD i):=by
       intro i hh
       simp only [C,DD,hh,dif_pos]
       exact Classical.choose_spec (Classical.choose_spec (each i hh))
      have hcell:∀ i j,i<len→j<fs.length→w.cell? ((a.add (i*fs.length)).add j)=some ((C i).getD j undef):=by
       intro i j hi' hj
       obtain ⟨c1,c2⟩:=hC i hi'
       rw [h2] at c1
       obtain ⟨_,hcl,hat⟩:=World.cells?_some c1
       rw [hat j hj]
       simp [List.getD,List.getElem?_eq_getElem (show j<(C i).length by omega)]
      have h00:=hcell 0 0 hp h4
      obtain ⟨b,off,spot⟩:=a
      have hspot:spot=none:=by simpa [Addr.add] using World.cell?_spot h00
      subst hspot
      have hblk:b<w.heap.size:=by
       have:=World.block_lt_of_cell? _ _ h00
       simpa [Addr.add] using this
      refine ⟨[.sl ((List.range len).map DD)],.row (fun i j=>(C i).getD j undef) hp (by simp) hl hm (by unfold reachBytes at hbd;omega) hblk hblk (fun i j hi' hj=>?_) (fun i hi'=>?_) (fun i j hi' hj=>?_) (fun i j hi' hj=>?_),trivial⟩
      ·have:=hcell i j hi' hj
       rwa [WideShapes.add_plain,WideShapes.add_plain] at this
      ·have:=(hC i hi').2.lens.2
       simpa [List.getD,hi'] using this
      ·have:=(hC i hi').2.at j hj
       simpa [List.getD,hi'] using this
      ·refine hz b _ ?_
       rw [hx]
       refine List.mem_append.2 (.inl ?_)
       unfold MemPlace.row
       refine List.mem_map.2 ⟨i*fs.length+j,List.mem_range.2 ?_,by rw [Nat.add_assoc]⟩
       rw [h2]
       have h5:(i+1)*fs.length≤m*fs.length:=Nat.mul_le_mul_right _ (by omega)
       rw [Nat.add_mul] at h5;omega
     ·have h0:len=0:=by omega
      subst h0
      exact ⟨[.sl []],.emp (fun hh=>by cases hh) hm,trivial⟩
   ·cases h
  ·rename_i fs hu
   simp only [Bool.and_eq_true,beq_iff_eq] at h
   obtain ⟨h1,h2⟩:=h
   obtain ⟨xs,n',_,hx,hcl,hxl,hall⟩:=DataW.trod_struct hu ht
   have:=zl1 (P:=P) (w:=w) (okTy P n) ts cs (by omega) fs.toList 0 (Nat.zero_le _) h2 (fun f hf us hus=>by
    obtain ⟨i,hi⟩:=List.getElem?_of_mem hf
    rw [Array.getElem?_toList] at hi
    have hilt:i<fs.size:=(Array.getElem?_eq_some_iff.1 hi).1
    have h3:=hall i f hi
    rw [List.getElem?_eq_getElem (show i<xs.length by omega)] at h3
    refine ze0 n f.type us n' _ _ hus h3 (fun q hq=>hw q ?_) (fun b off hp=>hz b off (by
     rw [hx]
     exact List.mem_flatMap.2 ⟨_,List.getElem_mem (show i<xs.length by omega),hp⟩))
    rw [hx]
    simp only [DataW.weights,hu]
    refine DataW.weights_mem_each (j:=i) (t:=f.type) (d:=xs[i].1) ?_ ?_ q hq
    ·rw [List.getElem?_map,Array.getElem?_toList,hi];rfl
    ·rw [List.getElem?_map,List.getElem?_eq_getElem (show i<xs.length by omega)];rfl)
   simpa using this
  ·cases h
theorem rd_arg {t:TypeId} {ts:List Ty} {v:Value} {d:DataW H} {p:List MemPlace} (n:Nat) (hok:okTy P n t ts=true) (h:DataW.Trod enc P w base spare held t v d p) (hw:zwJ P t d) (hz:w.noneFrozen p):∃ ds,RdL w (fun b=>b<w.heap.size) ts v.cells.toList ds:=by
 obtain ⟨fuel,hf⟩:=h
 exact ze0 n t ts fuel _ _ hok hf hw hz
theorem light_of {tys:List TypeId} {ds:List (DataW H)} (h:(DataW.weightsEach P tys ds).all (· ≤ reachBytes)=true) {j:Nat} {t:TypeId} {d:DataW H} (ht:tys[j]? = some t) (hd:ds[j]? = some d):zwJ P t d:=fun n hn=>by
 simpa using List.all_eq_true.1 h n (DataW.weights_mem_each ht hd n hn)
theorem agg_of {t:TypeId} {fs:Array Field} {v:Value} {r:Reach} {b0:Nat} (hs:P.underlying t=some (.struct fs)) (hv:Value.okWide P w r b0 t v):v = .agg v.cells.toList.toArray:=by
 obtain ⟨cs,rfl,_⟩:=okWide_struct hs hv
 rfl
end
end Go.Proofs.YteabcgkjbnecaaaGreat
