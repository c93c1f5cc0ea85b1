/- Parts of the proof, joined: the symbolic walk and what it is told of each function. Condition: as each theorem says. -/
import Derived.Test.YtkhphiahindnnaaGreatRa5
set_option linter.unusedVariables false
set_option linter.unusedSimpArgs false
set_option linter.unusedSectionVars false
namespace Go.Proofs.YtkhphiahindnnaaGreat
open Go.RowKit Go.ChangeShapes Go.WideShapes Go.Deep
set_option maxRecDepth 100000
noncomputable def tabBi:List Ent:=[ztu,zhJ,zk5,eTo,zre]
theorem zsg:∀ e∈tabBi,zaf Tryz.prog e:=zaa ziO (zaa zcV (zaa zfb (zaa zq5 (zaa zof zad))))
def atM (s:Step) (m:Message):Nat:=(zaT s.n.peers m.from_).toNat
def zfk (s:Step) (m:Message):Bool:=s.n.role != 4||m.term != s.n.kept.term||decide (zaT s.n.peers m.from_<0)
def setP (l:List Peer) (i:Nat) (f:Peer->Peer):List Peer:=l.set i (f (l.getD i default))
def zaJ (s:Step) (m:Message):List Peer:=if decide (m.round<=s.n.round)=true then setP s.n.peers (atM s m) fun p=>⟨p.node,p.next,p.match_,if m.round>p.round then m.round else p.round⟩ else s.n.peers
def zhd (m:Message) (q:Peer):Int:=IntKind.i64.wrap ((if m.index<IntKind.i64.wrap (q.next-1) then m.index else IntKind.i64.wrap (q.next-1))+1)
def zbI (s:Step) (m:Message):List Peer:=setP (zaJ s m) (atM s m) fun q=>⟨q.node,if zhd m q>IntKind.i64.wrap (q.match_+1) then zhd m q else IntKind.i64.wrap (q.match_+1),q.match_,q.round⟩
def zcA (s:Step) (m:Message):List Peer:=setP (zaJ s m) (atM s m) fun q=>⟨q.node,q.next,if m.index>q.match_ then m.index else q.match_,q.round⟩
def zel (s:Step) (m:Message):List Peer:=setP (zcA s m) (atM s m) fun r=>⟨r.node,if IntKind.i64.wrap (r.match_+1)>r.next then IntKind.i64.wrap (r.match_+1) else r.next,r.match_,r.round⟩
def withP (s:Step) (l:List Peer):Step:=⟨{s.n with peers:=l},s.o⟩
def zbm (s:Step) (m:Message):Step:=zaB (withP s (zel s m))
def nowP (s:Step) (m:Message):Peer:=(zbm s m).n.peers.getD (atM s m) default
def za1 (s:Step) (m:Message):Step:=
 if zfk s m then s
 else if m.ok&&decide (m.index<=(zam s.n.kept).1) then (if (nowP s m).next<=(zam (zbm s m).n.kept).1 then zbd (toS (zbm s m) (nowP s m)) else zbd (zbm s m))
 else if m.ok then zbd (withP s (zaJ s m))
 else zbd (toS (withP s (zbI s m)) ((zbI s m).getD (atM s m) default))
theorem zdP (l:List Peer) (i:Nat) (f:Peer->Peer):(setP l i f).length=l.length:=List.length_set ..
theorem zby (s:Step) (m:Message):(zaJ s m).length=s.n.peers.length:=by
 unfold zaJ;split
 ·exact zdP ..
 ·rfl
theorem zdR (s:Step) (m:Message):(zbI s m).length=s.n.peers.length:=by rw [zbI,zdP,zby]
theorem zfo (s:Step) (m:Message):(zel s m).length=s.n.peers.length:=by rw [zel,zdP,zcA,zdP,zby]
theorem zhS (s:Step) (m:Message):(zbm s m).n.peers.length=s.n.peers.length:=by
 have:∀ x:Step,(zaB x).n.peers=x.n.peers:=fun x=>by unfold zaB;split<;>rfl
 rw [zbm,this];exact zfo s m
theorem zh1 (a b:Bool):zac a b false=(a&&b):=by cases a<;>rfl
theorem zjA (a b:Bool):zac a true b=(a||b):=by cases a<;>rfl
theorem zoM (s:Step) (m:Message):zac (zac (s.n.role != 4) true (m.term != s.n.kept.term)) true (decide (zaT s.n.peers m.from_<0))=zfk s m:=by rw [zjA,zjA];rfl
theorem zt6 (x:Step):(zaB x).o=x.o:=by unfold zaB;split<;>rfl
theorem znH (s:Step) (m:Message) (hf:Few 30000 s) (hy:s.o.ready.length<=9000):FnG Tryz.prog 32 3 (wMi s) [.ptr 2 0,dMessage.L.can m] (.tup []) (wMo (za1 s m)):=by
 obtain ⟨M,hM⟩:∃ M,za1 s m=M:=⟨_,rfl⟩
 rw [hM]
 refine FnG.of_vc (zak zsg fun _=>none) Tryz.func32 rfl (by decide) rfl 300 (p:=fun (V:List PE->Prop)=>let v0:=s.o;let v3:=m.ok;let v4:=m.index;let v5:=s.n;let v9:=default;let v16:=Out.lost (Step.o M);let v18:=v5.elapsed;let v21:=v5.round;let v31:=v5.kept;let v32:=v5.reads;let v33:=v5.peers;let v43:=v0.ready.length;let v45:=v32.length;let v46:=v0.messages.length;let v47:=(1:Int);let v51:=v33.length;let v55:=zaT v33 m.from_;let v57:=Int.toNat v55;let v58:=v5.role != 4;let v59:=decide (m.round<=v21);let v60:=List.getD v33 v57 v9;let v62:=zac v58 true (m.term != v31.term);let v63:=zac v3 (decide (v4<=(Prod.fst (zam v31)))) false;let v64:=zac v62 true (decide (v55<0));let v65:=if v59=true then List.set v33 v57 (Peer.mk v60.node v60.next v60.match_ (if m.round>v60.round then m.round else v60.round)) else v33;let v66:=v65.length;let v67:=List.getD v65 v57 v9;let v71:=v67.match_;let v72:=IntKind.wrap IntKind.i64 (v71+v47);let v73:=IntKind.wrap IntKind.i64 (v67.next-v47);let v74:=Node.mk v5.id v5.role v31 v5.commit v5.lead v18 v5.yes v65 v21 v32;let v75:=zbd (Step.mk v74 v0);let v81:=IntKind.wrap IntKind.i64 ((if v4<v73 then v4 else v73)+v47);let v82:=List.set v65 v57 (Peer.mk v67.node v67.next (if v4>v71 then v4 else v71) v67.round);let v83:=List.getD v82 v57 v9;let v86:=IntKind.wrap IntKind.i64 (v83.match_+v47);let v87:=List.set v65 v57 (Peer.mk v67.node (if v81>v72 then v81 else v72) v71 v67.round);let v88:=Node.mk v5.id v5.role v31 v5.commit v5.lead v18 v5.yes v87 v21 v32;let v89:=toS (Step.mk v88 v0) (List.getD v87 v57 v9);let v92:=zbd v89;let v98:=Node.mk v5.id v5.role v31 v5.commit v5.lead v18 v5.yes (List.set v82 v57 (Peer.mk v83.node (if v86>v83.next then v86 else v83.next) v83.match_ v83.round)) v21 v32;let v99:=zaB (Step.mk v98 v0);let v102:=zbd v99;let v108:=v99.o.ready.length;let v110:=v99.n.reads.length;let v111:=v99.o.messages.length;let v112:=v99.n.peers.length;let v115:=List.getD v99.n.peers v57 v9;let v117:=toS v99 v115;let v119:=zbd v117;let v126:=decide (v115.next<=(Prod.fst (zam v99.n.kept)));True/\(v31.entries.length<=17592186044416/\v5.yes.length<=17592186044416/\v51<=17592186044416/\v45<=17592186044416/\v0.records.length<=17592186044416/\v46<=17592186044416/\v43<=17592186044416/\v0.lost.length<=17592186044416/\True)/\(((!v58)=true->(!v58)=true)/\((!v58)=true->(!v58)=true)/\((!v58)=true->(!v58)=true)/\((!v58)=true->(!v58)=true)/\((!v58)=true->(!v58)=true)/\((!v58)=true->(!v58)=true)/\((!v58)=true->(!v58)=true)/\((!v58)=true->(!v58)=true)/\(v58=false->(!v58)=true)/\((!v62)=true->(!v62)=true)/\(v62=false->(!v62)=true)/\True)/\True/\(v64=true->qN0 v5 (Step.n M) (qN3 v5 (Step.n M) (qO13 v0 (Step.o M) (v0.lost=v16/\True))))/\(v64=false->((0:Int)<=v55/\v55<(↑v51:Int)/\True)/\True/\((v59=true->v57<v51)/\(v59=true->v57<v51)/\True)/\((v3=true->v3=true)/\(v3=true->v3=true)/\(v3=true->v31.entries.length<=17592186044416)/\(v3=true->v5.yes.length<=17592186044416)/\(v3=true->v66<=17592186044416)/\(v3=true->v45<=17592186044416)/\(v3=true->v0.records.length<=17592186044416)/\(v3=true->v46<=17592186044416)/\(v3=true->v43<=17592186044416)/\(v3=true->v0.lost.length<=17592186044416)/\(v3=true->v3=true)/\(v3=true->v3=true)/\(v3=true->v3=true)/\True)/\True/\(v63=true->(v57<v66/\v57<v66/\True)/\(v57<v82.length/\v57<v82.length/\v57<v82.length/\True)/\(SmallN v98/\SmallO v0/\List.length (Config.voters (za6 v98))<=4000/\True)/\(v57<v112/\v99.n.kept.entries.length<=17592186044416/\v99.n.yes.length<=17592186044416/\v112<=17592186044416/\v110<=17592186044416/\v99.o.records.length<=17592186044416/\v111<=17592186044416/\v108<=17592186044416/\v99.o.lost.length<=17592186044416/\True)/\True/\(v126=true->(v57<v112/\SmallN v99.n/\v111<=1000000/\True)/\(SmallN v117.n/\SmallO v117.o/\v117.o.ready.length<=10000/\v117.n.reads.length<=10000/\v117.n.peers.length<=10000/\True)/\qN0 v119.n (Step.n M) (qN3 v119.n (Step.n M) (qO13 v119.o (Step.o M) (v119.o.lost=v16/\True))))/\(v126=false->(SmallN v99.n/\SmallO v99.o/\v108<=10000/\v110<=10000/\v112<=10000/\True)/\qN0 v102.n (Step.n M) (qN3 v102.n (Step.n M) (qO13 v102.o (Step.o M) (v102.o.lost=v16/\True)))))/\(v63=false->True/\True/\((!v3)=true->(v57<v66/\v57<v66/\v57<v66/\True)/\(v57<v87.length/\SmallN v88/\v46<=1000000/\True)/\(SmallN v89.n/\SmallO v89.o/\v89.o.ready.length<=10000/\v89.n.reads.length<=10000/\v89.n.peers.length<=10000/\True)/\qN0 v92.n (Step.n M) (qN3 v92.n (Step.n M) (qO13 v92.o (Step.o M) (v92.o.lost=v16/\True))))/\((!v3)=false->(SmallN v74/\SmallO v0/\v43<=10000/\v45<=10000/\v66<=10000/\True)/\qN0 v75.n (Step.n M) (qN3 v75.n (Step.n M) (qO13 v75.o (Step.o M) (v75.o.lost=v16/\True))))))) (by kernel_rfl) ?_
 obtain ⟨b1,b2,b3,b4,b5⟩:=(hf.sn (by decide)).ls
 obtain ⟨c1,c2,c3,c4⟩:=(hf.so (by decide)).ls
 have hy1:s.o.ready.length<=10000:=Nat.le_trans hy (by decide)
 have hy2:(zbm s m).o.ready.length<=10000:=by rw [zbm,zt6];exact hy1
 intros
 refine ⟨trivial,⟨b1,b2,b3,b4,c1,c2,c3,c4,trivial⟩,?_,trivial,fun h=>?_,fun h=>?_⟩
 ·refine ⟨fun h=>h,fun h=>h,fun h=>h,fun h=>h,fun h=>h,fun h=>h,fun h=>h,fun h=>h,fun h=>(by rw [h];rfl),fun h=>h,fun h=>(by rw [h];rfl),trivial⟩
 ·have h:zfk s m=true:=(zoM s m).symm.trans h
  have e:M=s:=by rw [<- hM,za1,if_pos h]
  subst e
  repeat' apply And.intro
  all_goals first | trivial | rfl
 ·have h:zfk s m=false:=(zoM s m).symm.trans h
  have hp:=zdb s.n.peers m.from_
  have h0:0<=zaT s.n.peers m.from_:=by
   unfold zfk at h
   simp only [Bool.or_eq_false_iff,decide_eq_false_iff_not] at h
   omega
  have hat:atM s m<s.n.peers.length:=by unfold atM;omega
  have hlr:(zaJ s m).length<=17592186044416:=by rw [zby];exact b3
  refine ⟨⟨h0,hp,trivial⟩,trivial,⟨fun _=>hat,fun _=>hat,trivial⟩,?_,trivial,?_⟩
  ·refine ⟨fun h=>h,fun h=>h,fun _=>b1,fun _=>b2,fun _=>hlr,fun _=>b4,fun _=>c1,fun _=>c2,fun _=>c3,fun _=>c4,fun h=>h,fun h=>h,fun h=>h,trivial⟩
  ·refine ⟨fun h2=>?_,fun h2=>?_⟩
   ·have h2:(m.ok&&decide (m.index<=(zam s.n.kept).1))=true:=(zh1 _ _).symm.trans h2
    have k0:Few 30000 (withP s (zel s m)):=⟨hf.entries,hf.ec,hf.sc,hf.yes,by show (zel s m).length<=_;rw [zfo];exact hf.peers,hf.reads,hf.records,hf.messages,hf.ready,hf.lost⟩
    have k1:Few 30000 (zbm s m):=k0.count
    have k2:Few 30001 (toS (zbm s m) (nowP s m)):=k1.send _
    obtain ⟨d1,d2,d3,d4,d5⟩:=(k1.sn (by decide)).ls
    obtain ⟨f1,f2,f3,f4⟩:=(k1.so (by decide)).ls
    have g1:atM s m<(zaJ s m).length:=by rw [zby];exact hat
    have g2:atM s m<(zcA s m).length:=by rw [zcA,zdP];exact g1
    have g3:atM s m<(zbm s m).n.peers.length:=by rw [zhS];exact hat
    refine ⟨⟨g1,g1,trivial⟩,⟨g2,g2,g2,trivial⟩,⟨k0.sn (by decide),k0.so (by decide),k0.cf.1,trivial⟩,⟨g3,d1,d2,d3,d4,f1,f2,f3,f4,trivial⟩,trivial,fun h3=>?_,fun h3=>?_⟩
    ·have h3:(nowP s m).next<=(zam (zbm s m).n.kept).1:=of_decide_eq_true h3
     have e:M=zbd (toS (zbm s m) (nowP s m)):=by rw [<- hM,za1,if_neg (by rw [h];decide),if_pos h2,if_pos h3]
     subst e
     refine ⟨⟨g3,k1.sn (by decide),Nat.le_trans k1.messages (by decide),trivial⟩,⟨k2.sn (by decide),k2.so (by decide),hy2,Nat.le_trans k2.reads (by decide),Nat.le_trans k2.peers (by decide),trivial⟩,?_⟩
     repeat' apply And.intro
     all_goals first | trivial | rfl
    ·have h3:¬ (nowP s m).next<=(zam (zbm s m).n.kept).1:=of_decide_eq_false h3
     have e:M=zbd (zbm s m):=by rw [<- hM,za1,if_neg (by rw [h];decide),if_pos h2,if_neg h3]
     subst e
     refine ⟨⟨k1.sn (by decide),k1.so (by decide),hy2,Nat.le_trans k1.reads (by decide),Nat.le_trans k1.peers (by decide),trivial⟩,?_⟩
     repeat' apply And.intro
     all_goals first | trivial | rfl
   ·have h2:(m.ok&&decide (m.index<=(zam s.n.kept).1))=false:=(zh1 _ _).symm.trans h2
    have g1:atM s m<(zaJ s m).length:=by rw [zby];exact hat
    refine ⟨trivial,trivial,fun h3=>?_,fun h3=>?_⟩
    ·have h3:m.ok=false:=by
      have h4:(!m.ok)=true:=h3
      cases hk:m.ok
      ·rfl
      ·rw [hk] at h4;cases h4
     have k0:Few 30000 (withP s (zbI s m)):=⟨hf.entries,hf.ec,hf.sc,hf.yes,by show (zbI s m).length<=_;rw [zdR];exact hf.peers,hf.reads,hf.records,hf.messages,hf.ready,hf.lost⟩
     have k2:Few 30001 (toS (withP s (zbI s m)) ((zbI s m).getD (atM s m) default)):=k0.send _
     have g2:atM s m<(zbI s m).length:=by rw [zdR];exact hat
     have e:M=zbd (toS (withP s (zbI s m)) ((zbI s m).getD (atM s m) default)):=by rw [<- hM,za1,if_neg (by rw [h];decide),if_neg (by rw [h2];decide),if_neg (by rw [h3];decide)]
     subst e
     refine ⟨⟨g1,g1,g1,trivial⟩,⟨g2,k0.sn (by decide),Nat.le_trans k0.messages (by decide),trivial⟩,⟨k2.sn (by decide),k2.so (by decide),hy1,Nat.le_trans k2.reads (by decide),Nat.le_trans k2.peers (by decide),trivial⟩,?_⟩
     repeat' apply And.intro
     all_goals first | trivial | rfl
    ·have h3:m.ok=true:=by
      have h4:(!m.ok)=false:=h3
      cases hk:m.ok
      ·rw [hk] at h4;cases h4
      ·rfl
     have k0:Few 30000 (withP s (zaJ s m)):=⟨hf.entries,hf.ec,hf.sc,hf.yes,by show (zaJ s m).length<=_;rw [zby];exact hf.peers,hf.reads,hf.records,hf.messages,hf.ready,hf.lost⟩
     have e:M=zbd (withP s (zaJ s m)):=by rw [<- hM,za1,if_neg (by rw [h];decide),if_neg (by rw [h2];decide),if_pos h3]
     subst e
     refine ⟨⟨k0.sn (by decide),k0.so (by decide),hy1,Nat.le_trans k0.reads (by decide),Nat.le_trans k0.peers (by decide),trivial⟩,?_⟩
     repeat' apply And.intro
     all_goals first | trivial | rfl
def ziP:Ent:=zdk 32 3 mW dMessage.L vrW [1,0] glW fun s m=>([Few 30000 s,s.o.ready.length<=9000],.tup [],wMo (za1 s m))
theorem zgL:zaf Tryz.prog ziP:=zaY (fnB Tryz.func32 (by decide) rfl) fun s m h=>znH s m (h _ (by simp)) (h _ (by simp))
theorem Few.answer {B:Nat} {s:Step} (h:Few B s):Few (B+5000) (zbd s):=by
 have h1:=h.ready
 have h2:=h.reads
 have g:=h.mono (show B<=B+5000 by omega)
 have h3:=List.length_filter_le (fun r=>!zba s r) s.n.reads
 have h4:=List.length_filter_le (zba s) s.n.reads
 exact ⟨g.entries,g.ec,g.sc,g.yes,g.peers,by show (List.filter _ _).length<=_;omega,g.records,g.messages,by show (_++_:List Read).length<=_;simp only [List.length_append];omega,g.lost⟩
theorem Few.withP {B:Nat} {s:Step} {l:List Peer} (h:Few B s) (hl:l.length<=5000):Few B (withP s l):=⟨h.entries,h.ec,h.sc,h.yes,hl,h.reads,h.records,h.messages,h.ready,h.lost⟩
theorem Few.matched {B:Nat} {s:Step} (m:Message) (h:Few B s):Few (B+5001) (za1 s m):=by
 have k0:Few B (zbm s m):=(h.withP (by rw [zfo];exact h.peers)).count
 unfold za1
 split
 ·exact h.mono (by omega)
 split
 ·split
  ·exact (Few.answer (k0.send _)).mono (by omega)
  ·exact k0.answer.mono (by omega)
 split
 ·exact (Few.answer (h.withP (by rw [zby];exact h.peers))).mono (by omega)
 ·exact (Few.answer (Few.send _ (h.withP (by rw [zdR];exact h.peers)))).mono (by omega)
def zcr (n:Node) (m:Message):Bool:=decide (n.kept.term<m.term)&&m.kind != 1&&!(m.kind==2&&m.ok)
def zaW (n:Node) (m:Message):Step:=if zcr n m then za9 (zag n) m.term else zag n
def zbh (n:Node) (m:Message):Step:=if mayM n m then (if m.kind=2 then zaF (zaW n m) m else zbb (zaW n m) m) else zag n
def zbS (n:Node) (m:Message):Step×Int:=if zan n then (zbh n m,0) else (⟨zeroN,outZ⟩,1)
theorem zft (n:Node) (m:Message) (hn:SmallN n) (hr:zan n=false):FnC Tryz.prog 10 [dNode.can n,dMessage.can m] (refO zeroN outZ 1) D3d:=by
 refine FnG.of_vc (zak zii fun _=>none) Tryz.func10 rfl (by decide) rfl 300 (p:=fun (V:List PE->Prop)=>let v14:=(1:Int) != 0;True/\(SmallN n/\zan n=false/\True)/\True/\True/\(v14=true->True/\qN0 zeroN zeroN (qN24 zeroN zeroN (qO25 outZ outZ ((1:Int)=1/\True))))/\(v14=false->False)) (by kernel_rfl) ?_
 simp only [qN0,qN24,qO25,imp_self,implies_true,true_and,and_true,zah,zai]
 exact ⟨⟨hn,hr⟩,fun h=>absurd h (by decide)⟩
noncomputable def tabHr:List Ent:=[zl4,zb4,zqN,zqV,zlw,zq4,eEnd]
theorem zsb:∀ e∈tabHr,zaf Tryz.prog e:=zaa zcD (zaa zaX (zaa zfS (zaa zfa (zaa zhL (zaa zku (zaa zfz zad))))))
theorem Few.pb {B:Nat} {s:Step} (m:Message) (h:Few B s) (hb:16<=B):Few (B+5002) (zaF s m):=by
 unfold zaF
 split
 ·exact (h.yr hb).stand
 ·exact (h.yr hb).mono (by omega)
theorem Few.vt {B:Nat} {s:Step} (m:Message) (h:Few B s) (hb:16<=B):Few (B+5002) (zbb s m):=by
 unfold zbb
 split
 ·exact (h.yr hb).rule.mono (by omega)
 ·exact (h.yr hb).mono (by omega)
theorem zhC (n:Node) (m:Message) (hf:Few 40000 (zag n)) (hm:SmallM m) (hr:zan n=true) (hk:m.kind=2\/m.kind=4):FnC Tryz.prog 10 [dNode.can n,dMessage.can m] (refO (zbh n m).n (zbh n m).o 0) D3d:=by
 refine FnG.of_vc (zak zsb fun _=>none) Tryz.func10 rfl (by decide) rfl 300 (p:=fun (V:List PE->Prop)=>let v1:=m.kind;let v8:=Step.n (zbh n m);let v9:=Step.o (zbh n m);let v26:=(0:Int);let v37:=Out.mk [] [] [] [];let v38:=Step.mk n v37;let v39:=v1==1;let v40:=v1==3;let v41:=v1==6;let v42:=v1==2;let v43:=v1==5;let v44:=v1==7;let v45:=v1==4;let v46:=zbb v38 m;let v47:=zaF v38 m;let v49:=za9 v38 m.term;let v58:=decide (m.term>n.kept.term);let v61:=zbb v49 m;let v63:=zaF v49 m;let v78:=zac v58 (v1 != 1) false;let v79:=zac v78 (!zac v42 m.ok false) false;True/\(SmallN n/\zan n=true/\True)/\True/\True/\((v26 != v26)=true->True/\qN0 zeroN v8 (qN24 zeroN v8 (qO25 outZ v9 (v26=v26/\True))))/\((v26 != v26)=false->(n.kept.entries.length<=17592186044416/\n.yes.length<=17592186044416/\n.peers.length<=17592186044416/\n.reads.length<=17592186044416/\SmallM m/\True)/\True/\((!mayM n m)=true->(SmallN n/\SmallO v37/\True)/\qN0 n v8 (qN24 n v8 ([]=v9.records/\[]=v9.messages/\[]=v9.ready/\[]=v9.lost/\v26=v26/\True)))/\((!mayM n m)=false->((v58=true->v58=true)/\(v58=true->v58=true)/\(v58=true->v58=true)/\(v78=true->v78=true)/\(v78=true->v78=true)/\(v78=true->v78=true)/\((v78&&v42)=true->(v78&&v42)=true)/\(v78=true->v78=true)/\(v78=true->v42=true->(v78&&v42)=true)/\(v78=true->v78=true)/\(v78=true->v78=true)/\True)/\True/\(v79=true->(Few 70000 v38/\True)/\True/\True/\True/\(v39=true->False)/\(v39=false->True/\True/\(v42=true->(Few 60000 v49/\True)/\(SmallN v63.n/\SmallO v63.o/\True)/\qN0 v63.n v8 (qN24 v63.n v8 (qO25 v63.o v9 (v26=v26/\True))))/\(v42=false->True/\True/\(v40=true->False)/\(v40=false->True/\True/\(v45=true->(Few 60000 v49/\True)/\(SmallN v61.n/\SmallO v61.o/\True)/\qN0 v61.n v8 (qN24 v61.n v8 (qO25 v61.o v9 (v26=v26/\True))))/\(v45=false->True/\True/\(v43=true->False)/\(v43=false->True/\True/\(v41=true->False)/\(v41=false->True/\True/\(v44=true->False)/\(v44=false->(SmallN v49.n/\SmallO v49.o/\True)/\qN0 v49.n v8 (qN24 v49.n v8 (qO25 v49.o v9 (v26=v26/\True)))))))))))/\(v79=false->True/\True/\True/\(v39=true->False)/\(v39=false->True/\True/\(v42=true->(Few 60000 v38/\True)/\(SmallN v47.n/\SmallO v47.o/\True)/\qN0 v47.n v8 (qN24 v47.n v8 (qO25 v47.o v9 (v26=v26/\True))))/\(v42=false->True/\True/\(v40=true->False)/\(v40=false->True/\True/\(v45=true->(Few 60000 v38/\True)/\(SmallN v46.n/\SmallO v46.o/\True)/\qN0 v46.n v8 (qN24 v46.n v8 (qO25 v46.o v9 (v26=v26/\True))))/\(v45=false->True/\True/\(v43=true->False)/\(v43=false->True/\True/\(v41=true->False)/\(v41=false->True/\True/\(v44=true->False)/\(v44=false->(SmallN n/\SmallO v37/\True)/\qN0 n v8 (qN24 n v8 ([]=v9.records/\[]=v9.messages/\[]=v9.ready/\[]=v9.lost/\v26=v26/\True))))))))))))) (by kernel_rfl) ?_
 simp only [qN0,qN24,qO25,imp_self,implies_true,true_and,and_true,zah,zai,notF]
 have k0:Few 50000 (zag n):=hf.mono (by decide)
 have kf:=hf.fall m.term
 obtain ⟨b1,b2,b3,b4,b5⟩:=(hf.sn (by decide)).ls
 have hm0:mayM n m=mayM (zag n).n m:=rfl
 rcases hk with hk | hk
 ·have d1:(m.kind==1)=false:=by rw [hk];rfl
  have d2:(m.kind==2)=true:=by rw [hk];rfl
  simp only [qN0,qN24,qO25,d1,d2,Bool.true_eq_false,Bool.false_eq_true,false_implies,true_implies,forall_const,true_and,and_true,imp_self]
  refine ⟨⟨hf.sn (by decide),hr⟩,fun h=>absurd h (by decide),fun _=>⟨⟨b1,b2,b3,b4,hm⟩,fun h=>?_,fun h=>⟨fun g=>(by first | trivial | simpa using g),fun g=>?_,fun g=>?_⟩⟩⟩
  ·have h:mayM n m=false:=by simpa using h
   have e:zbh n m=zag n:=by rw [zbh,if_neg (by rw [h];decide)]
   rw [e]
   refine ⟨⟨k0.sn (by decide),k0.so (by decide)⟩,?_⟩
   repeat' apply And.intro
   all_goals rfl
  ·have h:mayM n m=true:=by simpa using h
   have hfb:zcr n m=true:=by rw [zcr,d2];exact g
   have e:zbh n m=zaF (za9 (zag n) m.term) m:=by rw [zbh,if_pos h,if_pos hk,zaW,if_pos hfb]
   have k1:=kf.pb m (by decide)
   rw [e]
   refine ⟨hf.mono (by decide),kf.mono (by decide),⟨k1.sn (by decide),k1.so (by decide)⟩,?_⟩
   repeat' apply And.intro
   all_goals rfl
  ·have h:mayM n m=true:=by simpa using h
   have hfb:zcr n m=false:=by rw [zcr,d2];exact g
   have e:zbh n m=zaF (zag n) m:=by rw [zbh,if_pos h,if_pos hk,zaW,if_neg (by rw [hfb];decide)]
   have k1:=k0.pb m (by decide)
   rw [e]
   refine ⟨k0.mono (by decide),⟨k1.sn (by decide),k1.so (by decide)⟩,?_⟩
   repeat' apply And.intro
   all_goals rfl
 ·have d1:(m.kind==1)=false:=by rw [hk];rfl
  have d2:(m.kind==2)=false:=by rw [hk];rfl
  have d3:(m.kind==3)=false:=by rw [hk];rfl
  have d4:(m.kind==4)=true:=by rw [hk];rfl
  simp only [qN0,qN24,qO25,d1,d2,d3,d4,Bool.true_eq_false,Bool.false_eq_true,false_implies,true_implies,forall_const,true_and,and_true,imp_self]
  refine ⟨⟨hf.sn (by decide),hr⟩,fun h=>absurd h (by decide),fun _=>⟨⟨b1,b2,b3,b4,hm⟩,fun h=>?_,fun h=>⟨fun g=>(by first | trivial | simpa using g),fun g=>?_,fun g=>?_⟩⟩⟩
  ·have h:mayM n m=false:=by simpa using h
   have e:zbh n m=zag n:=by rw [zbh,if_neg (by rw [h];decide)]
   rw [e]
   refine ⟨⟨k0.sn (by decide),k0.so (by decide)⟩,?_⟩
   repeat' apply And.intro
   all_goals rfl
  ·have h:mayM n m=true:=by simpa using h
   have hfb:zcr n m=true:=by rw [zcr,d2];exact g
   have e:zbh n m=zbb (za9 (zag n) m.term) m:=by rw [zbh,if_pos h,if_neg (by rw [hk];decide),zaW,if_pos hfb]
   have k1:=kf.vt m (by decide)
   rw [e]
   refine ⟨hf.mono (by decide),kf.mono (by decide),⟨k1.sn (by decide),k1.so (by decide)⟩,?_⟩
   repeat' apply And.intro
   all_goals rfl
  ·have h:mayM n m=true:=by simpa using h
   have hfb:zcr n m=false:=by rw [zcr,d2];exact g
   have e:zbh n m=zbb (zag n) m:=by rw [zbh,if_pos h,if_neg (by rw [hk];decide),zaW,if_neg (by rw [hfb];decide)]
   have k1:=k0.vt m (by decide)
   rw [e]
   refine ⟨k0.mono (by decide),⟨k1.sn (by decide),k1.so (by decide)⟩,?_⟩
   repeat' apply And.intro
   all_goals rfl
theorem zqf (n:Node) (m:Message) (hf:Few 40000 (zag n)) (hm:SmallM m) (hk:m.kind=2\/m.kind=4):FnC Tryz.prog 10 [dNode.can n,dMessage.can m] (refO (zbS n m).1.n (zbS n m).1.o (zbS n m).2) D3d:=by
 unfold zbS
 cases hr:zan n
 ·exact zft n m (hf.sn (by decide)) hr
 ·exact zhC n m hf hm hr hk
def zqU:Ent:=ent2 10 dNode dMessage fun n m=>([Few 40000 (zag n),SmallM m,m.kind=2\/m.kind=4],refO (zbS n m).1.n (zbS n m).1.o (zbS n m).2,D3d)
theorem zoc:zaf Tryz.prog zqU:=za3 (fnB Tryz.func10 (by decide) rfl) fun n m h=>zqf n m (h _ (by simp)) (h _ (by simp)) (h _ (by simp))
def zdG (n:Node) (m:Message):Step:=if mayM n m then za1 (zaW n m) m else zag n
noncomputable def tabHm:List Ent:=[zl4,zb4,zqN,zqV,ziP,eEnd]
theorem zsc:∀ e∈tabHm,zaf Tryz.prog e:=zaa zcD (zaa zaX (zaa zfS (zaa zfa (zaa zgL (zaa zfz zad)))))
theorem zgG (n:Node) (t:Int):(za9 (zag n) t).o.ready=[]:=by
 unfold za9 zce
 split<;>rfl
theorem zqe (n:Node) (m:Message) (hf:Few 20000 (zag n)) (hm:SmallM m) (hr:zan n=true) (hk:m.kind=6):FnC Tryz.prog 10 [dNode.can n,dMessage.can m] (refO (zdG n m).n (zdG n m).o 0) D3d:=by
 refine FnG.of_vc (zak zsc fun _=>none) Tryz.func10 rfl (by decide) rfl 300 (p:=fun (V:List PE->Prop)=>let v1:=m.kind;let v8:=Step.o (zdG n m);let v11:=Step.n (zdG n m);let v18:=(0:Int);let v37:=Out.mk [] [] [] [];let v38:=Step.mk n v37;let v39:=v1==1;let v40:=v1==5;let v41:=v1==7;let v42:=v1==4;let v43:=v1==2;let v44:=v1==3;let v45:=v1==6;let v46:=za1 v38 m;let v48:=za9 v38 m.term;let v54:=decide (m.term>n.kept.term);let v56:=za1 v48 m;let v67:=zac v54 (v1 != 1) false;let v68:=zac v67 (!zac v43 m.ok false) false;True/\(SmallN n/\zan n=true/\True)/\True/\True/\((v18 != v18)=true->True/\qN0 zeroN v11 (qN24 zeroN v11 (qO25 outZ v8 (v18=v18/\True))))/\((v18 != v18)=false->(n.kept.entries.length<=17592186044416/\n.yes.length<=17592186044416/\n.peers.length<=17592186044416/\n.reads.length<=17592186044416/\SmallM m/\True)/\True/\((!mayM n m)=true->(SmallN n/\SmallO v37/\True)/\qN0 n v11 (qN24 n v11 ([]=v8.records/\[]=v8.messages/\[]=v8.ready/\[]=v8.lost/\v18=v18/\True)))/\((!mayM n m)=false->((v54=true->v54=true)/\(v54=true->v54=true)/\(v54=true->v54=true)/\(v67=true->v67=true)/\(v67=true->v67=true)/\(v67=true->v67=true)/\((v67&&v43)=true->(v67&&v43)=true)/\(v67=true->v67=true)/\(v67=true->v43=true->(v67&&v43)=true)/\(v67=true->v67=true)/\(v67=true->v67=true)/\True)/\True/\(v68=true->(Few 70000 v38/\True)/\True/\True/\True/\(v39=true->False)/\(v39=false->True/\True/\(v43=true->False)/\(v43=false->True/\True/\(v44=true->False)/\(v44=false->True/\True/\(v42=true->False)/\(v42=false->True/\True/\(v40=true->False)/\(v40=false->True/\True/\(v45=true->(Few 30000 v48/\v48.o.ready.length<=9000/\True)/\(SmallN v56.n/\SmallO v56.o/\True)/\qN0 v56.n v11 (qN24 v56.n v11 (qO25 v56.o v8 (v18=v18/\True))))/\(v45=false->True/\True/\(v41=true->False)/\(v41=false->(SmallN v48.n/\SmallO v48.o/\True)/\qN0 v48.n v11 (qN24 v48.n v11 (qO25 v48.o v8 (v18=v18/\True)))))))))))/\(v68=false->True/\True/\True/\(v39=true->False)/\(v39=false->True/\True/\(v43=true->False)/\(v43=false->True/\True/\(v44=true->False)/\(v44=false->True/\True/\(v42=true->False)/\(v42=false->True/\True/\(v40=true->False)/\(v40=false->True/\True/\(v45=true->(Few 30000 v38/\(0:Nat)<=9000/\True)/\(SmallN v46.n/\SmallO v46.o/\True)/\qN0 v46.n v11 (qN24 v46.n v11 (qO25 v46.o v8 (v18=v18/\True))))/\(v45=false->True/\True/\(v41=true->False)/\(v41=false->(SmallN n/\SmallO v37/\True)/\qN0 n v11 (qN24 n v11 ([]=v8.records/\[]=v8.messages/\[]=v8.ready/\[]=v8.lost/\v18=v18/\True))))))))))))) (by kernel_rfl) ?_
 simp only [qN0,qN24,qO25,imp_self,implies_true,true_and,and_true,zah,zai,notF]
 have k0:Few 20000 (zag n):=hf
 have kf:=hf.fall m.term
 obtain ⟨b1,b2,b3,b4,b5⟩:=(hf.sn (by decide)).ls
 have d1:(m.kind==1)=false:=by rw [hk];rfl
 have d2:(m.kind==2)=false:=by rw [hk];rfl
 have d3:(m.kind==3)=false:=by rw [hk];rfl
 have d4:(m.kind==4)=false:=by rw [hk];rfl
 have d5:(m.kind==5)=false:=by rw [hk];rfl
 have d6:(m.kind==6)=true:=by rw [hk];rfl
 simp only [qN0,qN24,qO25,d1,d2,d3,d4,d5,d6,Bool.true_eq_false,Bool.false_eq_true,false_implies,true_implies,forall_const,true_and,and_true,imp_self]
 refine ⟨⟨hf.sn (by decide),hr⟩,fun h=>absurd h (by decide),fun _=>⟨⟨b1,b2,b3,b4,hm⟩,fun h=>?_,fun h=>⟨fun g=>(by first | trivial | simpa using g),fun g=>?_,fun g=>?_⟩⟩⟩
 ·have h:mayM n m=false:=by simpa using h
  have e:zdG n m=zag n:=by rw [zdG,if_neg (by rw [h];decide)]
  rw [e]
  refine ⟨⟨k0.sn (by decide),k0.so (by decide)⟩,?_⟩
  repeat' apply And.intro
  all_goals rfl
 ·have h:mayM n m=true:=by simpa using h
  have hfb:zcr n m=true:=by rw [zcr,d2];exact g
  have e:zdG n m=za1 (za9 (zag n) m.term) m:=by rw [zdG,if_pos h,zaW,if_pos hfb]
  have k1:=kf.matched m
  rw [e]
  refine ⟨hf.mono (by decide),⟨kf.mono (by decide),by show (za9 (zag n) m.term).o.ready.length<=_;rw [zgG];decide⟩,⟨k1.sn (by decide),k1.so (by decide)⟩,?_⟩
  repeat' apply And.intro
  all_goals rfl
 ·have h:mayM n m=true:=by simpa using h
  have hfb:zcr n m=false:=by rw [zcr,d2];exact g
  have e:zdG n m=za1 (zag n) m:=by rw [zdG,if_pos h,zaW,if_neg (by rw [hfb];decide)]
  have k1:=k0.matched m
  rw [e]
  refine ⟨⟨k0.mono (by decide),Nat.zero_le _⟩,⟨k1.sn (by decide),k1.so (by decide)⟩,?_⟩
  repeat' apply And.intro
  all_goals rfl
def zqd (n:Node) (m:Message):Step:=if m.kind=6 then zdG n m else zbh n m
def zem (n:Node) (m:Message):Step×Int:=if zan n then (zqd n m,0) else (⟨zeroN,outZ⟩,1)
theorem zsY (n:Node) (m:Message) (hf:Few 20000 (zag n)) (hm:SmallM m) (hk:m.kind=2\/m.kind=4\/m.kind=6):FnC Tryz.prog 10 [dNode.can n,dMessage.can m] (refO (zem n m).1.n (zem n m).1.o (zem n m).2) D3d:=by
 unfold zem
 cases hr:zan n
 ·exact zft n m (hf.sn (by decide)) hr
 ·rw [if_pos rfl,zqd]
  by_cases h6:m.kind=6
  ·rw [if_pos h6];exact zqe n m hf hm hr h6
  ·rw [if_neg h6];exact zhC n m (hf.mono (by decide)) hm hr (by omega)
def zu8:Ent:=ent2 10 dNode dMessage fun n m=>([Few 20000 (zag n),SmallM m,m.kind=2\/m.kind=4\/m.kind=6],refO (zem n m).1.n (zem n m).1.o (zem n m).2,D3d)
theorem zqT:zaf Tryz.prog zu8:=za3 (fnB Tryz.func10 (by decide) rfl) fun n m h=>zsY n m (h _ (by simp)) (h _ (by simp)) (h _ (by simp))
end Go.Proofs.YtkhphiahindnnaaGreat
namespace Go.Proofs.YtkhphiahindnnaaGreat
open Go.RowKit Go.ChangeShapes Go.WideShapes Go.Deep
structure Gone (n x:Node):Prop where
 good:Good2 x
 fwd:Fwd n x
theorem Gone.of {n m x:Node} (h:Gone m x) (hf:Fwd n m):Gone n x:=⟨h.good,hf.trans h.fwd⟩
structure Near (n:Node):Prop where
 term:n.kept.term<=800000000
 last:n.kept.snap.index+n.kept.entries.length<=800000000
 round:n.round<=800000000
 len:n.kept.entries.length<=8000
theorem zbU {n:Node} (h:n.role≠4):zdt n=(decide (n.peers=[])&&decide (n.reads=[])):=by rw [zdt,if_neg h]
theorem zcw {n:Node} (h:n.role≠4) (hr:zdt n=true):n.peers=[]/\n.reads=[]:=by
 rw [zbU h] at hr
 simpa using hr
theorem zv2 (x:Int):isC [x]=true:=by simp [isC]
theorem zg4:isC []=true:=by simp [isC]
theorem zmp {s:Step} {role:Int} (h:Core s.n):Core (runS s role).n:=
 ⟨h.id,h.len,h.on,h.term,h.vote,h.round,⟨Int.le_refl _,by show (0:Int)<=_;decide⟩,h.last,⟨Int.le_refl _,by show (0:Int)<=_;decide⟩,h.lo,h.hi,zv2 _,fun y hy=>by
  have:y∈[s.n.id]:=hy
  rw [List.mem_singleton] at this;subst this;exact h.id,h.confs⟩
theorem zoQ (s:Step) (role:Int):Fwd s.n (runS s role).n:=Fwd.of_kept rfl rfl (Int.le_refl _)
theorem zj3 {s:Step} (h:Core s.n) (hl:s.n.kept.entries.length<9000) (hi:s.n.kept.snap.index+s.n.kept.entries.length<900000000) (hr:s.n.reads.length<=100):Gone s.n (zeF s).n:=by
 have hid:=h.id
 have k1:Core (ledS s).n:=⟨h.id,h.len,h.on,h.term,h.vote,h.round,⟨by show 0<=s.n.id;omega,by show s.n.id<=_;omega⟩,h.last,⟨Int.le_refl _,by show (0:Int)<=_;decide⟩,h.lo,h.hi,zg4,fun y hy=>(by cases hy),h.confs⟩
 have hk:cfOk zgy:=fun e=>absurd (show (1:Int)=2 from e) (by decide)
 have k2:=zfO k1 hl hi hk
 have k3:=zeb k2
 have hb:=(zdA h.on).1
 have hp:zf6 (layS (ledS s) zgy).n=true:=by
  refine zjB k1 hl hi hk (by show (1:Int)≠2;decide) ?_ hr fun p hp=>?_
  ·show ((zay s.n).map (zd7 s)).map (·.node)=_
   rw [List.map_map,show ((fun p:Peer=>p.node)∘zd7 s)=id from rfl,List.map_id]
   show zay s.n=za8 (allC (za6 (ledS s).n)) _
   rfl
  ·have hp:p∈(zay s.n).map (zd7 s):=hp
   obtain ⟨o,_,rfl⟩:=List.mem_map.1 hp
   have e:(zd7 s o).next=s.n.kept.snap.index+s.n.kept.entries.length+1:=by
    show IntKind.i64.wrap ((zam s.n.kept).1+1)=_
    rw [zax h.on,zaD ⟨by omega,by omega⟩]
   have hro:=h.round
   unfold zdc
   rw [e,zaD (n:=s.n.kept.snap.index+s.n.kept.entries.length+1-1) ⟨by omega,by omega⟩]
   simp only [Bool.and_eq_true,decide_eq_true_eq,wi_iff]
   refine ⟨⟨⟨⟨Int.le_refl _,?_⟩,?_⟩,?_⟩,Int.le_refl _,hro.1⟩
   ·show (0:Int)<=s.n.kept.snap.index+s.n.kept.entries.length+1;omega
   ·show (0:Int)<_;omega
   ·show s.n.kept.snap.index+s.n.kept.entries.length+1-1<=s.n.kept.snap.index+s.n.kept.entries.length+1;omega
 have f1:Fwd s.n (ledS s).n:=Fwd.of_kept rfl rfl (Int.le_refl _)
 refine ⟨⟨k3.1,?_,?_⟩,f1.trans ((zlm k1 hl).trans k3.2)⟩
 ·have e:(zaB (layS (ledS s) zgy)).n.role=4:=by rcases ziZ (layS (ledS s) zgy) with e | ⟨c,_,_,e⟩<;>rw [e]<;>rfl
  have e':(zeF s).n.role=4:=e
  exact ⟨by rw [e'];decide,by rw [e'];decide⟩
 ·show zdt (zaB (layS (ledS s) zgy)).n=true
  rw [zea,zdt,if_pos (show (layS (ledS s) zgy).n.role=4 from rfl)];exact hp
theorem zhr {s:Step} (h:Core s.n) (ht:s.n.kept.term<900000000) (hl:s.n.kept.entries.length<9000) (hi:s.n.kept.snap.index+s.n.kept.entries.length<900000000) (hp:s.n.peers=[]/\s.n.reads=[]):Gone s.n (zbV s).n:=by
 have h0:=h.term
 have hid:=h.id
 have e:IntKind.i64.wrap (s.n.kept.term+1)=s.n.kept.term+1:=zaD ⟨by omega,by omega⟩
 have k1:Core (stand1 s).n:=zmp (zgb h (by rw [e];omega) ⟨by omega,by omega⟩)
 have f1:Fwd s.n (stand1 s).n:=(zib (.inl (by rw [e];omega))).trans (zoQ _ _)
 unfold zbV
 split
 ·refine (zj3 k1 hl hi ?_).of f1
  show s.n.reads.length<=100
  rw [hp.2];decide
 ·refine ⟨⟨k1,⟨by show (1:Int)<=3;decide,by show (3:Int)<=4;decide⟩,?_⟩,f1⟩
  have e:zdt (stand1 s).n=(decide (s.n.peers=[])&&decide (s.n.reads=[])):=zbU (by show (3:Int)≠4;decide)
  show zdt (stand1 s).n=true
  rw [e,hp.1,hp.2];rfl
theorem zvL (n:Node) (h:0<=n.elapsed/\n.elapsed<=1000):0<=elap n/\elap n<=1000:=by
 have e:IntKind.i64.wrap (n.elapsed+1)=n.elapsed+1:=zaD ⟨by omega,by omega⟩
 unfold elap
 rw [e];split<;>omega
theorem Good2.elapsed {n:Node} {e:Int} (h:Good2 n) (he:0<=e/\e<=1000):Good2 {n with elapsed:=e}:=
 ⟨⟨h.core.id,h.core.len,h.core.on,h.core.term,h.core.vote,h.core.round,h.core.lead,h.core.last,he,h.core.lo,h.core.hi,h.core.yes,h.core.yesn,h.core.confs⟩,h.role,h.rest⟩
theorem zo3 {n:Node} (h:Good2 n) (hn:Near n):Gone n (zcM n).n:=by
 have he:=zvL n h.core.elapsed
 have g1:Gone n (tick1 n).n:=⟨h.elapsed he,Fwd.of_kept rfl rfl (Int.le_refl _)⟩
 unfold zcM
 split
 ·split
  ·exact ⟨h.elapsed ⟨Int.le_refl _,by decide⟩,Fwd.of_kept rfl rfl (Int.le_refl _)⟩
  ·exact g1
 rename_i hr
 have hp:=zcw hr h.rest
 split
 ·exact g1
 have k1:Core (runS (tick1 n) 2).n:=zmp g1.good.core
 have f1:Fwd n (runS (tick1 n) 2).n:=g1.fwd.trans (zoQ _ _)
 have a1:=hn.term
 have a2:=hn.len
 have a3:=hn.last
 split
 ·exact (zhr k1 (by show n.kept.term<_;omega) (by show n.kept.entries.length<_;omega) (by show n.kept.snap.index+(n.kept.entries.length:Int)<_;omega) hp).of f1
 ·refine ⟨⟨k1,⟨by show (1:Int)<=2;decide,by show (2:Int)<=4;decide⟩,?_⟩,f1⟩
  have e:zdt (runS (tick1 n) 2).n=(decide (n.peers=[])&&decide (n.reads=[])):=zbU (by show (2:Int)≠4;decide)
  show zdt (runS (tick1 n) 2).n=true
  rw [e,hp.1,hp.2];rfl
theorem zkq {s:Step} {t:Int} (h:Core s.n) (ht:0<=t/\t<=900000000):Gone s.n (za9 s t).n/\(za9 s t).n.role=1:=by
 have e:(za9 s t).n={(zce s t).n with role:=1,yes:=[],peers:=[],reads:=[]}:=rfl
 have k1:Core (zce s t).n/\Fwd s.n (zce s t).n:=by
  unfold zce
  split
  ·rename_i hlt
   have a:=zgb (s:=s) (t:=t) (v:=0) h ht ⟨Int.le_refl _,by decide⟩
   refine ⟨⟨a.id,a.len,a.on,a.term,a.vote,a.round,⟨Int.le_refl _,by show (0:Int)<=_;decide⟩,a.last,a.elapsed,a.lo,a.hi,a.yes,a.yesn,a.confs⟩,?_⟩
   exact (zib (t:=t) (v:=0) (.inl hlt)).trans (Fwd.of_kept rfl rfl (Int.le_refl _))
  ·exact ⟨h,Fwd.refl _⟩
 obtain ⟨c,f⟩:=k1
 refine ⟨⟨⟨⟨c.id,c.len,c.on,c.term,c.vote,c.round,c.lead,c.last,c.elapsed,c.lo,c.hi,zg4,fun y hy=>(by cases hy),c.confs⟩,⟨by show (1:Int)<=1;decide,by show (1:Int)<=4;decide⟩,?_⟩,f.trans (Fwd.of_kept rfl rfl (Int.le_refl _))⟩,rfl⟩
 rw [zbU (by show (1:Int)≠4;decide)];rfl
theorem zrH {l:List Int} {v:Int} (h:isC l=true) (hl:∀ y∈l,1<=y/\y<=5) (hv:1<=v/\v<=5):isC (zcn l v)=true/\∀ y∈zcn l v,1<=y/\y<=5:=by
 unfold zcn
 rw [if_pos h]
 split
 ·rename_i h16
  refine ⟨isC_iff.2 ⟨zco (isC_iff.1 h).1,h16⟩,fun y hy=>?_⟩
  rcases putL_mem.1 hy with rfl | hy
  ·exact hv
  ·exact hl y hy
 ·exact ⟨zg4,fun y hy=>by cases hy⟩
theorem zlO {s:Step} {m:Message} {role term:Int} (h:Good2 s.n) (hf:1<=m.from_/\m.from_<=5):Gone s.n (yesR s m role term).n:=by
 unfold yesR
 split
 ·have c:=h.core
  have w:=zrH c.yes c.yesn hf
  exact ⟨⟨⟨c.id,c.len,c.on,c.term,c.vote,c.round,c.lead,c.last,c.elapsed,c.lo,c.hi,w.1,w.2,c.confs⟩,h.role,h.rest⟩,Fwd.of_kept rfl rfl (Int.le_refl _)⟩
 ·exact ⟨h,Fwd.refl _⟩
theorem zjj {s:Step} {m:Message} {role term:Int} (h:yesB s m role term=true):s.n.role=role/\(yesR s m role term).n.role=role/\(yesR s m role term).n.peers=s.n.peers/\(yesR s m role term).n.reads=s.n.reads/\(yesR s m role term).n.kept=s.n.kept:=by
 unfold yesB at h
 rw [Bool.and_eq_true] at h
 have hr:s.n.role=role:=by
  have:=h.1
  unfold zfZ at this
  simp only [Bool.and_eq_true,beq_iff_eq] at this
  exact this.1.1
 unfold yesR
 rw [if_pos h.1]
 exact ⟨hr,hr,rfl,rfl,rfl⟩
structure Room (n:Node):Prop where
 term:n.kept.term<900000000
 len:n.kept.entries.length<9000
 last:n.kept.snap.index+n.kept.entries.length<900000000
theorem zla {s:Step} {m:Message} (h:Good2 s.n) (hf:1<=m.from_/\m.from_<=5) (hr:Room s.n):Gone s.n (zaF s m).n:=by
 have g:=zlO (m:=m) (role:=2) (term:=IntKind.i64.wrap (s.n.kept.term+1)) h hf
 unfold zaF
 split
 ·rename_i hy
  obtain ⟨e0,e1,e2,e3,e4⟩:=zjj hy
  have hp:=zcw (by rw [e0];decide) h.rest
  exact (zhr g.good.core (by rw [e4];exact hr.term) (by rw [e4];exact hr.len) (by rw [e4];exact hr.last) ⟨by rw [e2];exact hp.1,by rw [e3];exact hp.2⟩).of g.fwd
 ·exact g
theorem zns {s:Step} {m:Message} (h:Good2 s.n) (hf:1<=m.from_/\m.from_<=5) (hr:Room s.n):Gone s.n (zbb s m).n:=by
 have g:=zlO (m:=m) (role:=3) (term:=s.n.kept.term) h hf
 unfold zbb
 split
 ·rename_i hy
  obtain ⟨e0,e1,e2,e3,e4⟩:=zjj hy
  have hp:=zcw (by rw [e0];decide) h.rest
  exact (zj3 g.good.core (by rw [e4];exact hr.len) (by rw [e4];exact hr.last) (by rw [e3,hp.2];decide)).of g.fwd
 ·exact g
theorem znr {s:Step} {m:Message} (h:Good2 s.n) (hf:1<=m.from_/\m.from_<=5):Gone s.n (zc6 s m).n:=by
 have g1:Gone s.n (ze7 s m).n:=by
  unfold ze7
  split
  ·exact ⟨h.elapsed ⟨Int.le_refl _,by decide⟩,Fwd.of_kept rfl rfl (Int.le_refl _)⟩
  ·exact ⟨h,Fwd.refl _⟩
 show Gone s.n (zep s m).n
 unfold zep
 split
 ·rename_i hv
  simp only [Bool.and_eq_true,beq_iff_eq] at hv
  have e1:(ze7 s m).n.kept=s.n.kept:=by unfold ze7;split<;>rfl
  have k:=zgb (s:=ze7 s m) (t:=s.n.kept.term) (v:=m.from_) g1.good.core h.core.term ⟨by omega,by omega⟩
  refine ⟨⟨k,g1.good.role,g1.good.rest⟩,g1.fwd.trans (zib (.inr ⟨by rw [e1],by rw [e1];exact hv.2⟩))⟩
 ·exact g1
end Go.Proofs.YtkhphiahindnnaaGreat
namespace Go.Proofs.YtkhphiahindnnaaGreat
open Go.RowKit Go.ChangeShapes Go.WideShapes Go.Deep
set_option maxRecDepth 100000
def comS (s:Step) (c:Int):Step:=⟨{s.n with commit:=c},s.o⟩
def lowB (t:Step) (l:List Record):Bool:=decide ((l.length:Int)>0)&&(l.getD 0 default).kind==3&&decide ((l.getD 0 default).index<=t.n.commit)
theorem zuo (t:Step) (l:List Record):zac (zac (decide ((l.length:Int)>0)) ((l.getD (0:Int).toNat default).kind==3) false) (decide ((l.getD (0:Int).toNat default).index<=t.n.commit)) false=lowB t l:=by
 rw [zah,zah];rfl
theorem zuf {a b:Bool} (h:zac a b false=true):a=true:=by cases a<;>first | rfl | exact h
theorem zi0 {l:List Record} (h:decide ((l.length:Int)>0)=true):(0:Int)<(l.length:Int)/\(0:Int).toNat<l.length:=by
 have:=of_decide_eq_true h
 exact ⟨this,by show 0<l.length;omega⟩
noncomputable def mgL (t:Step) (m:Message):List Record:=zbc t.n.kept m.index m.logTerm m.entries
noncomputable def mgN (t:Step) (m:Message):Int:=zcm t.n.kept m.index m.logTerm m.entries
noncomputable def mgE (t:Step) (m:Message):Int:=zbf t.n.kept m.index m.logTerm m.entries
noncomputable def mergeT (t:Step) (m:Message):Step:=
 if mgE t m≠0 then zaR t (zbT m false (max 0 (min (IntKind.i64.wrap (m.index-1)) (zam t.n.kept).1)))
 else if lowB t (mgL t m) then t
 else zaR (comS (recsS t (mgL t m)) (max (recsS t (mgL t m)).n.commit (min m.commit (mgN t m)))) (zbT m true (mgN t m))
noncomputable def zbv (s:Step) (m:Message):Step:=if za2 s m then mergeT (zab s m) m else zab s m
structure SmallDM (m:Message):Prop where
 l:m.entries.length<=4000
 e:∀ e∈m.entries,SmallD e.config
 s:SmallD m.snap.config
theorem SmallDM.l' {m:Message} (h:SmallDM m):zcG m.entries:=⟨Nat.le_trans h.l (by decide),fun e he=>(h.e e he).c⟩
theorem zbY (s:Step) (m:Message):(zab s m).n.kept=s.n.kept:=by
 unfold zab
 split
 ·rfl
 split
 ·rfl
 ·show (zce s s.n.kept.term).n.kept=_
  unfold zce
  rw [if_neg (Int.lt_irrefl _)]
theorem Few.follow {B:Nat} {s:Step} (m:Message) (h:Few B s):Few (B+5001) (zab s m):=by
 unfold zab
 split
 ·exact (h.send _).mono (by omega)
 split
 ·exact h.mono (by omega)
 ·have k:=h.fall s.n.kept.term
  exact ⟨k.entries,k.ec,k.sc,k.yes,k.peers,k.reads,k.records,k.messages,k.ready,k.lost⟩
noncomputable def XJ (T:Step) (l:List Entry) (L:List Record) (j:Nat):Step:=⟨{T.n with kept:=stK T.n.kept l j},{T.o with records:=T.o.records++L.take j}⟩
noncomputable def zqL:Ent:=ent4 70 dKept dInt dInt dEntrys fun k i t l=>([zcG l],.tup [.own 2,.int .i64 (zcm k i t l),.int .i64 (zbf k i t l)],[.dead,.dead,.row 107 [1] (.rRecord (zbc k i t l))])
theorem znY:zaf Tryz.prog zqL:=zvJ (fnB Tryz.func70 (by decide) rfl) fun k i t l h=>zsL k i t l (h _ (by simp))
noncomputable def tabF:List Ent:=[ziQ,zqL,zwe,zhJ,eRec]
theorem zoB:∀ e∈tabF,zaf Tryz.prog e:=zaa zfy (zaa znY (zaa ziV (zaa zcV (zaa ze2 zad))))
theorem znF (s:Step) (m:Message) (hf:Few 50000 s) (hm:SmallDM m) (hk:s.n.kept.Ok) (hmo:m.Ok):FnG Tryz.prog 31 3 (wMi s) [.ptr 2 0,dMessage.L.can m] (.tup []) (wMo (zbv s m)):=by
 obtain ⟨M,hM⟩:∃ M,zbv s m=M:=⟨_,rfl⟩
 rw [hM]
 refine FnG.of_vc (zak zoB fun _=>none) Tryz.func31 rfl (by decide) rfl 300 (p:=fun (V:List PE->Prop)=>let v2:=m.entries;let v4:=Message.logTerm m;let v5:=zab s m;let v32:=v5.n.kept;let v35:=(0:Int);let v41:=Int.toNat v35;let v47:=Prod.fst (zam v32);let v48:=zbc v32 m.index v4 v2;let v49:=v48.length;let v50:=IntKind.wrap IntKind.i64 (m.index-(1:Int));let v51:=(↑v49:Int);let v52:=zbf v32 m.index v4 v2 != v35;let v53:=List.getD v48 v41 default;let v55:=decide (v51>v35);let v56:=if v47<v50 then v47 else v50;let v57:=zac v55 (v53.kind==3) false;let v58:=zac v57 (decide (v53.index<=v5.n.commit)) false;let v59:=zaR v5 (zbT m false (if v56>v35 then v56 else v35));True/\(Few 60000 s/\True)/\True/\((!za2 s m)=true->qN0 v5.n (Step.n M) (qN3 v5.n (Step.n M) (qO13 v5.o (Step.o M) (v5.o.lost=(Out.lost (Step.o M))/\True))))/\((!za2 s m)=false->(v32.entries.length<=17592186044416/\zcG v2/\True)/\True/\True/\(v52=true->(v32.entries.length<=17592186044416/\v5.n.yes.length<=17592186044416/\v5.n.peers.length<=17592186044416/\v5.n.reads.length<=17592186044416/\v5.o.records.length<=17592186044416/\v5.o.messages.length<=17592186044416/\v5.o.ready.length<=17592186044416/\v5.o.lost.length<=17592186044416/\v5.o.messages.length<=1000000/\True)/\qN0 v59.n (Step.n M) (qN3 v59.n (Step.n M) (qO13 v59.o (Step.o M) (v59.o.lost=(Out.lost (Step.o M))/\True))))/\(v52=false->((v55=true->v55=true)/\(v55=true->v35<=v35)/\(v55=true->v35<v51)/\(v55=true->v55=true)/\(v55=true->v55=true)/\(v55=true->v41<v49)/\(v55=true->v55=true)/\(v55=true->v55=true)/\(v57=true->v57=true)/\(v57=true->v35<=v35)/\(v57=true->v35<v51)/\(v57=true->v57=true)/\(v57=true->v57=true)/\(v57=true->v41<v49)/\(v57=true->v57=true)/\(v57=true->v57=true)/\(v57=true->v57=true)/\(v57=true->v57=true)/\(v57=true->v57=true)/\(v57=true->v57=true)/\(v57=true->v57=true)/\True)/\True/\(v58=true->qN0 v5.n (Step.n M) (qN3 v5.n (Step.n M) (qO13 v5.o (Step.o M) (v5.o.lost=(Out.lost (Step.o M))/\True))))/\(v58=false->True/\V [PE.b,PE.b,PE.b])))) (by kernel_rfl) ?_
 have hTk:(zab s m).n.kept=s.n.kept:=zbY s m
 have k1:Few 55001 (zab s m):=hf.follow m
 obtain ⟨b1,b2,b3,b4,b5⟩:=(k1.sn (by decide)).ls
 obtain ⟨c1,c2,c3,c4⟩:=(k1.so (by decide)).ls
 intros
 refine ⟨trivial,⟨hf.mono (by decide),trivial⟩,trivial,fun h=>?_,fun h=>⟨⟨b1,hm.l',trivial⟩,trivial,trivial,fun h2=>⟨⟨b1,b2,b3,b4,c1,c2,c3,c4,(k1.so (by decide)).messages,trivial⟩,?_⟩,fun h2=>⟨?_,trivial,fun h3=>?_,fun h3=>⟨trivial,?_⟩⟩⟩⟩
 ·have h:za2 s m=false:=by
   have h4:(!za2 s m)=true:=h
   cases hk:za2 s m
   ·rfl
   ·rw [hk] at h4;cases h4
  have e:M=zab s m:=by rw [<- hM,zbv,if_neg (by rw [h];decide)]
  subst e
  repeat' apply And.intro
  all_goals first | trivial | rfl
 ·have h:za2 s m=true:=by
   have h4:(!za2 s m)=false:=h
   cases hk:za2 s m
   ·rw [hk] at h4;cases h4
   ·rfl
  have h2:mgE (zab s m) m≠0:=by
   have h4:(zbf (zab s m).n.kept m.index m.logTerm m.entries != (0:Int))=true:=h2
   exact bne_iff_ne.1 h4
  have e:M=zaR (zab s m) (zbT m false (if (if (zam (zab s m).n.kept).1<IntKind.i64.wrap (m.index-1) then (zam (zab s m).n.kept).1 else IntKind.i64.wrap (m.index-1))>0 then (if (zam (zab s m).n.kept).1<IntKind.i64.wrap (m.index-1) then (zam (zab s m).n.kept).1 else IntKind.i64.wrap (m.index-1)) else 0)):=by
   rw [<- hM,zbv,if_pos h,mergeT,if_pos h2]
   congr 2
   generalize (zam (zab s m).n.kept).1=a
   generalize IntKind.i64.wrap (m.index-1)=b
   by_cases g:a<b
   ·rw [if_pos g];by_cases g2:a>0
    ·rw [if_pos g2];omega
    ·rw [if_neg g2];omega
   ·rw [if_neg g];by_cases g2:b>0
    ·rw [if_pos g2];omega
    ·rw [if_neg g2];omega
  subst e
  repeat' apply And.intro
  all_goals first | trivial | rfl
 ·refine ⟨fun h=>h,fun _=>Int.le_refl _,fun h=>(zi0 h).1,fun h=>h,fun h=>h,fun h=>(zi0 h).2,fun h=>h,fun h=>h,fun h=>h,fun _=>Int.le_refl _,fun h=>(zi0 (zuf h)).1,fun h=>h,fun h=>h,fun h=>(zi0 (zuf h)).2,fun h=>h,fun h=>h,fun h=>h,fun h=>h,fun h=>h,fun h=>h,fun h=>h,trivial⟩
 ·have h:za2 s m=true:=by
   have h4:(!za2 s m)=false:=h
   cases hk:za2 s m
   ·rw [hk] at h4;cases h4
   ·rfl
  have h2:¬ mgE (zab s m) m≠0:=by
   have h4:(zbf (zab s m).n.kept m.index m.logTerm m.entries != (0:Int))=false:=h2
   simpa [mgE] using h4
  have h3:lowB (zab s m) (mgL (zab s m) m)=true:=(zuo _ _).symm.trans h3
  have e:M=zab s m:=by rw [<- hM,zbv,if_pos h,mergeT,if_neg h2,if_pos h3]
  subst e
  repeat' apply And.intro
  all_goals first | trivial | rfl
 ·have h:za2 s m=true:=by
   have h4:(!za2 s m)=false:=h
   cases hk:za2 s m
   ·rw [hk] at h4;cases h4
   ·rfl
  have h2:zbf (zab s m).n.kept m.index m.logTerm m.entries=0:=by
   have h4:(zbf (zab s m).n.kept m.index m.logTerm m.entries != (0:Int))=false:=h2
   simpa using h4
  have h2':¬ mgE (zab s m) m≠0:=Classical.not_not.2 h2
  have h3:¬ lowB (zab s m) (mgL (zab s m) m)=true:=by
   have h4:lowB (zab s m) (mgL (zab s m) m)=false:=(zuo _ _).symm.trans h3
   rw [h4];decide
  have hko:(zab s m).n.kept.Ok:=by rw [hTk];exact hk
  have hMH:MH (zab s m).n.kept m.index m.logTerm m.entries:=MH.of h2 hmo.index hmo.entries.2 hm.l'.1
  have hL:mgL (zab s m) m=zaI (zab s m).n.kept m.entries:=by unfold mgL zbc;rw [if_pos h2]
  have eM:M=zaR (comS (recsS (zab s m) (mgL (zab s m) m)) (max (recsS (zab s m) (mgL (zab s m) m)).n.commit (min m.commit (mgN (zab s m) m)))) (zbT m true (mgN (zab s m) m)):=by rw [<- hM,zbv,if_pos h,mergeT,if_neg h2',if_neg h3]
  have hlen:(mgL (zab s m) m).length<=4001:=by rw [hL];have:=zh8 (zab s m).n.kept m.entries;have:=hm.l;omega
  have hF:∀ j,Few 59002 (XJ (zab s m) m.entries (mgL (zab s m) m) j):=fun j=>k1.st hm.l hm.e (by simp only [List.length_take];omega)
  refine LoopG.head (zak zoB fun _=>none) 0 (A:=Nat) (fun j=>j<=(mgL (zab s m) m).length) (fun j=>[(67,.int .i64 j)]) (fun j=>[(2,.cells 87 (wCs [1,900] (XJ (zab s m) m.entries (mgL (zab s m) m) j) 910 911 912 913 914 915 916 917)),(22,.dead),(23,.dead),(24,.dead),(25,.dead),(26,.dead),(27,.dead),(28,.dead),(29,.dead),(58,.row 107 [901] (.rRecord (mgL (zab s m) m))),(910,.row 71 [1,900] (.rEntry (stK (zab s m).n.kept m.entries j).entries)),(911,.row 3 [1,900] (.rInts (zab s m).n.yes)),(912,.row 102 [1,900] (.rPeer (zab s m).n.peers)),(913,.row 123 [1,900] (.rRead (zab s m).n.reads)),(914,.row 107 [2,901] (.rRecord ((zab s m).o.records++(mgL (zab s m) m).take j))),(915,.row 58 [2,901] (.rMessage (zab s m).o.messages)),(916,.row 123 [2,901] (.rRead (zab s m).o.ready)),(917,.row 3 [2,901] (.rInts (zab s m).o.lost)),(900,.dead),(901,.dead)]) (fun j=>(mgL (zab s m) m).length-j) 0 (Nat.zero_le _) (p0:=let v0:=Message.logTerm m;let v1:=m.entries;let v2:=m.snap;let v3:=m.index;let v7:=zab s m;let v8:=v2.config;let v14:=v7.n.kept;let v19:=mgL v7 m;let v24:=zbc v14 v3 v0 v1;let v25:=zcm v14 v3 v0 v1;let v26:=(↑(v24.length):Int);let v27:=Step.n (XJ v7 v1 v19 (0:Nat));(0:Int)=(↑(0:Nat):Int)/\v26=v26/\v25=v25/\qN0 v7.n v27 (qN7 v7.n v27 (v24=v19/\v14.entries=Kept.entries (stK v14 v1 (0:Nat))/\qN8 v7.n v7.n (v7.o.records=v7.o.records++List.take (0:Nat) v19/\qO28 v7.o v7.o (m.kind=m.kind/\m.from_=m.from_/\m.to_=m.to_/\m.term=m.term/\v3=v3/\v0=v0/\v1=v1/\m.commit=m.commit/\m.round=m.round/\m.ok=m.ok/\v2.index=v2.index/\v2.term=v2.term/\v8.voters=v8.voters/\v8.learners=v8.learners/\v2.data=v2.data/\m.ask=m.ask/\m.seq=m.seq/\m.data=m.data/\True))))) (by kernel_rfl) ?_ 300 (p:=fun (x:Nat) (V:List PE->Prop)=>let v2:=m.entries;let v4:=Message.logTerm m;let v5:=zab s m;let v9:=(↑x:Int);let v11:=mgL v5 m;let v16:=Kept.entries (stK v5.n.kept v2 x);let v17:=List.getD v11 x default;let v18:=zcm v5.n.kept m.index v4 v2;let v19:=Step.n (XJ v5 v2 v11 x);let v23:=v5.o.records++List.take x v11;let v24:=decide (v9<(↑(List.length (zbc v5.n.kept m.index v4 v2)):Int));let v25:=if v18<m.commit then v18 else m.commit;let v26:=Kept.mk v19.kept.term v19.kept.vote v19.kept.snap v16;let v27:=zaR (Step.mk (Node.mk v19.id v19.role v26 (if v25>v19.commit then v25 else v19.commit) v19.lead v19.elapsed v5.n.yes v5.n.peers v19.round v5.n.reads) (Out.mk v23 v5.o.messages v5.o.ready v5.o.lost)) (zbT m true v18);True/\True/\(v24=true->((0:Int)<=v9/\v9<(↑(v11.length):Int)/\x<v11.length/\True)/\(v23.length<=1000000/\v16.length<=1000000/\SmallR v17/\zhi v26 v17/\v17.kind≠(4:Int)/\True)/\True/\V [PE.a])/\(v24=false->True/\(v5.o.messages.length<=1000000/\True)/\qN0 v27.n (Step.n M) (qN3 v27.n (Step.n M) (qO13 v27.o (Step.o M) (v27.o.lost=Out.lost (Step.o M)/\True))))) (by intro x;kernel_rfl) ?_
  ·have e0:(zab s m).n.kept=stK (zab s m).n.kept m.entries 0:=hMH.st0.symm
   intros
   repeat' apply And.intro
   all_goals first | trivial | rfl | exact congrArg Kept.term e0 | exact congrArg Kept.vote e0 | exact congrArg (fun k:Kept=>k.snap.index) e0 | exact congrArg (fun k:Kept=>k.snap.term) e0 | exact congrArg (fun k:Kept=>k.snap.config.voters) e0 | exact congrArg (fun k:Kept=>k.snap.config.learners) e0 | exact congrArg (fun k:Kept=>k.snap.data) e0 | exact congrArg Kept.entries e0 | exact (List.append_nil _).symm
  rintro j hj
  have f1:=hF j
  have hln:∀ {b:Bool},decide ((j:Int)<((mgL (zab s m) m).length:Int))=b->decide ((j:Int)<((mgL (zab s m) m).length:Int))=b:=fun h=>h
  intros
  refine ⟨trivial,trivial,fun h6=>?_,fun h6=>?_⟩
  ·have h6:j<(mgL (zab s m) m).length:=by have h7:=of_decide_eq_true (hln h6);omega
   have hro:=hMH.recOk hko hm.e (i:=j) (by rw [<- hL];exact h6)
   rw [<- hL] at hro
   refine ⟨⟨Int.natCast_nonneg _,Int.ofNat_lt.2 h6,h6,trivial⟩,⟨(f1.so (by decide)).records,(f1.sn (by decide)).ls.2.2.2.2,hro.1,hro.2.1,hro.2.2,trivial⟩,trivial,?_⟩
   refine Back.mk (j+1) (by show j+1<=_;omega) (by show _-(j+1)<_-j;omega) (p0:=let v0:=m.snap;let v1:=Message.logTerm m;let v2:=m.entries;let v3:=m.index;let v6:=zab s m;let v8:=v0.config;let v13:=v6.n.kept;let v17:=mgL v6 m;let v22:=zcm v13 v3 v1 v2;let v23:=Step.n (XJ v6 v2 v17 j);let v24:=j+(1:Nat);let v26:=(↑(List.length (zbc v13 v3 v1 v2)):Int);let v27:=Step.n (XJ v6 v2 v17 v24);let v31:=recS (Step.mk (Node.mk v23.id v23.role (Kept.mk v23.kept.term v23.kept.vote v23.kept.snap (Kept.entries (stK v13 v2 j))) v23.commit v23.lead v23.elapsed v6.n.yes v6.n.peers v23.round v6.n.reads) (Out.mk (v6.o.records++List.take j v17) v6.o.messages v6.o.ready v6.o.lost)) (List.getD v17 j default);IntKind.wrap IntKind.i64 ((↑j:Int)+(1:Int))=(↑v24:Int)/\v26=v26/\v22=v22/\qN0 v31.n v27 (qN7 v31.n v27 (v17=v17/\v31.n.kept.entries=Kept.entries (stK v13 v2 v24)/\qN8 v31.n v6.n (v31.o.records=v6.o.records++List.take v24 v17/\qO28 v31.o v6.o (m.kind=m.kind/\m.from_=m.from_/\m.to_=m.to_/\m.term=m.term/\v3=v3/\v1=v1/\v2=v2/\m.commit=m.commit/\m.round=m.round/\m.ok=m.ok/\v0.index=v0.index/\v0.term=v0.term/\v8.voters=v8.voters/\v8.learners=v8.learners/\v0.data=v0.data/\m.ask=m.ask/\m.seq=m.seq/\m.data=m.data/\True))))) (by kernel_rfl) ?_
   have eK:=hMH.step2 hko (i:=j) (by rw [<- hL];exact h6)
   rw [<- hL] at eK
   have eR:((zab s m).o.records++(mgL (zab s m) m).take j)++[(mgL (zab s m) m).getD j default]=(zab s m).o.records++(mgL (zab s m) m).take (j+1):=by
    rw [zaL (d:=(default:Record)) h6,List.append_assoc]
   have eJ:IntKind.i64.wrap ((j:Int)+1)=((j+1:Nat):Int):=zbN (by omega)
   intros
   repeat' apply And.intro
   all_goals first | trivial | rfl | exact eJ | exact congrArg Kept.term eK | exact congrArg Kept.vote eK | exact congrArg (fun k:Kept=>k.snap.index) eK | exact congrArg (fun k:Kept=>k.snap.term) eK | exact congrArg (fun k:Kept=>k.snap.config.voters) eK | exact congrArg (fun k:Kept=>k.snap.config.learners) eK | exact congrArg (fun k:Kept=>k.snap.data) eK | exact congrArg Kept.entries eK | exact eR
  ·have h6:j=(mgL (zab s m) m).length:=by have h7:=of_decide_eq_false (hln h6);omega
   subst h6
   have eX:recsS (zab s m) (mgL (zab s m) m)=XJ (zab s m) m.entries (mgL (zab s m) m) (mgL (zab s m) m).length:=by
    have:=hMH.recsS hko (zab s m) rfl (j:=(zaI (zab s m).n.kept m.entries).length) (Nat.le_refl _)
    rw [List.take_length] at this
    unfold XJ
    rw [hL,this,List.take_length]
   have eC:∀ a b c:Int,max a (min b c)=if (if c<b then c else b)>a then (if c<b then c else b) else a:=fun a b c=>by
    split<;>split<;>omega
   have eM2:M=zaR (comS (XJ (zab s m) m.entries (mgL (zab s m) m) (mgL (zab s m) m).length) (if (if mgN (zab s m) m<m.commit then mgN (zab s m) m else m.commit)>(zab s m).n.commit then (if mgN (zab s m) m<m.commit then mgN (zab s m) m else m.commit) else (zab s m).n.commit)) (zbT m true (mgN (zab s m) m)):=by
    rw [eM,eX,<- eC];rfl
   subst eM2
   refine ⟨trivial,⟨(k1.so (by decide)).messages,trivial⟩,?_⟩
   repeat' apply And.intro
   all_goals first | trivial | rfl
noncomputable def zmK:Ent:=zdk 31 3 mW dMessage.L vrW [1,0] glW fun s m=>([Few 50000 s,SmallDM m,s.n.kept.Ok,m.Ok],.tup [],wMo (zbv s m))
theorem zlz:zaf Tryz.prog zmK:=zaY (fnB Tryz.func31 (by decide) rfl) fun s m h=>znF s m (h _ (by simp)) (h _ (by simp)) (h _ (by simp)) (h _ (by simp))
def zb7 (m:Message):Record:=⟨4,0,0,zot,0,m.snap⟩
def zd2 (s:Step) (m:Message):Bool:=za2 s m&&decide ((zab s m).n.commit<m.snap.index)
def snapT (t:Step) (m:Message):Step:=zaR (comS (recS t (zb7 m)) m.snap.index) (zbT m true m.snap.index)
def zb3 (s:Step) (m:Message):Step:=
 if za2 s m then (if (zab s m).n.commit<m.snap.index then snapT (zab s m) m else zaR (zab s m) (zbT m true (zab s m).n.commit)) else zab s m
noncomputable def tabSn:List Ent:=[ziQ,zhM,ztt,zwe]
theorem zrR:∀ e∈tabSn,zaf Tryz.prog e:=zaa zfy (zaa zdL (zaa ziL (zaa ziV zad)))
noncomputable def tabSy:List Ent:=[ziQ,zhM,ztt,zuD]
theorem zrQ:∀ e∈tabSy,zaf Tryz.prog e:=zaa zfy (zaa zdL (zaa ziL (zaa zrd zad)))
theorem zte {b:Bool} (h:(!b)=true):b=false:=by cases b;rfl;cases h
theorem ztd {b:Bool} (h:(!b)=false):b=true:=by cases b;cases h;rfl
theorem zsw (s:Step) (m:Message) (hf:Few 50000 s) (hm:SmallDM m) (hy:zd2 s m=false):FnG Tryz.prog 33 3 (wMi s) [.ptr 2 0,dMessage.L.can m] (.tup []) (wMo (zb3 s m)):=by
 obtain ⟨M,hM⟩:∃ M,zb3 s m=M:=⟨_,rfl⟩
 rw [hM]
 refine FnG.of_vc (zak zrR fun _=>none) Tryz.func33 rfl (by decide) rfl 300 (p:=fun (V:List PE->Prop)=>let v5:=zab s m;let v7:=m.snap.index;let v28:=(0:Int);let v31:=v5.n.kept;let v41:=zaR v5 (zbT m true v5.n.commit);let v47:=IntKind.wrap IntKind.i64 (v7-v31.snap.index);let v48:=decide (v7>v5.n.commit);True/\(Few 60000 s/\True)/\True/\((!za2 s m)=true->qN0 v5.n (Step.n M) (qN3 v5.n (Step.n M) (qO13 v5.o (Step.o M) (v5.o.lost=(Out.lost (Step.o M))/\True))))/\((!za2 s m)=false->True/\True/\(v48=true->(zaw m.snap.config/\v5.o.records.length<=1000000/\v31.entries.length<=1000000/\SmallR (Record.mk (4:Int) v28 v28 (Entry.mk v28 v28 v28 (Config.mk [] []) (ByteArray.mk #[])) v28 m.snap)/\(4:Int)=4/\(Prod.snd (zau v31 v7)=v28->v28<=v47/\v47<=(↑(v31.entries.length):Int))/\True)/\True/\False)/\(v48=false->(v5.o.messages.length<=1000000/\True)/\qN0 v41.n (Step.n M) (qN3 v41.n (Step.n M) (qO13 v41.o (Step.o M) (v41.o.lost=(Out.lost (Step.o M))/\True)))))) (by kernel_rfl) ?_
 have k1:Few 55001 (zab s m):=hf.follow m
 intros
 refine ⟨trivial,⟨hf.mono (by decide),trivial⟩,trivial,fun h=>?_,fun h=>⟨trivial,trivial,fun h2=>?_,fun h2=>⟨⟨(k1.so (by decide)).messages,trivial⟩,?_⟩⟩⟩
 ·have e:M=zab s m:=by rw [<- hM,zb3,if_neg (by rw [zte h];decide)]
  subst e
  repeat' apply And.intro
  all_goals first | trivial | rfl
 ·have h2:(zab s m).n.commit<m.snap.index:=of_decide_eq_true h2
  rw [zd2,ztd h,decide_eq_true h2] at hy
  cases hy
 ·have h2:¬ (zab s m).n.commit<m.snap.index:=of_decide_eq_false h2
  have e:M=zaR (zab s m) (zbT m true (zab s m).n.commit):=by rw [<- hM,zb3,if_pos (ztd h),if_neg h2]
  subst e
  repeat' apply And.intro
  all_goals first | trivial | rfl
theorem zsv (s:Step) (m:Message) (hf:Few 50000 s) (hm:SmallDM m) (hg:LogG s.n.kept) (hi:I64 m.snap.index) (hy:zd2 s m=true):FnG Tryz.prog 33 3 (wMi s) [.ptr 2 0,dMessage.L.can m] (.tup []) (wMoS (zb3 s m)):=by
 obtain ⟨M,hM⟩:∃ M,zb3 s m=M:=⟨_,rfl⟩
 rw [hM]
 refine FnG.of_vc (zak zrQ fun _=>none) Tryz.func33 rfl (by decide) rfl 300 (p:=fun (V:List PE->Prop)=>let v3:=zab s m;let v7:=m.snap.index;let v27:=v3.n.kept;let v32:=(0:Int);let v39:=v27.entries.length;let v40:=IntKind.wrap IntKind.i64 (v7-v27.snap.index);let v41:=decide (v7>v3.n.commit);let v42:=Record.mk (4:Int) v32 v32 (Entry.mk v32 v32 v32 (Config.mk [] []) (ByteArray.mk #[])) v32 m.snap;let v43:=recS v3 v42;let v44:=v43.n;let v46:=zaR (Step.mk (Node.mk v44.id v44.role v44.kept v7 v44.lead v44.elapsed v44.yes v44.peers v44.round v44.reads) v43.o) (zbT m true v7);True/\(Few 60000 s/\True)/\True/\((!za2 s m)=true->qN0 v3.n (Step.n M) (v27.entries=(Kept.entries (Node.kept (Step.n M)))/\v39<=17592186044416/\qN11 v3.n (Step.n M) (qO13 v3.o (Step.o M) (v3.o.lost=(Out.lost (Step.o M))/\True))))/\((!za2 s m)=false->True/\True/\(v41=true->(zaw m.snap.config/\v3.o.records.length<=1000000/\v39<=1000000/\SmallR v42/\(4:Int)=4/\(Prod.snd (zau v27 v7)=v32->v32<=v40/\v40<=(↑v39:Int))/\True)/\True/\(v43.o.messages.length<=1000000/\True)/\qN0 v46.n (Step.n M) (qN5 v46.n (Step.n M) (qO13 v46.o (Step.o M) (v46.o.lost=(Out.lost (Step.o M))/\True))))/\(v41=false->False))) (by kernel_rfl) ?_
 have k1:Few 55001 (zab s m):=hf.follow m
 have eK:(zab s m).n.kept=s.n.kept:=zbY s m
 have y1:za2 s m=true:=by
  rw [zd2,Bool.and_eq_true] at hy;exact hy.1
 have y2:(zab s m).n.commit<m.snap.index:=by
  rw [zd2,Bool.and_eq_true] at hy;exact of_decide_eq_true hy.2
 have hsi:=(zdA hg.1).1
 have hsl:=hg.2.1
 have hsm:zaw m.snap.config:=hm.s.c
 obtain ⟨b1,b2,b3,b4,b5⟩:=(k1.sn (by decide)).ls
 have e:M=snapT (zab s m) m:=by rw [<- hM,zb3,if_pos y1,if_pos y2]
 have hw:(zau (zab s m).n.kept m.snap.index).2=0->0<=IntKind.i64.wrap (m.snap.index-(zab s m).n.kept.snap.index)/\IntKind.i64.wrap (m.snap.index-(zab s m).n.kept.snap.index)<=((zab s m).n.kept.entries.length:Int):=fun h=>by
  rw [eK] at h ⊢
  obtain ⟨_,g1,g2⟩:=zfJ h
  rw [zaD ⟨by omega,by omega⟩]
  omega
 have eK':(zab s m).n.kept.snap.index=s.n.kept.snap.index:=by rw [eK]
 intros
 refine ⟨trivial,⟨hf.mono (by decide),trivial⟩,trivial,fun h=>?_,fun h=>⟨trivial,trivial,fun h2=>⟨⟨hsm,(k1.so (by decide)).records,b5,⟨smallD0.c,hsm⟩,rfl,hw,trivial⟩,trivial,⟨(k1.so (by decide)).messages,trivial⟩,?_⟩,fun h2=>?_⟩⟩
 ·rw [zte h] at y1;cases y1
 ·subst e
  repeat' apply And.intro
  all_goals first | trivial | rfl
 ·exact absurd y2 (of_decide_eq_false h2)
noncomputable def zuy:Ent:=zdk 33 3 mW dMessage.L vrW [1,0] glW fun s m=>([Few 50000 s,SmallDM m,zd2 s m=false],.tup [],wMo (zb3 s m))
theorem zq9:zaf Tryz.prog zuy:=zaY (fnB Tryz.func33 (by decide) rfl) fun s m h=>zsw s m (h _ (by simp)) (h _ (by simp)) (h _ (by simp))
noncomputable def zux:Ent:=zdk 33 3 mW dMessage.L vrW [1,0] glW fun s m=>([Few 50000 s,SmallDM m,LogG s.n.kept,I64 m.snap.index,zd2 s m=true],.tup [],wMoS (zb3 s m))
theorem zq8:zaf Tryz.prog zux:=zaY (fnB Tryz.func33 (by decide) rfl) fun s m h=>zsv s m (h _ (by simp)) (h _ (by simp)) (h _ (by simp)) (h _ (by simp)) (h _ (by simp))
noncomputable def zbK (s:Step) (m:Message):Step:=if m.kind=1 then zcj s m else if m.kind=2 then zaF s m else if m.kind=3 then zc6 s m else if m.kind=4 then zbb s m else if m.kind=5 then zbv s m else if m.kind=6 then za1 s m else if m.kind=7 then zb3 s m else s
noncomputable def zbP (n:Node) (m:Message):Step:=if mayM n m then zbK (zaW n m) m else zag n
noncomputable def zcC (n:Node) (m:Message):Step×Int:=if zan n then (zbP n m,0) else (⟨zeroN,outZ⟩,1)
theorem Few.mg {B:Nat} {s:Step} {m:Message} (h:Few B s) (hm:SmallDM m) (hk:s.n.kept.Ok) (hmo:m.Ok):Few (B+9003) (zbv s m):=by
 have k1:=h.follow m
 unfold zbv
 split
 ·unfold mergeT
  split
  ·exact (k1.send _).mono (by omega)
  ·rename_i h2
   split
   ·exact k1.mono (by omega)
   ·have h2:zbf (zab s m).n.kept m.index m.logTerm m.entries=0:=Classical.not_not.1 h2
    have hko:(zab s m).n.kept.Ok:=by rw [zbY];exact hk
    have hMH:MH (zab s m).n.kept m.index m.logTerm m.entries:=MH.of h2 hmo.index hmo.entries.2 hm.l'.1
    have hL:mgL (zab s m) m=zaI (zab s m).n.kept m.entries:=by unfold mgL zbc;rw [if_pos h2]
    have hlen:(mgL (zab s m) m).length<=4001:=by rw [hL];have:=zh8 (zab s m).n.kept m.entries;have:=hm.l;omega
    have eX:recsS (zab s m) (mgL (zab s m) m)=XJ (zab s m) m.entries (mgL (zab s m) m) (mgL (zab s m) m).length:=by
     have:=hMH.recsS hko (zab s m) rfl (j:=(zaI (zab s m).n.kept m.entries).length) (Nat.le_refl _)
     rw [List.take_length] at this
     unfold XJ
     rw [hL,this,List.take_length]
    have kX:Few (B+5001+4001) (XJ (zab s m) m.entries (mgL (zab s m) m) (mgL (zab s m) m).length):=k1.st hm.l hm.e (by simp only [List.length_take];omega)
    rw [eX]
    have kC:Few (B+5001+4001) (comS (XJ (zab s m) m.entries (mgL (zab s m) m) (mgL (zab s m) m).length) (max (XJ (zab s m) m.entries (mgL (zab s m) m) (mgL (zab s m) m).length).n.commit (min m.commit (mgN (zab s m) m)))):=⟨kX.entries,kX.ec,kX.sc,kX.yes,kX.peers,kX.reads,kX.records,kX.messages,kX.ready,kX.lost⟩
    exact (kC.send _).mono (by omega)
 ·exact k1.mono (by omega)
theorem Few.vo {B:Nat} {s:Step} {m:Message} (h:Few B s):Few (B+2) (zc6 s m):=by
 have k1:Few B (ze7 s m):=by
  unfold ze7
  split
  ·exact ⟨h.entries,h.ec,h.sc,h.yes,h.peers,h.reads,h.records,h.messages,h.ready,h.lost⟩
  ·exact h
 have k2:Few (B+1) (zep s m):=by
  unfold zep
  split
  ·exact k1.recd smallD0 smallD0
  ·exact k1.mono (by omega)
 exact (k2.send _).mono (by omega)
theorem Few.sn7 {B:Nat} {s:Step} {m:Message} (h:Few B s) (hm:SmallDM m):Few (B+5003) (zb3 s m):=by
 have k1:=h.follow m
 unfold zb3
 split
 ·split
  ·have k2:=k1.recd (r:=zb7 m) smallD0 hm.s
   have k3:Few (B+5001+1) (comS (recS (zab s m) (zb7 m)) m.snap.index):=⟨k2.entries,k2.ec,k2.sc,k2.yes,k2.peers,k2.reads,k2.records,k2.messages,k2.ready,k2.lost⟩
   exact (k3.send _).mono (by omega)
  ·exact (k1.send _).mono (by omega)
 ·exact k1.mono (by omega)
theorem zdH {n:Node} {m:Message} (hf:Few 5000 (zag n)):Few 10001 (zaW n m):=by
 unfold zaW
 split
 ·exact hf.fall m.term
 ·exact hf.mono (by decide)
theorem zg7 (n:Node) (m:Message):(zaW n m).o.ready=[]:=by
 unfold zaW
 split
 ·exact zgG n m.term
 ·rfl
theorem zg6 {s:Step} {m:Message} (h:Few 10001 s) (hm:SmallDM m) (hk:s.n.kept.Ok) (hmo:m.Ok):Few 20000 (zbK s m):=by
 unfold zbK
 split
 ·exact (h.send _).mono (by decide)
 split
 ·exact (h.pb m (by decide)).mono (by decide)
 split
 ·exact h.vo.mono (by decide)
 split
 ·exact (h.vt m (by decide)).mono (by decide)
 split
 ·exact (h.mg hm hk hmo).mono (by decide)
 split
 ·exact (h.matched m).mono (by decide)
 split
 ·exact (h.sn7 hm).mono (by decide)
 ·exact h.mono (by decide)
theorem ziC {s:Step} {m:Message} (h:m.kind=1):zbK s m=zcj s m:=by
 unfold zbK
 rw [if_pos h]
theorem ziB {s:Step} {m:Message} (h:m.kind=2):zbK s m=zaF s m:=by
 unfold zbK
 rw [if_neg (by rw [h];decide),if_pos h]
theorem ziA {s:Step} {m:Message} (h:m.kind=3):zbK s m=zc6 s m:=by
 unfold zbK
 rw [if_neg (by rw [h];decide),if_neg (by rw [h];decide),if_pos h]
theorem zi9 {s:Step} {m:Message} (h:m.kind=4):zbK s m=zbb s m:=by
 unfold zbK
 rw [if_neg (by rw [h];decide),if_neg (by rw [h];decide),if_neg (by rw [h];decide),if_pos h]
theorem zi8 {s:Step} {m:Message} (h:m.kind=5):zbK s m=zbv s m:=by
 unfold zbK
 rw [if_neg (by rw [h];decide),if_neg (by rw [h];decide),if_neg (by rw [h];decide),if_neg (by rw [h];decide),if_pos h]
theorem zi7 {s:Step} {m:Message} (h:m.kind=6):zbK s m=za1 s m:=by
 unfold zbK
 rw [if_neg (by rw [h];decide),if_neg (by rw [h];decide),if_neg (by rw [h];decide),if_neg (by rw [h];decide),if_neg (by rw [h];decide),if_pos h]
theorem zfs {s:Step} {m:Message} (h:m.kind=7):zbK s m=zb3 s m:=by
 unfold zbK
 rw [if_neg (by rw [h];decide),if_neg (by rw [h];decide),if_neg (by rw [h];decide),if_neg (by rw [h];decide),if_neg (by rw [h];decide),if_neg (by rw [h];decide),if_pos h]
theorem zqa {s:Step} {m:Message} (h:∀ k:Int,1<=k->k<=7->m.kind≠k):zbK s m=s:=by
 unfold zbK
 rw [if_neg (h 1 (by decide) (by decide)),if_neg (h 2 (by decide) (by decide)),if_neg (h 3 (by decide) (by decide)),if_neg (h 4 (by decide) (by decide)),if_neg (h 5 (by decide) (by decide)),if_neg (h 6 (by decide) (by decide)),if_neg (h 7 (by decide) (by decide))]
theorem zeU {n:Node} {m:Message} (hk:n.kept.Ok) (hm:m.Ok):(zaW n m).n.kept.Ok:=by
 unfold zaW
 split
 ·show (zce (zag n) m.term).n.kept.Ok
  unfold zce
  split
  ·exact ⟨hm.term,(by show I64 0;exact ⟨by decide,by decide⟩),hk.snap_index,hk.snap_term,hk.snap_config_voters,hk.snap_config_learners,hk.snap_data,hk.entries⟩
  ·exact hk
 ·exact hk
theorem zrz {a b:Bool} (h:a=true) (g:b=true):(a&&b)=true:=by rw [h,g];rfl
theorem zei {a b:Int} (h:(a==b)=false):a≠b:=beq_eq_false_iff_ne.1 h
theorem ziG (n:Node) (m:Message):zac (zac (decide (m.term>n.kept.term)) (m.kind != 1) false) (!zac (m.kind==2) m.ok false) false=zcr n m:=by
 rw [zah,zah,zah];rfl
noncomputable def tabHg:List Ent:=[zl4,zb4,zqN,zqV,zu3,zlw,zxz,zq4,zmK,ziP,zuy,eEnd]
theorem zsd:∀ e∈tabHg,zaf Tryz.prog e:=zaa zcD (zaa zaX (zaa zfS (zaa zfa (zaa zqG (zaa zhL (zaa zto (zaa zku (zaa zlz (zaa zgL (zaa zq9 (zaa zfz zad)))))))))))
set_option maxHeartbeats 4000000 in
theorem zqc (n:Node) (m:Message) (hf:Few 5000 (zag n)) (hm:SmallM m) (hd:SmallDM m) (hr:zan n=true) (hko:n.kept.Ok) (hmo:m.Ok) (hy:m.kind=7->mayM n m=true->zd2 (zaW n m) m=false):FnC Tryz.prog 10 [dNode.can n,dMessage.can m] (refO (zbP n m).n (zbP n m).o 0) D3d:=by
 obtain ⟨M,hM⟩:∃ M,zbP n m=M:=⟨_,rfl⟩
 rw [hM]
 refine FnG.of_vc (zak zsd fun _=>none) Tryz.func10 rfl (by decide) rfl 300 (p:=fun (V:List PE->Prop)=>let v0:=Step.n M;let v3:=Step.o M;let v4:=m.kind;let v34:=(0:Int);let v37:=Out.mk [] [] [] [];let v38:=Step.mk n v37;let v39:=v4==5;let v40:=v4==2;let v41:=v4==4;let v42:=v4==3;let v43:=v4==7;let v44:=v4==1;let v45:=v4==6;let v46:=zbv v38 m;let v47:=za1 v38 m;let v48:=zbb v38 m;let v49:=zc6 v38 m;let v50:=zcj v38 m;let v51:=zb3 v38 m;let v52:=zaF v38 m;let v61:=za9 v38 m.term;let v77:=decide (m.term>n.kept.term);let v79:=zbb v61 m;let v82:=za1 v61 m;let v85:=zb3 v61 m;let v86:=zbv v61 m;let v87:=zc6 v61 m;let v88:=zaF v61 m;let v90:=zcj v61 m;let v139:=zac v77 (v4 != 1) false;let v140:=zac v139 (!zac v40 m.ok false) false;True/\(SmallN n/\zan n=true/\True)/\True/\True/\((v34 != v34)=true->True/\qN0 zeroN v0 (qN24 zeroN v0 (qO25 outZ v3 (v34=v34/\True))))/\((v34 != v34)=false->(n.kept.entries.length<=17592186044416/\n.yes.length<=17592186044416/\n.peers.length<=17592186044416/\n.reads.length<=17592186044416/\SmallM m/\True)/\True/\((!mayM n m)=true->(SmallN n/\SmallO v37/\True)/\qN0 n v0 (qN24 n v0 ([]=v3.records/\[]=v3.messages/\[]=v3.ready/\[]=v3.lost/\v34=v34/\True)))/\((!mayM n m)=false->((v77=true->v77=true)/\(v77=true->v77=true)/\(v77=true->v77=true)/\(v139=true->v139=true)/\(v139=true->v139=true)/\(v139=true->v139=true)/\((v139&&v40)=true->(v139&&v40)=true)/\(v139=true->v139=true)/\(v139=true->v40=true->(v139&&v40)=true)/\(v139=true->v139=true)/\(v139=true->v139=true)/\True)/\True/\(v140=true->(Few 70000 v38/\True)/\True/\True/\True/\(v44=true->(Few 70000 v61/\True)/\(SmallN v90.n/\SmallO v90.o/\True)/\qN0 v90.n v0 (qN24 v90.n v0 (qO25 v90.o v3 (v34=v34/\True))))/\(v44=false->True/\True/\(v40=true->(Few 60000 v61/\True)/\(SmallN v88.n/\SmallO v88.o/\True)/\qN0 v88.n v0 (qN24 v88.n v0 (qO25 v88.o v3 (v34=v34/\True))))/\(v40=false->True/\True/\(v42=true->(Few 60000 v61/\True)/\(SmallN v87.n/\SmallO v87.o/\True)/\qN0 v87.n v0 (qN24 v87.n v0 (qO25 v87.o v3 (v34=v34/\True))))/\(v42=false->True/\True/\(v41=true->(Few 60000 v61/\True)/\(SmallN v79.n/\SmallO v79.o/\True)/\qN0 v79.n v0 (qN24 v79.n v0 (qO25 v79.o v3 (v34=v34/\True))))/\(v41=false->True/\True/\(v39=true->(Few 50000 v61/\SmallDM m/\Kept.Ok v61.n.kept/\Message.Ok m/\True)/\(SmallN v86.n/\SmallO v86.o/\True)/\qN0 v86.n v0 (qN24 v86.n v0 (qO25 v86.o v3 (v34=v34/\True))))/\(v39=false->True/\True/\(v45=true->(Few 30000 v61/\v61.o.ready.length<=9000/\True)/\(SmallN v82.n/\SmallO v82.o/\True)/\qN0 v82.n v0 (qN24 v82.n v0 (qO25 v82.o v3 (v34=v34/\True))))/\(v45=false->True/\True/\(v43=true->(Few 50000 v61/\SmallDM m/\zd2 v61 m=false/\True)/\(SmallN v85.n/\SmallO v85.o/\True)/\qN0 v85.n v0 (qN24 v85.n v0 (qO25 v85.o v3 (v34=v34/\True))))/\(v43=false->(SmallN v61.n/\SmallO v61.o/\True)/\qN0 v61.n v0 (qN24 v61.n v0 (qO25 v61.o v3 (v34=v34/\True)))))))))))/\(v140=false->True/\True/\True/\(v44=true->(Few 70000 v38/\True)/\(SmallN v50.n/\SmallO v50.o/\True)/\qN0 v50.n v0 (qN24 v50.n v0 (qO25 v50.o v3 (v34=v34/\True))))/\(v44=false->True/\True/\(v40=true->(Few 60000 v38/\True)/\(SmallN v52.n/\SmallO v52.o/\True)/\qN0 v52.n v0 (qN24 v52.n v0 (qO25 v52.o v3 (v34=v34/\True))))/\(v40=false->True/\True/\(v42=true->(Few 60000 v38/\True)/\(SmallN v49.n/\SmallO v49.o/\True)/\qN0 v49.n v0 (qN24 v49.n v0 (qO25 v49.o v3 (v34=v34/\True))))/\(v42=false->True/\True/\(v41=true->(Few 60000 v38/\True)/\(SmallN v48.n/\SmallO v48.o/\True)/\qN0 v48.n v0 (qN24 v48.n v0 (qO25 v48.o v3 (v34=v34/\True))))/\(v41=false->True/\True/\(v39=true->(Few 50000 v38/\SmallDM m/\Kept.Ok n.kept/\Message.Ok m/\True)/\(SmallN v46.n/\SmallO v46.o/\True)/\qN0 v46.n v0 (qN24 v46.n v0 (qO25 v46.o v3 (v34=v34/\True))))/\(v39=false->True/\True/\(v45=true->(Few 30000 v38/\(0:Nat)<=9000/\True)/\(SmallN v47.n/\SmallO v47.o/\True)/\qN0 v47.n v0 (qN24 v47.n v0 (qO25 v47.o v3 (v34=v34/\True))))/\(v45=false->True/\True/\(v43=true->(Few 50000 v38/\SmallDM m/\zd2 v38 m=false/\True)/\(SmallN v51.n/\SmallO v51.o/\True)/\qN0 v51.n v0 (qN24 v51.n v0 (qO25 v51.o v3 (v34=v34/\True))))/\(v43=false->(SmallN n/\SmallO v37/\True)/\qN0 n v0 (qN24 n v0 ([]=v3.records/\[]=v3.messages/\[]=v3.ready/\[]=v3.lost/\v34=v34/\True))))))))))))) (by kernel_rfl) ?_
 have hsn:=hf.sn (by decide)
 have hso:SmallO (zag n).o:=hf.so (by decide)
 obtain ⟨b1,b2,b3,b4,b5⟩:=hsn.ls
 have e1:mayM n m=false->M=zag n:=fun h=>by rw [<- hM,zbP,if_neg (by rw [h];decide)]
 intros
 refine ⟨trivial,⟨hsn,hr,trivial⟩,trivial,trivial,fun h=>absurd h (by decide),fun _=>⟨⟨b1,b2,b3,b4,hm,trivial⟩,trivial,fun h=>⟨⟨hsn,hso,trivial⟩,?_⟩,fun h=>⟨⟨fun h=>h,fun h=>h,fun h=>h,fun h=>h,fun h=>h,fun h=>h,fun h=>h,fun h=>h,fun h g=>zrz h g,fun h=>h,fun h=>h,trivial⟩,trivial,fun g=>?_,fun g=>?_⟩⟩⟩
 ·have e:=e1 (zte h)
  subst e
  repeat' apply And.intro
  all_goals first | trivial | rfl
 ·have hmay:mayM n m=true:=ztd h
  have hfb:zcr n m=true:=(ziG n m).symm.trans g
  have kS:Few 10001 (za9 (zag n) m.term):=by have h0:=zdH (m:=m) hf;rw [zaW,if_pos hfb] at h0;exact h0
  have hKo:(za9 (zag n) m.term).n.kept.Ok:=by have h0:=zeU (m:=m) hko hmo;rw [zaW,if_pos hfb] at h0;exact h0
  have hRd:(za9 (zag n) m.term).o.ready.length<=9000:=by have h0:=zg7 n m;rw [zaW,if_pos hfb] at h0;rw [h0];decide
  have eM:M=zbK (za9 (zag n) m.term) m:=by rw [<- hM,zbP,if_pos hmay,zaW,if_pos hfb]
  have hSy:m.kind=7->mayM n m=true->zd2 (za9 (zag n) m.term) m=false:=fun a b=>by have h0:=hy a b;rw [zaW,if_pos hfb] at h0;exact h0
  have hQ:SmallN (zbK (za9 (zag n) m.term) m).n/\SmallO (zbK (za9 (zag n) m.term) m).o:=by have q:=zg6 kS hd hKo hmo;exact ⟨q.sn (by decide),q.so (by decide)⟩
  have eE0:m.kind≠1->m.kind≠2->m.kind≠3->m.kind≠4->m.kind≠5->m.kind≠6->m.kind≠7->M=(za9 (zag n) m.term):=fun a1 a2 a3 a4 a5 a6 a7=>eM.trans (zqa fun k l u=>by
   have:k=1\/k=2\/k=3\/k=4\/k=5\/k=6\/k=7:=by omega
   rcases this with rfl | rfl | rfl | rfl | rfl | rfl | rfl<;>assumption)
  have eE1:m.kind=1->M=zcj (za9 (zag n) m.term) m:=fun h=>eM.trans (ziC h)
  have hQ1:m.kind=1->SmallN (zcj (za9 (zag n) m.term) m).n/\SmallO (zcj (za9 (zag n) m.term) m).o:=fun h=>by rw [<- ziC h];exact hQ
  have eE2:m.kind=2->M=zaF (za9 (zag n) m.term) m:=fun h=>eM.trans (ziB h)
  have hQ2:m.kind=2->SmallN (zaF (za9 (zag n) m.term) m).n/\SmallO (zaF (za9 (zag n) m.term) m).o:=fun h=>by rw [<- ziB h];exact hQ
  have eE3:m.kind=3->M=zc6 (za9 (zag n) m.term) m:=fun h=>eM.trans (ziA h)
  have hQ3:m.kind=3->SmallN (zc6 (za9 (zag n) m.term) m).n/\SmallO (zc6 (za9 (zag n) m.term) m).o:=fun h=>by rw [<- ziA h];exact hQ
  have eE4:m.kind=4->M=zbb (za9 (zag n) m.term) m:=fun h=>eM.trans (zi9 h)
  have hQ4:m.kind=4->SmallN (zbb (za9 (zag n) m.term) m).n/\SmallO (zbb (za9 (zag n) m.term) m).o:=fun h=>by rw [<- zi9 h];exact hQ
  have eE5:m.kind=5->M=zbv (za9 (zag n) m.term) m:=fun h=>eM.trans (zi8 h)
  have hQ5:m.kind=5->SmallN (zbv (za9 (zag n) m.term) m).n/\SmallO (zbv (za9 (zag n) m.term) m).o:=fun h=>by rw [<- zi8 h];exact hQ
  have eE6:m.kind=6->M=za1 (za9 (zag n) m.term) m:=fun h=>eM.trans (zi7 h)
  have hQ6:m.kind=6->SmallN (za1 (za9 (zag n) m.term) m).n/\SmallO (za1 (za9 (zag n) m.term) m).o:=fun h=>by rw [<- zi7 h];exact hQ
  have eE7:m.kind=7->M=zb3 (za9 (zag n) m.term) m:=fun h=>eM.trans (zfs h)
  have hQ7:m.kind=7->SmallN (zb3 (za9 (zag n) m.term) m).n/\SmallO (zb3 (za9 (zag n) m.term) m).o:=fun h=>by rw [<- zfs h];exact hQ
  refine ⟨⟨hf.mono (by decide),trivial⟩,trivial,trivial,trivial,fun c1=>⟨⟨kS.mono (by decide),trivial⟩,⟨(hQ1 (beq_iff_eq.1 c1)).1,(hQ1 (beq_iff_eq.1 c1)).2,trivial⟩,?_⟩,fun c1=>⟨trivial,trivial,fun c2=>⟨⟨kS.mono (by decide),trivial⟩,⟨(hQ2 (beq_iff_eq.1 c2)).1,(hQ2 (beq_iff_eq.1 c2)).2,trivial⟩,?_⟩,fun c2=>⟨trivial,trivial,fun c3=>⟨⟨kS.mono (by decide),trivial⟩,⟨(hQ3 (beq_iff_eq.1 c3)).1,(hQ3 (beq_iff_eq.1 c3)).2,trivial⟩,?_⟩,fun c3=>⟨trivial,trivial,fun c4=>⟨⟨kS.mono (by decide),trivial⟩,⟨(hQ4 (beq_iff_eq.1 c4)).1,(hQ4 (beq_iff_eq.1 c4)).2,trivial⟩,?_⟩,fun c4=>⟨trivial,trivial,fun c5=>⟨⟨kS.mono (by decide),hd,hKo,hmo,trivial⟩,⟨(hQ5 (beq_iff_eq.1 c5)).1,(hQ5 (beq_iff_eq.1 c5)).2,trivial⟩,?_⟩,fun c5=>⟨trivial,trivial,fun c6=>⟨⟨kS.mono (by decide),hRd,trivial⟩,⟨(hQ6 (beq_iff_eq.1 c6)).1,(hQ6 (beq_iff_eq.1 c6)).2,trivial⟩,?_⟩,fun c6=>⟨trivial,trivial,fun c7=>⟨⟨kS.mono (by decide),hd,hSy (beq_iff_eq.1 c7) hmay,trivial⟩,⟨(hQ7 (beq_iff_eq.1 c7)).1,(hQ7 (beq_iff_eq.1 c7)).2,trivial⟩,?_⟩,fun c7=>⟨⟨kS.sn (by decide),kS.so (by decide),trivial⟩,?_⟩⟩⟩⟩⟩⟩⟩⟩
  ·have e:=eE1 (beq_iff_eq.1 c1)
   subst e
   repeat' apply And.intro
   all_goals first | trivial | rfl
  ·have e:=eE2 (beq_iff_eq.1 c2)
   subst e
   repeat' apply And.intro
   all_goals first | trivial | rfl
  ·have e:=eE3 (beq_iff_eq.1 c3)
   subst e
   repeat' apply And.intro
   all_goals first | trivial | rfl
  ·have e:=eE4 (beq_iff_eq.1 c4)
   subst e
   repeat' apply And.intro
   all_goals first | trivial | rfl
  ·have e:=eE5 (beq_iff_eq.1 c5)
   subst e
   repeat' apply And.intro
   all_goals first | trivial | rfl
  ·have e:=eE6 (beq_iff_eq.1 c6)
   subst e
   repeat' apply And.intro
   all_goals first | trivial | rfl
  ·have e:=eE7 (beq_iff_eq.1 c7)
   subst e
   repeat' apply And.intro
   all_goals first | trivial | rfl
  ·have e:=eE0 (zei c1) (zei c2) (zei c3) (zei c4) (zei c5) (zei c6) (zei c7)
   subst e
   repeat' apply And.intro
   all_goals first | trivial | rfl
 ·have hmay:mayM n m=true:=ztd h
  have hfb:¬ zcr n m=true:=fun a=>by
   have b:=(ziG n m).symm.trans g
   rw [a] at b;cases b
  have kS:Few 10001 (zag n):=by have h0:=zdH (m:=m) hf;rw [zaW,if_neg hfb] at h0;exact h0
  have hKo:(zag n).n.kept.Ok:=by have h0:=zeU (m:=m) hko hmo;rw [zaW,if_neg hfb] at h0;exact h0
  have hRd:(zag n).o.ready.length<=9000:=by have h0:=zg7 n m;rw [zaW,if_neg hfb] at h0;rw [h0];decide
  have eM:M=zbK (zag n) m:=by rw [<- hM,zbP,if_pos hmay,zaW,if_neg hfb]
  have hSy:m.kind=7->mayM n m=true->zd2 (zag n) m=false:=fun a b=>by have h0:=hy a b;rw [zaW,if_neg hfb] at h0;exact h0
  have hQ:SmallN (zbK (zag n) m).n/\SmallO (zbK (zag n) m).o:=by have q:=zg6 kS hd hKo hmo;exact ⟨q.sn (by decide),q.so (by decide)⟩
  have eE0:m.kind≠1->m.kind≠2->m.kind≠3->m.kind≠4->m.kind≠5->m.kind≠6->m.kind≠7->M=(zag n):=fun a1 a2 a3 a4 a5 a6 a7=>eM.trans (zqa fun k l u=>by
   have:k=1\/k=2\/k=3\/k=4\/k=5\/k=6\/k=7:=by omega
   rcases this with rfl | rfl | rfl | rfl | rfl | rfl | rfl<;>assumption)
  have eE1:m.kind=1->M=zcj (zag n) m:=fun h=>eM.trans (ziC h)
  have hQ1:m.kind=1->SmallN (zcj (zag n) m).n/\SmallO (zcj (zag n) m).o:=fun h=>by rw [<- ziC h];exact hQ
  have eE2:m.kind=2->M=zaF (zag n) m:=fun h=>eM.trans (ziB h)
  have hQ2:m.kind=2->SmallN (zaF (zag n) m).n/\SmallO (zaF (zag n) m).o:=fun h=>by rw [<- ziB h];exact hQ
  have eE3:m.kind=3->M=zc6 (zag n) m:=fun h=>eM.trans (ziA h)
  have hQ3:m.kind=3->SmallN (zc6 (zag n) m).n/\SmallO (zc6 (zag n) m).o:=fun h=>by rw [<- ziA h];exact hQ
  have eE4:m.kind=4->M=zbb (zag n) m:=fun h=>eM.trans (zi9 h)
  have hQ4:m.kind=4->SmallN (zbb (zag n) m).n/\SmallO (zbb (zag n) m).o:=fun h=>by rw [<- zi9 h];exact hQ
  have eE5:m.kind=5->M=zbv (zag n) m:=fun h=>eM.trans (zi8 h)
  have hQ5:m.kind=5->SmallN (zbv (zag n) m).n/\SmallO (zbv (zag n) m).o:=fun h=>by rw [<- zi8 h];exact hQ
  have eE6:m.kind=6->M=za1 (zag n) m:=fun h=>eM.trans (zi7 h)
  have hQ6:m.kind=6->SmallN (za1 (zag n) m).n/\SmallO (za1 (zag n) m).o:=fun h=>by rw [<- zi7 h];exact hQ
  have eE7:m.kind=7->M=zb3 (zag n) m:=fun h=>eM.trans (zfs h)
  have hQ7:m.kind=7->SmallN (zb3 (zag n) m).n/\SmallO (zb3 (zag n) m).o:=fun h=>by rw [<- zfs h];exact hQ
  refine ⟨trivial,trivial,trivial,fun c1=>⟨⟨kS.mono (by decide),trivial⟩,⟨(hQ1 (beq_iff_eq.1 c1)).1,(hQ1 (beq_iff_eq.1 c1)).2,trivial⟩,?_⟩,fun c1=>⟨trivial,trivial,fun c2=>⟨⟨kS.mono (by decide),trivial⟩,⟨(hQ2 (beq_iff_eq.1 c2)).1,(hQ2 (beq_iff_eq.1 c2)).2,trivial⟩,?_⟩,fun c2=>⟨trivial,trivial,fun c3=>⟨⟨kS.mono (by decide),trivial⟩,⟨(hQ3 (beq_iff_eq.1 c3)).1,(hQ3 (beq_iff_eq.1 c3)).2,trivial⟩,?_⟩,fun c3=>⟨trivial,trivial,fun c4=>⟨⟨kS.mono (by decide),trivial⟩,⟨(hQ4 (beq_iff_eq.1 c4)).1,(hQ4 (beq_iff_eq.1 c4)).2,trivial⟩,?_⟩,fun c4=>⟨trivial,trivial,fun c5=>⟨⟨kS.mono (by decide),hd,hKo,hmo,trivial⟩,⟨(hQ5 (beq_iff_eq.1 c5)).1,(hQ5 (beq_iff_eq.1 c5)).2,trivial⟩,?_⟩,fun c5=>⟨trivial,trivial,fun c6=>⟨⟨kS.mono (by decide),hRd,trivial⟩,⟨(hQ6 (beq_iff_eq.1 c6)).1,(hQ6 (beq_iff_eq.1 c6)).2,trivial⟩,?_⟩,fun c6=>⟨trivial,trivial,fun c7=>⟨⟨kS.mono (by decide),hd,hSy (beq_iff_eq.1 c7) hmay,trivial⟩,⟨(hQ7 (beq_iff_eq.1 c7)).1,(hQ7 (beq_iff_eq.1 c7)).2,trivial⟩,?_⟩,fun c7=>⟨⟨kS.sn (by decide),kS.so (by decide),trivial⟩,?_⟩⟩⟩⟩⟩⟩⟩⟩
  ·have e:=eE1 (beq_iff_eq.1 c1)
   subst e
   repeat' apply And.intro
   all_goals first | trivial | rfl
  ·have e:=eE2 (beq_iff_eq.1 c2)
   subst e
   repeat' apply And.intro
   all_goals first | trivial | rfl
  ·have e:=eE3 (beq_iff_eq.1 c3)
   subst e
   repeat' apply And.intro
   all_goals first | trivial | rfl
  ·have e:=eE4 (beq_iff_eq.1 c4)
   subst e
   repeat' apply And.intro
   all_goals first | trivial | rfl
  ·have e:=eE5 (beq_iff_eq.1 c5)
   subst e
   repeat' apply And.intro
   all_goals first | trivial | rfl
  ·have e:=eE6 (beq_iff_eq.1 c6)
   subst e
   repeat' apply And.intro
   all_goals first | trivial | rfl
  ·have e:=eE7 (beq_iff_eq.1 c7)
   subst e
   repeat' apply And.intro
   all_goals first | trivial | rfl
  ·have e:=eE0 (zei c1) (zei c2) (zei c3) (zei c4) (zei c5) (zei c6) (zei c7)
   subst e
   repeat' apply And.intro
   all_goals first | trivial | rfl
theorem zkg {n:Node} {m:Message} (h:LogG n.kept):LogG (zaW n m).n.kept:=by
 unfold zaW
 split
 ·show LogG (zce (zag n) m.term).n.kept
  unfold zce
  split
  ·exact h
  ·exact h
 ·exact h
noncomputable def tabHy:List Ent:=[zl4,zb4,zqN,zqV,zux,zwb]
theorem zrZ:∀ e∈tabHy,zaf Tryz.prog e:=zaa zcD (zaa zaX (zaa zfS (zaa zfa (zaa zq8 (zaa zmN zad)))))
set_option maxHeartbeats 4000000 in
theorem zqb (n:Node) (m:Message) (hf:Few 5000 (zag n)) (hm:SmallM m) (hd:SmallDM m) (hr:zan n=true) (hmo:m.Ok) (hk:m.kind=7) (hmay:mayM n m=true) (hy:zd2 (zaW n m) m=true):FnC Tryz.prog 10 [dNode.can n,dMessage.can m] (refO (zbP n m).n (zbP n m).o 0) D3d:=by
 obtain ⟨M,hM⟩:∃ M,zbP n m=M:=⟨_,rfl⟩
 rw [hM]
 refine FnG.of_vc (zak zrZ fun _=>none) Tryz.func10 rfl (by decide) rfl 300 (p:=fun (V:List PE->Prop)=>let v0:=m.kind;let v31:=(0:Int);let v34:=Step.mk n (Out.mk [] [] [] []);let v35:=v0==2;let v36:=v0==5;let v37:=v0==3;let v38:=v0==6;let v39:=v0==7;let v40:=v0==4;let v41:=v0==1;let v42:=zb3 v34 m;let v44:=za9 v34 m.term;let v46:=decide (m.term>n.kept.term);let v49:=zb3 v44 m;let v57:=zac v46 (v0 != 1) false;let v58:=zac v57 (!zac v35 m.ok false) false;True/\(SmallN n/\zan n=true/\True)/\True/\True/\((v31 != v31)=true->True/\qN0 zeroN (Step.n M) (qN24 zeroN (Step.n M) (qO25 outZ (Step.o M) (v31=v31/\True))))/\((v31 != v31)=false->(n.kept.entries.length<=17592186044416/\n.yes.length<=17592186044416/\n.peers.length<=17592186044416/\n.reads.length<=17592186044416/\SmallM m/\True)/\True/\((!mayM n m)=true->False)/\((!mayM n m)=false->((v46=true->v46=true)/\(v46=true->v46=true)/\(v46=true->v46=true)/\(v57=true->v57=true)/\(v57=true->v57=true)/\(v57=true->v57=true)/\((v57&&v35)=true->(v57&&v35)=true)/\(v57=true->v57=true)/\(v57=true->v35=true->(v57&&v35)=true)/\(v57=true->v57=true)/\(v57=true->v57=true)/\True)/\True/\(v58=true->(Few 70000 v34/\True)/\True/\True/\True/\(v41=true->False)/\(v41=false->True/\True/\(v35=true->False)/\(v35=false->True/\True/\(v37=true->False)/\(v37=false->True/\True/\(v40=true->False)/\(v40=false->True/\True/\(v36=true->False)/\(v36=false->True/\True/\(v38=true->False)/\(v38=false->True/\True/\(v39=true->(Few 50000 v44/\SmallDM m/\LogG v44.n.kept/\I64 m.snap.index/\zd2 v44 m=true/\True)/\(SmallN v49.n/\SmallO v49.o/\True)/\qN0 v49.n (Step.n M) (qN24 v49.n (Step.n M) (qO25 v49.o (Step.o M) (v31=v31/\True))))/\(v39=false->False))))))))/\(v58=false->True/\True/\True/\(v41=true->False)/\(v41=false->True/\True/\(v35=true->False)/\(v35=false->True/\True/\(v37=true->False)/\(v37=false->True/\True/\(v40=true->False)/\(v40=false->True/\True/\(v36=true->False)/\(v36=false->True/\True/\(v38=true->False)/\(v38=false->True/\True/\(v39=true->(Few 50000 v34/\SmallDM m/\LogG n.kept/\I64 m.snap.index/\zd2 v34 m=true/\True)/\(SmallN v42.n/\SmallO v42.o/\True)/\qN0 v42.n (Step.n M) (qN24 v42.n (Step.n M) (qO25 v42.o (Step.o M) (v31=v31/\True))))/\(v39=false->False))))))))))) (by kernel_rfl) ?_
 have hsn:=hf.sn (by decide)
 obtain ⟨b1,b2,b3,b4,b5⟩:=hsn.ls
 intros
 refine ⟨trivial,⟨hsn,hr,trivial⟩,trivial,trivial,fun h=>absurd h (by decide),fun _=>⟨⟨b1,b2,b3,b4,hm,trivial⟩,trivial,fun h=>absurd hmay (by rw [zte h];decide),fun h=>⟨⟨fun h=>h,fun h=>h,fun h=>h,fun h=>h,fun h=>h,fun h=>h,fun h=>h,fun h=>h,fun h g=>zrz h g,fun h=>h,fun h=>h,trivial⟩,trivial,fun g=>?_,fun g=>?_⟩⟩⟩
 ·have hfb:zcr n m=true:=(ziG n m).symm.trans g
  have kS:Few 10001 (za9 (zag n) m.term):=by have h0:=zdH (m:=m) hf;rw [zaW,if_pos hfb] at h0;exact h0
  have hLg:LogG (za9 (zag n) m.term).n.kept:=by have h0:=zkg (m:=m) (zj8 hr).1;rw [zaW,if_pos hfb] at h0;exact h0
  have e:M=zb3 (za9 (zag n) m.term) m:=by rw [<- hM,zbP,if_pos hmay,zaW,if_pos hfb,zfs hk]
  rw [zaW,if_pos hfb] at hy
  have hQ:SmallN (zb3 (za9 (zag n) m.term) m).n/\SmallO (zb3 (za9 (zag n) m.term) m).o:=by have q:=kS.sn7 (m:=m) hd;exact ⟨q.sn (by decide),q.so (by decide)⟩
  refine ⟨⟨hf.mono (by decide),trivial⟩,trivial,trivial,trivial,fun c1=>absurd (hk.symm.trans (beq_iff_eq.1 c1)) (by decide),fun c1=>⟨trivial,trivial,fun c2=>absurd (hk.symm.trans (beq_iff_eq.1 c2)) (by decide),fun c2=>⟨trivial,trivial,fun c3=>absurd (hk.symm.trans (beq_iff_eq.1 c3)) (by decide),fun c3=>⟨trivial,trivial,fun c4=>absurd (hk.symm.trans (beq_iff_eq.1 c4)) (by decide),fun c4=>⟨trivial,trivial,fun c5=>absurd (hk.symm.trans (beq_iff_eq.1 c5)) (by decide),fun c5=>⟨trivial,trivial,fun c6=>absurd (hk.symm.trans (beq_iff_eq.1 c6)) (by decide),fun c6=>⟨trivial,trivial,fun c7=>⟨⟨kS.mono (by decide),hd,hLg,hmo.snap_index,hy,trivial⟩,⟨hQ.1,hQ.2,trivial⟩,?_⟩,fun c7=>absurd hk (zei c7)⟩⟩⟩⟩⟩⟩⟩
  subst e
  repeat' apply And.intro
  all_goals first | trivial | rfl
 ·have hfb:¬ zcr n m=true:=fun a=>by
   have b:=(ziG n m).symm.trans g
   rw [a] at b;cases b
  have kS:Few 10001 (zag n):=by have h0:=zdH (m:=m) hf;rw [zaW,if_neg hfb] at h0;exact h0
  have hLg:LogG (zag n).n.kept:=by have h0:=zkg (m:=m) (zj8 hr).1;rw [zaW,if_neg hfb] at h0;exact h0
  have e:M=zb3 (zag n) m:=by rw [<- hM,zbP,if_pos hmay,zaW,if_neg hfb,zfs hk]
  rw [zaW,if_neg hfb] at hy
  have hQ:SmallN (zb3 (zag n) m).n/\SmallO (zb3 (zag n) m).o:=by have q:=kS.sn7 (m:=m) hd;exact ⟨q.sn (by decide),q.so (by decide)⟩
  refine ⟨trivial,trivial,trivial,fun c1=>absurd (hk.symm.trans (beq_iff_eq.1 c1)) (by decide),fun c1=>⟨trivial,trivial,fun c2=>absurd (hk.symm.trans (beq_iff_eq.1 c2)) (by decide),fun c2=>⟨trivial,trivial,fun c3=>absurd (hk.symm.trans (beq_iff_eq.1 c3)) (by decide),fun c3=>⟨trivial,trivial,fun c4=>absurd (hk.symm.trans (beq_iff_eq.1 c4)) (by decide),fun c4=>⟨trivial,trivial,fun c5=>absurd (hk.symm.trans (beq_iff_eq.1 c5)) (by decide),fun c5=>⟨trivial,trivial,fun c6=>absurd (hk.symm.trans (beq_iff_eq.1 c6)) (by decide),fun c6=>⟨trivial,trivial,fun c7=>⟨⟨kS.mono (by decide),hd,hLg,hmo.snap_index,hy,trivial⟩,⟨hQ.1,hQ.2,trivial⟩,?_⟩,fun c7=>absurd hk (zei c7)⟩⟩⟩⟩⟩⟩⟩
  subst e
  repeat' apply And.intro
  all_goals first | trivial | rfl
theorem zsX (n:Node) (m:Message) (hf:Few 5000 (zag n)) (hm:SmallM m) (hd:SmallDM m):FnC Tryz.prog 10 [dNode.can n,dMessage.can m] (refO (zcC n m).1.n (zcC n m).1.o (zcC n m).2) D3d:=by
 refine FnC.g2 dNode dMessage n m (fnB Tryz.func10 (by decide) rfl) fun hno hmo=>?_
 unfold zcC
 cases hr:zan n
 ·exact zft n m (hf.sn (by decide)) hr
 ·rw [if_pos rfl]
  by_cases hy:m.kind=7/\mayM n m=true/\zd2 (zaW n m) m=true
  ·exact zqb n m hf hm hd hr hmo hy.1 hy.2.1 hy.2.2
  ·exact zqc n m hf hm hd hr ⟨hno.kept_term,hno.kept_vote,hno.kept_snap_index,hno.kept_snap_term,hno.kept_snap_config_voters,hno.kept_snap_config_learners,hno.kept_snap_data,hno.kept_entries⟩ hmo fun a b=>by
    cases c:zd2 (zaW n m) m
    ·rfl
    ·exact absurd ⟨a,b,c⟩ hy
noncomputable def zu7:Ent:=ent2 10 dNode dMessage fun n m=>([Few 5000 (zag n),SmallM m,SmallDM m],refO (zcC n m).1.n (zcC n m).1.o (zcC n m).2,D3d)
theorem zqS:zaf Tryz.prog zu7:=za3 (fnB Tryz.func10 (by decide) rfl) fun n m h=>zsX n m (h _ (by simp)) (h _ (by simp)) (h _ (by simp))
end Go.Proofs.YtkhphiahindnnaaGreat
namespace Go.Proofs.YtkhphiahindnnaaGreat
open Go.RowKit Go.ChangeShapes Go.WideShapes Go.Deep
theorem Good2.led {n:Node} {l e:Int} (h:Good2 n) (hl:0<=l/\l<=900000000) (he:0<=e/\e<=1000):Good2 {n with lead:=l,elapsed:=e}:=
 ⟨⟨h.core.id,h.core.len,h.core.on,h.core.term,h.core.vote,h.core.round,hl,h.core.last,he,h.core.lo,h.core.hi,h.core.yes,h.core.yesn,h.core.confs⟩,h.role,h.rest⟩
theorem zgC {s:Step} {m:Message} (h:Good2 s.n) (hf:1<=m.from_/\m.from_<=5):Gone s.n (zab s m).n/\(za2 s m=true->(zab s m).n.role=1):=by
 unfold zab
 split
 ·rename_i hl
  exact ⟨⟨h,Fwd.refl _⟩,fun a=>by rw [za2,decide_eq_true hl] at a;cases a⟩
 split
 ·rename_i h4
  exact ⟨⟨h,Fwd.refl _⟩,fun a=>by rw [za2,h4,Bool.and_comm] at a;cases a⟩
 ·have g:=zkq (t:=s.n.kept.term) h.core h.core.term
  exact ⟨⟨g.1.good.led ⟨by omega,by omega⟩ ⟨Int.le_refl _,by decide⟩,g.1.fwd.trans (Fwd.of_kept rfl rfl (Int.le_refl _))⟩,fun _=>g.2⟩
theorem zm2 {k:Kept} (ho:onC k=true) {i:Nat} (hi:i<=k.entries.length) {s:Snap} (hs:s.index=k.snap.index+i):onC {k with entries:=k.entries.drop i,snap:=s}=true:=by
 have h:=onC_iff.1 ho
 refine onC_iff.2 ⟨by show 0<=s.index;have:=h.1;omega,by show (k.entries.drop i).length<=_;simp only [List.length_drop];have:=h.2.1;omega,fun j hj=>?_⟩
 have hj:j<(k.entries.drop i).length:=hj
 simp only [List.length_drop] at hj
 have h2:=h.2.2 (i+j) (by omega)
 unfold okAt Kept.en at h2 ⊢
 show 1<=((k.entries.drop i).getD j default).index/\((k.entries.drop i).getD j default).index-1-(j:Int)=s.index
 have e:(k.entries.drop i).getD j default=k.entries.getD (i+j) default:=by rw [List.getD_eq_getElem?_getD,List.getD_eq_getElem?_getD,List.getElem?_drop]
 rw [e,hs]
 refine ⟨h2.1,?_⟩
 have:=h2.2
 omega
theorem zvn {k:Kept} {s:Snap} (hs:0<=s.index):onC {k with entries:=[],snap:=s}=true:=
 onC_iff.2 ⟨hs,Nat.zero_le _,fun j hj=>absurd hj (Nat.not_lt_zero _)⟩
theorem zoJ {s:Step} {m:Message} (h:Good2 s.n) (hf:1<=m.from_/\m.from_<=5) (hi:1<=m.snap.index/\m.snap.index<=900000000) (hc:mayC m.snap.config=true):Gone s.n (zb3 s m).n:=by
 have g:=zgC h hf
 unfold zb3
 split
 ·rename_i hb
  split
  ·rename_i hlt
   have hr:=g.2 hb
   have gg:=g.1.good
   have c:=gg.core
   obtain ⟨t,ht⟩:∃ t,zab s m=t:=⟨_,rfl⟩
   rw [ht] at hlt hr gg c g ⊢
   have hsi:=(zdA c.on).1
   have hk:(snapT t m).n={t.n with kept:=recK t.n.kept (zb7 m),commit:=m.snap.index}:=rfl
   have hlo:=c.lo
   have hhi:=c.hi
   have hla:=c.last
   have eW:IntKind.i64.wrap (m.snap.index-t.n.kept.snap.index)=m.snap.index-t.n.kept.snap.index:=zaD ⟨by omega,by omega⟩
   have eK:recK t.n.kept (zb7 m)={t.n.kept with entries:=(if (zau t.n.kept m.snap.index).2=0/\(zau t.n.kept m.snap.index).1=m.snap.term then t.n.kept.entries.drop (m.snap.index-t.n.kept.snap.index).toNat else []),snap:=m.snap}:=by
    have kd:(zb7 m).kind=4:=rfl
    rw [recK,if_neg (by rw [kd];decide),if_neg (by rw [kd];decide),if_neg (by rw [kd];decide),if_pos kd]
    show ({t.n.kept with entries:=(if (zau t.n.kept m.snap.index).2=0/\(zau t.n.kept m.snap.index).1=m.snap.term then t.n.kept.entries.drop (IntKind.i64.wrap (m.snap.index-t.n.kept.snap.index)).toNat else []),snap:=m.snap}:Kept)=_
    rw [eW]
   have key:onC (recK t.n.kept (zb7 m))=true/\(recK t.n.kept (zb7 m)).entries.length<=9000/\m.snap.index+((recK t.n.kept (zb7 m)).entries.length:Int)<=900000000/\(∀ e∈(recK t.n.kept (zb7 m)).entries,e∈t.n.kept.entries):=by
    rw [eK]
    split
    ·rename_i hcnd
     have hin:=zfJ hcnd.1
     have hle:(m.snap.index-t.n.kept.snap.index).toNat<=t.n.kept.entries.length:=by omega
     have hlen:=c.len
     refine ⟨zm2 c.on hle (by omega),?_,?_,fun e he=>List.mem_of_mem_drop he⟩
     ·show (t.n.kept.entries.drop _).length<=_;simp only [List.length_drop];omega
     ·show m.snap.index+((t.n.kept.entries.drop _).length:Int)<=_;simp only [List.length_drop];omega
    ·exact ⟨zvn (by omega),Nat.zero_le _,by show m.snap.index+(0:Int)<=_;omega,fun e he=>by cases he⟩
   have ks:(recK t.n.kept (zb7 m)).snap=m.snap/\(recK t.n.kept (zb7 m)).term=t.n.kept.term/\(recK t.n.kept (zb7 m)).vote=t.n.kept.vote:=by rw [eK];exact ⟨rfl,rfl,rfl⟩
   have cf:=c.confs
   unfold zcX at cf
   rw [Bool.and_eq_true,List.all_eq_true] at cf
   have rr:=zcw (by rw [hr];decide) gg.rest
   rw [hk]
   refine ⟨⟨⟨c.id,key.2.1,key.1,by rw [ks.2.1];exact c.term,by rw [ks.2.2];exact c.vote,c.round,c.lead,by show (recK t.n.kept (zb7 m)).snap.index+_<=_;rw [ks.1];exact key.2.2.1,c.elapsed,by show (recK t.n.kept (zb7 m)).snap.index<=m.snap.index;rw [ks.1];exact Int.le_refl _,by show m.snap.index<=(recK t.n.kept (zb7 m)).snap.index+_;rw [ks.1];omega,c.yes,c.yesn,?_⟩,gg.role,?_⟩,g.1.fwd.trans ⟨rfl,by show _<=(recK t.n.kept (zb7 m)).term;rw [ks.2.1];exact Int.le_refl _,Int.le_of_lt hlt,by show _<=(recK t.n.kept (zb7 m)).snap.index;rw [ks.1];omega,fun _ _=>by show (recK t.n.kept (zb7 m)).vote=_;rw [ks.2.2],fun i u h1 h2 h3 h4=>?_⟩⟩
   ·show zcX (recK t.n.kept (zb7 m))=true
    unfold zcX
    rw [Bool.and_eq_true,List.all_eq_true,ks.1]
    exact ⟨fun e he=>cf.1 e (key.2.2.2 e he),hc⟩
   ·rw [zbU (by show t.n.role≠4;rw [hr];decide)]
    show (decide (t.n.peers=[])&&decide (t.n.reads=[]))=true
    rw [rr.1,rr.2];rfl
   ·have h4:(recK t.n.kept (zb7 m)).snap.index<i:=h4
    rw [ks.1] at h4
    exact absurd h4 (by omega)
  ·exact g.1
 ·exact g.1
end Go.Proofs.YtkhphiahindnnaaGreat
namespace Go.Proofs.YtkhphiahindnnaaGreat
open Go.RowKit Go.ChangeShapes Go.WideShapes Go.Deep
section
variable {k : Kept} {index term : Int} {l : List Entry}
theorem MH.end_le (M:MH k index term l):index+l.length<=k.snap.index+mK k l+(nK k l).length:=by
 rcases zaG k l with h1 | ⟨f,hf,h1⟩
 ·obtain ⟨e1,e2,e3⟩:=zdD h1
  rw [e1,e2]
  cases hl:l.length with
  | zero=>have:=M.last;simp;omega
  | succ j=>
   have hj:j<l.length:=by omega
   have hx:=M.idx hj
   have ho:=zfx h1 hj
   by_cases g:k.snap.index<(l.getD j default).index
   ·have ht:=M.old ho g
    have:=(zlY M.on g).1 (by rw [ht])
    rw [zbR M.on] at this
    simp;omega
   ·simp;omega
 ·obtain ⟨e1,e2,e3,e4⟩:=M.mK_eq h1 hf
  rw [M.idx hf] at e1
  rw [e4,List.length_drop]
  omega
theorem MH.mK_commit (M:MH k index term l) {c:Int} (hc:c<=k.snap.index+k.entries.length) (hl:0<(zaI k l).length->((zaI k l).getD 0 default).kind=3->¬ ((zaI k l).getD 0 default).index<=c):c<=k.snap.index+mK k l:=by
 by_cases h0:cN k l=0
 ·have hm:k.entries.length<=mK k l:=by
   rcases zaG k l with h1 | ⟨f,hf,h1⟩
   ·rw [(zdD h1).1];exact Nat.le_refl _
   ·obtain ⟨e1,e2,e3,e4⟩:=M.mK_eq h1 hf
    unfold cN at h0
    rw [if_neg (by omega),e3,zbR M.on] at h0
    split at h0
    ·cases h0
    ·omega
  omega
 ·have hp:0<(zaI k l).length:=by rw [M.recs_len];omega
  rcases M.rec_at hp with ⟨a1,a2,a3⟩ | ⟨a1,_,_⟩
  ·have hk:((zaI k l).getD 0 default).kind=3:=by rw [a2];rfl
   have hi:((zaI k l).getD 0 default).index=k.snap.index+1+mK k l:=by rw [a2];rfl
   have:=hl hp hk
   omega
  ·omega
theorem MH.st_end (M:MH k index term l):stK k l (zaI k l).length=xK k l (nK k l).length:=by
 unfold stK
 rw [M.recs_len,if_neg (by omega),Nat.add_sub_cancel_left]
end
theorem znD {s:Step} {m:Message} (h:Good2 s.n) (nl0:s.n.kept.entries.length<=8000) (na0:s.n.kept.snap.index+s.n.kept.entries.length<=800000000) (hf:1<=m.from_/\m.from_<=5) (hk:s.n.kept.Ok) (hmo:m.Ok) (h8:m.entries.length<=8) (he:∀ e∈m.entries,e.kind=2->mayC e.config=true):Gone s.n (zbv s m).n:=by
 have g:=zgC h hf
 unfold zbv
 split
 ·rename_i hb
  have hr:=g.2 hb
  have eK:=zbY s m
  have gg:=g.1.good
  have c:=gg.core
  unfold mergeT
  split
  ·exact g.1
  rename_i h2
  split
  ·exact g.1
  rename_i h3
  obtain ⟨t,ht⟩:∃ t,zab s m=t:=⟨_,rfl⟩
  rw [ht] at hr eK gg c g h2 h3 ⊢
  have h2:zbf t.n.kept m.index m.logTerm m.entries=0:=Classical.not_not.1 h2
  have hko:t.n.kept.Ok:=by rw [eK];exact hk
  have M:MH t.n.kept m.index m.logTerm m.entries:=MH.of h2 hmo.index hmo.entries.2 (by omega)
  have hL:mgL t m=zaI t.n.kept m.entries:=by unfold mgL zbc;rw [if_pos h2]
  have eX:recsS t (mgL t m)=⟨{t.n with kept:=xK t.n.kept m.entries (nK t.n.kept m.entries).length},{t.o with records:=t.o.records++mgL t m}⟩:=by
   have:=M.recsS hko t rfl (j:=(zaI t.n.kept m.entries).length) (Nat.le_refl _)
   rw [List.take_length,M.st_end] at this
   rw [hL,this]
  rw [eX]
  have hend:=M.end_le
  have hlast:=M.last
  have hmk:=M.mK_le
  have hnl:(nK t.n.kept m.entries).length<=m.entries.length:=by unfold nK;split<;>simp
  have hxl:=M.xK_len (j:=(nK t.n.kept m.entries).length) (Nat.le_refl _)
  have nl:=nl0
  have na:=na0
  rw [<- eK] at nl na
  have hsi:=(zdA c.on).1
  have hhi:=c.hi
  have hcm:t.n.commit<=t.n.kept.snap.index+mK t.n.kept m.entries:=M.mK_commit hhi fun p1 p2 p3=>by
   apply h3
   unfold lowB
   rw [hL,Bool.and_eq_true,Bool.and_eq_true,decide_eq_true_eq,decide_eq_true_eq,beq_iff_eq]
   exact ⟨⟨by omega,p2⟩,p3⟩
  have eN:mgN t m<=t.n.kept.snap.index+mK t.n.kept m.entries+(nK t.n.kept m.entries).length:=by
   have b1:=hmo.index.1
   have e1:IntKind.i64.wrap (m.index+m.entries.length)=m.index+m.entries.length:=zaD ⟨by omega,by omega⟩
   unfold mgN zcm
   rw [if_pos h2,e1]
   split<;>omega
  have hon:onC (xK t.n.kept m.entries (nK t.n.kept m.entries).length)=true:=by rw [<- zld];exact M.xK_on (Nat.le_refl _) (by omega)
  obtain ⟨x,hx⟩:∃ x,xK t.n.kept m.entries (nK t.n.kept m.entries).length=x:=⟨_,rfl⟩
  have x1:x.snap=t.n.kept.snap/\x.term=t.n.kept.term/\x.vote=t.n.kept.vote:=by rw [<- hx];exact ⟨rfl,rfl,rfl⟩
  have hmem:∀ e∈x.entries,e∈t.n.kept.entries\/e∈m.entries:=fun e hm=>by
   rw [<- hx] at hm
   rcases List.mem_append.1 hm with a | a
   ·exact .inl (List.mem_of_mem_take a)
   ·exact .inr (zpu (List.mem_of_mem_take a))
  have hold:∀ i,i<mK t.n.kept m.entries->x.en i=t.n.kept.en i:=fun i hi=>by rw [<- hx];exact M.xK_old hi
  rw [hx] at hxl hon ⊢
  have cf:=c.confs
  unfold zcX at cf
  rw [Bool.and_eq_true,List.all_eq_true] at cf
  have rr:=zcw (by rw [hr];decide) gg.rest
  obtain ⟨d,hd⟩:∃ d,max t.n.commit (min m.commit (mgN t m))=d:=⟨_,rfl⟩
  have d1:t.n.commit<=d:=by omega
  have d2:d<=x.snap.index+x.entries.length:=by rw [x1.1,hxl];push_cast;omega
  show Gone s.n {t.n with kept:=x,commit:=max t.n.commit (min m.commit (mgN t m))}
  rw [hd]
  have clo:=c.lo
  refine ⟨⟨⟨c.id,by show x.entries.length<=_;omega,hon,by show 0<=x.term/\_;rw [x1.2.1];exact c.term,by show 0<=x.vote/\_;rw [x1.2.2];exact c.vote,c.round,c.lead,by show x.snap.index+(x.entries.length:Int)<=_;rw [x1.1,hxl];push_cast;omega,c.elapsed,by show x.snap.index<=d;rw [x1.1];omega,d2,c.yes,c.yesn,?_⟩,gg.role,?_⟩,g.1.fwd.trans ⟨rfl,by show _<=x.term;rw [x1.2.1];exact Int.le_refl _,d1,by show _<=x.snap.index;rw [x1.1];exact Int.le_refl _,fun _ _=>x1.2.2,fun i u i1 i2 i3 i4=>?_⟩⟩
  ·show zcX x=true
   unfold zcX
   rw [Bool.and_eq_true,List.all_eq_true,x1.1]
   refine ⟨fun e hm=>?_,cf.2⟩
   rcases hmem e hm with a | a
   ·exact cf.1 e a
   ·by_cases e2:e.kind=2
    ·rw [he e a e2];simp
    ·rw [beq_eq_false_iff_ne.2 e2];rfl
  ·rw [zbU (by show t.n.role≠4;rw [hr];decide)]
   show (decide (t.n.peers=[])&&decide (t.n.reads=[]))=true
   rw [rr.1,rr.2];rfl
  ·show zau x i=(u,0)
   have j1:(i-t.n.kept.snap.index-1).toNat<mK t.n.kept m.entries:=by omega
   rw [zcu c.on i1 (by omega)] at i3
   rw [zcu hon (by rw [x1.1];exact i1) (by rw [x1.1,hxl];push_cast;omega),x1.1]
   have e9:x.entries.getD (i-t.n.kept.snap.index-1).toNat default=t.n.kept.entries.getD (i-t.n.kept.snap.index-1).toNat default:=hold _ j1
   rw [e9];exact i3
 ·exact g.1
end Go.Proofs.YtkhphiahindnnaaGreat
namespace Go.Proofs.YtkhphiahindnnaaGreat
open Go.RowKit Go.ChangeShapes Go.WideShapes Go.Deep
set_option maxRecDepth 100000
def zpP (c:Config) (k n:Int):Bool:=if k=1 then !hasB c.voters n&&!hasB c.learners n else if k=2 then hasB c.learners n else if k=3 then hasB c.learners n||(hasB c.voters n&&decide ((1:Int)<(c.voters.length:Int))) else false
def zbs (c:Config) (k n:Int):Bool:=(mayC c&&decide (1<=n)&&decide (n<=5))&&zpP c k n
def zc5 (c:Config) (k n:Int):Config:=⟨if k=2 then putL (za8 c.voters n) n else za8 c.voters n,if k=1 then putL (za8 c.learners n) n else za8 c.learners n⟩
def zb2 (c:Config) (k n:Int):Config:=if zbs c k n=true then zc5 c k n else ⟨[],[]⟩
def zbM (c:Config) (k n:Int):Int:=if zbs c k n=true then 0 else 160
theorem dropL_mem {xs:List Int} {n x:Int}:x∈za8 xs n↔x∈xs/\x≠n:=by simp [za8]
theorem zc2 {xs:List Int} {n:Int} (h:Asc xs):Asc (za8 xs n):=List.Pairwise.filter _ h
theorem zgP (xs:List Int) (n:Int):(za8 xs n).length<=xs.length:=List.length_filter_le _ _
theorem mayC_iff {c:Config}:mayC c=true↔(Asc c.voters/\Asc c.learners)/\(∀ x∈c.voters,1<=x/\x<=5)/\(∀ x∈c.learners,1<=x/\x<=5)/\c.voters≠[]/\(∀ x∈c.voters,x∉c.learners):=by
 have hb:∀ x,inN x=true↔1<=x/\x<=5:=fun x=>by simp [inN]
 have hm:∀ x:Int,(!hasB c.learners x)=true↔x∉c.learners:=fun x=>by
  rw [Bool.not_eq_true',<- hasB_not]
 unfold mayC
 simp only [Bool.and_eq_true,decide_eq_true_eq,List.all_eq_true,hb,hm,isC_iff]
 constructor
 ·rintro ⟨⟨⟨⟨⟨a,_⟩,b⟩,⟨⟨d,_⟩,e⟩⟩,f⟩,g⟩
  exact ⟨⟨a,d⟩,b,e,f,g⟩
 ·rintro ⟨⟨a,d⟩,b,e,f,g⟩
  have l1:=zcL _ 1 5 a b (by omega)
  have l2:=zcL _ 1 5 d e (by omega)
  exact ⟨⟨⟨⟨⟨a,by omega⟩,b⟩,⟨⟨d,by omega⟩,e⟩⟩,f⟩,g⟩
theorem zgh {xs:List Int} (a:Asc xs) (h:∀ x∈xs,1<=x/\x<=5):isC xs=true:=by
 have:=zcL _ 1 5 a h (by omega)
 exact isC_iff.2 ⟨a,by omega⟩
theorem zfm {xs:List Int} {n:Int} (a:Asc xs) (h:∀ x∈xs,1<=x/\x<=5) (h1:1<=n) (h2:n<=5):(∀ x∈putL xs n,1<=x/\x<=5)/\zcn xs n=putL xs n:=by
 have hp:∀ x∈putL xs n,1<=x/\x<=5:=fun x hx=>by
  rcases putL_mem.1 hx with rfl | hx
  ·exact ⟨h1,h2⟩
  ·exact h x hx
 refine ⟨hp,?_⟩
 have hl:=zcL _ 1 5 (zco (v:=n) a) hp (by omega)
 rw [zcn,if_pos (zgh a h),if_pos (by omega)]
theorem zdl {xs:List Int} {n:Int} (h:n∉xs):za8 xs n=xs:=by
 unfold za8
 rw [List.filter_eq_self]
 intro x hx
 have:x≠n:=fun e=>h (e▸hx)
 simp [this]
theorem ziW:∀ {xs:List Int} {n:Int},Asc xs->n∈xs->(za8 xs n).length+1=xs.length
 | [],n,_,h=>by cases h
 | x::xs,n,ha,h=>by
  obtain ⟨hx,hl⟩:=List.pairwise_cons.1 ha
  by_cases e:x=n
  ·subst e
   have hn:x∉xs:=fun hm=>by have:=hx x hm;omega
   have:za8 (x::xs) x=xs:=by
    have h1:za8 (x::xs) x=za8 xs x:=by simp [za8]
    rw [h1,zdl hn]
   rw [this];rfl
  ·have h1:za8 (x::xs) n=x::za8 xs n:=by simp [za8,e]
   have hm:n∈xs:=by rcases List.mem_cons.1 h with h | h;exact absurd h.symm e;exact h
   rw [h1,List.length_cons,List.length_cons,ziW hl hm]
def zhg (c:Config) (k n:Int):Bool:=if k=1 then !(hasB c.voters n||hasB c.learners n) else if k=2 then hasB c.learners n&&decide ((0:Int)<((putL (za8 c.voters n) n).length:Int)) else if k=3 then (hasB c.voters n||hasB c.learners n)&&decide ((0:Int)<((za8 c.voters n).length:Int)) else false
theorem zpO {c:Config} (k n:Int) (h:mayC c=true):zhg c k n=zpP c k n:=by
 obtain ⟨⟨a1,a2⟩,h1,h2,h3,h4⟩:=mayC_iff.1 h
 unfold zhg zpP
 by_cases c1:k=1
 ·rw [if_pos c1,if_pos c1];simp
 rw [if_neg c1,if_neg c1]
 by_cases c2:k=2
 ·rw [if_pos c2,if_pos c2]
  have hm:n∈putL (za8 c.voters n) n:=putL_mem.2 (.inl rfl)
  have:(0:Int)<((putL (za8 c.voters n) n).length:Int):=by
   have:=List.length_pos_of_mem hm;omega
  rw [decide_eq_true this,Bool.and_true]
 rw [if_neg c2,if_neg c2]
 by_cases c3:k=3
 ·rw [if_pos c3,if_pos c3]
  cases hv:hasB c.voters n
  ·have hn:=hasB_not.1 hv
   rw [zdl hn]
   have:(0:Int)<(c.voters.length:Int):=by
    have:=List.length_pos_iff.2 h3;omega
   rw [decide_eq_true this];simp
  ·have hm:=hasB_iff.1 hv
   have hl:hasB c.learners n=false:=hasB_not.2 (h4 n hm)
   have hd:=ziW a1 hm
   rw [hl]
   simp only [Bool.true_or,Bool.true_and,Bool.false_or]
   rw [Bool.eq_iff_iff]
   simp only [decide_eq_true_eq]
   omega
 rw [if_neg c3,if_neg c3]
theorem zr7 {c:Config} {k n:Int} (h:zbs c k n=true):(za8 c.voters n).length<=1000/\(za8 c.learners n).length<=1000/\(putL (za8 c.voters n) n).length<=1000/\(putL (za8 c.learners n) n).length<=1000:=by
 unfold zbs at h
 simp only [Bool.and_eq_true,decide_eq_true_eq] at h
 obtain ⟨⟨⟨hm,h1⟩,h5⟩,_⟩:=h
 obtain ⟨⟨a1,a2⟩,m1,m2,_,_⟩:=mayC_iff.1 hm
 have d0:=zc2 (n:=n) a1
 have d1:=zc2 (n:=n) a2
 have p0:=zfm (n:=n) d0 (fun x hx=>m1 x (dropL_mem.1 hx).1) (by omega) (by omega)
 have p1:=zfm (n:=n) d1 (fun x hx=>m2 x (dropL_mem.1 hx).1) (by omega) (by omega)
 have q0:=zcL _ 1 5 (zco (v:=n) d0) p0.1 (by omega)
 have q1:=zcL _ 1 5 (zco (v:=n) d1) p1.1 (by omega)
 have r0:=zcL _ 1 5 d0 (fun x hx=>m1 x (dropL_mem.1 hx).1) (by omega)
 have r1:=zcL _ 1 5 d1 (fun x hx=>m2 x (dropL_mem.1 hx).1) (by omega)
 omega
theorem zlR (l:List Int) (v:Int):(zcn l v).length<=16:=by
 unfold zcn
 split
 ·split
  ·assumption
  ·simp
 ·simp
noncomputable def tabAm:List Ent:=[eMay,eAsk,zvW,zvO,zfR]
theorem zsi:∀ e∈tabAm,zaf Tryz.prog e:=zaa zqM (zaa zrc (zaa zmM (zaa ziK (zaa ze1 zad))))
theorem zp6 (c:Config) (ch:Change) (hs:zaw c):FnC Tryz.prog 47 [dConfig.can c,dChange.can ch] (.tup [.agg ((zb2 c ch.kind ch.node).svs [1]),.int .i64 (zbM c ch.kind ch.node)]) D2:=by
 refine FnG.of_vc (zak zsi fun _=>none) Tryz.func47 rfl (by decide) rfl 300 (p:=fun (V:List PE->Prop)=>let v0:=Change.node ch;let v1:=c.learners;let v2:=Change.kind ch;let v3:=c.voters;let v4:=zbp v1 v0;let v5:=(0:Int);let v6:=hasB v3 v0;let v7:=hasB v1 v0;let v8:=zbp v3 v0;let v9:=zbM c v2 v0;let v10:=zb2 c v2 v0;let v11:=v10.voters;let v13:=v10.learners;let v14:=zcn v8 v0;let v18:=zac v6 true v7;let v19:=v2==3;let v20:=v2==2;let v21:=v2==1;let v24:=zac (!mayC c) true (decide (v0<1));let v25:=zac v24 true (decide (v0>5));let v26:=!zac v7 (decide ((↑(v14.length):Int)>v5)) false;let v27:=!zac v18 (decide ((↑(v8.length):Int)>v5)) false;True/\True/\True/\(zaw c/\((!!mayC c)=true->(!!mayC c)=true)/\((!!mayC c)=true->(!!mayC c)=true)/\((!mayC c)=false->(!!mayC c)=true)/\((!v24)=true->(!v24)=true)/\((!v24)=true->(!v24)=true)/\(v24=false->(!v24)=true)/\True)/\True/\(v25=true->True/\v11=[]/\v13=[]/\(160:Int)=v9/\True)/\(v25=false->True/\(v3.length<=1000000/\True)/\(v1.length<=1000000/\True)/\((v6=false->(!v6)=true)/\True)/\True/\True/\True/\(v21=true->True/\(v4.length<=1000000/\True)/\True/\True/\((!!v18)=true->True/\v11=[]/\v13=[]/\(160:Int)=v9/\True)/\((!!v18)=false->True/\v8=v11/\(zcn v4 v0)=v13/\List.length (zcn v4 v0)<=17592186044416/\v5=v9/\True))/\(v21=false->True/\True/\(v20=true->True/\(v8.length<=1000000/\True)/\((v7=true->v7=true)/\(v7=true->v7=true)/\(v7=true->v7=true)/\(v7=true->v7=true)/\True)/\True/\True/\(v26=true->True/\v11=[]/\v13=[]/\(160:Int)=v9/\True)/\(v26=false->True/\v14=v11/\v14.length<=17592186044416/\v4=v13/\v5=v9/\True))/\(v20=false->True/\True/\(v19=true->((v18=true->v18=true)/\(v18=true->v18=true)/\(v18=true->v18=true)/\(v18=true->v18=true)/\True)/\True/\True/\(v27=true->True/\v11=[]/\v13=[]/\(160:Int)=v9/\True)/\(v27=false->True/\v8=v11/\v4=v13/\v5=v9/\True))/\(v19=false->True/\True/\True/\((!false)=true->True/\v11=[]/\v13=[]/\(160:Int)=v9/\True)/\((!false)=false->True/\v8=v11/\v4=v13/\v5=v9/\True)))))) (by kernel_rfl) ?_
 simp only [imp_self,implies_true,true_and,and_true,zah,zai]
 generalize ch.kind=k
 generalize ch.node=n
 have hs':=hs
 obtain ⟨hs1,hs2⟩:=hs
 by_cases hg:mayC c=true/\1<=n/\n<=5
 ·obtain ⟨hm,h1,h5⟩:=hg
  obtain ⟨⟨a1,a2⟩,m1,m2,m3,m4⟩:=mayC_iff.1 hm
  have d0:=zc2 (n:=n) a1
  have d1:=zc2 (n:=n) a2
  have p0:=(zfm (n:=n) d0 (fun x hx=>m1 x (dropL_mem.1 hx).1) h1 h5).2
  have p1:=(zfm (n:=n) d1 (fun x hx=>m2 x (dropL_mem.1 hx).1) h1 h5).2
  have w0:zbp c.voters n=za8 c.voters n:=by unfold zbp;rw [if_pos (zgh a1 m1)]
  have w1:zbp c.learners n=za8 c.learners n:=by unfold zbp;rw [if_pos (zgh a2 m2)]
  have hd0:=zgP c.voters n
  have hd1:=zgP c.learners n
  have hB:zbs c k n=zhg c k n:=by unfold zbs;rw [zpO k n hm];simp [hm,h1,h5]
  have hw0:=zlR (za8 c.voters n) n
  have hw1:=zlR (za8 c.learners n) n
  rw [p0] at hw0
  rw [p1] at hw1
  have g1:decide (n<1)=false:=by simp;omega
  have g2:decide (n>5)=false:=by simp;omega
  simp only [w0,w1,p0,p1,hm,g1,g2]
  refine ⟨⟨hs',by simp,by simp⟩,fun h=>by simp at h,fun _=>⟨hs1,hs2,(by cases hasB c.voters n<;>simp),fun e1=>?_,fun n1=>⟨fun e2=>?_,fun n2=>⟨fun e3=>?_,fun n3=>?_⟩⟩⟩⟩
  ·have e1:k=1:=by simpa using e1
   subst e1
   refine ⟨by omega,fun h=>?_,fun h=>?_⟩
   ·have h:zbs c 1 n=false:=by rw [hB,zhg,if_pos rfl];revert h;cases hasB c.voters n<;>cases hasB c.learners n<;>simp
    simp [zbM,zb2,h]
   ·have h:zbs c 1 n=true:=by rw [hB,zhg,if_pos rfl];revert h;cases hasB c.voters n<;>cases hasB c.learners n<;>simp
    simp [zbM,zb2,zc5,h];omega
  ·have e2:k=2:=by simpa using e2
   subst e2
   refine ⟨by omega,fun h=>?_,fun h=>?_⟩
   ·have h:zbs c 2 n=false:=by rw [hB,zhg,if_neg (by decide),if_pos rfl];simpa only [Bool.not_eq_true',Bool.not_eq_false',GT.gt] using h
    simp [zbM,zb2,h]
   ·have h:zbs c 2 n=true:=by rw [hB,zhg,if_neg (by decide),if_pos rfl];simpa only [Bool.not_eq_true',Bool.not_eq_false',GT.gt] using h
    simp [zbM,zb2,zc5,h];omega
  ·have e3:k=3:=by simpa using e3
   subst e3
   refine ⟨fun h=>?_,fun h=>?_⟩
   ·have h:zbs c 3 n=false:=by rw [hB,zhg,if_neg (by decide),if_neg (by decide),if_pos rfl];simpa only [Bool.not_eq_true',Bool.not_eq_false',GT.gt] using h
    simp [zbM,zb2,h]
   ·have h:zbs c 3 n=true:=by rw [hB,zhg,if_neg (by decide),if_neg (by decide),if_pos rfl];simpa only [Bool.not_eq_true',Bool.not_eq_false',GT.gt] using h
    simp [zbM,zb2,zc5,h]
  ·have m1:¬ k=1:=by simpa using n1
   have m2:¬ k=2:=by simpa using n2
   have m3:¬ k=3:=by simpa using n3
   have h:zbs c k n=false:=by rw [hB,zhg,if_neg m1,if_neg m2,if_neg m3]
   simp [zbM,zb2,h]
 ·have h:zbs c k n=false:=by
   unfold zbs
   cases hm:mayC c
   ·simp
   ·simp only [Bool.true_and]
    by_cases h1:1<=n
    ·have:¬ n<=5:=fun h5=>hg ⟨hm,h1,h5⟩
     simp [this]
    ·simp [h1]
  have hx:(!mayC c||decide (n<1)||decide (n>5))=true:=by
   cases hm:mayC c
   ·simp
   ·by_cases h1:1<=n
    ·have:¬ n<=5:=fun h5=>hg ⟨hm,h1,h5⟩
     simp;omega
    ·simp;omega
  refine ⟨⟨hs',fun h=>by rw [h];rfl,fun h=>by rw [h];rfl⟩,fun _=>by simp [zbM,zb2,h],fun h2=>by rw [hx] at h2;cases h2⟩
noncomputable def zqO:Ent:=ent2 47 dConfig dChange fun c ch=>([zaw c],.tup [.agg ((zb2 c ch.kind ch.node).svs [1]),.int .i64 (zbM c ch.kind ch.node)],D2)
theorem znZ:zaf Tryz.prog zqO:=za3 (fnB Tryz.func47 (by decide) rfl) fun c ch h=>zp6 c ch (h _ (by simp))
def zbF (n:Node):Int:=if zan n then (if n.role=4 then 0 else 170) else 1
theorem zpD (n:Node) (hn:SmallN n) (he:zbF n≠0):FnC Tryz.prog 41 [dNode.can n] (.tup [.any,.int .i64 (zbF n)]) D2:=by
 by_cases hr:zan n=true
 ·refine FnG.of_vc (zak (zaa zcD zad) fun _=>none) Tryz.func41 rfl (by decide) rfl 300 (p:=fun (V:List PE->Prop)=>let v0:=(0:Int)==0;True/\(SmallN n/\zan n=true/\True)/\((v0=true->v0=true)/\(v0=true->v0=true)/\(v0=true->v0=true)/\True)/\True/\True/\zat (zac v0 (n.role != 4) false) (170:Int) (0:Int)=zbF n/\True) (by kernel_rfl) ?_
  simp only [imp_self,implies_true,true_and,and_true,zah,zai]
  refine ⟨⟨hn,hr⟩,?_⟩
  by_cases h4:n.role=4<;>simp [zbF,hr,h4,zat]
 ·have hr:zan n=false:=by simpa using hr
  refine FnG.of_vc (zak (zaa zmR zad) fun _=>none) Tryz.func41 rfl (by decide) rfl 300 (p:=fun (V:List PE->Prop)=>let v0:=(1:Int)==0;True/\(SmallN n/\zan n=false/\True)/\((v0=true->v0=true)/\(v0=true->v0=true)/\(v0=true->v0=true)/\True)/\True/\True/\zat (zac v0 (n.role != 4) false) (170:Int) (1:Int)=zbF n/\True) (by kernel_rfl) ?_
  simp only [imp_self,implies_true,true_and,and_true,zah,zai]
  refine ⟨⟨hn,hr⟩,?_⟩
  simp [zbF,hr,zat]
theorem zpC (n:Node) (hn:SmallN n) (hr:zan n=true) (h4:n.role=4):FnC Tryz.prog 41 [dNode.can n] (.tup [.ptr 2 0,.int .i64 0]) (zf1 n):=by
 refine FnG.of_vc (zak (zaa zcD zad) fun _=>none) Tryz.func41 rfl (by decide) rfl 300 (p:=fun (V:List PE->Prop)=>let v12:=(0:Int);let v13:=v12==v12;True/\(SmallN n/\zan n=true/\True)/\((v13=true->v13=true)/\(v13=true->v13=true)/\(v13=true->v13=true)/\True)/\True/\True/\zat (zac v13 (n.role != 4) false) (170:Int) v12=v12/\qN0 n n (qN1 n n (n.reads=n.reads/\True))) (by kernel_rfl) ?_
 simp only [qN0,qN1,imp_self,implies_true,true_and,and_true,zah,zai]
 exact ⟨⟨hn,hr⟩,by rw [h4];rfl⟩
def zu5:Ent:=ent1 41 dNode fun n=>([SmallN n,zbF n≠0],.tup [.any,.int .i64 (zbF n)],D2)
theorem zk3:zaf Tryz.prog zu5:=za4 (fnB Tryz.func41 (by decide) rfl) fun n h=>zpD n (h _ (by simp)) (h _ (by simp))
def zqP:Ent:=ent1 41 dNode fun n=>([SmallN n,zan n=true,n.role=4],.tup [.ptr 2 0,.int .i64 0],zf1 n)
theorem zk2:zaf Tryz.prog zqP:=za4 (fnB Tryz.func41 (by decide) rfl) fun n h=>zpC n (h _ (by simp)) (h _ (by simp)) (h _ (by simp))
def opE (data:ByteArray):Entry:=⟨0,0,3,⟨[],[]⟩,data⟩
def zs8 (n:Node) (data:ByteArray):Step:=allS (zaB (layS (zag n) (opE data)))
def zbW (n:Node) (data:ByteArray):Step×Int:=
 if zbF n≠0 then (⟨zeroN,outZ⟩,zbF n)
 else if 60000<(data.size:Int)\/9000<=(n.kept.entries.length:Int) then (⟨zeroN,outZ⟩,2)
 else (zs8 n data,0)
noncomputable def zwK:List Ent:=[zu5,zb4]
theorem zo8:∀ e∈zwK,zaf Tryz.prog e:=zaa zk3 (zaa zaX zad)
noncomputable def zwJ:List Ent:=[zqP,zb4,eLay,zk5,zrf,eEnd]
theorem zo7:∀ e∈zwJ,zaf Tryz.prog e:=zaa zk2 (zaa zaX (zaa zl1 (zaa zfb (zaa zfT (zaa zfz zad)))))
theorem zkZ (n:Node) (data:ByteArray) (hn:SmallN n) (he:zbF n≠0):FnC Tryz.prog 13 [dNode.can n,dStr.can data] (refO zeroN outZ (zbF n)) D3d:=by
 refine FnG.of_vc (zak zo8 fun _=>none) Tryz.func13 rfl (by decide) rfl 300 (p:=fun (V:List PE->Prop)=>let v2:=zbF n;let v17:=v2 != 0;let v18:=decide ((↑(ByteArray.size data):Int)>60000);let v19:=zac v18 true (decide ((↑(n.kept.entries.length):Int)>=9000));True/\(SmallN n/\v2≠(0:Int)/\True)/\True/\True/\(v17=true->True/\qN0 zeroN zeroN (qN24 zeroN zeroN (qO25 outZ outZ (v2=v2/\True))))/\(v17=false->(((!v18)=true->(!v18)=true)/\((!v18)=true->(!v18)=true)/\((!v18)=true->(!v18)=true)/\((!v18)=true->(!v18)=true)/\(v18=false->(!v18)=true)/\True)/\True/\(v19=true->True/\qN0 zeroN zeroN (qN24 zeroN zeroN (qO25 outZ outZ ((2:Int)=v2/\True))))/\(v19=false->False))) (by kernel_rfl) ?_
 simp only [qN0,qN24,qO25,imp_self,implies_true,true_and,and_true,zah,zai]
 refine ⟨⟨hn,he⟩,fun h=>?_⟩
 exact absurd (by simpa using h) he
theorem zkY (n:Node) (data:ByteArray) (hf:Few 50000 (zag n)) (hr:zan n=true) (h4:n.role=4):FnC Tryz.prog 13 [dNode.can n,dStr.can data] (refO (zbW n data).1.n (zbW n data).1.o (zbW n data).2) D3d:=by
 refine FnG.of_vc (zak zo7 fun _=>none) Tryz.func13 rfl (by decide) rfl 300 (p:=fun (V:List PE->Prop)=>let v4:=(0:Int);let v5:=Prod.snd (zbW n data);let v6:=Prod.fst (zbW n data);let v28:=Out.mk [] [] [] [];let v36:=Entry.mk v4 v4 (3:Int) (Config.mk [] []) data;let v37:=decide ((↑(ByteArray.size data):Int)>60000);let v38:=layS (Step.mk n v28) v36;let v39:=zaB v38;let v41:=allS v39;let v48:=zac v37 true (decide ((↑(n.kept.entries.length):Int)>=9000));True/\(SmallN n/\zan n=true/\n.role=4/\True)/\True/\True/\((v4 != v4)=true->True/\qN0 zeroN v6.n (qN24 zeroN v6.n (qO25 outZ v6.o (v4=v5/\True))))/\((v4 != v4)=false->(((!v37)=true->(!v37)=true)/\((!v37)=true->(!v37)=true)/\((!v37)=true->(!v37)=true)/\((!v37)=true->(!v37)=true)/\(v37=false->(!v37)=true)/\True)/\True/\(v48=true->True/\qN0 zeroN v6.n (qN24 zeroN v6.n (qO25 outZ v6.o ((2:Int)=v5/\True))))/\(v48=false->(SmallN n/\SmallO v28/\zen v36/\True)/\(SmallN v38.n/\SmallO v38.o/\List.length (Config.voters (za6 v38.n))<=4000/\True)/\(SmallN v39.n/\v39.o.messages.length+v39.n.peers.length<=1000000/\True)/\(SmallN v41.n/\SmallO v41.o/\True)/\qN0 v41.n v6.n (qN24 v41.n v6.n (qO25 v41.o v6.o (v4=v5/\True)))))) (by kernel_rfl) ?_
 simp only [qN0,qN24,qO25,imp_self,implies_true,true_and,and_true,zah,zai]
 have he:zbF n=0:=by rw [zbF,if_pos hr,if_pos h4]
 have k0:Few 50000 (zag n):=hf
 have k1:=k0.lay (e:=opE data) smallD0
 have k2:=k1.count
 have k3:=k2.all
 obtain ⟨b1,b2,b3,b4,b5⟩:=(k3.sn (by decide)).ls
 obtain ⟨c1,c2,c3,c4⟩:=(k3.so (by decide)).ls
 refine ⟨⟨hf.sn (by decide),hr,h4⟩,fun h=>absurd h (by decide),fun _=>⟨fun h=>by rw [h];rfl,fun h=>?_,fun h=>?_⟩⟩
 ·have h:60000<(data.size:Int)\/9000<=(n.kept.entries.length:Int):=by
   simp only [Bool.or_eq_true,decide_eq_true_eq] at h
   exact h
  have e:zbW n data=(⟨zeroN,outZ⟩,2):=by rw [zbW,if_neg (by rw [he];decide),if_pos h]
  rw [e]
  repeat' apply And.intro
  all_goals rfl
 ·have h:¬ (60000<(data.size:Int)\/9000<=(n.kept.entries.length:Int)):=by
   simp only [Bool.or_eq_false_iff,decide_eq_false_iff_not] at h
   rintro (h2 | h2)
   ·exact h.1 h2
   ·exact h.2 h2
  have e:zbW n data=(zs8 n data,0):=by rw [zbW,if_neg (by rw [he];decide),if_neg h]
  rw [e]
  refine ⟨⟨k0.sn (by decide),k0.so (by decide),smallD0.c⟩,⟨k1.sn (by decide),k1.so (by decide),k1.cf.1⟩,⟨k2.sn (by decide),?_⟩,⟨k3.sn (by decide),k3.so (by decide)⟩,?_⟩
  ·have h1:=k2.messages
   have h2:=k2.peers
   exact Nat.le_trans (Nat.add_le_add h1 h2) (by decide)
  ·repeat' apply And.intro
   all_goals rfl
theorem zn6 (n:Node) (data:ByteArray) (hf:Few 50000 (zag n)):FnC Tryz.prog 13 [dNode.can n,dStr.can data] (refO (zbW n data).1.n (zbW n data).1.o (zbW n data).2) D3d:=by
 by_cases he:zbF n=0
 ·have h:zan n=true/\n.role=4:=by
   unfold zbF at he
   by_cases hr:zan n=true
   ·rw [if_pos hr] at he
    by_cases h4:n.role=4
    ·exact ⟨hr,h4⟩
    ·rw [if_neg h4] at he;exact absurd he (by decide)
   ·rw [if_neg hr] at he;exact absurd he (by decide)
  exact zkY n data hf h.1 h.2
 ·rw [zbW,if_pos he]
  exact zkZ n data (hf.sn (by decide)) he
def setE (n:Node):Int:=if zbF n≠0 then zbF n else if (zau n.kept n.commit).1=n.kept.term then 0 else 171
theorem zeO {n:Node} (he:zbF n=0):zan n=true/\n.role=4:=by
 unfold zbF at he
 by_cases hr:zan n=true
 ·rw [if_pos hr] at he
  by_cases h4:n.role=4
  ·exact ⟨hr,h4⟩
  ·rw [if_neg h4] at he;exact absurd he (by decide)
 ·rw [if_neg hr] at he;exact absurd he (by decide)
theorem zkQ {n:Node} (he:setE n=0):zbF n=0/\(zau n.kept n.commit).1=n.kept.term:=by
 unfold setE at he
 split at he
 ·rename_i h;exact absurd he h
 ·rename_i h
  split at he
  ·rename_i h2;exact ⟨Classical.not_not.1 h,h2⟩
  ·exact absurd he (by decide)
noncomputable def tabSt:List Ent:=[zqP,zgI]
theorem zmb:∀ e∈tabSt,zaf Tryz.prog e:=zaa zk2 (zaa zcW zad)
theorem zkP (n:Node) (hn:SmallN n) (he:setE n≠0):FnC Tryz.prog 44 [dNode.can n] (.tup [.any,.int .i64 (setE n)]) D2:=by
 by_cases h0:zbF n=0
 ·have e:setE n=171:=by
   unfold setE at he ⊢
   rw [if_neg (Classical.not_not.2 h0)] at he ⊢
   split at he
   ·exact absurd rfl he
   ·rename_i h;rw [if_neg h]
  have hne:¬ (zau n.kept n.commit).1=n.kept.term:=fun h=>by
   rw [setE,if_neg (Classical.not_not.2 h0),if_pos h] at e;exact absurd e (by decide)
  obtain ⟨hr,h4⟩:=zeO h0
  refine FnG.of_vc (zak zmb fun _=>none) Tryz.func44 rfl (by decide) rfl 300 (p:=fun (V:List PE->Prop)=>let v0:=(0:Int) != 0;let v1:=Prod.fst (zau n.kept n.commit) != n.kept.term;True/\(SmallN n/\zan n=true/\n.role=4/\True)/\True/\True/\(v0=true->True/\(0:Int)=setE n/\True)/\(v0=false->True/\True/\True/\(v1=true->True/\(171:Int)=setE n/\True)/\(v1=false->True/\(0:Int)=setE n/\True))) (by kernel_rfl) ?_
  simp only [imp_self,implies_true,true_and,and_true,zah,zai]
  refine ⟨⟨hn,hr,h4⟩,fun h=>absurd h (by decide),fun _=>⟨fun _=>e.symm,fun h=>?_⟩⟩
  exact absurd (by simpa using h) hne
 ·have e:setE n=zbF n:=by rw [setE,if_pos h0]
  rw [e]
  refine FnG.of_vc (zak (zaa zk3 zad) fun _=>none) Tryz.func44 rfl (by decide) rfl 300 (p:=fun (V:List PE->Prop)=>let v0:=zbF n != 0;True/\(SmallN n/\zbF n≠(0:Int)/\True)/\True/\True/\(v0=true->True/\zbF n=zbF n/\True)/\(v0=false->False)) (by kernel_rfl) ?_
  simp only [imp_self,implies_true,true_and,and_true,zah,zai]
  refine ⟨⟨hn,h0⟩,fun h=>?_⟩
  exact absurd (by simpa using h) h0
theorem zkO (n:Node) (hn:SmallN n) (he:setE n=0):FnC Tryz.prog 44 [dNode.can n] (.tup [.ptr 2 0,.int .i64 0]) (zf1 n):=by
 obtain ⟨h0,ht⟩:=zkQ he
 obtain ⟨hr,h4⟩:=zeO h0
 refine FnG.of_vc (zak zmb fun _=>none) Tryz.func44 rfl (by decide) rfl 300 (p:=fun (V:List PE->Prop)=>let v11:=(0:Int);let v15:=Prod.fst (zau n.kept n.commit) != n.kept.term;True/\(SmallN n/\zan n=true/\n.role=4/\True)/\True/\True/\((v11 != v11)=true->True/\False)/\((v11 != v11)=false->True/\True/\True/\(v15=true->True/\False)/\(v15=false->True/\v11=v11/\qN0 n n (qN1 n n (n.reads=n.reads/\True))))) (by kernel_rfl) ?_
 simp only [qN0,qN1,imp_self,implies_true,true_and,and_true,zah,zai]
 refine ⟨⟨hn,hr,h4⟩,fun h=>absurd h (by decide),fun _ h=>?_⟩
 rw [ht] at h;simp at h
def zx3:Ent:=ent1 44 dNode fun n=>([SmallN n,setE n≠0],.tup [.any,.int .i64 (setE n)],D2)
theorem zts:zaf Tryz.prog zx3:=za4 (fnB Tryz.func44 (by decide) rfl) fun n h=>zkP n (h _ (by simp)) (h _ (by simp))
def zx2:Ent:=ent1 44 dNode fun n=>([SmallN n,setE n=0],.tup [.ptr 2 0,.int .i64 0],zf1 n)
theorem ztr:zaf Tryz.prog zx2:=za4 (fnB Tryz.func44 (by decide) rfl) fun n h=>zkO n (h _ (by simp)) (h _ (by simp))
def zt9 (c:Config):Entry:=⟨0,0,2,c,zs⟩
def ze4 (n:Node) (ch:Change):Config:=zb2 (za6 n) ch.kind ch.node
def zol (n:Node):Int:=(zav n.kept (zam n.kept).1).2.1
def chgP (n:Node) (ch:Change):Int:=zaT n.peers ch.node
def chgE (n:Node) (ch:Change):Int:=
 if n.commit<zol n then 161
 else if zbM (za6 n) ch.kind ch.node≠0\/(ch.kind=3/\ch.node=n.id) then 160
 else if ch.kind=2/\0<=chgP n ch/\(n.peers.getD (chgP n ch).toNat default).match_<n.commit then 161
 else if 9000<=(n.kept.entries.length:Int) then 2 else 0
def chg1 (n:Node) (ch:Change):Step:=layS (zag n) (zt9 (ze4 n ch))
def zaE (s:Step) (o:Int):Peer:=if 0<=zaT s.n.peers o then s.n.peers.getD (zaT s.n.peers o).toNat default else ⟨o,(zam s.n.kept).1,0,0⟩
def chg2 (n:Node) (ch:Change):Step:=withP (chg1 n ch) ((zay (chg1 n ch).n).map (zaE (chg1 n ch)))
def chgS (n:Node) (ch:Change):Step:=allS (zaB (chg2 n ch))
def chgC (n:Node) (ch:Change):Step×Int:=
 if setE n≠0 then (⟨zeroN,outZ⟩,setE n)
 else if chgE n ch≠0 then (⟨zeroN,outZ⟩,chgE n ch)
 else (chgS n ch,0)
theorem zfE (c:Config) (k n:Int):SmallD (zb2 c k n):=by
 unfold zb2
 split
 ·rename_i h
  have:=zr7 h
  unfold zc5
  refine ⟨?_,?_⟩
  ·show (if k=2 then _ else _:List Int).length<=_;split<;>omega
  ·show (if k=1 then _ else _:List Int).length<=_;split<;>omega
 ·exact smallD0
theorem zjD (n:Node):(zay n).length<=16:=Nat.le_trans (List.length_filter_le _ _) (zef (za6 n)).2
theorem Few.chg1 {B:Nat} {n:Node} {ch:Change} (h:Few B (zag n)):Few (B+1) (chg1 n ch):=Few.lay h (zfE _ _ _)
theorem Few.chg2 {B:Nat} {n:Node} {ch:Change} (h:Few B (zag n)):Few (B+1) (chg2 n ch):=h.chg1.withP (by rw [List.length_map];have:=zjD (Go.Proofs.YtkhphiahindnnaaGreat.chg1 n ch).n;omega)
theorem zxP {a b:Bool} (h:a=true) (g:b=true):(a&&b)=true:=by rw [h,g];rfl
theorem zxc {a:Bool} (h:a=false):(!a)=true:=by rw [h];rfl
theorem zpo {k x:Int} (h:zac (k==2) (decide (x>=0)) false=true):k=2/\0<=x:=by
 rw [zah,Bool.and_eq_true,beq_iff_eq,decide_eq_true_eq] at h;exact h
theorem zhU (e k a i:Int):(zac (e != 0) true (zac (k==3) (a==i) false)=true)=(e≠0\/(k=3/\a=i)):=by
 rw [zai,zah];simp
theorem zwk {e k a i:Int} (h:zac (e != 0) true (zac (k==3) (a==i) false)=true):e≠0\/(k=3/\a=i):=zhU e k a i▸h
theorem zjb {e k a i:Int} (h:zac (e != 0) true (zac (k==3) (a==i) false)=false):¬ (e≠0\/(k=3/\a=i)):=fun g=>by
 rw [<- zhU] at g;rw [g] at h;cases h
theorem zhT (k x m c:Int):(zac (zac (k==2) (decide (x>=0)) false) (decide (m<c)) false=true)=(k=2/\0<=x/\m<c):=by
 rw [zah,zah];simp [and_assoc]
theorem zwj {k x m c:Int} (h:zac (zac (k==2) (decide (x>=0)) false) (decide (m<c)) false=true):k=2/\0<=x/\m<c:=zhT k x m c▸h
theorem zmX {k x m c:Int} (h:zac (zac (k==2) (decide (x>=0)) false) (decide (m<c)) false=false):¬ (k=2/\0<=x/\m<c):=fun g=>by
 rw [<- zhT] at g;rw [g] at h;cases h
noncomputable def zwO:List Ent:=[zx3,zb4]
theorem zoC:∀ e∈zwO,zaf Tryz.prog e:=zaa zts (zaa zaX zad)
noncomputable def zwN:List Ent:=[zx2,zb4,zhJ,zt1,zqO,ztu,eLay,eOth,zk5,zrf,eEnd]
theorem zjs:∀ e∈zwN,zaf Tryz.prog e:=zaa ztr (zaa zaX (zaa zcV (zaa ziT (zaa znZ (zaa ziO (zaa zl1 (zaa zlx (zaa zfb (zaa zfT (zaa zfz zad))))))))))
theorem zon (n:Node) (ch:Change) (hn:SmallN n) (he:setE n≠0):FnC Tryz.prog 14 [dNode.can n,dChange.can ch] (refO zeroN outZ (setE n)) D3d:=by
 refine FnG.of_vc (zak zoC fun _=>none) Tryz.func14 rfl (by decide) rfl 300 (p:=fun (V:List PE->Prop)=>let v14:=setE n != 0;True/\(SmallN n/\setE n≠(0:Int)/\True)/\True/\True/\(v14=true->True/\qN0 zeroN zeroN (qN24 zeroN zeroN (qO25 outZ outZ (setE n=setE n/\True))))/\(v14=false->False)) (by kernel_rfl) ?_
 simp only [qN0,qN24,qO25,imp_self,implies_true,true_and,and_true,zah,zai]
 refine ⟨⟨hn,he⟩,fun h=>?_⟩
 exact absurd (by simpa using h) he
theorem zom (n:Node) (ch:Change) (hf:Few 50000 (zag n)) (he:setE n=0):FnC Tryz.prog 14 [dNode.can n,dChange.can ch] (refO (chgC n ch).1.n (chgC n ch).1.o (chgC n ch).2) D3d:=by
 obtain ⟨M,hM⟩:∃ M,chgC n ch=M:=⟨_,rfl⟩
 rw [hM]
 refine FnG.of_vc (zak zjs fun _=>none) Tryz.func14 rfl (by decide) rfl 300 (p:=fun (V:List PE->Prop)=>let v1:=Change.node ch;let v2:=n.kept;let v3:=Change.kind ch;let v8:=Prod.snd M;let v9:=n.peers.length;let v10:=Step.n (Prod.fst M);let v11:=zaT n.peers v1;let v12:=v2.entries.length;let v13:=(0:Int);let v14:=Step.o (Prod.fst M);let v15:=Int.toNat v11;let v20:=Out.mk [] [] [] [];let v21:=zav v2 (Prod.fst (zam v2));let v22:=v3==3;let v23:=v3==2;let v28:=zbM (Prod.fst v21) v3 v1 != v13;let v29:=!v28;let v30:=decide ((↑v12:Int)>=9000);let v31:=zac v23 (decide (v11>=v13)) false;let v32:=Entry.mk v13 v13 (2:Int) (zb2 (Prod.fst v21) v3 v1) (ByteArray.mk #[]);let v33:=decide ((Prod.fst (Prod.snd v21))>n.commit);let v34:=Step.n (layS (Step.mk n v20) v32);let v35:=zac v28 true (zac v22 (v1==n.id) false);let v36:=zac v31 (decide ((Peer.match_ (List.getD n.peers v15 default))<n.commit)) false;True/\(SmallN n/\setE n=v13/\True)/\True/\True/\((v13 != v13)=true->True/\qN0 zeroN v10 (qN24 zeroN v10 (qO25 outZ v14 (v13=v8/\True))))/\((v13 != v13)=false->(v12<=17592186044416/\n.yes.length<=17592186044416/\v9<=17592186044416/\n.reads.length<=17592186044416/\v12<=17592186044416/\zbQ v2/\True)/\(zaw (Prod.fst v21)/\True)/\(v12<=17592186044416/\n.yes.length<=17592186044416/\v9<=17592186044416/\n.reads.length<=17592186044416/\True)/\True/\True/\(v33=true->True/\qN0 zeroN v10 (qN24 zeroN v10 (qO25 outZ v14 ((161:Int)=v8/\True))))/\(v33=false->((v29=true->v29=true)/\(v29=true->v29=true)/\(v29=true->v29=true)/\((v29&&v22)=true->(v29&&v22)=true)/\((v29&&v22)=true->(v29&&v22)=true)/\((v29&&v22)=true->(v29&&v22)=true)/\((v29&&v22)=true->(v29&&v22)=true)/\((v29&&v22)=true->(v29&&v22)=true)/\((v29&&v22)=true->(v29&&v22)=true)/\((v29&&v22)=true->(v29&&v22)=true)/\(v29=true->v29=true)/\(v29=true->v22=true->(v29&&v22)=true)/\(v28=false->v29=true)/\True)/\True/\(v35=true->True/\qN0 zeroN v10 (qN24 zeroN v10 (qO25 outZ v14 ((160:Int)=v8/\True))))/\(v35=false->((v23=true->v23=true)/\(v23=true->v23=true)/\(v31=true->v31=true)/\(v31=true->v31=true)/\(v31=true->v31=true)/\(v31=true->v31=true)/\(v31=true->v31=true)/\(v31=true->v31=true)/\(v31=true->v13<=v11)/\(v31=true->v11<(↑v9:Int))/\(v31=true->v31=true)/\(v31=true->v31=true)/\(v31=true->v15<v9)/\(v31=true->v31=true)/\(v31=true->v31=true)/\(v31=true->v31=true)/\(v31=true->v31=true)/\(v31=true->v31=true)/\(v31=true->v31=true)/\(v31=true->v31=true)/\True)/\True/\(v36=true->True/\qN0 zeroN v10 (qN24 zeroN v10 (qO25 outZ v14 ((161:Int)=v8/\True))))/\(v36=false->True/\True/\(v30=true->True/\qN0 zeroN v10 (qN24 zeroN v10 (qO25 outZ v14 ((2:Int)=v8/\True))))/\(v30=false->(SmallN n/\SmallO v20/\zen v32/\True)/\True/\(v34.kept.entries.length<=17592186044416/\v34.yes.length<=17592186044416/\v34.peers.length<=17592186044416/\v34.reads.length<=17592186044416/\SmallN v34/\True)/\V [PE.b,PE.b,PE.b,PE.b,PE.b])))))) (by kernel_rfl) ?_
 obtain ⟨b1,b2,b3,b4,b5⟩:=(hf.sn (by decide)).ls
 have hsn:=hf.sn (by decide)
 have hp:=zdb n.peers ch.node
 have k1:=hf.chg1 (ch:=ch)
 obtain ⟨d1,d2,d3,d4,d5⟩:=(k1.sn (by decide)).ls
 have k2:=hf.chg2 (ch:=ch)
 intros
 refine ⟨trivial,⟨hsn,he,trivial⟩,trivial,trivial,fun h=>absurd h (by decide),fun _=>⟨⟨b1,b2,b3,b4,b1,hsn.k,trivial⟩,⟨zdo hsn,trivial⟩,⟨b1,b2,b3,b4,trivial⟩,trivial,trivial,fun h1=>⟨trivial,?_⟩,fun h1=>⟨?_,trivial,fun h2=>⟨trivial,?_⟩,fun h2=>⟨?_,trivial,fun h3=>⟨trivial,?_⟩,fun h3=>⟨trivial,trivial,fun h4=>⟨trivial,?_⟩,fun h4=>⟨⟨hsn,hf.so (by decide),(zfE _ _ _).c,trivial⟩,trivial,⟨d1,d2,d3,d4,k1.sn (by decide),trivial⟩,?_⟩⟩⟩⟩⟩⟩
 ·have h1:n.commit<zol n:=of_decide_eq_true h1
  have e:M=(⟨zeroN,outZ⟩,161):=by rw [<- hM,chgC,if_neg (Classical.not_not.2 he),chgE,if_pos h1,if_pos (by decide)]
  subst e
  repeat' apply And.intro
  all_goals first | trivial | rfl
 ·refine ⟨fun h=>h,fun h=>h,fun h=>h,fun h=>h,fun h=>h,fun h=>h,fun h=>h,fun h=>h,fun h=>h,fun h=>h,fun h=>h,fun h g=>zxP h g,fun h=>zxc h,trivial⟩
 ·have h1:¬ n.commit<zol n:=of_decide_eq_false h1
  have h2:zbM (za6 n) ch.kind ch.node≠0\/(ch.kind=3/\ch.node=n.id):=zwk h2
  have e:M=(⟨zeroN,outZ⟩,160):=by rw [<- hM,chgC,if_neg (Classical.not_not.2 he),chgE,if_neg h1,if_pos h2,if_pos (by decide)]
  subst e
  repeat' apply And.intro
  all_goals first | trivial | rfl
 ·refine ⟨fun h=>h,fun h=>h,fun h=>h,fun h=>h,fun h=>h,fun h=>h,fun h=>h,fun h=>h,fun h=>(zpo h).2,fun h=>hp,fun h=>h,fun h=>h,fun h=>?_,fun h=>h,fun h=>h,fun h=>h,fun h=>h,fun h=>h,fun h=>h,fun h=>h,trivial⟩
  have h0:0<=zaT n.peers ch.node:=(zpo h).2
  show (zaT n.peers ch.node).toNat<n.peers.length
  omega
 ·have h1:¬ n.commit<zol n:=of_decide_eq_false h1
  have h2:¬ (zbM (za6 n) ch.kind ch.node≠0\/(ch.kind=3/\ch.node=n.id)):=zjb h2
  have h3:ch.kind=2/\0<=chgP n ch/\(n.peers.getD (chgP n ch).toNat default).match_<n.commit:=zwj h3
  have e:M=(⟨zeroN,outZ⟩,161):=by rw [<- hM,chgC,if_neg (Classical.not_not.2 he),chgE,if_neg h1,if_neg h2,if_pos h3,if_pos (by decide)]
  subst e
  repeat' apply And.intro
  all_goals first | trivial | rfl
 ·have h1:¬ n.commit<zol n:=of_decide_eq_false h1
  have h2:¬ (zbM (za6 n) ch.kind ch.node≠0\/(ch.kind=3/\ch.node=n.id)):=zjb h2
  have h3:¬ (ch.kind=2/\0<=chgP n ch/\(n.peers.getD (chgP n ch).toNat default).match_<n.commit):=zmX h3
  have h4:9000<=(n.kept.entries.length:Int):=of_decide_eq_true h4
  have e:M=(⟨zeroN,outZ⟩,2):=by rw [<- hM,chgC,if_neg (Classical.not_not.2 he),chgE,if_neg h1,if_neg h2,if_neg h3,if_pos h4,if_pos (by decide)]
  subst e
  repeat' apply And.intro
  all_goals first | trivial | rfl
 ·have h1:¬ n.commit<zol n:=of_decide_eq_false h1
  have h2:¬ (zbM (za6 n) ch.kind ch.node≠0\/(ch.kind=3/\ch.node=n.id)):=zjb h2
  have h3:¬ (ch.kind=2/\0<=chgP n ch/\(n.peers.getD (chgP n ch).toNat default).match_<n.commit):=zmX h3
  have h4:¬ 9000<=(n.kept.entries.length:Int):=of_decide_eq_false h4
  have e:M=(chgS n ch,0):=by rw [<- hM,chgC,if_neg (Classical.not_not.2 he),chgE,if_neg h1,if_neg h2,if_neg h3,if_neg h4,if_neg (by decide)]
  obtain ⟨L,hL⟩:∃ L,zay (chg1 n ch).n=L:=⟨_,rfl⟩
  have hol:L.length<=16:=by rw [<- hL];exact zjD _
  refine LoopG.head (zak zjs fun _=>none) 0 (A:=Nat) (fun j=>j<=L.length) (fun j=>[(138,.int .i64 j),(137,.int .i64 (L.length:Int)),(136,.sl [900] (.rInts L)),(14,.own 901)]) (fun j=>[(901,.row 102 [] (.rPeer ((L.take j).map (zaE (chg1 n ch))))),(900,.dead)]) (fun j=>L.length-j) 0 (Nat.zero_le _) (p0:=let v0:=(0:Int);let v1:=ByteArray.mk #[];let v2:=layS (Step.mk n (Out.mk [] [] [] [])) (Entry.mk v0 v0 (2:Int) (zb2 (Prod.fst (zav n.kept (Prod.fst (zam n.kept)))) (Change.kind ch) (Change.node ch)) v1);v0=(↑(0:Nat):Int)/\(↑(List.length (zay v2.n)):Int)=(↑(List.length L):Int)/\(zay v2.n)=L/\v0=v0/\List.map (zaE (chg1 n ch)) (List.take (0:Nat) L)=[]/\qN0 v2.n v2.n (qN3 v2.n v2.n (qO25 v2.o v2.o (v0=v0/\v0=v0/\v0=v0/\v0=v0/\v0=v0/\v0=v0/\v1=v1/\v0=v0/\v0=v0/\v0=v0/\v0=v0/\True)))) (by kernel_rfl) ?_ 300 (p:=fun (x:Nat) (V:List PE->Prop)=>let v0:=(↑x:Int);let v1:=Step.n (Prod.fst M);let v3:=(0:Int);let v5:=(↑(List.length L):Int);let v8:=List.getD L x v3;let v9:=List.map (zaE (chg1 n ch)) (List.take x L);let v11:=decide (v0<v5);let v12:=layS (Step.mk n (Out.mk [] [] [] [])) (Entry.mk v3 v3 (2:Int) (zb2 (Prod.fst (zav n.kept (Prod.fst (zam n.kept)))) (Change.kind ch) (Change.node ch)) (ByteArray.mk #[]));let v13:=v12.o;let v14:=v12.n;let v16:=v14.kept;let v19:=v14.peers.length;let v20:=zaT v14.peers v8;let v21:=Int.toNat v20;let v22:=decide (v20>=v3);let v23:=Node.mk v14.id v14.role v16 v14.commit v14.lead v14.elapsed v14.yes v9 v14.round v14.reads;let v24:=zaB (Step.mk v23 v13);let v25:=allS v24;True/\True/\(v11=true->(v3<=v0/\v0<v5/\True)/\(v16.entries.length<=17592186044416/\v14.yes.length<=17592186044416/\v19<=17592186044416/\v14.reads.length<=17592186044416/\v13.records.length<=17592186044416/\v13.messages.length<=17592186044416/\v13.ready.length<=17592186044416/\v13.lost.length<=17592186044416/\True)/\True/\True/\(v22=true->(v3<=v20/\v20<(↑v19:Int)/\v21<v19/\(v9.length+List.length [List.getD v14.peers v21 default])*(1024:Nat)<=140737488355328/\True)/\True/\V [PE.a,PE.a])/\(v22=false->(v16.entries.length<=17592186044416/\v14.yes.length<=17592186044416/\v19<=17592186044416/\v14.reads.length<=17592186044416/\v13.records.length<=17592186044416/\v13.messages.length<=17592186044416/\v13.ready.length<=17592186044416/\v13.lost.length<=17592186044416/\(v9.length+List.length [Peer.mk v8 (Prod.fst (zam v16)) v3 v3])*(1024:Nat)<=140737488355328/\True)/\True/\V [PE.a,PE.b]))/\(v11=false->True/\(SmallN v23/\SmallO v13/\List.length (Config.voters (za6 v23))<=4000/\True)/\(SmallN v24.n/\v24.o.messages.length+v24.n.peers.length<=1000000/\True)/\(SmallN v25.n/\SmallO v25.o/\True)/\qN0 v25.n v1 (qN24 v25.n v1 (qO25 v25.o (Step.o (Prod.fst M)) (v3=Prod.snd M/\True))))) (by intro x;kernel_rfl) ?_
  ·have eL:(↑(zay (chg1 n ch).n).length:Int)=(↑L.length:Int):=by rw [hL]
   intros
   repeat' apply And.intro
   all_goals first | trivial | rfl | exact eL | exact hL
  rintro j hj
  have hk1:=zdb (chg1 n ch).n.peers
  have c0:=(k1.so (by decide)).ls
  have hml:((L.take j).map (zaE (chg1 n ch))).length<=16:=by simp only [List.length_map,List.length_take];omega
  have hml2:∀ x:Peer,(((L.take j).map (zaE (chg1 n ch))).length+[x].length)*1024<=140737488355328:=fun x=>by simp only [List.length_cons,List.length_nil];omega
  have hb:∀ {b:Bool},decide ((j:Int)<(L.length:Int))=b->decide ((j:Int)<(L.length:Int))=b:=fun h=>h
  intros
  refine ⟨trivial,trivial,fun h6=>?_,fun h6=>?_⟩
  ·have h6:j<L.length:=by have h7:=of_decide_eq_true (hb h6);omega
   have eJ:IntKind.i64.wrap ((j:Int)+1)=((j+1:Nat):Int):=zbN (by omega)
   have eS:(L.take (j+1)).map (zaE (chg1 n ch))=(L.take j).map (zaE (chg1 n ch))++[zaE (chg1 n ch) (L.getD j 0)]:=by
    rw [zaL (d:=(0:Int)) h6,List.map_append];rfl
   refine ⟨⟨Int.natCast_nonneg _,Int.ofNat_lt.2 h6,trivial⟩,⟨d1,d2,d3,d4,c0.1,c0.2.1,c0.2.2.1,c0.2.2.2,trivial⟩,trivial,trivial,fun h7=>⟨⟨?_,hk1 _,?_,hml2 _,trivial⟩,trivial,?_⟩,fun h7=>⟨⟨d1,d2,d3,d4,c0.1,c0.2.1,c0.2.2.1,c0.2.2.2,hml2 _,trivial⟩,trivial,?_⟩⟩
   ·exact of_decide_eq_true h7
   ·have h8:0<=zaT (chg1 n ch).n.peers (L.getD j 0):=of_decide_eq_true h7
    have h9:=hk1 (L.getD j 0)
    show (zaT (chg1 n ch).n.peers (L.getD j 0)).toNat<(chg1 n ch).n.peers.length
    omega
   ·have h8:0<=zaT (chg1 n ch).n.peers (L.getD j 0):=of_decide_eq_true h7
    have eP:zaE (chg1 n ch) (L.getD j 0)=(chg1 n ch).n.peers.getD (zaT (chg1 n ch).n.peers (L.getD j 0)).toNat default:=by rw [zaE,if_pos h8]
    rw [eP] at eS
    refine Back.mk (j+1) (by show j+1<=_;omega) (by show _-(j+1)<_-j;omega) (p0:=let v0:=(0:Int);let v1:=ByteArray.mk #[];let v2:=(↑(List.length L):Int);let v3:=layS (Step.mk n (Out.mk [] [] [] [])) (Entry.mk v0 v0 (2:Int) (zb2 (Prod.fst (zav n.kept (Prod.fst (zam n.kept)))) (Change.kind ch) (Change.node ch)) v1);IntKind.wrap IntKind.i64 ((↑j:Int)+(1:Int))=(↑(j+(1:Nat)):Int)/\v2=v2/\L=L/\v0=v0/\List.map (zaE (chg1 n ch)) (List.take j L)++[List.getD v3.n.peers (Int.toNat (zaT v3.n.peers (List.getD L j v0))) default]=List.map (zaE (chg1 n ch)) (List.take (j+(1:Nat)) L)/\qN0 v3.n v3.n (qN3 v3.n v3.n (qO25 v3.o v3.o (v0=v0/\v0=v0/\v0=v0/\v0=v0/\v0=v0/\v0=v0/\v1=v1/\v0=v0/\v0=v0/\v0=v0/\v0=v0/\True)))) (by kernel_rfl) ?_
    intros
    repeat' apply And.intro
    all_goals first | trivial | rfl | exact eJ | exact eS | exact eS.symm
   ·have h8:¬ 0<=zaT (chg1 n ch).n.peers (L.getD j 0):=of_decide_eq_false h7
    have eP:zaE (chg1 n ch) (L.getD j 0)=⟨L.getD j 0,(zam (chg1 n ch).n.kept).1,0,0⟩:=by rw [zaE,if_neg h8]
    rw [eP] at eS
    refine Back.mk (j+1) (by show j+1<=_;omega) (by show _-(j+1)<_-j;omega) (p0:=let v0:=(0:Int);let v1:=ByteArray.mk #[];let v2:=(↑(List.length L):Int);let v3:=layS (Step.mk n (Out.mk [] [] [] [])) (Entry.mk v0 v0 (2:Int) (zb2 (Prod.fst (zav n.kept (Prod.fst (zam n.kept)))) (Change.kind ch) (Change.node ch)) v1);IntKind.wrap IntKind.i64 ((↑j:Int)+(1:Int))=(↑(j+(1:Nat)):Int)/\v2=v2/\L=L/\v0=v0/\List.map (zaE (chg1 n ch)) (List.take j L)++[Peer.mk (List.getD L j v0) (Prod.fst (zam v3.n.kept)) v0 v0]=List.map (zaE (chg1 n ch)) (List.take (j+(1:Nat)) L)/\qN0 v3.n v3.n (qN3 v3.n v3.n (qO25 v3.o v3.o (v0=v0/\v0=v0/\v0=v0/\v0=v0/\v0=v0/\v0=v0/\v1=v1/\v0=v0/\v0=v0/\v0=v0/\v0=v0/\True)))) (by kernel_rfl) ?_
    intros
    repeat' apply And.intro
    all_goals first | trivial | rfl | exact eJ | exact eS | exact eS.symm
  ·have h6:j=L.length:=by have h7:=of_decide_eq_false (hb h6);omega
   subst h6
   have eT:(L.take L.length).map (zaE (chg1 n ch))=(zay (chg1 n ch).n).map (zaE (chg1 n ch)):=by rw [List.take_length,hL]
   have k3:=k2.count
   have k4:=k3.all
   have hcl:(chg2 n ch)=withP (chg1 n ch) ((L.take L.length).map (zaE (chg1 n ch))):=by rw [chg2,eT]
   have e2:M=(allS (zaB (withP (chg1 n ch) ((L.take L.length).map (zaE (chg1 n ch))))),0):=by rw [e,chgS,hcl]
   rw [hcl] at k2 k3 k4
   subst e2
   refine ⟨trivial,⟨k2.sn (by decide),k2.so (by decide),k2.cf.1,trivial⟩,⟨k3.sn (by decide),Nat.le_trans (Nat.add_le_add k3.messages k3.peers) (by decide),trivial⟩,⟨k4.sn (by decide),k4.so (by decide),trivial⟩,?_⟩
   repeat' apply And.intro
   all_goals first | trivial | rfl
theorem zrr (n:Node) (ch:Change) (hf:Few 50000 (zag n)):FnC Tryz.prog 14 [dNode.can n,dChange.can ch] (refO (chgC n ch).1.n (chgC n ch).1.o (chgC n ch).2) D3d:=by
 by_cases he:setE n=0
 ·exact zom n ch hf he
 ·rw [chgC,if_pos he]
  exact zon n ch (hf.sn (by decide)) he
theorem zxN {a b:Int} (h:(a != b)=false):a=b:=by
 by_cases e:a=b
 ·exact e
 ·rw [bne_iff_ne.2 e] at h;cases h
theorem zko {p:Int->Bool}:∀ (l:List Int),0<=zaK p l->p (l.getD (zaK p l).toNat 0)=true
 | [],h=>absurd h (by simp [zaK])
 | x::l,h=>by
  unfold zaK at h ⊢
  by_cases hx:p x=true
  ·rw [if_pos hx];exact hx
  ·rw [if_neg hx] at h ⊢
   by_cases hm:zaK p l = -1
   ·rw [if_pos hm] at h;exact absurd h (by decide)
   ·rw [if_neg hm] at h ⊢
    have h0:0<=zaK p l:=by have:=(zgE (p:=p) l).1;omega
    have e:(zaK p l+1).toNat=(zaK p l).toNat+1:=by omega
    rw [e,List.getD_cons_succ]
    exact zko l h0
def n_at (s:Step) (o:Int):Peer:=s.n.peers.getD (zaT s.n.peers o).toNat default
theorem zjK (s:Step) (o:Int):(zaE s o).node=o:=by
 unfold zaE
 split
 ·rename_i h
  have g:=zko (p:=isV o) _ h
  rw [zcS] at g
  have g2:((n_at s o).node==o)=true:=g
  exact beq_iff_eq.1 g2
 ·rfl
theorem zix (s:Step) (L:List Int):(L.map (zaE s)).map (·.node)=L:=by
 rw [List.map_map,show ((fun p:Peer=>p.node)∘zaE s)=id from funext fun o=>zjK s o,List.map_id]
def atJ (s:Step) (m:Message) (j:Nat):Int:=if 0<=zaT s.n.peers m.from_/\zaT s.n.peers m.from_<j then zaT s.n.peers m.from_ else -1
def pAf (b ok rd:Bool) (idx rnd:Int) (q:Peer):Peer:=
 let v73:=zat rd q.node q.node
 let v74:=zat rd q.next q.next
 let v75:=zat rd q.match_ q.match_
 let v77:=zat rd (if rnd>q.round then rnd else q.round) q.round
 let v79:=if idx>v75 then idx else v75
 let v80:=IntKind.i64.wrap (v79+1)
 let v82:=zat b v79 v75
 let v83:=if v80>v74 then v80 else v74
 let v84:=zat b v83 v74
 let v87:=zac (!ok) (decide (idx<IntKind.i64.wrap (v84-1))) false
 ⟨zat v87 (zat b v73 v73) (zat b v73 v73),zat v87 (IntKind.i64.wrap ((if idx>v82 then idx else v82)+1)) v84,zat v87 v82 v82,zat v87 (zat b v77 v77) (zat b v77 v77)⟩
def agA (b ok rd:Bool) (last idx:Int) (q:Peer):Bool:=
 let v74:=zat rd q.next q.next
 let v75:=zat rd q.match_ q.match_
 let v79:=if idx>v75 then idx else v75
 let v80:=IntKind.i64.wrap (v79+1)
 zac b (decide ((if v80>v74 then v80 else v74)<=last)) (!ok)
def mixS (b:Bool) (x y:Step):Step:=
 ⟨⟨zat b x.n.id y.n.id,zat b x.n.role y.n.role,⟨zat b x.n.kept.term y.n.kept.term,zat b x.n.kept.vote y.n.kept.vote,⟨zat b x.n.kept.snap.index y.n.kept.snap.index,zat b x.n.kept.snap.term y.n.kept.snap.term,⟨if b=true then x.n.kept.snap.config.voters else y.n.kept.snap.config.voters,if b=true then x.n.kept.snap.config.learners else y.n.kept.snap.config.learners⟩,if b=true then x.n.kept.snap.data else y.n.kept.snap.data⟩,if b=true then x.n.kept.entries else y.n.kept.entries⟩,zat b x.n.commit y.n.commit,zat b x.n.lead y.n.lead,zat b x.n.elapsed y.n.elapsed,if b=true then x.n.yes else y.n.yes,if b=true then x.n.peers else y.n.peers,zat b x.n.round y.n.round,if b=true then x.n.reads else y.n.reads⟩,⟨if b=true then x.o.records else y.o.records,if b=true then x.o.messages else y.o.messages,if b=true then x.o.ready else y.o.ready,if b=true then x.o.lost else y.o.lost⟩⟩
theorem zul (x y:Step):mixS true x y=x:=rfl
theorem zpz (x y:Step):mixS false x y=y:=rfl
def bM (s:Step) (m:Message):Bool:=zac m.ok (decide (m.index<=(zam s.n.kept).1)) false
def iM (s:Step) (m:Message):Nat:=(atJ s m s.n.peers.length).toNat
def qM (s:Step) (m:Message):Peer:=s.n.peers.getD (iM s m) default
def pM (s:Step) (m:Message):Peer:=pAf (bM s m) m.ok (decide (m.round<=s.n.round)) m.index m.round (qM s m)
def wM (s:Step) (m:Message):Step:=⟨{s.n with peers:=s.n.peers.set (iM s m) (pM s m)},s.o⟩
def xM (s:Step) (m:Message):Step:=mixS (bM s m) (zaB (wM s m)) (wM s m)
def aM (s:Step) (m:Message):Bool:=agA (bM s m) m.ok (decide (m.round<=s.n.round)) (zam s.n.kept).1 m.index (qM s m)
theorem zfL {α:Type}:∀ (l:List α) (i:Nat) (a b:α),(l.set i a).set i b=l.set i b
 | [],_,_,_=>rfl
 | _::_,0,_,_=>rfl
 | x::l,i+1,a,b=>by simp only [List.set_cons_succ,zfL l i a b]
theorem zj0 {α:Type} {l:List α} {i:Nat} {d:α} (h:i<l.length):l.set i (l.getD i d)=l:=by
 rw [zcd h,List.set_getElem_self]
theorem zdI {α:Type} {l:List α} {i:Nat} {a d:α} (h:i<l.length):(l.set i a).getD i d=a:=by
 rw [zcd (by rw [List.length_set];exact h),List.getElem_set_self]
def rdP (rd:Bool) (rnd:Int) (p:Peer):Peer:=⟨p.node,p.next,p.match_,if rd=true then (if rnd>p.round then rnd else p.round) else p.round⟩
theorem zpg {s:Step} {m:Message} (h:atM s m<s.n.peers.length):zaJ s m=s.n.peers.set (atM s m) (rdP (decide (m.round<=s.n.round)) m.round (s.n.peers.getD (atM s m) default)):=by
 unfold zaJ
 by_cases g:decide (m.round<=s.n.round)=true
 ·rw [if_pos g,g];rfl
 ·have g2:decide (m.round<=s.n.round)=false:=by simpa using g
  rw [if_neg g,g2]
  exact (zj0 h).symm
theorem zwW (rd:Bool) (idx rnd:Int) (q:Peer):pAf true true rd idx rnd q=(fun r:Peer=>(⟨r.node,if IntKind.i64.wrap (r.match_+1)>r.next then IntKind.i64.wrap (r.match_+1) else r.next,r.match_,r.round⟩:Peer)) ((fun r:Peer=>(⟨r.node,r.next,if idx>r.match_ then idx else r.match_,r.round⟩:Peer)) (rdP rd rnd q)):=by cases rd<;>rfl
theorem zwX (rd:Bool) (idx rnd:Int) (q:Peer):pAf false true rd idx rnd q=rdP rd rnd q:=by cases rd<;>rfl
theorem zwY {rd:Bool} {idx rnd last:Int} {q:Peer} (hi:I64 idx) (h0:0<=q.match_) (h1:q.match_<q.next) (h2:q.next<=1000000000) :
  pAf false false rd idx rnd q=(fun r:Peer=>(⟨r.node,if IntKind.i64.wrap ((if idx<IntKind.i64.wrap (r.next-1) then idx else IntKind.i64.wrap (r.next-1))+1)>IntKind.i64.wrap (r.match_+1) then IntKind.i64.wrap ((if idx<IntKind.i64.wrap (r.next-1) then idx else IntKind.i64.wrap (r.next-1))+1) else IntKind.i64.wrap (r.match_+1),r.match_,r.round⟩:Peer)) (rdP rd rnd q):=by
 have e1:IntKind.i64.wrap (q.next-1)=q.next-1:=zaD ⟨by omega,by omega⟩
 have e2:IntKind.i64.wrap (q.match_+1)=q.match_+1:=zaD ⟨by omega,by omega⟩
 have l1:=hi.1
 have l2:=hi.2
 have key:zat (decide (idx<q.next-1)) (IntKind.i64.wrap ((if idx>q.match_ then idx else q.match_)+1)) q.next=if IntKind.i64.wrap ((if idx<q.next-1 then idx else q.next-1)+1)>q.match_+1 then IntKind.i64.wrap ((if idx<q.next-1 then idx else q.next-1)+1) else q.match_+1:=by
  by_cases g:idx<q.next-1
  ·have e3:IntKind.i64.wrap (idx+1)=idx+1:=zaD ⟨by omega,by omega⟩
   rw [decide_eq_true g,if_pos g,e3]
   show IntKind.i64.wrap _=_
   by_cases g2:idx>q.match_
   ·rw [if_pos g2,e3,if_pos (by omega)]
   ·rw [if_neg g2,e2,if_neg (by omega)]
  ·have e3:IntKind.i64.wrap (q.next-1+1)=q.next:=by rw [zaD ⟨by omega,by omega⟩];omega
   rw [decide_eq_false g,if_neg g,e3]
   show q.next=_
   by_cases g2:q.next>q.match_+1
   ·rw [if_pos g2]
   ·rw [if_neg g2];omega
 have eP:pAf false false rd idx rnd q=⟨q.node,zat (decide (idx<IntKind.i64.wrap (q.next-1))) (IntKind.i64.wrap ((if idx>q.match_ then idx else q.match_)+1)) q.next,q.match_,(rdP rd rnd q).round⟩:=by
  unfold pAf
  simp only [zbC]
  cases rd<;>rfl
 rw [eP,e1,key]
 simp only [rdP,e1,e2]
theorem zlL {s:Step} {m:Message} (hi:I64 m.index) (hg:LogG s.n.kept) (hp:s.n.role=4->∀ p∈s.n.peers,zdc (zam s.n.kept).1 s.n.round p=true/\I64 p.next) (hs:zfk s m=false):za1 s m=if aM s m=true then zbd (toS (xM s m) (pM s m)) else zbd (xM s m):=by
 have h0:0<=zaT s.n.peers m.from_:=by
  unfold zfk at hs
  simp only [Bool.or_eq_false_iff,decide_eq_false_iff_not] at hs
  omega
 have h4:s.n.role=4:=by
  unfold zfk at hs
  simp only [Bool.or_eq_false_iff] at hs
  exact zxN hs.1.1
 have hlt:=zdb s.n.peers m.from_
 have eI:iM s m=atM s m:=by
  unfold iM atJ atM
  rw [if_pos ⟨h0,hlt⟩]
 have hat:atM s m<s.n.peers.length:=by unfold atM;omega
 have eR:=zpg (s:=s) (m:=m) hat
 have hR:atM s m<(zaJ s m).length:=by rw [zby];exact hat
 have gR:(zaJ s m).getD (atM s m) default=rdP (decide (m.round<=s.n.round)) m.round (qM s m):=by rw [eR,zdI hat,qM,eI]
 have hB:bM s m=(m.ok&&decide (m.index<=(zam s.n.kept).1)):=by rw [bM,zah]
 rw [za1,if_neg (by rw [hs];decide)]
 cases hok:m.ok
 ·have hb:bM s m=false:=by rw [hB,hok];rfl
  have hq:=hp h4 (qM s m) (by rw [qM,eI];exact zb1 hat)
  obtain ⟨hpb,hnx⟩:=hq
  have hlast:(zam s.n.kept).1<=900001000:=by rw [zax hg.1];exact hg.2.1
  unfold zdc at hpb
  simp only [Bool.and_eq_true,decide_eq_true_eq,wi_iff] at hpb
  obtain ⟨⟨⟨⟨a1,a2⟩,a3⟩,a4⟩,a5⟩:=hpb
  have l1:=hnx.1
  have l2:=hnx.2
  have a6:(qM s m).next<=1000000000:=by
   rw [zaD ⟨by omega,by omega⟩] at a4;omega
  have eP:pM s m=(fun r:Peer=>(⟨r.node,if zhd m r>IntKind.i64.wrap (r.match_+1) then zhd m r else IntKind.i64.wrap (r.match_+1),r.match_,r.round⟩:Peer)) (rdP (decide (m.round<=s.n.round)) m.round (qM s m)):=by
   rw [pM,hb,hok]
   exact zwY (last:=0) hi a1 a3 a6
  have eN:zbI s m=s.n.peers.set (iM s m) (pM s m):=by
   rw [zbI,setP,gR,eP,eR,zfL,eI]
  have eA:aM s m=true:=by rw [aM,hb,hok];rfl
  have eX:xM s m=withP s (zbI s m):=by rw [xM,hb,zpz,eN];rfl
  have eG:(zbI s m).getD (atM s m) default=pM s m:=by rw [eN,eI,zdI hat]
  rw [if_neg (by rw [Bool.false_and];decide),if_neg (by decide),if_pos eA,eX,eG]
 ·by_cases hl:m.index<=(zam s.n.kept).1
  ·have hb:bM s m=true:=by rw [hB,hok,decide_eq_true hl];rfl
   have eP:pM s m=(fun r:Peer=>(⟨r.node,if IntKind.i64.wrap (r.match_+1)>r.next then IntKind.i64.wrap (r.match_+1) else r.next,r.match_,r.round⟩:Peer)) ((fun q:Peer=>(⟨q.node,q.next,if m.index>q.match_ then m.index else q.match_,q.round⟩:Peer)) (rdP (decide (m.round<=s.n.round)) m.round (qM s m))):=by
    rw [pM,hb,hok];exact zwW _ _ _ _
   have eM:(zcA s m).getD (atM s m) default=(fun q:Peer=>(⟨q.node,q.next,if m.index>q.match_ then m.index else q.match_,q.round⟩:Peer)) (rdP (decide (m.round<=s.n.round)) m.round (qM s m)):=by
    rw [zcA,setP,zdI hR,gR]
   have eO:zel s m=s.n.peers.set (iM s m) (pM s m):=by
    have e7:zel s m=(zcA s m).set (atM s m) (pM s m):=by rw [eP,<- eM];rfl
    rw [e7,zcA,setP,zfL,eR,zfL,eI]
   have eW:withP s (zel s m)=wM s m:=by rw [eO];rfl
   have eX:xM s m=zbm s m:=by rw [xM,hb,zul,zbm,eW]
   have hcp:(zbm s m).n.peers=(wM s m).n.peers:=by
    rw [zbm,eW];unfold zaB;split<;>rfl
   have hck:(zbm s m).n.kept=s.n.kept:=by
    rw [zbm,eW];unfold zaB;split<;>rfl
   have eG:nowP s m=pM s m:=by
    rw [nowP,hcp]
    show (s.n.peers.set (iM s m) (pM s m)).getD (atM s m) default=_
    rw [eI,zdI hat]
   have eA:aM s m=decide ((pM s m).next<=(zam s.n.kept).1):=by
    rw [aM,hb,hok,eP]
    show zac true _ _=_
    cases decide (m.round<=s.n.round)<;>rfl
   rw [if_pos (by rw [decide_eq_true hl];rfl),eX,eG,hck,eA]
   by_cases g:(pM s m).next<=(zam s.n.kept).1
   ·rw [if_pos g,if_pos (decide_eq_true g)]
   ·rw [if_neg g,if_neg (by rw [decide_eq_false g];decide)]
  ·have hb:bM s m=false:=by rw [hB,hok,decide_eq_false hl];rfl
   have eP:pM s m=rdP (decide (m.round<=s.n.round)) m.round (qM s m):=by rw [pM,hb,hok];exact zwX _ _ _ _
   have eX:xM s m=withP s (zaJ s m):=by
    have e9:zaJ s m=s.n.peers.set (iM s m) (pM s m):=by rw [eP,eR,qM,eI]
    rw [xM,hb,zpz,e9];rfl
   have eA:aM s m=false:=by rw [aM,hb,hok];rfl
   rw [if_neg (by rw [decide_eq_false hl];decide),if_pos rfl,eX,if_neg (by rw [eA];decide)]
end Go.Proofs.YtkhphiahindnnaaGreat
namespace Go.Proofs.YtkhphiahindnnaaGreat
open Go.RowKit Go.ChangeShapes Go.WideShapes Go.Deep
structure PeerN (last round:Int) (p:Peer):Prop where
 m0:0<=p.match_
 m1:p.match_<=last
 n0:p.match_<p.next
 n1:p.next<=last+1
 r0:0<=p.round
 r1:p.round<=round
theorem zeK {last round:Int} {p:Peer} (hl:0<=last/\last<=900001000) (hx:I64 p.next):zdc last round p=true↔PeerN last round p:=by
 have h1:=hx.1
 have h2:=hx.2
 unfold zdc
 simp only [Bool.and_eq_true,decide_eq_true_eq,wi_iff]
 constructor
 ·rintro ⟨⟨⟨⟨a1,a2⟩,a3⟩,a4⟩,a5,a6⟩
  rw [zaD ⟨by omega,by omega⟩] at a4
  exact ⟨a1,a2,a3,by omega,a5,a6⟩
 ·rintro ⟨a1,a2,a3,a4,a5,a6⟩
  rw [zaD ⟨by omega,by omega⟩]
  exact ⟨⟨⟨⟨a1,a2⟩,a3⟩,by omega⟩,a5,a6⟩
theorem rdP_N {last round rnd:Int} {q:Peer} (h:PeerN last round q):PeerN last round (rdP (decide (rnd<=round)) rnd q):=by
 by_cases g:rnd<=round
 ·rw [decide_eq_true g]
  refine ⟨h.m0,h.m1,h.n0,h.n1,?_,?_⟩
  ·show 0<=if rnd>q.round then rnd else q.round
   have:=h.r0;split<;>omega
  ·show (if rnd>q.round then rnd else q.round)<=round
   have:=h.r1;split<;>omega
 ·rw [decide_eq_false g];exact ⟨h.m0,h.m1,h.n0,h.n1,h.r0,h.r1⟩
theorem pAf_N {ok:Bool} {last round idx rnd:Int} {q:Peer} (hl:0<=last/\last<=900001000) (hi:I64 idx) (h:PeerN last round q) :
  PeerN last round (pAf (ok&&decide (idx<=last)) ok (decide (rnd<=round)) idx rnd q)/\(pAf (ok&&decide (idx<=last)) ok (decide (rnd<=round)) idx rnd q).node=q.node:=by
 have hr:=rdP_N (rnd:=rnd) h
 have l1:=hi.1
 have l2:=hi.2
 have a0:=h.m0
 have a1:=h.m1
 have a2:=h.n0
 have a3:=h.n1
 cases ok
 ·rw [Bool.false_and,zwY (last:=last) hi h.m0 h.n0 (by omega)]
  obtain ⟨r,hrr⟩:∃ r,rdP (decide (rnd<=round)) rnd q=r:=⟨_,rfl⟩
  have e1:r.match_=q.match_/\r.next=q.next/\r.node=q.node:=by rw [<- hrr];exact ⟨rfl,rfl,rfl⟩
  rw [hrr] at hr ⊢
  have w1:IntKind.i64.wrap (r.next-1)=r.next-1:=by rw [e1.2.1];exact zaD ⟨by omega,by omega⟩
  have w2:IntKind.i64.wrap (r.match_+1)=r.match_+1:=by rw [e1.1];exact zaD ⟨by omega,by omega⟩
  have w3:IntKind.i64.wrap ((if idx<r.next-1 then idx else r.next-1)+1)=(if idx<r.next-1 then idx else r.next-1)+1:=by
   rw [e1.2.1];split
   ·exact zaD ⟨by omega,by omega⟩
   ·exact zaD ⟨by omega,by omega⟩
  have g0:=hr.m0
  have g1:=hr.m1
  have g2:=hr.n0
  have g3:=hr.n1
  show PeerN last round ⟨r.node,if IntKind.i64.wrap ((if idx<IntKind.i64.wrap (r.next-1) then idx else IntKind.i64.wrap (r.next-1))+1)>IntKind.i64.wrap (r.match_+1) then IntKind.i64.wrap ((if idx<IntKind.i64.wrap (r.next-1) then idx else IntKind.i64.wrap (r.next-1))+1) else IntKind.i64.wrap (r.match_+1),r.match_,r.round⟩/\r.node=q.node
  rw [w1,w2,w3]
  obtain ⟨mn,hmn⟩:∃ mn,(if idx<r.next-1 then idx else r.next-1)=mn:=⟨_,rfl⟩
  have hb:mn<=r.next-1:=by rw [<- hmn];split<;>omega
  rw [hmn]
  obtain ⟨z,hz⟩:∃ z,(if mn+1>r.match_+1 then mn+1 else r.match_+1)=z:=⟨_,rfl⟩
  have hz2:r.match_<z/\z<=last+1:=by rw [<- hz];split<;>omega
  rw [hz]
  exact ⟨⟨hr.m0,hr.m1,hz2.1,hz2.2,hr.r0,hr.r1⟩,e1.2.2⟩
 ·by_cases g:idx<=last
  ·rw [decide_eq_true g,Bool.true_and,zwW]
   obtain ⟨r,hrr⟩:∃ r,rdP (decide (rnd<=round)) rnd q=r:=⟨_,rfl⟩
   have e1:r.node=q.node:=by rw [<- hrr];rfl
   rw [hrr] at hr ⊢
   have g0:=hr.m0
   have g1:=hr.m1
   have g2:=hr.n0
   have g3:=hr.n1
   show PeerN last round ⟨r.node,if IntKind.i64.wrap ((if idx>r.match_ then idx else r.match_)+1)>r.next then IntKind.i64.wrap ((if idx>r.match_ then idx else r.match_)+1) else r.next,if idx>r.match_ then idx else r.match_,r.round⟩/\r.node=q.node
   obtain ⟨mm,hmm⟩:∃ mm,(if idx>r.match_ then idx else r.match_)=mm:=⟨_,rfl⟩
   have b1:0<=mm/\mm<=last:=by rw [<- hmm];split<;>omega
   rw [hmm,zaD (n:=mm+1) ⟨by omega,by omega⟩]
   obtain ⟨z,hz⟩:∃ z,(if mm+1>r.next then mm+1 else r.next)=z:=⟨_,rfl⟩
   have hz2:mm<z/\z<=last+1:=by rw [<- hz];split<;>omega
   rw [hz]
   exact ⟨⟨b1.1,b1.2,hz2.1,hz2.2,hr.r0,hr.r1⟩,e1⟩
  ·rw [decide_eq_false g,Bool.and_false,zwX]
   exact ⟨hr,rfl⟩
theorem zbu {n:Node} (h4:n.role=4):zdt n=true↔n.peers.map (·.node)=zay n/\n.reads.length<=100/\∀ p∈n.peers,zdc (zam n.kept).1 n.round p=true:=by
 rw [zdt,if_pos h4,zf6]
 simp only [Bool.and_eq_true,decide_eq_true_eq,List.all_eq_true,and_assoc]
theorem Good2.reads_filter {n:Node} {f:Read->Bool} (h:Good2 n) (h4:n.role=4):Good2 {n with reads:=n.reads.filter f}:=by
 obtain ⟨a1,a2,a3⟩:=(zbu h4).1 h.rest
 have c:=h.core
 refine ⟨⟨c.id,c.len,c.on,c.term,c.vote,c.round,c.lead,c.last,c.elapsed,c.lo,c.hi,c.yes,c.yesn,c.confs⟩,h.role,(zbu (n:={n with reads:=n.reads.filter f}) h4).2 ⟨a1,Nat.le_trans (List.length_filter_le _ _) a2,a3⟩⟩
theorem zdZ (s:Step):(zaB s).n.role=s.n.role:=by
 rcases ziZ s with e | ⟨c,_,_,e⟩<;>rw [e]
theorem zjS {s:Step} {m:Message} (h:Good2 s.n) (hi:I64 m.index) (hx:∀ p∈s.n.peers,I64 p.next):Gone s.n (za1 s m).n:=by
 cases hs:zfk s m
 ·have c:=h.core
  have h0:0<=zaT s.n.peers m.from_:=by
   have hs2:=hs
   unfold zfk at hs2
   simp only [Bool.or_eq_false_iff,decide_eq_false_iff_not] at hs2
   omega
  have h4:s.n.role=4:=by
   have hs2:=hs
   unfold zfk at hs2
   simp only [Bool.or_eq_false_iff] at hs2
   exact zxN hs2.1.1
  obtain ⟨a1,a2,a3⟩:=(zbu h4).1 h.rest
  have hlast:=c.last
  have hlen:=c.len
  have hsi:=(zdA c.on).1
  have hg:LogG s.n.kept:=⟨c.on,by omega,by omega⟩
  have eL:(zam s.n.kept).1=s.n.kept.snap.index+s.n.kept.entries.length:=zax c.on
  have hl:0<=(zam s.n.kept).1/\(zam s.n.kept).1<=900001000:=by rw [eL];omega
  rw [zlL hi hg (fun _ p hp=>⟨a3 p hp,hx p hp⟩) hs]
  have hlt:=zdb s.n.peers m.from_
  have hI:iM s m<s.n.peers.length:=by
   unfold iM atJ
   rw [if_pos ⟨h0,hlt⟩];omega
  have hqm:qM s m∈s.n.peers:=zb1 hI
  have hB:bM s m=(m.ok&&decide (m.index<=(zam s.n.kept).1)):=by rw [bM,zah]
  have hp:=pAf_N (ok:=m.ok) (rnd:=m.round) hl hi ((zeK hl (hx _ hqm)).1 (a3 _ hqm))
  rw [<- hB] at hp
  have hp1:PeerN (zam s.n.kept).1 s.n.round (pM s m):=hp.1
  have hp2:(pM s m).node=(qM s m).node:=hp.2
  have hw:Good2 (wM s m).n:=by
   refine ⟨⟨c.id,c.len,c.on,c.term,c.vote,c.round,c.lead,c.last,c.elapsed,c.lo,c.hi,c.yes,c.yesn,c.confs⟩,h.role,(zbu (n:=(wM s m).n) h4).2 ⟨?_,a2,fun p hm=>?_⟩⟩
   ·show (s.n.peers.set (iM s m) (pM s m)).map (·.node)=zay s.n
    rw [List.map_set,hp2,qM,<- zcS,zj0 (by rw [List.length_map];exact hI)]
    exact a1
   ·have hm:p∈s.n.peers.set (iM s m) (pM s m):=hm
    rcases List.mem_or_eq_of_mem_set hm with a | a
    ·exact a3 p a
    ·rw [a]
     have hn0:=hp1.n0
     have hn1:=hp1.n1
     have hm0:=hp1.m0
     exact (zeK hl ⟨by omega,by omega⟩).2 hp1
  have hxg:Gone s.n (xM s m).n/\(xM s m).n.role=4:=by
   unfold xM
   cases bM s m
   ·rw [zpz];exact ⟨⟨hw,Fwd.of_kept rfl rfl (Int.le_refl _)⟩,h4⟩
   ·rw [zul]
    have k:=zeb hw.core
    refine ⟨⟨⟨k.1,by rw [zdZ];exact hw.role,by rw [zea];exact hw.rest⟩,(Fwd.of_kept rfl rfl (Int.le_refl _):Fwd s.n (wM s m).n).trans k.2⟩,by rw [zdZ];exact h4⟩
  split
  ·exact ⟨hxg.1.good.reads_filter hxg.2,hxg.1.fwd.trans (Fwd.of_kept rfl rfl (Int.le_refl _))⟩
  ·exact ⟨hxg.1.good.reads_filter hxg.2,hxg.1.fwd.trans (Fwd.of_kept rfl rfl (Int.le_refl _))⟩
 ·rw [za1,if_pos hs]
  exact ⟨h,Fwd.refl _⟩
end Go.Proofs.YtkhphiahindnnaaGreat
namespace Go.Proofs.YtkhphiahindnnaaGreat
open Go.RowKit Go.ChangeShapes Go.WideShapes Go.Deep
set_option maxRecDepth 100000
theorem zuP {x:Int} (h:I64 x):wi 4 (IntKind.i64.wrap (x-1))=(decide (1<=x)&&decide (x<=5)):=by
 rw [Bool.eq_iff_iff,zou h,Bool.and_eq_true,decide_eq_true_eq,decide_eq_true_eq]
theorem ztZ {x:Int} (hx:I64 x):wi 899999999 (IntKind.i64.wrap (x-1))=(decide (1<=x)&&decide (x<=900000000)):=by
 have h1:=hx.1
 have h2:=hx.2
 rw [Bool.eq_iff_iff,wi_iff,Bool.and_eq_true,decide_eq_true_eq,decide_eq_true_eq,IntKind.wrap_i64];omega
theorem zp4 {n:Node} {m:Message} (hmo:m.Ok) (h:mayM n m=true):(1<=m.from_/\m.from_<=5)/\(1<=m.term/\m.term<=900000000):=by
 unfold mayM zki at h
 rw [zuP hmo.from_,ztZ hmo.term] at h
 simp only [Bool.and_eq_true,decide_eq_true_eq] at h
 obtain ⟨⟨⟨⟨⟨⟨_,_⟩,h1⟩,_⟩,_⟩,h2⟩,_⟩:=h
 exact ⟨h1,h2⟩
theorem zum {n:Node} {m:Message} (h:mayM n m=true) (h5:m.kind=5):m.entries.length<=8:=by
 unfold mayM zkE at h
 rw [if_neg (by rw [h5];decide),if_pos h5,ziH] at h
 simp only [Bool.and_eq_true,decide_eq_true_eq] at h
 exact h.2.1
end Go.Proofs.YtkhphiahindnnaaGreat
namespace Go.Proofs.YtkhphiahindnnaaGreat
open Go.RowKit Go.ChangeShapes Go.WideShapes Go.Deep
theorem zfI {s:Step} {m:Message} {role term:Int} (h:s.n.role≠role):yesB s m role term=false/\yesR s m role term=s:=by
 have ho:zfZ s m role term=false:=by
  unfold zfZ
  rw [beq_eq_false_iff_ne.2 h];rfl
 exact ⟨by rw [yesB,ho];rfl,by rw [yesR,ho];rfl⟩
theorem zjQ {n:Node} {m:Message} (hmo:m.Ok) (h:mayM n m=true) (h7:m.kind=7):(1<=m.snap.index/\m.snap.index<=900000000)/\mayC m.snap.config=true:=by
 unfold mayM zkE at h
 rw [if_pos h7,ztZ hmo.snap_index] at h
 simp only [Bool.and_eq_true,decide_eq_true_eq] at h
 exact h.2
theorem zjR {n:Node} {m:Message} (h:mayM n m=true) (h5:m.kind=5):∀ e∈m.entries,e.kind=2->mayC e.config=true:=fun e he h2=>by
 unfold mayM zkE at h
 rw [if_neg (by rw [h5];decide),if_pos h5,ziH] at h
 simp only [Bool.and_eq_true,decide_eq_true_eq,List.all_eq_true] at h
 obtain ⟨i,hi,rfl⟩:=List.mem_iff_getElem.1 he
 have g:=h.2.2 i (List.mem_range.2 hi)
 unfold okE at g
 rw [Bool.and_eq_true,zcd hi,beq_iff_eq.2 h2] at g
 simpa using g.2
theorem zhB {s:Step} {m:Message} (h:Good2 s.n) (hr:s.n.role=1\/Room s.n) (nl:s.n.kept.entries.length<=8000) (na:s.n.kept.snap.index+s.n.kept.entries.length<=800000000) (hf:1<=m.from_/\m.from_<=5) (hk:s.n.kept.Ok) (hmo:m.Ok)
  (h8:m.kind=5->m.entries.length<=8/\∀ e∈m.entries,e.kind=2->mayC e.config=true) (h7:m.kind=7->(1<=m.snap.index/\m.snap.index<=900000000)/\mayC m.snap.config=true) (hx:∀ p∈s.n.peers,I64 p.next):Gone s.n (zbK s m).n:=by
 unfold zbK
 split
 ·exact ⟨h,Fwd.refl _⟩
 split
 ·rcases hr with hr | hr
  ·obtain ⟨e1,e2⟩:=zfI (s:=s) (m:=m) (role:=2) (term:=IntKind.i64.wrap (s.n.kept.term+1)) (by rw [hr];decide)
   unfold zaF
   rw [e1,if_neg (by decide),e2]
   exact ⟨h,Fwd.refl _⟩
  ·exact zla h hf hr
 split
 ·exact znr h hf
 split
 ·rcases hr with hr | hr
  ·obtain ⟨e1,e2⟩:=zfI (s:=s) (m:=m) (role:=3) (term:=s.n.kept.term) (by rw [hr];decide)
   unfold zbb
   rw [e1,if_neg (by decide),e2]
   exact ⟨h,Fwd.refl _⟩
  ·exact zns h hf hr
 split
 ·rename_i h5
  exact znD h nl na hf hk hmo (h8 h5).1 (h8 h5).2
 split
 ·exact zjS h hmo.index hx
 split
 ·rename_i g7
  exact zoJ h hf (h7 g7).1 (h7 g7).2
 ·exact ⟨h,Fwd.refl _⟩
theorem zpZ {n:Node} {m:Message} (h:Good2 n) (hn:Near n) (hno:n.Ok) (hmo:m.Ok):Gone n (zbP n m).n:=by
 have hko:n.kept.Ok:=⟨hno.kept_term,hno.kept_vote,hno.kept_snap_index,hno.kept_snap_term,hno.kept_snap_config_voters,hno.kept_snap_config_learners,hno.kept_snap_data,hno.kept_entries⟩
 unfold zbP
 split
 ·rename_i hm
  obtain ⟨hf,ht⟩:=zp4 hmo hm
  have a1:=hn.term
  have a2:=hn.len
  have a3:=hn.last
  have k0:=zeU (m:=m) hko hmo
  unfold zaW at k0 ⊢
  by_cases hb:zcr n m=true
  ·rw [if_pos hb] at k0 ⊢
   have g:=zkq (s:=zag n) (t:=m.term) h.core ⟨by omega,by omega⟩
   have e:(za9 (zag n) m.term).n.kept.entries=n.kept.entries/\(za9 (zag n) m.term).n.kept.snap=n.kept.snap:=by
    show (zce (zag n) m.term).n.kept.entries=_/\(zce (zag n) m.term).n.kept.snap=_
    unfold zce;split<;>exact ⟨rfl,rfl⟩
   exact (zhB (m:=m) g.1.good (.inl g.2) (by rw [e.1];exact a2) (by rw [e.1,e.2];exact a3) hf k0 hmo (fun h5=>⟨zum hm h5,zjR hm h5⟩) (fun h7=>zjQ hmo hm h7) (fun p hp=>by cases hp)).of g.1.fwd
  ·rw [if_neg hb] at k0 ⊢
   exact zhB (s:=zag n) (m:=m) h (.inr ⟨by show n.kept.term<_;omega,by show n.kept.entries.length<_;omega,by show n.kept.snap.index+(n.kept.entries.length:Int)<_;omega⟩) a2 a3 hf k0 hmo (fun h5=>⟨zum hm h5,zjR hm h5⟩) (fun h7=>zjQ hmo hm h7) (fun p hp=>(hno.peers.2 p hp).next)
 ·exact ⟨h,Fwd.refl _⟩
end Go.Proofs.YtkhphiahindnnaaGreat
namespace Go.Proofs.YtkhphiahindnnaaGreat
open Go.RowKit Go.ChangeShapes Go.WideShapes Go.Deep
set_option maxRecDepth 100000
def zmV (k:Kept) (i:Int) (data:ByteArray):Record:=⟨4,0,0,zot,0,⟨i,(zau k i).1,(zav k i).1,data⟩⟩
def zlD (n:Node) (i:Int) (data:ByteArray):Step:=recS (zag n) (zmV n.kept i data)
def zbZ (n:Node) (i:Int) (data:ByteArray):Step×Int:=
 if zan n=false then (⟨zeroN,outZ⟩,1)
 else if i<=n.kept.snap.index\/n.commit<i then (⟨zeroN,outZ⟩,150)
 else if 60000<(data.size:Int) then (⟨zeroN,outZ⟩,2)
 else (zlD n i data,0)
theorem Few.cfi {B:Nat} {s:Step} (h:Few B s) (i:Int):SmallD (zav s.n.kept i).1:=by
 unfold zav
 split
 ·unfold cfgR
  split
  ·rename_i e he
   exact h.ec e (by have:=List.mem_of_find?_eq_some he;simpa using this)
  ·exact h.sc
 ·exact smallD0
theorem Few.comp {B:Nat} {n:Node} (i:Int) (data:ByteArray) (h:Few B (zag n)):Few (B+1) (zlD n i data):=h.recd smallD0 (h.cfi i)
noncomputable def tabCm:List Ent:=[zl4,zb4,zgI,zt1,ztt,zwb]
theorem zsf:∀ e∈tabCm,zaf Tryz.prog e:=zaa zcD (zaa zaX (zaa zcW (zaa ziT (zaa ziL (zaa zmN zad)))))
theorem zlC (n:Node) (i:Int) (data:ByteArray) (hn:SmallN n) (hr:zan n=false):FnC Tryz.prog 15 [dNode.can n,dInt.can i,dStr.can data] (refO zeroN outZ 1) D3d:=by
 refine FnG.of_vc (zak zii fun _=>none) Tryz.func15 rfl (by decide) rfl 300 (p:=fun (V:List PE->Prop)=>let v13:=(1:Int);let v17:=decide (i<=n.kept.snap.index);let v18:=v13 != 0;let v19:=decide ((↑(ByteArray.size data):Int)>60000);let v20:=zac v17 true (decide (i>n.commit));True/\(SmallN n/\zan n=false/\True)/\True/\True/\(v18=true->True/\qN0 zeroN zeroN (qN24 zeroN zeroN (qO25 outZ outZ (v13=v13/\True))))/\(v18=false->(((!v17)=true->(!v17)=true)/\((!v17)=true->(!v17)=true)/\((!v17)=true->(!v17)=true)/\(v17=false->(!v17)=true)/\True)/\True/\(v20=true->True/\qN0 zeroN zeroN (qN24 zeroN zeroN (qO25 outZ outZ ((150:Int)=v13/\True))))/\(v20=false->True/\True/\(v19=true->True/\qN0 zeroN zeroN (qN24 zeroN zeroN (qO25 outZ outZ ((2:Int)=v13/\True))))/\(v19=false->False)))) (by kernel_rfl) ?_
 simp only [qN0,qN24,qO25,imp_self,implies_true,true_and,and_true,zah,zai]
 exact ⟨⟨hn,hr⟩,fun h=>absurd h (by decide)⟩
theorem zlB (n:Node) (i:Int) (data:ByteArray) (hf:Few 50000 (zag n)) (hr:zan n=true):FnC Tryz.prog 15 [dNode.can n,dInt.can i,dStr.can data] (refO (zbZ n i data).1.n (zbZ n i data).1.o (zbZ n i data).2) D3d:=by
 refine FnG.of_vc (zak zsf fun _=>none) Tryz.func15 rfl (by decide) rfl 300 (p:=fun (V:List PE->Prop)=>let v1:=n.kept;let v3:=zau v1 i;let v5:=v1.snap.index;let v7:=(0:Int);let v8:=v1.entries.length;let v9:=Prod.snd (zbZ n i data);let v10:=Prod.fst (zbZ n i data);let v12:=v10.n;let v37:=IntKind.wrap IntKind.i64 (i-v5);let v38:=decide (i<=v5);let v40:=decide ((↑(ByteArray.size data):Int)>60000);let v41:=zac v38 true (decide (i>n.commit));let v42:=Record.mk (4:Int) v7 v7 (Entry.mk v7 v7 v7 (Config.mk [] []) (ByteArray.mk #[])) v7 (Snap.mk i (Prod.fst v3) (Prod.fst (zav v1 i)) data);let v43:=recS (Step.mk n (Out.mk [] [] [] [])) v42;True/\(SmallN n/\zan n=true/\True)/\True/\True/\((v7 != v7)=true->True/\qN0 zeroN v12 (qN24 zeroN v12 (qO25 outZ v10.o (v7=v9/\True))))/\((v7 != v7)=false->(((!v38)=true->(!v38)=true)/\((!v38)=true->(!v38)=true)/\((!v38)=true->(!v38)=true)/\(v38=false->(!v38)=true)/\True)/\True/\(v41=true->True/\qN0 zeroN v12 (qN24 zeroN v12 (qO25 outZ v10.o ((150:Int)=v9/\True))))/\(v41=false->True/\True/\(v40=true->True/\qN0 zeroN v12 (qN24 zeroN v12 (qO25 outZ v10.o ((2:Int)=v9/\True))))/\(v40=false->(v8<=17592186044416/\True)/\(v8<=17592186044416/\zbQ v1/\True)/\((0:Nat)<=1000000/\v8<=1000000/\SmallR v42/\(4:Int)=4/\(Prod.snd v3=v7->v7<=v37/\v37<=(↑v8:Int))/\True)/\(SmallN v43.n/\SmallO v43.o/\True)/\qN0 v43.n v12 (qN24 v43.n v12 (qO25 v43.o v10.o (v7=v9/\True))))))) (by kernel_rfl) ?_
 simp only [qN0,qN24,qO25,imp_self,implies_true,true_and,and_true,zah,zai]
 have k1:=hf.comp i data
 have g:=right_iff.1 hr
 have hla:=g.last
 rw [zax g.on] at hla
 have hhi:=g.hi
 rw [zax g.on] at hhi
 have hsi:=(zdA g.on).1
 obtain ⟨b1,b2,b3,b4,b5⟩:=(hf.sn (by decide)).ls
 refine ⟨⟨hf.sn (by decide),hr⟩,fun h=>absurd h (by decide),fun _=>⟨fun h=>(by rw [h];rfl),fun h=>?_,fun h=>⟨fun h2=>?_,fun h2=>?_⟩⟩⟩
 ·have h:i<=n.kept.snap.index\/n.commit<i:=by
   simp only [Bool.or_eq_true,decide_eq_true_eq] at h
   exact h
  have e:zbZ n i data=(⟨zeroN,outZ⟩,150):=by rw [zbZ,if_neg (by rw [hr];decide),if_pos h]
  rw [e]
  repeat' apply And.intro
  all_goals rfl
 ·have h:¬ (i<=n.kept.snap.index\/n.commit<i):=by
   simp only [Bool.or_eq_false_iff,decide_eq_false_iff_not] at h
   rintro (h2 | h2)
   ·exact h.1 h2
   ·exact h.2 h2
  have h2:60000<(data.size:Int):=of_decide_eq_true h2
  have e:zbZ n i data=(⟨zeroN,outZ⟩,2):=by rw [zbZ,if_neg (by rw [hr];decide),if_neg h,if_pos h2]
  rw [e]
  repeat' apply And.intro
  all_goals rfl
 ·have h:¬ (i<=n.kept.snap.index\/n.commit<i):=by
   simp only [Bool.or_eq_false_iff,decide_eq_false_iff_not] at h
   rintro (h2 | h2)
   ·exact h.1 h2
   ·exact h.2 h2
  have h2:¬ 60000<(data.size:Int):=of_decide_eq_false h2
  have e:zbZ n i data=(zlD n i data,0):=by rw [zbZ,if_neg (by rw [hr];decide),if_neg h,if_neg h2]
  have hw:IntKind.i64.wrap (i-n.kept.snap.index)=i-n.kept.snap.index:=zaD ⟨by omega,by omega⟩
  rw [e]
  refine ⟨b1,⟨b1,(hf.sn (by decide)).k⟩,⟨by decide,b5,⟨smallD0.c,(hf.cfi i).c⟩,fun _=>by rw [hw];exact ⟨by omega,by omega⟩⟩,⟨k1.sn (by decide),k1.so (by decide)⟩,?_⟩
  repeat' apply And.intro
  all_goals rfl
theorem zoi (n:Node) (i:Int) (data:ByteArray) (hf:Few 50000 (zag n)):FnC Tryz.prog 15 [dNode.can n,dInt.can i,dStr.can data] (refO (zbZ n i data).1.n (zbZ n i data).1.o (zbZ n i data).2) D3d:=by
 cases hr:zan n
 ·rw [zbZ,if_pos hr];exact zlC n i data (hf.sn (by decide)) hr
 ·exact zlB n i data hf hr
end Go.Proofs.YtkhphiahindnnaaGreat
namespace Go.Proofs.YtkhphiahindnnaaGreat
open Go.RowKit Go.ChangeShapes Go.WideShapes Go.Deep
theorem PeerN.up {last last' round round':Int} {p:Peer} (h:PeerN last round p) (hl:last<=last') (hr:round<=round'):PeerN last' round' p:=by
 have a1:=h.m1
 have a3:=h.n1
 have a5:=h.r1
 exact ⟨h.m0,by omega,h.n0,by omega,h.r0,by omega⟩
theorem PeerN.i64 {last round:Int} {p:Peer} (h:PeerN last round p) (hl:last<=900001000):I64 p.next:=by
 have a0:=h.m0
 have a2:=h.n0
 have a3:=h.n1
 exact ⟨by omega,by omega⟩
theorem zlc {n:Node} (h:Good2 n) (h4:n.role=4) (hx:∀ p∈n.peers,I64 p.next):∀ p∈n.peers,PeerN (n.kept.snap.index+n.kept.entries.length) n.round p:=fun p hp=>by
 obtain ⟨a1,a2,a3⟩:=(zbu h4).1 h.rest
 have c:=h.core
 have hl:=c.last
 have hs:=(zdA c.on).1
 have g:=a3 p hp
 rw [zax c.on] at g
 exact (zeK ⟨by omega,by omega⟩ (hx p hp)).1 g
theorem zpd {n:Node} {data:ByteArray} (h:Good2 n) (hn:Near n) (h4:n.role=4) (hx:∀ p∈n.peers,I64 p.next):Gone n (zs8 n data).n:=by
 obtain ⟨a1,a2,a3⟩:=(zbu h4).1 h.rest
 have c:=h.core
 have b1:=hn.len
 have b2:=hn.last
 have hs:=(zdA c.on).1
 have hl:(zag n).n.kept.entries.length<9000:=by show n.kept.entries.length<_;omega
 have hi:(zag n).n.kept.snap.index+(zag n).n.kept.entries.length<900000000:=by show n.kept.snap.index+(n.kept.entries.length:Int)<_;omega
 have hk:(opE data).kind≠2:=by show (3:Int)≠2;decide
 have hc:cfOk (opE data):=fun e=>absurd e hk
 have k1:=zfO (s:=zag n) c hl hi hc
 have k2:=zeb k1
 have hp:=zjB (s:=zag n) (e:=opE data) c hl hi hc hk a1 a2 fun p hp=>(zeK ⟨by show 0<=n.kept.snap.index+(n.kept.entries.length:Int)+1;omega,by show n.kept.snap.index+(n.kept.entries.length:Int)+1<=_;omega⟩ (hx p hp)).2 ((zlc h h4 hx p hp).up (by show n.kept.snap.index+(n.kept.entries.length:Int)<=n.kept.snap.index+(n.kept.entries.length:Int)+1;omega) (Int.le_refl _))
 have er:(zaB (layS (zag n) (opE data))).n.role=4:=by rw [zdZ];exact h4
 refine ⟨⟨k2.1,by show 1<=(zaB (layS (zag n) (opE data))).n.role/\(zaB (layS (zag n) (opE data))).n.role<=4;rw [er];decide,?_⟩,(zlm c hl).trans k2.2⟩
 show zdt (zaB (layS (zag n) (opE data))).n=true
 rw [zea,zdt,if_pos (show (layS (zag n) (opE data)).n.role=4 from h4)]
 exact hp
theorem zv7 {k:Kept} (ho:onC k=true) {d:Nat} {e:Entry} (h:e∈k.entries.drop d):k.snap.index+d<e.index:=by
 obtain ⟨j,hj,rfl⟩:=List.mem_iff_getElem.1 h
 rw [List.length_drop] at hj
 have hj2:d+j<k.entries.length:=by omega
 have:=zn9 ho hj2
 rw [zcd hj2] at this
 rw [List.getElem_drop]
 omega
theorem zv6 {k:Kept} (ho:onC k=true) {d:Nat} {e:Entry} (h:e∈k.entries.take d):e.index<=k.snap.index+d:=by
 obtain ⟨j,hj,rfl⟩:=List.mem_iff_getElem.1 h
 rw [List.length_take] at hj
 have hj2:j<k.entries.length:=by omega
 have:=zn9 ho hj2
 rw [zcd hj2] at this
 rw [List.getElem_take]
 omega
theorem zlH {k:Kept} (ho:onC k=true) {i:Int} (h1:k.snap.index<i) (h2:i<=k.snap.index+k.entries.length):(zav k i).1=match (k.entries.take (i-k.snap.index).toNat).reverse.find? (fun e=>e.kind==2) with | some e=>e.config | none=>k.snap.config:=by
 have ht:(zau k i).2=0:=by rw [zcu ho h1 h2]
 rw [zav,if_pos ht,cfgR]
 have es:k.entries.reverse=(k.entries.drop (i-k.snap.index).toNat).reverse++(k.entries.take (i-k.snap.index).toNat).reverse:=by
  rw [<- List.reverse_append,List.take_append_drop]
 have ed:(k.entries.drop (i-k.snap.index).toNat).reverse.find? (cfgB i)=none:=by
  rw [List.find?_eq_none]
  intro e he
  have g:=zv7 ho (List.mem_reverse.1 he)
  rw [cfgB,decide_eq_false (by omega),Bool.false_and];decide
 have et:(k.entries.take (i-k.snap.index).toNat).reverse.find? (cfgB i)=(k.entries.take (i-k.snap.index).toNat).reverse.find? (fun e=>e.kind==2):=zdW fun e he=>by
  have g:=zv6 ho (List.mem_reverse.1 he)
  rw [cfgB,decide_eq_true (by omega),Bool.true_and]
 rw [es,List.find?_append,ed,et,Option.none_or]
 cases (k.entries.take (i-k.snap.index).toNat).reverse.find? (fun e=>e.kind==2)<;>rfl
theorem zrm {k:Kept} (ho:onC k=true) {i:Int} (h1:k.snap.index<i) (h2:i<=k.snap.index+k.entries.length) {s:Snap} (hs:s.config=(zav k i).1):zfG {k with entries:=k.entries.drop (i-k.snap.index).toNat,snap:=s}=zfG k:=by
 have es:k.entries.reverse=(k.entries.drop (i-k.snap.index).toNat).reverse++(k.entries.take (i-k.snap.index).toNat).reverse:=by
  rw [<- List.reverse_append,List.take_append_drop]
 rw [zlH ho h1 h2] at hs
 unfold zfG
 show (match (k.entries.drop (i-k.snap.index).toNat).reverse.find? (fun e=>e.kind==2) with | some e=>e.config | none=>s.config)=_
 rw [es,List.find?_append,hs]
 cases (k.entries.drop (i-k.snap.index).toNat).reverse.find? (fun e=>e.kind==2)<;>rfl
theorem zgX {c:Config} {k n:Int} (h:zbs c k n=true):mayC (zc5 c k n)=true:=by
 unfold zbs at h
 simp only [Bool.and_eq_true,decide_eq_true_eq] at h
 obtain ⟨⟨⟨hm,h1⟩,h5⟩,hk⟩:=h
 obtain ⟨⟨a1,a2⟩,m1,m2,ne,dj⟩:=mayC_iff.1 hm
 have d1:=zc2 (n:=n) a1
 have d2:=zc2 (n:=n) a2
 have b1:∀ x∈za8 c.voters n,1<=x/\x<=5:=fun x hx=>m1 x (dropL_mem.1 hx).1
 have b2:∀ x∈za8 c.learners n,1<=x/\x<=5:=fun x hx=>m2 x (dropL_mem.1 hx).1
 unfold zpP at hk
 by_cases c1:k=1
 ·rw [if_pos c1] at hk
  simp only [Bool.and_eq_true,Bool.not_eq_true'] at hk
  have hv:=hasB_not.1 hk.1
  have e:zc5 c k n=⟨c.voters,putL (za8 c.learners n) n⟩:=by
   unfold zc5
   rw [if_neg (by omega),if_pos c1,zdl hv]
  rw [e]
  refine mayC_iff.2 ⟨⟨a1,zco d2⟩,m1,(zfm d2 b2 h1 h5).1,ne,fun x hx hl=>?_⟩
  rcases putL_mem.1 hl with g | g
  ·exact hv (g▸hx)
  ·exact dj x hx (dropL_mem.1 g).1
 rw [if_neg c1] at hk
 by_cases c2:k=2
 ·rw [if_pos c2] at hk
  have hl:=hasB_iff.1 hk
  have e:zc5 c k n=⟨putL (za8 c.voters n) n,za8 c.learners n⟩:=by
   unfold zc5
   rw [if_pos c2,if_neg c1]
  rw [e]
  refine mayC_iff.2 ⟨⟨zco d1,d2⟩,(zfm d1 b1 h1 h5).1,b2,fun g=>?_,fun x hx hl=>?_⟩
  ·have g:putL (za8 c.voters n) n=[]:=g
   have:=putL_mem (v:=n) (x:=n) (xs:=za8 c.voters n)
   rw [g] at this
   exact absurd (this.2 (.inl rfl)) (by simp)
  ·rcases putL_mem.1 hx with g | g
   ·exact (dropL_mem.1 hl).2 g
   ·exact dj x (dropL_mem.1 g).1 (dropL_mem.1 hl).1
 rw [if_neg c2] at hk
 by_cases c3:k=3
 ·rw [if_pos c3] at hk
  have e:zc5 c k n=⟨za8 c.voters n,za8 c.learners n⟩:=by
   unfold zc5
   rw [if_neg c2,if_neg c1]
  rw [e]
  refine mayC_iff.2 ⟨⟨d1,d2⟩,b1,b2,fun g=>?_,fun x hx hl=>dj x (dropL_mem.1 hx).1 (dropL_mem.1 hl).1⟩
  have g:za8 c.voters n=[]:=g
  simp only [Bool.or_eq_true,Bool.and_eq_true,decide_eq_true_eq] at hk
  rcases hk with hk | hk
  ·have hl:=hasB_iff.1 hk
   have hv:n∉c.voters:=fun hv=>dj n hv hl
   rw [zdl hv] at g
   exact ne g
  ·have:=ziW a1 (hasB_iff.1 hk.1)
   rw [g] at this
   have h2:=hk.2
   simp only [List.length_nil] at this
   omega
 ·rw [if_neg c3] at hk;cases hk
theorem zlG {n:Node} {ch:Change} (h:Good2 n) (hn:Near n) (h4:n.role=4) (ha:zbs (za6 n) ch.kind ch.node=true) (hx:∀ p∈n.peers,I64 p.next):Gone n (chgS n ch).n:=by
 have c:=h.core
 have b1:=hn.len
 have b2:=hn.last
 have hs:=(zdA c.on).1
 have hro:=c.round
 have hl:(zag n).n.kept.entries.length<9000:=by show n.kept.entries.length<_;omega
 have hi:(zag n).n.kept.snap.index+(zag n).n.kept.entries.length<900000000:=by show n.kept.snap.index+(n.kept.entries.length:Int)<_;omega
 have hc:cfOk (zt9 (ze4 n ch)):=fun _=>by
  show mayC (zb2 (za6 n) ch.kind ch.node)=true
  rw [zb2,if_pos ha];exact zgX ha
 have k1:Core (chg1 n ch).n:=zfO (s:=zag n) c hl hi hc
 have f1:Fwd n (chg1 n ch).n:=zlm (s:=zag n) c hl
 have e2:(chg2 n ch).n={(chg1 n ch).n with peers:=(zay (chg1 n ch).n).map (zaE (chg1 n ch))}:=rfl
 have k2:Core (chg2 n ch).n:=by
  rw [e2];exact ⟨k1.id,k1.len,k1.on,k1.term,k1.vote,k1.round,k1.lead,k1.last,k1.elapsed,k1.lo,k1.hi,k1.yes,k1.yesn,k1.confs⟩
 have f2:Fwd n (chg2 n ch).n:=f1.trans (Fwd.of_kept rfl rfl (Int.le_refl _))
 have k3:=zeb k2
 have r1:(chg1 n ch).n.role=4:=h4
 have r2:(chg2 n ch).n.role=4:=h4
 have el:(zam (chg1 n ch).n.kept).1=n.kept.snap.index+n.kept.entries.length+1:=by
  have e:(chg1 n ch).n=_:=zjY (s:=zag n) (e:=zt9 (ze4 n ch)) c
  rw [zax k1.on,e]
  show n.kept.snap.index+((_++_:List Entry).length:Int)=_
  simp only [List.length_append,List.length_cons,List.length_nil]
  show n.kept.snap.index+((n.kept.entries.length+1:Nat):Int)=_
  omega
 have a2:=((zbu h4).1 h.rest).2.1
 have hrest:zdt (chg2 n ch).n=true:=by
  refine (zbu r2).2 ⟨?_,a2,fun p hp=>?_⟩
  ·show ((zay (chg1 n ch).n).map (zaE (chg1 n ch))).map (·.node)=zay (chg1 n ch).n
   exact zix _ _
  ·have hp:p∈(zay (chg1 n ch).n).map (zaE (chg1 n ch)):=hp
   obtain ⟨o,_,rfl⟩:=List.mem_map.1 hp
   show zdc (zam (chg1 n ch).n.kept).1 n.round _=true
   rw [el]
   have hpp:PeerN (n.kept.snap.index+n.kept.entries.length+1) n.round (zaE (chg1 n ch) o):=by
    unfold zaE
    split
    ·rename_i g
     have g:0<=zaT n.peers o:=g
     have hlt:=zdb n.peers o
     have hm:n.peers.getD (zaT n.peers o).toNat default∈n.peers:=zb1 (by omega)
     show PeerN _ _ (n.peers.getD (zaT n.peers o).toNat default)
     exact (zlc h h4 hx _ hm).up (by omega) (Int.le_refl _)
    ·rw [el]
     exact ⟨Int.le_refl _,by show (0:Int)<=_;omega,by show (0:Int)<n.kept.snap.index+(n.kept.entries.length:Int)+1;omega,by show n.kept.snap.index+(n.kept.entries.length:Int)+1<=n.kept.snap.index+(n.kept.entries.length:Int)+1+1;omega,Int.le_refl _,hro.1⟩
   exact (zeK ⟨by omega,by omega⟩ (hpp.i64 (by omega))).2 hpp
 refine ⟨⟨k3.1,?_,?_⟩,f2.trans k3.2⟩
 ·show 1<=(zaB (chg2 n ch)).n.role/\(zaB (chg2 n ch)).n.role<=4
  rw [zdZ,r2];decide
 ·show zdt (zaB (chg2 n ch)).n=true
  rw [zea];exact hrest
theorem zkA {n:Node} {data:ByteArray} (h:Good2 n) (hlt:n.kept.snap.index<n.commit):Gone n (zlD n n.commit data).n:=by
 have c:=h.core
 have hs:=(zdA c.on).1
 have hhi:=c.hi
 have hla:=c.last
 have hlen:=c.len
 obtain ⟨sn,hsn⟩:∃ sn:Snap,sn=⟨n.commit,(zau n.kept n.commit).1,(zav n.kept n.commit).1,data⟩:=⟨_,rfl⟩
 have s1:sn.index=n.commit:=by rw [hsn]
 have s2:sn.config=(zav n.kept n.commit).1:=by rw [hsn]
 have eW:IntKind.i64.wrap (n.commit-n.kept.snap.index)=n.commit-n.kept.snap.index:=zaD ⟨by omega,by omega⟩
 have eK:recK n.kept (zmV n.kept n.commit data)={n.kept with entries:=n.kept.entries.drop (n.commit-n.kept.snap.index).toNat,snap:=sn}:=by
  have kd:(zmV n.kept n.commit data).kind=4:=rfl
  have ht:(zau n.kept n.commit).2=0/\(zau n.kept n.commit).1=(zau n.kept n.commit).1:=⟨by rw [zcu c.on hlt hhi],rfl⟩
  rw [recK,if_neg (by rw [kd];decide),if_neg (by rw [kd];decide),if_neg (by rw [kd];decide),if_pos kd,hsn]
  show ({n.kept with entries:=(if (zau n.kept n.commit).2=0/\(zau n.kept n.commit).1=(zau n.kept n.commit).1 then n.kept.entries.drop (IntKind.i64.wrap (n.commit-n.kept.snap.index)).toNat else []),snap:=_}:Kept)=_
  rw [if_pos ht,eW];rfl
 have hn:(zlD n n.commit data).n={n with kept:={n.kept with entries:=n.kept.entries.drop (n.commit-n.kept.snap.index).toNat,snap:=sn}}:=by
  show ({n with kept:=recK n.kept (zmV n.kept n.commit data)}:Node)=_
  rw [eK]
 have hd:(n.commit-n.kept.snap.index).toNat<=n.kept.entries.length:=by omega
 have ho:onC {n.kept with entries:=n.kept.entries.drop (n.commit-n.kept.snap.index).toNat,snap:=sn}=true:=zm2 c.on hd (by omega)
 have hdl:(n.kept.entries.drop (n.commit-n.kept.snap.index).toNat).length=n.kept.entries.length-(n.commit-n.kept.snap.index).toNat:=List.length_drop
 have cf:=c.confs
 unfold zcX at cf
 rw [Bool.and_eq_true,List.all_eq_true] at cf
 rw [hn]
 have hcfg:mayC sn.config=true:=by
  rw [s2,zlH c.on hlt hhi]
  split
  ·rename_i e he
   have hm:=List.mem_of_find?_eq_some he
   have hk:=List.find?_some he
   have g:=cf.1 e (List.mem_of_mem_take (List.mem_reverse.1 hm))
   have hk:(e.kind==2)=true:=hk
   rw [hk] at g
   simpa using g
  ·exact cf.2
 refine ⟨⟨⟨c.id,by show (n.kept.entries.drop _).length<=_;rw [hdl];omega,ho,c.term,c.vote,c.round,c.lead,by show sn.index+((n.kept.entries.drop _).length:Int)<=_;rw [hdl];omega,c.elapsed,by show sn.index<=n.commit;omega,by show n.commit<=sn.index+_;omega,c.yes,c.yesn,?_⟩,h.role,?_⟩,⟨rfl,Int.le_refl _,Int.le_refl _,by show n.kept.snap.index<=sn.index;omega,fun _ _=>rfl,fun i u h1 h2 h3 h4=>?_⟩⟩
 ·unfold zcX
  rw [Bool.and_eq_true,List.all_eq_true]
  exact ⟨fun e he=>cf.1 e (List.mem_of_mem_drop he),hcfg⟩
 ·by_cases r4:n.role=4
  ·obtain ⟨a1,a2,a3⟩:=(zbu r4).1 h.rest
   have eo:zay {n with kept:={n.kept with entries:=n.kept.entries.drop (n.commit-n.kept.snap.index).toNat,snap:=sn}}=zay n:=by
    unfold zay
    rw [zgT ho,zgT c.on,zrm c.on hlt hhi s2]
   have el:(zam ({n.kept with entries:=n.kept.entries.drop (n.commit-n.kept.snap.index).toNat,snap:=sn}:Kept)).1=(zam n.kept).1:=by
    rw [zax ho,zax c.on]
    show sn.index+((n.kept.entries.drop _).length:Int)=_
    rw [hdl];omega
   refine (zbu (by exact r4)).2 ⟨by rw [eo];exact a1,a2,fun p hp=>?_⟩
   show zdc (zam ({n.kept with entries:=n.kept.entries.drop (n.commit-n.kept.snap.index).toNat,snap:=sn}:Kept)).1 n.round p=true
   rw [el];exact a3 p hp
  ·have:=h.rest
   rw [zbU r4] at this
   rw [zbU (by exact r4)];exact this
 ·have h4:sn.index<i:=h4
  exact absurd h4 (by omega)
end Go.Proofs.YtkhphiahindnnaaGreat
namespace Go.Proofs.YtkhphiahindnnaaGreat
namespace Ag
def SureTo (g:Gh) (t:Int) (l:za0) (i:Int):Prop:=∃ j:Nat,i=j+1/\j<=l.length/\(j=0\/∃ c,g.C c/\c.t<=t/\l.take j <+: c.p)
structure MI (c0:Config) (g:Gh) (m:Message):Prop where
 k3:m.kind=3->∃ e,g.D m.term m.from_ e/\m.index=e.length+1/\m.logTerm=zbw e
 k4:m.kind=4->m.ok=true->∃ q b,g.V m.from_ m.term m.to_ q b
 k5:m.kind=5->∃ (x:El) (k:Nat),g.el m.term=some x/\m.index=k+1/\k+m.entries.length<=x.l.length/\m.logTerm=zbw (x.l.take k)/\m.entries=(x.l.drop k).take m.entries.length/\SureTo g m.term x.l m.commit
 k6:m.kind=6->m.ok=true->∃ q,g.K m.from_ m.term q/\m.index=q.length+1
 k7:m.kind=7->∃ (x:El) (k:Nat),g.el m.term=some x/\m.snap.index=k+1/\m.snap.term=zbw (x.l.take k)/\m.snap.config=cfg0 c0 (x.l.take k)/\SureTo g m.term x.l (k+1)
structure COk (c:Config):Prop where
 v:c.voters.length<=100/\∀ y∈c.voters,I64 y
 l:c.learners.length<=100/\∀ y∈c.learners,I64 y
structure EOk (e:Entry):Prop where
 k:I64 e.kind
 c:COk e.config
 d:e.data.size<=100
structure MOk (m:Message):Prop where
 kind:I64 m.kind
 from_:I64 m.from_
 to_:I64 m.to_
 term:I64 m.term
 index:I64 m.index
 logTerm:I64 m.logTerm
 ents:m.entries.length<=8/\∀ e∈m.entries,EOk e/\I64 e.index/\I64 e.term
 commit:I64 m.commit
 round:I64 m.round
 si:I64 m.snap.index
 st:I64 m.snap.term
 sc:COk m.snap.config
 sd:m.snap.data.size<=100
 ask:I64 m.ask
 seq:I64 m.seq
 data:m.data.size<=100
theorem COk.zero:COk ⟨[],[]⟩:=⟨⟨by decide,fun y hy=>by cases hy⟩,⟨by decide,fun y hy=>by cases hy⟩⟩
theorem MOk.plain {k f t tm i lt r:Int} {ok:Bool} (hk:I64 k) (hf:I64 f) (ht:I64 t) (htm:I64 tm) (hi:I64 i) (hl:I64 lt) (hr:I64 r):MOk ⟨k,f,t,tm,i,lt,[],0,r,ok,zeg,0,0,zs⟩:=
 have z:I64 0:=⟨by decide,by decide⟩
 ⟨hk,hf,ht,htm,hi,hl,⟨Nat.zero_le _,fun y hy=>by cases hy⟩,z,hr,z,z,COk.zero,Nat.zero_le _,z,z,Nat.zero_le _⟩
theorem MOk.ok {m:Message} (h:MOk m):m.Ok:=by
 have hc:∀ {c:Config},COk c->(c.voters.length<=17592186044416/\∀ y∈c.voters,I64 y)/\(c.learners.length<=17592186044416/\∀ y∈c.learners,I64 y):=fun {c} h=>⟨⟨Nat.le_trans h.v.1 (by decide),h.v.2⟩,⟨Nat.le_trans h.l.1 (by decide),h.l.2⟩⟩
 exact ⟨h.kind,h.from_,h.to_,h.term,h.index,h.logTerm,⟨Nat.le_trans h.ents.1 (by decide),fun e he=>⟨(h.ents.2 e he).2.1,(h.ents.2 e he).2.2,(h.ents.2 e he).1.k,(hc (h.ents.2 e he).1.c).1,(hc (h.ents.2 e he).1.c).2,Nat.le_trans (h.ents.2 e he).1.d (by decide)⟩⟩,h.commit,h.round,trivial,h.si,h.st,(hc h.sc).1,(hc h.sc).2,Nat.le_trans h.sd (by decide),h.ask,h.seq,Nat.le_trans h.data (by decide)⟩
theorem MOk.small {m:Message} (h:MOk m):SmallM m/\SmallDM m:=by
 refine ⟨⟨⟨Nat.le_trans h.ents.1 (by decide),fun e he=>?_⟩,⟨Nat.le_trans h.sc.v.1 (by decide),Nat.le_trans h.sc.l.1 (by decide)⟩⟩,⟨Nat.le_trans h.ents.1 (by decide),fun e he=>?_,⟨Nat.le_trans h.sc.v.1 (by decide),Nat.le_trans h.sc.l.1 (by decide)⟩⟩⟩
 ·exact ⟨Nat.le_trans (h.ents.2 e he).1.c.v.1 (by decide),Nat.le_trans (h.ents.2 e he).1.c.l.1 (by decide)⟩
 ·exact ⟨Nat.le_trans (h.ents.2 e he).1.c.v.1 (by decide),Nat.le_trans (h.ents.2 e he).1.c.l.1 (by decide)⟩
theorem COk.may {c:Config} (h:mayC c=true):COk c:=by
 obtain ⟨⟨a1,a2⟩,b1,b2,_⟩:=mayC_iff.1 h
 have g:∀ {l:List Int},Asc l->(∀ x∈l,1<=x/\x<=5)->l.length<=100/\∀ y∈l,I64 y:=fun {l} a b=>by
  have:=zgh a b
  unfold isC at this
  rw [Bool.and_eq_true,decide_eq_true_eq,decide_eq_true_eq] at this
  exact ⟨by omega,fun y hy=>⟨by have:=b y hy;omega,by have:=b y hy;omega⟩⟩
 exact ⟨g a1 b1,g a2 b2⟩
theorem MI.none {c0:Config} {g:Gh} {m:Message} (h:m.kind=1\/m.kind=2):MI c0 g m:=
 ⟨fun e=>by omega,fun e=>by omega,fun e=>by omega,fun e=>by omega,fun e=>by omega⟩
theorem zfK {a c:za0} (h:a <+: c) {k:Nat} (hk:k<=a.length):c.take k=a.take k:=(zgr h hk).symm
theorem zt3 {a c:za0} (h:a <+: c) {k n:Nat} (hk:k+n<=a.length):(c.drop k).take n=(a.drop k).take n:=by
 obtain ⟨t,rfl⟩:=h
 rw [List.drop_append_of_le_length (by omega),List.take_append_of_le_length (by rw [List.length_drop];omega)]
theorem SureTo.ext {v:Int} {g g':Gh} (he:Ext v g g') {t:Int} {l l':za0} (hl:l <+: l') {i:Int} (h:SureTo g t l i):SureTo g' t l' i:=by
 obtain ⟨j,h1,h2,h3⟩:=h
 refine ⟨j,h1,Nat.le_trans h2 (zaH hl),?_⟩
 rcases h3 with h3 | ⟨c,a1,a2,a3⟩
 ·exact .inl h3
 ·exact .inr ⟨c,he.C c a1,a2,by rw [zfK hl h2];exact a3⟩
theorem SureTo.mono {g:Gh} {t t':Int} {l:za0} {i:Int} (h:SureTo g t l i) (ht:t<=t'):SureTo g t' l i:=by
 obtain ⟨j,h1,h2,h3⟩:=h
 refine ⟨j,h1,h2,?_⟩
 rcases h3 with h3 | ⟨c,a1,a2,a3⟩
 ·exact .inl h3
 ·exact .inr ⟨c,a1,by omega,a3⟩
theorem MI.ext {c0:Config} {v:Int} {g g':Gh} (he:Ext v g g') {m:Message} (h:MI c0 g m):MI c0 g' m:=by
 refine ⟨fun hk=>?_,fun hk ho=>?_,fun hk=>?_,fun hk ho=>?_,fun hk=>?_⟩
 ·obtain ⟨e,a,b⟩:=h.k3 hk
  exact ⟨e,he.D _ _ _ a,b⟩
 ·obtain ⟨q,b,a⟩:=h.k4 hk ho
  exact ⟨q,b,he.V _ _ _ _ _ a⟩
 ·obtain ⟨x,k,a1,a2,a3,a4,a5,a6⟩:=h.k5 hk
  obtain ⟨x',b1,_,_,b4,_⟩:=he.el _ _ a1
  refine ⟨x',k,b1,a2,Nat.le_trans a3 (zaH b4),?_,?_,a6.ext he b4⟩
  ·rw [zfK b4 (by omega)];exact a4
  ·rw [zt3 b4 a3];exact a5
 ·obtain ⟨q,a,b⟩:=h.k6 hk ho
  exact ⟨q,he.K _ _ _ a,b⟩
 ·obtain ⟨x,k,a1,a2,a3,a4,a5⟩:=h.k7 hk
  obtain ⟨x',b1,_,_,b4,_⟩:=he.el _ _ a1
  obtain ⟨j,c1,c2,_⟩:=id a5
  refine ⟨x',k,b1,a2,?_,?_,a5.ext he b4⟩
  ·rw [zfK b4 (by omega)];exact a3
  ·rw [zfK b4 (by omega)];exact a4
theorem NI.sureTo {g:Gh} {v:Int} {n:AN} (h:NI g v n):SureTo g n.term n.log (n.com+1):=⟨n.com,rfl,h.com,h.sure⟩
def BdE (B:Nat) (g:Gh):Prop:=∀ t x,g.el t=some x->x.l.length<=B/\(∀ k,k<x.l.length->(x.l.getD k default).index=k+2)/\∀ e∈x.l,EOk e
end Ag
end Go.Proofs.YtkhphiahindnnaaGreat
namespace Go.Proofs.YtkhphiahindnnaaGreat
namespace Ag
def adjC (a b:Config):Prop:=∃ k n,zbs a k n=true/\b=zc5 a k n
def majC (c:Config) (A:List Int):Prop:=zbH c.voters A=true
theorem zjN {xs A B:List Int} (ha:zbH xs A=true) (hb:zbH xs B=true):∃ v,v∈A/\v∈B:=by
 rw [<- zio] at ha hb
 refine Classical.byContradiction fun hno=>meets (n:=xs.length) rfl ha hb fun i _ h=>hno ⟨el xs i,?_,?_⟩
 ·have:=h.1;unfold hasB at this;exact of_decide_eq_true this
 ·have:=h.2;unfold hasB at this;exact of_decide_eq_true this
theorem zjO {xs A B:List Int} {v:Int} (ha:zbH xs A=true) (hb:zbH (putL xs v) B=true):∃ v,v∈A/\v∈B:=by
 rw [<- zio] at ha hb
 refine Classical.byContradiction fun hno=>znG (n:=xs.length) rfl ha hb fun i _ h=>hno ⟨el xs i,?_,?_⟩
 ·have:=h.1;unfold hasB at this;exact of_decide_eq_true this
 ·have:=h.2;unfold hasB at this;exact of_decide_eq_true this
theorem zs6 {xs:List Int} {n:Int} (a:Asc xs) (h:n∈xs):putL (za8 xs n) n=xs:=by
 refine zjg (zco (zc2 a)) a fun x=>?_
 rw [putL_mem,dropL_mem]
 constructor
 ·rintro (rfl | ⟨h1,_⟩)
  ·exact h
  ·exact h1
 ·intro h1
  by_cases e:x=n
  ·exact .inl e
  ·exact .inr ⟨h1,e⟩
theorem zos {a b:Config} (h:adjC a b):b.voters=a.voters\/(∃ v,b.voters=putL a.voters v)\/∃ v,a.voters=putL b.voters v:=by
 obtain ⟨k,n,h1,rfl⟩:=h
 unfold zbs at h1
 simp only [Bool.and_eq_true,decide_eq_true_eq] at h1
 obtain ⟨⟨⟨hm,_⟩,_⟩,hk⟩:=h1
 obtain ⟨⟨m1,m2⟩,_,_,_,m3⟩:=mayC_iff.1 hm
 have hin:∀ {xs:List Int},hasB xs n=true->n∈xs:=fun h=>by unfold hasB at h;exact of_decide_eq_true h
 have hout:∀ {xs:List Int},hasB xs n=false->n∉xs:=fun h=>by unfold hasB at h;exact of_decide_eq_false h
 unfold zpP at hk
 unfold zc5
 by_cases k1:k=1
 ·subst k1
  rw [if_pos rfl] at hk
  simp only [Bool.and_eq_true,Bool.not_eq_true'] at hk
  refine .inl ?_
  show (if (1:Int)=2 then putL (za8 a.voters n) n else za8 a.voters n)=a.voters
  rw [if_neg (by decide),zdl (hout hk.1)]
 ·rw [if_neg k1] at hk
  by_cases k2:k=2
  ·subst k2
   rw [if_pos rfl] at hk
   have hl:=hin hk
   have hv:n∉a.voters:=fun h=>m3 n h hl
   refine .inr (.inl ⟨n,?_⟩)
   show (if (2:Int)=2 then putL (za8 a.voters n) n else za8 a.voters n)=putL a.voters n
   rw [if_pos rfl,zdl hv]
  ·rw [if_neg k2] at hk
   by_cases hv:n∈a.voters
   ·refine .inr (.inr ⟨n,?_⟩)
    show a.voters=putL (if k=2 then putL (za8 a.voters n) n else za8 a.voters n) n
    rw [if_neg k2,zs6 m1 hv]
   ·refine .inl ?_
    show (if k=2 then putL (za8 a.voters n) n else za8 a.voters n)=a.voters
    rw [if_neg k2,zdl hv]
theorem zxj:∀ a b A B,zlN adjC a b->majC a A->majC b B->∃ v,v∈A/\v∈B:=by
 intro a b A B h ha hb
 unfold majC at ha hb
 have key:∀ {a b:Config} {A B:List Int},adjC a b->zbH a.voters A=true->zbH b.voters B=true->∃ v,v∈A/\v∈B:=by
  intro a b A B h ha hb
  rcases zos h with e | ⟨v,e⟩ | ⟨v,e⟩
  ·rw [e] at hb;exact zjN ha hb
  ·rw [e] at hb;exact zjO ha hb
  ·rw [e] at ha
   obtain ⟨w,w1,w2⟩:=zjO hb ha
   exact ⟨w,w2,w1⟩
 rcases h with rfl | h | h
 ·exact zjN ha hb
 ·exact key h ha hb
 ·obtain ⟨w,w1,w2⟩:=key h hb ha
  exact ⟨w,w2,w1⟩
structure KAbs (c0:Config) (k:Kept) (log:za0) (s:Nat):Prop where
 le:s<=log.length
 si:k.snap.index=s+1
 en:k.entries=log.drop s
 st:k.snap.term=zbw (log.take s)
 sc:k.snap.config=cfg0 c0 (log.take s)
structure Abs (c0:Config) (n:Node) (a:AN):Prop where
 term:a.term=n.kept.term
 vote:a.vote=n.kept.vote
 role:a.role=n.role
 yes:a.yes=n.yes
 com:n.commit=a.com+1
 idx:∀ k,k<a.log.length->(a.log.getD k default).index=k+2
 kept:∃ s,s<=a.com/\KAbs c0 n.kept a.log s
 mat:n.role=4->a.mat=n.peers.map fun p=>(p.node,(p.match_-1).toNat)
section
variable {c0 : Config} {k : Kept} {log : za0} {s : Nat}
theorem zdm {l:za0} {s i:Nat}:(l.drop s).getD i default=l.getD (s+i) default:=by
 rw [List.getD_eq_getElem?_getD,List.getElem?_drop,List.getD_eq_getElem?_getD]
theorem zb0 {l:za0} {i:Nat} (h0:0<i) (h:i<=l.length):zbw (l.take i)=(l.getD (i-1) default).term:=by
 have hl:(l.take i).length=i:=by rw [List.length_take];omega
 rw [zbl (by omega),hl,za7 (zar l i) (by omega)]
theorem KAbs.len (h:KAbs c0 k log s):k.entries.length=log.length-s:=by rw [h.en,List.length_drop]
theorem KAbs.end_ (h:KAbs c0 k log s):k.snap.index+k.entries.length=log.length+1:=by
 have:=h.len
 have:=h.le
 have:=h.si
 omega
theorem KAbs.on (h:KAbs c0 k log s) (hi:∀ j,j<log.length->(log.getD j default).index=j+2) (hl:log.length<=9000):onC k=true:=by
 refine onC_iff.2 ⟨by rw [h.si];omega,by rw [h.len];omega,fun i hi'=>?_⟩
 rw [h.len] at hi'
 unfold okAt Kept.en
 rw [h.en,zdm,hi _ (by omega),h.si]
 omega
theorem KAbs.last1 (h:KAbs c0 k log s) (ho:onC k=true):(zam k).1=log.length+1:=by rw [zax ho,h.end_]
theorem KAbs.last2 (h:KAbs c0 k log s) (ho:onC k=true):(zam k).2=zbw log:=by
 have hl:=h.len
 have hle:=h.le
 unfold zam
 rw [if_pos ho]
 unfold znL
 by_cases e:k.entries.length=0
 ·rw [if_pos e]
  show k.snap.term=_
  rw [h.st,List.take_of_length_le (by omega)]
 ·rw [if_neg e]
  show (k.en (k.entries.length-1)).term=_
  unfold Kept.en
  rw [h.en,List.length_drop,zdm,zbl (by omega)]
  congr 2
  omega
theorem KAbs.term (h:KAbs c0 k log s) (ho:onC k=true) {i:Nat} (h1:s<=i) (h2:i<=log.length):zau k ((i:Int)+1)=(zbw (log.take i),0):=by
 have he:=h.end_
 rcases Nat.eq_or_lt_of_le h1 with e | g
 ·subst e
  unfold zau
  rw [if_pos ho,if_pos (by rw [h.si]),h.st]
 ·rw [zcu ho (by rw [h.si];omega) (by omega),h.en,zdm,h.si,zb0 (by omega) h2]
  congr 3
  omega
theorem KAbs.term_in (h:KAbs c0 k log s) {i:Int} (ht:(zau k i).2=0):∃ j:Nat,i=j+1/\s<=j/\j<=log.length:=by
 obtain ⟨_,h1,h2⟩:=zfJ ht
 have:=h.end_
 have:=h.si
 exact ⟨(i-1).toNat,by omega,by omega,by omega⟩
theorem KAbs.conf (h:KAbs c0 k log s):zfG k=cfg0 c0 log:=by
 unfold zfG
 rw [h.en,h.sc]
 conv=>rhs;rw [<- List.take_append_drop s log]
 unfold cfg0
 rw [List.reverse_append,List.find?_append]
 cases List.find? (fun e=>e.kind==2) (log.drop s).reverse<;>rfl
end
end Ag
end Go.Proofs.YtkhphiahindnnaaGreat
namespace Go.Proofs.YtkhphiahindnnaaGreat
namespace Ag
structure Sent (c0:Config) (g:Gh) (v T:Int) (m:Message):Prop where
 mi:MI c0 g m
 fr:m.from_=v
 t1:1<=m.term
 t2:m.term<=T+1
 ok:MOk m
theorem Sent.ext {c0:Config} {g g':Gh} {v T T':Int} {m:Message} (h:Sent c0 g v T m) (he:Ext v g g') (ht:T<=T'):Sent c0 g' v T' m:=⟨h.mi.ext he,h.fr,h.t1,by have:=h.t2;omega,h.ok⟩
abbrev IdOk (n:Node) (v:Int):Prop:=n.id=v/\n.round=0/\n.reads=[]/\n.kept.snap.data.size<=100/\I64 v
structure SI (c0:Config) (L:Nat) (T v:Int) (s:Step) (g:Gh) (a:AN):Prop where
 gi:GI adjC majC c0 g
 ni:NI g v a
 ab:Abs c0 s.n a
 id:IdOk s.n v
 ms:∀ m,m∈s.o.messages->Sent c0 g v T m
 be:BdE L g
 bl:a.log.length<=L
 bt:a.term<=T/\a.term<=2000000
 pe:∀ p,p∈s.n.peers->(0<=p.match_/\p.match_<p.next/\p.next<=a.log.length+2)/\I64 p.node
section
variable {c0 : Config} {L : Nat} {T v : Int} {s : Step} {g : Gh} {a : AN}
theorem Abs.on (h:Abs c0 s.n a) (hl:a.log.length<=9000):onC s.n.kept=true:=by
 obtain ⟨j,_,hk⟩:=h.kept
 exact hk.on h.idx hl
theorem Abs.last (h:Abs c0 s.n a) (hl:a.log.length<=9000):zam s.n.kept=((a.log.length:Int)+1,zbw a.log):=by
 obtain ⟨j,_,hk⟩:=h.kept
 have ho:=h.on hl
 exact Prod.ext (hk.last1 ho) (hk.last2 ho)
theorem Abs.conf (h:Abs c0 s.n a) (hl:a.log.length<=9000):za6 s.n=cfg0 c0 a.log:=by
 obtain ⟨j,_,hk⟩:=h.kept
 rw [zgT (h.on hl),hk.conf]
theorem SI.msgOk (h:SI c0 L T v s g a) {m:Message} (hk:MOk m):MOk (msgS s m):=by
 have ht:=h.ab.term
 have hb:=h.bt
 have ho:=h.ni.one
 refine ⟨hk.kind,by show I64 s.n.id;rw [h.id.1];exact h.id.2.2.2.2,hk.to_,?_,hk.index,hk.logTerm,hk.ents,hk.commit,hk.round,hk.si,hk.st,hk.sc,hk.sd,hk.ask,hk.seq,hk.data⟩
 show I64 (if m.term=0 then s.n.kept.term else m.term)
 split
 ·exact ⟨by omega,by omega⟩
 ·exact hk.term
theorem SI.send (h:SI c0 L T v s g a) {m:Message} (hk:MOk m) (hm:MI c0 g (msgS s m)) (h1:m.term=0\/1<=m.term) (h2:m.term<=T+1):SI c0 L T v (zaR s m) g a:=by
 refine ⟨h.gi,h.ni,h.ab,h.id,fun x hx=>?_,h.be,h.bl,h.bt,h.pe⟩
 have hx:x∈s.o.messages++[msgS s m]:=hx
 rcases List.mem_append.1 hx with hx | hx
 ·exact h.ms x hx
 ·rw [List.mem_singleton] at hx
  subst hx
  have ht:=h.ab.term
  have hb:=h.bt
  have ho:=h.ni.one
  refine ⟨hm,h.id.1,?_,?_,h.msgOk hk⟩
  ·show 1<=if m.term=0 then s.n.kept.term else m.term
   split<;>omega
  ·show (if m.term=0 then s.n.kept.term else m.term)<=_
   split<;>omega
theorem SI.sends (h:SI c0 L T v s g a) {l:List Message} (hl:∀ m,m∈l->Sent c0 g v T m):SI c0 L T v ⟨s.n,{s.o with messages:=s.o.messages++l}⟩ g a:=by
 refine ⟨h.gi,h.ni,h.ab,h.id,fun x hx=>?_,h.be,h.bl,h.bt,h.pe⟩
 have hx:x∈s.o.messages++l:=hx
 rcases List.mem_append.1 hx with hx | hx
 ·exact h.ms x hx
 ·exact hl x hx
theorem SI.same (h:SI c0 L T v s g a) {s':Step} (e1:s'.n.kept=s.n.kept) (e2:s'.n.role=s.n.role) (e3:s'.n.yes=s.n.yes) (e4:s'.n.commit=s.n.commit) (e5:s'.n.peers=s.n.peers) (e6:s'.n.id=s.n.id) (e7:s'.o.messages=s.o.messages) (e8:s'.n.round=s.n.round:=by rfl) (e9:s'.n.reads=s.n.reads:=by rfl):SI c0 L T v s' g a:=
 ⟨h.gi,h.ni,⟨by rw [e1];exact h.ab.term,by rw [e1];exact h.ab.vote,by rw [e2];exact h.ab.role,by rw [e3];exact h.ab.yes,by rw [e4];exact h.ab.com,h.ab.idx,by rw [e1];exact h.ab.kept,by rw [e2,e5];exact h.ab.mat⟩,by show s'.n.id=v/\s'.n.round=0/\s'.n.reads=[]/\s'.n.kept.snap.data.size<=100/\I64 v;rw [e6,e8,e9,e1];exact h.id,by rw [e7];exact h.ms,h.be,h.bl,h.bt,by rw [e5];exact h.pe⟩
theorem SI.fall (h:SI c0 L T v s g a) {t:Int} (ht:t<=T/\t<=2000000):∃ a',SI c0 L T v (za9 s t) g a'/\a'.log=a.log/\a'.com=a.com/\a'.role=1/\(a'.term=if s.n.kept.term<t then t else s.n.kept.term):=by
 have ab:=h.ab
 by_cases hlt:s.n.kept.term<t
 ·have e1:(za9 s t).n={s.n with kept:={s.n.kept with term:=t,vote:=0},lead:=0,role:=1,yes:=[],peers:=[],reads:=[]}:=by
   unfold za9 zce
   rw [if_pos hlt]
   rfl
  have e2:(za9 s t).o.messages=s.o.messages:=by
   unfold za9 zce
   rw [if_pos hlt]
   rfl
  refine ⟨⟨t,0,a.log,a.com,1,[],[]⟩,⟨h.gi,h.ni.fall (t:=t) (by rw [ab.term];exact hlt) rfl rfl rfl rfl rfl,?_,by rw [e1];exact ⟨h.id.1,h.id.2.1,rfl,h.id.2.2.2⟩,by rw [e2];exact h.ms,h.be,h.bl,ht,by rw [e1];intro p hp;cases hp⟩,rfl,rfl,rfl,by rw [if_pos hlt]⟩
  rw [e1]
  refine ⟨rfl,rfl,rfl,rfl,ab.com,ab.idx,?_,fun e=>by cases e⟩
  obtain ⟨j,j1,hk⟩:=ab.kept
  exact ⟨j,j1,hk.le,hk.si,hk.en,hk.st,hk.sc⟩
 ·have e1:(za9 s t).n={s.n with role:=1,yes:=[],peers:=[],reads:=[]}:=by
   unfold za9 zce
   rw [if_neg hlt]
  have e2:(za9 s t).o.messages=s.o.messages:=by
   unfold za9 zce
   rw [if_neg hlt]
  refine ⟨⟨a.term,a.vote,a.log,a.com,1,[],[]⟩,⟨h.gi,h.ni.rest rfl rfl rfl (Nat.le_refl _) (by show (1:Int)≠3;decide) (by show (1:Int)≠4;decide),?_,by rw [e1];exact ⟨h.id.1,h.id.2.1,rfl,h.id.2.2.2⟩,by rw [e2];exact h.ms,h.be,h.bl,h.bt,by rw [e1];intro p hp;cases hp⟩,rfl,rfl,rfl,by rw [if_neg hlt];exact ab.term⟩
  rw [e1]
  exact ⟨ab.term,ab.vote,rfl,rfl,ab.com,ab.idx,ab.kept,fun e=>by cases e⟩
theorem SI.probe (h:SI c0 L T v s g a):∃ a',SI c0 L T v (runS s 2) g a'/\a'.log=a.log/\a'.term=a.term:=by
 have ab:=h.ab
 refine ⟨⟨a.term,a.vote,a.log,a.com,2,[s.n.id],[]⟩,⟨h.gi,h.ni.rest rfl rfl rfl (Nat.le_refl _) (by show (2:Int)≠3;decide) (by show (2:Int)≠4;decide),?_,h.id,h.ms,h.be,h.bl,h.bt,h.pe⟩,rfl,rfl⟩
 exact ⟨ab.term,ab.vote,rfl,rfl,ab.com,ab.idx,ab.kept,fun e=>by cases e⟩
theorem SI.stand (h:SI c0 L T v s g a) (hv0:v≠0) (hT:T<=1000000):∃ g' a',SI c0 L (T+1) v (stand1 s) g' a'/\Ext v g g'/\a'.log=a.log/\a'.role=3/\a'.term=a.term+1/\(stand1 s).n.role=3:=by
 have ab:=h.ab
 have h1:=h.ni.one
 have hb:=h.bt
 have ew:IntKind.i64.wrap (s.n.kept.term+1)=s.n.kept.term+1:=zaD ⟨by rw [<- ab.term];omega,by rw [<- ab.term];omega⟩
 have e1:(stand1 s).n={s.n with kept:={s.n.kept with term:=s.n.kept.term+1,vote:=s.n.id},elapsed:=0,lead:=0,role:=3,yes:=[s.n.id]}:=by
  show ({{s.n with kept:=recK s.n.kept (zcZ (IntKind.i64.wrap (s.n.kept.term+1)) s.n.id)} with elapsed:=0,lead:=0,role:=3,yes:=[s.n.id]}:Node)=_
  rw [ew]
  rfl
 obtain ⟨g',a1,a2,a3,a4⟩:=znx h.gi h.ni hv0 (n':=⟨a.term+1,v,a.log,a.com,3,[v],[]⟩) rfl rfl rfl rfl rfl rfl
 refine ⟨g',⟨a.term+1,v,a.log,a.com,3,[v],[]⟩,⟨a1,a3,?_,by rw [e1];exact h.id,fun m hm=>?_,fun t x hx=>?_,h.bl,⟨by show a.term+1<=T+1;omega,by show a.term+1<=2000000;omega⟩,by rw [e1];exact h.pe⟩,a2,rfl,rfl,rfl,by rw [e1]⟩
 ·rw [e1]
  refine ⟨by show a.term+1=s.n.kept.term+1;rw [ab.term],h.id.1.symm,rfl,by show [v]=[s.n.id];rw [h.id.1],ab.com,ab.idx,?_,fun e=>by cases e⟩
  obtain ⟨j,j1,hk⟩:=ab.kept
  exact ⟨j,j1,hk.le,hk.si,hk.en,hk.st,hk.sc⟩
 ·exact (h.ms m hm).ext a2 (by omega)
 ·rw [a4] at hx
  exact h.be t x hx
end
end Ag
end Go.Proofs.YtkhphiahindnnaaGreat
namespace Go.Proofs.YtkhphiahindnnaaGreat
namespace Ag
def Res (c0:Config) (L:Nat) (T v:Int) (s:Step) (g:Gh):Prop:=∃ g' a',SI c0 L T v s g' a'/\Ext v g g'
theorem GI.may {c0:Config} {g:Gh} (h:GI adjC majC c0 g) (h0:mayC c0=true) {l:za0} (hv:Val g.el l):mayC (cfg0 c0 l)=true:=by
 have ha:=zeQ (l:=l) l.length (Nat.le_refl _)
 rw [List.take_length] at ha
 have hc:=zdp (c0:=c0) (l:=l) (k:=zaS l) (l.length-zaS l) (by have:=zbX l;omega) fun j h1 h2=>ha.2 j h1 (by omega)
 rw [show zaS l+(l.length-zaS l)=l.length by have:=zbX l;omega,List.take_length] at hc
 rw [hc.1]
 rcases Nat.eq_zero_or_pos (zaS l) with e | e
 ·rw [e];exact h0
 ·have hk:=zfq h.H h.L hv (k:=zaS l-1) (by have:=zbX l;omega) (ha.1 e)
  obtain ⟨_,_,k,n,a1,a2⟩:=hk
  rw [show zaS l-1+1=zaS l by omega] at a2
  rw [a2]
  exact zgX a1
section
variable {c0 : Config} {L : Nat} {T v : Int} {s : Step} {g : Gh} {a : AN}
theorem SI.mono (h:SI c0 L T v s g a) {L':Nat} {T':Int} (hl:L<=L') (ht:T<=T'):SI c0 L' T' v s g a:=
 ⟨h.gi,h.ni,h.ab,h.id,fun m hm=>(h.ms m hm).ext (Ext.refl v g) ht,fun t x hx=>⟨Nat.le_trans (h.be t x hx).1 hl,(h.be t x hx).2⟩,Nat.le_trans h.bl hl,⟨Int.le_trans h.bt.1 ht,h.bt.2⟩,h.pe⟩
theorem SI.res (h:SI c0 L T v s g a):Res c0 L T v s g:=⟨g,a,h,Ext.refl v g⟩
theorem Res.mono (h:Res c0 L T v s g) {L':Nat} {T':Int} (hl:L<=L') (ht:T<=T'):Res c0 L' T' v s g:=by
 obtain ⟨g',a',h1,h2⟩:=h
 exact ⟨g',a',h1.mono hl ht,h2⟩
theorem SI.ext_ms (h:SI c0 L T v s g a) {g':Gh} (he:Ext v g g'):∀ m,m∈s.o.messages->Sent c0 g' v T m:=fun m hm=>(h.ms m hm).ext he (Int.le_refl _)
theorem Val.mem_led {g:Gh} {l:za0} (hv:Val g.el l) {e:Entry} (he:e∈l):∃ t x,g.el t=some x/\e∈x.l:=by
 obtain ⟨k,hk,rfl⟩:=List.getElem_of_mem he
 obtain ⟨x,h1,h2⟩:=hv k hk
 refine ⟨_,x,h1,h2.subset ?_⟩
 exact List.mem_take_iff_getElem.2 ⟨k,by omega,rfl⟩
theorem SI.eok (h:SI c0 L T v s g a):∀ e∈a.log,EOk e:=fun e he=>by
 obtain ⟨t,x,h1,h2⟩:=Val.mem_led h.ni.val he
 exact (h.be t x h1).2.2 e h2
theorem zjE {n:Node} {o:Int} (h:o∈zay n):1<=o/\o<=5:=by
 unfold zay at h
 have h:=(dropL_mem.1 h).1
 unfold allC at h
 split at h
 ·rename_i hm
  obtain ⟨_,b1,b2,_⟩:=mayC_iff.1 hm
  rcases putAll_mem.1 h with h | h
  ·exact b1 o h
  ·exact b2 o h
 ·cases h
theorem SI.led (h:SI c0 L T v s g a) (hL:L<=8000) (hr:s.n.role=3) (he:zaU s.n=true):∃ g' a',SI c0 L T v (ledS s) g' a'/\Ext v g g'/\a'.log=a.log/\a'.term=a.term/\a'.role=4:=by
 have ab:=h.ab
 have hbl:=h.bl
 have hm:majC (cfg0 c0 a.log) a.yes:=by
  rw [<- ab.conf (by omega),ab.yes]
  unfold zaU at he
  rw [Bool.and_eq_true] at he
  exact he.2
 obtain ⟨g',a1,a2,a3,a4⟩:=znW h.gi zxj h.ni (ab.role.trans hr) hm (n':=⟨a.term,a.vote,a.log,a.com,4,[],(zay s.n).map fun o=>(o,0)⟩) rfl rfl rfl rfl rfl (fun p hp=>by obtain ⟨o,_,rfl⟩:=List.mem_map.1 hp;rfl)
 refine ⟨g',_,⟨a1,a3,⟨ab.term,ab.vote,rfl,rfl,ab.com,ab.idx,ab.kept,fun _=>?_⟩,h.id,h.ext_ms a2,fun t x hx=>?_,hbl,h.bt,fun p hp=>?_⟩,a2,rfl,rfl,rfl⟩
 ·show (zay s.n).map (fun o=>(o,0))=((zay s.n).map (zd7 s)).map _
  rw [List.map_map]
  rfl
 ·rcases a4 t x hx with ⟨y,y1,rfl⟩ | e
  ·exact h.be t x y1
  ·rw [e];exact ⟨hbl,ab.idx,h.eok⟩
 ·have hp:p∈(zay s.n).map (zd7 s):=hp
  obtain ⟨o,hoo,rfl⟩:=List.mem_map.1 hp
  have e:(zam s.n.kept).1=(a.log.length:Int)+1:=by rw [ab.last (by omega)]
  have ho:=zjE hoo
  refine ⟨?_,by show I64 o;exact ⟨by omega,by omega⟩⟩
  show 0<=(0:Int)/\0<IntKind.i64.wrap ((zam s.n.kept).1+1)/\IntKind.i64.wrap ((zam s.n.kept).1+1)<=(a.log.length:Int)+2
  rw [e,zaD ⟨by omega,by omega⟩]
  omega
theorem SI.lay (h:SI c0 L T v s g a) (hL:L<=8000) (hr:s.n.role=4) {e:Entry} (heo:EOk e) (hc:e.kind=2->zha g.C adjC c0 a.term (a.log++[⟨(a.log.length:Int)+2,a.term,e.kind,e.config,e.data⟩]) a.log.length) :
  ∃ g' a',SI c0 (L+1) T v (layS s e) g' a'/\Ext v g g'/\a'.log=a.log++[⟨(a.log.length:Int)+2,a.term,e.kind,e.config,e.data⟩]/\a'.term=a.term/\a'.role=4:=by
 have ab:=h.ab
 have hbl:=h.bl
 have e0:(layE s e)=⟨(a.log.length:Int)+2,a.term,e.kind,e.config,e.data⟩:=by
  have e1:(zam s.n.kept).1=(a.log.length:Int)+1:=by rw [ab.last (by omega)]
  show (⟨IntKind.i64.wrap ((zam s.n.kept).1+1),s.n.kept.term,e.kind,e.config,e.data⟩:Entry)=_
  rw [e1,zaD ⟨by omega,by omega⟩,ab.term,show (a.log.length:Int)+1+1=a.log.length+2 by omega]
 have hidx:∀ k,k<(a.log++[(⟨(a.log.length:Int)+2,a.term,e.kind,e.config,e.data⟩:Entry)]).length->((a.log++[(⟨(a.log.length:Int)+2,a.term,e.kind,e.config,e.data⟩:Entry)]).getD k default).index=k+2:=fun k hk=>by
  rw [List.length_append,List.length_singleton] at hk
  by_cases hlt:k<a.log.length
  ·rw [zfP hlt];exact ab.idx k hlt
  ·have:k=a.log.length:=by omega
   subst this
   simp [List.getD]
 have e1:layS s e=⟨{s.n with kept:={s.n.kept with entries:=s.n.kept.entries++[layE s e]}},{s.o with records:=s.o.records++[entR (layE s e)]}⟩:=rfl
 obtain ⟨g',a1,a2,a3,a4⟩:=zsO h.gi h.ni (ab.role.trans hr) (x:=⟨(a.log.length:Int)+2,a.term,e.kind,e.config,e.data⟩) rfl hc (n':={a with log:=a.log++[⟨(a.log.length:Int)+2,a.term,e.kind,e.config,e.data⟩]}) rfl rfl rfl rfl (ab.role.trans hr) rfl
 refine ⟨g',_,⟨a1,a3,?_,h.id,h.ext_ms a2,fun t x hx=>?_,?_,h.bt,fun p hp=>?_⟩,a2,rfl,rfl,ab.role.trans hr⟩
 ·rw [e1,e0]
  refine ⟨ab.term,ab.vote,ab.role,ab.yes,ab.com,hidx,?_,ab.mat⟩
  ·obtain ⟨j,j1,hk⟩:=ab.kept
   have:=hk.le
   refine ⟨j,j1,⟨by show j<=(a.log++[_]).length;rw [List.length_append];omega,hk.si,?_,?_,?_⟩⟩
   ·show s.n.kept.entries++[_]=(a.log++[_]).drop j
    rw [List.drop_append_of_le_length (by omega),hk.en]
   ·show s.n.kept.snap.term=zbw ((a.log++[_]).take j)
    rw [List.take_append_of_le_length (by omega),hk.st]
   ·show s.n.kept.snap.config=cfg0 c0 ((a.log++[_]).take j)
    rw [List.take_append_of_le_length (by omega),hk.sc]
 ·rcases a4 t x hx with ⟨y,y1,rfl⟩ | e
  ·exact ⟨Nat.le_succ_of_le (h.be t x y1).1,(h.be t x y1).2⟩
  ·rw [e]
   refine ⟨by rw [List.length_append,List.length_singleton];omega,hidx,fun y hy=>?_⟩
   rcases List.mem_append.1 hy with hy | hy
   ·exact h.eok y hy
   ·rw [List.mem_singleton] at hy
    subst hy
    exact ⟨heo.k,heo.c,heo.d⟩
 ·show (a.log++[_]).length<=_
  rw [List.length_append,List.length_singleton];omega
 ·have:=h.pe p hp
  refine ⟨?_,this.2⟩
  show 0<=p.match_/\p.match_<p.next/\p.next<=((a.log++[_]).length:Int)+2
  rw [List.length_append,List.length_singleton]
  omega
theorem zqt {v:Int}:∀ {l:List Int},0<=zaK (isV v) l->l.getD (zaK (isV v) l).toNat 0=v/\(zaK (isV v) l).toNat<l.length:=by
 intro l h
 by_cases hx:∃ j,j<l.length/\isV v (l.getD j 0)=true
 ·have hd:∃ j,j<l.length/\isV v (l.getD j 0)=true/\∀ i,i<j->isV v (l.getD i 0)=false:=by
   obtain ⟨j,h1,h2⟩:=hx
   induction j using Nat.strongRecOn with
   | ind j ih=>
    by_cases hb:∃ i,i<j/\isV v (l.getD i 0)=true
    ·obtain ⟨i,i1,i2⟩:=hb
     exact ih i i1 (by omega) i2
    ·exact ⟨j,h1,h2,fun i hi=>by
      cases hq:isV v (l.getD i 0) with
      | false=>rfl
      | true=>exact absurd ⟨i,hi,hq⟩ hb⟩
  obtain ⟨j,h1,h2,h3⟩:=hd
  have e:=zcU h1 h3 h2
  rw [e]
  refine ⟨?_,by omega⟩
  rw [Int.toNat_natCast]
  unfold isV at h2
  exact beq_iff_eq.1 h2
 ·have e:=zc0 (p:=isV v) (l:=l) fun i hi=>by
   cases hq:isV v (l.getD i 0) with
   | false=>rfl
   | true=>exact absurd ⟨i,hi,hq⟩ hx
  omega
theorem zis {ps:List Peer} {v:Int} (h:0<=zaT ps v):(ps.getD (zaT ps v).toNat default).node=v/\(zaT ps v).toNat<ps.length:=by
 unfold zaT at h ⊢
 obtain ⟨h1,h2⟩:=zqt h
 rw [List.length_map] at h2
 rw [zcS] at h1
 exact ⟨h1,h2⟩
theorem zbL {α:Type} {l:List α} {i:Nat} {d:α} (h:i<l.length):l.getD i d∈l:=by
 rw [List.getD_eq_getElem?_getD,List.getElem?_eq_getElem h]
 exact List.getElem_mem h
theorem SI.count (h:SI c0 L T v s g a) (h0:mayC c0=true) (hL:L<=9000) (hr:s.n.role=4):∃ g' a',SI c0 L T v (zaB s) g' a'/\Ext v g g'/\a'.log=a.log/\a'.term=a.term/\a'.role=4:=by
 have ab:=h.ab
 have hbl:=h.bl
 have hr':a.role=4:=ab.role.trans hr
 by_cases hcond:(zau s.n.kept (zbO (zbG s))).2=0/\(zau s.n.kept (zbO (zbG s))).1=s.n.kept.term
 ·have ec:zaB s=⟨{s.n with commit:=max s.n.commit (zbO (zbG s))},s.o⟩:=by unfold zaB;rw [if_pos hcond]
  obtain ⟨q,q1,hk⟩:=ab.kept
  obtain ⟨i,i1,i2,i3⟩:=hk.term_in hcond.1
  have ho:=ab.on (by omega)
  have ht:=hcond.2
  rw [i1,hk.term ho i2 i3] at ht
  have ht:zbw (a.log.take i)=a.term:=by rw [ab.term];exact ht
  by_cases hle:i<=a.com
  ·refine ⟨g,a,⟨h.gi,h.ni,?_,by rw [ec];exact h.id,?_,h.be,h.bl,h.bt,?_⟩,Ext.refl _ _,rfl,rfl,hr'⟩
   ·rw [ec]
    refine ⟨ab.term,ab.vote,ab.role,ab.yes,?_,ab.idx,ab.kept,ab.mat⟩
    have hcm:=ab.com
    show max s.n.commit (zbO (zbG s))=_
    omega
   ·rw [ec];exact h.ms
   ·rw [ec];exact h.pe
  ·obtain ⟨x,x1,x2,x3,x4⟩:=h.ni.led hr'
   have hi0:0<i:=by omega
   have ht2:=ht
   rw [zb0 hi0 i3] at ht2
   have hmay:=h.gi.may h0 h.ni.val
   have hcf:=ab.conf (by omega)
   -- who has it
   have hA:majC (cfg0 c0 a.log) ((za6 s.n).voters.filter fun w=>decide (zbO (zbG s)<=zcy s w)):=by
    rw [<- hcf] at hmay ⊢
    generalize hvs:(za6 s.n).voters=vs at *
    have hisC:isC vs=true:=by
     obtain ⟨⟨m1,_⟩,m2,_⟩:=mayC_iff.1 hmay
     rw [hvs] at m1 m2
     exact zgh m1 m2
    have hne:0<vs.length:=by
     obtain ⟨_,_,_,m2,_⟩:=mayC_iff.1 hmay
     rw [hvs] at m2
     exact List.length_pos_iff.2 m2
    have hl:(zbG s).length=vs.length:=by unfold zbG;rw [List.length_map,hvs]
    have h2:=(zvy hl hne (zbO (zbG s))).1 (by rw [zoF];exact Int.le_refl _)
    have h3:ze0 (zbG s) (zbO (zbG s))=vs.countP fun w=>decide (zbO (zbG s)<=zcy s w):=by
     generalize zbO (zbG s)=z
     unfold ze0 zbG
     rw [List.countP_map,hvs]
     rfl
    have h4:zcY vs (vs.filter fun w=>decide (zbO (zbG s)<=zcy s w)) vs.length=vs.countP fun w=>decide (zbO (zbG s)<=zcy s w):=by
     rw [zfA _ _ _ (Nat.le_refl _),List.take_length]
     refine List.countP_congr fun w hw=>?_
     unfold hasB
     rw [decide_eq_true_eq,List.mem_filter]
     exact ⟨fun hh=>hh.2,fun hh=>⟨hw,hh⟩⟩
    unfold majC zbH
    rw [hvs,hisC,h4,<- h3]
    simp only [Bool.true_and,Bool.and_eq_true,decide_eq_true_eq]
    omega
   obtain ⟨g',a1,a2,a3,a4⟩:=zlE h.gi zxj h.ni hr' hi0 i3 ht2 hA (n':={a with com:=i}) (fun w hw=>by
    have hw2:=(List.mem_filter.1 hw).2
    have hw2:zbO (zbG s)<=zcy s w:=of_decide_eq_true hw2
    unfold zcy at hw2
    by_cases hp:0<=zaT s.n.peers w
    ·rw [if_pos hp] at hw2
     obtain ⟨p1,p2⟩:=zis hp
     refine .inr ⟨(w,((s.n.peers.getD (zaT s.n.peers w).toNat default).match_-1).toNat),?_,rfl,by show i<=_;omega⟩
     rw [ab.mat hr]
     exact List.mem_map.2 ⟨_,zbL p2,by rw [p1]⟩
    ·rw [if_neg hp] at hw2
     by_cases hid:w=s.n.id
     ·exact .inl (hid.trans h.id.1)
     ·rw [if_neg hid] at hw2
      omega) rfl rfl rfl rfl hr' rfl rfl
   refine ⟨g',_,⟨a1,a3,?_,?_,?_,?_,hbl,h.bt,?_⟩,a2,rfl,rfl,hr'⟩
   ·rw [ec]
    refine ⟨ab.term,ab.vote,ab.role,ab.yes,?_,ab.idx,⟨q,by show q<=i;omega,hk⟩,ab.mat⟩
    have hcm:=ab.com
    show max s.n.commit (zbO (zbG s))=(i:Int)+1
    omega
   ·rw [ec];exact h.id
   ·rw [ec];exact h.ext_ms a2
   ·intro t x hx
    rw [a4] at hx
    exact h.be t x hx
   ·rw [ec];exact h.pe
 ·have ec:zaB s=s:=by unfold zaB;rw [if_neg hcond]
  rw [ec]
  exact ⟨g,a,h,Ext.refl _ _,rfl,rfl,hr'⟩
theorem SI.tell (h:SI c0 L T v s g a) (h0:mayC c0=true) (hL:L<=8000) (hr:s.n.role=4) {p:Peer} (hpp:(0<=p.match_/\p.match_<p.next/\p.next<=a.log.length+2)/\I64 p.node):(MI c0 g (msgS s (toM s p))/\(toM s p).term=0)/\MOk (toM s p):=by
 obtain ⟨hp,hpn⟩:=hpp
 have z0:I64 0:=⟨by decide,by decide⟩
 have hbt:=h.bt
 have hone:=h.ni.one
 have hlt:∀ k,k<=a.log.length->I64 (zbw (a.log.take k)):=fun k hk=>by
  rcases Nat.eq_zero_or_pos k with e | e
  ·rw [e];exact zvB
  ·rw [zb0 e hk]
   have h1:=h.ni.hi (k-1) (by omega)
   have h2:=h.ni.val.term2 h.gi.H (k:=k-1) (by omega)
   exact ⟨by omega,by omega⟩
 have ab:=h.ab
 have hbl:=h.bl
 have hr':a.role=4:=ab.role.trans hr
 obtain ⟨x,x1,x2,x3,x4⟩:=h.ni.led hr'
 obtain ⟨q,q1,hk⟩:=ab.kept
 have ho:=ab.on (by omega)
 have hc:=h.ni.com
 have hsi:=hk.si
 unfold toM
 by_cases hs:p.next<=s.n.kept.snap.index
 ·rw [if_pos hs]
  refine ⟨?_,⟨by show I64 7;exact ⟨by decide,by decide⟩,z0,hpn,z0,z0,z0,⟨Nat.zero_le _,fun y hy=>by cases hy⟩,z0,by show I64 s.n.round;rw [h.id.2.1];exact z0,by show I64 s.n.kept.snap.index;rw [hsi];have:=hk.le;exact ⟨by omega,by omega⟩,by show I64 s.n.kept.snap.term;rw [hk.st];exact hlt q hk.le,by show COk s.n.kept.snap.config;rw [hk.sc];exact COk.may (h.gi.may h0 (h.ni.val.take q)),h.id.2.2.2.1,z0,z0,Nat.zero_le _⟩⟩
  refine ⟨⟨fun e=>absurd e (by show ¬ (7:Int)=3;decide),fun e=>absurd e (by show ¬ (7:Int)=4;decide),fun e=>absurd e (by show ¬ (7:Int)=5;decide),fun e=>absurd e (by show ¬ (7:Int)=6;decide),fun _=>⟨x,q,?_,hsi,?_,?_,q,rfl,?_,?_⟩⟩,rfl⟩
  ·show g.el (if (0:Int)=0 then s.n.kept.term else 0)=_
   rw [if_pos rfl,<- ab.term,x1]
  ·rw [x3];exact hk.st
  ·rw [x3];exact hk.sc
  ·rw [x3];exact hk.le
  ·show q=0\/∃ c,g.C c/\c.t<=(if (0:Int)=0 then s.n.kept.term else 0)/\_
   rw [if_pos rfl,<- ab.term,x3]
   rcases h.ni.sure with e | ⟨c,c1,c2,c3⟩
   ·exact .inl (by omega)
   ·exact .inr ⟨c,c1,c2,(zbx q1).trans c3⟩
 ·rw [if_neg hs]
  have hle:=hk.le
  obtain ⟨k,hk1⟩:∃ k:Nat,p.next=k+2:=⟨(p.next-2).toNat,by omega⟩
  have ew:IntKind.i64.wrap (p.next-1)=(k:Int)+1:=by rw [hk1,zaD ⟨by omega,by omega⟩];omega
  have esl:(zbk s.n.kept p.next 8).1=(a.log.drop k).take 8:=by
   unfold zbk zd4
   have h1:=hk.end_
   rw [ho,if_pos rfl,if_pos (by rw [Bool.and_eq_true,Bool.and_eq_true,decide_eq_true_eq,decide_eq_true_eq];exact ⟨rfl,by omega,by omega⟩)]
   show (s.n.kept.entries.drop (p.next-1-s.n.kept.snap.index).toNat).take 8=_
   rw [hk.en,List.drop_drop]
   congr 2
   omega
  refine ⟨?_,⟨by show I64 5;exact ⟨by decide,by decide⟩,z0,hpn,z0,by show I64 (IntKind.i64.wrap (p.next-1));rw [ew];exact ⟨by omega,by omega⟩,by show I64 (zau s.n.kept (IntKind.i64.wrap (p.next-1))).1;rw [ew,hk.term ho (by omega) (by omega)];exact hlt k (by omega),?_,by show I64 s.n.commit;rw [ab.com];exact ⟨by omega,by omega⟩,by show I64 s.n.round;rw [h.id.2.1];exact z0,z0,z0,COk.zero,Nat.zero_le _,z0,z0,Nat.zero_le _⟩⟩
  refine ⟨⟨fun e=>absurd e (by show ¬ (5:Int)=3;decide),fun e=>absurd e (by show ¬ (5:Int)=4;decide),fun _=>⟨x,k,?_,ew,?_,?_,?_,?_⟩,fun e=>absurd e (by show ¬ (5:Int)=6;decide),fun e=>absurd e (by show ¬ (5:Int)=7;decide)⟩,rfl⟩
  ·show g.el (if (0:Int)=0 then s.n.kept.term else 0)=_
   rw [if_pos rfl,<- ab.term,x1]
  ·show k+(zbk s.n.kept p.next 8).1.length<=_
   rw [esl,x3,List.length_take,List.length_drop]
   omega
  ·show (zau s.n.kept (IntKind.i64.wrap (p.next-1))).1=_
   rw [ew,hk.term ho (by omega) (by omega),x3]
  ·show (zbk s.n.kept p.next 8).1=(x.l.drop k).take (zbk s.n.kept p.next 8).1.length
   rw [esl,x3]
   generalize a.log.drop k=z
   exact zbq (zar z 8)
  ·show SureTo g (if (0:Int)=0 then s.n.kept.term else 0) x.l s.n.commit
   rw [if_pos rfl,<- ab.term,x3,ab.com]
   exact h.ni.sureTo
  ·show (zbk s.n.kept p.next 8).1.length<=8/\∀ e∈(zbk s.n.kept p.next 8).1,_
   rw [esl]
   refine ⟨by rw [List.length_take];omega,fun e he=>?_⟩
   have hmem:e∈a.log:=List.mem_of_mem_drop (List.mem_of_mem_take he)
   refine ⟨h.eok e hmem,?_⟩
   obtain ⟨i,i1,i2⟩:=List.getElem_of_mem hmem
   have hg:a.log.getD i default=e:=by rw [List.getD_eq_getElem?_getD,List.getElem?_eq_getElem i1];exact i2
   have j1:=ab.idx i i1
   have j2:=h.ni.hi i i1
   have j3:=h.ni.val.term2 h.gi.H i1
   rw [hg] at j1 j2 j3
   exact ⟨⟨by omega,by omega⟩,⟨by omega,by omega⟩⟩
theorem SI.sent (h:SI c0 L T v s g a) {m:Message} (hk:MOk m) (hm:MI c0 g (msgS s m)) (h1:m.term=0\/1<=m.term) (h2:m.term<=T+1):Sent c0 g v T (msgS s m):=by
 have ht:=h.ab.term
 have hb:=h.bt
 have ho:=h.ni.one
 refine ⟨hm,h.id.1,?_,?_,h.msgOk hk⟩
 ·show 1<=if m.term=0 then s.n.kept.term else m.term
  split<;>omega
 ·show (if m.term=0 then s.n.kept.term else m.term)<=_
  split<;>omega
theorem SI.all (h:SI c0 L T v s g a) (h0:mayC c0=true) (hL:L<=8000) (hr:s.n.role=4):SI c0 L T v (allS s) g a:=by
 refine h.sends (s:=s) fun m hm=>?_
 obtain ⟨p,hp,rfl⟩:=List.mem_map.1 hm
 obtain ⟨⟨h1,h2⟩,h3⟩:=h.tell h0 hL hr (h.pe p hp)
 refine h.sent h3 h1 (.inl h2) ?_
 have:=h.bt
 have:=h.ni.one
 omega
theorem SI.to (h:SI c0 L T v s g a) (h0:mayC c0=true) (hL:L<=8000) (hr:s.n.role=4) {p:Peer} (hp:(0<=p.match_/\p.match_<p.next/\p.next<=a.log.length+2)/\I64 p.node):SI c0 L T v (toS s p) g a:=by
 obtain ⟨⟨h1,h2⟩,h3⟩:=h.tell h0 hL hr hp
 refine h.send h3 h1 (.inl h2) ?_
 have:=h.bt
 have:=h.ni.one
 omega
theorem SI.rule (h:SI c0 L T v s g a) (h0:mayC c0=true) (hL:L<=7000) (hr:s.n.role=3) (he:zaU s.n=true):Res c0 (L+1) T v (zeF s) g:=by
 obtain ⟨g1,a1,h1,x1,l1,t1,r1⟩:=h.led (by omega) hr he
 obtain ⟨g2,a2,h2,x2,l2,t2,r2⟩:=h1.lay (by omega) (e:=zgy) rfl ⟨⟨by decide,by decide⟩,COk.zero,Nat.zero_le _⟩ (fun e=>absurd e (by decide))
 obtain ⟨g3,a3,h3,x3,l3,t3,r3⟩:=h2.count h0 (by omega) (by rw [<- h2.ab.role];exact r2)
 exact ⟨g3,a3,h3.all h0 (by omega) (by rw [<- h3.ab.role];exact r3),(x1.trans x2).trans x3⟩
theorem SI.askOk (h:SI c0 L T v s g a) (h0:mayC c0=true) (hL:L<=9000) {w:Int} (hw:w∈za8 (za6 s.n).voters s.n.id) {k t:Int} (hk:I64 k) (ht:I64 t):MOk (askM s ⟨k,0,0,t,0,0,[],0,0,false,zeg,0,0,zs⟩ w):=by
 have ab:=h.ab
 have hbl:=h.bl
 have hl:=ab.last (by omega)
 have hw:=(dropL_mem.1 hw).1
 rw [ab.conf (by omega)] at hw
 obtain ⟨_,b1,_⟩:=mayC_iff.1 (h.gi.may h0 h.ni.val)
 have hb:=b1 w hw
 have hbt:=h.bt
 refine MOk.plain hk zcJ ⟨by omega,by omega⟩ ht ?_ ?_ zcJ
 ·rw [hl];exact ⟨by show _<=(a.log.length:Int)+1;omega,by show (a.log.length:Int)+1<=_;omega⟩
 ·rw [hl]
  show I64 (zbw a.log)
  rcases Nat.eq_zero_or_pos a.log.length with e | e
  ·rw [List.eq_nil_of_length_eq_zero e];exact ⟨by decide,by decide⟩
  ·rw [zbl e]
   have h1:=h.ni.hi (a.log.length-1) (by omega)
   have h2:=h.ni.val.term2 h.gi.H (k:=a.log.length-1) (by omega)
   exact ⟨by omega,by omega⟩
theorem SI.ask3 (h:SI c0 L T v s g a) (h0:mayC c0=true) (hL:L<=9000) (hr:s.n.role=3):SI c0 L T v (askS s (msgK 3)) g a:=by
 have ab:=h.ab
 have hbl:=h.bl
 refine h.sends (s:=s) fun m hm=>?_
 obtain ⟨w,hw,rfl⟩:=List.mem_map.1 hm
 refine h.sent (h.askOk h0 hL hw ⟨by decide,by decide⟩ ⟨by decide,by decide⟩) ?_ (.inl rfl) ?_
 ·have hl:=ab.last (by omega)
  refine ⟨fun _=>⟨a.log,?_,?_,?_⟩,fun e=>absurd e (by show ¬ (3:Int)=4;decide),fun e=>absurd e (by show ¬ (3:Int)=5;decide),fun e=>absurd e (by show ¬ (3:Int)=6;decide),fun e=>absurd e (by show ¬ (3:Int)=7;decide)⟩
  ·show g.D (if (0:Int)=0 then s.n.kept.term else 0) s.n.id a.log
   rw [if_pos rfl,<- ab.term,h.id.1]
   exact (h.ni.cand (ab.role.trans hr)).1
  ·show (zam s.n.kept).1=_
   rw [hl]
  ·show (zam s.n.kept).2=_
   rw [hl]
 ·have:=h.bt
  have:=h.ni.one
  show (0:Int)<=T+1
  omega
theorem SI.ask1 (h:SI c0 L T v s g a) (h0:mayC c0=true) (hL:L<=9000) {t:Int} (h2:1<=t) (h3:t<=T+1) (h4:I64 t):SI c0 L T v (askS s ⟨1,0,0,t,0,0,[],0,0,false,zeg,0,0,zs⟩) g a:=by
 refine h.sends (s:=s) fun m' hm=>?_
 obtain ⟨w,hw,rfl⟩:=List.mem_map.1 hm
 exact h.sent (h.askOk h0 hL hw ⟨by decide,by decide⟩ h4) (MI.none (.inl rfl)) (.inr h2) h3
theorem SI.standing (h:SI c0 L T v s g a) (h0:mayC c0=true) (hv0:v≠0) (hL:L<=7000) (hT:T<=1000000):Res c0 (L+1) (T+1) v (zbV s) g:=by
 obtain ⟨g',a',h1,x1,l1,r1,t1,r2⟩:=h.stand hv0 hT
 unfold zbV
 by_cases he:zaU (stand1 s).n=true
 ·rw [if_pos he]
  obtain ⟨g2,a2,h2,x2⟩:=h1.rule h0 hL r2 he
  exact ⟨g2,a2,h2,x1.trans x2⟩
 ·rw [if_neg he]
  exact ⟨g',a',(h1.ask3 h0 (by omega) r2).mono (by omega) (Int.le_refl _),x1⟩
theorem SI.tick {n:Node} (h:SI c0 L T v (zag n) g a) (h0:mayC c0=true) (hv0:v≠0) (hL:L<=7000) (hT:T<=1000000):Res c0 (L+1) (T+1) v (zcM n) g:=by
 have hbt:=h.bt
 have hter:=h.ab.term
 have hone:=h.ni.one
 have ht1:SI c0 L T v (tick1 n) g a:=h.same rfl rfl rfl rfl rfl rfl rfl
 unfold zcM
 by_cases h4:n.role=4
 ·rw [if_pos h4]
  split
  ·have h2:SI c0 L T v ⟨{n with elapsed:=0},outZ⟩ g a:=h.same rfl rfl rfl rfl rfl rfl rfl
   exact ((h2.all h0 (by omega) h4).mono (by omega) (by omega)).res
  ·exact (ht1.mono (by omega) (by omega)).res
 ·rw [if_neg h4]
  split
  ·exact (ht1.mono (by omega) (by omega)).res
  ·obtain ⟨a',h2,l2,t2⟩:=ht1.probe
   split
   ·exact h2.standing h0 hv0 hL hT
   ·have hter:a.term=n.kept.term:=hter
    have ew:IntKind.i64.wrap (n.kept.term+1)=n.kept.term+1:=zaD ⟨by omega,by omega⟩
    refine ((h2.ask1 h0 (by omega) (t:=IntKind.i64.wrap (n.kept.term+1)) ?_ ?_ ?_).mono (by omega) (by omega)).res
    ·show 1<=IntKind.i64.wrap (n.kept.term+1)
     omega
    ·show IntKind.i64.wrap (n.kept.term+1)<=T+1
     omega
    ·rw [ew];exact ⟨by omega,by omega⟩
end
end Ag
end Go.Proofs.YtkhphiahindnnaaGreat
namespace Go.Proofs.YtkhphiahindnnaaGreat
namespace Ag
structure Msg (c0:Config) (g:Gh) (T v:Int) (m:Message):Prop where
 mi:MI c0 g m
 to:m.to_=v
 fr:1<=m.from_/\m.from_<=5
 t1:1<=m.term
 t2:m.term<=T+1
 ok:MOk m
section
variable {c0 : Config} {L : Nat} {T v : Int} {s : Step} {g : Gh} {a : AN} {m : Message}
theorem MOk.probed (K:MOk m) {b:Bool}:MOk (zlb m b):=by
 have h:I64 (if b then m.term else 0):=by
  cases b
  ·exact zcJ
  ·exact K.term
 exact MOk.plain (k:=2) ⟨by decide,by decide⟩ zcJ K.from_ h zcJ zcJ zcJ
theorem MOk.voted (K:MOk m) {b:Bool}:MOk (zjp m b):=MOk.plain (k:=4) ⟨by decide,by decide⟩ zcJ K.from_ zcJ zcJ zcJ zcJ
theorem MOk.appd (K:MOk m) {b:Bool} {i:Int} (hi:I64 i):MOk (zbT m b i):=MOk.plain (k:=6) ⟨by decide,by decide⟩ zcJ K.from_ zcJ hi zcJ K.round
theorem Msg.mono (M:Msg c0 g T v m) {T':Int} (h:T<=T'):Msg c0 g T' v m:=⟨M.mi,M.to,M.fr,M.t1,by have:=M.t2;omega,M.ok⟩
theorem SI.hear_0 {n:Node} (h:SI c0 L T v (zag n) g a) (hT:T<=1000000) (M:Msg c0 g T v m):(zcr n m=false/\zaW n m=zag n)\/(zcr n m=true/\∃ a',SI c0 L (T+1) v (zaW n m) g a'/\(zaW n m).n.role=1/\(zaW n m).n.kept.term=m.term):=by
 unfold zaW
 cases hb:zcr n m with
 | false=>exact .inl ⟨rfl,by simp⟩
 | true=>
  refine .inr ⟨rfl,?_⟩
  rw [if_pos rfl]
  obtain ⟨a',h1,h2,h3,h4,h5⟩:=(h.mono (Nat.le_refl _) (show T<=T+1 by omega)).fall ⟨M.t2,by have:=M.t2;omega⟩
  refine ⟨a',h1,by rw [<- h1.ab.role];exact h4,?_⟩
  rw [<- h1.ab.term,h5]
  unfold zcr at hb
  rw [Bool.and_eq_true,Bool.and_eq_true,decide_eq_true_eq] at hb
  exact if_pos hb.1.1
theorem SI.hears1 (h:SI c0 L T v s g a) (M:Msg c0 g T v m):Res c0 L T v (zcj s m) g:=by
 have h1:=M.t1
 have h2:=M.t2
 have hb:=h.bt
 have h3:=h.ni.one
 refine (h.send (m:=zlb m (zgq s m)) (MOk.probed M.ok) (MI.none (.inr rfl)) ?_ ?_).res
 ·show (if zgq s m then m.term else 0)=0\/1<=(if zgq s m then m.term else 0)
  split<;>omega
 ·show (if zgq s m then m.term else 0)<=T+1
  split<;>omega
theorem SI.hears2 (h:SI c0 L T v s g a) (h0:mayC c0=true) (hv0:v≠0) (hL:L<=7000) (hT:T<=1000000):Res c0 (L+1) (T+1) v (zaF s m) g:=by
 by_cases hr:s.n.role=2
 ·have hy:∃ a',SI c0 L T v (yesR s m 2 (IntKind.i64.wrap (s.n.kept.term+1))) g a':=by
   unfold yesR
   split
   ·have ab:=h.ab
    refine ⟨{a with yes:=zcn s.n.yes m.from_},⟨h.gi,h.ni.same rfl rfl rfl rfl rfl (fun e=>?_) (fun e p hp=>?_),⟨ab.term,ab.vote,ab.role,rfl,ab.com,ab.idx,ab.kept,ab.mat⟩,h.id,h.ms,h.be,h.bl,h.bt,h.pe⟩⟩
    ·rw [ab.role] at e;omega
    ·rw [ab.role] at e;omega
   ·exact ⟨a,h⟩
  obtain ⟨a',h1⟩:=hy
  unfold zaF
  split
  ·exact h1.standing h0 hv0 hL hT
  ·exact (h1.mono (by omega) (by omega)).res
 ·obtain ⟨e1,e2⟩:=zfI (m:=m) (term:=IntKind.i64.wrap (s.n.kept.term+1)) hr
  unfold zaF
  rw [e1,e2]
  exact (h.mono (by omega) (by omega)).res
theorem SI.skip2 (h:SI c0 L T v s g a) (hr:s.n.role≠2):Res c0 L T v (zaF s m) g:=by
 obtain ⟨e1,e2⟩:=zfI (m:=m) (term:=IntKind.i64.wrap (s.n.kept.term+1)) hr
 unfold zaF
 rw [e1,e2]
 exact h.res
theorem zox {l:List Int} {w y:Int} (h:y∈zcn l w):y=w\/y∈l:=by
 unfold zcn at h
 split at h
 ·split at h
  ·exact putL_mem.1 h
  ·cases h
 ·cases h
theorem SI.hears4 (h:SI c0 L T v s g a) (h0:mayC c0=true) (hL:L<=7000) (M:Msg c0 g T v m) (h4:m.kind=4):Res c0 (L+1) T v (zbb s m) g:=by
 by_cases hy:zfZ s m 3 s.n.kept.term=true
 ·have hy':=hy
  unfold zfZ at hy'
  simp only [Bool.and_eq_true,beq_iff_eq] at hy'
  obtain ⟨⟨hr,hok⟩,ht⟩:=hy'
  have ab:=h.ab
  obtain ⟨q,b,hV⟩:=M.mi.k4 h4 hok
  rw [ht,M.to,<- ab.term] at hV
  have h1:SI c0 L T v (yesS s m) g {a with yes:=zcn s.n.yes m.from_}:=by
   refine ⟨h.gi,h.ni.same rfl rfl rfl rfl rfl (fun e y hy=>?_) (fun e p hp=>?_),⟨ab.term,ab.vote,ab.role,rfl,ab.com,ab.idx,ab.kept,ab.mat⟩,h.id,h.ms,h.be,h.bl,h.bt,h.pe⟩
   ·rcases zox hy with rfl | hy
    ·exact ⟨q,b,hV⟩
    ·exact (h.ni.cand e).2.2.1 y (by rw [ab.yes];exact hy)
   ·rw [ab.role,hr] at e;cases e
  unfold zbb yesB yesR
  rw [hy,if_pos rfl,Bool.true_and]
  by_cases he:zaU (yesS s m).n=true
  ·rw [if_pos he]
   exact h1.rule h0 hL hr he
  ·rw [if_neg he]
   exact (h1.mono (by omega) (Int.le_refl _)).res
 ·unfold zbb yesB yesR
  rw [Bool.eq_false_iff.2 hy,Bool.false_and]
  exact (h.mono (by omega) (Int.le_refl _)).res
theorem SI.hears3 (h:SI c0 L T v s g a) (hL:L<=9000) (hv0:v≠0) (M:Msg c0 g T v m) (h3:m.kind=3):Res c0 L T v (zc6 s m) g:=by
 have ab:=h.ab
 have hbl:=h.bl
 have hbt:=h.bt
 have hone:=h.ni.one
 have hfr:=M.fr
 obtain ⟨e,d1,d2,d3⟩:=M.mi.k3 h3
 have key:∀ {s':Step} {g':Gh} {a':AN},SI c0 L T v s' g' a'->(∃ q b,g'.V v s'.n.kept.term m.from_ q b)->SI c0 L T v (zaR s' (zjp m true)) g' a':=fun {s' g' a'} h' hV=>by
  refine h'.send (MOk.voted M.ok) ⟨fun e=>absurd e (by show ¬ (4:Int)=3;decide),fun _ _=>?_,fun e=>absurd e (by show ¬ (4:Int)=5;decide),fun e=>absurd e (by show ¬ (4:Int)=6;decide),fun e=>absurd e (by show ¬ (4:Int)=7;decide)⟩ (.inl rfl) (by show (0:Int)<=_;omega)
  show ∃ q b,g'.V s'.n.id (if (0:Int)=0 then s'.n.kept.term else 0) m.from_ q b
  rw [if_pos rfl,h'.id.1]
  exact hV
 unfold zc6
 by_cases hok:zf4 s m=true
 ·have hok':=hok
  unfold zf4 zeM zlg at hok'
  simp only [Bool.and_eq_true,Bool.or_eq_true,beq_iff_eq,decide_eq_true_eq] at hok'
  obtain ⟨⟨o1,o2⟩,o3,o4⟩:=hok'
  have hl:=ab.last (by omega)
  rw [hl] at o4
  have hn:Newer e a.log:=by
   unfold Newer
   rcases o4 with o | ⟨o,o'⟩
   ·exact .inl (by rw [<- d3];exact o)
   ·have o':(a.log.length:Int)+1<=m.index:=o'
    exact .inr ⟨by rw [<- d3];exact o.symm,by omega⟩
  have hD:g.D a.term m.from_ e:=by rw [ab.term,<- o1];exact d1
  by_cases hv:s.n.kept.vote=0
  ·have e2:zep s m=⟨{s.n with kept:={s.n.kept with vote:=m.from_},elapsed:=0},{s.o with records:=s.o.records++[zcZ s.n.kept.term m.from_]}⟩:=by
    unfold zep ze7
    rw [hok,hv,if_pos rfl]
    rfl
   obtain ⟨g',a1,a2,a3,a4,q,b,a5⟩:=zo1 h.gi h.ni hv0 (c:=m.from_) (by omega) (ab.vote.trans hv) hD hn (n':={a with vote:=m.from_}) rfl rfl rfl rfl rfl rfl
   have h2:SI c0 L T v (zep s m) g' {a with vote:=m.from_}:=by
    rw [e2]
    refine ⟨a1,a3,⟨ab.term,rfl,ab.role,ab.yes,ab.com,ab.idx,?_,ab.mat⟩,h.id,h.ext_ms a2,fun t x hx=>?_,hbl,hbt,h.pe⟩
    ·obtain ⟨j,j1,hk⟩:=ab.kept
     exact ⟨j,j1,hk.le,hk.si,hk.en,hk.st,hk.sc⟩
    ·rw [a4] at hx
     exact h.be t x hx
   rw [hok]
   exact ⟨g',_,key h2 ⟨q,b,by rw [<- h2.ab.term];exact a5⟩,a2⟩
  ·have hvf:s.n.kept.vote=m.from_:=o2.resolve_left hv
   have e2:zep s m=⟨{s.n with elapsed:=0},s.o⟩:=by
    unfold zep ze7
    rw [hok,beq_eq_false_iff_ne.2 hv]
    rfl
   have h2:SI c0 L T v (zep s m) g a:=by
    rw [e2]
    exact h.same rfl rfl rfl rfl rfl rfl rfl
   rw [hok]
   refine ⟨g,a,key h2 ?_,Ext.refl _ _⟩
   rw [<- h2.ab.term,<- hvf,<- ab.vote]
   exact h.ni.W (by rw [ab.vote];exact hv)
 ·have hok:zf4 s m=false:=Bool.eq_false_iff.2 hok
  have e2:zep s m=s:=by
   unfold zep ze7
   rw [hok]
   rfl
  rw [e2,hok]
  refine (h.send (MOk.voted M.ok) ⟨fun e=>absurd e (by show ¬ (4:Int)=3;decide),fun _ e=>absurd e (by show ¬ false=true;decide),fun e=>absurd e (by show ¬ (4:Int)=5;decide),fun e=>absurd e (by show ¬ (4:Int)=6;decide),fun e=>absurd e (by show ¬ (4:Int)=7;decide)⟩ (.inl rfl) (by show (0:Int)<=_;omega)).res
theorem MI.no6 {i:Int} {s:Step}:MI c0 g (msgS s (zbT m false i)):=
 ⟨fun e=>absurd e (by show ¬ (6:Int)=3;decide),fun e=>absurd e (by show ¬ (6:Int)=4;decide),fun e=>absurd e (by show ¬ (6:Int)=5;decide),fun _ e=>absurd e (by show ¬ false=true;decide),fun e=>absurd e (by show ¬ (6:Int)=7;decide)⟩
theorem SI.no6 (h:SI c0 L T v s g a) (K:MOk m) {i:Int} (hi:I64 i):SI c0 L T v (zaR s (zbT m false i)) g a:=by
 have hbt:=h.bt
 have hone:=h.ni.one
 exact h.send (MOk.appd K hi) MI.no6 (.inl rfl) (by show (0:Int)<=_;omega)
theorem SI.yes6 (h:SI c0 L T v s g a) (K:MOk m) (hL:L<=9000) {q:za0} {x:El} (hx:g.el a.term=some x) (hq:q <+: x.l) (hl:q <+: a.log) {i:Int} (hi:i=q.length+1):Res c0 L T v (zaR s (zbT m true i)) g:=by
 have hbt:=h.bt
 have hone:=h.ni.one
 have ab:=h.ab
 obtain ⟨g',a1,a2,a3,a4,a5⟩:=znl h.gi h.ni hx hq hl
 have h1:SI c0 L T v s g' a:=⟨a1,a3,ab,h.id,h.ext_ms a2,fun t x hx=>by rw [a4] at hx;exact h.be t x hx,h.bl,hbt,h.pe⟩
 have hql:=zaH hl
 have hbl:=h.bl
 refine ⟨g',a,h1.send (MOk.appd K ⟨by omega,by omega⟩) ⟨fun e=>absurd e (by show ¬ (6:Int)=3;decide),fun e=>absurd e (by show ¬ (6:Int)=4;decide),fun e=>absurd e (by show ¬ (6:Int)=5;decide),fun _ _=>⟨q,?_,hi⟩,fun e=>absurd e (by show ¬ (6:Int)=7;decide)⟩ (.inl rfl) (by show (0:Int)<=_;omega),a2⟩
 show g'.K s.n.id (if (0:Int)=0 then s.n.kept.term else 0) q
 rw [if_pos rfl,h.id.1,<- ab.term]
 exact a5
theorem SI.follow (h:SI c0 L T v s g a) (K:MOk m) (ht:m.term<=s.n.kept.term):(za2 s m=false/\Res c0 L T v (zab s m) g)\/(za2 s m=true/\∃ a',SI c0 L T v (zab s m) g a'/\a'.role=1/\a'.term=m.term/\a'.log=a.log/\a'.com=a.com/\(zab s m).n.peers=[]):=by
 have hter:=h.ab.term
 have hbt:=h.bt
 unfold za2 zab
 by_cases h1:m.term<s.n.kept.term
 ·rw [if_pos h1,decide_eq_true h1]
  exact .inl ⟨rfl,(h.no6 K zcJ).res⟩
 ·rw [if_neg h1,decide_eq_false h1]
  by_cases h4:s.n.role=4
  ·rw [if_pos h4,h4]
   exact .inl ⟨rfl,h.res⟩
  ·rw [if_neg h4,bne_iff_ne.2 h4]
   obtain ⟨a',f1,f2,f3,f4,f5⟩:=h.fall (t:=s.n.kept.term) ⟨by omega,by omega⟩
   rw [if_neg (by omega)] at f5
   refine .inr ⟨rfl,a',f1.same rfl rfl rfl rfl rfl rfl rfl,f4,by omega,f2,f3,rfl⟩
theorem SI.sure_in (h:SI c0 L T v s g a) {x:El} (hx:g.el a.term=some x):a.log.take a.com <+: x.l:=by
 rcases h.ni.sure with e | ⟨c,a1,a2,a3⟩
 ·rw [e];simp
 ·exact a3.trans (zmh h.gi.H h.gi.L h.gi.M h.gi.one a1 hx a2)
theorem SI.same_at (h:SI c0 L T v s g a) {t:Int} {x:El} (hx:g.el t=some x) {k:Nat} (h1:k<=a.log.length) (h2:k<=x.l.length) (ht:zbw (a.log.take k)=zbw (x.l.take k)):a.log.take k=x.l.take k:=by
 rcases Nat.eq_zero_or_pos k with rfl | hk
 ·simp
 ·rw [zb0 hk h1,zb0 hk h2] at ht
  have:=h.ni.val.match_ (h.gi.H.led hx) (k:=k-1) (by omega) (by omega) ht
  rwa [show k-1+1=k by omega] at this
theorem SI.sure (h:SI c0 L T v s g a) {x:El} {t i:Int} (hS:SureTo g t x.l i) (ht:t<=a.term) {k:Nat} (hk:(k:Int)+1<=i) (hl:k<=a.log.length) (he:a.log.take k=x.l.take k) (hc:a.com<=k) (hr:s.n.role=1) {s':Step} (e1:s'.n={s.n with commit:=(k:Int)+1}) (e2:s'.o.messages=s.o.messages):SI c0 L T v s' g {a with com:=k}:=by
 have ab:=h.ab
 obtain ⟨j,j1,j2,j3⟩:=hS
 refine ⟨h.gi,h.ni.more rfl rfl rfl rfl rfl rfl hl ?_,?_,by rw [e1];exact h.id,by rw [e2];exact h.ms,h.be,h.bl,h.bt,by rw [e1];exact h.pe⟩
 ·rcases j3 with j3 | ⟨c,c1,c2,c3⟩
  ·exact .inl (by show k=0;omega)
  ·refine .inr ⟨c,c1,by omega,?_⟩
   show a.log.take k <+: c.p
   rw [he]
   exact (zbx (by omega)).trans c3
 ·rw [e1]
  obtain ⟨q,q1,hq⟩:=ab.kept
  exact ⟨ab.term,ab.vote,ab.role,ab.yes,rfl,ab.idx,⟨q,by show q<=k;omega,hq⟩,ab.mat⟩
end
end Ag
end Go.Proofs.YtkhphiahindnnaaGreat
namespace Go.Proofs.YtkhphiahindnnaaGreat
namespace Ag
section
variable {c0 : Config} {L : Nat} {T v : Int} {s : Step} {g : Gh} {a : AN} {m : Message}
theorem KAbs.cut {k:Kept} {log:za0} {q j:Nat} (h:KAbs c0 k log q) (h1:q<=j) (h2:j<=log.length) {sn:Snap} (e1:sn.index=j+1) (e2:sn.term=zbw (log.take j)) (e3:sn.config=cfg0 c0 (log.take j)):KAbs c0 {k with entries:=k.entries.drop (j-q),snap:=sn} log j:=
 ⟨h2,e1,by show k.entries.drop (j-q)=_;rw [h.en,List.drop_drop];congr 1;omega,e2,e3⟩
theorem SI.snapT (h:SI c0 L T v s g a) (hL:L<=8000) (M:MI c0 g m) (K:MOk m) (h7:m.kind=7) (hr:s.n.role=1) (hp:s.n.peers=[]) (ht:a.term=m.term) (hc:s.n.commit<m.snap.index):Res c0 L T v (snapT s m) g:=by
 have ab:=h.ab
 have hbl:=h.bl
 obtain ⟨x,k,x1,x2,x3,x4,x5⟩:=M.k7 h7
 rw [<- ht] at x1 x5
 have hcm:=ab.com
 have hkc:a.com<k:=by omega
 have hsin:=h.sure_in x1
 have hxb:=h.be _ _ x1
 have hkx:k<=x.l.length:=by
  have x5':=x5
  obtain ⟨j,j1,j2,_⟩:=x5'
  omega
 obtain ⟨q,q1,hk⟩:=ab.kept
 have ho:=ab.on (by omega)
 have hco:=h.ni.com
 have hw:IntKind.i64.wrap (m.snap.index-s.n.kept.snap.index)=((k-q:Nat):Int):=by
  rw [hk.si,x2,zaD ⟨by omega,by omega⟩]
  omega
 by_cases hm:(zau s.n.kept m.snap.index).2=0/\(zau s.n.kept m.snap.index).1=m.snap.term
 ·obtain ⟨i,i1,i2,i3⟩:=hk.term_in hm.1
  have hik:i=k:=by omega
  subst hik
  have hm2:=hm.2
  rw [x2,hk.term ho i2 i3,x3] at hm2
  have hsame:=h.same_at x1 i3 hkx hm2
  have e1:(recS s (zb7 m)).n={s.n with kept:={s.n.kept with entries:=s.n.kept.entries.drop (i-q),snap:=m.snap}}:=by
   show {s.n with kept:={s.n.kept with entries:=(if (zau s.n.kept m.snap.index).2=0/\(zau s.n.kept m.snap.index).1=m.snap.term then s.n.kept.entries.drop (IntKind.i64.wrap (m.snap.index-s.n.kept.snap.index)).toNat else []),snap:=m.snap}}=_
   rw [if_pos hm,hw,Int.toNat_natCast]
  have h1:SI c0 L T v (comS (recS s (zb7 m)) m.snap.index) g {a with com:=i}:=by
   have hS:=h.sure x5 (Int.le_refl _) (k:=i) (by omega) i3 hsame (by omega) hr (s':=comS s (i+1)) rfl rfl
   refine ⟨h.gi,hS.ni,?_,by show IdOk (recS s (zb7 m)).n v;rw [e1];exact ⟨h.id.1,h.id.2.1,h.id.2.2.1,K.sd,h.id.2.2.2.2⟩,h.ms,h.be,hbl,h.bt,by show ∀ p,p∈(recS s (zb7 m)).n.peers->_;rw [e1];exact h.pe⟩
   show Abs c0 {(recS s (zb7 m)).n with commit:=m.snap.index} _
   rw [e1]
   exact ⟨ab.term,ab.vote,ab.role,ab.yes,x2,ab.idx,⟨i,Nat.le_refl _,hk.cut i2 i3 x2 (by rw [hsame];exact x3) (by rw [hsame];exact x4)⟩,ab.mat⟩
  exact h1.yes6 K (by omega) (q:=x.l.take i) x1 (zar _ _) (by rw [<- hsame];exact zar _ _) (by rw [List.length_take,x2];omega)
 ·have hno:¬ x.l.take k <+: a.log:=fun hpre=>by
   have hl:=zaH hpre
   rw [List.length_take] at hl
   have e:=zbq hpre
   rw [List.length_take,show min k x.l.length=k by omega] at e
   apply hm
   rw [x2,hk.term ho (by omega) (by omega)]
   exact ⟨rfl,by rw [<- e,x3]⟩
  have e1:(recS s (zb7 m)).n={s.n with kept:={s.n.kept with entries:=[],snap:=m.snap}}:=by
   show {s.n with kept:={s.n.kept with entries:=(if (zau s.n.kept m.snap.index).2=0/\(zau s.n.kept m.snap.index).1=m.snap.term then s.n.kept.entries.drop (IntKind.i64.wrap (m.snap.index-s.n.kept.snap.index)).toNat else []),snap:=m.snap}}=_
   rw [if_neg hm]
  obtain ⟨hn,hn2⟩:=zia h.gi h.ni x1 (zar x.l k) hno (n':=⟨a.term,a.vote,x.l.take k,a.com,1,a.yes,a.mat⟩) rfl rfl rfl rfl rfl
  have hl:(x.l.take k).length=k:=by rw [List.length_take];omega
  have hn3:NI g v ⟨a.term,a.vote,x.l.take k,k,1,a.yes,a.mat⟩:=hn.more rfl rfl rfl rfl rfl rfl (by show k<=(x.l.take k).length;omega) (by
   obtain ⟨j,j1,j2,j3⟩:=x5
   have hjk:j=k:=by omega
   subst hjk
   rcases j3 with j3 | ⟨c,c1,c2,c3⟩
   ·exact .inl j3
   ·exact .inr ⟨c,c1,c2,by show (x.l.take j).take j <+: c.p;rw [List.take_take,Nat.min_self];exact c3⟩)
  have h1:SI c0 L T v (comS (recS s (zb7 m)) m.snap.index) g ⟨a.term,a.vote,x.l.take k,k,1,a.yes,a.mat⟩:=by
   refine ⟨h.gi,hn3,?_,by show IdOk (recS s (zb7 m)).n v;rw [e1];exact ⟨h.id.1,h.id.2.1,h.id.2.2.1,K.sd,h.id.2.2.2.2⟩,h.ms,h.be,by show (x.l.take k).length<=L;omega,h.bt,by show ∀ p,p∈(recS s (zb7 m)).n.peers->_;rw [e1];show ∀ p,p∈s.n.peers->_;rw [hp];intro p hp;cases hp⟩
   show Abs c0 {(recS s (zb7 m)).n with commit:=m.snap.index} _
   rw [e1]
   refine ⟨ab.term,ab.vote,hr.symm,ab.yes,x2,fun i hi=>?_,⟨k,Nat.le_refl _,⟨by show k<=(x.l.take k).length;omega,x2,?_,?_,?_⟩⟩,fun e=>by have e:s.n.role=4:=e;omega⟩
   ·have hi:i<(x.l.take k).length:=hi
    show ((x.l.take k).getD i default).index=_
    rw [za7 (zar _ _) hi]
    exact hxb.2.1 i (by omega)
   ·show []=(x.l.take k).drop k
    rw [List.drop_eq_nil_of_le (by omega)]
   ·show m.snap.term=zbw ((x.l.take k).take k)
    rw [List.take_take,Nat.min_self];exact x3
   ·show m.snap.config=cfg0 c0 ((x.l.take k).take k)
    rw [List.take_take,Nat.min_self];exact x4
  exact h1.yes6 K (by omega) (q:=x.l.take k) x1 (zar _ _) (List.prefix_refl _) (by rw [hl,x2])
theorem SI.hears7 (h:SI c0 L T v s g a) (hL:L<=8000) (M:MI c0 g m) (K:MOk m) (h7:m.kind=7) (ht:m.term<=s.n.kept.term):Res c0 L T v (zb3 s m) g:=by
 unfold zb3
 rcases h.follow K ht with ⟨e,f⟩ | ⟨e,a',f1,f2,f3,f4,f5,f6⟩
 ·rw [e];exact f
 ·rw [e,if_pos rfl]
  split
  ·rename_i hc
   exact f1.snapT hL M K h7 (by rw [<- f1.ab.role];exact f2) f6 f3 hc
  ·obtain ⟨x,k,x1,_⟩:=M.k7 h7
   rw [<- f3] at x1
   have hco:=f1.ni.com
   exact f1.yes6 K (by omega) x1 (f1.sure_in x1) (zar _ _) (by rw [f1.ab.com,List.length_take];omega)
theorem SI.mergeT (h:SI c0 L T v s g a) (hL:L<=8000) (M:MI c0 g m) (K:MOk m) (h5:m.kind=5) (hr:s.n.role=1) (hp:s.n.peers=[]) (ht:a.term=m.term) (hko:s.n.kept.Ok):Res c0 L T v (mergeT s m) g:=by
 have hmo:=K.ok
 have h8:=K.ents.1
 unfold Go.Proofs.YtkhphiahindnnaaGreat.mergeT
 split
 ·refine (h.no6 K ?_).res
  have hl:=h.ab.last (by have:=h.bl;omega)
  have hbl:=h.bl
  have hw:∀ x:Int,I64 (IntKind.i64.wrap x):=fun x=>by rw [IntKind.wrap_i64];exact ⟨by omega,by omega⟩
  have h1:=hw (m.index-1)
  rw [hl]
  show I64 (max 0 (min (IntKind.i64.wrap (m.index-1)) ((a.log.length:Int)+1)))
  have h2:=h1.1
  have h3:=h1.2
  exact ⟨by omega,by omega⟩
 rename_i g2
 split
 ·exact h.res
 rename_i g3
 have ab:=h.ab
 have hbl:=h.bl
 obtain ⟨x,k,x1,x2,x3,x4,x5,x6⟩:=M.k5 h5
 rw [<- ht] at x1 x6
 have hcm:=ab.com
 have hco:=h.ni.com
 have hsin:=h.sure_in x1
 have hxb:=h.be _ _ x1
 obtain ⟨sn,q1,hk⟩:=ab.kept
 have hsi:=hk.si
 have hkl:=hk.len
 have hkle:=hk.le
 have ho:=ab.on (by omega)
 have g2:zbf s.n.kept m.index m.logTerm m.entries=0:=Classical.not_not.1 g2
 have MM:MH s.n.kept m.index m.logTerm m.entries:=MH.of g2 hmo.index hmo.entries.2 (by omega)
 have hL':mgL s m=zaI s.n.kept m.entries:=by unfold mgL zbc;rw [if_pos g2]
 have eX:recsS s (mgL s m)=⟨{s.n with kept:=xK s.n.kept m.entries (nK s.n.kept m.entries).length},{s.o with records:=s.o.records++mgL s m}⟩:=by
  have:=MM.recsS hko s rfl (j:=(zaI s.n.kept m.entries).length) (Nat.le_refl _)
  rw [List.take_length,MM.st_end] at this
  rw [hL',this]
 rw [eX]
 have hlast:=MM.last
 have hka:k<=a.log.length:=by omega
 have hcx:a.com<=x.l.length:=by
  have:=zaH hsin
  rw [List.length_take] at this
  omega
 have hcs:a.log.take a.com=x.l.take a.com:=by
  have:=zbq hsin
  rw [List.length_take,show min a.com a.log.length=a.com by omega] at this
  exact this
 have hlow:∀ {j:Nat},j<=a.com->a.log.take j=x.l.take j:=fun {j} hj=>zeA hcs hj
 -- ahead of the entries
 have hahead:a.log.take k=x.l.take k:=by
  rcases Nat.lt_or_ge k sn with hlt | hge
  ·exact hlow (by omega)
  ·refine h.same_at x1 hka (by omega) ?_
   have hb:=MM.bad
   unfold badB at hb
   rw [Bool.or_eq_false_iff,Bool.and_eq_false_iff] at hb
   have hb2:=hb.2.resolve_left (by rw [decide_eq_true (by omega)];decide)
   rw [zdz,x2,hk.term ho hge hka] at hb2
   have:zbw (a.log.take k)=m.logTerm:=by
    have:=bne_eq_false_iff_eq.1 hb2
    exact this
   rw [this,x4]
 have hat:∀ {i:Nat},i<m.entries.length->m.entries.getD i default=x.l.getD (k+i) default:=fun {i} hi=>by
  rw [x5,za7 (zar _ _) (by rw [<- x5];exact hi),zdm]
 -- those that are no news
 have hold:∀ {i:Nat},i<m.entries.length->zbr s.n.kept (m.entries.getD i default)=false->k+i<a.log.length/\a.log.take (k+i+1)=x.l.take (k+i+1):=fun {i} hi hf=>by
  have hidx:=MM.idx hi
  by_cases hs:s.n.kept.snap.index<(m.entries.getD i default).index
  ·have hold:=MM.old hf hs
   rw [zdz] at hold
   obtain ⟨j,j1,j2,j3⟩:=hk.term_in (i:=(m.entries.getD i default).index) (by rw [hold])
   have hj:j=k+i+1:=by omega
   subst hj
   refine ⟨by omega,h.same_at x1 j3 (by omega) ?_⟩
   rw [hidx,show m.index+1+(i:Int)=((k+i+1:Nat):Int)+1 by omega,hk.term ho j2 j3] at hold
   have hold:=congrArg Prod.fst hold
   have hold:zbw (a.log.take (k+i+1))=(m.entries.getD i default).term:=hold
   rw [hold,hat hi,zb0 (by omega) (by omega)]
   rfl
  ·refine ⟨by omega,hlow (by omega)⟩
 have hxs:∀ {j:Nat},j<=a.com->j<=x.l.length:=fun {j} hj=>by omega
 -- what it has behind the step
 have hq:∃ a',NI g v a'/\a'.term=a.term/\a'.vote=a.vote/\a'.role=1/\a'.yes=a.yes/\a'.mat=a.mat/\a'.com=a.com/\x.l.take (max sn (k+m.entries.length)) <+: a'.log/\max sn (k+m.entries.length)<=x.l.length/\a'.log.length<=L/\(∀ j,j<a'.log.length->(a'.log.getD j default).index=j+2)/\KAbs c0 (xK s.n.kept m.entries (nK s.n.kept m.entries).length) a'.log sn:=by
  rcases zaG s.n.kept m.entries with hf | ⟨f,hf1,hf⟩
  ·obtain ⟨b1,b2,b3⟩:=zdD hf
   refine ⟨a,h.ni,rfl,rfl,ab.role.trans hr,rfl,rfl,rfl,?_,?_,hbl,ab.idx,?_⟩
   ·have hall:a.log.take (k+m.entries.length)=x.l.take (k+m.entries.length):=by
     rcases Nat.eq_zero_or_pos m.entries.length with e | e
     ·rw [e];exact hahead
     ·have:=(hold (i:=m.entries.length-1) (by omega) (zfx hf (by omega))).2
      rwa [show k+(m.entries.length-1)+1=k+m.entries.length by omega] at this
    rcases Nat.le_total sn (k+m.entries.length) with e | e
    ·rw [Nat.max_eq_right e,<- hall];exact zar _ _
    ·rw [Nat.max_eq_left e,<- hlow q1];exact zar _ _
   ·have:=hxs q1
    omega
   ·refine ⟨hkle,hsi,?_,hk.st,hk.sc⟩
    show s.n.kept.entries.take (mK s.n.kept m.entries)++(nK s.n.kept m.entries).take (nK s.n.kept m.entries).length=_
    rw [b1,b2,List.take_length,List.take_nil,List.append_nil]
    exact hk.en
  ·obtain ⟨b1,b2,b3,b4⟩:=MM.mK_eq hf hf1
   have hfresh:=zdK hf
   have hgt:=zkk hfresh
   have hidx:=MM.idx hf1
   have hsk:sn<=k+f:=by omega
   have hpre:a.log.take (k+f)=x.l.take (k+f):=by
    rcases Nat.eq_zero_or_pos f with e | e
    ·rw [e];exact hahead
    ·have:=(hold (i:=f-1) (by omega) (zdi hf (by omega))).2
     rwa [show k+(f-1)+1=k+f by omega] at this
   have hmk:mK s.n.kept m.entries=k+f-sn:=by omega
   have hno:¬ x.l.take (k+m.entries.length) <+: a.log:=fun hpr=>by
    have hl:=zaH hpr
    rw [List.length_take,show min (k+m.entries.length) x.l.length=k+m.entries.length by omega] at hl
    have e:=zbq hpr
    rw [List.length_take,show min (k+m.entries.length) x.l.length=k+m.entries.length by omega] at e
    have e:=zeA e (show k+f+1<=k+m.entries.length by omega)
    rw [zkj hgt,zdz,hidx,show m.index+1+(f:Int)=((k+f+1:Nat):Int)+1 by omega,hk.term ho (by omega) (by omega),<- e,zb0 (by omega) (by omega),hat hf1] at hfresh
    have:k+f+1-1=k+f:=by omega
    rw [this] at hfresh
    simp at hfresh
   obtain ⟨hn,hn2⟩:=zia h.gi h.ni x1 (zar x.l (k+m.entries.length)) hno (n':=⟨a.term,a.vote,x.l.take (k+m.entries.length),a.com,1,a.yes,a.mat⟩) rfl rfl rfl rfl rfl
   have hlen:(x.l.take (k+m.entries.length)).length=k+m.entries.length:=by rw [List.length_take];omega
   refine ⟨_,hn,rfl,rfl,rfl,rfl,rfl,rfl,?_,by omega,by show (x.l.take (k+m.entries.length)).length<=L;omega,fun j hj=>?_,⟨by show sn<=(x.l.take _).length;omega,hsi,?_,?_,?_⟩⟩
   ·rw [Nat.max_eq_right (by omega)]
    exact List.prefix_refl _
   ·have hj:j<(x.l.take (k+m.entries.length)).length:=hj
    show ((x.l.take (k+m.entries.length)).getD j default).index=_
    rw [za7 (zar _ _) hj]
    exact hxb.2.1 j (by omega)
   ·show s.n.kept.entries.take (mK s.n.kept m.entries)++(nK s.n.kept m.entries).take (nK s.n.kept m.entries).length=(x.l.take (k+m.entries.length)).drop sn
    rw [List.take_length,hmk,b4,hk.en]
    have e1:(a.log.drop sn).take (k+f-sn)=(x.l.drop sn).take (k+f-sn):=by
     have:=congrArg (List.drop sn) hpre
     rwa [List.drop_take,List.drop_take] at this
    have e2:m.entries.drop f=((x.l.drop sn).drop (k+f-sn)).take (m.entries.length-f):=by
     conv=>lhs;rw [x5]
     rw [List.drop_take,List.drop_drop,List.drop_drop]
     congr 2
     omega
    rw [e1,e2,List.drop_take]
    have e3:=List.take_append_drop (k+f-sn) ((x.l.drop sn).take (k+m.entries.length-sn))
    rw [List.take_take,List.drop_take,show min (k+f-sn) (k+m.entries.length-sn)=k+f-sn by omega,show k+m.entries.length-sn-(k+f-sn)=m.entries.length-f by omega] at e3
    exact e3
   ·show s.n.kept.snap.term=zbw ((x.l.take (k+m.entries.length)).take sn)
    rw [List.take_take,Nat.min_eq_left (by omega),<- hlow q1]
    exact hk.st
   ·show s.n.kept.snap.config=cfg0 c0 ((x.l.take (k+m.entries.length)).take sn)
    rw [List.take_take,Nat.min_eq_left (by omega),<- hlow q1]
    exact hk.sc
 obtain ⟨a',n1,n2,n3,n4,n5,n6,n7,n8,n9,n10,n11,n12⟩:=hq
 obtain ⟨s1,hs1⟩:∃ s1:Step,s1=⟨{s.n with kept:=xK s.n.kept m.entries (nK s.n.kept m.entries).length},{s.o with records:=s.o.records++mgL s m}⟩:=⟨_,rfl⟩
 have h1:SI c0 L T v s1 g a':=by
  rw [hs1]
  exact ⟨h.gi,n1,⟨n2.trans ab.term,n3.trans ab.vote,n4.trans hr.symm,n5.trans ab.yes,by rw [n7];exact hcm,n11,⟨sn,by omega,n12⟩,fun e=>by have e:s.n.role=4:=e;omega⟩,h.id,h.ms,h.be,n10,by rw [n2];exact h.bt,by show ∀ p,p∈s.n.peers->_;rw [hp];intro p hp;cases hp⟩
 have eN:mgN s m=((max sn (k+m.entries.length):Nat):Int)+1:=by
  have e1:IntKind.i64.wrap (m.index+m.entries.length)=m.index+m.entries.length:=zaD ⟨by omega,by omega⟩
  unfold mgN zcm
  rw [if_pos g2,e1]
  split<;>omega
 rw [<- hs1,eN]
 have hc1:s1.n.commit=a.com+1:=by rw [hs1];exact hcm
 rw [hc1]
 have hr1:s1.n.role=1:=by rw [hs1];exact hr
 have hlen1:=zaH n8
 rw [List.length_take,show min (max sn (k+m.entries.length)) x.l.length=max sn (k+m.entries.length) by omega] at hlen1
 have hsame:∀ {j:Nat},j<=max sn (k+m.entries.length)->a'.log.take j=x.l.take j:=fun {j} hj=>by
  have e:=zbq n8
  rw [List.length_take,show min (max sn (k+m.entries.length)) x.l.length=max sn (k+m.entries.length) by omega] at e
  exact (zeA e hj).symm
 have h2:∃ a2,SI c0 L T v (comS s1 (max ((a.com:Int)+1) (min m.commit (((max sn (k+m.entries.length):Nat):Int)+1)))) g a2/\a2.log=a'.log/\a2.term=a.term:=by
  by_cases hle:min m.commit (((max sn (k+m.entries.length):Nat):Int)+1)<=(a.com:Int)+1
  ·rw [show max ((a.com:Int)+1) (min m.commit (((max sn (k+m.entries.length):Nat):Int)+1))=(a.com:Int)+1 by omega]
   exact ⟨a',h1.same rfl rfl rfl hc1.symm rfl rfl rfl,rfl,n2⟩
  ·have x6':=x6
   obtain ⟨j,j1,j2,-⟩:=x6'
   have hd:max ((a.com:Int)+1) (min m.commit (((max sn (k+m.entries.length):Nat):Int)+1))=((min j (max sn (k+m.entries.length)):Nat):Int)+1:=by omega
   rw [hd]
   have z1:((min j (max sn (k+m.entries.length)):Nat):Int)+1<=m.commit:=by omega
   have z2:min j (max sn (k+m.entries.length))<=a'.log.length:=by omega
   have z3:a'.com<=min j (max sn (k+m.entries.length)):=by rw [n7];omega
   exact ⟨_,h1.sure x6 (by rw [n2];exact Int.le_refl _) z1 z2 (hsame (Nat.min_le_right _ _)) z3 hr1 (s':=comS s1 _) rfl rfl,rfl,n2⟩
 obtain ⟨a2,k1,k2,k3⟩:=h2
 exact k1.yes6 K (by omega) (q:=x.l.take (max sn (k+m.entries.length))) (by rw [k3];exact x1) (zar _ _) (by rw [k2];exact n8) (by rw [List.length_take];omega)
theorem SI.hears5 (h:SI c0 L T v s g a) (hL:L<=8000) (M:MI c0 g m) (K:MOk m) (h5:m.kind=5) (ht:m.term<=s.n.kept.term) (hko:s.n.kept.Ok):Res c0 L T v (zbv s m) g:=by
 unfold zbv
 rcases h.follow K ht with ⟨e,f⟩ | ⟨e,a',f1,f2,f3,f4,f5,f6⟩
 ·rw [e];exact f
 ·rw [e,if_pos rfl]
  exact f1.mergeT hL M K h5 (by rw [<- f1.ab.role];exact f2) f6 f3 (by rw [zbY];exact hko)
end
end Ag
end Go.Proofs.YtkhphiahindnnaaGreat
