/- Parts of the proof, joined: the symbolic walk and what it is told of each function. Condition: as each theorem says. -/
import Derived.Test.YteabcgkjbnecaaaGreatJz4
set_option linter.unusedVariables false
set_option linter.unusedSimpArgs false
set_option linter.unusedSectionVars false
namespace Go.Proofs.YteabcgkjbnecaaaGreat
open Go.RowKit Go.ChangeShapes Go.WideShapes Go.Deep
set_option maxRecDepth 100000
noncomputable def tabQ:List Ent:=[zia,ze8,eOnC,eRIs,zsx,zwx]
theorem zhv:∀ e∈tabQ,zaf Tryz.prog e:=zaa zfN (zaa zcy (zaa zkE (zaa zic (zaa zib (zaa zsw zad)))))
theorem ziG (n:Node) (hn:SmallN n):FnC Tryz.prog 67 [dNode.can n] (.bool (zbp n)) D2:=by
 refine FnC.g1 dNode n (fnB Tryz.func67 (by decide) rfl) fun hk=>?_
 refine FnG.of_vc (zaj zhv fun _=>none) Tryz.func67 rfl (by decide) rfl 300 (p:=fun (V:List PE→Prop)=>let v1:=(↑(n.peers.length):Int) != (↑(List.length (zam n)):Int);let v2:=zac v1 true (decide ((↑(n.reads.length):Int)>100));True∧(SmallN n∧True)∧True∧(((!v1)=true→(!v1)=true)∧((!v1)=true→(!v1)=true)∧((!v1)=true→(!v1)=true)∧(v1=false→(!v1)=true)∧True)∧True∧(v2=true→True∧false=zbp n∧True)∧(v2=false→True∧V [PE.b])) (by kernel_rfl) ?_
 simp only [qN0,qN2,imp_self,implies_true,true_and,and_true,zae,zag]
 have hol:=(zcE (za0 n)).2
 have hol2:(zam n).length≤16:=Nat.le_trans (List.length_filter_le _ _) hol
 have hpl:=hn.peers
 refine ⟨hn,fun h=>by rw [h];rfl,fun h=>?_,fun h=>?_⟩
 ·unfold zbp
  simp only [Bool.or_eq_true,bne_iff_ne,ne_eq,decide_eq_true_eq] at h
  rcases h with h | h
  ·have:¬ n.peers.map (·.node)=zam n:=fun e=>h (by rw [← e];simp)
   simp [this]
  ·have:¬ n.reads.length≤100:=by omega
   simp [this]
 have hle:n.peers.length=(zam n).length:=by
  simp only [Bool.or_eq_false_iff,bne_eq_false_iff_eq] at h;omega
 have hr100:n.reads.length≤100:=by
  simp only [Bool.or_eq_false_iff,decide_eq_false_iff_not] at h;omega
 have hbad:∀ j,j<n.peers.length→((n.peers.getD j default).node==(zam n).getD j 0&&zbK (zal n.kept).1 n.round (n.peers.getD j default))=false→zbp n=false:=by
  intro j hj hb
  cases hp:zbp n
  ·rfl
  ·exfalso
   unfold zbp at hp
   simp only [Bool.and_eq_true,decide_eq_true_eq,List.all_eq_true] at hp
   have h1:(n.peers.getD j default).node=(zam n).getD j 0:=by
    rw [← hp.1.1,zba hj,zba (by simpa using hj)];simp
   rw [h1,hp.2 _ (za8 hj)] at hb
   simp at hb
 refine LoopG.head (zaj zhv fun _=>none) 0 (A:=Nat) (fun j=>j≤(zam n).length∧∀ i,i<j→(n.peers.getD i default).node=(zam n).getD i 0∧zbK (zal n.kept).1 n.round (n.peers.getD i default)=true) (fun j=>[(6,.int .i64 j)]) (fun _=>[]) (fun j=>(zam n).length-j) 0 ⟨Nat.zero_le _,fun i h=>absurd h (by omega)⟩ (p0:=let v11:=Prod.fst (zal n.kept);(0:Int)=(↑(0:Nat):Int)∧v11=v11∧zam n=zam n∧qN0 n n (qN2 n n (n.reads=n.reads∧True))) (by kernel_rfl) ?_ 300 (p:=fun (x:Nat) (V:List PE→Prop)=>let v0:=(↑x:Int);let v1:=Prod.fst (zal n.kept);let v2:=(↑(List.length (zam n)):Int);let v3:=List.getD n.peers x default;let v7:=v3.node != List.getD (zam n) x (0:Int);let v8:=decide (v0<v2);let v9:=zac v7 true !wi v1 v3.match_;let v10:=zac v9 true (decide (v3.next≤v3.match_));let v11:=zac v10 true (decide ((IntKind.wrap IntKind.i64 (v3.next-(1:Int)))>v1));let v12:=zac v11 true !wi n.round v3.round;True∧True∧(v8=true→((0:Int)≤v0∧v0<(↑(n.peers.length):Int)∧True)∧((0:Int)≤v0∧v0<v2∧((!v7)=true→(!v7)=true)∧((!v7)=true→(!v7)=true)∧((!v7)=true→(!v7)=true)∧((!v7)=true→(!v7)=true)∧(v7=false→(!v7)=true)∧((!v9)=true→(!v9)=true)∧((!v9)=true→(!v9)=true)∧((!v9)=true→(!v9)=true)∧((!v9)=true→(!v9)=true)∧(v9=false→(!v9)=true)∧((!v10)=true→(!v10)=true)∧((!v10)=true→(!v10)=true)∧((!v10)=true→(!v10)=true)∧((!v10)=true→(!v10)=true)∧(v10=false→(!v10)=true)∧((!v11)=true→(!v11)=true)∧((!v11)=true→(!v11)=true)∧((!v11)=true→(!v11)=true)∧((!v11)=true→(!v11)=true)∧((!v11)=true→(!v11)=true)∧(v11=false→(!v11)=true)∧True)∧True∧(v12=true→True∧false=zbp n∧True)∧(v12=false→True∧V [PE.a,PE.b]))∧(v8=false→True∧true=zbp n∧True)) (by intro x;kernel_rfl) ?_
 ·simp
 rintro j ⟨hj,h0⟩
 simp only [qN0,qN2,imp_self,implies_true,true_and,and_true,decide_eq_true_eq,decide_eq_false_iff_not]
 refine ⟨fun h6=>?_,fun h6=>?_⟩
 ·have hb:=hbad j (by omega)
  unfold zbK at hb
  generalize hP:n.peers.getD j default=p at *
  have q1:decide (p.next≤p.match_)=!decide (p.next>p.match_):=by rw [Bool.eq_iff_iff];simp
  have q2:decide (IntKind.i64.wrap (p.next-1)>(zal n.kept).1)=!decide (IntKind.i64.wrap (p.next-1)≤(zal n.kept).1):=by rw [Bool.eq_iff_iff];simp
  simp only [bne,q1,q2]
  obtain ⟨x1,hx1⟩:∃ b,(p.node==(zam n).getD j 0)=b:=⟨_,rfl⟩
  obtain ⟨x2,hx2⟩:∃ b,wi (zal n.kept).1 p.match_=b:=⟨_,rfl⟩
  obtain ⟨x3,hx3⟩:∃ b,decide (p.next>p.match_)=b:=⟨_,rfl⟩
  obtain ⟨x4,hx4⟩:∃ b,decide (IntKind.i64.wrap (p.next-1)≤(zal n.kept).1)=b:=⟨_,rfl⟩
  obtain ⟨x5,hx5⟩:∃ b,wi n.round p.round=b:=⟨_,rfl⟩
  simp only [hx1,hx2,hx3,hx4,hx5] at hb ⊢
  refine ⟨by omega,⟨by omega,h6,?_⟩,fun h7=>?_,fun h7=>?_⟩
  ·cases x1<;>cases x2<;>cases x3<;>cases x4<;>simp [zac]
  ·refine (hb ?_).symm
   revert h7;cases x1<;>cases x2<;>cases x3<;>cases x4<;>cases x5<;>simp [zac]
  ·refine Back.mk (j+1) ⟨by omega,fun i hi=>?_⟩ (by omega) (p0:=let v11:=Prod.fst (zal n.kept);IntKind.wrap IntKind.i64 ((↑j:Int)+(1:Int))=(↑(j+(1:Nat)):Int)∧v11=v11∧zam n=zam n∧qN0 n n (qN2 n n (n.reads=n.reads∧True))) (by kernel_rfl) ?_
   ·by_cases hij:i=j
    ·subst hij
     have:(x1&&(x2&&x3&&x4&&x5))=true:=by
      revert h7;cases x1<;>cases x2<;>cases x3<;>cases x4<;>cases x5<;>simp [zac]
     rw [hP,zbK,hx2,hx3,hx4,hx5]
     simp only [Bool.and_eq_true] at this
     refine ⟨by simpa using hx1.trans this.1,by simp [this.2]⟩
    ·exact h0 i (by omega)
   ·simp [zbj (i:=j) (by omega)]
 ·have:zbp n=true:=by
   unfold zbp
   simp only [Bool.and_eq_true,decide_eq_true_eq,List.all_eq_true]
   refine ⟨⟨zmg (d:=0) (by simp;exact hle) fun i hi=>?_,hr100⟩,fun x hx=>?_⟩
   ·have hi2:i<n.peers.length:=by simpa using hi
    rw [← (h0 i (by omega)).1,zba hi,zba hi2];simp
   ·obtain ⟨i,hi,rfl⟩:=List.mem_iff_getElem.1 hx
    have:=(h0 i (by omega)).2
    rwa [zba hi] at this
  exact this.symm
theorem ziN (k:Kept):FnC Tryz.prog 66 [dKept.can k] (.bool (zb0 k)) D2:=by
 refine FnC.g1 dKept k (fnB Tryz.func66 (by decide) rfl) fun hk=>?_
 refine FnG.of_vc (zaj zhv fun _=>none) Tryz.func66 rfl (by decide) rfl 300 (p:=fun (V:List PE→Prop)=>True∧True∧V []) (by kernel_rfl) ?_
 simp only [imp_self,implies_true,true_and,and_true,zae,zag]
 have hc:zb0 k=(k.entries.all cfE&&mayC k.snap.config):=rfl
 rw [hc]
 refine LoopG.head (zaj zhv fun _=>none) 0 (A:=Nat) (fun j=>j≤k.entries.length∧(k.entries.take j).all cfE=true) (fun j=>[(3,.int .i64 j)]) (fun _=>[]) (fun j=>k.entries.length-j) 0 ⟨Nat.zero_le _,rfl⟩ (p0:=let v0:=k.snap;let v2:=v0.config;(0:Int)=(↑(0:Nat):Int)∧k.term=k.term∧k.vote=k.vote∧v0.index=v0.index∧v0.term=v0.term∧v2.voters=v2.voters∧v2.learners=v2.learners∧v0.data=v0.data∧k.entries=k.entries∧True) (by kernel_rfl) ?_ 300 (p:=fun (x:Nat) (V:List PE→Prop)=>let v0:=k.entries;let v1:=mayC k.snap.config;let v2:=(↑x:Int);let v3:=(↑(v0.length):Int);let v4:=List.getD v0 x default;let v5:=List.all v0 cfE&&v1;let v6:=v4.kind==2;let v7:=decide (v2<v3);let v8:=zac v6 (!mayC v4.config) false;True∧True∧(v7=true→((0:Int)≤v2∧v2<v3∧(v6=true→v6=true)∧(v6=true→v6=true)∧(v6=true→v6=true)∧(v6=true→(0:Int)≤v2)∧(v6=true→v2<v3)∧(v6=true→v6=true)∧(v6=true→v6=true)∧(v6=true→v6=true)∧(v6=true→v6=true)∧(v6=true→v6=true)∧True)∧True∧(v8=true→True∧false=v5∧True)∧(v8=false→True∧V [PE.a,PE.b]))∧(v7=false→True∧v1=v5∧True)) (by intro x;kernel_rfl) ?_
 ·simp
 rintro j ⟨hj,h0⟩
 have hkl:=hk.entries.1
 simp only [imp_self,implies_true,true_and,and_true,decide_eq_true_eq,decide_eq_false_iff_not]
 refine ⟨fun h6=>?_,fun h6=>?_⟩
 ·have hsn:=zel (d:=(default:Entry)) cfE (show j<k.entries.length by omega)
  generalize hE:k.entries.getD j default=e at *
  have hme:e∈k.entries:=by rw [← hE];exact za8 (by omega)
  have hpe:zac (e.kind==2) (!mayC e.config) false=!cfE e:=by
   unfold cfE;cases (e.kind==2)<;>simp [zac]
  rw [hpe]
  refine ⟨⟨by omega,h6,fun _=>by omega,fun _=>h6⟩,fun h7=>?_,fun h7=>?_⟩
  ·have:k.entries.all cfE=false:=by
    rw [List.all_eq_false];exact ⟨e,hme,by simpa using h7⟩
   simp [this]
  ·refine Back.mk (j+1) ⟨by omega,?_⟩ (by omega) (p0:=let v0:=k.snap;let v2:=v0.config;IntKind.wrap IntKind.i64 ((↑j:Int)+(1:Int))=(↑(j+(1:Nat)):Int)∧k.term=k.term∧k.vote=k.vote∧v0.index=v0.index∧v0.term=v0.term∧v2.voters=v2.voters∧v2.learners=v2.learners∧v0.data=v0.data∧k.entries=k.entries∧True) (by kernel_rfl) ?_
   ·rw [hsn,h0];simpa using h7
   ·simp [zbj (i:=j) (by omega)]
 ·obtain rfl:j=k.entries.length:=by omega
  rw [List.take_length] at h0
  simp [h0]
structure RightN (n:Node):Prop where
 id:wi 4 (IntKind.i64.wrap (n.id-1))=true
 role1:1≤n.role
 role4:n.role≤4
 len:n.kept.entries.length≤9000
 on:onC n.kept=true
 term:wi 900000000 n.kept.term=true
 vote:wi 900000000 n.kept.vote=true
 round:wi 900000000 n.round=true
 lead:wi 900000000 n.lead=true
 last:(zal n.kept).1≤900000000
 elapsed:wi 1000 n.elapsed=true
 lo:n.kept.snap.index≤n.commit
 hi:n.commit≤(zal n.kept).1
 yes:isC n.yes=true
 yesn:n.yes.all (fun y=>wi 4 (IntKind.i64.wrap (y-1)))=true
 confs:zb0 n.kept=true
 rest:(if n.role=4 then zbp n else decide (n.peers=[])&&decide (n.reads=[]))=true
theorem last0 {k:Kept} (h:onC k=true):0≤(zal k).1:=by rw [zau h];have:=(zcY h).1;omega
theorem right_iff {n:Node}:zak n=true↔RightN n:=by
 unfold zak zup
 simp only [Bool.and_eq_true,decide_eq_true_eq]
 constructor
 ·rintro ⟨⟨⟨⟨⟨⟨⟨⟨⟨⟨⟨⟨⟨⟨⟨⟨h1,h2⟩,h3⟩,h4⟩,h5⟩,h6⟩,h7⟩,h8⟩,h9⟩,h10⟩,h11⟩,h12⟩,h13⟩,h14⟩,h15⟩,h16⟩,h17⟩
  exact ⟨h1,h2,h3,h4,h5,h6,h7,h8,h9,by unfold wi at h10;simp only [Bool.and_eq_true,decide_eq_true_eq] at h10;exact h10.2,h11,h12,h13,h14,h15,h16,h17⟩
 ·intro h
  exact ⟨⟨⟨⟨⟨⟨⟨⟨⟨⟨⟨⟨⟨⟨⟨⟨h.id,h.role1⟩,h.role4⟩,h.len⟩,h.on⟩,h.term⟩,h.vote⟩,h.round⟩,h.lead⟩,by have:=last0 h.on;have:=h.last;unfold wi;simp;omega⟩,h.elapsed⟩,h.lo⟩,h.hi⟩,h.yes⟩,h.yesn⟩,h.confs⟩,h.rest⟩
theorem notF (b:Bool):(b=false→(!b)=true)=True:=by cases b<;>simp
def zpR:Ent:=ent1 67 dNode fun n=>([SmallN n],.bool (zbp n),D2)
theorem znm:zaf Tryz.prog zpR:=zan (ziG default zbE).1 fun l h=>ziG l (h _ (by simp))
def zpU:Ent:=ent1 66 dKept fun n=>([],.bool (zb0 n),D2)
theorem zno:zaf Tryz.prog zpU:=zan (ziN default).1 fun l h=>ziN l
noncomputable def tabQ2:List Ent:=[zia,ze8,eOnC,eRIs,zpR,zpU]
theorem zlz:∀ e∈tabQ2,zaf Tryz.prog e:=zaa zfN (zaa zcy (zaa zkE (zaa zic (zaa znm (zaa zno zad)))))
theorem ziE (n:Node) (hn:SmallN n):FnC Tryz.prog 19 [dNode.can n] (.bool (zak n)) D2:=by
 refine FnC.g1 dNode n (fnB Tryz.func19 (by decide) rfl) fun hk=>?_
 refine FnG.of_vc (zaj zlz fun _=>none) Tryz.func19 rfl (by decide) rfl 300 (p:=fun (V:List PE→Prop)=>let v0:=n.kept;let v4:=(900000000:Int);let v5:=Prod.fst (zal v0);let v7:=!wi v4 v0.term;let v8:=zac v7 true !wi v4 v0.vote;let v9:=!wi (4:Int) (IntKind.wrap IntKind.i64 (n.id-(1:Int)));let v10:=zac v8 true !wi v4 n.round;let v11:=zac v9 true (decide (n.role<1));let v12:=zac v10 true !wi v4 n.lead;let v13:=zac v12 true !wi (1000:Int) n.elapsed;let v14:=zac v11 true (decide (n.role>4));let v15:=zac v13 true (decide (n.commit<v0.snap.index));let v16:=zac v15 true (decide (n.commit>v5));let v17:=zac v14 true (decide ((↑(v0.entries.length):Int)>9000));let v18:=zac v17 true !onC v0;let v19:=zac v16 true (decide (v5>v4));let v20:=zac v19 true !isC n.yes;True∧(((!v9)=true→(!v9)=true)∧((!v9)=true→(!v9)=true)∧(v9=false→(!v9)=true)∧((!v11)=true→(!v11)=true)∧((!v11)=true→(!v11)=true)∧(v11=false→(!v11)=true)∧((!v14)=true→(!v14)=true)∧((!v14)=true→(!v14)=true)∧((!v14)=true→(!v14)=true)∧((!v14)=true→(!v14)=true)∧(v14=false→(!v14)=true)∧((!v17)=true→(!v17)=true)∧((!v17)=true→(!v17)=true)∧((!v17)=true→(!v17)=true)∧(v17=false→(!v17)=true)∧True)∧True∧(v18=true→True∧false=zak n∧True)∧(v18=false→True∧(((!v7)=true→(!v7)=true)∧((!v7)=true→(!v7)=true)∧((!v7)=true→(!v7)=true)∧((!v7)=true→(!v7)=true)∧(v7=false→(!v7)=true)∧((!v8)=true→(!v8)=true)∧((!v8)=true→(!v8)=true)∧((!v8)=true→(!v8)=true)∧(v8=false→(!v8)=true)∧((!v10)=true→(!v10)=true)∧((!v10)=true→(!v10)=true)∧((!v10)=true→(!v10)=true)∧(v10=false→(!v10)=true)∧((!v12)=true→(!v12)=true)∧((!v12)=true→(!v12)=true)∧((!v12)=true→(!v12)=true)∧(v12=false→(!v12)=true)∧((!v13)=true→(!v13)=true)∧((!v13)=true→(!v13)=true)∧((!v13)=true→(!v13)=true)∧((!v13)=true→(!v13)=true)∧((!v13)=true→(!v13)=true)∧((!v13)=true→(!v13)=true)∧(v13=false→(!v13)=true)∧((!v15)=true→(!v15)=true)∧((!v15)=true→(!v15)=true)∧((!v15)=true→(!v15)=true)∧(v15=false→(!v15)=true)∧((!v16)=true→(!v16)=true)∧(v16=false→(!v16)=true)∧((!v19)=true→(!v19)=true)∧((!v19)=true→(!v19)=true)∧((!v19)=true→(!v19)=true)∧(v19=false→(!v19)=true)∧True)∧True∧(v20=true→True∧false=zak n∧True)∧(v20=false→True∧V [PE.b,PE.b]))) (by kernel_rfl) ?_
 simp only [qN0,qN2,imp_self,implies_true,true_and,and_true,zae,zag,notF]
 have no:¬ RightN n→false=zak n:=fun h=>by
  cases hr:zak n
  ·rfl
  ·exact absurd (right_iff.1 hr) h
 have yesT:RightN n→true=zak n:=fun h=>(right_iff.2 h).symm
 simp only [Bool.or_eq_true,Bool.not_eq_true',decide_eq_true_eq,Bool.or_eq_false_iff,Bool.not_eq_false',decide_eq_false_iff_not]
 refine ⟨fun h=>no fun g=>?_,fun h1=>⟨fun h=>no fun g=>?_,fun h2=>?_⟩⟩
 ·have g1:=g.id;have g2:=g.role1;have g3:=g.role4;have g4:=g.len;have g5:=g.on
  rw [g1,g5] at h
  rcases h with (((h | h) | h) | h) | h<;>first | (cases h;done) | omega
 ·have g1:=g.term;have g2:=g.vote;have g3:=g.round;have g4:=g.lead;have g5:=g.elapsed;have g6:=g.lo;have g7:=g.hi;have g8:=g.last;have g9:=g.yes
  rw [g1,g2,g3,g4,g5,g9] at h
  rcases h with (((((((h | h) | h) | h) | h) | h) | h) | h) | h<;>first | (cases h;done) | omega
 obtain ⟨⟨⟨⟨p1,p2⟩,p3⟩,p4⟩,p5⟩:=h1
 obtain ⟨⟨⟨⟨⟨⟨⟨⟨q1,q2⟩,q3⟩,q4⟩,q5⟩,q6⟩,q7⟩,q8⟩,q9⟩:=h2
 refine LoopG.head (zaj zlz fun _=>none) 0 (A:=Nat) (fun j=>j≤n.yes.length∧(n.yes.take j).all (fun y=>wi 4 (IntKind.i64.wrap (y-1)))=true) (fun j=>[(5,.int .i64 j)]) (fun _=>[]) (fun j=>n.yes.length-j) 0 ⟨Nat.zero_le _,rfl⟩ (p0:=(0:Int)=(↑(0:Nat):Int)∧qN0 n n (qN2 n n (n.reads=n.reads∧True))) (by kernel_rfl) ?_ 300 (p:=fun (x:Nat) (V:List PE→Prop)=>let v0:=!zb0 n.kept;let v1:=(↑x:Int);let v2:=(0:Int);let v3:=(↑(n.yes.length):Int);let v4:=n.role==4;let v5:=(↑(n.peers.length):Int)==v2;let v6:=decide (v1<v3);let v7:=!wi (4:Int) (IntKind.wrap IntKind.i64 (List.getD n.yes x v2-(1:Int)));True∧True∧(v6=true→(v2≤v1∧v1<v3∧True)∧True∧(v7=true→True∧false=zak n∧True)∧(v7=false→True∧V [PE.a,PE.b]))∧(v6=false→True∧True∧(v0=true→True∧false=zak n∧True)∧(v0=false→True∧True∧(v4=true→(SmallN n∧True)∧zbp n=zak n∧True)∧(v4=false→((v5=true→v5=true)∧(v5=true→v5=true)∧(v5=true→v5=true)∧(v5=true→v5=true)∧True)∧zac v5 ((↑(n.reads.length):Int)==v2) false=zak n∧True)))) (by intro x;kernel_rfl) ?_
 ·simp
 rintro j ⟨hj,h0⟩
 have hkl:=hk.yes.1
 simp only [qN0,qN2,imp_self,implies_true,true_and,and_true,decide_eq_true_eq,decide_eq_false_iff_not,zae,notF]
 refine ⟨fun h6=>?_,fun h6=>?_⟩
 ·have hsn:=zel (d:=(0:Int)) (fun y=>wi 4 (IntKind.i64.wrap (y-1))) (show j<n.yes.length by omega)
  refine ⟨by omega,fun h7=>no fun g=>?_,fun h7=>?_⟩
  ·have:=List.all_eq_true.1 g.yesn _ (za8 (d:=(0:Int)) (show j<n.yes.length by omega))
   rw [this] at h7;cases h7
  ·refine Back.mk (j+1) ⟨by omega,?_⟩ (by omega) (p0:=IntKind.wrap IntKind.i64 ((↑j:Int)+(1:Int))=(↑(j+(1:Nat)):Int)∧qN0 n n (qN2 n n (n.reads=n.reads∧True))) (by kernel_rfl) ?_
   ·rw [hsn,h0];simpa using h7
   ·simp [zbj (i:=j) (by omega)]
 ·obtain rfl:j=n.yes.length:=by omega
  rw [List.take_length] at h0
  have fin:zb0 n.kept=true→zak n=(if n.role=4 then zbp n else decide (n.peers=[])&&decide (n.reads=[])):=fun hc=>by
   rw [Bool.eq_iff_iff]
   constructor
   ·intro h;exact (right_iff.1 h).rest
   ·intro h;exact right_iff.2 ⟨p1,by omega,by omega,by omega,p5,q1,q2,q3,q4,by omega,q5,by omega,by omega,q9,h0,hc,h⟩
  refine ⟨fun h=>no fun g=>?_,fun h=>?_⟩
  ·have:=g.confs;rw [this] at h;cases h
  have hc:zb0 n.kept=true:=by simpa using h
  rw [fin hc]
  refine ⟨fun h=>?_,fun h=>?_⟩
  ·have:n.role=4:=by simpa using h
   rw [if_pos this];exact ⟨hn,rfl⟩
  ·have:¬ n.role=4:=by simpa using h
   rw [if_neg this]
   cases n.peers<;>cases n.reads<;>simp<;>omega
def zk9:Ent:=ent1 19 dNode fun n=>([SmallN n],.bool (zak n),D2)
theorem zgP:zaf Tryz.prog zk9:=zan (ziE default zbE).1 fun l h=>ziE l (h _ (by simp))
def newN (id:Int) (k:Kept):Node:=⟨id,1,k,k.snap.index,0,0,[],[],0,[]⟩
def zeroN:Node:=⟨0,0,default,0,0,0,[],[],0,[]⟩
noncomputable def tabQ3:List Ent:=[zdn,zuN,zk9]
theorem zrg:∀ e∈tabQ3,zaf Tryz.prog e:=zaa zbT (zaa zml (zaa zgP zad))
def newC (id:Int) (k:Kept):Node×Int:=if zak (newN id k) then (newN id k,0) else (zeroN,1)
theorem zwa (id:Int) (k:Kept) (hk:zb2 k):FnC Tryz.prog 14 [dInt.can id,dKept.can k] (.tup [.agg ((newC id k).1.svs [1]),.int .i64 (newC id k).2]) D2:=by
 refine FnG.of_vc (zaj zrg fun _=>none) Tryz.func14 rfl (by decide) rfl 300 (p:=fun (V:List PE→Prop)=>let v0:=k.snap;let v1:=v0.index;let v3:=(0:Int);let v4:=Prod.snd (newC id k);let v5:=Prod.fst (newC id k);let v6:=v5.kept;let v14:=v6.snap;let v17:=v14.config;let v23:=Node.mk id (1:Int) k v1 v3 v3 [] [] v3 [];let v24:=errC v23;True∧True∧(SmallN v23∧True)∧True∧True∧((v24 != v3)=true→True∧v3=v5.id∧v3=v5.role∧v3=v6.term∧v3=v6.vote∧v3=v14.index∧v3=v14.term∧v17.voters=[]∧v17.learners=[]∧ByteArray.mk #[]=v14.data∧v6.entries=[]∧v3=v5.commit∧v3=v5.lead∧v3=v5.elapsed∧v5.yes=[]∧v5.peers=[]∧v3=v5.round∧v5.reads=[]∧v24=v4∧True)∧((v24 != v3)=false→(SmallN v23∧True)∧id=v5.id∧(1:Int)=v5.role∧k.term=v6.term∧k.vote=v6.vote∧v1=v14.index∧v0.term=v14.term∧v0.config.voters=v17.voters∧v0.config.learners=v17.learners∧v0.data=v14.data∧k.entries=v6.entries∧k.entries.length≤17592186044416∧v1=v5.commit∧v3=v5.lead∧v3=v5.elapsed∧[]=v5.yes∧(0:Nat)≤17592186044416∧[]=v5.peers∧(0:Nat)≤17592186044416∧v3=v5.round∧[]=v5.reads∧(0:Nat)≤17592186044416∧v3=v4∧True)) (by kernel_rfl) ?_
 simp only [imp_self,implies_true,true_and,and_true,zae,zag]
 have hs:SmallN (newN id k):=⟨hk,by simp [newN],by simp [newN],by simp [newN]⟩
 have hkl:k.entries.length≤17592186044416:=by have:=hk.1.1;omega
 change SmallN (newN id k)∧((errC (newN id k) != (0:Int))=true→_)∧((errC (newN id k) != (0:Int))=false→_)
 refine ⟨hs,fun h=>?_,fun h=>?_⟩
 ·have hr:zak (newN id k)=false:=by
   cases hr:zak (newN id k)
   ·rfl
   ·rw [errC,hr] at h;simp at h
  have e:newC id k=(zeroN,1):=by rw [newC,hr];rfl
  rw [e]
  refine ⟨rfl,rfl,rfl,rfl,rfl,rfl,rfl,rfl,rfl,rfl,rfl,rfl,rfl,rfl,rfl,rfl,rfl,?_⟩
  show errC (newN id k)=1
  rw [errC,hr];rfl
 ·have hr:zak (newN id k)=true:=by
   cases hr:zak (newN id k)
   ·rw [errC,hr] at h;simp at h
   ·rfl
  have e:newC id k=(newN id k,0):=by rw [newC,hr];rfl
  rw [e]
  simp only [newN] at hs ⊢
  simp [hs,hkl]
def patI (n:Node):Int:=IntKind.i64.wrap (6+IntKind.i64.wrap (2*(IntKind.i64.wrap (n.id+n.kept.term)).tmod 5))
theorem zvA (x:Int):(Lit.int .i64 (x.tmod 5)).wf=true:=by
 have h:(x.tmod 5).natAbs=x.natAbs % 5:=Int.natAbs_tmod x 5
 have:x.natAbs % 5<5:=Nat.mod_lt _ (by decide)
 exact zcG ⟨by omega,by omega⟩
theorem zf2 (n:Node):FnC Tryz.prog 69 [dNode.can n] (.int .i64 (patI n)) D2:=by
 refine FnG.of_vc (zaj zad fun _=>none) Tryz.func69 rfl (by decide) rfl 300 (p:=fun (V:List PE→Prop)=>let v0:=Int.tmod (IntKind.wrap IntKind.i64 (n.id+n.kept.term)) (5:Int);True∧((5:Int)≠(0:Int)∧Lit.wf (Lit.int IntKind.i64 v0)=true∧True)∧IntKind.wrap IntKind.i64 ((6:Int)+IntKind.wrap IntKind.i64 ((2:Int)*v0))=patI n∧True) (by kernel_rfl) ?_
 simp only [imp_self,implies_true,true_and,and_true,zae,zag]
 exact ⟨⟨by decide,zvA _⟩,rfl⟩
theorem zeF (n:Node):FnC Tryz.prog 70 [dNode.can n] (.int .i64 (patI n)) D2:=by
 refine FnG.of_vc (zaj zad fun _=>none) Tryz.func70 rfl (by decide) rfl 300 (p:=fun (V:List PE→Prop)=>let v0:=Int.tmod (IntKind.wrap IntKind.i64 (n.id+n.kept.term)) (5:Int);True∧((5:Int)≠(0:Int)∧Lit.wf (Lit.int IntKind.i64 v0)=true∧True)∧IntKind.wrap IntKind.i64 ((6:Int)+IntKind.wrap IntKind.i64 ((2:Int)*v0))=patI n∧True) (by kernel_rfl) ?_
 simp only [imp_self,implies_true,true_and,and_true,zae,zag]
 exact ⟨⟨by decide,zvA _⟩,rfl⟩
def ePat:Ent:=ent1 69 dNode fun n=>([],.int .i64 (patI n),D2)
theorem zpY:zaf Tryz.prog ePat:=zan (zf2 default).1 fun l h=>zf2 l
def zww:Ent:=ent1 70 dNode fun n=>([],.int .i64 (patI n),D2)
theorem zsv:zaf Tryz.prog zww:=zan (zeF default).1 fun l h=>zeF l
noncomputable def tabQ4:List Ent:=[zdn,zk9,ePat,zww]
theorem zrf:∀ e∈tabQ4,zaf Tryz.prog e:=zaa zbT (zaa zgP (zaa zpY (zaa zsv zad)))
theorem zwo {n:Node}:(errC n != (0:Int))=!zak n:=by unfold errC;cases zak n<;>rfl
theorem ziS (n:Node) (hn:SmallN n):FnC Tryz.prog 21 [dNode.can n] (.int .i64 (if zak n then patI n else 0)) D2:=by
 refine FnG.of_vc (zaj zrf fun _=>none) Tryz.func21 rfl (by decide) rfl 300 (p:=fun (V:List PE→Prop)=>let v0:=errC n != 0;let v1:=if zak n=true then patI n else (0:Int);True∧(SmallN n∧True)∧True∧(v0=true→True∧(0:Int)=v1∧True)∧(v0=false→True∧patI n=v1∧True)) (by kernel_rfl) ?_
 simp only [imp_self,implies_true,true_and,and_true,zae,zag,zwo]
 refine ⟨hn,fun h=>?_,fun h=>?_⟩
 ·have:zak n=false:=by simpa using h
  simp [this]
 ·have:zak n=true:=by simpa using h
  simp [this]
end Go.Proofs.YteabcgkjbnecaaaGreat
namespace Go.Proofs.YteabcgkjbnecaaaGreat
open Go.RowKit Go.ChangeShapes Go.WideShapes Go.Deep
def Env.only (E:Env):Env:=⟨E.β,fun i b=>i=0∧E.σ i b,E.φ⟩
theorem Env.only_zero (E:Env):E.only.zero:=fun i b h=>h.1
theorem Env.only_le (E:Env):E.only.Le E:=⟨fun _ _ h=>h,fun _ _ h=>h.2⟩
def o0:SV→Bool
 | .any=>true
 | .int _ _=>true
 | .bool _=>true
 | .str _=>true
 | .nil=>true
 | .sl ls _=>ls.all (Nat.beq 0)
 | _=>false
def o1:SV→Bool
 | .agg vs=>vs.all o0
 | s=>o0 s
section
variable {E : Env} {w : World}
theorem zvY {s:SV} {v:Value} (h:o0 s=true) (hd:DenV E w s v):DenV E.only w s v:=by
 cases s with
 | sl ls r=>
  exact Rd.mono hd (fun b _ ⟨i,hi,hs⟩=>⟨i,hi,(Nat.eq_of_beq_eq_true (List.all_eq_true.1 h i hi)).symm,hs⟩)
 | any=>exact hd
 | int k n=>exact hd
 | bool b=>exact hd
 | str s=>exact hd
 | nil=>exact hd
 | _=>simp [o0] at h
theorem ztl:∀ {ss:List SV} {vs:List Value},ss.all o0=true→DenL E w ss vs→DenL E.only w ss vs
 | [],[],_,_=>trivial
 | s::ss,v::vs,h,hd=>by
  rw [List.all_cons,Bool.and_eq_true] at h
  exact ⟨zvY h.1 hd.1,ztl h.2 hd.2⟩
 | [],_::_,_,hd=>hd.elim
 | _::_,[],_,hd=>hd.elim
theorem o1_ok {s:SV} {v:Value} (h:o1 s=true) (hd:DenV E w s v):DenV E.only w s v:=by
 cases s with
 | agg vs=>
  obtain ⟨xs,hv,hl⟩:=hd
  exact ⟨xs,hv,ztl h hl⟩
 | _=>exact zvY h hd
end
section
variable {P : Program} {σ α β γ δ : Type}
def Dec.strict (a:Dec α) (s:SV):Option α:=bif o1 s then a.dec s else none
theorem Dec.strict_ok (a:Dec α) {s:SV} {x:α} (h:a.strict s=some x) {E:Env} {w:World} {v:Value} (hd:DenV E w s v):DenV E w (a.can x) v:=by
 unfold Dec.strict at h
 cases ho:o1 s
 ·rw [ho] at h;cases h
 ·rw [ho] at h
  exact DenV.mono E.only_le (Same.refl _ _) _ _ (a.ok s x h E.only w v E.only_zero (o1_ok ho hd))
theorem FnG.preN {f:FuncId} {nl:Nat} {mi:List BE} {ins ins':List SV} {out:SV} {mo:List BE} (h:FnG P f nl mi ins out mo) (hd:∀ E w vals,DenL E w ins' vals→DenL E w ins vals):FnG P f nl mi ins' out mo:=
 ⟨h.1,fun w E vals hm hv=>h.2 w E vals hm (hd E w vals hv)⟩
def goN0 (M:Mem σ) (r:σ→R3) (ins:List SV) (mi:List BE):Option R3:=match M.dec mi,ins with
 | some s,[.ptr 2 0]=>some (r s)
 | _,_=>none
variable {f : FuncId} {M : Mem σ} {a : Dec α} {b : Dec β} {c : Dec γ} {nl : Nat} {al gl : List Nat} {vr : List (Nat × TypeId × RL)}
def zj7 (f:FuncId) (nl:Nat) (M:Mem σ) (vr:List (Nat×TypeId×RL)) (al gl:List Nat) (r:σ→R3):Ent:=⟨f,true,al,gl,nl,vr,goN0 M r⟩
theorem zcB {r:σ→R3} (hB:FnB P f) (h:∀ s,(∀ p∈(r s).1,p)→FnG P f nl (M.mi s) [.ptr 2 0] (r s).2.1 (r s).2.2):zaf P (zj7 f nl M vr al gl r):=by
 refine ⟨hB,fun ins mi n out mo hg hn=>?_⟩
 change goN0 M r ins mi=some (n,out,mo) at hg
 unfold goN0 at hg
 split at hg
 case h_2=>simp at hg
 rename_i s e
 have e:=M.ok _ _ e
 subst e
 simp only [Option.some.injEq] at hg
 have:=h s (by rw [hg];exact hn)
 rwa [hg] at this
end
end Go.Proofs.YteabcgkjbnecaaaGreat
namespace Go.Proofs.YteabcgkjbnecaaaGreat
open Go.RowKit Go.ChangeShapes Go.WideShapes Go.Deep
structure DecL (α:Type) where
 dec:SV→Option α
 can:α→SV
 ok:∀ s x,dec s=some x→∀ E w v,DenV E w s v→DenV E w (can x) v
def Dec.L {α:Type} (a:Dec α):DecL α:=⟨a.strict,a.can,fun s x h E w v hd=>a.strict_ok h hd⟩
def Env.sh (E:Env) (l:Nat):Env:=⟨E.β,fun i b=>i=0∧E.σ l b,E.φ⟩
theorem Env.sh_zero (E:Env) (l:Nat):(E.sh l).zero:=fun i b h=>h.1
theorem Env.sh_set {E:Env} {l b:Nat} (h:(E.sh l).set [0] b):E.set [l] b:=by
 obtain ⟨i,_,_,hs⟩:=h;exact ⟨l,by simp,hs⟩
def dn0 (l:Nat):SV→Option SV
 | .any=>some .any
 | .int k n=>some (.int k n)
 | .bool b=>some (.bool b)
 | .str s=>some (.str s)
 | .nil=>some .nil
 | .sl ls r=>if ls.all (Nat.beq l) then some (.sl [0] r) else none
 | _=>none
def dnLs (l:Nat):List SV→Option (List SV)
 | []=>some []
 | s::r=>match dn0 l s,dnLs l r with
  | some a,some b=>some (a::b)
  | _,_=>none
section
variable {E : Env} {w : World} {l : Nat}
theorem zw9 {s t:SV} {v:Value} (h:dn0 l s=some t) (hd:DenV E w s v):DenV (E.sh l) w t v:=by
 cases s with
 | sl ls r=>
  simp only [dn0] at h
  split at h
  ·rename_i ha
   simp only [Option.some.injEq] at h;subst h
   exact Rd.mono hd (fun b _ ⟨i,hi,hs⟩=>⟨0,by simp,rfl,by rw [Nat.eq_of_beq_eq_true (List.all_eq_true.1 ha i hi)];exact hs⟩)
  ·cases h
 | any=>simp only [dn0,Option.some.injEq] at h;subst h;exact hd
 | int k n=>simp only [dn0,Option.some.injEq] at h;subst h;exact hd
 | bool b=>simp only [dn0,Option.some.injEq] at h;subst h;exact hd
 | str s=>simp only [dn0,Option.some.injEq] at h;subst h;exact hd
 | nil=>simp only [dn0,Option.some.injEq] at h;subst h;exact hd
 | _=>simp [dn0] at h
theorem zqx:∀ {ss ts:List SV} {vs:List Value},dnLs l ss=some ts→DenL E w ss vs→DenL (E.sh l) w ts vs
 | [],ts,[],h,_=>by simp only [dnLs,Option.some.injEq] at h;subst h;trivial
 | s::ss,ts,v::vs,h,hd=>by
  simp only [dnLs] at h
  split at h
  ·rename_i a b ha hb
   simp only [Option.some.injEq] at h;subst h
   exact ⟨zw9 ha hd.1,zqx hb hd.2⟩
  ·cases h
 | [],_,_::_,_,hd=>hd.elim
 | _::_,_,[],_,hd=>hd.elim
end
def Dec.lab {α:Type} (a:Dec α) (l:Nat) (can:α→List SV) (hc:∀ x E w v,DenV (Env.sh E l) w (a.can x) v→DenV E w (.agg (can x)) v):DecL α where
 dec:=fun s=>match s with
  | .agg vs=>match dnLs l vs with
   | some us=>a.dec (.agg us)
   | none=>none
  | _=>none
 can:=fun x=> .agg (can x)
 ok:=by
  intro s x h E w v hd
  split at h
  case h_2=>cases h
  split at h
  case h_2=>cases h
  rename_i vs us hu
  obtain ⟨xs,hv,hl⟩:=hd
  exact hc x E w v (a.ok _ x h (E.sh l) w v (Env.sh_zero E l) ⟨xs,hv,zqx hu hl⟩)
def dMsg2:DecL Message:=dMessage.lab 2 (fun x=>x.svs [2]) fun x E w v ⟨xs,hv,hl⟩=>⟨xs,hv,Message.svs_of (RdL.mono (fun b _ hb=>Env.sh_set hb) (Message.svs_rd hl))⟩
def dRec2:DecL Record:=dRecord.lab 2 (fun x=>x.svs [2]) fun x E w v ⟨xs,hv,hl⟩=>⟨xs,hv,Record.svs_of (RdL.mono (fun b _ hb=>Env.sh_set hb) (Record.svs_rd hl))⟩
def dEnt2:DecL Entry:=dEntry.lab 2 (fun x=>x.svs [2]) fun x E w v ⟨xs,hv,hl⟩=>⟨xs,hv,Entry.svs_of (RdL.mono (fun b _ hb=>Env.sh_set hb) (Entry.svs_rd hl))⟩
section
variable {P : Program} {σ α β γ δ : Type}
def goL1 (M:Mem σ) (a:DecL α) (r:σ→α→R3) (ins:List SV) (mi:List BE):Option R3:=match M.dec mi,ins with
 | some s,[.ptr 2 0,x]=>match a.dec x with
  | some x=>some (r s x)
  | none=>none
 | _,_=>none
def goL3 (M:Mem σ) (a:DecL α) (b:DecL β) (c:DecL γ) (r:σ→α→β→γ→R3) (ins:List SV) (mi:List BE):Option R3:=match M.dec mi,ins with
 | some s,[.ptr 2 0,x,y,z]=>match a.dec x,b.dec y,c.dec z with
  | some x,some y,some z=>some (r s x y z)
  | _,_,_=>none
 | _,_=>none
variable {f : FuncId} {M : Mem σ} {a : DecL α} {b : DecL β} {c : DecL γ} {nl : Nat} {al gl : List Nat} {vr : List (Nat × TypeId × RL)}
def zcC (f:FuncId) (nl:Nat) (M:Mem σ) (a:DecL α) (vr:List (Nat×TypeId×RL)) (al gl:List Nat) (r:σ→α→R3):Ent:=⟨f,true,al,gl,nl,vr,goL1 M a r⟩
def zso (f:FuncId) (nl:Nat) (M:Mem σ) (a:DecL α) (b:DecL β) (c:DecL γ) (vr:List (Nat×TypeId×RL)) (al gl:List Nat) (r:σ→α→β→γ→R3):Ent:=⟨f,true,al,gl,nl,vr,goL3 M a b c r⟩
theorem zaL {r:σ→α→R3} (hB:FnB P f) (h:∀ s x,(∀ p∈(r s x).1,p)→FnG P f nl (M.mi s) [.ptr 2 0,a.can x] (r s x).2.1 (r s x).2.2):zaf P (zcC f nl M a vr al gl r):=by
 refine ⟨hB,fun ins mi n out mo hg hn=>?_⟩
 change goL1 M a r ins mi=some (n,out,mo) at hg
 unfold goL1 at hg
 split at hg
 case h_2=>simp at hg
 rename_i s x e
 have e:=M.ok _ _ e
 subst e
 split at hg
 case h_2=>simp at hg
 rename_i y ey
 simp only [Option.some.injEq] at hg
 have:=h s y (by rw [hg];exact hn)
 rw [hg] at this
 refine this.preN fun E w vals hd=>?_
 match vals,hd with
 | [v,u],hd=>exact ⟨hd.1,a.ok _ _ ey E w u hd.2.1,trivial⟩
theorem zhU {r:σ→α→β→γ→R3} (hB:FnB P f) (h:∀ s x y z,(∀ p∈(r s x y z).1,p)→FnG P f nl (M.mi s) [.ptr 2 0,a.can x,b.can y,c.can z] (r s x y z).2.1 (r s x y z).2.2):zaf P (zso f nl M a b c vr al gl r):=by
 refine ⟨hB,fun ins mi n out mo hg hn=>?_⟩
 change goL3 M a b c r ins mi=some (n,out,mo) at hg
 unfold goL3 at hg
 split at hg
 case h_2=>simp at hg
 rename_i s x y z e
 have e:=M.ok _ _ e
 subst e
 split at hg
 case h_2=>simp at hg
 rename_i p q t ep eq et
 simp only [Option.some.injEq] at hg
 have:=h s p q t (by rw [hg];exact hn)
 rw [hg] at this
 refine this.preN fun E w vals hd=>?_
 match vals,hd with
 | [v,u,t,k],hd=>exact ⟨hd.1,a.ok _ _ ep E w u hd.2.1,b.ok _ _ eq E w t hd.2.2.1,c.ok _ _ et E w k hd.2.2.2.1,trivial⟩
end
end Go.Proofs.YteabcgkjbnecaaaGreat
namespace Go.Proofs.YteabcgkjbnecaaaGreat
open Go.RowKit Go.ChangeShapes Go.WideShapes Go.Deep
set_option maxRecDepth 100000
structure Step where
 n:Node
 o:Out
 deriving Inhabited
--MEM<
def wCs (ls:List Nat) (s:Step) (e q p r c m y l:Nat):List SV:=[.int .i64 s.n.id,.int .i64 s.n.role,.int .i64 s.n.kept.term,.int .i64 s.n.kept.vote,.int .i64 s.n.kept.snap.index,.int .i64 s.n.kept.snap.term,.sl ls (.rInts s.n.kept.snap.config.voters),.sl ls (.rInts s.n.kept.snap.config.learners),.str s.n.kept.snap.data,.own e,.int .i64 s.n.commit,.int .i64 s.n.lead,.int .i64 s.n.elapsed,.own q,.own p,.int .i64 s.n.round,.own r,.own c,.own m,.own y,.own l]
def sCs (ls:List Nat) (s:Step) (q p r c m y l:Nat):List SV:=[.int .i64 s.n.id,.int .i64 s.n.role,.int .i64 s.n.kept.term,.int .i64 s.n.kept.vote,.int .i64 s.n.kept.snap.index,.int .i64 s.n.kept.snap.term,.sl ls (.rInts s.n.kept.snap.config.voters),.sl ls (.rInts s.n.kept.snap.config.learners),.str s.n.kept.snap.data,.sl ls (.rEntry s.n.kept.entries),.int .i64 s.n.commit,.int .i64 s.n.lead,.int .i64 s.n.elapsed,.own q,.own p,.int .i64 s.n.round,.own r,.own c,.own m,.own y,.own l]
def wMi (s:Step):List BE:=[.dead,.dead,.cells 115 (wCs [1] s 3 4 5 6 7 8 9 10),.row 89 [1] (.rEntry s.n.kept.entries),.row 3 [1] (.rInts s.n.yes),.row 94 [1] (.rPeer s.n.peers),.row 96 [1] (.rRead s.n.reads),.row 139 [2] (.rRecord s.o.records),.row 39 [2] (.rMessage s.o.messages),.row 96 [2] (.rRead s.o.ready),.row 3 [2] (.rInts s.o.lost)]
def wMo (s:Step):List BE:=[.dead,.dead,.cells 115 (wCs [1,4] s 11 12 13 14 15 16 17 18),.dead,.dead,.dead,.dead,.dead,.dead,.dead,.dead,.row 89 [1,4] (.rEntry s.n.kept.entries),.row 3 [1,4] (.rInts s.n.yes),.row 94 [1,4] (.rPeer s.n.peers),.row 96 [1,4] (.rRead s.n.reads),.row 139 [2,3] (.rRecord s.o.records),.row 39 [2,3] (.rMessage s.o.messages),.row 96 [2,3] (.rRead s.o.ready),.row 3 [2,3] (.rInts s.o.lost)]
def wMoM (s:Step):List BE:=[.dead,.dead,.cells 115 (wCs [1] s 3 4 5 6 7 11 9 10),.row 89 [1] (.rEntry s.n.kept.entries),.row 3 [1] (.rInts s.n.yes),.row 94 [1] (.rPeer s.n.peers),.row 96 [1] (.rRead s.n.reads),.row 139 [2,3] (.rRecord s.o.records),.dead,.row 96 [2,3] (.rRead s.o.ready),.row 3 [2,3] (.rInts s.o.lost),.row 39 [2,3] (.rMessage s.o.messages)]
def sMi (T:TypeId) (s:Step):List BE:=[.dead,.dead,.cells T (sCs [1] s 3 4 5 6 7 8 9),.row 3 [1] (.rInts s.n.yes),.row 94 [1] (.rPeer s.n.peers),.row 96 [1] (.rRead s.n.reads),.row 139 [2] (.rRecord s.o.records),.row 39 [2] (.rMessage s.o.messages),.row 96 [2] (.rRead s.o.ready),.row 3 [2] (.rInts s.o.lost)]
def sMoM (T:TypeId) (s:Step):List BE:=[.dead,.dead,.cells T (sCs [1] s 3 4 5 6 10 8 9),.row 3 [1] (.rInts s.n.yes),.row 94 [1] (.rPeer s.n.peers),.row 96 [1] (.rRead s.n.reads),.row 139 [2,3] (.rRecord s.o.records),.dead,.row 96 [2,3] (.rRead s.o.ready),.row 3 [2,3] (.rInts s.o.lost),.row 39 [2,3] (.rMessage s.o.messages)]
def wMoS (s:Step):List BE:=[.dead,.dead,.cells 115 (sCs [1,4] s 11 12 13 14 15 16 17),.dead,.dead,.dead,.dead,.dead,.dead,.dead,.dead,.row 3 [1,4] (.rInts s.n.yes),.row 94 [1,4] (.rPeer s.n.peers),.row 96 [1,4] (.rRead s.n.reads),.row 139 [2,3] (.rRecord s.o.records),.row 39 [2,3] (.rMessage s.o.messages),.row 96 [2,3] (.rRead s.o.ready),.row 3 [2,3] (.rInts s.o.lost)]
def mW:Mem Step where
 mi:=wMi
 dec:=fun m=>match m with
  | [.dead,.dead,.cells 115 [.int .i64 id,.int .i64 role,.int .i64 term,.int .i64 vote,.int .i64 si,.int .i64 st,.sl [1] (.rInts v),.sl [1] (.rInts le),.str d,.own 3,.int .i64 commit,.int .i64 lead,.int .i64 el,.own 4,.own 5,.int .i64 round,.own 6,.own 7,.own 8,.own 9,.own 10],.row 89 [1] (.rEntry es),.row 3 [1] (.rInts yes),.row 94 [1] (.rPeer ps),.row 96 [1] (.rRead rs),.row 139 [2] (.rRecord cs),.row 39 [2] (.rMessage ms),.row 96 [2] (.rRead ys),.row 3 [2] (.rInts lo)]=>
   some ⟨⟨id,role,⟨term,vote,⟨si,st,⟨v,le⟩,d⟩,es⟩,commit,lead,el,yes,ps,round,rs⟩,⟨cs,ms,ys,lo⟩⟩
  | _=>none
 ok:=by
  intro m x h
  split at h
  ·simp only [Option.some.injEq] at h;subst h;rfl
  ·simp at h
def mWS:Mem Step where
 mi:=sMi 115
 dec:=fun m=>match m with
  | [.dead,.dead,.cells 115 [.int .i64 id,.int .i64 role,.int .i64 term,.int .i64 vote,.int .i64 si,.int .i64 st,.sl [1] (.rInts v),.sl [1] (.rInts le),.str d,.sl [1] (.rEntry es),.int .i64 commit,.int .i64 lead,.int .i64 el,.own 3,.own 4,.int .i64 round,.own 5,.own 6,.own 7,.own 8,.own 9],.row 3 [1] (.rInts yes),.row 94 [1] (.rPeer ps),.row 96 [1] (.rRead rs),.row 139 [2] (.rRecord cs),.row 39 [2] (.rMessage ms),.row 96 [2] (.rRead ys),.row 3 [2] (.rInts lo)]=>
   some ⟨⟨id,role,⟨term,vote,⟨si,st,⟨v,le⟩,d⟩,es⟩,commit,lead,el,yes,ps,round,rs⟩,⟨cs,ms,ys,lo⟩⟩
  | _=>none
 ok:=by
  intro m x h
  split at h
  ·simp only [Option.some.injEq] at h;subst h;rfl
  ·simp at h
def vrW:List (Nat×TypeId×RL):=[(9,89,.rEntry []),(13,3,.rInts []),(14,94,.rPeer []),(16,96,.rRead []),(17,139,.rRecord []),(18,39,.rMessage []),(19,96,.rRead []),(20,3,.rInts [])]
def vrS:List (Nat×TypeId×RL):=[(13,3,.rInts []),(14,94,.rPeer []),(16,96,.rRead []),(17,139,.rRecord []),(18,39,.rMessage []),(19,96,.rRead []),(20,3,.rInts [])]
def glW:List Nat:=[1,1,1,1,1,2,2,2,2]
def glS:List Nat:=[1,1,1,1,2,2,2,2]
--MEM>
def msgS (s:Step) (m:Message):Message:=⟨m.kind,s.n.id,m.to_,if m.term=0 then s.n.kept.term else m.term,m.index,m.logTerm,m.entries,m.commit,m.round,m.ok,m.snap,m.ask,m.seq,m.data⟩
def zaJ (s:Step) (m:Message):Step:=⟨s.n,⟨s.o.records,s.o.messages++[msgS s m],s.o.ready,s.o.lost⟩⟩
theorem zbw (b:Bool) (x:Int):zas b x x=x:=by cases b<;>rfl
theorem zbL (b:Bool) (x:Bool):zac b x x=x:=by cases b<;>rfl
theorem zlL (x y z:Int):zas (x==0) y z=if x=0 then y else z:=by unfold zas;by_cases h:x=0<;>simp [h]
theorem zoe (s:Step) (m:Message) (hl:s.o.messages.length≤1000000):FnG Tryz.prog 141 3 (wMi s) [.ptr 2 0,dMsg2.can m] (.tup []) (wMoM (zaJ s m)):=by
 refine FnG.of_vc (zaj zad fun _=>none) Tryz.func141 rfl (by decide) rfl 300 (p:=fun (V:List PE→Prop)=>let v2:=Message.logTerm m;let v4:=m.snap;let v10:=v4.config;let v13:=Step.n (zaJ s m);let v17:=Step.o (zaJ s m);let v22:=m.term==0;let v23:=[Message.mk (zas v22 m.kind m.kind) (zas v22 s.n.id s.n.id) (zas v22 m.to_ m.to_) (zas v22 s.n.kept.term m.term) (zas v22 m.index m.index) (zas v22 v2 v2) (if v22=true then m.entries else m.entries) (zas v22 m.commit m.commit) (zas v22 m.round m.round) (zac v22 m.ok m.ok) (Snap.mk (zas v22 v4.index v4.index) (zas v22 v4.term v4.term) (Config.mk (if v22=true then v10.voters else v10.voters) (if v22=true then v10.learners else v10.learners)) (if v22=true then v4.data else v4.data)) (zas v22 m.ask m.ask) (zas v22 m.seq m.seq) (if v22=true then m.data else m.data)];True∧True∧True∧True∧((s.o.messages.length+v23.length)*(1024:Nat)≤140737488355328∧True)∧qN0 s.n v13 (qN3 s.n v13 (qO4 s.o v17 (s.o.messages++v23=v17.messages∧True)))) (by kernel_rfl) ?_
 simp only [qN0,qN3,qO4,imp_self,implies_true,true_and,and_true,zae,zag,zbw,zbL,ite_self,zaJ,msgS,zlL,List.length_cons,List.length_nil]
 omega
def zuL:Ent:=zcC 141 3 mW dMsg2 vrW [1,2] glW fun s m=>([s.o.messages.length≤1000000],.tup [],wMoM (zaJ s m))
theorem zec:zaf Tryz.prog zuL:=zaL (zoe default default (by decide)).1 fun s m h=>zoe s m (h _ (by simp))
theorem zlC (s:Step) (m:Message) (hl:s.o.messages.length≤1000000):FnG Tryz.prog 141 3 (sMi 115 s) [.ptr 2 0,dMsg2.can m] (.tup []) (sMoM 115 (zaJ s m)):=by
 refine FnG.of_vc (zaj zad fun _=>none) Tryz.func141 rfl (by decide) rfl 300 (p:=fun (V:List PE→Prop)=>let v0:=Message.logTerm m;let v2:=m.snap;let v5:=v2.config;let v13:=Step.o (zaJ s m);let v17:=Step.n (zaJ s m);let v22:=m.term==0;let v23:=[Message.mk (zas v22 m.kind m.kind) (zas v22 s.n.id s.n.id) (zas v22 m.to_ m.to_) (zas v22 s.n.kept.term m.term) (zas v22 m.index m.index) (zas v22 v0 v0) (if v22=true then m.entries else m.entries) (zas v22 m.commit m.commit) (zas v22 m.round m.round) (zac v22 m.ok m.ok) (Snap.mk (zas v22 v2.index v2.index) (zas v22 v2.term v2.term) (Config.mk (if v22=true then v5.voters else v5.voters) (if v22=true then v5.learners else v5.learners)) (if v22=true then v2.data else v2.data)) (zas v22 m.ask m.ask) (zas v22 m.seq m.seq) (if v22=true then m.data else m.data)];True∧True∧True∧True∧((s.o.messages.length+v23.length)*(1024:Nat)≤140737488355328∧True)∧qN0 s.n v17 (qN5 s.n v17 (qO4 s.o v13 (s.o.messages++v23=v13.messages∧True)))) (by kernel_rfl) ?_
 simp only [qN0,qN5,qO4,imp_self,implies_true,true_and,and_true,zae,zag,zbw,zbL,ite_self,zaJ,msgS,zlL,List.length_cons,List.length_nil]
 omega
def zwv:Ent:=zcC 141 3 mWS dMsg2 vrS [1,2] glS fun s m=>([s.o.messages.length≤1000000],.tup [],sMoM 115 (zaJ s m))
theorem zpL:zaf Tryz.prog zwv:=zaL (zlC default default (by decide)).1 fun s m h=>zlC s m (h _ (by simp))
def recK (k:Kept) (r:Record):Kept:=
 if r.kind=1 then {k with term:=r.term,vote:=r.vote}
 else if r.kind=2 then {k with entries:=k.entries++[r.entry]}
 else if r.kind=3 then {k with entries:=k.entries.take (IntKind.i64.wrap (IntKind.i64.wrap (r.index-1)-k.snap.index)).toNat}
 else if r.kind=4 then {k with entries:=(if (zaz k r.snap.index).2=0∧(zaz k r.snap.index).1=r.snap.term then k.entries.drop (IntKind.i64.wrap (r.snap.index-k.snap.index)).toNat else []),snap:=r.snap}
 else k
def recS (s:Step) (r:Record):Step:=⟨{s.n with kept:=recK s.n.kept r},{s.o with records:=s.o.records++[r]}⟩
structure SmallR (r:Record):Prop where
 e:zcH r.entry
 s:zaq r.snap.config
def zgg (k:Kept) (r:Record):Prop:=r.kind=3→0≤IntKind.i64.wrap (IntKind.i64.wrap (r.index-1)-k.snap.index)∧IntKind.i64.wrap (IntKind.i64.wrap (r.index-1)-k.snap.index)≤(k.entries.length:Int)
def tabW1:List Ent:=[zpZ,zgS,zfL]
theorem zlx:∀ e∈tabW1,zaf Tryz.prog e:=zaa zjD (zaa zdf (zaa zcx zad))
theorem zfy (s:Step) (r:Record) (hl:s.o.records.length≤1000000) (he:s.n.kept.entries.length≤1000000) (hr:SmallR r) (hc:zgg s.n.kept r) (h4:r.kind≠4):FnG Tryz.prog 100 3 (wMi s) [.ptr 2 0,dRec2.can r] (.tup []) (wMo (recS s r)):=by
 refine FnG.of_vc (zaj zlx fun _=>none) Tryz.func100 rfl (by decide) rfl 300 (p:=fun (V:List PE→Prop)=>let v0:=r.snap;let v1:=r.kind;let v2:=s.n;let v3:=s.o;let v5:=v0.index;let v6:=v3.records;let v7:=v2.kept;let v8:=v0.config;let v9:=Step.n (recS s r);let v10:=Step.o (recS s r);let v11:=v7.entries;let v16:=v9.kept.snap;let v17:=v11.length;let v18:=v9.kept.entries;let v20:=[Record.entry r];let v30:=(↑v17:Int);let v31:=v1==4;let v32:=v1==2;let v33:=v1==1;let v34:=v1==3;let v35:=IntKind.wrap IntKind.i64 (v5-v7.snap.index);let v36:=Prod.snd (zaz v7 v5)==0;let v37:=IntKind.wrap IntKind.i64 (IntKind.wrap IntKind.i64 (r.index-(1:Int))-v7.snap.index);let v38:=zac v36 (Prod.fst (zaz v7 v5)==v0.term) false;True∧True∧True∧True∧True∧(v33=true→True∧((v6.length+List.length [r])*(1024:Nat)≤140737488355328∧True)∧v2.id=v9.id∧v2.role=v9.role∧r.term=v9.kept.term∧r.vote=v9.kept.vote∧qN6 v2 v9 (v6++[r]=v10.records∧v3.messages=v10.messages∧v3.ready=v10.ready∧v3.lost=v10.lost∧True))∧(v33=false→True∧True∧(v32=true→(v20.length≤17592186044416∧zch v20∧(v17+v20.length)*(1024:Nat)≤140737488355328∧True)∧((v6.length+List.length [r])*(1024:Nat)≤140737488355328∧True)∧qN0 v2 v9 (qN7 v2 v9 (v11++v20=v18∧qN8 v2 v9 (v6++[r]=v10.records∧v3.messages=v10.messages∧v3.ready=v10.ready∧v3.lost=v10.lost∧True))))∧(v32=false→True∧True∧(v34=true→((0:Int)≤v37∧v37≤v30∧True)∧((v6.length+List.length [r])*(1024:Nat)≤140737488355328∧True)∧qN0 v2 v9 (qN7 v2 v9 (List.take (Int.toNat v37) v11=v18∧qN8 v2 v9 (v6++[r]=v10.records∧v3.messages=v10.messages∧v3.ready=v10.ready∧v3.lost=v10.lost∧True))))∧(v34=false→True∧True∧(v31=true→(v17≤17592186044416∧True)∧((v36=true→v36=true)∧(v36=true→v36=true)∧(v36=true→v36=true)∧(v36=true→v36=true)∧(v36=true→v36=true)∧True)∧True∧(v38=true→((0:Int)≤v35∧v35≤v30∧v30≤v30∧v17≤17592186044416∧True)∧(zaq v8∧True)∧((v6.length+List.length [r])*(1024:Nat)≤140737488355328∧True)∧False)∧(v38=false→True∧(zaq v8∧True)∧((v6.length+List.length [r])*(1024:Nat)≤140737488355328∧True)∧qN9 v2 v9 (v5=v16.index∧v0.term=v16.term∧v8.voters=v16.config.voters∧v8.learners=v16.config.learners∧v0.data=v16.data∧qN7 v2 v9 (v18=[]∧qN8 v2 v9 (v6++[r]=v10.records∧v3.messages=v10.messages∧v3.ready=v10.ready∧v3.lost=v10.lost∧True)))))∧(v31=false→((v6.length+List.length [r])*(1024:Nat)≤140737488355328∧True)∧qN0 v2 v9 (qN3 v2 v9 (v6++[r]=v10.records∧v3.messages=v10.messages∧v3.ready=v10.ready∧v3.lost=v10.lost∧True))))))) (by kernel_rfl) ?_
 simp only [qN0,qN3,qN6,qN7,qN8,qN9,imp_self,implies_true,true_and,and_true,zae,zag,zbw,zbL,ite_self]
 have hsl:zch [r.entry]:=⟨by simp,fun x hx=>by simp only [List.mem_singleton] at hx;subst hx;exact hr.e⟩
 simp only [List.length_cons,List.length_nil,List.take_length]
 refine ⟨fun h=>?_,fun h1=>⟨fun h=>?_,fun h2=>⟨fun h=>?_,fun h3=>⟨fun h=>?_,fun h5=>?_⟩⟩⟩⟩
 ·have e:r.kind=1:=by simpa using h
  simp only [qN0,qN3,qN6,qN7,qN8,qN9,recS,recK,e,if_true,true_and,and_true];omega
 ·have e:r.kind=2:=by simpa using h
  simp [recS,recK,e,hsl];omega
 ·have e:r.kind=3:=by simpa using h
  have:=hc e
  simp [recS,recK,e];omega
 ·have e:r.kind=4:=by simpa using h
  exact absurd e h4
 ·have e1:¬ r.kind=1:=by simpa using h1
  have e2:¬ r.kind=2:=by simpa using h2
  have e3:¬ r.kind=3:=by simpa using h3
  have e4:¬ r.kind=4:=by simpa using h5
  simp [recS,recK,e1,e2,e3,e4];omega
def eRec:Ent:=zcC 100 3 mW dRec2 vrW [1,2] glW fun s r=>([s.o.records.length≤1000000,s.n.kept.entries.length≤1000000,SmallR r,zgg s.n.kept r,r.kind≠4],.tup [],wMo (recS s r))
theorem zob:SmallR default:=⟨⟨by decide,by decide⟩,⟨by decide,by decide⟩⟩
theorem zdE:zaf Tryz.prog eRec:=zaL (zfy default default (by decide) (by decide) zob (fun h=>by cases h) (by decide)).1 fun s r h=>zfy s r (h _ (by simp)) (h _ (by simp)) (h _ (by simp)) (h _ (by simp)) (h _ (by simp))
theorem zmQ (s:Step) (r:Record) (hl:s.o.records.length≤1000000) (he:s.n.kept.entries.length≤1000000) (hr:SmallR r) (h4:r.kind=4)
  (hc:(zaz s.n.kept r.snap.index).2=0→0≤IntKind.i64.wrap (r.snap.index-s.n.kept.snap.index)∧IntKind.i64.wrap (r.snap.index-s.n.kept.snap.index)≤(s.n.kept.entries.length:Int)):FnG Tryz.prog 100 3 (wMi s) [.ptr 2 0,dRec2.can r] (.tup []) (wMoS (recS s r)):=by
 refine FnG.of_vc (zaj zlx fun _=>none) Tryz.func100 rfl (by decide) rfl 300 (p:=fun (V:List PE→Prop)=>let v0:=s.n;let v1:=s.o;let v2:=r.kind;let v3:=r.snap;let v4:=v3.index;let v5:=v1.records;let v6:=v3.config;let v7:=v0.kept;let v9:=Step.o (recS s r);let v11:=Step.n (recS s r);let v12:=v7.entries;let v14:=v11.kept;let v16:=v12.length;let v17:=[Record.entry r];let v18:=v14.entries;let v20:=v14.snap;let v23:=v20.config;let v30:=(↑v16:Int);let v31:=v2==2;let v32:=v2==1;let v33:=v2==3;let v34:=v2==4;let v35:=IntKind.wrap IntKind.i64 (v4-v7.snap.index);let v36:=Prod.snd (zaz v7 v4)==0;let v38:=IntKind.wrap IntKind.i64 (IntKind.wrap IntKind.i64 (r.index-(1:Int))-v7.snap.index);let v39:=List.take (Int.toNat v38) v12;let v40:=zac v36 (Prod.fst (zaz v7 v4)==v3.term) false;True∧True∧True∧True∧True∧(v32=true→True∧((v5.length+List.length [r])*(1024:Nat)≤140737488355328∧True)∧v0.id=v11.id∧v0.role=v11.role∧r.term=v14.term∧r.vote=v14.vote∧qN10 v0 v11 (v16≤17592186044416∧qN11 v0 v11 (v5++[r]=v9.records∧v1.messages=v9.messages∧v1.ready=v9.ready∧v1.lost=v9.lost∧True)))∧(v32=false→True∧True∧(v31=true→(v17.length≤17592186044416∧zch v17∧(v16+v17.length)*(1024:Nat)≤140737488355328∧True)∧((v5.length+List.length [r])*(1024:Nat)≤140737488355328∧True)∧qN0 v0 v11 ((v12++v17)=v18∧List.length (v12++v17)≤17592186044416∧qN11 v0 v11 (v5++[r]=v9.records∧v1.messages=v9.messages∧v1.ready=v9.ready∧v1.lost=v9.lost∧True)))∧(v31=false→True∧True∧(v33=true→((0:Int)≤v38∧v38≤v30∧True)∧((v5.length+List.length [r])*(1024:Nat)≤140737488355328∧True)∧qN0 v0 v11 (v39=v18∧v39.length≤17592186044416∧qN11 v0 v11 (v5++[r]=v9.records∧v1.messages=v9.messages∧v1.ready=v9.ready∧v1.lost=v9.lost∧True)))∧(v33=false→True∧True∧(v34=true→(v16≤17592186044416∧True)∧((v36=true→v36=true)∧(v36=true→v36=true)∧(v36=true→v36=true)∧(v36=true→v36=true)∧(v36=true→v36=true)∧True)∧True∧(v40=true→((0:Int)≤v35∧v35≤v30∧v30≤v30∧v16≤17592186044416∧True)∧(zaq v6∧True)∧((v5.length+List.length [r])*(1024:Nat)≤140737488355328∧True)∧qN9 v0 v11 (v4=v20.index∧v3.term=v20.term∧v6.voters=v23.voters∧v6.learners=v23.learners∧v3.data=v20.data∧List.drop (Int.toNat v35) (List.take v16 v12)=v18∧qN11 v0 v11 (v5++[r]=v9.records∧v1.messages=v9.messages∧v1.ready=v9.ready∧v1.lost=v9.lost∧True)))∧(v40=false→True∧(zaq v6∧True)∧((v5.length+List.length [r])*(1024:Nat)≤140737488355328∧True)∧qN9 v0 v11 (v4=v20.index∧v3.term=v20.term∧v6.voters=v23.voters∧v6.learners=v23.learners∧v3.data=v20.data∧v18=[]∧qN11 v0 v11 (v5++[r]=v9.records∧v1.messages=v9.messages∧v1.ready=v9.ready∧v1.lost=v9.lost∧True))))∧(v34=false→((v5.length+List.length [r])*(1024:Nat)≤140737488355328∧True)∧qN0 v0 v11 (v12=v18∧v16≤17592186044416∧qN11 v0 v11 (v5++[r]=v9.records∧v1.messages=v9.messages∧v1.ready=v9.ready∧v1.lost=v9.lost∧True))))))) (by kernel_rfl) ?_
 simp only [qN0,qN10,qN11,qN9,imp_self,implies_true,true_and,and_true,zae,zag,zbw,zbL,ite_self,h4]
 refine ⟨fun h=>absurd h (by decide),fun _=>⟨fun h=>absurd h (by decide),fun _=>⟨fun h=>absurd h (by decide),fun _=>⟨fun _=>?_,fun h=>absurd h (by decide)⟩⟩⟩⟩
 simp only [List.length_cons,List.length_nil,List.take_length]
 refine ⟨by omega,fun h=>?_,fun h=>?_⟩
 ·have h2:(zaz s.n.kept r.snap.index).2=0∧(zaz s.n.kept r.snap.index).1=r.snap.term:=by simpa using h
  have:=hc h2.1
  simp [recS,recK,h4,h2,hr.s];omega
 ·have h2:¬ ((zaz s.n.kept r.snap.index).2=0∧(zaz s.n.kept r.snap.index).1=r.snap.term):=by simpa using h
  simp [recS,recK,h4,h2,hr.s];omega
def zsu:Ent:=zcC 100 3 mW dRec2 vrW [1,2] glW fun s r=>([s.o.records.length≤1000000,s.n.kept.entries.length≤1000000,SmallR r,r.kind=4,(zaz s.n.kept r.snap.index).2=0→0≤IntKind.i64.wrap (r.snap.index-s.n.kept.snap.index)∧IntKind.i64.wrap (r.snap.index-s.n.kept.snap.index)≤(s.n.kept.entries.length:Int)],.tup [],wMoS (recS s r))
theorem zhY:zaf Tryz.prog zsu:=zaL (zfy default default (by decide) (by decide) zob (fun h=>by cases h) (by decide)).1 fun s r h=>zmQ s r (h _ (by simp)) (h _ (by simp)) (h _ (by simp)) (h _ (by simp)) (h _ (by simp))
def Step.svs (ls:List Nat) (s:Step):List SV:=s.n.svs ls++s.o.svs ls
theorem ztW {E:Env} {w:World} (hz:E.zero) {n:Node} {o:Out} {m k:List Nat} {xs ys:List Value} (h1:DenL E w (n.svs m) xs) (h2:DenL E w (o.svs k) ys):DenL E w (Step.svs [0] ⟨n,o⟩) (xs++ys):=
 DenL.app (Node.svs_of (RdL.mono (fun b _ hb=>hz.set hb) (Node.svs_rd h1))) (Out.svs_of (RdL.mono (fun b _ hb=>hz.set hb) (Out.svs_rd h2)))
def dRpS (T:TypeId):Dec Step where
 dec:=fun s=>match s with
  | .rp _ T' cs 0=>if T'=T then (match Node.of (cs.take 17),Out.of (cs.drop 17) with | some (n,_),some (o,_)=>some ⟨n,o⟩ | _,_=>none) else none
  | _=>none
 can:=fun s=> .rp [0] T (s.svs [0]) 0
 Okp:=fun s=>s.n.Ok
 okp:=fun s E w v ⟨_,xs,_,_,_,hl⟩=>by
  have h:=hl.take 17
  have e:(Step.svs [0] s).take 17=s.n.svs [0]:=by unfold Step.svs;exact List.take_left' rfl
  rw [e] at h
  exact Node.ok_of (Node.svs_rd h)
 ok:=by
  intro s x h E w v hz hd
  split at h
  case h_2=>cases h
  rename_i ls T' cs
  split at h
  case isFalse=>cases h
  rename_i hT
  subst hT
  split at h
  case h_2=>cases h
  rename_i n m o k e1 e2
  simp only [Option.some.injEq] at h
  subst h
  obtain ⟨b,xs,hv,hb,hh,hl⟩:=hd
  have h3:=ztW hz (Node.of_ok e1 (hl.take 17)) (Out.of_ok e2 (hl.drop 17))
  rw [List.take_append_drop] at h3
  exact ⟨b,xs,hv,hz.set hb,hh,h3⟩
noncomputable def tabX:List Ent:=[zjH,zgW,zhZ,zuL,eRec]
theorem zfr:∀ e∈tabX,zaf Tryz.prog e:=zaa zed (zaa zdg (zaa zfM (zaa zec (zaa zdE zad))))
theorem zlk (s:Step):FnC Tryz.prog 113 [(dRpS 115).can s] (.int .i64 (zal s.n.kept).1) D2:=by
 refine FnG.of_vc (zaj zfr fun _=>none) Tryz.func113 rfl (by decide) rfl 300 (p:=fun (V:List PE→Prop)=>let v0:=Prod.fst (zal s.n.kept);True∧True∧True∧v0=v0∧True) (by kernel_rfl) ?_
 simp only [imp_self,implies_true,true_and,and_true,zae,zag]
def zgN:Ent:=ent1 113 (dRpS 115) fun s=>([],.int .i64 (zal s.n.kept).1,D2)
theorem zcw:zaf Tryz.prog zgN:=zan (zlk default).1 fun s h=>zlk s
def zbb (n:Node):Bool:=mayC (za0 n)&&zcq (za0 n).voters n.yes
theorem zgl (s:Step) (hn:SmallN s.n):FnC Tryz.prog 139 [(dRpS 115).can s] (.bool (zbb s.n)) D2:=by
 refine FnG.of_vc (zaj zfr fun _=>none) Tryz.func139 rfl (by decide) rfl 300 (p:=fun (V:List PE→Prop)=>let v1:=za0 s.n;True∧(SmallN s.n∧zaq v1∧True)∧(mayC v1&&zcq v1.voters s.n.yes)=zbb s.n∧True) (by kernel_rfl) ?_
 simp only [imp_self,implies_true,true_and,and_true,zae,zag]
 exact ⟨⟨hn,zbU hn⟩,rfl⟩
def zuT:Ent:=ent1 139 (dRpS 115) fun s=>([SmallN s.n],.bool (zbb s.n),D2)
theorem zgU:zaf Tryz.prog zuT:=zan (zgl default zbE).1 fun s h=>zgl s (h _ (by simp))
def runS (s:Step) (role:Int):Step:=⟨{s.n with elapsed:=0,lead:=0,role:=role,yes:=[s.n.id]},s.o⟩
theorem zmO {s:Step} {role:Int} (h:SmallN s.n):SmallN (runS s role).n:=⟨h.k,by simp [runS],h.peers,h.reads⟩
structure SmallO (o:Out):Prop where
 records:o.records.length≤1000000
 messages:o.messages.length≤1000000
 ready:o.ready.length≤1000000
 lost:o.lost.length≤1000000
theorem SmallN.ls {n:Node} (h:SmallN n):n.kept.entries.length≤17592186044416∧n.yes.length≤17592186044416∧n.peers.length≤17592186044416∧n.reads.length≤17592186044416∧n.kept.entries.length≤1000000:=by
 have h1:=h.k.1.1;have h2:=h.yes;have h3:=h.peers;have h4:=h.reads
 omega
theorem SmallO.ls {n:Out} (h:SmallO n):n.records.length≤17592186044416∧n.messages.length≤17592186044416∧n.ready.length≤17592186044416∧n.lost.length≤17592186044416:=by
 have h1:=h.records;have h2:=h.messages;have h3:=h.ready;have h4:=h.lost
 omega
theorem ztf (s:Step) (role:Int) (hn:SmallN s.n) (ho:SmallO s.o):FnG Tryz.prog 78 3 (wMi s) [.ptr 2 0,dInt.L.can role] (.bool (zbb (runS s role).n)) (wMo (runS s role)):=by
 refine FnG.of_vc (zaj (zaa zgU zad) fun _=>none) Tryz.func78 rfl (by decide) rfl 300 (p:=fun (V:List PE→Prop)=>let v1:=s.n;let v3:=v1.id;let v7:=v1.reads;let v12:=Step.o (runS s role);let v13:=Step.n (runS s role);let v17:=(0:Int);let v22:=Node.mk v3 role v1.kept v1.commit v17 v17 ([v3]) v1.peers v1.round v7;True∧True∧(v1.kept.entries.length≤17592186044416∧List.length ([v3])≤17592186044416∧v1.peers.length≤17592186044416∧v7.length≤17592186044416∧s.o.records.length≤17592186044416∧s.o.messages.length≤17592186044416∧s.o.ready.length≤17592186044416∧s.o.lost.length≤17592186044416∧SmallN v22∧True)∧zbb v22=zbb v13∧v3=v13.id∧role=v13.role∧qN12 v1 v13 (v17=v13.lead∧v17=v13.elapsed∧v1.round=v13.round∧v1.kept.entries=v13.kept.entries∧([v3])=v13.yes∧v1.peers=v13.peers∧v7=v13.reads∧qO13 s.o v12 (s.o.lost=v12.lost∧True))) (by kernel_rfl) ?_
 simp only [qN12,qO13,imp_self,implies_true,true_and,and_true,zae,zag]
 obtain ⟨b1,b2,b3,b4,_⟩:=hn.ls
 obtain ⟨c1,c2,c3,c4⟩:=ho.ls
 refine ⟨⟨b1,by simp,b3,b4,c1,c2,c3,c4,zmO (role:=role) hn⟩,?_⟩
 simp only [runS,and_self]
def eRun:Ent:=zcC 78 3 mW dInt.L vrW [1,0] glW fun s role=>([SmallN s.n,SmallO s.o],.bool (zbb (runS s role).n),wMo (runS s role))
theorem zoc:SmallO default:=⟨by decide,by decide,by decide,by decide⟩
theorem zpM:zaf Tryz.prog eRun:=zaL (ztf default 0 zbE zoc).1 fun s r h=>ztf s r (h _ (by simp)) (h _ (by simp))
def layE (s:Step) (e:Entry):Entry:={e with index:=IntKind.i64.wrap ((zal s.n.kept).1+1),term:=s.n.kept.term}
def layS (s:Step) (e:Entry):Step:=recS s (entR (layE s e))
theorem ztr (s:Step) (e:Entry) (hn:SmallN s.n) (ho:SmallO s.o) (he:zcH e):FnG Tryz.prog 105 3 (wMi s) [.ptr 2 0,dEnt2.can e] (.tup []) (wMo (layS s e)):=by
 refine FnG.of_vc (zaj (zaa zcw zfr) fun _=>none) Tryz.func105 rfl (by decide) rfl 300 (p:=fun (V:List PE→Prop)=>let v2:=s.n.kept;let v3:=Step.o (layS s e);let v4:=Step.n (layS s e);let v5:=s.o.records.length;let v6:=(0:Int);let v8:=v2.entries.length;let v11:=Record.mk (2:Int) v6 v6 (Entry.mk (IntKind.wrap IntKind.i64 (Prod.fst (zal v2)+(1:Int))) v2.term e.kind e.config e.data) v6 (Snap.mk v6 v6 (Config.mk [] []) (ByteArray.mk #[]));let v12:=recS s v11;True∧(v8≤17592186044416∧s.n.yes.length≤17592186044416∧s.n.peers.length≤17592186044416∧s.n.reads.length≤17592186044416∧v5≤17592186044416∧s.o.messages.length≤17592186044416∧s.o.ready.length≤17592186044416∧s.o.lost.length≤17592186044416∧True)∧(v5≤1000000∧v8≤1000000∧SmallR v11∧zgg v2 v11∧(2:Int)≠(4:Int)∧True)∧qN0 v12.n v4 (qN3 v12.n v4 (qO13 v12.o v3 (v12.o.lost=v3.lost∧True)))) (by kernel_rfl) ?_
 simp only [qN0,qN3,qO13,imp_self,implies_true,true_and,and_true,zae,zag]
 obtain ⟨b1,b2,b3,b4,b5⟩:=hn.ls
 obtain ⟨c1,c2,c3,c4⟩:=ho.ls
 refine ⟨⟨b1,b2,b3,b4,c1,c2,c3,c4⟩,⟨ho.records,b5,⟨he,⟨Nat.zero_le _,Nat.zero_le _⟩⟩,(fun h=>absurd (show (2:Int)=3 from h) (by decide)),by decide⟩,?_⟩
 simp only [layS,layE,entR,zs,and_self]
def eLay:Ent:=zcC 105 3 mW dEnt2 vrW [1,2] glW fun s e=>([SmallN s.n,SmallO s.o,zcH e],.tup [],wMo (layS s e))
theorem zkH:zaf Tryz.prog eLay:=zaL (ztr default default zbE zoc ⟨by decide,by decide⟩).1 fun s r h=>ztr s r (h _ (by simp)) (h _ (by simp)) (h _ (by simp))
def askM (s:Step) (m:Message) (v:Int):Message:={m with index:=(zal s.n.kept).1,logTerm:=(zal s.n.kept).2,to_:=v}
def askS (s:Step) (m:Message):Step:=⟨s.n,{s.o with messages:=s.o.messages++(zay (za0 s.n).voters s.n.id).map fun v=>msgS s (askM s m v)}⟩
theorem ztc (s:Step) (m:Message) (hn:SmallN s.n) (ho:SmallO s.o) (hm:s.o.messages.length≤900000) (hv:(za0 s.n).voters.length≤4000):FnG Tryz.prog 80 3 (wMi s) [.ptr 2 0,dMsg2.can m] (.tup []) (wMoM (askS s m)):=by
 refine FnG.of_vc (zaj zfr fun _=>none) Tryz.func80 rfl (by decide) rfl 300 (p:=fun (V:List PE→Prop)=>True∧(s.n.kept.entries.length≤17592186044416∧True)∧(s.n.kept.entries.length≤17592186044416∧s.n.yes.length≤17592186044416∧s.n.peers.length≤17592186044416∧s.n.reads.length≤17592186044416∧SmallN s.n∧True)∧V []) (by kernel_rfl) ?_
 simp only [qN0,qN14,qN3,qN7,qO4,imp_self,implies_true,true_and,and_true,zae,zag]
 obtain ⟨b1,b2,b3,b4,b5⟩:=hn.ls
 obtain ⟨V,hV⟩:∃ V,(za0 s.n).voters=V:=⟨_,rfl⟩
 refine ⟨b1,⟨b1,b2,b3,b4,hn⟩,?_⟩
 refine LoopG.head (zaj zfr fun _=>none) 0 (A:=Nat×Int) (fun j=>j.1≤V.length) (fun j=>[(24,.int .i64 j.1),(23,.int .i64 (V.length:Int)),(22,.sl [60] (.rInts V))]) (fun j=>[(2,.cells 115 (wCs [1] s 3 4 5 6 7 12 9 10)),(7,.row 139 [2,61] (.rRecord s.o.records)),(9,.row 96 [2,61] (.rRead s.o.ready)),(10,.row 3 [2,61] (.rInts s.o.lost)),(8,.dead),(12,.row 39 [2,61] (.rMessage (s.o.messages++(zay (V.take j.1) s.n.id).map fun v=>msgS s (askM s m v)))),(11,.cells 39 ((askM s m j.2).svs [2])),(60,.dead),(61,.dead)]) (fun j=>V.length-j.1) (0,m.to_) (Nat.zero_le _) (p0:=let v0:=m.snap;let v2:=s.n;let v21:=Config.voters (za0 v2);let v24:=askM s m m.to_;let v31:=v24.snap;(0:Int)=(↑(0:Nat):Int)∧(↑(v21.length):Int)=(↑(List.length V):Int)∧v21=V∧qN0 v2 v2 (qN7 v2 v2 (qO4 s.o s.o (s.o.messages=s.o.messages++List.map (fun (v:Int)=>msgS s (askM s m v)) (zay (List.take (0:Nat) V) v2.id)∧m.kind=v24.kind∧m.from_=v24.from_∧m.to_=v24.to_∧m.term=v24.term∧Prod.fst (zal v2.kept)=v24.index∧Prod.snd (zal v2.kept)=Message.logTerm v24∧m.entries=v24.entries∧m.commit=v24.commit∧m.round=v24.round∧m.ok=v24.ok∧v0.index=v31.index∧v0.term=v31.term∧v0.config.voters=v31.config.voters∧v0.config.learners=v31.config.learners∧v0.data=v31.data∧m.ask=v24.ask∧m.seq=v24.seq∧m.data=v24.data∧qN14 v2 v2 (v2.reads=v2.reads∧True))))) (by kernel_rfl) ?_ 300 (p:=fun (x:Nat×Int) (V_1:List PE→Prop)=>let v6:=Step.o (askS s m);let v7:=Step.n (askS s m);let v10:=(↑(List.length V):Int);let v13:=(↑(Prod.fst x):Int);let v14:=List.getD V (Prod.fst x) (0:Int) != s.n.id;let v15:=decide (v13<v10);let v16:=s.o.messages++List.map (fun (v:Int)=>msgS s (askM s m v)) (zay (List.take (Prod.fst x) V) s.n.id);True∧True∧(v15=true→((0:Int)≤v13∧v13<v10∧True)∧True∧True∧True∧(v14=true→(v16.length≤1000000∧True)∧True∧V_1 [PE.a,PE.a])∧(v14=false→True∧V_1 [PE.a,PE.b]))∧(v15=false→qN0 s.n v7 (qN3 s.n v7 (qO4 s.o v6 (v16=v6.messages∧True))))) (by intro x;kernel_rfl) ?_
 ·simp [zay,askM,hV]
 rintro ⟨j,t⟩ hj
 dsimp only at hj
 simp only [qN0,qN14,qN3,qN7,qO4,imp_self,implies_true,true_and,and_true,decide_eq_true_eq,decide_eq_false_iff_not]
 have hdl:(zay (V.take j) s.n.id).length≤4000:=by
  have h1:(zay (V.take j) s.n.id).length≤(V.take j).length:=List.length_filter_le _ _
  rw [hV] at hv
  simp only [List.length_take] at h1;omega
 have hsn:j<V.length→zay (V.take (j+1)) s.n.id=zay (V.take j) s.n.id++(if (V.getD j 0 != s.n.id)=true then [V.getD j 0] else []):=fun hj=>by
  rw [za3 (d:=(0:Int)) hj,zay,List.filter_append]
  unfold zay
  congr 1
  simp only [List.filter_cons,List.filter_nil,bne]
 refine ⟨fun h6=>⟨⟨by omega,h6⟩,fun h7=>⟨by simp only [List.length_append,List.length_map];omega,?_⟩,fun h7=>?_⟩,fun h6=>?_⟩
 ·refine Back.mk (j+1,V.getD j 0) (by show j+1≤_;omega) (by show _-(j+1)<_-j;omega) (p0:=let v9:=askM s m t;let v14:=Message.logTerm v9;let v20:=v9.snap;let v25:=(↑(List.length V):Int);let v26:=List.getD V j (0:Int);let v27:=askM s m v26;let v28:=v27.snap;let v30:=zaJ (Step.mk s.n (Out.mk s.o.records (s.o.messages++List.map (fun (v:Int)=>msgS s (askM s m v)) (zay (List.take j V) s.n.id)) s.o.ready s.o.lost)) (Message.mk v9.kind v9.from_ v26 v9.term v9.index v14 v9.entries v9.commit v9.round v9.ok v20 v9.ask v9.seq v9.data);IntKind.wrap IntKind.i64 ((↑j:Int)+(1:Int))=(↑(j+(1:Nat)):Int)∧v25=v25∧V=V∧qN0 v30.n s.n (qN7 v30.n s.n (qO4 v30.o s.o (v30.o.messages=s.o.messages++List.map (fun (v:Int)=>msgS s (askM s m v)) (zay (List.take (j+(1:Nat)) V) s.n.id)∧v9.kind=v27.kind∧v9.from_=v27.from_∧v26=v27.to_∧v9.term=v27.term∧v9.index=v27.index∧v14=Message.logTerm v27∧v9.entries=v27.entries∧v9.commit=v27.commit∧v9.round=v27.round∧v9.ok=v27.ok∧v20.index=v28.index∧v20.term=v28.term∧v20.config.voters=v28.config.voters∧v20.config.learners=v28.config.learners∧v20.data=v28.data∧v9.ask=v27.ask∧v9.seq=v27.seq∧v9.data=v27.data∧qN14 v30.n s.n (v30.n.reads=s.n.reads∧True))))) (by kernel_rfl) ?_
  simp only [qN0,qN14,qN3,qN7,qO4,true_and,and_true,zbj (i:=j) (by rw [hV] at hv;omega)]
  rw [hsn (by omega),if_pos h7]
  refine ⟨by omega,?_⟩
  simp [zaJ,msgS,askM]
  by_cases g:m.term=0<;>simp [g]
 ·refine Back.mk (j+1,V.getD j 0) (by show j+1≤_;omega) (by show _-(j+1)<_-j;omega) (p0:=let v16:=askM s m t;let v22:=v16.snap;let v28:=(↑(List.length V):Int);let v30:=List.getD V j (0:Int);let v31:=askM s m v30;let v32:=v31.snap;IntKind.wrap IntKind.i64 ((↑j:Int)+(1:Int))=(↑(j+(1:Nat)):Int)∧v28=v28∧V=V∧qN0 s.n s.n (qN7 s.n s.n (qO4 s.o s.o (s.o.messages++List.map (fun (v:Int)=>msgS s (askM s m v)) (zay (List.take j V) s.n.id)=s.o.messages++List.map (fun (v:Int)=>msgS s (askM s m v)) (zay (List.take (j+(1:Nat)) V) s.n.id)∧v16.kind=v31.kind∧v16.from_=v31.from_∧v30=v31.to_∧v16.term=v31.term∧v16.index=v31.index∧Message.logTerm v16=Message.logTerm v31∧v16.entries=v31.entries∧v16.commit=v31.commit∧v16.round=v31.round∧v16.ok=v31.ok∧v22.index=v32.index∧v22.term=v32.term∧v22.config.voters=v32.config.voters∧v22.config.learners=v32.config.learners∧v22.data=v32.data∧v16.ask=v31.ask∧v16.seq=v31.seq∧v16.data=v31.data∧qN14 s.n s.n (s.n.reads=s.n.reads∧True))))) (by kernel_rfl) ?_
  simp only [qN0,qN14,qN3,qN7,qO4,true_and,and_true,zbj (i:=j) (by rw [hV] at hv;omega)]
  rw [hsn (by omega),if_neg (by rw [h7];decide),List.append_nil]
  exact ⟨by omega,rfl,rfl,rfl,rfl,rfl,rfl,rfl,rfl,rfl,rfl,rfl,rfl,rfl,rfl,rfl,rfl,rfl,rfl,rfl⟩
 ·have:j=V.length:=by omega
  subst this
  rw [List.take_length]
  simp only [askS,hV,and_self]
def zuX:Ent:=zcC 80 3 mW dMsg2 vrW [1,2] glW fun s m=>([SmallN s.n,SmallO s.o,s.o.messages.length≤900000,(za0 s.n).voters.length≤4000],.tup [],wMoM (askS s m))
theorem zmy:zaf Tryz.prog zuX:=zaL (fnB Tryz.func80 (by decide) rfl) fun s m h=>ztc s m (h _ (by simp)) (h _ (by simp)) (h _ (by simp)) (h _ (by simp))
def zen:Snap:=⟨0,0,⟨[],[]⟩,zs⟩
def zbW (m:Message) (ok:Bool) (i:Int):Message:=⟨6,0,m.from_,0,i,0,[],0,m.round,ok,zen,0,0,zs⟩
theorem zdG (s:Step) (m:Message) (ok:Bool) (i:Int) (ho:s.o.messages.length≤1000000):FnG Tryz.prog 153 3 (wMi s) [.ptr 2 0,dMessage.L.can m,dBool.L.can ok,dInt.L.can i] (.tup []) (wMoM (zaJ s (zbW m ok i))):=by
 refine FnG.of_vc (zaj (zaa zec zad) fun _=>none) Tryz.func153 rfl (by decide) rfl 300 (p:=fun (V:List PE→Prop)=>let v0:=(0:Int);let v1:=zaJ s (zbW m ok i);let v7:=zaJ s (Message.mk (6:Int) v0 m.from_ v0 i v0 [] v0 m.round ok (Snap.mk v0 v0 (Config.mk [] []) (ByteArray.mk #[])) v0 v0 (ByteArray.mk #[]));True∧(s.o.messages.length≤1000000∧True)∧qN0 v7.n v1.n (qN3 v7.n v1.n (qO4 v7.o v1.o (v7.o.messages=v1.o.messages∧True)))) (by kernel_rfl) ?_
 simp only [qN0,qN3,qO4,imp_self,implies_true,true_and,and_true,zae,zag]
 simp [ho,zbW,zen,zs]
theorem zjV (s:Step) (m:Message) (ok:Bool) (i:Int) (ho:s.o.messages.length≤1000000):FnG Tryz.prog 153 3 (sMi 115 s) [.ptr 2 0,dMessage.L.can m,dBool.L.can ok,dInt.L.can i] (.tup []) (sMoM 115 (zaJ s (zbW m ok i))):=by
 refine FnG.of_vc (zaj (zaa zpL zad) fun _=>none) Tryz.func153 rfl (by decide) rfl 300 (p:=fun (V:List PE→Prop)=>let v0:=(0:Int);let v1:=zaJ s (zbW m ok i);let v7:=zaJ s (Message.mk (6:Int) v0 m.from_ v0 i v0 [] v0 m.round ok (Snap.mk v0 v0 (Config.mk [] []) (ByteArray.mk #[])) v0 v0 (ByteArray.mk #[]));True∧(s.o.messages.length≤1000000∧True)∧qN0 v7.n v1.n (qN5 v7.n v1.n (qO4 v7.o v1.o (v7.o.messages=v1.o.messages∧True)))) (by kernel_rfl) ?_
 simp only [qN0,qN5,qO4,imp_self,implies_true,true_and,and_true,zae,zag]
 simp [ho,zbW,zen,zs]
def zuY:Ent:=zso 153 3 mW dMessage.L dBool.L dInt.L vrW [1,0,0,0] glW fun s m ok i=>([s.o.messages.length≤1000000],.tup [],wMoM (zaJ s (zbW m ok i)))
theorem zik:zaf Tryz.prog zuY:=zhU (zdG default default true 0 (by decide)).1 fun s m ok i h=>zdG s m ok i (h _ (by simp))
def ztI:Ent:=zso 153 3 mWS dMessage.L dBool.L dInt.L vrS [1,0,0,0] glS fun s m ok i=>([s.o.messages.length≤1000000],.tup [],sMoM 115 (zaJ s (zbW m ok i)))
theorem zqv:zaf Tryz.prog ztI:=zhU (zdG default default true 0 (by decide)).1 fun s m ok i h=>zjV s m ok i (h _ (by simp))
def toM (s:Step) (p:Peer):Message:=
 if p.next≤s.n.kept.snap.index then ⟨7,0,p.node,0,0,0,[],0,s.n.round,false,s.n.kept.snap,0,0,zs⟩
 else ⟨5,0,p.node,0,IntKind.i64.wrap (p.next-1),(zaz s.n.kept (IntKind.i64.wrap (p.next-1))).1,(zb5 s.n.kept p.next 8).1,s.n.commit,s.n.round,false,zen,0,0,zs⟩
def toS (s:Step) (p:Peer):Step:=zaJ s (toM s p)
def tabY:List Ent:=[zfL,zt2,zgS,zuL]
theorem ztV:∀ e∈tabY,zaf Tryz.prog e:=zaa zcx (zaa zpK (zaa zdf (zaa zec zad)))
theorem zv9 (s:Step) (p:Peer) (hn:SmallN s.n) (ho:s.o.messages.length≤1000000):FnG Tryz.prog 137 3 (wMi s) [.ptr 2 0,dPeer.L.can p] (.tup []) (wMoM (toS s p)):=by
 refine FnG.of_vc (zaj ztV fun _=>none) Tryz.func137 rfl (by decide) rfl 300 (p:=fun (V:List PE→Prop)=>let v1:=s.n.kept;let v2:=s.n.round;let v4:=Step.o (toS s p);let v5:=Step.n (toS s p);let v19:=(0:Int);let v20:=ByteArray.mk #[];let v33:=IntKind.wrap IntKind.i64 (p.next-(1:Int));let v34:=decide (p.next≤v1.snap.index);let v35:=zaJ s (Message.mk (7:Int) v19 p.node v19 v19 v19 [] v19 v2 false v1.snap v19 v19 v20);let v41:=zaJ s (Message.mk (5:Int) v19 p.node v19 v33 (Prod.fst (zaz v1 v33)) (Prod.fst (zb5 v1 p.next (8:Int))) s.n.commit v2 false (Snap.mk v19 v19 (Config.mk [] []) v20) v19 v19 v20);True∧True∧True∧(v34=true→(zaq v1.snap.config∧s.o.messages.length≤1000000∧True)∧qN0 v35.n v5 (qN3 v35.n v5 (qO4 v35.o v4 (v35.o.messages=v4.messages∧True))))∧(v34=false→(v1.entries.length≤17592186044416∧True)∧(v1.entries.length≤17592186044416∧zb2 v1∧v19≤8∧True)∧(s.o.messages.length≤1000000∧True)∧qN0 v41.n v5 (qN3 v41.n v5 (qO4 v41.o v4 (v41.o.messages=v4.messages∧True))))) (by kernel_rfl) ?_
 simp only [qN0,qN3,qO4,imp_self,implies_true,true_and,and_true,zae,zag]
 refine ⟨fun h=>?_,fun h=>?_⟩
 ·have h:p.next≤s.n.kept.snap.index:=by simpa using h
  have e:toS s p=zaJ s ⟨7,0,p.node,0,0,0,[],0,s.n.round,false,s.n.kept.snap,0,0,⟨#[]⟩⟩:=by rw [toS,toM,if_pos h];rfl
  rw [e]
  refine ⟨⟨hn.k.2,ho⟩,?_⟩
  simp only [and_self]
 ·have h:¬ p.next≤s.n.kept.snap.index:=by simpa using h
  have e:toS s p=zaJ s ⟨5,0,p.node,0,IntKind.i64.wrap (p.next-1),(zaz s.n.kept (IntKind.i64.wrap (p.next-1))).1,(zb5 s.n.kept p.next 8).1,s.n.commit,s.n.round,false,⟨0,0,⟨[],[]⟩,⟨#[]⟩⟩,0,0,⟨#[]⟩⟩:=by rw [toS,toM,if_neg h];rfl
  rw [e]
  refine ⟨hn.ls.1,⟨hn.ls.1,hn.k,by decide⟩,ho,?_⟩
  simp only [and_self]
def eTo:Ent:=zcC 137 3 mW dPeer.L vrW [1,0] glW fun s p=>([SmallN s.n,s.o.messages.length≤1000000],.tup [],wMoM (toS s p))
theorem zpF:zaf Tryz.prog eTo:=zaL (zv9 default default zbE (by decide)).1 fun s p h=>zv9 s p (h _ (by simp)) (h _ (by simp))
theorem toM_o (n:Node) (o:Out) (p:Peer):toM ⟨n,o⟩ p=toM ⟨n,default⟩ p:=rfl
theorem toM_s (s:Step) (p:Peer):toM s p=toM ⟨s.n,default⟩ p:=rfl
theorem zwc (n:Node) (o:Out) (m:Message):msgS ⟨n,o⟩ m=msgS ⟨n,default⟩ m:=rfl
theorem zwb (s:Step) (m:Message):msgS s m=msgS ⟨s.n,default⟩ m:=rfl
def allS (s:Step):Step:=⟨s.n,{s.o with messages:=s.o.messages++s.n.peers.map fun p=>msgS s (toM s p)}⟩
theorem zwL (s:Step) (hn:SmallN s.n) (ho:s.o.messages.length+s.n.peers.length≤1000000):FnG Tryz.prog 75 3 (wMi s) [.ptr 2 0] (.tup []) (wMoM (allS s)):=by
 refine FnG.of_vc (zaj (zaa zpF zad) fun _=>none) Tryz.func75 rfl (by decide) rfl 300 (p:=fun (V:List PE→Prop)=>True∧V []) (by kernel_rfl) ?_
 simp only [qN0,qN14,qN3,qN7,qO4,imp_self,implies_true,true_and,and_true,zae,zag]
 have hpl:=hn.peers
 refine LoopG.head (zaj (zaa zpF zad) fun _=>none) 0 (A:=Nat) (fun j=>j≤s.n.peers.length) (fun j=>[(10,.int .i64 j)]) (fun j=>[(2,.cells 115 (wCs [1] s 3 4 5 6 7 12 9 10)),(7,.row 139 [2,61] (.rRecord s.o.records)),(9,.row 96 [2,61] (.rRead s.o.ready)),(10,.row 3 [2,61] (.rInts s.o.lost)),(8,.dead),(12,.row 39 [2,61] (.rMessage (s.o.messages++(s.n.peers.take j).map fun p=>msgS s (toM s p)))),(61,.dead)]) (fun j=>s.n.peers.length-j) 0 (Nat.zero_le _) (p0:=let v26:=(↑(s.n.peers.length):Int);(0:Int)=(↑(0:Nat):Int)∧v26=v26∧qN0 s.n s.n (qN7 s.n s.n (qO4 s.o s.o (s.o.messages=s.o.messages++List.map (fun (p:Peer)=>msgS s (toM s p)) (List.take (0:Nat) s.n.peers)∧qN14 s.n s.n (s.n.reads=s.n.reads∧True))))) (by kernel_rfl) ?_ 300 (p:=fun (x:Nat) (V:List PE→Prop)=>let v3:=Step.n (allS s);let v4:=Step.o (allS s);let v6:=(↑x:Int);let v9:=s.n.peers.length;let v14:=decide (v6<(↑v9:Int));let v15:=s.o.messages++List.map (fun (p:Peer)=>msgS s (toM s p)) (List.take x s.n.peers);True∧True∧(v14=true→((0:Int)≤v6∧v6<(↑v9:Int)∧x<v9∧True)∧(SmallN s.n∧v15.length≤1000000∧True)∧True∧V [PE.a])∧(v14=false→qN0 s.n v3 (qN3 s.n v3 (qO4 s.o v4 (v15=v4.messages∧True))))) (by intro x;kernel_rfl) ?_
 ·simp
 rintro j hj
 simp only [qN0,qN14,qN3,qN7,qO4,imp_self,implies_true,true_and,and_true,decide_eq_true_eq,decide_eq_false_iff_not]
 refine ⟨fun h6=>?_,fun h6=>?_⟩
 ·refine ⟨⟨by omega,by omega,by omega⟩,⟨hn,by simp only [List.length_append,List.length_map,List.length_take];omega⟩,?_⟩
  refine Back.mk (j+1) (by omega) (by omega) (p0:=let v3:=s.n.peers;let v10:=(↑(v3.length):Int);let v11:=toS (Step.mk s.n (Out.mk s.o.records (s.o.messages++List.map (fun (p:Peer)=>msgS s (toM s p)) (List.take j v3)) s.o.ready s.o.lost)) (List.getD v3 j default);IntKind.wrap IntKind.i64 ((↑j:Int)+(1:Int))=(↑(j+(1:Nat)):Int)∧v10=v10∧qN0 v11.n s.n (qN7 v11.n s.n (qO4 v11.o s.o (v11.o.messages=s.o.messages++List.map (fun (p:Peer)=>msgS s (toM s p)) (List.take (j+(1:Nat)) v3)∧qN14 v11.n s.n (v11.n.reads=s.n.reads∧True))))) (by kernel_rfl) ?_
  have e1:=za3 (l:=s.n.peers) (d:=(default:Peer)) (i:=j) (by omega)
  simp only [qN0,qN14,qN3,qN7,qO4,zbj (i:=j) (by omega),e1,toS,zaJ,toM_o,zwc,fun p=>toM_s s p,fun m=>zwb s m,List.map_append,List.map_cons,List.map_nil,List.append_assoc,true_and,and_true]
  omega
 ·obtain rfl:j=s.n.peers.length:=by omega
  simp only [List.take_length,allS,and_self]
def znx:Ent:=zj7 75 3 mW vrW [1] glW fun s=>([SmallN s.n,s.o.messages.length+s.n.peers.length≤1000000],.tup [],wMoM (allS s))
theorem zeg:zaf Tryz.prog znx:=zcB (fnB Tryz.func75 (by decide) rfl) fun s h=>zwL s (h _ (by simp)) (h _ (by simp))
def isV (v x:Int):Bool:=x==v
def zaQ (ps:List Peer) (v:Int):Int:=zaH (isV v) (ps.map (·.node))
theorem zde (ps:List Peer) (i:Nat):(ps.map (·.node)).getD i 0=(ps.getD i default).node:=by
 simp only [List.getD_eq_getElem?_getD,List.getElem?_map]
 cases ps[i]? <;> rfl
theorem zfI {p:Int→Bool}:∀ (l:List Int),-1≤zaH p l∧zaH p l<l.length
 | []=>⟨by simp [zaH],by simp [zaH]⟩
 | x::l=>by
  have:=zfI (p:=p) l
  unfold zaH
  simp only [List.length_cons]
  split
  ·omega
  ·split<;>omega
theorem zc3 (ps:List Peer) (v:Int):zaQ ps v<(ps.length:Int):=by
 have:=(zfI (p:=isV v) (ps.map (·.node))).2
 simpa [zaQ] using this
def dCloP:Dec Int where
 dec:=fun s=>match s with | .clo 171 [t]=>dRpInt.dec t | _=>none
 can:=fun x=> .clo 171 [dRpInt.can x]
 Okp:=fun x=>True
 okp:=fun x E w v h=>trivial
 ok:=by
  intro s x h E w v hz hd
  split at h
  case h_2=>simp at h
  obtain ⟨xs,hv,hd⟩:=hd
  match xs,hd with
  | [u],hd=>exact ⟨[u],hv,dRpInt.ok _ _ h E w u hz hd.1,trivial⟩
theorem zlM (x:Peer) (v:Int):FnC Tryz.prog 171 [dPeer.can x,dRpInt.can v] (.bool (isV v x.node)) D2:=by
 refine FnG.of_vc (zaj zad fun _=>none) Tryz.func171 rfl (by decide) rfl 300 (p:=fun (V:List PE→Prop)=>True∧True∧(x.node==v)=isV v x.node∧True) (by kernel_rfl) ?_
 simp only [isV,true_and,and_true]
def zwz:Ent:=ent2 171 dPeer dRpInt fun x v=>([],.bool (isV v x.node),D2)
theorem zjC:zaf Tryz.prog zwz:=zav (zlM default 0).1 fun x v _=>zlM x v
theorem zjq (l:List Peer) (v:Int):FnC Tryz.prog 170 [dPeers.can l,dCloP.can v] (.int .i64 (zaQ l v)) D2:=by
 refine FnC.g2 dPeers dCloP l v (fnB Tryz.func170 (by decide) rfl) fun hl _=>?_
 refine FnG.of_vc (zaj (zaa zjC zad) fun _=>none) Tryz.func170 rfl (by decide) rfl 300 (p:=fun (V:List PE→Prop)=>True∧True∧V []) (by kernel_rfl) ?_
 simp only [true_and,and_true]
 refine LoopG.head (zaj (zaa zjC zad) fun _=>none) 0 (A:=Nat) (fun j=>j≤l.length∧∀ i,i<j→isV v (l.getD i default).node=false) (fun j=>[(8,.int .i64 j)]) (fun _=>[]) (fun j=>l.length-j) 0 ⟨Nat.zero_le _,fun i h=>absurd h (by omega)⟩ (p0:=let v0:=(↑(l.length):Int);(0:Int)=(↑(0:Nat):Int)∧v0=v0∧l=l∧v=v∧True) (by kernel_rfl) ?_ 300 (p:=fun (x:Nat) (V:List PE→Prop)=>let v0:=(↑x:Int);let v1:=(↑(l.length):Int);let v2:=isV v (Peer.node (List.getD l x default));let v3:=decide (v0<v1);True∧True∧(v3=true→True∧((0:Int)≤v0∧v0<v1∧True)∧True∧(v2=true→True∧v0=zaQ l v∧True)∧(v2=false→True∧V [PE.a,PE.b]))∧(v3=false→True∧(-1:Int)=zaQ l v∧True)) (by intro x;kernel_rfl) ?_
 ·simp
 ·rintro j ⟨hj,h0⟩
  have hl44:=hl.1
  simp only [true_and,and_true,decide_eq_true_eq,decide_eq_false_iff_not]
  refine ⟨fun h1=>⟨by omega,fun h2=>?_,fun h2=>?_⟩,fun h1=>?_⟩
  ·exact (zdm (by simp only [List.length_map];omega) (fun i hi=>by rw [zde];exact h0 i hi) (by rw [zde];exact h2)).symm
  ·refine Back.mk (j+1) ⟨by omega,fun i hi=>?_⟩ (by omega) (p0:=let v0:=(↑(l.length):Int);IntKind.wrap IntKind.i64 ((↑j:Int)+(1:Int))=(↑(j+(1:Nat)):Int)∧v0=v0∧l=l∧v=v∧True) (by kernel_rfl) ?_
   ·by_cases h:i=j
    ·subst h;exact h2
    ·exact h0 i (by omega)
   ·simp [zbj (i:=j) (by omega)]
  ·exact (zc9 fun i hi=>by rw [zde];exact h0 i (by simp only [List.length_map] at hi;omega)).symm
def eIdxP:Ent:=ent2 170 dPeers dCloP fun l v=>([],.int .i64 (zaQ l v),D2)
theorem zs8:zaf Tryz.prog eIdxP:=zav (zjq [] 0).1 fun l m _=>zjq l m
theorem zo4 (s:Step) (v:Int):FnC Tryz.prog 115 [(dRpS 115).can s,dInt.can v] (.int .i64 (zaQ s.n.peers v)) D2:=by
 refine FnG.of_vc (zaj (zaa zs8 zad) fun _=>none) Tryz.func115 rfl (by decide) rfl 300 (p:=fun (V:List PE→Prop)=>let v0:=zaQ s.n.peers v;True∧True∧v0=v0∧True) (by kernel_rfl) ?_
 simp only [true_and,and_true]
def zs2:Ent:=ent2 115 (dRpS 115) dInt fun s v=>([],.int .i64 (zaQ s.n.peers v),D2)
theorem zif:zaf Tryz.prog zs2:=zav (zo4 default 0).1 fun s v _=>zo4 s v
def zdR (s:Step) (v:Int):Int:=if 0≤zaQ s.n.peers v then (s.n.peers.getD (zaQ s.n.peers v).toNat default).match_ else if v=s.n.id then (zal s.n.kept).1 else 0
def ze5 (s:Step):List Int:=(za0 s.n).voters.map (zdR s)
def za7 (s:Step):Step:=if (zaz s.n.kept (zd2 (ze5 s))).2=0∧(zaz s.n.kept (zd2 (ze5 s))).1=s.n.kept.term then ⟨{s.n with commit:=max s.n.commit (zd2 (ze5 s))},s.o⟩ else s
def tabZ:List Ent:=[zgW,zs2,zgN,zwu,zfL]
theorem znN:∀ e∈tabZ,zaf Tryz.prog e:=zaa zdg (zaa zif (zaa zcw (zaa zst (zaa zcx zad))))
theorem zsE (s:Step) (hn:SmallN s.n) (ho:SmallO s.o) (hv:(za0 s.n).voters.length≤4000):FnG Tryz.prog 106 3 (wMi s) [.ptr 2 0] (.tup []) (wMi (za7 s)):=by
 refine FnG.of_vc (zaj znN fun _=>none) Tryz.func106 rfl (by decide) rfl 300 (p:=fun (V:List PE→Prop)=>True∧(s.n.kept.entries.length≤17592186044416∧s.n.yes.length≤17592186044416∧s.n.peers.length≤17592186044416∧s.n.reads.length≤17592186044416∧SmallN s.n∧True)∧V []) (by kernel_rfl) ?_
 simp only [qN0,qN15,qN3,qO13,imp_self,implies_true,true_and,and_true,zae,zag]
 obtain ⟨b1,b2,b3,b4,b5⟩:=hn.ls
 obtain ⟨V,hV⟩:∃ V,(za0 s.n).voters=V:=⟨_,rfl⟩
 obtain ⟨c1,c2,c3,c4⟩:=ho.ls
 refine ⟨⟨b1,b2,b3,b4,hn⟩,?_⟩
 refine LoopG.head (zaj znN fun _=>none) 0 (A:=Nat) (fun j=>j≤V.length) (fun j=>[(18,.int .i64 j),(17,.int .i64 (V.length:Int)),(16,.sl [900] (.rInts V)),(2,.own 12)]) (fun j=>[(12,.row 3 [901] (.rInts ((V.take j).map (zdR s)))),(900,.dead),(901,.dead)]) (fun j=>V.length-j) 0 (Nat.zero_le _) (p0:=let v20:=Config.voters (za0 s.n);(0:Int)=(↑(0:Nat):Int)∧(↑(v20.length):Int)=(↑(List.length V):Int)∧v20=V∧List.map (zdR s) (List.take (0:Nat) V)=[]∧qN0 s.n s.n (qN3 s.n s.n (qO13 s.o s.o (s.o.lost=s.o.lost∧True)))) (by kernel_rfl) ?_ 300 (p:=fun (x:Nat) (V_1:List PE→Prop)=>let v1:=s.n;let v7:=v1.peers;let v11:=Step.o (za7 s);let v13:=v1.kept;let v15:=Step.n (za7 s);let v20:=v13.entries;let v21:=v13.snap;let v22:=(↑x:Int);let v25:=v21.config;let v26:=(0:Int);let v27:=v15.kept.snap;let v30:=v7.length;let v31:=(↑(List.length V):Int);let v35:=List.getD V x v26;let v36:=List.map (zdR s) (List.take x V);let v37:=zd2 v36;let v38:=v36.length;let v39:=zaQ v7 v35;let v40:=zaz v13 v37;let v41:=Int.toNat v39;let v42:=v35==v1.id;let v43:=decide (v22<v31);let v44:=Prod.snd v40==v26;let v45:=decide (v39≥v26);let v46:=zac v44 (Prod.fst v40==v13.term) false;True∧True∧(v43=true→(v26≤v22∧v22<v31∧True)∧True∧(v20.length≤17592186044416∧v1.yes.length≤17592186044416∧v30≤17592186044416∧v1.reads.length≤17592186044416∧s.o.records.length≤17592186044416∧s.o.messages.length≤17592186044416∧s.o.ready.length≤17592186044416∧s.o.lost.length≤17592186044416∧True)∧True∧((v45=true→v26≤v39)∧(v45=true→v39<(↑v30:Int))∧(v45=true→v41<v30)∧(v45=false→v42=true→v20.length≤17592186044416)∧(v45=false→v42=true→v1.yes.length≤17592186044416)∧(v45=false→v42=true→v30≤17592186044416)∧(v45=false→v42=true→v1.reads.length≤17592186044416)∧(v45=false→v42=true→s.o.records.length≤17592186044416)∧(v45=false→v42=true→s.o.messages.length≤17592186044416)∧(v45=false→v42=true→s.o.ready.length≤17592186044416)∧(v45=false→v42=true→s.o.lost.length≤17592186044416)∧True)∧((v38+List.length [zas v45 (Peer.match_ (List.getD v7 v41 default)) (zas v42 (Prod.fst (zal v13)) v26)])*(1024:Nat)≤140737488355328∧True)∧True∧V_1 [PE.a])∧(v43=false→(v38≤17592186044416∧v38≤1000000∧True)∧(v20.length≤17592186044416∧True)∧((v44=true→v44=true)∧(v44=true→v44=true)∧(v44=true→v44=true)∧(v44=true→v44=true)∧(v44=true→v44=true)∧(v44=true→v44=true)∧(v44=true→v44=true)∧(v44=true→v44=true)∧True)∧True∧zas v46 v1.id v1.id=v15.id∧zas v46 v1.role v1.role=v15.role∧zas v46 v13.term v13.term=v15.kept.term∧zas v46 v13.vote v13.vote=v15.kept.vote∧zas v46 v21.index v21.index=v27.index∧zas v46 v21.term v21.term=v27.term∧(if v46=true then v25.voters else v25.voters)=v27.config.voters∧(if v46=true then v25.learners else v25.learners)=v27.config.learners∧(if v46=true then v21.data else v21.data)=v27.data∧zas v46 (if v37>v1.commit then v37 else v1.commit) v1.commit=v15.commit∧zas v46 v1.lead v1.lead=v15.lead∧zas v46 v1.elapsed v1.elapsed=v15.elapsed∧zas v46 v1.round v1.round=v15.round∧qN15 v1 v15 (qO13 s.o v11 (s.o.lost=v11.lost∧True)))) (by intro x;kernel_rfl) ?_
 ·simp [hV]
 rintro j hj
 simp only [qN0,qN15,qN3,qO13,imp_self,implies_true,true_and,and_true,decide_eq_true_eq,decide_eq_false_iff_not]
 have hp:=fun v=>zc3 s.n.peers v
 refine ⟨fun h6=>⟨⟨by omega,h6⟩,⟨b1,b2,b3,b4,c1,c2,c3,c4⟩,⟨fun _=>hp _,fun h=>?_,fun _ _=>b1,fun _ _=>b2,fun _ _=>b3,fun _ _=>b4,fun _ _=>c1,fun _ _=>c2,fun _ _=>c3,fun _ _=>c4⟩,?_,?_⟩,fun h6=>?_⟩
 ·have:=hp (V.getD j 0);omega
 ·rw [hV] at hv;simp only [List.length_map,List.length_take,List.length_cons,List.length_nil];omega
 ·refine Back.mk (j+1) (by show j+1≤_;omega) (by show _-(j+1)<_-j;omega) (p0:=let v24:=(0:Int);let v25:=(↑(List.length V):Int);let v28:=List.getD V j v24;let v29:=zaQ s.n.peers v28;IntKind.wrap IntKind.i64 ((↑j:Int)+(1:Int))=(↑(j+(1:Nat)):Int)∧v25=v25∧V=V∧List.map (zdR s) (List.take j V)++[zas (decide (v29≥v24)) (Peer.match_ (List.getD s.n.peers (Int.toNat v29) default)) (zas (v28==s.n.id) (Prod.fst (zal s.n.kept)) v24)]=List.map (zdR s) (List.take (j+(1:Nat)) V)∧qN0 s.n s.n (qN3 s.n s.n (qO13 s.o s.o (s.o.lost=s.o.lost∧True)))) (by kernel_rfl) ?_
  simp only [qN0,qN15,qN3,qO13,true_and,and_true,zbj (i:=j) (by rw [hV] at hv;omega)]
  rw [za3 (d:=(0:Int)) (by omega),List.map_append]
  refine ⟨by omega,?_⟩
  have e:zdR s (V.getD j 0)=zas (decide (zaQ s.n.peers (V.getD j 0)≥0)) (s.n.peers.getD (zaQ s.n.peers (V.getD j 0)).toNat default).match_ (zas (V.getD j 0==s.n.id) (zal s.n.kept).1 0):=by
   unfold zdR zas
   by_cases h1:0≤zaQ s.n.peers (V.getD j 0)<;>by_cases h2:V.getD j 0=s.n.id<;>simp [h1,h2]
  simp only [List.map_cons,List.map_nil,e]
 ·have:j=V.length:=by omega
  subst this
  rw [List.take_length]
  have hL:V.map (zdR s)=ze5 s:=by rw [ze5,hV]
  rw [hL]
  have hll:(ze5 s).length≤4000:=by rw [ze5,List.length_map];exact hv
  refine ⟨⟨by omega,by omega⟩,b1,?_⟩
  simp only [zbw]
  unfold za7
  by_cases h1:(zaz s.n.kept (zd2 (ze5 s))).2=0<;>by_cases h2:(zaz s.n.kept (zd2 (ze5 s))).1=s.n.kept.term<;>simp [zac,zas,h1,h2]
  omega
def zjI:Ent:=zj7 106 3 mW vrW [1] glW fun s=>([SmallN s.n,SmallO s.o,(za0 s.n).voters.length≤4000],.tup [],wMi (za7 s))
theorem zef:zaf Tryz.prog zjI:=zcB (fnB Tryz.func106 (by decide) rfl) fun s h=>zsE s (h _ (by simp)) (h _ (by simp)) (h _ (by simp))
def zca (r:Read) (p:Peer):Bool:=decide (r.round≤p.round)
def zwk (s:Step) (r:Read):List Int:=s.n.id::(s.n.peers.filter (zca r)).map (·.node)
def zaK (s:Step) (r:Read):Bool:=mayC (za0 s.n)&&zcq (za0 s.n).voters (zwk s r)
def zaN (s:Step):Step:=⟨{s.n with reads:=s.n.reads.filter fun r=>!zaK s r},{s.o with ready:=s.o.ready++s.n.reads.filter (zaK s)}⟩
def wMoA (s:Step):List BE:=[.dead,.dead,.cells 115 (wCs [1] s 3 4 5 11 7 8 12 10),.row 89 [1] (.rEntry s.n.kept.entries),.row 3 [1] (.rInts s.n.yes),.row 94 [1] (.rPeer s.n.peers),.dead,.row 139 [2] (.rRecord s.o.records),.row 39 [2] (.rMessage s.o.messages),.dead,.row 3 [2] (.rInts s.o.lost),.row 96 [1] (.rRead s.n.reads),.row 96 [2] (.rRead s.o.ready)]
def tabRb:List Ent:=[zgW,zhZ]
theorem zhu:∀ e∈tabRb,zaf Tryz.prog e:=zaa zdg (zaa zfM zad)
theorem zqS (s:Step) (hn:SmallN s.n) (ho:SmallO s.o) (hr:s.o.ready.length≤10000) (hs:s.n.reads.length≤10000) (hp:s.n.peers.length≤10000):FnG Tryz.prog 110 3 (wMi s) [.ptr 2 0] (.tup []) (wMoA (zaN s)):=by
 refine FnG.of_vc (zaj zhu fun _=>none) Tryz.func110 rfl (by decide) rfl 300 (p:=fun (V:List PE→Prop)=>(s.n.kept.entries.length≤17592186044416∧s.n.yes.length≤17592186044416∧s.n.peers.length≤17592186044416∧s.n.reads.length≤17592186044416∧SmallN s.n∧True)∧True∧True∧V []) (by kernel_rfl) ?_
 simp only [qN0,qN1,qN15,qN7,qO16,imp_self,implies_true,true_and,and_true,zae,zag]
 obtain ⟨b1,b2,b3,b4,b5⟩:=hn.ls
 obtain ⟨c1,c2,c3,c4⟩:=ho.ls
 refine ⟨⟨b1,b2,b3,b4,hn⟩,?_⟩
 refine LoopG.head (zaj zhu fun _=>none) 0 (A:=Nat) (fun j=>j≤s.n.reads.length) (fun j=>[(20,.int .i64 j),(3,.own 13)]) (fun j=>[(2,.cells 115 (wCs [1] s 3 4 5 6 7 8 12 10)),(9,.dead),(12,.row 96 [2] (.rRead (s.o.ready++(s.n.reads.take j).filter (zaK s)))),(13,.row 96 [] (.rRead ((s.n.reads.take j).filter fun r=>!zaK s r)))]) (fun j=>s.n.reads.length-j) 0 (Nat.zero_le _) (p0:=let v18:=Config.learners (za0 s.n);let v19:=Config.voters (za0 s.n);let v28:=(↑(s.n.reads.length):Int);let v29:=List.take (0:Nat) s.n.reads;(0:Int)=(↑(0:Nat):Int)∧v28=v28∧qN0 s.n s.n (qN7 s.n s.n (s.o.ready=s.o.ready++List.filter (zaK s) v29∧List.filter (fun (r:Read)=>!zaK s r) v29=[]∧v19=v19∧v18=v18∧qN15 s.n s.n (s.o.records=s.o.records∧s.o.messages=s.o.messages∧s.o.lost=s.o.lost∧True)))) (by kernel_rfl) ?_ 300 (p:=fun (x:Nat) (V:List PE→Prop)=>let v2:=s.n.reads;let v4:=Step.n (zaN s);let v5:=Step.o (zaN s);let v8:=(↑x:Int);let v14:=(↑(v2.length):Int);let v15:=decide (v8<v14);True∧True∧(v15=true→((0:Int)≤v8∧v8<v14∧x<v2.length∧True)∧True∧True∧V [PE.a])∧(v15=false→True∧qN0 s.n v4 (qN1 s.n v4 (qO16 s.o v5 (List.filter (fun (r:Read)=>!zaK s r) (List.take x v2)=v4.reads∧s.o.ready++List.filter (zaK s) (List.take x v2)=v5.ready∧True))))) (by intro x;kernel_rfl) ?_
 ·simp
 rintro j hj
 simp only [qN0,qN1,qN15,qN7,qO16,imp_self,implies_true,true_and,and_true,decide_eq_true_eq,decide_eq_false_iff_not]
 refine ⟨fun h6=>⟨⟨by omega,by omega,by omega⟩,?_⟩,fun h6=>?_⟩
 ·refine LoopG.head (zaj zhu fun _=>none) 1 (A:=Nat) (fun i=>i≤s.n.peers.length) (fun i=>[(36,.int .i64 i),(6,.own 14)]) (fun i=>[(14,.row 3 [] (.rInts (s.n.id::((s.n.peers.take i).filter (zca (s.n.reads.getD j default))).map (·.node)))),(59,.dead)]) (fun i=>s.n.peers.length-i) 0 (Nat.zero_le _) (p0:=let v0:=s.n;let v7:=v0.reads;let v17:=Config.voters (za0 v0);let v18:=Config.learners (za0 v0);let v20:=(↑j:Int);let v29:=(↑(v7.length):Int);let v30:=(↑(v0.peers.length):Int);let v31:=List.getD v7 j default;let v32:=v31.round;let v33:=v31.token;let v34:=v31.index;let v35:=List.filter (fun (r:Read)=>!zaK s r) (List.take j v7);let v36:=s.o.ready++List.filter (zaK s) (List.take j v7);let v37:=decide (v20<v29);(0:Int)=(↑(0:Nat):Int)∧v30=v30∧v0.id=v0.id∧v33=v33∧v34=v34∧v32=v32∧v37=v37∧v20=v20∧v29=v29∧[v0.id]=v0.id::List.map (fun (x:Peer)=>x.node) (List.filter (zca v31) (List.take (0:Nat) v0.peers))∧v33=v33∧v34=v34∧v32=v32∧qN0 v0 v0 (qN7 v0 v0 (v36=v36∧v35=v35∧v17=v17∧v18=v18∧qN15 v0 v0 (s.o.records=s.o.records∧s.o.messages=s.o.messages∧s.o.lost=s.o.lost∧True)))) (by kernel_rfl) ?_ 300 (p:=fun (x:Nat) (V:List PE→Prop)=>let v1:=za0 s.n;let v3:=s.n.peers;let v4:=(↑x:Int);let v6:=List.take j s.n.reads;let v7:=(↑(v3.length):Int);let v8:=List.getD s.n.reads j default;let v9:=List.getD v3 x default;let v12:=List.length [v8];let v13:=s.n.id::List.map (fun (x:Peer)=>x.node) (List.filter (zca v8) (List.take x v3));let v14:=decide (v4<v7);let v16:=mayC v1&&zcq v1.voters v13;let v17:=decide (v9.round≥v8.round);True∧True∧(v14=true→((0:Int)≤v4∧v4<v7∧x<v3.length∧True)∧True∧True∧(v17=true→((v13.length+List.length [v9.node])*(1024:Nat)≤140737488355328∧True)∧True∧V [PE.a,PE.a])∧(v17=false→True∧V [PE.a,PE.b]))∧(v14=false→(v13.length≤17592186044416∧zaq v1∧True)∧True∧(v16=true→((List.length (s.o.ready++List.filter (zaK s) v6)+v12)*(1024:Nat)≤140737488355328∧True)∧True∧V [PE.b,PE.a])∧(v16=false→((List.length (List.filter (fun (r:Read)=>!zaK s r) v6)+v12)*(1024:Nat)≤140737488355328∧True)∧True∧V [PE.b,PE.b]))) (by intro x;kernel_rfl) ?_
  ·simp
  rintro i hi
  simp only [qN0,qN1,qN15,qN7,qO16,imp_self,implies_true,true_and,and_true,decide_eq_true_eq,decide_eq_false_iff_not]
  have hpl:((s.n.peers.take i).filter (zca (s.n.reads.getD j default))).length≤10000:=by
   have h1:=List.length_filter_le (zca (s.n.reads.getD j default)) (s.n.peers.take i)
   simp only [List.length_take] at h1;omega
  have hrl:∀ f:Read→Bool,((s.n.reads.take j).filter f).length≤10000:=fun f=>by
   have h1:=List.length_filter_le f (s.n.reads.take j)
   simp only [List.length_take] at h1;omega
  have hsn:∀ f:Read→Bool,(s.n.reads.take (j+1)).filter f=(s.n.reads.take j).filter f++(if f (s.n.reads.getD j default)=true then [s.n.reads.getD j default] else []):=fun f=>by
   rw [za3 (d:=(default:Read)) (by omega),List.filter_append]
   simp only [List.filter_cons,List.filter_nil]
  refine ⟨fun h7=>⟨⟨by omega,by omega,by omega⟩,fun h8=>⟨by simp only [List.length_cons,List.length_map,List.length_nil];omega,?_⟩,fun h8=>?_⟩,fun h7=>⟨⟨by simp only [List.length_cons,List.length_map];omega,zbU hn⟩,fun h8=>⟨by have:=hrl (zaK s);simp only [List.length_append,List.length_cons,List.length_nil];omega,?_⟩,fun h8=>⟨by have:=hrl fun r=>!zaK s r;simp only [List.length_cons,List.length_nil];omega,?_⟩⟩⟩
  ·refine Back.mk (i+1) (by show i+1≤_;omega) (by show _-(i+1)<_-i;omega) (p0:=let v0:=s.n;let v2:=v0.peers;let v7:=v0.reads;let v17:=Config.voters (za0 v0);let v18:=Config.learners (za0 v0);let v20:=(↑j:Int);let v29:=(↑(v7.length):Int);let v30:=(↑(v2.length):Int);let v31:=List.getD v7 j default;let v32:=v31.round;let v33:=v31.index;let v34:=v31.token;let v35:=List.filter (fun (r:Read)=>!zaK s r) (List.take j v7);let v36:=s.o.ready++List.filter (zaK s) (List.take j v7);let v37:=decide (v20<v29);IntKind.wrap IntKind.i64 ((↑i:Int)+(1:Int))=(↑(i+(1:Nat)):Int)∧v30=v30∧v0.id=v0.id∧v34=v34∧v33=v33∧v32=v32∧v37=v37∧v20=v20∧v29=v29∧v0.id::List.map (fun (x:Peer)=>x.node) (List.filter (zca v31) (List.take i v2))++[Peer.node (List.getD v2 i default)]=v0.id::List.map (fun (x:Peer)=>x.node) (List.filter (zca v31) (List.take (i+(1:Nat)) v2))∧v34=v34∧v33=v33∧v32=v32∧qN0 v0 v0 (qN7 v0 v0 (v36=v36∧v35=v35∧v17=v17∧v18=v18∧qN15 v0 v0 (s.o.records=s.o.records∧s.o.messages=s.o.messages∧s.o.lost=s.o.lost∧True)))) (by kernel_rfl) ?_
   simp only [qN0,qN1,qN15,qN7,qO16,true_and,and_true]
   rw [za3 (d:=(default:Peer)) (by omega),List.filter_append]
   have h9:zca (s.n.reads.getD j default) (s.n.peers.getD i default)=true:=by unfold zca;simpa using h8
   simp only [qN0,qN1,qN15,qN7,qO16,zbj (i:=i) (by omega),List.filter_cons,List.filter_nil,h9,if_true,List.map_append,List.map_cons,List.map_nil,List.cons_append,true_and,and_true]
   omega
  ·refine Back.mk (i+1) (by show i+1≤_;omega) (by show _-(i+1)<_-i;omega) (p0:=let v0:=s.n;let v2:=v0.peers;let v7:=v0.reads;let v17:=Config.voters (za0 v0);let v18:=Config.learners (za0 v0);let v20:=(↑j:Int);let v29:=(↑(v7.length):Int);let v30:=(↑(v2.length):Int);let v31:=List.getD v7 j default;let v32:=v31.round;let v33:=v31.index;let v34:=v31.token;let v35:=List.filter (fun (r:Read)=>!zaK s r) (List.take j v7);let v36:=s.o.ready++List.filter (zaK s) (List.take j v7);let v37:=decide (v20<v29);IntKind.wrap IntKind.i64 ((↑i:Int)+(1:Int))=(↑(i+(1:Nat)):Int)∧v30=v30∧v0.id=v0.id∧v34=v34∧v33=v33∧v32=v32∧v37=v37∧v20=v20∧v29=v29∧v0.id::List.map (fun (x:Peer)=>x.node) (List.filter (zca v31) (List.take i v2))=v0.id::List.map (fun (x:Peer)=>x.node) (List.filter (zca v31) (List.take (i+(1:Nat)) v2))∧v34=v34∧v33=v33∧v32=v32∧qN0 v0 v0 (qN7 v0 v0 (v36=v36∧v35=v35∧v17=v17∧v18=v18∧qN15 v0 v0 (s.o.records=s.o.records∧s.o.messages=s.o.messages∧s.o.lost=s.o.lost∧True)))) (by kernel_rfl) ?_
   simp only [qN0,qN1,qN15,qN7,qO16,true_and,and_true]
   rw [za3 (d:=(default:Peer)) (by omega),List.filter_append]
   have h9:zca (s.n.reads.getD j default) (s.n.peers.getD i default)=false:=by unfold zca;simpa using h8
   simp only [qN0,qN1,qN15,qN7,qO16,zbj (i:=i) (by omega),List.filter_cons,List.filter_nil,h9,if_false,List.append_nil,Bool.false_eq_true,true_and,and_true]
   omega
  ·have:i=s.n.peers.length:=by omega
   subst this
   rw [List.take_length] at h8
   have h9:zaK s (s.n.reads.getD j default)=true:=h8
   refine Back.up (Back.mk (j+1) (by show j+1≤_;omega) (by show _-(j+1)<_-j;omega) (p0:=let v10:=s.n.reads;let v18:=Config.learners (za0 s.n);let v19:=Config.voters (za0 s.n);let v29:=(↑(v10.length):Int);let v30:=List.take (j+(1:Nat)) v10;IntKind.wrap IntKind.i64 ((↑j:Int)+(1:Int))=(↑(j+(1:Nat)):Int)∧v29=v29∧qN0 s.n s.n (qN7 s.n s.n (s.o.ready++List.filter (zaK s) (List.take j v10)++[List.getD v10 j default]=s.o.ready++List.filter (zaK s) v30∧List.filter (fun (r:Read)=>!zaK s r) (List.take j v10)=List.filter (fun (r:Read)=>!zaK s r) v30∧v19=v19∧v18=v18∧qN15 s.n s.n (s.o.records=s.o.records∧s.o.messages=s.o.messages∧s.o.lost=s.o.lost∧True)))) (by kernel_rfl) ?_)
   simp only [qN0,qN1,qN15,qN7,qO16,true_and,and_true]
   rw [hsn,hsn,if_pos h9,h9,if_neg (by decide)]
   simp only [qN0,qN1,qN15,qN7,qO16,zbj (i:=j) (by omega),List.append_nil,List.append_assoc,true_and,and_true]
   omega
  ·have:i=s.n.peers.length:=by omega
   subst this
   rw [List.take_length] at h8
   have h9:zaK s (s.n.reads.getD j default)=false:=h8
   refine Back.up (Back.mk (j+1) (by show j+1≤_;omega) (by show _-(j+1)<_-j;omega) (p0:=let v10:=s.n.reads;let v18:=Config.learners (za0 s.n);let v19:=Config.voters (za0 s.n);let v29:=(↑(v10.length):Int);let v30:=List.take (j+(1:Nat)) v10;IntKind.wrap IntKind.i64 ((↑j:Int)+(1:Int))=(↑(j+(1:Nat)):Int)∧v29=v29∧qN0 s.n s.n (qN7 s.n s.n (s.o.ready++List.filter (zaK s) (List.take j v10)=s.o.ready++List.filter (zaK s) v30∧List.filter (fun (r:Read)=>!zaK s r) (List.take j v10)++[List.getD v10 j default]=List.filter (fun (r:Read)=>!zaK s r) v30∧v19=v19∧v18=v18∧qN15 s.n s.n (s.o.records=s.o.records∧s.o.messages=s.o.messages∧s.o.lost=s.o.lost∧True)))) (by kernel_rfl) ?_)
   simp only [qN0,qN1,qN15,qN7,qO16,true_and,and_true]
   rw [hsn,hsn,h9,if_neg (by decide),if_pos (by decide)]
   simp only [qN0,qN1,qN15,qN7,qO16,zbj (i:=j) (by omega),List.append_nil,List.append_assoc,true_and,and_true]
   omega
 ·obtain rfl:j=s.n.reads.length:=by omega
  simp only [List.take_length,zaN,and_self]
def zkO:Ent:=zj7 110 3 mW vrW [1] glW fun s=>([SmallN s.n,SmallO s.o,s.o.ready.length≤10000,s.n.reads.length≤10000,s.n.peers.length≤10000],.tup [],wMoA (zaN s))
theorem zgY:zaf Tryz.prog zkO:=zcB (fnB Tryz.func110 (by decide) rfl) fun s h=>zqS s (h _ (by simp)) (h _ (by simp)) (h _ (by simp)) (h _ (by simp)) (h _ (by simp))
def SmallD (c:Config):Prop:=c.voters.length≤4000∧c.learners.length≤4000
theorem SmallD.c {c:Config} (h:SmallD c):zaq c:=⟨Nat.le_trans h.1 (by decide),Nat.le_trans h.2 (by decide)⟩
theorem smallD0:SmallD ⟨[],[]⟩:=⟨by decide,by decide⟩
structure Few (B:Nat) (s:Step):Prop where
 entries:s.n.kept.entries.length≤B
 ec:∀ e∈s.n.kept.entries,SmallD e.config
 sc:SmallD s.n.kept.snap.config
 yes:s.n.yes.length≤B
 peers:s.n.peers.length≤5000
 reads:s.n.reads.length≤5000
 records:s.o.records.length≤B
 messages:s.o.messages.length≤B
 ready:s.o.ready.length≤B
 lost:s.o.lost.length≤B
theorem Few.mono {B C:Nat} {s:Step} (h:Few B s) (hb:B≤C):Few C s:=
 ⟨Nat.le_trans h.entries hb,h.ec,h.sc,Nat.le_trans h.yes hb,h.peers,h.reads,Nat.le_trans h.records hb,Nat.le_trans h.messages hb,Nat.le_trans h.ready hb,Nat.le_trans h.lost hb⟩
theorem Few.k {B:Nat} {s:Step} (h:Few B s) (hb:B≤1000000):zb2 s.n.kept:=⟨⟨Nat.le_trans h.entries hb,fun e he=>(h.ec e he).c⟩,h.sc.c⟩
theorem Few.sn {B:Nat} {s:Step} (h:Few B s) (hb:B≤1000000):SmallN s.n:=⟨h.k hb,Nat.le_trans h.yes hb,Nat.le_trans h.peers (by decide),Nat.le_trans h.reads (by decide)⟩
theorem Few.so {B:Nat} {s:Step} (h:Few B s) (hb:B≤1000000):SmallO s.o:=⟨Nat.le_trans h.records hb,Nat.le_trans h.messages hb,Nat.le_trans h.ready hb,Nat.le_trans h.lost hb⟩
theorem Few.cf {B:Nat} {s:Step} (h:Few B s):SmallD (za0 s.n):=by
 unfold za0 zap
 split
 ·unfold cfgR
  split
  ·rename_i e he
   exact h.ec e (by have:=List.mem_of_find?_eq_some he;simpa using this)
  ·exact h.sc
 ·exact smallD0
theorem Few.recd {B:Nat} {s:Step} {r:Record} (h:Few B s) (h1:SmallD r.entry.config) (h2:SmallD r.snap.config):Few (B+1) (recS s r):=by
 have hk:(recK s.n.kept r).entries.length≤B+1∧(∀ e∈(recK s.n.kept r).entries,SmallD e.config)∧SmallD (recK s.n.kept r).snap.config:=by
  have g1:=h.entries
  unfold recK
  split
  ·exact ⟨Nat.le_succ_of_le h.entries,h.ec,h.sc⟩
  split
  ·refine ⟨by simp only [List.length_append,List.length_cons,List.length_nil];omega,fun e he=>?_,h.sc⟩
   simp only [List.mem_append,List.mem_singleton] at he
   rcases he with he | rfl
   ·exact h.ec e he
   ·exact h1
  split
  ·exact ⟨by simp only [List.length_take];omega,fun e he=>h.ec e (List.mem_of_mem_take he),h.sc⟩
  split
  ·refine ⟨?_,fun e he=>?_,h2⟩
   ·show (if _ then _ else _:List Entry).length≤_
    split
    ·simp only [List.length_drop];omega
    ·simp
   ·have he:e∈(if (zaz s.n.kept r.snap.index).2=0∧(zaz s.n.kept r.snap.index).1=r.snap.term then s.n.kept.entries.drop (IntKind.i64.wrap (r.snap.index-s.n.kept.snap.index)).toNat else []):=he
    split at he
    ·exact h.ec e (List.mem_of_mem_drop he)
    ·cases he
  ·exact ⟨Nat.le_succ_of_le h.entries,h.ec,h.sc⟩
 exact ⟨hk.1,hk.2.1,hk.2.2,Nat.le_succ_of_le h.yes,h.peers,h.reads,by show (s.o.records++[r]).length≤_;have:=h.records;simp only [List.length_append,List.length_cons,List.length_nil];omega,Nat.le_succ_of_le h.messages,Nat.le_succ_of_le h.ready,Nat.le_succ_of_le h.lost⟩
theorem Few.run {B:Nat} {s:Step} (role:Int) (h:Few B s) (h1:1≤B):Few B (runS s role):=⟨h.entries,h.ec,h.sc,h1,h.peers,h.reads,h.records,h.messages,h.ready,h.lost⟩
theorem Few.lay {B:Nat} {s:Step} {e:Entry} (h:Few B s) (h1:SmallD e.config):Few (B+1) (layS s e):=h.recd h1 smallD0
theorem Few.send {B:Nat} {s:Step} (m:Message) (h:Few B s):Few (B+1) (zaJ s m):=by
 have:=h.messages
 exact ⟨Nat.le_succ_of_le h.entries,h.ec,h.sc,Nat.le_succ_of_le h.yes,h.peers,h.reads,Nat.le_succ_of_le h.records,by show (s.o.messages++[msgS s m]).length≤_;simp only [List.length_append,List.length_cons,List.length_nil];omega,Nat.le_succ_of_le h.ready,Nat.le_succ_of_le h.lost⟩
theorem Few.ask {B:Nat} {s:Step} (m:Message) (h:Few B s):Few (B+4000) (askS s m):=by
 have h1:=h.messages
 have h2:=h.cf.1
 have h3:(zay (za0 s.n).voters s.n.id).length≤(za0 s.n).voters.length:=List.length_filter_le _ _
 have g:=h.mono (show B≤B+4000 by omega)
 exact ⟨g.entries,g.ec,g.sc,g.yes,g.peers,g.reads,g.records,by show (s.o.messages++_).length≤_;simp only [List.length_append,List.length_map];omega,g.ready,g.lost⟩
theorem Few.all {B:Nat} {s:Step} (h:Few B s):Few (B+5000) (allS s):=by
 have h1:=h.messages
 have h2:=h.peers
 have g:=h.mono (show B≤B+5000 by omega)
 exact ⟨g.entries,g.ec,g.sc,g.yes,g.peers,g.reads,g.records,by show (s.o.messages++_).length≤_;simp only [List.length_append,List.length_map];omega,g.ready,g.lost⟩
theorem Few.count {B:Nat} {s:Step} (h:Few B s):Few B (za7 s):=by
 unfold za7
 split
 ·exact ⟨h.entries,h.ec,h.sc,h.yes,h.peers,h.reads,h.records,h.messages,h.ready,h.lost⟩
 ·exact h
def znA:Entry:=⟨0,0,0,⟨[],[]⟩,zs⟩
def zgc:Entry:=⟨0,0,1,⟨[],[]⟩,zs⟩
def zd6 (s:Step) (o:Int):Peer:=⟨o,IntKind.i64.wrap ((zal s.n.kept).1+1),0,0⟩
def zgd (s:Step) (ps:List Peer):Step:=⟨{s.n with role:=4,lead:=s.n.id,elapsed:=0,yes:=[],peers:=ps},s.o⟩
def ledS (s:Step):Step:=zgd s ((zam s.n).map (zd6 s))
def zeu (s:Step):Step:=allS (za7 (layS (ledS s) zgc))
theorem Few.led {B:Nat} {s:Step} (h:Few B s):Few B (ledS s):=by
 have h1:(zam s.n).length≤16:=Nat.le_trans (List.length_filter_le _ _) (zcE (za0 s.n)).2
 exact ⟨h.entries,h.ec,h.sc,Nat.zero_le _,by show (List.map _ _).length≤_;rw [List.length_map];omega,h.reads,h.records,h.messages,h.ready,h.lost⟩
theorem Few.rule {B:Nat} {s:Step} (h:Few B s):Few (B+5001) (zeu s):=((h.led.lay (e:=zgc) smallD0).count.all).mono (by omega)
def tabB:List Ent:=[eOth,zgN,eLay,zjI,znx]
theorem znV:∀ e∈tabB,zaf Tryz.prog e:=zaa zkD (zaa zcw (zaa zkH (zaa zef (zaa zeg zad))))
theorem zuc (s:Step) (hf:Few 80000 s):FnG Tryz.prog 140 3 (wMi s) [.ptr 2 0] (.tup []) (wMo (zeu s)):=by
 refine FnG.of_vc (zaj znV fun _=>none) Tryz.func140 rfl (by decide) rfl 300 (p:=fun (V:List PE→Prop)=>True∧(s.n.kept.entries.length≤17592186044416∧s.n.reads.length≤17592186044416∧SmallN (Node.mk s.n.id (4:Int) s.n.kept s.n.commit s.n.id (0:Int) [] [] s.n.round s.n.reads)∧True)∧V []) (by kernel_rfl) ?_
 simp only [qN0,qN12,qN15,qN3,qN7,qO13,imp_self,implies_true,true_and,and_true,zae,zag]
 have hol:(zam s.n).length≤16:=Nat.le_trans (List.length_filter_le _ _) (zcE (za0 s.n)).2
 have hsn:=hf.sn (by decide)
 have hso:=hf.so (by decide)
 obtain ⟨b1,b2,b3,b4,b5⟩:=hsn.ls
 obtain ⟨c1,c2,c3,c4⟩:=hso.ls
 obtain ⟨L,hL⟩:∃ L,zam s.n=L:=⟨_,rfl⟩
 refine ⟨⟨b1,b4,⟨hsn.k,Nat.zero_le _,Nat.zero_le _,hsn.reads⟩⟩,?_⟩
 refine LoopG.head (zaj znV fun _=>none) 0 (A:=Nat) (fun j=>j≤L.length) (fun j=>[(35,.int .i64 j),(34,.int .i64 (L.length:Int)),(33,.sl [53] (.rInts L))]) (fun j=>[(2,.cells 115 (wCs [1] (zgd s ((L.take j).map (zd6 s))) 3 13 12 6 7 8 9 10)),(12,.row 94 [] (.rPeer ((L.take j).map (zd6 s)))),(13,.row 3 [] (.rInts []))]) (fun j=>L.length-j) 0 (Nat.zero_le _) (p0:=let v0:=s.n;let v16:=List.map (zd6 s) (List.take (0:Nat) L);let v17:=Step.n (zgd s v16);let v21:=zam (Node.mk v0.id (4:Int) v0.kept v0.commit v0.id (0:Int) [] [] v0.round v0.reads);(0:Int)=(↑(0:Nat):Int)∧(↑(v21.length):Int)=(↑(List.length L):Int)∧v21=L∧v0.id=v17.id∧(4:Int)=v17.role∧qN12 v0 v17 (v0.id=v17.lead∧(0:Int)=v17.elapsed∧v0.round=v17.round∧v16=[]∧zwp Int∧qN15 v0 v0 (qO13 s.o s.o (s.o.lost=s.o.lost∧True)))) (by kernel_rfl) ?_ 300 (p:=fun (x:Nat) (V:List PE→Prop)=>let v1:=Step.o (zeu s);let v2:=s.n.reads;let v3:=Step.n (zeu s);let v5:=s.n.kept.entries;let v6:=(↑x:Int);let v8:=(0:Int);let v9:=(↑(List.length L):Int);let v11:=List.map (zd6 s) (List.take x L);let v13:=Step.n (zgd s v11);let v15:=decide (v6<v9);let v16:=Entry.mk v8 v8 (1:Int) (Config.mk [] []) (ByteArray.mk #[]);let v17:=Kept.mk v13.kept.term v13.kept.vote v13.kept.snap v5;let v18:=Node.mk v13.id v13.role v17 v13.commit v13.lead v13.elapsed [] v11 v13.round v2;let v19:=layS (Step.mk v18 s.o) v16;let v20:=za7 v19;let v23:=allS v20;True∧True∧(v15=true→(v8≤v6∧v6<v9∧True)∧(v5.length≤17592186044416∧(0:Nat)≤17592186044416∧v11.length≤17592186044416∧v2.length≤17592186044416∧s.o.records.length≤17592186044416∧s.o.messages.length≤17592186044416∧s.o.ready.length≤17592186044416∧s.o.lost.length≤17592186044416∧(v11.length+List.length [Peer.mk (List.getD L x v8) (IntKind.wrap IntKind.i64 (Prod.fst (zal v17)+(1:Int))) v8 v8])*(1024:Nat)≤140737488355328∧True)∧True∧V [PE.a])∧(v15=false→(SmallN v18∧SmallO s.o∧zcH v16∧True)∧(SmallN v19.n∧SmallO v19.o∧List.length (Config.voters (za0 v19.n))≤4000∧True)∧(SmallN v20.n∧v20.o.messages.length+v20.n.peers.length≤1000000∧True)∧qN0 v23.n v3 (qN3 v23.n v3 (qO13 v23.o v1 (v23.o.lost=v1.lost∧True))))) (by intro x;kernel_rfl) ?_
 ·refine ⟨rfl,by rw [← hL];rfl,hL,?_⟩
  simp [zgd]
 rintro j hj
 simp only [qN0,qN12,qN15,qN3,qN7,qO13,imp_self,implies_true,true_and,and_true,decide_eq_true_eq,decide_eq_false_iff_not]
 have hml:(List.map (zd6 s) (List.take j L)).length≤16:=by simp only [List.length_map,List.length_take];rw [← hL];omega
 have hle:∀ ps:List Peer,ps.length≤5000→Few 80000 (zgd s ps):=fun ps h=>⟨hf.entries,hf.ec,hf.sc,Nat.zero_le _,h,hf.reads,hf.records,hf.messages,hf.ready,hf.lost⟩
 refine ⟨fun h6=>⟨⟨by omega,h6⟩,⟨b1,by decide,by omega,b4,c1,c2,c3,c4,by simp only [List.length_cons,List.length_nil];omega⟩,?_⟩,fun h6=>?_⟩
 ·refine Back.mk (j+1) (by show j+1≤_;omega) (by show _-(j+1)<_-j;omega) (p0:=let v10:=(↑(List.length L):Int);let v11:=List.map (zd6 s) (List.take j L);let v12:=Step.n (zgd s v11);let v18:=List.map (zd6 s) (List.take (j+(1:Nat)) L);let v19:=Step.n (zgd s v18);IntKind.wrap IntKind.i64 ((↑j:Int)+(1:Int))=(↑(j+(1:Nat)):Int)∧v10=v10∧L=L∧qN0 v12 v19 (qN7 v12 v19 (v11++[Peer.mk (List.getD L j (0:Int)) (IntKind.wrap IntKind.i64 (Prod.fst (zal (Kept.mk v12.kept.term v12.kept.vote v12.kept.snap s.n.kept.entries))+(1:Int))) (0:Int) (0:Int)]=v18∧zwp Int∧qN15 s.n s.n (qO13 s.o s.o (s.o.lost=s.o.lost∧True))))) (by kernel_rfl) ?_
  have e1:=za3 (l:=L) (d:=(0:Int)) (i:=j) (by omega)
  rw [hL] at hol
  simp only [qN0,qN12,qN15,qN3,qN7,qO13,zbj (i:=j) (by omega),e1,List.map_append,List.map_cons,List.map_nil,true_and,and_true]
  refine ⟨by omega,?_⟩
  simp [zgd,zd6]
 ·obtain rfl:j=L.length:=by omega
  rw [List.take_length] at hml ⊢
  have k1:=hle _ (show (L.map (zd6 s)).length≤5000 by omega)
  have k2:=k1.lay (e:=zgc) smallD0
  have k3:=k2.count
  have e:zeu s=allS (za7 (layS (zgd s (L.map (zd6 s))) zgc)):=by rw [zeu,ledS,hL]
  refine ⟨⟨k1.sn (by decide),k1.so (by decide),smallD0.c⟩,⟨k2.sn (by decide),k2.so (by decide),?_⟩,?_⟩
  ·exact k2.cf.1
  ·refine ⟨⟨k3.sn (by decide),?_⟩,?_⟩
   ·have h1:=k3.messages
    have h2:=k3.peers
    exact Nat.le_trans (Nat.add_le_add h1 h2) (by decide)
   ·rw [e]
    repeat' apply And.intro
    all_goals rfl
def zcN (t v:Int):Record:=⟨1,t,v,znA,0,zen⟩
theorem zd3 (t v:Int):SmallR (zcN t v):=⟨smallD0.c,smallD0.c⟩
theorem zeB (k:Kept) (t v:Int):zgg k (zcN t v):=fun h=>absurd (show (1:Int)=3 from h) (by decide)
theorem Few.vote {B:Nat} {s:Step} (t v:Int) (h:Few B s):Few (B+1) (recS s (zcN t v)):=h.recd smallD0 smallD0
def msgK (kind:Int):Message:=⟨kind,0,0,0,0,0,[],0,0,false,zen,0,0,zs⟩
def stand1 (s:Step):Step:=runS (recS s (zcN (IntKind.i64.wrap (s.n.kept.term+1)) s.n.id)) 3
def zbO (s:Step):Step:=if zbb (stand1 s).n then zeu (stand1 s) else askS (stand1 s) (msgK 3)
theorem Few.stand1 {B:Nat} {s:Step} (h:Few B s):Few (B+1) (stand1 s):=Few.run _ (h.vote _ _) (by omega)
theorem Few.stand {B:Nat} {s:Step} (h:Few B s):Few (B+5002) (zbO s):=by
 unfold zbO
 split
 ·exact h.stand1.rule.mono (by omega)
 ·exact (h.stand1.ask _).mono (by omega)
def zuM:Ent:=zj7 140 3 mW vrW [1] glW fun s=>([Few 80000 s],.tup [],wMo (zeu s))
theorem zmj:zaf Tryz.prog zuM:=zcB (fnB Tryz.func140 (by decide) rfl) fun s h=>zuc s (h _ (by simp))
def tabBc:List Ent:=[eRec,eRun,zuM,zuX]
theorem zrr:∀ e∈tabBc,zaf Tryz.prog e:=zaa zdE (zaa zpM (zaa zmj (zaa zmy zad)))
theorem zry (s:Step) (hf:Few 70000 s):FnG Tryz.prog 79 3 (wMi s) [.ptr 2 0] (.tup []) (wMo (zbO s)):=by
 refine FnG.of_vc (zaj zrr fun _=>none) Tryz.func79 rfl (by decide) rfl 300 (p:=fun (V:List PE→Prop)=>let v0:=Step.o (zbO s);let v1:=s.n.kept;let v2:=Step.n (zbO s);let v18:=ByteArray.mk #[];let v19:=(0:Int);let v29:=Snap.mk v19 v19 (Config.mk [] []) v18;let v30:=Record.mk (1:Int) (IntKind.wrap IntKind.i64 (v1.term+(1:Int))) s.n.id (Entry.mk v19 v19 v19 (Config.mk [] []) v18) v19 v29;let v31:=recS s v30;let v32:=runS v31 (3:Int);let v34:=zeu v32;let v42:=askS v32 (Message.mk (3:Int) v19 v19 v19 v19 v19 [] v19 v19 false v29 v19 v19 v18);(s.o.records.length≤1000000∧v1.entries.length≤1000000∧SmallR v30∧zgg v1 v30∧(1:Int)≠(4:Int)∧True)∧(SmallN v31.n∧SmallO v31.o∧True)∧True∧((zbb v32.n)=true→(Few 80000 v32∧True)∧qN0 v34.n v2 (qN3 v34.n v2 (qO13 v34.o v0 (v34.o.lost=v0.lost∧True))))∧((zbb v32.n)=false→(SmallN v32.n∧SmallO v32.o∧v32.o.messages.length≤900000∧List.length (Config.voters (za0 v32.n))≤4000∧True)∧qN0 v42.n v2 (qN3 v42.n v2 (qO13 v42.o v0 (v42.o.lost=v0.lost∧True))))) (by kernel_rfl) ?_
 simp only [qN0,qN3,qO13,imp_self,implies_true,true_and,and_true,zae,zag]
 have k0:=hf.vote (IntKind.i64.wrap (s.n.kept.term+1)) s.n.id
 have k1:=hf.stand1
 refine ⟨⟨(hf.so (by decide)).records,(hf.sn (by decide)).ls.2.2.2.2,zd3 _ _,zeB _ _ _,by decide⟩,⟨k0.sn (by decide),k0.so (by decide)⟩,fun h=>?_,fun h=>?_⟩
 ·have h:zbb (stand1 s).n=true:=h
  rw [zbO,if_pos h]
  refine ⟨k1.mono (by decide),?_⟩
  repeat' apply And.intro
  all_goals rfl
 ·have h:zbb (stand1 s).n=false:=h
  rw [zbO,if_neg (by rw [h];decide)]
  refine ⟨⟨k1.sn (by decide),k1.so (by decide),Nat.le_trans k1.messages (by decide),k1.cf.1⟩,?_⟩
  repeat' apply And.intro
  all_goals rfl
def zcj (s:Step) (t:Int):Step:=if s.n.kept.term<t then ⟨{(recS s (zcN t 0)).n with lead:=0},(recS s (zcN t 0)).o⟩ else s
def za5 (s:Step) (t:Int):Step:=⟨{(zcj s t).n with role:=1,yes:=[],peers:=[],reads:=[]},{(zcj s t).o with lost:=(zcj s t).o.lost++s.n.reads.map (·.token)}⟩
theorem zuA (s:Step) (t:Int) (hf:Few 70000 s):FnG Tryz.prog 87 3 (wMi s) [.ptr 2 0,dInt.L.can t] (.tup []) (wMo (za5 s t)):=by
 refine FnG.of_vc (zaj (zaa zdE zad) fun _=>none) Tryz.func87 rfl (by decide) rfl 300 (p:=fun (V:List PE→Prop)=>let v0:=s.n.kept;let v2:=(0:Int);let v3:=decide (t>v0.term);let v4:=Record.mk (1:Int) t v2 (Entry.mk v2 v2 v2 (Config.mk [] []) (ByteArray.mk #[])) v2 (Snap.mk v2 v2 (Config.mk [] []) (ByteArray.mk #[]));True∧True∧(v3=true→(s.o.records.length≤1000000∧v0.entries.length≤1000000∧SmallR v4∧zgg v0 v4∧(1:Int)≠(4:Int)∧True)∧True∧True∧V [PE.a])∧(v3=false→True∧V [PE.b])) (by kernel_rfl) ?_
 simp only [qN0,qN15,qN17,qN18,qN7,qO13,imp_self,implies_true,true_and,and_true,zae,zag]
 obtain ⟨b1,b2,b3,b4,b5⟩:=(hf.sn (by decide)).ls
 have hrl:=hf.reads
 have hll:=hf.lost
 have hpre:s.o.records.length≤1000000∧s.n.kept.entries.length≤1000000∧SmallR (zcN t 0)∧zgg s.n.kept (zcN t 0)∧(1:Int)≠4:=⟨(hf.so (by decide)).records,b5,zd3 _ _,zeB _ _ _,by decide⟩
 refine ⟨fun h=>⟨hpre,?_⟩,fun h=>?_⟩
 ·have h:s.n.kept.term<t:=by simpa using h
  obtain ⟨s1,hs1⟩:∃ s1,(⟨{(recS s (zcN t 0)).n with lead:=0},(recS s (zcN t 0)).o⟩:Step)=s1:=⟨_,rfl⟩
  have e:za5 s t=⟨{s1.n with role:=1,yes:=[],peers:=[],reads:=[]},{s1.o with lost:=s1.o.lost++s.n.reads.map (·.token)}⟩:=by rw [za5,zcj,if_pos h,hs1]
  rw [e]
  refine LoopG.head (zaj (zaa zdE zad) fun _=>none) 0 (A:=Nat) (fun j=>j≤s.n.reads.length) (fun j=>[(28,.int .i64 j),(27,.int .i64 (s.n.reads.length:Int))]) (fun j=>[(2,.cells 115 (wCs [1,31] s1 30 31 32 33 34 35 36 12)),(12,.row 3 [2,30] (.rInts (s1.o.lost++(s.n.reads.take j).map (·.token)))),(37,.dead)]) (fun j=>s.n.reads.length-j) 0 (Nat.zero_le _) (p0:=let v2:=s.n.reads;let v5:=(0:Int);let v6:=recS s (Record.mk (1:Int) t v5 (Entry.mk v5 v5 v5 (Config.mk [] []) (ByteArray.mk #[])) v5 (Snap.mk v5 v5 (Config.mk [] []) (ByteArray.mk #[])));let v7:=v6.o;let v8:=v6.n;v5=(↑(0:Nat):Int)∧(↑(v8.reads.length):Int)=(↑(v2.length):Int)∧qN0 v8 s1.n (v8.commit=s1.n.commit∧v5=s1.n.lead∧v8.elapsed=s1.n.elapsed∧v8.round=s1.n.round∧v7.lost=s1.o.lost++List.map (fun (x:Read)=>x.token) (List.take (0:Nat) v2)∧qN15 v8 v8 (v7.records=v7.records∧v7.messages=v7.messages∧v7.ready=v7.ready∧True))) (by kernel_rfl) ?_ 300 (p:=fun (x:Nat) (V:List PE→Prop)=>let v1:=s1.n;let v4:=s.n.reads;let v6:=(↑x:Int);let v7:=(1:Int);let v9:=(0:Int);let v12:=s1.o.lost++List.map (fun (x:Read)=>x.token) (List.take x v4);let v15:=decide (v6<(↑(v4.length):Int));let v17:=recS s (Record.mk v7 t v9 (Entry.mk v9 v9 v9 (Config.mk [] []) (ByteArray.mk #[])) v9 (Snap.mk v9 v9 (Config.mk [] []) (ByteArray.mk #[])));True∧True∧(v15=true→(v9≤v6∧v6<(↑(v17.n.reads.length):Int)∧x<v17.n.reads.length∧True)∧((v12.length+List.length [Read.token (List.getD v17.n.reads x default)])*(1024:Nat)≤140737488355328∧True)∧True∧V [PE.a])∧(v15=false→True∧v1.id=Node.id (let __src:=v1;Node.mk (Node.id __src) v7 (Node.kept __src) (Node.commit __src) (Node.lead __src) (Node.elapsed __src) [] [] (Node.round __src) [])∧v7=Node.role (let __src:=v1;Node.mk (Node.id __src) v7 (Node.kept __src) (Node.commit __src) (Node.lead __src) (Node.elapsed __src) [] [] (Node.round __src) [])∧qN17 v1 (let __src:=s1.n;Node.mk (Node.id __src) (1:Int) (Node.kept __src) (Node.commit __src) (Node.lead __src) (Node.elapsed __src) [] [] (Node.round __src) []) (v17.n.kept.entries=Kept.entries (Node.kept (let __src:=v1;Node.mk (Node.id __src) v7 (Node.kept __src) (Node.commit __src) (Node.lead __src) (Node.elapsed __src) [] [] (Node.round __src) []))∧Node.yes (let __src:=v1;Node.mk (Node.id __src) v7 (Node.kept __src) (Node.commit __src) (Node.lead __src) (Node.elapsed __src) [] [] (Node.round __src) [])=[]∧Node.peers (let __src:=v1;Node.mk (Node.id __src) v7 (Node.kept __src) (Node.commit __src) (Node.lead __src) (Node.elapsed __src) [] [] (Node.round __src) [])=[]∧Node.reads (let __src:=v1;Node.mk (Node.id __src) v7 (Node.kept __src) (Node.commit __src) (Node.lead __src) (Node.elapsed __src) [] [] (Node.round __src) [])=[]∧qO13 v17.o (let __src:=s1.o;Out.mk (Out.records __src) (Out.messages __src) (Out.ready __src) (s1.o.lost++List.map (fun (x:Read)=>x.token) s.n.reads)) (v12=Out.lost (let __src:=s1.o;Out.mk (Out.records __src) (Out.messages __src) (Out.ready __src) (s1.o.lost++List.map (fun (x:Read)=>x.token) v4))∧True)))) (by intro x;kernel_rfl) ?_
  ·subst hs1
   repeat' apply And.intro
   all_goals first | rfl | (simp;done) | (simp;rfl)
  rintro j hj
  subst hs1
  simp only [qN0,qN15,qN17,qN18,qN7,qO13,imp_self,implies_true,true_and,and_true,decide_eq_true_eq,decide_eq_false_iff_not]
  have hlt:((recS s (zcN t 0)).o.lost++(s.n.reads.take j).map (·.token)).length≤75000:=by
   have:(s.n.reads.take j).length≤s.n.reads.length:=by simp only [List.length_take];omega
   simp only [List.length_append,List.length_map]
   have h9:(recS s (zcN t 0)).o.lost.length≤70000:=hll
   omega
  refine ⟨fun h6=>⟨⟨by omega,h6,by show j<s.n.reads.length;omega⟩,Nat.le_trans (Nat.mul_le_mul_right _ (Nat.add_le_add_right hlt 1)) (by decide),?_⟩,fun h6=>?_⟩
  ·refine Back.mk (j+1) (by omega) (by omega) (p0:=let v0:=s.n.reads;let v1:=(0:Int);let v2:=(↑(v0.length):Int);let v3:=recS s (zcN t v1);let v4:=v3.n;let v10:=v3.o.lost;let v21:=recS s (Record.mk (1:Int) t v1 (Entry.mk v1 v1 v1 (Config.mk [] []) (ByteArray.mk #[])) v1 (Snap.mk v1 v1 (Config.mk [] []) (ByteArray.mk #[])));IntKind.wrap IntKind.i64 ((↑j:Int)+(1:Int))=(↑(j+(1:Nat)):Int)∧v2=v2∧qN0 v4 v4 (v4.commit=v4.commit∧v1=v1∧v4.elapsed=v4.elapsed∧v4.round=v4.round∧v10++List.map (fun (x:Read)=>x.token) (List.take j v0)++[Read.token (List.getD v21.n.reads j default)]=v10++List.map (fun (x:Read)=>x.token) (List.take (j+(1:Nat)) v0)∧qN15 v21.n v21.n (v21.o.records=v21.o.records∧v21.o.messages=v21.o.messages∧v21.o.ready=v21.o.ready∧True))) (by kernel_rfl) ?_
   have e1:=za3 (l:=s.n.reads) (d:=(default:Read)) (i:=j) (by omega)
   simp only [qN0,qN15,qN17,qN18,qN7,qO13,zbj (i:=j) (by omega),e1,List.map_append,List.map_cons,List.map_nil,List.append_assoc,true_and,and_true]
   first | exact ⟨by omega,rfl⟩ | omega
  ·obtain rfl:j=s.n.reads.length:=by omega
   rw [List.take_length]
   repeat' apply And.intro
   all_goals rfl
 ·have h:¬ s.n.kept.term<t:=by simpa using h
  have e:za5 s t=⟨{s.n with role:=1,yes:=[],peers:=[],reads:=[]},{s.o with lost:=s.o.lost++s.n.reads.map (·.token)}⟩:=by rw [za5,zcj,if_neg h]
  rw [e]
  refine LoopG.head (zaj (zaa zdE zad) fun _=>none) 0 (A:=Nat) (fun j=>j≤s.n.reads.length) (fun j=>[(28,.int .i64 j),(27,.int .i64 (s.n.reads.length:Int))]) (fun j=>[(2,.cells 115 (wCs [1] s 3 4 5 6 7 8 9 12)),(12,.row 3 [2] (.rInts (s.o.lost++(s.n.reads.take j).map (·.token)))),(10,.dead)]) (fun j=>s.n.reads.length-j) 0 (Nat.zero_le _) (p0:=let v26:=(↑(s.n.reads.length):Int);(0:Int)=(↑(0:Nat):Int)∧v26=v26∧qN0 s.n s.n (qN7 s.n s.n (s.o.lost=s.o.lost++List.map (fun (x:Read)=>x.token) (List.take (0:Nat) s.n.reads)∧qN15 s.n s.n (s.o.records=s.o.records∧s.o.messages=s.o.messages∧s.o.ready=s.o.ready∧True)))) (by kernel_rfl) ?_ 300 (p:=fun (x:Nat) (V:List PE→Prop)=>let v3:=s.n.reads;let v6:=(↑x:Int);let v7:=(1:Int);let v8:=v3.length;let v12:=s.o.lost++List.map (fun (x:Read)=>x.token) (List.take x v3);let v15:=decide (v6<(↑v8:Int));True∧True∧(v15=true→((0:Int)≤v6∧v6<(↑v8:Int)∧x<v8∧True)∧((v12.length+List.length [Read.token (List.getD v3 x default)])*(1024:Nat)≤140737488355328∧True)∧True∧V [PE.a])∧(v15=false→True∧s.n.id=Node.id (let __src:=s.n;Node.mk (Node.id __src) v7 (Node.kept __src) (Node.commit __src) (Node.lead __src) (Node.elapsed __src) [] [] (Node.round __src) [])∧v7=Node.role (let __src:=s.n;Node.mk (Node.id __src) v7 (Node.kept __src) (Node.commit __src) (Node.lead __src) (Node.elapsed __src) [] [] (Node.round __src) [])∧qN18 s.n (let __src:=s.n;Node.mk (Node.id __src) (1:Int) (Node.kept __src) (Node.commit __src) (Node.lead __src) (Node.elapsed __src) [] [] (Node.round __src) []) (Node.yes (let __src:=s.n;Node.mk (Node.id __src) v7 (Node.kept __src) (Node.commit __src) (Node.lead __src) (Node.elapsed __src) [] [] (Node.round __src) [])=[]∧Node.peers (let __src:=s.n;Node.mk (Node.id __src) v7 (Node.kept __src) (Node.commit __src) (Node.lead __src) (Node.elapsed __src) [] [] (Node.round __src) [])=[]∧Node.reads (let __src:=s.n;Node.mk (Node.id __src) v7 (Node.kept __src) (Node.commit __src) (Node.lead __src) (Node.elapsed __src) [] [] (Node.round __src) [])=[]∧qO13 s.o (let __src:=s.o;Out.mk (Out.records __src) (Out.messages __src) (Out.ready __src) (s.o.lost++List.map (fun (x:Read)=>x.token) s.n.reads)) (v12=Out.lost (let __src:=s.o;Out.mk (Out.records __src) (Out.messages __src) (Out.ready __src) (s.o.lost++List.map (fun (x:Read)=>x.token) v3))∧True)))) (by intro x;kernel_rfl) ?_
  ·repeat' apply And.intro
   all_goals first | rfl | (simp;done) | (simp;rfl)
  rintro j hj
  simp only [qN0,qN15,qN17,qN18,qN7,qO13,imp_self,implies_true,true_and,and_true,decide_eq_true_eq,decide_eq_false_iff_not]
  have hlt:(s.o.lost++(s.n.reads.take j).map (·.token)).length≤75000:=by
   have:(s.n.reads.take j).length≤s.n.reads.length:=by simp only [List.length_take];omega
   simp only [List.length_append,List.length_map]
   have h9:s.o.lost.length≤70000:=hll
   omega
  refine ⟨fun h6=>⟨⟨by omega,h6,by show j<s.n.reads.length;omega⟩,Nat.le_trans (Nat.mul_le_mul_right _ (Nat.add_le_add_right hlt 1)) (by decide),?_⟩,fun h6=>?_⟩
  ·refine Back.mk (j+1) (by omega) (by omega) (p0:=let v14:=s.n.reads;let v26:=(↑(v14.length):Int);IntKind.wrap IntKind.i64 ((↑j:Int)+(1:Int))=(↑(j+(1:Nat)):Int)∧v26=v26∧qN0 s.n s.n (qN7 s.n s.n (s.o.lost++List.map (fun (x:Read)=>x.token) (List.take j v14)++[Read.token (List.getD v14 j default)]=s.o.lost++List.map (fun (x:Read)=>x.token) (List.take (j+(1:Nat)) v14)∧qN15 s.n s.n (s.o.records=s.o.records∧s.o.messages=s.o.messages∧s.o.ready=s.o.ready∧True)))) (by kernel_rfl) ?_
   have e1:=za3 (l:=s.n.reads) (d:=(default:Read)) (i:=j) (by omega)
   simp only [qN0,qN15,qN17,qN18,qN7,qO13,zbj (i:=j) (by omega),e1,List.map_append,List.map_cons,List.map_nil,List.append_assoc,true_and,and_true]
   first | exact ⟨by omega,rfl⟩ | omega
  ·obtain rfl:j=s.n.reads.length:=by omega
   rw [List.take_length]
   repeat' apply And.intro
   all_goals rfl
def zpH:Ent:=zj7 79 3 mW vrW [1] glW fun s=>([Few 70000 s],.tup [],wMo (zbO s))
theorem zjB:zaf Tryz.prog zpH:=zcB (fnB Tryz.func79 (by decide) rfl) fun s h=>zry s (h _ (by simp))
def zqo:Ent:=zcC 87 3 mW dInt.L vrW [1,0] glW fun s t=>([Few 70000 s],.tup [],wMo (za5 s t))
theorem zee:zaf Tryz.prog zqo:=zaL (fnB Tryz.func87 (by decide) rfl) fun s t h=>zuA s t (h _ (by simp))
def zo2 (s:Step) (m:Message):Bool:=decide (m.term>s.n.kept.term)&&zeJ s.n.kept m.index m.logTerm&&(s.n.lead==0||decide (s.n.elapsed≥6))
def zug (m:Message) (ok:Bool):Message:=⟨2,0,m.from_,if ok then m.term else 0,0,0,[],0,0,ok,zen,0,0,zs⟩
def zbQ (s:Step) (m:Message):Step:=zaJ s (zug m (zo2 s m))
theorem zrL (s:Step) (m:Message) (hf:Few 70000 s):FnG Tryz.prog 88 3 (wMi s) [.ptr 2 0,dMessage.L.can m] (.tup []) (wMo (zbQ s m)):=by
 refine FnG.of_vc (zaj (zaa zjE (zaa zec zad)) fun _=>none) Tryz.func88 rfl (by decide) rfl 300 (p:=fun (V:List PE→Prop)=>let v2:=s.n.kept;let v4:=Step.n (zbQ s m);let v5:=Step.o (zbQ s m);let v7:=(0:Int);let v10:=s.n.lead==v7;let v11:=decide (m.term>v2.term);let v12:=zac v11 (zeJ v2 m.index (Message.logTerm m)) false;let v13:=zac v12 (zac v10 true (decide (s.n.elapsed≥6))) false;let v14:=zas v13 v7 v7;let v15:=if v13=true then ByteArray.mk #[] else ByteArray.mk #[];let v16:=zaJ s (Message.mk (zas v13 (2:Int) (2:Int)) v14 (zas v13 m.from_ m.from_) (zas v13 m.term v7) v14 v14 [] v14 v14 (zac v13 true false) (Snap.mk v14 v14 (Config.mk [] []) v15) v14 v14 v15);True∧True∧((v11=true→v11=true)∧(v11=true→v11=true)∧(v11=true→v11=true)∧(v11=true→v11=true)∧(v11=true→v11=true)∧(v11=true→v11=true)∧(v11=true→v11=true)∧(v11=true→v11=true)∧(v11=true→v11=true)∧(v11=true→v2.entries.length≤17592186044416)∧(v11=true→v11=true)∧(v12=true→v12=true)∧(v12=true→v12=true)∧(v12=true→v12=true)∧(v12=true→v12=true)∧(v12=true→v12=true)∧(v12=true→v12=true)∧((v12&&!v10)=true→(v12&&!v10)=true)∧((v12&&!v10)=true→(v12&&!v10)=true)∧((v12&&!v10)=true→(v12&&!v10)=true)∧((v12&&!v10)=true→(v12&&!v10)=true)∧((v12&&!v10)=true→(v12&&!v10)=true)∧(v12=true→v12=true)∧(v12=true→v10=false→(v12&&!v10)=true)∧(v12=true→v12=true)∧True)∧True∧(s.o.messages.length≤1000000∧True)∧qN0 v16.n v4 (qN3 v16.n v4 (qO13 v16.o v5 (v16.o.lost=v5.lost∧True)))) (by kernel_rfl) ?_
 simp only [qN0,qN3,qO13,imp_self,implies_true,true_and,and_true,zae,zag]
 refine ⟨⟨fun h=>(hf.sn (by decide)).ls.1,fun h1 h2=>by rw [h1,h2];rfl⟩,(hf.so (by decide)).messages,?_⟩
 obtain ⟨b,hb⟩:∃ b,zo2 s m=b:=⟨_,rfl⟩
 rw [zbQ,hb]
 unfold zo2 at hb
 simp only [hb,zbw,zbL]
 cases b<;>(repeat' apply And.intro)<;>rfl
def zt8:Ent:=zcC 88 3 mW dMessage.L vrW [1,0] glW fun s m=>([Few 70000 s],.tup [],wMo (zbQ s m))
theorem zpX:zaf Tryz.prog zt8:=zaL (fnB Tryz.func88 (by decide) rfl) fun s m h=>zrL s m (h _ (by simp))
def zhl (s:Step) (m:Message) (role term:Int):Bool:=s.n.role==role&&m.ok&&m.term==term
def yesS (s:Step) (m:Message):Step:=⟨{s.n with yes:=zcm s.n.yes m.from_},s.o⟩
def yesR (s:Step) (m:Message) (role term:Int):Step:=if zhl s m role term then yesS s m else s
def yesB (s:Step) (m:Message) (role term:Int):Bool:=zhl s m role term&&zbb (yesS s m).n
theorem zi1 (l:List Int) (v:Int):(zcm l v).length≤16:=by
 unfold zcm
 split
 ·split
  ·assumption
  ·simp
 ·simp
theorem zv7 (s:Step) (m:Message) (role term:Int) (hf:Few 70000 s):FnG Tryz.prog 150 3 (wMi s) [.ptr 2 0,dMessage.L.can m,dInt.L.can role,dInt.L.can term] (.bool (yesB s m role term)) (wMo (yesR s m role term)):=by
 refine FnG.of_vc (zaj (zaa zgU (zaa zhW zad)) fun _=>none) Tryz.func150 rfl (by decide) rfl 300 (p:=fun (V:List PE→Prop)=>let v0:=s.n;let v5:=v0.reads;let v19:=yesB s m role term;let v21:=yesR s m role term;let v22:=zcm v0.yes m.from_;let v29:=v0.role != role;let v30:=zac v29 true !m.ok;let v31:=zac v30 true (m.term != term);let v32:=Node.mk v0.id v0.role v0.kept v0.commit v0.lead v0.elapsed v22 v0.peers v0.round v5;True∧(((!v29)=true→(!v29)=true)∧((!v29)=true→(!v29)=true)∧(v29=false→(!v29)=true)∧((!v30)=true→(!v30)=true)∧((!v30)=true→(!v30)=true)∧((!v30)=true→(!v30)=true)∧(v30=false→(!v30)=true)∧True)∧True∧(v31=true→True∧false=v19∧qN0 v0 v21.n (qN3 v0 v21.n (qO13 s.o v21.o (s.o.lost=v21.o.lost∧True))))∧(v31=false→(v0.yes.length≤17592186044416∧v0.yes.length≤1000000∧True)∧(v0.kept.entries.length≤17592186044416∧v22.length≤17592186044416∧v0.peers.length≤17592186044416∧v5.length≤17592186044416∧s.o.records.length≤17592186044416∧s.o.messages.length≤17592186044416∧s.o.ready.length≤17592186044416∧s.o.lost.length≤17592186044416∧SmallN v32∧True)∧zbb v32=v19∧qN0 v0 v21.n (qN19 v0 v21.n (v22=v21.n.yes∧v0.peers=v21.n.peers∧v5=v21.n.reads∧qO13 s.o v21.o (s.o.lost=v21.o.lost∧True))))) (by kernel_rfl) ?_
 simp only [qN0,qN19,qN3,qO13,imp_self,implies_true,true_and,and_true,zae,zag]
 refine ⟨⟨fun h=>by rw [h];rfl,fun h=>by rw [h];rfl⟩,fun h=>?_,fun h=>?_⟩
 ·have ho:zhl s m role term=false:=by
   unfold zhl
   revert h
   simp only [bne]
   cases (s.n.role==role)<;>cases m.ok<;>cases (m.term==term)<;>simp
  have e:yesR s m role term=s:=by rw [yesR,ho];rfl
  rw [e,yesB,ho]
  repeat' apply And.intro
  all_goals rfl
 ·have ho:zhl s m role term=true:=by
   unfold zhl
   revert h
   simp only [bne]
   cases (s.n.role==role)<;>cases m.ok<;>cases (m.term==term)<;>simp
  have e:yesR s m role term=yesS s m:=by rw [yesR,ho];rfl
  rw [e,yesB,ho]
  obtain ⟨b1,b2,b3,b4,b5⟩:=(hf.sn (by decide)).ls
  obtain ⟨c1,c2,c3,c4⟩:=(hf.so (by decide)).ls
  have hy:=hf.yes
  have hw:=zi1 s.n.yes m.from_
  refine ⟨⟨by omega,by omega⟩,⟨b1,by omega,b3,b4,c1,c2,c3,c4,⟨(hf.sn (by decide)).k,by show (zcm s.n.yes m.from_).length≤_;omega,(hf.sn (by decide)).peers,(hf.sn (by decide)).reads⟩⟩,?_⟩
  repeat' apply And.intro
  all_goals rfl
def LogG (k:Kept):Prop:=onC k=true∧k.snap.index+k.entries.length≤900001000∧k.entries.length<10000
def TermG (k:Kept):Prop:=0≤k.term∧k.term≤900000001
theorem Few.yesS {B:Nat} {s:Step} (m:Message) (h:Few B s) (hb:16≤B):Few B (yesS s m):=⟨h.entries,h.ec,h.sc,Nat.le_trans (zi1 _ _) hb,h.peers,h.reads,h.records,h.messages,h.ready,h.lost⟩
theorem Few.yr {B:Nat} {s:Step} {m:Message} {role term:Int} (h:Few B s) (hb:16≤B):Few B (yesR s m role term):=by
 unfold yesR
 split
 ·exact h.yesS m hb
 ·exact h
theorem Few.fl1 {B:Nat} {s:Step} (t:Int) (h:Few B s):Few (B+1) (zcj s t):=by
 unfold zcj
 split
 ·have:=h.vote t 0
  exact ⟨this.entries,this.ec,this.sc,this.yes,this.peers,this.reads,this.records,this.messages,this.ready,this.lost⟩
 ·exact h.mono (Nat.le_succ _)
theorem Few.fall {B:Nat} {s:Step} (t:Int) (h:Few B s):Few (B+5001) (za5 s t):=by
 have h1:=h.fl1 t
 have h2:=h.reads
 have h3:=h1.lost
 have g:=h1.mono (show B+1≤B+5001 by omega)
 exact ⟨g.entries,g.ec,g.sc,Nat.zero_le _,Nat.zero_le _,Nat.zero_le _,g.records,g.messages,g.ready,by show (_++_:List Int).length≤_;simp only [List.length_append,List.length_map];omega⟩
def eYes:Ent:=zso 150 3 mW dMessage.L dInt.L dInt.L vrW [1,0,0,0] glW fun s m r t=>([Few 70000 s],.bool (yesB s m r t),wMo (yesR s m r t))
theorem zuH:zaf Tryz.prog eYes:=zhU (fnB Tryz.func150 (by decide) rfl) fun s m r t h=>zv7 s m r t (h _ (by simp))
def tabBd:List Ent:=[eYes,zpH,zuM]
theorem zl6:∀ e∈tabBd,zaf Tryz.prog e:=zaa zuH (zaa zjB (zaa zmj zad))
def zaG (s:Step) (m:Message):Step:=if yesB s m 2 (IntKind.i64.wrap (s.n.kept.term+1)) then zbO (yesR s m 2 (IntKind.i64.wrap (s.n.kept.term+1))) else yesR s m 2 (IntKind.i64.wrap (s.n.kept.term+1))
theorem zo0 (s:Step) (m:Message) (hf:Few 60000 s):FnG Tryz.prog 89 3 (wMi s) [.ptr 2 0,dMessage.L.can m] (.tup []) (wMo (zaG s m)):=by
 refine FnG.of_vc (zaj zl6 fun _=>none) Tryz.func89 rfl (by decide) rfl 300 (p:=fun (V:List PE→Prop)=>let v0:=Step.o (zaG s m);let v1:=Step.n (zaG s m);let v26:=IntKind.wrap IntKind.i64 (s.n.kept.term+(1:Int));let v27:=yesB s m (2:Int) v26;let v28:=yesR s m (2:Int) v26;let v30:=zbO v28;True∧(Few 70000 s∧True)∧True∧(v27=true→(Few 70000 v28∧True)∧qN0 v30.n v1 (qN3 v30.n v1 (qO13 v30.o v0 (v30.o.lost=v0.lost∧True))))∧(v27=false→qN0 v28.n v1 (qN3 v28.n v1 (qO13 v28.o v0 (v28.o.lost=v0.lost∧True))))) (by kernel_rfl) ?_
 simp only [qN0,qN3,qO13,imp_self,implies_true,true_and,and_true,zae,zag]
 have k1:=Few.yr (m:=m) (role:=2) (term:=IntKind.i64.wrap (s.n.kept.term+1)) hf (by decide)
 refine ⟨hf.mono (by decide),fun h=>?_,fun h=>?_⟩
 ·rw [zaG,if_pos h]
  refine ⟨k1.mono (by decide),?_⟩
  repeat' apply And.intro
  all_goals rfl
 ·rw [zaG,if_neg (by rw [h];decide)]
  repeat' apply And.intro
  all_goals rfl
def zkC:Ent:=zcC 89 3 mW dMessage.L vrW [1,0] glW fun s m=>([Few 60000 s],.tup [],wMo (zaG s m))
theorem zgR:zaf Tryz.prog zkC:=zaL (fnB Tryz.func89 (by decide) rfl) fun s m h=>zo0 s m (h _ (by simp))
def zaY (s:Step) (m:Message):Step:=if yesB s m 3 s.n.kept.term then zeu (yesR s m 3 s.n.kept.term) else yesR s m 3 s.n.kept.term
theorem zqX (s:Step) (m:Message) (hf:Few 60000 s):FnG Tryz.prog 91 3 (wMi s) [.ptr 2 0,dMessage.L.can m] (.tup []) (wMo (zaY s m)):=by
 refine FnG.of_vc (zaj zl6 fun _=>none) Tryz.func91 rfl (by decide) rfl 300 (p:=fun (V:List PE→Prop)=>let v0:=Step.n (zaY s m);let v1:=Step.o (zaY s m);let v2:=s.n.kept.term;let v27:=yesB s m (3:Int) v2;let v28:=yesR s m (3:Int) v2;let v30:=zeu v28;True∧(Few 70000 s∧True)∧True∧(v27=true→(Few 80000 v28∧True)∧qN0 v30.n v0 (qN3 v30.n v0 (qO13 v30.o v1 (v30.o.lost=v1.lost∧True))))∧(v27=false→qN0 v28.n v0 (qN3 v28.n v0 (qO13 v28.o v1 (v28.o.lost=v1.lost∧True))))) (by kernel_rfl) ?_
 simp only [qN0,qN3,qO13,imp_self,implies_true,true_and,and_true,zae,zag]
 have k1:=Few.yr (m:=m) (role:=3) (term:=s.n.kept.term) hf (by decide)
 refine ⟨hf.mono (by decide),fun h=>?_,fun h=>?_⟩
 ·rw [zaY,if_pos h]
  refine ⟨k1.mono (by decide),?_⟩
  repeat' apply And.intro
  all_goals rfl
 ·rw [zaY,if_neg (by rw [h];decide)]
  repeat' apply And.intro
  all_goals rfl
def zpE:Ent:=zcC 91 3 mW dMessage.L vrW [1,0] glW fun s m=>([Few 60000 s],.tup [],wMo (zaY s m))
theorem zj9:zaf Tryz.prog zpE:=zaL (fnB Tryz.func91 (by decide) rfl) fun s m h=>zqX s m (h _ (by simp))
def zi2 (s:Step) (m:Message):Bool:=m.term==s.n.kept.term&&(s.n.kept.vote==0||s.n.kept.vote==m.from_)&&zeJ s.n.kept m.index m.logTerm
def znH (m:Message) (ok:Bool):Message:=⟨4,0,m.from_,0,0,0,[],0,0,ok,zen,0,0,zs⟩
def zfo (s:Step) (m:Message):Step:=if zi2 s m then ⟨{s.n with elapsed:=0},s.o⟩ else s
def zjY (s:Step) (m:Message):Step:=if zi2 s m&&s.n.kept.vote==0 then recS (zfo s m) (zcN s.n.kept.term m.from_) else zfo s m
def zcn (s:Step) (m:Message):Step:=zaJ (zjY s m) (znH m (zi2 s m))
theorem ztT (s:Step) (m:Message) (hf:Few 60000 s):FnG Tryz.prog 90 3 (wMi s) [.ptr 2 0,dMessage.L.can m] (.tup []) (wMo (zcn s m)):=by
 refine FnG.of_vc (zaj (zaa zjE (zaa zdE (zaa zec zad))) fun _=>none) Tryz.func90 rfl (by decide) rfl 300 (p:=fun (V:List PE→Prop)=>let v0:=s.n;let v3:=v0.kept;let v8:=v3.snap;let v9:=Step.n (zcn s m);let v10:=v3.entries;let v12:=Step.o (zcn s m);let v16:=v8.config;let v27:=ByteArray.mk #[];let v30:=(0:Int);let v47:=m.term==v3.term;let v48:=v3.vote==v30;let v49:=Snap.mk v30 v30 (Config.mk [] []) v27;let v50:=zac v47 (zac v48 true (v3.vote==m.from_)) false;let v51:=zac v50 (zeJ v3 m.index (Message.logTerm m)) false;let v52:=zas v51 v3.term v3.term;let v53:=zas v51 v3.vote v3.vote;let v54:=Record.mk (1:Int) v52 m.from_ (Entry.mk v30 v30 v30 (Config.mk [] []) v27) v30 v49;let v55:=zac v51 (v53==v30) false;let v56:=Message.mk (4:Int) v30 m.from_ v30 v30 v30 [] v30 v30 v51 v49 v30 v30 v27;let v57:=Kept.mk v52 v53 (Snap.mk (zas v51 v8.index v8.index) (zas v51 v8.term v8.term) (Config.mk (if v51=true then v16.voters else v16.voters) (if v51=true then v16.learners else v16.learners)) (if v51=true then v8.data else v8.data)) v10;let v58:=Step.mk (Node.mk (zas v51 v0.id v0.id) (zas v51 v0.role v0.role) v57 (zas v51 v0.commit v0.commit) (zas v51 v0.lead v0.lead) (zas v51 v30 v0.elapsed) v0.yes v0.peers (zas v51 v0.round v0.round) v0.reads) s.o;let v59:=recS v58 v54;let v60:=zaJ v58 v56;let v66:=zaJ v59 v56;True∧((v47=true→v47=true)∧(v47=true→v47=true)∧(v47=true→v47=true)∧(v47=true→v47=true)∧(v47=true→v47=true)∧(v47=true→v47=true)∧(v47=true→v47=true)∧((v47&&!v48)=true→(v47&&!v48)=true)∧((v47&&!v48)=true→(v47&&!v48)=true)∧((v47&&!v48)=true→(v47&&!v48)=true)∧((v47&&!v48)=true→(v47&&!v48)=true)∧((v47&&!v48)=true→(v47&&!v48)=true)∧((v47&&!v48)=true→(v47&&!v48)=true)∧((v47&&!v48)=true→(v47&&!v48)=true)∧((v47&&!v48)=true→(v47&&!v48)=true)∧(v47=true→v47=true)∧(v47=true→v48=false→(v47&&!v48)=true)∧(v47=true→v47=true)∧(v50=true→v50=true)∧(v50=true→v50=true)∧(v50=true→v50=true)∧(v50=true→v50=true)∧(v50=true→v50=true)∧(v50=true→v50=true)∧(v50=true→v50=true)∧(v50=true→v50=true)∧(v50=true→v50=true)∧(v50=true→v10.length≤17592186044416)∧(v50=true→v50=true)∧True)∧True∧True∧((v51=true→v51=true)∧(v51=true→v51=true)∧(v51=true→v51=true)∧(v51=true→v51=true)∧(v51=true→v51=true)∧(v51=true→v51=true)∧(v51=true→v51=true)∧True)∧True∧(v55=true→(s.o.records.length≤1000000∧v10.length≤1000000∧SmallR v54∧zgg v57 v54∧(1:Int)≠(4:Int)∧True)∧(v59.o.messages.length≤1000000∧True)∧qN0 v66.n v9 (qN3 v66.n v9 (qO13 v66.o v12 (v66.o.lost=v12.lost∧True))))∧(v55=false→(s.o.messages.length≤1000000∧True)∧qN0 v60.n v9 (qN3 v60.n v9 (qO13 v60.o v12 (v60.o.lost=v12.lost∧True))))) (by kernel_rfl) ?_
 simp only [qN0,qN3,qO13,imp_self,implies_true,true_and,and_true,zae,zag]
 obtain ⟨b,hb⟩:∃ b,zi2 s m=b:=⟨_,rfl⟩
 have hb2:=hb
 unfold zi2 at hb2
 simp only [hb2,zbw,zbL]
 refine ⟨⟨fun h1 h2=>by rw [h1,h2];rfl,fun _=>(hf.sn (by decide)).ls.1⟩,fun h=>?_,fun h=>?_⟩
 ·have h:b=true∧(s.n.kept.vote==0)=true:=by simpa using h
  obtain ⟨rfl,h2⟩:=h
  have e:zcn s m=zaJ (recS ⟨{s.n with elapsed:=0},s.o⟩ (zcN s.n.kept.term m.from_)) (znH m true):=by
   rw [zcn,zjY,zfo,hb,h2];rfl
  rw [e]
  refine ⟨⟨(hf.so (by decide)).records,(hf.sn (by decide)).ls.2.2.2.2,zd3 _ _,zeB _ _ _,by decide⟩,(hf.so (by decide)).messages,?_⟩
  repeat' apply And.intro
  all_goals rfl
 ·have h:b=true→(s.n.kept.vote==0)=false:=fun hb=>by rw [hb] at h;simpa using h
  have e:zcn s m=zaJ (if b then ⟨{s.n with elapsed:=0},s.o⟩ else s) (znH m b):=by
   rw [zcn,zjY,zfo,hb]
   cases b
   ·rfl
   ·rw [h rfl];rfl
  rw [e]
  refine ⟨(hf.so (by decide)).messages,?_⟩
  cases b<;>(repeat' apply And.intro)<;>rfl
def zws:Ent:=zcC 90 3 mW dMessage.L vrW [1,0] glW fun s m=>([Few 60000 s],.tup [],wMo (zcn s m))
theorem zsq:zaf Tryz.prog zws:=zaL (fnB Tryz.func90 (by decide) rfl) fun s m h=>ztT s m (h _ (by simp))
def za2 (s:Step) (m:Message):Bool:=!decide (m.term<s.n.kept.term)&&s.n.role != 4
def zab (s:Step) (m:Message):Step:=
 if m.term<s.n.kept.term then zaJ s (zbW m false 0)
 else if s.n.role=4 then s
 else ⟨{(za5 s s.n.kept.term).n with lead:=m.from_,elapsed:=0},(za5 s s.n.kept.term).o⟩
theorem zp1 (s:Step) (m:Message) (hf:Few 60000 s):FnG Tryz.prog 151 3 (wMi s) [.ptr 2 0,dMessage.L.can m] (.bool (za2 s m)) (wMo (zab s m)):=by
 refine FnG.of_vc (zaj (zaa zik (zaa zee zad)) fun _=>none) Tryz.func151 rfl (by decide) rfl 300 (p:=fun (V:List PE→Prop)=>let v6:=Step.n (zab s m);let v7:=Step.o (zab s m);let v27:=za5 s s.n.kept.term;let v39:=zaJ s (zbW m false (0:Int));let v45:=s.n.role==4;let v47:=decide (m.term<s.n.kept.term);True∧True∧True∧(v47=true→(s.o.messages.length≤1000000∧True)∧True∧false=za2 s m∧qN0 v39.n v6 (qN3 v39.n v6 (qO13 v39.o v7 (v39.o.lost=v7.lost∧True))))∧(v47=false→True∧True∧(v45=true→True∧false=za2 s m∧qN0 s.n v6 (qN3 s.n v6 (qO13 s.o v7 (s.o.lost=v7.lost∧True))))∧(v45=false→(Few 70000 s∧True)∧True∧True∧true=za2 s m∧qN0 v27.n v6 (v27.n.commit=v6.commit∧m.from_=v6.lead∧(0:Int)=v6.elapsed∧qN20 v27.n v6 (qO13 v27.o v7 (v27.o.lost=v7.lost∧True)))))) (by kernel_rfl) ?_
 simp only [qN0,qN20,qN3,qO13,imp_self,implies_true,true_and,and_true,zae,zag]
 refine ⟨fun h=>?_,fun h=>⟨fun h2=>?_,fun h2=>?_⟩⟩
 ·have h':m.term<s.n.kept.term:=by simpa using h
  have e:zab s m=zaJ s (zbW m false 0):=by rw [zab,if_pos h']
  have e2:za2 s m=false:=by rw [za2,h];rfl
  rw [e,e2]
  refine ⟨(hf.so (by decide)).messages,?_⟩
  repeat' apply And.intro
  all_goals rfl
 ·have h':¬ m.term<s.n.kept.term:=by simpa using h
  have h2':s.n.role=4:=by simpa using h2
  have e:zab s m=s:=by rw [zab,if_neg h',if_pos h2']
  have e2:za2 s m=false:=by rw [za2,h,h2'];rfl
  rw [e,e2]
  repeat' apply And.intro
  all_goals rfl
 ·have h':¬ m.term<s.n.kept.term:=by simpa using h
  have h2':¬ s.n.role=4:=by simpa using h2
  have e:zab s m=⟨{(za5 s s.n.kept.term).n with lead:=m.from_,elapsed:=0},(za5 s s.n.kept.term).o⟩:=by rw [zab,if_neg h',if_neg h2']
  have e2:za2 s m=true:=by rw [za2,h];simp [h2']
  rw [e,e2]
  refine ⟨hf.mono (by decide),?_⟩
  repeat' apply And.intro
  all_goals rfl
def zih:Ent:=zcC 151 3 mW dMessage.L vrW [1,0] glW fun s m=>([Few 60000 s],.bool (za2 s m),wMo (zab s m))
theorem ze9:zaf Tryz.prog zih:=zaL (fnB Tryz.func151 (by decide) rfl) fun s m h=>zp1 s m (h _ (by simp))
def outZ:Out:=⟨[],[],[],[]⟩
def zah (n:Node):Step:=⟨n,outZ⟩
def zeC (n:Node):List BE:=[.dead,.dead,.cells 115 (n.osvs [1] 3 4 5 6++[.nil,.nil,.nil,.nil]),.row 89 [1] (.rEntry n.kept.entries),.row 3 [] (.rInts n.yes),.row 94 [] (.rPeer n.peers),.row 96 [] (.rRead n.reads)]
def tabE2:List Ent:=[zdn,zuN]
theorem zl4:∀ e∈tabE2,zaf Tryz.prog e:=zaa zbT (zaa zml zad)
theorem zqL (n:Node) (hn:SmallN n) (hr:zak n=false):FnC Tryz.prog 73 [dNode.can n] (.tup [.any,.int .i64 1]) D2:=by
 refine FnG.of_vc (zaj zl4 fun _=>none) Tryz.func73 rfl (by decide) rfl 300 (p:=fun (V:List PE→Prop)=>let v0:=errC n != 0;True∧(SmallN n∧True)∧True∧True∧(v0=true→True∧errC n=1∧True)∧(v0=false→(SmallN n∧True)∧(0:Int)=1∧True)) (by kernel_rfl) ?_
 simp only [imp_self,implies_true,true_and,and_true,zae,zag]
 refine ⟨hn,fun h=>?_,fun h=>?_⟩
 ·rw [errC,hr];rfl
 ·rw [errC,hr] at h;exact absurd h (by decide)
theorem zqK (n:Node) (hn:SmallN n) (hr:zak n=true):FnC Tryz.prog 73 [dNode.can n] (.tup [.ptr 2 0,.int .i64 0]) (zeC n):=by
 refine FnG.of_vc (zaj zl4 fun _=>none) Tryz.func73 rfl (by decide) rfl 300 (p:=fun (V:List PE→Prop)=>let v11:=errC n != 0;True∧(SmallN n∧True)∧True∧True∧(v11=true→True∧False)∧(v11=false→(SmallN n∧True)∧(0:Int)=0∧qN0 n n (qN1 n n (n.reads=n.reads∧True)))) (by kernel_rfl) ?_
 simp only [qN0,qN1,imp_self,implies_true,true_and,and_true,zae,zag]
 refine ⟨hn,fun h=>?_,fun h=>?_⟩
 ·rw [errC,hr] at h;exact absurd h (by decide)
 exact hn
abbrev D11:List BE:=[.dead,.dead,.dead,.dead,.dead,.dead,.dead,.dead,.dead,.dead,.dead]
abbrev D10:List BE:=[.dead,.dead,.dead,.dead,.dead,.dead,.dead,.dead,.dead,.dead]
def endO (s:Step):SV:= .tup [.agg (s.n.svs [1,4]),.agg (s.o.svs [2,3]),.int .i64 0]
theorem zwq (s:Step) (hn:SmallN s.n) (ho:SmallO s.o):FnG Tryz.prog 81 3 (wMi s) [.ptr 2 0] (endO s) D11:=by
 refine FnG.of_vc (zaj zad fun _=>none) Tryz.func81 rfl (by decide) rfl 300 (p:=fun (V:List PE→Prop)=>True∧True∧qN0 s.n s.n (qN21 s.n s.n (qO22 s.o s.o ((0:Int)=0∧True)))) (by kernel_rfl) ?_
 simp only [qN0,qN21,qO22,imp_self,implies_true,true_and,and_true,zae,zag]
 obtain ⟨b1,b2,b3,b4,b5⟩:=hn.ls
 obtain ⟨c1,c2,c3,c4⟩:=ho.ls
 exact ⟨b1,b2,b3,b4,c1,c2,c3,c4⟩
def eEnd:Ent:=zj7 81 3 mW vrW [1] glW fun s=>([SmallN s.n,SmallO s.o],endO s,D11)
theorem zdF:zaf Tryz.prog eEnd:=zcB (fnB Tryz.func81 (by decide) rfl) fun s h=>zwq s (h _ (by simp)) (h _ (by simp))
theorem zuF (s:Step) (hn:SmallN s.n) (ho:SmallO s.o):FnG Tryz.prog 81 3 (sMi 115 s) [.ptr 2 0] (endO s) D10:=by
 refine FnG.of_vc (zaj zad fun _=>none) Tryz.func81 rfl (by decide) rfl 300 (p:=fun (V:List PE→Prop)=>True∧True∧qN0 s.n s.n (qN23 s.n s.n (qO22 s.o s.o ((0:Int)=0∧True)))) (by kernel_rfl) ?_
 simp only [qN0,qN23,qO22,imp_self,implies_true,true_and,and_true,zae,zag]
 obtain ⟨b1,b2,b3,b4,b5⟩:=hn.ls
 obtain ⟨c1,c2,c3,c4⟩:=ho.ls
 exact ⟨b2,b3,b4,c1,c2,c3,c4⟩
def zuU:Ent:=zj7 81 3 mWS vrS [1] glS fun s=>([SmallN s.n,SmallO s.o],endO s,D10)
theorem zmr:zaf Tryz.prog zuU:=zcB (fnB Tryz.func81 (by decide) rfl) fun s h=>zuF s (h _ (by simp)) (h _ (by simp))
def zw8:Ent:=ent1 73 dNode fun n=>([SmallN n,zak n=false],.tup [.any,.int .i64 1],D2)
theorem zmx:zaf Tryz.prog zw8:=zan (fnB Tryz.func73 (by decide) rfl) fun n h=>zqL n (h _ (by simp)) (h _ (by simp))
def zkN:Ent:=ent1 73 dNode fun n=>([SmallN n,zak n=true],.tup [.ptr 2 0,.int .i64 0],zeC n)
theorem zcg:zaf Tryz.prog zkN:=zan (fnB Tryz.func73 (by decide) rfl) fun n h=>zqK n (h _ (by simp)) (h _ (by simp))
abbrev D3d:List BE:=[.dead,.dead,.dead]
def refO (n:Node) (o:Out) (e:Int):SV:= .tup [.agg (n.svs [1]),.agg (o.svs [2]),.int .i64 e]
theorem zgz (e:Int):FnC Tryz.prog 74 [dInt.can e] (refO zeroN outZ e) D3d:=by
 refine FnG.of_vc (zaj zad fun _=>none) Tryz.func74 rfl (by decide) rfl 300 (p:=fun (V:List PE→Prop)=>let v0:=zeroN.kept;let v1:=v0.snap;let v3:=(0:Int);True∧True∧v3=zeroN.id∧v3=zeroN.role∧v3=v0.term∧v3=v0.vote∧v3=v1.index∧v3=v1.term∧v1.config.voters=[]∧v1.config.learners=[]∧ByteArray.mk #[]=v1.data∧v0.entries=[]∧v3=zeroN.commit∧v3=zeroN.lead∧v3=zeroN.elapsed∧zeroN.yes=[]∧zeroN.peers=[]∧v3=zeroN.round∧zeroN.reads=[]∧outZ.records=[]∧outZ.messages=[]∧outZ.ready=[]∧outZ.lost=[]∧e=e∧True) (by kernel_rfl) ?_
 simp only [imp_self,implies_true,true_and,and_true,zae,zag]
 repeat' apply And.intro
 all_goals rfl
def zbh:Ent:=ent1 74 dInt fun e=>([],refO zeroN outZ e,D3d)
theorem zaD:zaf Tryz.prog zbh:=zan (zgz 0).1 fun n h=>zgz n
def tabT0:List Ent:=[zw8,zbh]
theorem zht:∀ e∈tabT0,zaf Tryz.prog e:=zaa zmx (zaa zaD zad)
theorem zra (n:Node) (hn:SmallN n) (hr:zak n=false):FnC Tryz.prog 25 [dNode.can n] (refO zeroN outZ 1) D3d:=by
 refine FnG.of_vc (zaj zht fun _=>none) Tryz.func25 rfl (by decide) rfl 300 (p:=fun (V:List PE→Prop)=>let v14:=(1:Int) != 0;True∧(SmallN n∧zak n=false∧True)∧True∧True∧(v14=true→True∧qN0 zeroN zeroN (qN24 zeroN zeroN (qO25 outZ outZ ((1:Int)=1∧True))))∧(v14=false→False)) (by kernel_rfl) ?_
 simp only [qN0,qN24,qO25,imp_self,implies_true,true_and,and_true,zae,zag]
 exact ⟨⟨hn,hr⟩,fun h=>absurd h (by decide)⟩
noncomputable def tabT1:List Ent:=[zkN,zbh,znx,ePat,zgW,ztz,eRun,zpH,zuX,eEnd]
theorem zrc:∀ e∈tabT1,zaf Tryz.prog e:=zaa zcg (zaa zaD (zaa zeg (zaa zpY (zaa zdg (zaa zpD (zaa zpM (zaa zjB (zaa zmy (zaa zdF zad)))))))))
def elap (n:Node):Int:=if (1000:Int)<IntKind.i64.wrap (n.elapsed+1) then 1000 else IntKind.i64.wrap (n.elapsed+1)
def tick1 (n:Node):Step:=⟨{n with elapsed:=elap n},outZ⟩
def zlp (n:Node):Bool:=hasB (za0 n).voters n.id&&mayC (za0 n)
def zo1 (n:Node):Message:=⟨1,0,0,IntKind.i64.wrap (n.kept.term+1),0,0,[],0,0,false,zen,0,0,zs⟩
def zcI (n:Node):Step:=
 if n.role=4 then (if 2≤elap n then allS ⟨{n with elapsed:=0},outZ⟩ else tick1 n)
 else if elap n<patI n∨zlp n=false then tick1 n
 else if zbb (runS (tick1 n) 2).n then zbO (runS (tick1 n) 2) else askS (runS (tick1 n) 2) (zo1 n)
theorem Few.tick1 {B:Nat} {n:Node} (h:Few B (zah n)):Few B (tick1 n):=⟨h.entries,h.ec,h.sc,h.yes,h.peers,h.reads,h.records,h.messages,h.ready,h.lost⟩
theorem zqZ (n:Node) (hn:SmallN n) (hr:zak n=true) (hf:Few 50000 (zah n)):FnC Tryz.prog 25 [dNode.can n] (refO (zcI n).n (zcI n).o 0) D3d:=by
 refine FnG.of_vc (zaj zrc fun _=>none) Tryz.func25 rfl (by decide) rfl 300 (p:=fun (V:List PE→Prop)=>let v2:=n.kept;let v3:=n.peers;let v4:=n.reads;let v11:=Step.n (zcI n);let v14:=Step.o (zcI n);let v34:=(1000:Int);let v36:=(0:Int);let v44:=Out.mk [] [] [] [];let v45:=n.role==4;let v47:=IntKind.wrap IntKind.i64 (n.elapsed+(1:Int));let v48:=Node.mk n.id n.role v2 n.commit n.lead v36 n.yes v3 n.round v4;let v49:=allS (Step.mk v48 v44);let v55:=if v34<v47 then v34 else v47;let v56:=Node.mk n.id n.role v2 n.commit n.lead v55 n.yes v3 n.round v4;let v57:=za0 v56;let v59:=runS (Step.mk v56 v44) (2:Int);let v61:=zbO v59;let v69:=zac v45 (decide (v55≥2)) false;let v70:=askS v59 (Message.mk (1:Int) v36 v36 (IntKind.wrap IntKind.i64 (v59.n.kept.term+(1:Int))) v36 v36 [] v36 v36 false (Snap.mk v36 v36 (Config.mk [] []) (ByteArray.mk #[])) v36 v36 (ByteArray.mk #[]));let v76:=zac v45 true (decide (v55<(patI v56)));let v77:=zac v76 true !(hasB v57.voters n.id&&mayC v57);True∧(SmallN n∧zak n=true∧True)∧True∧True∧((v36 != v36)=true→True∧qN0 zeroN v11 (qN24 zeroN v11 (qO25 outZ v14 (v36=v36∧True))))∧((v36 != v36)=false→True∧((v45=true→v45=true)∧(v45=true→v45=true)∧(v45=true→v45=true)∧(v45=true→v45=true)∧(v45=true→v45=true)∧(v45=true→v45=true)∧True)∧True∧(v69=true→True∧(SmallN v48∧(0:Nat)+v3.length≤1000000∧True)∧(SmallN v49.n∧SmallO v49.o∧True)∧qN0 v49.n v11 (qN24 v49.n v11 (qO25 v49.o v14 (v36=v36∧True))))∧(v69=false→(((!v45)=true→(!v45)=true)∧((!v45)=true→(!v45)=true)∧((!v45)=true→(!v45)=true)∧((!v45)=true→(!v45)=true)∧((!v45)=true→(!v45)=true)∧((!v45)=true→(!v45)=true)∧((!v45)=true→(!v45)=true)∧((!v45)=true→(!v45)=true)∧((!v45)=true→v2.entries.length≤17592186044416)∧((!v45)=true→n.yes.length≤17592186044416)∧((!v45)=true→v3.length≤17592186044416)∧((!v45)=true→v4.length≤17592186044416)∧((!v45)=true→(!v45)=true)∧((!v45)=true→(!v45)=true)∧(v45=false→(!v45)=true)∧((!v76)=true→(!v76)=true)∧((!v76)=true→(!v76)=true)∧((!v76)=true→(!v76)=true)∧((!v76)=true→(!v76)=true)∧((!v76)=true→v2.entries.length≤17592186044416)∧((!v76)=true→n.yes.length≤17592186044416)∧((!v76)=true→v3.length≤17592186044416)∧((!v76)=true→v4.length≤17592186044416)∧((!v76)=true→SmallN v56)∧((!v76)=true→(!v76)=true)∧((!v76)=true→(!v76)=true)∧((!v76)=true→(!v76)=true)∧((!v76)=true→(!v76)=true)∧((!v76)=true→(!v76)=true)∧((!v76)=true→(!v76)=true)∧((!v76)=true→zaq v57)∧((!v76)=true→(!v76)=true)∧(v76=false→(!v76)=true)∧True)∧True∧(v77=true→(SmallN v56∧SmallO v44∧True)∧qN0 n v11 (qN26 n v11 (v55=v11.elapsed∧qN27 n v11 ([]=v14.records∧[]=v14.messages∧[]=v14.ready∧[]=v14.lost∧v36=v36∧True))))∧(v77=false→(SmallN v56∧SmallO v44∧True)∧True∧((zbb v59.n)=true→(Few 70000 v59∧True)∧(SmallN v61.n∧SmallO v61.o∧True)∧qN0 v61.n v11 (qN24 v61.n v11 (qO25 v61.o v14 (v36=v36∧True))))∧((zbb v59.n)=false→(SmallN v59.n∧SmallO v59.o∧v59.o.messages.length≤900000∧List.length (Config.voters (za0 v59.n))≤4000∧True)∧(SmallN v70.n∧SmallO v70.o∧True)∧qN0 v70.n v11 (qN24 v70.n v11 (qO25 v70.o v14 (v36=v36∧True)))))))) (by kernel_rfl) ?_
 simp only [qN0,qN24,qN26,qN27,qO25,imp_self,implies_true,true_and,and_true,zae,zag,notF]
 refine ⟨⟨hn,hr⟩,fun h=>absurd h (by decide),fun _=>?_⟩
 have k1:=hf.tick1
 obtain ⟨b1,b2,b3,b4,b5⟩:=hn.ls
 have hp:=hf.peers
 refine ⟨fun h=>?_,fun h=>?_⟩
 ·have h:n.role=4∧2≤elap n:=by
   simp only [Bool.and_eq_true,beq_iff_eq,decide_eq_true_eq] at h
   exact h
  have e:zcI n=allS ⟨{n with elapsed:=0},outZ⟩:=by rw [zcI,if_pos h.1,if_pos h.2]
  have k:Few 50000 ⟨{n with elapsed:=0},outZ⟩:=⟨hf.entries,hf.ec,hf.sc,hf.yes,hf.peers,hf.reads,hf.records,hf.messages,hf.ready,hf.lost⟩
  have k2:=k.all
  rw [e]
  refine ⟨⟨k.sn (by decide),by show 0+n.peers.length≤_;have:n.peers.length≤5000:=hp;omega⟩,⟨k2.sn (by decide),k2.so (by decide)⟩,?_⟩
  repeat' apply And.intro
  all_goals rfl
 ·have h0:¬ (n.role=4∧2≤elap n):=by
   simp only [Bool.and_eq_false_iff,beq_eq_false_iff_ne,decide_eq_false_iff_not] at h
   rintro ⟨q1,q2⟩
   exact h.elim (fun h=>h q1) (fun h=>h q2)
  refine ⟨⟨fun _=>b1,fun _=>b2,fun _=>b3,fun _=>b4,fun _=>b1,fun _=>b2,fun _=>b3,fun _=>b4,fun _=>k1.sn (by decide),fun _=>k1.cf.c⟩,fun h=>?_,fun h=>?_⟩
  ·have h:n.role=4∨elap n<patI n∨zlp n=false:=by
    simp only [Bool.or_eq_true,beq_iff_eq,decide_eq_true_eq,Bool.not_eq_true',or_assoc] at h
    exact h
   have e:zcI n=tick1 n:=by
    rw [zcI]
    by_cases hr:n.role=4
    ·rw [if_pos hr,if_neg fun h2=>h0 ⟨hr,h2⟩]
    ·rw [if_neg hr,if_pos (h.resolve_left hr)]
   rw [e]
   refine ⟨⟨k1.sn (by decide),k1.so (by decide)⟩,?_⟩
   repeat' apply And.intro
   all_goals rfl
  ·have h:¬ n.role=4∧¬ (elap n<patI n∨zlp n=false):=by
    simp only [Bool.or_eq_false_iff,beq_eq_false_iff_ne,decide_eq_false_iff_not,Bool.not_eq_false',and_assoc] at h
    refine ⟨h.1,fun h2=>h2.elim h.2.1 fun h3=>?_⟩
    have h4:zlp n=true:=h.2.2
    rw [h3] at h4;cases h4
   have k2:=k1.run 2 (by decide)
   refine ⟨⟨k1.sn (by decide),k1.so (by decide)⟩,fun g=>?_,fun g=>?_⟩
   ·have g:zbb (runS (tick1 n) 2).n=true:=g
    have e:zcI n=zbO (runS (tick1 n) 2):=by rw [zcI,if_neg h.1,if_neg h.2,if_pos g]
    have k3:=k2.stand
    rw [e]
    refine ⟨k2.mono (by decide),⟨k3.sn (by decide),k3.so (by decide)⟩,?_⟩
    repeat' apply And.intro
    all_goals rfl
   ·have g:zbb (runS (tick1 n) 2).n=false:=g
    have e:zcI n=askS (runS (tick1 n) 2) (zo1 n):=by rw [zcI,if_neg h.1,if_neg h.2,if_neg (by rw [g];decide)]
    have k3:=Few.ask (zo1 n) k2
    rw [e]
    refine ⟨⟨k2.sn (by decide),k2.so (by decide),Nat.le_trans k2.messages (by decide),k2.cf.1⟩,⟨k3.sn (by decide),k3.so (by decide)⟩,?_⟩
    repeat' apply And.intro
    all_goals rfl
theorem wadd {x:Int} {k:Nat} (b:Nat) (hx:x=(k:Int)) (h:k+b≤1000000000000000):IntKind.i64.wrap (x+(b:Int))=((k+b:Nat):Int):=by
 subst hx
 rw [zbu ⟨by omega,by omega⟩];omega
def cntE (e:Entry):Nat:=1+e.config.voters.length+e.config.learners.length
def cntL:List Entry→Nat
 | []=>0
 | e::l=>cntE e+cntL l
theorem zm4 (a b:List Entry):cntL (a++b)=cntL a+cntL b:=by
 induction a with
 | nil=>simp [cntL]
 | cons x a ih=>simp only [List.cons_append,cntL,ih];omega
theorem zei {l:List Entry} {j:Nat} (h:j<l.length):cntL (l.take (j+1))=cntL (l.take j)+cntE (l.getD j default):=by
 rw [za3 (d:=(default:Entry)) h,zm4];simp [cntL]
theorem zq4 (l:List Entry) (j:Nat):cntL (l.take j)≤cntL l:=by
 have h:=zm4 (l.take j) (l.drop j)
 rw [List.take_append_drop] at h;omega
def zqM (n:Node) (m:Message):Nat:=n.yes.length+n.peers.length+n.reads.length+n.kept.entries.length+m.entries.length+n.kept.snap.config.voters.length+n.kept.snap.config.learners.length+m.snap.config.voters.length+m.snap.config.learners.length
def zcF (n:Node) (m:Message):Bool:=decide (3000<zqM n m+cntL n.kept.entries+cntL m.entries)
theorem zhb (e:Entry):FnC Tryz.prog 50 [dEntry.can e] (.int .i64 (cntE e:Nat)) D2:=by
 refine FnC.g1 dEntry e (fnB Tryz.func50 (by decide) rfl) fun he=>?_
 refine FnG.of_vc (zaj zad fun _=>none) Tryz.func50 rfl (by decide) rfl 300 (p:=fun (V:List PE→Prop)=>True∧True∧IntKind.wrap IntKind.i64 (IntKind.wrap IntKind.i64 ((1:Int)+(↑(e.config.voters.length):Int))+(↑(e.config.learners.length):Int))=(↑(cntE e):Int)∧True) (by kernel_rfl) ?_
 simp only [imp_self,implies_true,true_and,and_true,zae,zag]
 have h1:=he.config_voters.1
 have h2:=he.config_learners.1
 simp only [IntKind.wrap_i64,cntE]
 omega
def eCnt:Ent:=ent1 50 dEntry fun e=>([],.int .i64 (cntE e:Nat),D2)
theorem zkL:zaf Tryz.prog eCnt:=zan (zhb default).1 fun e _=>zhb e
theorem zma (n:Node) (m:Message):FnC Tryz.prog 12 [dNode.can n,dMessage.can m] (.bool (zcF n m)) D2:=by
 refine FnC.g2 dNode dMessage n m (fnB Tryz.func12 (by decide) rfl) fun hn hm=>?_
 refine FnG.of_vc (zaj (zaa zkL zad) fun _=>none) Tryz.func12 rfl (by decide) rfl 300 (p:=fun (V:List PE→Prop)=>True∧True∧True∧True∧V []) (by kernel_rfl) ?_
 simp only [qN28,imp_self,implies_true,true_and,and_true,zae,zag]
 have h1:=hn.yes.1;have h2:=hn.peers.1;have h3:=hn.reads.1;have h4:=hn.kept_entries.1;have h5:=hm.entries.1
 have h6:=hn.kept_snap_config_voters.1;have h7:=hn.kept_snap_config_learners.1;have h8:=hm.snap_config_voters.1;have h9:=hm.snap_config_learners.1
 have hc:∀ e:Entry,e∈n.kept.entries∨e∈m.entries→cntE e≤35184372088833:=fun e he=>by
  have:=he.elim (hn.kept_entries.2 e) (hm.entries.2 e)
  have q1:=this.config_voters.1;have q2:=this.config_learners.1
  unfold cntE;omega
 obtain ⟨B,hB⟩:∃ B,zqM n m=B:=⟨_,rfl⟩
 have hB2:B≤200000000000000:=by rw [← hB];unfold zqM;omega
 refine LoopG.head (zaj (zaa zkL zad) fun _=>none) 0 (A:=Nat) (fun j=>j≤n.kept.entries.length∧(0<j→B+cntL (n.kept.entries.take (j-1))≤3000)) (fun j=>[(7,.int .i64 j),(6,.int .i64 ((B+cntL (n.kept.entries.take j):Nat):Int))]) (fun _=>[]) (fun j=>n.kept.entries.length-j) 0 ⟨Nat.zero_le _,fun h=>absurd h (by omega)⟩ (p0:=let v0:=m.entries;let v1:=m.snap;let v2:=Message.logTerm m;let v3:=n.kept;let v13:=v1.config.learners;let v16:=v1.config.voters;(0:Int)=(↑(0:Nat):Int)∧IntKind.wrap IntKind.i64 (IntKind.wrap IntKind.i64 (IntKind.wrap IntKind.i64 (IntKind.wrap IntKind.i64 (IntKind.wrap IntKind.i64 (IntKind.wrap IntKind.i64 (IntKind.wrap IntKind.i64 (IntKind.wrap IntKind.i64 ((↑(n.yes.length):Int)+(↑(n.peers.length):Int))+(↑(n.reads.length):Int))+(↑(v3.entries.length):Int))+(↑(v0.length):Int))+(↑(v3.snap.config.voters.length):Int))+(↑(v3.snap.config.learners.length):Int))+(↑(v16.length):Int))+(↑(v13.length):Int))=(↑(B+cntL (List.take (0:Nat) v3.entries)):Int)∧false=false∧qN28 n n (m.kind=m.kind∧m.from_=m.from_∧m.to_=m.to_∧m.term=m.term∧m.index=m.index∧v2=v2∧v0=v0∧m.commit=m.commit∧m.round=m.round∧m.ok=m.ok∧v1.index=v1.index∧v1.term=v1.term∧v16=v16∧v13=v13∧v1.data=v1.data∧m.ask=m.ask∧m.seq=m.seq∧m.data=m.data∧True)) (by kernel_rfl) ?_ 300 (p:=fun (x:Nat) (V:List PE→Prop)=>let v0:=n.kept.entries;let v1:=(↑x:Int);let v2:=(↑(v0.length):Int);let v4:=decide (v1<v2);let v5:=zac v4 (decide ((↑(B+cntL (List.take x v0)):Int)≤3000)) false;((v4=true→v4=true)∧(v4=true→v4=true)∧True)∧True∧(v5=true→((0:Int)≤v1∧v1<v2∧True)∧True∧V [PE.a])∧(v5=false→True∧V [PE.b])) (by intro x;kernel_rfl) ?_
 ·refine ⟨rfl,?_,?_⟩
  ·have e:=wadd m.snap.config.learners.length (wadd m.snap.config.voters.length (wadd n.kept.snap.config.learners.length (wadd n.kept.snap.config.voters.length (wadd m.entries.length (wadd n.kept.entries.length (wadd n.reads.length (wadd n.peers.length (k:=n.yes.length) rfl (by omega)) (by omega)) (by omega)) (by omega)) (by omega)) (by omega)) (by omega)) (by omega)
   rw [e,← hB]
   rfl
  ·repeat' apply And.intro
   all_goals first | trivial | rfl
 rintro j ⟨hj,h0⟩
 have hb0:B+cntL (n.kept.entries.take j)≤300000000000000:=by
  by_cases hp:0<j
  ·have h:=zei (l:=n.kept.entries) (j:=j-1) (by omega)
   rw [show j-1+1=j by omega] at h
   have:=hc _ (.inl (za8 (d:=default) (show j-1<n.kept.entries.length by omega)))
   have:=h0 hp
   omega
  ·obtain rfl:j=0:=by omega
   simp only [List.take_zero,cntL];omega
 have ep:zac (decide ((j:Int)<(n.kept.entries.length:Int))) (decide (((B+cntL (n.kept.entries.take j):Nat):Int)≤3000)) false=decide (j<n.kept.entries.length∧B+cntL (n.kept.entries.take j)≤3000):=by
  by_cases g1:j<n.kept.entries.length<;>by_cases g2:B+cntL (n.kept.entries.take j)≤3000<;>simp [zac,g1,g2]<;>omega
 simp only [qN28,imp_self,implies_true,true_and,and_true,ep,decide_eq_true_eq,decide_eq_false_iff_not]
 refine ⟨fun h6=>⟨by omega,?_⟩,fun h6=>?_⟩
 ·have hcl:=hc _ (.inl (za8 (d:=default) h6.1))
  refine Back.mk (j+1) ⟨by omega,fun _=>by rw [Nat.add_sub_cancel];exact h6.2⟩ (by omega) (p0:=let v1:=m.snap;let v2:=Message.logTerm m;let v9:=n.kept.entries;let v10:=v1.config;IntKind.wrap IntKind.i64 ((↑j:Int)+(1:Int))=(↑(j+(1:Nat)):Int)∧IntKind.wrap IntKind.i64 ((↑(B+cntL (List.take j v9)):Int)+(↑(cntE (List.getD v9 j default)):Int))=(↑(B+cntL (List.take (j+(1:Nat)) v9)):Int)∧false=false∧qN28 n n (m.kind=m.kind∧m.from_=m.from_∧m.to_=m.to_∧m.term=m.term∧m.index=m.index∧v2=v2∧m.entries=m.entries∧m.commit=m.commit∧m.round=m.round∧m.ok=m.ok∧v1.index=v1.index∧v1.term=v1.term∧v10.voters=v10.voters∧v10.learners=v10.learners∧v1.data=v1.data∧m.ask=m.ask∧m.seq=m.seq∧m.data=m.data∧True)) (by kernel_rfl) ?_
  have e1:=wadd (x:=(j:Int)) 1 rfl (by omega)
  have e2:=wadd (x:=((B+cntL (n.kept.entries.take j):Nat):Int)) (cntE (n.kept.entries.getD j default)) rfl (by omega)
  have e3:=zei h6.1
  refine ⟨e1,e2.trans (by rw [e3,Nat.add_assoc]),?_⟩
  repeat' apply And.intro
  all_goals first | trivial | rfl
 obtain ⟨C,hC⟩:∃ C,B+cntL (n.kept.entries.take j)=C:=⟨_,rfl⟩
 rw [hC] at h6 hb0
 refine LoopG.head (zaj (zaa zkL zad) fun _=>none) 1 (A:=Nat) (fun i=>i≤m.entries.length∧(0<i→C+cntL (m.entries.take (i-1))≤3000)) (fun i=>[(8,.int .i64 i),(6,.int .i64 ((C+cntL (m.entries.take i):Nat):Int))]) (fun _=>[]) (fun i=>m.entries.length-i) 0 ⟨Nat.zero_le _,fun h=>absurd h (by omega)⟩ (p0:=let v0:=m.snap;let v1:=Message.logTerm m;let v2:=m.entries;let v5:=v0.config;(0:Int)=(↑(0:Nat):Int)∧(↑(B+cntL (List.take j n.kept.entries)):Int)=(↑(C+cntL (List.take (0:Nat) v2)):Int)∧false=false∧m.kind=m.kind∧m.from_=m.from_∧m.to_=m.to_∧m.term=m.term∧m.index=m.index∧v1=v1∧v2=v2∧m.commit=m.commit∧m.round=m.round∧m.ok=m.ok∧v0.index=v0.index∧v0.term=v0.term∧v5.voters=v5.voters∧v5.learners=v5.learners∧v0.data=v0.data∧m.ask=m.ask∧m.seq=m.seq∧m.data=m.data∧True) (by kernel_rfl) ?_ 300 (p:=fun (x:Nat) (V:List PE→Prop)=>let v1:=(↑x:Int);let v2:=(3000:Int);let v3:=(↑(m.entries.length):Int);let v4:=(↑(C+cntL (List.take x m.entries)):Int);let v5:=decide (v1<v3);let v6:=zac v5 (decide (v4≤v2)) false;((v5=true→v5=true)∧(v5=true→v5=true)∧True)∧True∧(v6=true→((0:Int)≤v1∧v1<v3∧True)∧True∧V [PE.a])∧(v6=false→True∧decide (v4>v2)=zcF n m∧True)) (by intro x;kernel_rfl) ?_
 ·rw [hC]
  simp only [qN28,List.take_zero,cntL,Nat.add_zero,true_and,and_true]
  first | done | (repeat' apply And.intro)<;>rfl
 rintro i ⟨hi,h1⟩
 have hb1:C+cntL (m.entries.take i)≤400000000000000:=by
  by_cases hp:0<i
  ·have h:=zei (l:=m.entries) (j:=i-1) (by omega)
   rw [show i-1+1=i by omega] at h
   have:=hc _ (.inr (za8 (d:=default) (show i-1<m.entries.length by omega)))
   have:=h1 hp
   omega
  ·obtain rfl:i=0:=by omega
   simp only [List.take_zero,cntL];omega
 have ep2:zac (decide ((i:Int)<(m.entries.length:Int))) (decide (((C+cntL (m.entries.take i):Nat):Int)≤3000)) false=decide (i<m.entries.length∧C+cntL (m.entries.take i)≤3000):=by
  by_cases g1:i<m.entries.length<;>by_cases g2:C+cntL (m.entries.take i)≤3000<;>simp [zac,g1,g2]<;>omega
 simp only [qN28,imp_self,implies_true,true_and,and_true,ep2,decide_eq_true_eq,decide_eq_false_iff_not]
 refine ⟨fun h7=>⟨by omega,?_⟩,fun h7=>?_⟩
 ·have hcl:=hc _ (.inr (za8 (d:=default) h7.1))
  refine Back.mk (i+1) ⟨by omega,fun _=>by rw [Nat.add_sub_cancel];exact h7.2⟩ (by omega) (p0:=let v0:=m.snap;let v1:=Message.logTerm m;let v2:=m.entries;let v5:=v0.config;IntKind.wrap IntKind.i64 ((↑i:Int)+(1:Int))=(↑(i+(1:Nat)):Int)∧IntKind.wrap IntKind.i64 ((↑(C+cntL (List.take i v2)):Int)+(↑(cntE (List.getD v2 i default)):Int))=(↑(C+cntL (List.take (i+(1:Nat)) v2)):Int)∧false=false∧m.kind=m.kind∧m.from_=m.from_∧m.to_=m.to_∧m.term=m.term∧m.index=m.index∧v1=v1∧v2=v2∧m.commit=m.commit∧m.round=m.round∧m.ok=m.ok∧v0.index=v0.index∧v0.term=v0.term∧v5.voters=v5.voters∧v5.learners=v5.learners∧v0.data=v0.data∧m.ask=m.ask∧m.seq=m.seq∧m.data=m.data∧True) (by kernel_rfl) ?_
  have e1:=wadd (x:=(i:Int)) 1 rfl (by omega)
  have e2:=wadd (x:=((C+cntL (m.entries.take i):Nat):Int)) (cntE (m.entries.getD i default)) rfl (by omega)
  have e3:=zei h7.1
  refine ⟨e1,e2.trans (by rw [e3,Nat.add_assoc]),?_⟩
  repeat' apply And.intro
  all_goals first | trivial | rfl
 ·have z1:=zq4 n.kept.entries j
  have z2:=zq4 m.entries i
  have z3:¬ j<n.kept.entries.length→cntL (n.kept.entries.take j)=cntL n.kept.entries:=fun h=>by rw [List.take_of_length_le (by omega)]
  have z4:¬ i<m.entries.length→cntL (m.entries.take i)=cntL m.entries:=fun h=>by rw [List.take_of_length_le (by omega)]
  have z5:i=0→cntL (m.entries.take i)=0:=fun h=>by rw [h];rfl
  rw [zcF,hB]
  rw [Bool.eq_iff_iff]
  simp only [decide_eq_true_eq]
  omega
def zco (n:Node):Step×Int:=if zak n then (zcI n,0) else (⟨zeroN,outZ⟩,1)
theorem ztU (n:Node) (hf:Few 50000 (zah n)):FnC Tryz.prog 25 [dNode.can n] (refO (zco n).1.n (zco n).1.o (zco n).2) D3d:=by
 unfold zco
 cases hr:zak n
 ·exact zra n (hf.sn (by decide)) hr
 ·exact zqZ n (hf.sn (by decide)) hr hf
def zsr:Ent:=ent1 25 dNode fun n=>([Few 50000 (zah n)],refO (zco n).1.n (zco n).1.o (zco n).2,D3d)
theorem zhX:zaf Tryz.prog zsr:=zan (fnB Tryz.func25 (by decide) rfl) fun n h=>ztU n (h _ (by simp))
def eNew:Ent:=ent2 14 dInt dKept fun id k=>([zb2 k],.tup [.agg ((newC id k).1.svs [1]),.int .i64 (newC id k).2],D2)
theorem zuP:zaf Tryz.prog eNew:=zav (fnB Tryz.func14 (by decide) rfl) fun id k h=>zwa id k (h _ (by simp))
def zl8:Kept:=⟨1,0,⟨1,1,⟨[1,2,3],[]⟩,zs⟩,[]⟩
def startN:Node:=newN 1 zl8
theorem znZ:newC 1 zl8=(startN,0):=by
 have h:zak (newN 1 zl8)=true:=by kernel_rfl
 rw [newC,h];rfl
theorem zrx:FnC Tryz.prog 68 [] (.tup [.agg (startN.svs [1]),.int .i64 0]) D2:=by
 refine FnG.of_vc (zaj (zaa zuP zad) fun _=>none) Tryz.func68 rfl (by decide) rfl 300 (p:=fun (V:List PE→Prop)=>let v3:=(1:Int);let v4:=[v3]++[(2:Int)]++[(3:Int)];let v5:=Kept.mk v3 (0:Int) (Snap.mk v3 v3 (Config.mk v4 []) (ByteArray.mk #[])) [];let v6:=newC v3 v5;True∧(v4.length≤17592186044416∧zb2 v5∧True)∧qN0 (Prod.fst v6) startN (qN24 (Prod.fst v6) startN (Prod.snd v6=0∧True))) (by kernel_rfl) ?_
 simp only [qN0,qN24,imp_self,implies_true,true_and,and_true,zae,zag]
 have e:=znZ
 simp only [zl8,zs] at e
 simp only [List.cons_append,List.nil_append,e,and_true]
 exact ⟨by decide,⟨⟨by decide,fun x hx=>by cases hx⟩,⟨by decide,by decide⟩⟩⟩
def zpG:Ent:=ent0 68 ([],.tup [.agg (startN.svs [1]),.int .i64 0],D2)
theorem zjA:zaf Tryz.prog zpG:=zhV (fnB Tryz.func68 (by decide) rfl) fun _=>zrx
def zw0:Ent:=ent1 21 dNode fun n=>([SmallN n],.int .i64 (if zak n then patI n else 0),D2)
theorem zs3:zaf Tryz.prog zw0:=zan (fnB Tryz.func21 (by decide) rfl) fun n h=>ziS n (h _ (by simp))
def zaP:Nat→Step
 | 0=>⟨startN,outZ⟩
 | n+1=>zcI (zaP n).n
theorem zcO:∀ j,j<10→zak (zaP j).n=true:=by
 have h:(List.range 10).all (fun j=>zak (zaP j).n)=true:=by kernel_rfl
 exact fun j hj=>List.all_eq_true.1 h j (List.mem_range.2 hj)
def fewB (s:Step):Bool:=
 decide (s.n.kept.entries.length≤50)&&s.n.kept.entries.all (fun e=>decide (e.config.voters.length≤50)&&decide (e.config.learners.length≤50))&&decide (s.n.kept.snap.config.voters.length≤50)&&decide (s.n.kept.snap.config.learners.length≤50) &&
 decide (s.n.yes.length≤50)&&decide (s.n.peers.length≤50)&&decide (s.n.reads.length≤50)&&decide (s.o.records.length≤50)&&decide (s.o.messages.length≤50)&&decide (s.o.ready.length≤50)&&decide (s.o.lost.length≤50)
theorem zu9 {s:Step} (h:fewB s=true):Few 50000 s:=by
 unfold fewB at h
 simp only [Bool.and_eq_true,decide_eq_true_eq,List.all_eq_true] at h
 obtain ⟨⟨⟨⟨⟨⟨⟨⟨⟨⟨h1,h2⟩,h3⟩,h4⟩,h5⟩,h6⟩,h7⟩,h8⟩,h9⟩,h10⟩,h11⟩:=h
 exact ⟨by omega,fun e he=>by have:=h2 e he;exact ⟨by omega,by omega⟩,⟨by omega,by omega⟩,by omega,by omega,by omega,by omega,by omega,by omega,by omega⟩
theorem Few.z {B:Nat} {s:Step} (h:Few B s):Few B (zah s.n):=⟨h.entries,h.ec,h.sc,h.yes,h.peers,h.reads,Nat.zero_le _,Nat.zero_le _,Nat.zero_le _,Nat.zero_le _⟩
theorem zep:∀ j,j<11→Few 50000 (zaP j):=by
 have h:(List.range 11).all (fun j=>fewB (zaP j))=true:=by kernel_rfl
 exact fun j hj=>zu9 (List.all_eq_true.1 h j (List.mem_range.2 hj))
noncomputable def tabWt:List Ent:=[zpG,zw0,zsr]
theorem zlw:∀ e∈tabWt,zaf Tryz.prog e:=zaa zjA (zaa zs3 (zaa zhX zad))
theorem waits_fn:FnC Tryz.prog 20 [] (.bool true) D2:=by
 refine FnG.of_vc (zaj zlw fun _=>none) Tryz.func20 rfl (by decide) rfl 300 (p:=fun (V:List PE→Prop)=>let v0:=(0:Int) != 0;let v1:=zac v0 true ((if zak startN=true then patI startN else (0:Int)) != 10);True∧True∧(((!v0)=true→(!v0)=true)∧((!v0)=true→SmallN startN)∧((!v0)=true→(!v0)=true)∧(v0=false→(!v0)=true)∧True)∧True∧(v1=true→True∧false=true∧True)∧(v1=false→True∧True∧V [PE.b])) (by kernel_rfl) ?_
 simp only [qN0,qN24,qO13,imp_self,implies_true,true_and,and_true,zae,zag]
 have hr:zak startN=true:=zcO 0 (by decide)
 have hp:patI startN=10:=by kernel_rfl
 refine ⟨⟨fun _=>(zep 0 (by decide)).sn (by decide),fun _=>by decide⟩,fun h=>?_,fun _=>?_⟩
 ·rw [hr,if_pos rfl,hp] at h;exact absurd h (by decide)
 refine LoopG.head (zaj zlw fun _=>none) 0 (A:=Nat) (fun j=>j≤10) (fun j=>[(4,.int .i64 j),(2,.int .i64 0)]) (fun j=>[(30,.cells 35 ((zaP j).n.svs [900])),(63,.cells 49 ((zaP j).o.svs [901])),(900,.dead),(901,.dead)]) (fun j=>10-j) 0 (Nat.zero_le _) (p0:=let v3:=Step.o (zaP (0:Nat));let v4:=Step.n (zaP (0:Nat));(0:Int)=(↑(0:Nat):Int)∧(0:Int)=0∧qN0 startN v4 (qN24 startN v4 (v3.records=[]∧v3.messages=[]∧v3.ready=[]∧v3.lost=[]∧True))) (by kernel_rfl) ?_ 300 (p:=fun (x:Nat) (V:List PE→Prop)=>let v0:=Step.n (zaP x);let v1:=Out.messages (Step.o (zaP x));let v2:=(1:Int);let v3:=(0:Int);let v4:=(↑(v1.length):Int);let v5:=v0.role==2;let v6:=List.getD v1 (Int.toNat v3) default;let v7:=Prod.snd (zco v0) != v3;let v8:=decide ((↑x:Int)<10);let v9:=zac v5 (v4==2) false;let v10:=zac v9 (v6.kind==v2) false;let v11:=zac v10 (v6.term==2) false;True∧True∧(v8=true→(Few 50000 (zah v0)∧True)∧True∧True∧(v7=true→True∧false=true∧True)∧(v7=false→True∧V [PE.a,PE.b]))∧(v8=false→((v5=true→v5=true)∧(v5=true→v5=true)∧(v5=true→v5=true)∧(v5=true→v5=true)∧(v9=true→v9=true)∧(v9=true→v9=true)∧(v9=true→v3≤v3)∧(v9=true→v3<v4)∧(v9=true→v9=true)∧(v9=true→v9=true)∧(v9=true→v9=true)∧(v9=true→v9=true)∧(v10=true→v10=true)∧(v10=true→v10=true)∧(v10=true→v3≤v3)∧(v10=true→v3<v4)∧(v10=true→v10=true)∧(v10=true→v10=true)∧(v10=true→v10=true)∧(v10=true→v10=true)∧(v11=true→v11=true)∧(v11=true→v11=true)∧(v11=true→v3≤v2)∧(v11=true→v2<v4)∧(v11=true→v11=true)∧(v11=true→v11=true)∧(v11=true→v11=true)∧(v11=true→v11=true)∧True)∧zac v11 (Message.to_ (List.getD v1 (Int.toNat v2) default)==3) false=true∧True)) (by intro x;kernel_rfl) ?_
 ·repeat' apply And.intro
  all_goals first | trivial | rfl
 rintro j hj
 simp only [qN0,qN24,qO13,imp_self,implies_true,true_and,and_true,decide_eq_true_eq,decide_eq_false_iff_not]
 refine ⟨fun h=>?_,fun h=>?_⟩
 ·have hj2:j<10:=by omega
  have ht:zco (zaP j).n=(zaP (j+1),0):=by rw [zco,if_pos (zcO j hj2)];rfl
  refine ⟨(zep j (by omega)).z,fun h=>?_,fun _=>?_⟩
  ·rw [ht] at h;exact absurd (show ((0:Int) != 0)=true from h) (by decide)
  ·refine Back.mk (j+1) (by omega) (by omega) (p0:=let v0:=zco (Step.n (zaP j));let v1:=Prod.fst v0;let v7:=zaP (j+(1:Nat));IntKind.wrap IntKind.i64 ((↑j:Int)+(1:Int))=(↑(j+(1:Nat)):Int)∧Prod.snd v0=0∧qN0 v1.n v7.n (qN24 v1.n v7.n (qO13 v1.o v7.o (v1.o.lost=v7.o.lost∧True)))) (by kernel_rfl) ?_
   simp only [qN0,qN24,qO13,true_and,and_true]
   rw [ht]
   simp only [qN0,qN24,qO13,zbj (i:=j) (by omega),true_and,and_true]
   first | done | omega | rfl
 ·obtain rfl:j=10:=by omega
  have hl:(zaP 10).o.messages.length=2:=by kernel_rfl
  have h0:(0:Int)<((zaP 10).o.messages.length:Int):=by rw [hl];decide
  have h1:(1:Int)<((zaP 10).o.messages.length:Int):=by rw [hl];decide
  refine ⟨⟨fun _=>by decide,fun _=>h0,fun _=>by decide,fun _=>h0,fun _=>by decide,fun _=>h1⟩,?_⟩
  kernel_rfl
theorem ziK {n:Node} (h:zak n=true):LogG n.kept∧TermG n.kept:=by
 have g:=right_iff.1 h
 have h1:=g.last
 rw [zau g.on] at h1
 have h2:=g.len
 have h3:=g.term
 unfold wi at h3
 simp only [Bool.and_eq_true,decide_eq_true_eq] at h3
 exact ⟨⟨g.on,by omega,by omega⟩,⟨h3.1,by omega⟩⟩
end Go.Proofs.YteabcgkjbnecaaaGreat
namespace Go.Proofs.YteabcgkjbnecaaaGreat
open Go.RowKit Go.ChangeShapes Go.WideShapes Go.Deep
theorem zoD {index:Int} {l:List Entry}:∀ {n j:Nat},j≤n→numT index l n=true→numT index l j=true
 | 0,j,hj,h=>by
  have:j=0:=by omega
  subst this;exact h
 | n+1,j,hj,h=>by
  by_cases e:j=n+1
  ·subst e;exact h
  ·simp only [numT,Bool.and_eq_true] at h
   exact zoD (by omega) h.1
theorem zuq {index:Int} {l:List Entry} {n j:Nat} (hj:j<n) (h:numT index l n=true):okx index (l.getD j default) j=true:=by
 have:=zoD (show j+1≤n from hj) h
 simp only [numT,Bool.and_eq_true] at this
 exact this.2
theorem zoB {index:Int} {x:Entry} {i:Nat} (hi:I64 index) (hx:I64 x.index) (hs:i≤1000000000) (h:okx index x i=true):x.index=index+1+i:=by
 unfold okx at h
 simp only [Bool.not_eq_true',Bool.or_eq_false_iff,decide_eq_false_iff_not,bne_eq_false_iff_eq] at h
 obtain ⟨h1,h2⟩:=h
 have e1:IntKind.i64.wrap (x.index-1)=x.index-1:=zbu ⟨by have:=hi.1;omega,by have:=hx.2;omega⟩
 rw [e1,IntKind.wrap_i64] at h2
 have:=hi.1;have:=hi.2;have:=hx.1;have:=hx.2
 omega
theorem zmT {index:Int} {l:List Entry} (hi:I64 index) (hl:∀ x,x∈l→x.Ok) (hs:l.length≤1000000) (h:numF index l=true) {i:Nat} (hil:i<l.length):(l.getD i default).index=index+1+i:=
 zoB hi (hl _ (za8 hil)).index (by omega) (zuq hil h)
theorem zb8 {k:Kept} (h:onB k=true):(zaS k).1=k.snap.index+k.entries.length:=by
 rw [zhF,if_pos h]
 unfold zjm
 split
 ·rename_i h0;simp [zhz,h0]
 ·rename_i h0
  have:=zcd (onB_iff.1 h) (i:=k.entries.length-1) (by omega)
  simp only [entP];omega
theorem zlu {k:Kept} (h:onB k=true) {i:Int} (hi:k.snap.index<i):(zaE k i).2=0↔i≤(zaS k).1:=by
 rw [zb8 h]
 have hp:=onB_iff.1 h
 constructor
 ·intro ht
  apply Classical.byContradiction
  intro hgt
  rw [zeq h (by omega) (fun j hj=>by rw [zcd hp hj];omega)] at ht
  simp at ht
 ·intro hle
  have hj:(i-k.snap.index-1).toNat<k.entries.length:=by omega
  have:=zhq h hj
  rw [zcd hp hj] at this
  have e:k.snap.index+1+((i-k.snap.index-1).toNat:Int)=i:=by omega
  rw [e] at this;rw [this]
theorem zp0 {k:Kept} {x:Entry} (h:zbl k x=true):k.snap.index<x.index:=by
 unfold zbl at h
 simp only [Bool.and_eq_true,decide_eq_true_eq] at h
 exact h.1
theorem zpz {k:Kept} {x:Entry} (h:k.snap.index<x.index):zbl k x=!((zaE k x.index).2==0&&(zaE k x.index).1==x.term):=by
 unfold zbl
 simp only [h,decide_true,Bool.true_and]
 cases ((zaE k x.index).2==0)<;>cases ((zaE k x.index).1==x.term)<;>rfl
theorem zeL {k:Kept}:∀ {l:List Entry} {f:Nat},zar k l=(f:Int)→zbl k (l.getD f default)=true
 | [],f,h=>by simp only [zar] at h;omega
 | x::l,f,h=>by
  rw [zar] at h
  cases hx:zbl k x
  ·rw [hx] at h
   simp only [Bool.false_eq_true,if_false] at h
   split at h
   ·omega
   ·rcases zaB k l with h1 | ⟨g,h1,h2⟩
    ·contradiction
    ·have:f=g+1:=by omega
     subst this
     simpa using zeL h2
  ·rw [hx,if_pos rfl] at h
   have:f=0:=by omega
   subst this;simpa using hx
theorem zgA (k:Kept) (l:List Entry):(zaA k l).length≤l.length+1:=by
 unfold zaA
 split
 ·simp
 ·split<;>simp<;>omega
end Go.Proofs.YteabcgkjbnecaaaGreat
namespace Go.Proofs.YteabcgkjbnecaaaGreat
open Go.RowKit Go.ChangeShapes Go.WideShapes Go.Deep
structure MH (k:Kept) (index term:Int) (l:List Entry):Prop where
 on:onB k=true
 num:numF index l=true
 bad:badB k index term=false
 hi:I64 index
 hl:∀ x,x∈l→x.Ok
 hs:l.length≤1000000
theorem MH.of {k:Kept} {index term:Int} {l:List Entry} (h:zaU k index term l=0) (hi:I64 index) (hl:∀ x,x∈l→x.Ok) (hs:l.length≤1000000):MH k index term l:=by
 unfold zaU at h
 split at h
 ·rename_i h1
  simp only [Bool.and_eq_true] at h1
  split at h
  ·cases h
  ·rename_i h2
   exact ⟨h1.1,h1.2,by simpa using h2,hi,hl,hs⟩
 ·cases h
noncomputable def f0 (k:Kept) (l:List Entry):Nat:=(zar k l).toNat
noncomputable def mK (k:Kept) (l:List Entry):Nat:=if zar k l = -1 then k.entries.length else ((l.getD (f0 k l) default).index-k.snap.index-1).toNat
noncomputable def nK (k:Kept) (l:List Entry):List Entry:=if zar k l = -1 then [] else l.drop (f0 k l)
noncomputable def cN (k:Kept) (l:List Entry):Nat:=if zar k l = -1 then 0 else if (l.getD (f0 k l) default).index≤(zaS k).1 then 1 else 0
noncomputable def xK (k:Kept) (l:List Entry) (j:Nat):Kept:=⟨k.term,k.vote,k.snap,k.entries.take (mK k l)++(nK k l).take j⟩
noncomputable def stK (k:Kept) (l:List Entry) (i:Nat):Kept:=if i<cN k l then k else xK k l (i-cN k l)
theorem zea {k:Kept}:∀ {l:List Entry} {f i:Nat},zar k l=(f:Int)→i<f→zbl k (l.getD i default)=false
 | [],f,i,h,hi=>by simp only [zar] at h;omega
 | x::l,f,i,h,hi=>by
  rw [zar] at h
  cases hx:zbl k x
  ·cases i with
   | zero=>simpa using hx
   | succ i=>
    rw [hx] at h
    simp only [Bool.false_eq_true,if_false] at h
    split at h
    ·omega
    ·have:=zea (k:=k) (l:=l) (f:=f-1) (i:=i) (by omega) (by omega)
     simpa using this
  ·rw [hx,if_pos rfl] at h;omega
theorem zgJ {k:Kept}:∀ {l:List Entry} {i:Nat},zar k l = -1→i<l.length→zbl k (l.getD i default)=false
 | [],i,h,hi=>by simp at hi
 | x::l,i,h,hi=>by
  rw [zar] at h
  cases hx:zbl k x
  ·cases i with
   | zero=>simpa using hx
   | succ i=>
    rw [hx] at h
    simp only [Bool.false_eq_true,if_false] at h
    have h1:zar k l = -1:=by
     rcases zaB k l with h2 | ⟨f,h2,h3⟩
     ·exact h2
     ·rw [if_neg (by omega)] at h;omega
    have:=zgJ (k:=k) (l:=l) (i:=i) h1 (by simpa using hi)
    simpa using this
  ·rw [hx,if_pos rfl] at h;omega
section
variable {k : Kept} {index term : Int} {l : List Entry}
theorem MH.last (M:MH k index term l):index≤k.snap.index+k.entries.length:=by
 have h:=M.bad
 unfold badB at h
 simp only [Bool.or_eq_false_iff,decide_eq_false_iff_not] at h
 have:=h.1
 rw [zb8 M.on] at this
 omega
theorem MH.idx (M:MH k index term l) {i:Nat} (h:i<l.length):(l.getD i default).index=index+1+i:=zmT M.hi M.hl M.hs M.num h
theorem MH.old (M:MH k index term l) {i:Nat} (h:zbl k (l.getD i default)=false) (h2:k.snap.index<(l.getD i default).index):(zaE k (l.getD i default).index)=((l.getD i default).term,0):=by
 rw [zpz h2] at h
 simp only [Bool.not_eq_false',Bool.and_eq_true,beq_iff_eq] at h
 exact Prod.ext h.2 h.1
theorem MH.first (M:MH k index term l) {f:Nat} (h:zar k l=(f:Int)) (hf:f<l.length):k.snap.index<(l.getD f default).index∧(l.getD f default).index≤k.snap.index+k.entries.length+1:=by
 refine ⟨zp0 (zeL h),?_⟩
 rw [M.idx hf]
 have hlast:=M.last
 cases f with
 | zero=>simp;omega
 | succ g=>
  have hg:=zea h (show g<g+1 by omega)
  have hgi:=M.idx (show g<l.length by omega)
  by_cases h2:k.snap.index<(l.getD g default).index
  ·have:=M.old hg h2
   have h3:(zaE k (l.getD g default).index).2=0:=by rw [this]
   have h4:=(zlu M.on h2).1 h3
   rw [zb8 M.on,hgi] at h4
   push_cast;omega
  ·rw [hgi] at h2;push_cast;omega
theorem MH.mK_eq (M:MH k index term l) {f:Nat} (h:zar k l=(f:Int)) (hf:f<l.length):(l.getD f default).index=k.snap.index+1+mK k l∧mK k l≤k.entries.length∧f0 k l=f∧nK k l=l.drop f:=by
 have h1:=M.first h hf
 have e:f0 k l=f:=by unfold f0;rw [h];rfl
 have hn:¬ zar k l = -1:=by omega
 refine ⟨?_,?_,e,?_⟩
 ·unfold mK;rw [if_neg hn,e];omega
 ·unfold mK;rw [if_neg hn,e];omega
 ·unfold nK;rw [if_neg hn,e]
theorem zdA (h:zar k l = -1):mK k l=k.entries.length∧nK k l=[]∧cN k l=0:=by
 unfold mK nK cN;simp [h]
theorem MH.mK_le (M:MH k index term l):mK k l≤k.entries.length:=by
 rcases zaB k l with h | ⟨f,hf,h⟩
 ·rw [(zdA h).1];exact Nat.le_refl _
 ·exact (M.mK_eq h hf).2.1
theorem MH.xK_old (M:MH k index term l) {j i:Nat} (h:i<mK k l):(xK k l j).en i=k.en i:=by
 have:=M.mK_le
 show (k.entries.take (mK k l)++(nK k l).take j).getD i default=k.entries.getD i default
 rw [List.getD_eq_getElem?_getD,List.getD_eq_getElem?_getD,List.getElem?_append_left (by simp;omega),List.getElem?_take,if_pos h]
theorem MH.xK_new (M:MH k index term l) {j i:Nat} (h:i<j) (h2:i<(nK k l).length):(xK k l j).en (mK k l+i)=(nK k l).getD i default:=by
 have:=M.mK_le
 show (k.entries.take (mK k l)++(nK k l).take j).getD (mK k l+i) default=_
 rw [List.getD_eq_getElem?_getD,List.getD_eq_getElem?_getD,List.getElem?_append_right (by simp;omega),List.getElem?_take]
 simp only [List.length_take,Nat.min_eq_left this]
 rw [if_pos (by omega),show mK k l+i-mK k l=i by omega]
theorem MH.xK_len (M:MH k index term l) {j:Nat} (h:j≤(nK k l).length):(xK k l j).entries.length=mK k l+j:=by
 have:=M.mK_le
 show (k.entries.take (mK k l)++(nK k l).take j).length=_
 simp;omega
theorem MH.nK_index (M:MH k index term l) {i:Nat} (h:i<(nK k l).length):((nK k l).getD i default).index=k.snap.index+1+mK k l+i:=by
 rcases zaB k l with h1 | ⟨f,hf,h1⟩
 ·rw [(zdA h1).2.1] at h;simp at h
 ·obtain ⟨e1,e2,e3,e4⟩:=M.mK_eq h1 hf
  rw [e4] at h ⊢
  have hd:(l.drop f).getD i default=l.getD (f+i) default:=by rw [List.getD_eq_getElem?_getD,List.getD_eq_getElem?_getD,List.getElem?_drop]
  rw [hd,M.idx (by simp at h;omega)]
  rw [M.idx hf] at e1
  push_cast;omega
theorem MH.xK_index (M:MH k index term l) {j i:Nat} (hj:j≤(nK k l).length) (h:i<mK k l+j):((xK k l j).en i).index=k.snap.index+1+i:=by
 by_cases h1:i<mK k l
 ·rw [M.xK_old h1]
  exact zcd (onB_iff.1 M.on) (by have:=M.mK_le;omega)
 ·have e:i=mK k l+(i-mK k l):=by omega
  rw [e,M.xK_new (by omega) (by omega),M.nK_index (by omega)]
  push_cast;omega
theorem MH.xK_on (M:MH k index term l) {j:Nat} (hj:j≤(nK k l).length) (h:mK k l+j≤10000):onB (xK k l j)=true:=by
 have hp:=onB_iff.1 M.on
 refine onB_iff.2 ⟨hp.1,by rw [M.xK_len hj];exact h,fun i hi=>?_⟩
 rw [M.xK_len hj] at hi
 have:=M.xK_index hj hi
 have h0:=hp.1
 unfold okAt
 rw [this]
 show _∧_=k.snap.index
 omega
theorem MH.st0 (M:MH k index term l):stK k l 0=k:=by
 unfold stK
 split
 ·rfl
 ·rename_i h
  have hc:cN k l=0:=by omega
  have hm:k.entries.length≤mK k l:=by
   rcases zaB k l with h1 | ⟨f,hf,h1⟩
   ·rw [(zdA h1).1];exact Nat.le_refl _
   ·obtain ⟨e1,e2,e3,e4⟩:=M.mK_eq h1 hf
    unfold cN at hc
    rw [if_neg (by omega),e3,zb8 M.on] at hc
    split at hc
    ·cases hc
    ·omega
  unfold xK
  rw [hc,List.take_of_length_le hm]
  simp
theorem zmd {α β:Type} {f:α→β} {l:List α} {i:Nat} {d:α} {e:β} (h:i<l.length):(l.map f).getD i e=f (l.getD i d):=by
 rw [zba (by simpa using h),zba h,List.getElem_map]
theorem MH.rec_at (M:MH k index term l) {i:Nat} (hi:i<(zaA k l).length):(i<cN k l∧(zaA k l).getD i default=zfR (k.snap.index+1+mK k l)∧mK k l<k.entries.length)∨(cN k l≤i∧i-cN k l<(nK k l).length∧(zaA k l).getD i default=entR ((nK k l).getD (i-cN k l) default)):=by
 rcases zaB k l with h1 | ⟨f,hf,h1⟩
 ·unfold zaA at hi;rw [if_pos h1] at hi;simp at hi
 ·obtain ⟨e1,e2,e3,e4⟩:=M.mK_eq h1 hf
  have hn:¬ zar k l = -1:=by omega
  have ef:(zar k l).toNat=f:=e3
  unfold zaA at hi ⊢
  unfold cN
  rw [if_neg hn,ef] at hi ⊢
  rw [if_neg hn,e3,e4]
  rw [zb8 M.on] at hi ⊢
  by_cases hc:(l.getD f default).index≤k.snap.index+k.entries.length
  ·rw [if_pos hc] at hi ⊢
   rw [if_pos hc]
   cases i with
   | zero=>exact .inl ⟨by omega,by rw [← e1];rfl,by omega⟩
   | succ i=>
    refine .inr ⟨by omega,by simp at hi ⊢;omega,?_⟩
    have hlt:i<(l.drop f).length:=by simp at hi ⊢;omega
    show ((l.drop f).map entR).getD i default=entR ((l.drop f).getD i default)
    exact zmd hlt
  ·rw [if_neg hc] at hi ⊢
   rw [if_neg hc]
   refine .inr ⟨by omega,by simpa using hi,?_⟩
   have hlt:i<(l.drop f).length:=by simpa using hi
   show ((l.drop f).map entR).getD i default=entR ((l.drop f).getD i default)
   exact zmd hlt
theorem MH.recs_len (M:MH k index term l):(zaA k l).length=cN k l+(nK k l).length:=by
 rcases zaB k l with h1 | ⟨f,hf,h1⟩
 ·unfold zaA;rw [if_pos h1,(zdA h1).2.1,(zdA h1).2.2];rfl
 ·obtain ⟨e1,e2,e3,e4⟩:=M.mK_eq h1 hf
  have hn:¬ zar k l = -1:=by omega
  unfold zaA cN
  rw [if_neg hn,if_neg hn,e3,e4,show (zar k l).toNat=f from e3]
  split<;>simp<;>omega
theorem zoI {x:Entry} (h:x∈nK k l):x∈l:=by
 unfold nK at h
 split at h
 ·cases h
 ·exact List.mem_of_mem_drop h
end
end Go.Proofs.YteabcgkjbnecaaaGreat
namespace Go.Proofs.YteabcgkjbnecaaaGreat
open Go.RowKit Go.ChangeShapes Go.WideShapes Go.Deep
def recsS (s:Step) (l:List Record):Step:=l.foldl recS s
theorem zrB (s:Step):∀ l:List Record,recsS s l=⟨{s.n with kept:=l.foldl recK s.n.kept},{s.o with records:=s.o.records++l}⟩:=by
 intro l
 induction l generalizing s with
 | nil=>simp [recsS]
 | cons r l ih=>
  show recsS (recS s r) l=_
  rw [ih]
  simp [recS]
theorem zwF (k:Kept) (l:List Entry):cN k l≤1:=by
 unfold cN
 split
 ·exact Nat.zero_le _
 ·split<;>omega
section
variable {k : Kept} {index term : Int} {l : List Entry}
theorem MH.cut_at (M:MH k index term l) (hk:k.Ok) {j:Nat} (hj:j<k.entries.length):IntKind.i64.wrap (IntKind.i64.wrap (k.snap.index+1+j-1)-k.snap.index)=j:=by
 have hp:=onB_iff.1 M.on
 have h0:=hp.1
 have h1:=zcd hp hj
 have hle:I64 (k.en j).index:=(hk.entries.2 _ (za8 hj)).index
 have e1:=hle.1
 have e2:=hle.2
 rw [h1] at e1 e2
 rw [IntKind.wrap_i64,IntKind.wrap_i64]
 omega
theorem MH.step2 (M:MH k index term l) (hk:k.Ok) {i:Nat} (hi:i<(zaA k l).length):recK (stK k l i) ((zaA k l).getD i default)=stK k l (i+1):=by
 have hc:=zwF k l
 rcases M.rec_at hi with ⟨h1,h2,h3⟩ | ⟨h1,h2,h3⟩
 ·have hi0:i=0:=by omega
  subst hi0
  have e1:stK k l (0+1)=xK k l 0:=by unfold stK;rw [if_neg (by omega),show 0+1-cN k l=0 by omega]
  have ex:xK k l 0=⟨k.term,k.vote,k.snap,k.entries.take (mK k l)⟩:=by unfold xK;simp
  rw [M.st0,h2,e1,ex]
  show (⟨k.term,k.vote,k.snap,k.entries.take (IntKind.i64.wrap (IntKind.i64.wrap (k.snap.index+1+(mK k l:Int)-1)-k.snap.index)).toNat⟩:Kept)=_
  rw [M.cut_at hk h3,Int.toNat_natCast]
 ·have e0:stK k l i=xK k l (i-cN k l):=by unfold stK;rw [if_neg (by omega)]
  have e1:stK k l (i+1)=xK k l (i-cN k l+1):=by unfold stK;rw [if_neg (by omega),show i+1-cN k l=i-cN k l+1 by omega]
  have ex:xK k l (i-cN k l+1)=⟨k.term,k.vote,k.snap,(xK k l (i-cN k l)).entries++[(nK k l).getD (i-cN k l) default]⟩:=by
   unfold xK;rw [za3 (d:=default) h2];simp
  rw [e0,e1,h3,ex]
  rfl
theorem MH.recs (M:MH k index term l) (hk:k.Ok):∀ j,j≤(zaA k l).length→((zaA k l).take j).foldl recK k=stK k l j
 | 0,_=>by rw [M.st0];rfl
 | j+1,h=>by
  rw [za3 (d:=(default:Record)) h,List.foldl_append,M.recs hk j (by omega)]
  exact M.step2 hk h
theorem MH.recsS (M:MH k index term l) (hk:k.Ok) (s:Step) (hs:s.n.kept=k) {j:Nat} (hj:j≤(zaA k l).length):recsS s ((zaA k l).take j)=⟨{s.n with kept:=stK k l j},{s.o with records:=s.o.records++(zaA k l).take j}⟩:=by
 rw [zrB,hs,M.recs hk j hj]
theorem ztY {i:Nat} {e:Entry} (h:e∈(stK k l i).entries):e∈k.entries∨e∈l:=by
 unfold stK at h
 split at h
 ·exact .inl h
 ·rcases List.mem_append.1 h with h | h
  ·exact .inl (List.mem_of_mem_take h)
  ·exact .inr (zoI (List.mem_of_mem_take h))
theorem ztZ (i:Nat):(stK k l i).entries.length≤k.entries.length+l.length:=by
 unfold stK
 split
 ·omega
 ·have:(nK k l).length≤l.length:=by unfold nK;split<;>simp
  show (k.entries.take (mK k l)++(nK k l).take (i-cN k l)).length≤_
  simp only [List.length_append,List.length_take];omega
theorem MH.recOk (M:MH k index term l) (hk:k.Ok) (hl:∀ e∈l,SmallD e.config) {i:Nat} (hi:i<(zaA k l).length):SmallR ((zaA k l).getD i default)∧zgg (stK k l i) ((zaA k l).getD i default)∧((zaA k l).getD i default).kind≠4:=by
 have hc:=zwF k l
 rcases M.rec_at hi with ⟨h1,h2,h3⟩ | ⟨h1,h2,h3⟩
 ·have hi0:i=0:=by omega
  subst hi0
  rw [M.st0,h2]
  refine ⟨⟨smallD0.c,smallD0.c⟩,fun _=>?_,by show (3:Int)≠4;decide⟩
  show 0≤IntKind.i64.wrap (IntKind.i64.wrap (k.snap.index+1+(mK k l:Int)-1)-k.snap.index)∧IntKind.i64.wrap (IntKind.i64.wrap (k.snap.index+1+(mK k l:Int)-1)-k.snap.index)≤_
  rw [M.cut_at hk h3]
  omega
 ·rw [h3]
  exact ⟨⟨(hl _ (zoI (za8 h2))).c,smallD0.c⟩,fun h=>absurd (show (2:Int)=3 from h) (by decide),by show (2:Int)≠4;decide⟩
end
theorem Few.st {B:Nat} {s:Step} {l:List Entry} {L:List Record} {i:Nat} (h:Few B s) (hl:l.length≤4000) (hd:∀ e∈l,SmallD e.config) (hL:L.length≤4001):Few (B+4001) ⟨{s.n with kept:=stK s.n.kept l i},{s.o with records:=s.o.records++L}⟩:=by
 have h1:=h.entries
 have h2:=h.records
 have h3:=ztZ (k:=s.n.kept) (l:=l) i
 have g:=h.mono (show B≤B+4001 by omega)
 refine ⟨by show (stK s.n.kept l i).entries.length≤_;omega,fun e he=>?_,?_,g.yes,g.peers,g.reads,by show (s.o.records++L).length≤_;simp only [List.length_append];omega,g.messages,g.ready,g.lost⟩
 ·rcases ztY he with he | he
  ·exact h.ec e he
  ·exact hd e he
 ·show SmallD (stK s.n.kept l i).snap.config
  rw [show (stK s.n.kept l i).snap=s.n.kept.snap by unfold stK;split<;>rfl]
  exact h.sc
end Go.Proofs.YteabcgkjbnecaaaGreat
namespace Go.Proofs.YteabcgkjbnecaaaGreat
open Go.RowKit Go.ChangeShapes Go.WideShapes Go.Deep
theorem wi_iff {m x:Int}:wi m x=true↔0≤x∧x≤m:=by simp [wi]
structure Core (n:Node):Prop where
 id:1≤n.id∧n.id≤5
 len:n.kept.entries.length≤9000
 on:onC n.kept=true
 term:0≤n.kept.term∧n.kept.term≤900000000
 vote:0≤n.kept.vote∧n.kept.vote≤900000000
 round:0≤n.round∧n.round≤900000000
 lead:0≤n.lead∧n.lead≤900000000
 last:n.kept.snap.index+n.kept.entries.length≤900000000
 elapsed:0≤n.elapsed∧n.elapsed≤1000
 lo:n.kept.snap.index≤n.commit
 hi:n.commit≤n.kept.snap.index+n.kept.entries.length
 yes:isC n.yes=true
 yesn:∀ y∈n.yes,1≤y∧y≤5
 confs:zb0 n.kept=true
def zcK (n:Node):Bool:=if n.role=4 then zbp n else decide (n.peers=[])&&decide (n.reads=[])
structure Good2 (n:Node):Prop where
 core:Core n
 role:1≤n.role∧n.role≤4
 rest:zcK n=true
theorem znB {x:Int} (hx:I64 x):wi 4 (IntKind.i64.wrap (x-1))=true↔1≤x∧x≤5:=by
 have h1:=hx.1
 have h2:=hx.2
 rw [wi_iff,IntKind.wrap_i64];omega
theorem zgy {n:Node} (hi:I64 n.id) (hy:∀ y∈n.yes,I64 y):zak n=true↔Good2 n:=by
 rw [right_iff]
 constructor
 ·intro h
  have hl:=h.last
  have hh:=h.hi
  rw [zau h.on] at hl hh
  refine ⟨⟨(znB hi).1 h.id,h.len,h.on,wi_iff.1 h.term,wi_iff.1 h.vote,wi_iff.1 h.round,wi_iff.1 h.lead,hl,wi_iff.1 h.elapsed,h.lo,hh,h.yes,fun y hm=>(znB (hy y hm)).1 (List.all_eq_true.1 h.yesn y hm),h.confs⟩,⟨h.role1,h.role4⟩,h.rest⟩
 ·rintro ⟨c,⟨r1,r4⟩,hr⟩
  refine ⟨(znB hi).2 c.id,r1,r4,c.len,c.on,wi_iff.2 c.term,wi_iff.2 c.vote,wi_iff.2 c.round,wi_iff.2 c.lead,by rw [zau c.on];exact c.last,wi_iff.2 c.elapsed,c.lo,by rw [zau c.on];exact c.hi,c.yes,List.all_eq_true.2 fun y hm=>(znB (hy y hm)).2 (c.yesn y hm),c.confs,hr⟩
theorem Good2.right {n:Node} (h:Good2 n):zak n=true:=
 (zgy (by have:=h.core.id;exact ⟨by omega,by omega⟩) (fun y hy=>by have:=h.core.yesn y hy;exact ⟨by omega,by omega⟩)).2 h
theorem zbN {k:Kept} (ho:onC k=true) {i:Int} (h1:k.snap.index<i) (h2:i≤k.snap.index+k.entries.length):zaz k i=((k.entries.getD (i-k.snap.index-1).toNat default).term,0):=by
 rw [zaz,if_pos ho,if_neg (by omega),if_pos ⟨h1,h2⟩]
theorem zhr {k:Kept} {i:Int} (h:(zaz k i).2=0):onC k=true∧k.snap.index≤i∧i≤k.snap.index+k.entries.length:=by
 unfold zaz at h
 split at h
 ·rename_i ho
  split at h
  ·rename_i e;exact ⟨ho,by omega,by omega⟩
  ·split at h
   ·rename_i e;exact ⟨ho,by omega,by omega⟩
   ·exact absurd h (by decide)
 ·exact absurd h (by decide)
structure Fwd (n x:Node):Prop where
 id:x.id=n.id
 term:n.kept.term≤x.kept.term
 commit:n.commit≤x.commit
 snap:n.kept.snap.index≤x.kept.snap.index
 vote:x.kept.term=n.kept.term→n.kept.vote≠0→x.kept.vote=n.kept.vote
 ents:∀ i t,n.kept.snap.index<i→i≤n.commit→zaz n.kept i=(t,0)→x.kept.snap.index<i→zaz x.kept i=(t,0)
theorem Fwd.refl (n:Node):Fwd n n:=⟨rfl,Int.le_refl _,Int.le_refl _,Int.le_refl _,fun _ _=>rfl,fun _ _ _ _ h _=>h⟩
theorem Fwd.trans {n x y:Node} (h:Fwd n x) (k:Fwd x y):Fwd n y:=by
 refine ⟨k.id.trans h.id,Int.le_trans h.term k.term,Int.le_trans h.commit k.commit,Int.le_trans h.snap k.snap,fun e hv=>?_,fun i t h1 h2 h3 h4=>?_⟩
 ·have a:=h.term
  have b:=k.term
  have c:=h.vote (by omega) hv
  exact (k.vote (by omega) (by rw [c];exact hv)).trans c
 ·have a:=k.snap
  exact k.ents i t (by omega) (Int.le_trans h2 h.commit) (h.ents i t h1 h2 h3 (by omega)) h4
theorem Fwd.of_kept {n x:Node} (hi:x.id=n.id) (hk:x.kept=n.kept) (hc:n.commit≤x.commit):Fwd n x:=by
 refine ⟨hi,by rw [hk];exact Int.le_refl _,hc,by rw [hk];exact Int.le_refl _,fun _ _=>by rw [hk],fun i t _ _ h _=>by rw [hk];exact h⟩
theorem zoA {k:Kept} {e:Entry} (ho:onC k=true) (he:e.index=k.snap.index+k.entries.length+1) (hl:k.entries.length<10000):onC {k with entries:=k.entries++[e]}=true:=by
 have h:=onC_iff.1 ho
 refine onC_iff.2 ⟨h.1,by show (k.entries++[e]).length≤_;simp only [List.length_append,List.length_cons,List.length_nil];omega,fun i hi=>?_⟩
 have hi:i<(k.entries++[e]).length:=hi
 simp only [List.length_append,List.length_cons,List.length_nil] at hi
 by_cases h1:i<k.entries.length
 ·have h2:=h.2.2 i h1
  have e1:(k.entries++[e]).getD i default=k.entries.getD i default:=by rw [List.getD_eq_getElem?_getD,List.getD_eq_getElem?_getD,List.getElem?_append_left h1]
  unfold okAt Kept.en at h2 ⊢
  show 1≤((k.entries++[e]).getD i default).index∧((k.entries++[e]).getD i default).index-1-(i:Int)=k.snap.index
  rw [e1];exact h2
 ·have e0:i=k.entries.length:=by omega
  subst e0
  have e1:(k.entries++[e]).getD k.entries.length default=e:=by simp [List.getD]
  have h0:=h.1
  unfold okAt Kept.en
  show 1≤((k.entries++[e]).getD k.entries.length default).index∧((k.entries++[e]).getD k.entries.length default).index-1-(k.entries.length:Int)=k.snap.index
  rw [e1,he]
  omega
theorem zsf {α:Type} {l m:List α} {i:Nat} {d:α} (h:i<l.length):(l++m).getD i d=l.getD i d:=by
 rw [List.getD_eq_getElem?_getD,List.getD_eq_getElem?_getD,List.getElem?_append_left h]
def zgh (k:Kept):Config:=match k.entries.reverse.find? (fun e=>e.kind==2) with
 | some e=>e.config
 | none=>k.snap.config
theorem ze7 {α:Type} {p q:α→Bool}:∀ {l:List α},(∀ x∈l,p x=q x)→l.find? p=l.find? q
 | [],_=>rfl
 | x::l,h=>by
  rw [List.find?_cons,List.find?_cons,h x (List.mem_cons_self ..),ze7 (l:=l) fun y hy=>h y (List.mem_cons_of_mem _ hy)]
theorem zvX {k:Kept} (ho:onC k=true) {e:Entry} (he:e∈k.entries):k.snap.index<e.index∧e.index≤k.snap.index+k.entries.length:=by
 obtain ⟨i,hi,rfl⟩:=List.mem_iff_getElem.1 he
 have:=zkn ho hi
 rw [zba hi] at this
 omega
theorem zir {n:Node} (ho:onC n.kept=true):za0 n=zgh n.kept:=by
 have hb:=(zcY ho).1
 have ht:(zaz n.kept (zal n.kept).1).2=0:=by
  rw [zau ho,zaz,if_pos ho]
  split
  ·rfl
  ·rw [if_pos ⟨by omega,Int.le_refl _⟩]
 rw [za0,zap,if_pos ht,cfgR,zgh]
 rw [ze7 (q:=fun e=>e.kind==2) fun e he=>?_]
 ·cases List.find? (fun e=>e.kind==2) n.kept.entries.reverse<;>rfl
 ·have:=zvX ho (List.mem_reverse.1 he)
  rw [cfgB,zau ho,decide_eq_true this.2,Bool.true_and]
theorem zq3 {k:Kept} {e:Entry} (h:e.kind≠2):zgh {k with entries:=k.entries++[e]}=zgh k:=by
 unfold zgh
 show (match (k.entries++[e]).reverse.find? _ with | some e=>e.config | none=>k.snap.config)=_
 rw [List.reverse_append]
 show (match (e::k.entries.reverse).find? _ with | some e=>e.config | none=>k.snap.config)=_
 rw [List.find?_cons,show (e.kind==2)=false by simpa using h]
theorem zfn {s:Step} {t v:Int} (h:Core s.n) (ht:0≤t∧t≤900000000) (hv:0≤v∧v≤900000000):Core (recS s (zcN t v)).n:=
 ⟨h.id,h.len,h.on,ht,hv,h.round,h.lead,h.last,h.elapsed,h.lo,h.hi,h.yes,h.yesn,h.confs⟩
theorem zhn {s:Step} {t v:Int} (h:s.n.kept.term<t∨t=s.n.kept.term∧s.n.kept.vote=0):Fwd s.n (recS s (zcN t v)).n:=by
 refine ⟨rfl,by show s.n.kept.term≤t;omega,Int.le_refl _,Int.le_refl _,fun e hv=>?_,fun i u _ _ h _=>h⟩
 have e:t=s.n.kept.term:=e
 rcases h with h | h
 ·omega
 ·exact absurd h.2 hv
def cfOk (e:Entry):Prop:=e.kind=2→mayC e.config=true
theorem zjl {s:Step} {e:Entry} (h:Core s.n):(layS s e).n={s.n with kept:={s.n.kept with entries:=s.n.kept.entries++[⟨s.n.kept.snap.index+s.n.kept.entries.length+1,s.n.kept.term,e.kind,e.config,e.data⟩]}}:=by
 have hb:=(zcY h.on).1
 have hl:=h.last
 have e1:IntKind.i64.wrap ((zal s.n.kept).1+1)=s.n.kept.snap.index+s.n.kept.entries.length+1:=by
  rw [zau h.on,zbu ⟨by omega,by omega⟩]
 show (⟨s.n.id,s.n.role,{s.n.kept with entries:=s.n.kept.entries++[⟨IntKind.i64.wrap ((zal s.n.kept).1+1),s.n.kept.term,e.kind,e.config,e.data⟩]},s.n.commit,s.n.lead,s.n.elapsed,s.n.yes,s.n.peers,s.n.round,s.n.reads⟩:Node)=_
 rw [e1]
theorem zfa {s:Step} {e:Entry} (h:Core s.n) (hl:s.n.kept.entries.length<9000) (hi:s.n.kept.snap.index+s.n.kept.entries.length<900000000) (he:cfOk e):Core (layS s e).n:=by
 rw [zjl h]
 have hc:=h.confs
 have hln:(s.n.kept.entries++[(⟨s.n.kept.snap.index+s.n.kept.entries.length+1,s.n.kept.term,e.kind,e.config,e.data⟩:Entry)]).length=s.n.kept.entries.length+1:=by simp
 refine ⟨h.id,by show (_++_:List Entry).length≤_;omega,zoA h.on rfl (by omega),h.term,h.vote,h.round,h.lead,by show s.n.kept.snap.index+((_++_:List Entry).length:Int)≤_;rw [hln];omega,h.elapsed,h.lo,by have:=h.hi;show s.n.commit≤s.n.kept.snap.index+((_++_:List Entry).length:Int);rw [hln];omega,h.yes,h.yesn,?_⟩
 unfold zb0 at hc ⊢
 rw [Bool.and_eq_true] at hc ⊢
 refine ⟨?_,hc.2⟩
 show (_++_:List Entry).all _=true
 rw [List.all_append,hc.1]
 simp only [List.all_cons,List.all_nil,Bool.and_true,Bool.true_and]
 by_cases hk:e.kind=2
 ·rw [he hk];simp
 ·simp [hk]
theorem zkw {s:Step} {e:Entry} (h:Core s.n) (hl:s.n.kept.entries.length<9000):Fwd s.n (layS s e).n:=by
 rw [zjl h]
 refine ⟨rfl,Int.le_refl _,Int.le_refl _,Int.le_refl _,fun _ _=>rfl,fun i t h1 h2 h3 h4=>?_⟩
 have hh:=h.hi
 rw [← h3,zbN h.on h1 (by omega),zbN (zoA h.on rfl (by omega)) h4 (by show i≤s.n.kept.snap.index+((_++_:List Entry).length:Int);simp only [List.length_append,List.length_cons,List.length_nil];omega)]
 show (((s.n.kept.entries++[_]:List Entry).getD (i-s.n.kept.snap.index-1).toNat default).term,_)=_
 rw [zsf (by omega)]
theorem zio (s:Step):(za7 s).n=s.n∨∃ c,s.n.commit≤c∧(zaz s.n.kept c).2=0∧(za7 s).n={s.n with commit:=c}:=by
 unfold za7
 split
 ·rename_i h
  by_cases g:s.n.commit≤zd2 (ze5 s)
  ·exact .inr ⟨_,g,h.1,by rw [show max s.n.commit (zd2 (ze5 s))=zd2 (ze5 s) by omega]⟩
  ·exact .inl (by rw [show max s.n.commit (zd2 (ze5 s))=s.n.commit by omega])
 ·exact .inl rfl
theorem zdr {s:Step} (h:Core s.n):Core (za7 s).n∧Fwd s.n (za7 s).n:=by
 rcases zio s with e | ⟨c,h1,h2,e⟩
 ·rw [e];exact ⟨h,Fwd.refl _⟩
 ·rw [e]
  have:=zhr h2
  exact ⟨⟨h.id,h.len,h.on,h.term,h.vote,h.round,h.lead,h.last,h.elapsed,Int.le_trans h.lo h1,this.2.2,h.yes,h.yesn,h.confs⟩,Fwd.of_kept rfl rfl h1⟩
theorem zdq {s:Step}:zcK (za7 s).n=zcK s.n:=by
 rcases zio s with e | ⟨c,_,_,e⟩<;>rw [e]<;>rfl
theorem ziR {s:Step} {e:Entry} (h:Core s.n) (hl:s.n.kept.entries.length<9000) (hi:s.n.kept.snap.index+s.n.kept.entries.length<900000000) (he:cfOk e) (hk:e.kind≠2) (hp:s.n.peers.map (·.node)=zam s.n) (hr:s.n.reads.length≤100)
  (hb:∀ p∈s.n.peers,zbK (s.n.kept.snap.index+s.n.kept.entries.length+1) s.n.round p=true):zbp (layS s e).n=true:=by
 have hc:=zfa h hl hi he
 have ho:=hc.on
 have hK:zgh (layS s e).n.kept=zgh s.n.kept:=by
  rw [zjl h];exact zq3 (k:=s.n.kept) hk
 have e1:zam (layS s e).n=zam s.n:=by
  unfold zam
  rw [zir ho,zir h.on,hK];rfl
 have e2:(zal (layS s e).n.kept).1=s.n.kept.snap.index+s.n.kept.entries.length+1:=by
  rw [zau ho,zjl h]
  show s.n.kept.snap.index+((_++_:List Entry).length:Int)=_
  simp only [List.length_append,List.length_cons,List.length_nil];omega
 unfold zbp
 rw [e1,e2]
 simp only [Bool.and_eq_true,decide_eq_true_eq,List.all_eq_true]
 exact ⟨⟨hp,hr⟩,hb⟩
end Go.Proofs.YteabcgkjbnecaaaGreat
namespace Go.Proofs.YteabcgkjbnecaaaGreat
open Go.RowKit Go.ChangeShapes Go.WideShapes Go.Deep
set_option maxRecDepth 100000
def okE (m:Message) (i:Nat):Bool:=okx m.index (m.entries.getD i default) i&&!((m.entries.getD i default).kind==2&&!mayC (m.entries.getD i default).config)
def zj6 (m:Message):Bool:=decide (m.entries.length≤8)&&(List.range m.entries.length).all (okE m)
def zjx (n:Node) (m:Message):Bool:=m.to_==n.id&&m.from_ != n.id&&wi 4 (IntKind.i64.wrap (m.from_-1))&&decide (1≤m.kind)&&decide (m.kind≤7)&&wi 899999999 (IntKind.i64.wrap (m.term-1))
def zle (m:Message):Bool:=if m.kind=7 then wi 899999999 (IntKind.i64.wrap (m.snap.index-1))&&mayC m.snap.config else if m.kind=5 then zj6 m else true
def mayM (n:Node) (m:Message):Bool:=zjx n m&&zle m
structure SmallM (m:Message):Prop where
 e:zch m.entries
 s:zaq m.snap.config
def tabE1:List Ent:=[zk7,zkG]
theorem zl5:∀ e∈tabE1,zaf Tryz.prog e:=zaa zgM (zaa zgT zad)
theorem zwf (s:Step) (m:Message) (hm:SmallM m):FnC Tryz.prog 86 [(dRpS 115).can s,dMessage.can m] (.bool (mayM s.n m)) D2:=by
 refine FnG.of_vc (zaj zl5 fun _=>none) Tryz.func86 rfl (by decide) rfl 300 (p:=fun (V:List PE→Prop)=>let v0:=m.kind;let v1:=m.snap.config;let v2:=s.n.id;let v3:=mayM s.n m;let v4:=(1:Int);let v5:=m.to_ != v2;let v6:=v0==7;let v7:=v0==5;let v8:=[IntKind.wrap IntKind.i64 (m.term-v4)];let v9:=[IntKind.wrap IntKind.i64 (m.from_-v4)];let v10:=[IntKind.wrap IntKind.i64 (m.snap.index-v4)];let v11:=zac v5 true (m.from_==v2);let v12:=!List.any v10 (offB (899999999:Int));let v13:=zac v11 true !!List.any v9 (offB (4:Int));let v14:=zac v13 true (decide (v0<v4));let v15:=zac v14 true (decide (v0>7));let v16:=zac v15 true !!List.any v8 (offB (899999999:Int));True∧(((!v5)=true→(!v5)=true)∧((!v5)=true→(!v5)=true)∧((!v5)=true→(!v5)=true)∧((!v5)=true→(!v5)=true)∧((!v5)=true→(!v5)=true)∧((!v5)=true→(!v5)=true)∧((!v5)=true→(!v5)=true)∧(v5=false→(!v5)=true)∧((!v11)=true→(!v11)=true)∧((!v11)=true→(!v11)=true)∧((!v11)=true→v9.length≤17592186044416)∧((!v11)=true→(!v11)=true)∧((!v11)=true→(!v11)=true)∧((!v11)=true→(!v11)=true)∧(v11=false→(!v11)=true)∧((!v13)=true→(!v13)=true)∧((!v13)=true→(!v13)=true)∧(v13=false→(!v13)=true)∧((!v14)=true→(!v14)=true)∧((!v14)=true→(!v14)=true)∧(v14=false→(!v14)=true)∧((!v15)=true→(!v15)=true)∧((!v15)=true→(!v15)=true)∧((!v15)=true→v8.length≤17592186044416)∧((!v15)=true→(!v15)=true)∧((!v15)=true→(!v15)=true)∧((!v15)=true→(!v15)=true)∧(v15=false→(!v15)=true)∧True)∧True∧(v16=true→True∧false=v3∧True)∧(v16=false→True∧True∧True∧(v6=true→(v10.length≤17592186044416∧(v12=true→v12=true)∧(v12=true→v12=true)∧(v12=true→v12=true)∧(v12=true→zaq v1)∧(v12=true→v12=true)∧(v12=true→v12=true)∧True)∧zac v12 (errM (mayC v1)==0) false=v3∧True)∧(v6=false→True∧True∧(v7=true→True∧V [PE.b,PE.b,PE.a])∧(v7=false→True∧true=v3∧True)))) (by kernel_rfl) ?_
 simp only [imp_self,implies_true,true_and,and_true,zae,zag,notF]
 have hH:(m.to_ != s.n.id||m.from_==s.n.id||!!List.any [IntKind.i64.wrap (m.from_-1)] (offB 4)||decide (m.kind<1)||decide (m.kind>7)||!!List.any [IntKind.i64.wrap (m.term-1)] (offB 899999999))=!zjx s.n m:=by
  have e1:decide (m.kind<1)=!decide (1≤m.kind):=by rw [Bool.eq_iff_iff];simp
  have e2:decide (m.kind>7)=!decide (m.kind≤7):=by rw [Bool.eq_iff_iff];simp
  simp only [zjx,List.any_cons,List.any_nil,Bool.or_false,zd8,Bool.not_not,bne]
  rw [e1,e2]
  generalize decide (1≤m.kind)=x1
  generalize decide (m.kind≤7)=x2
  generalize (m.to_==s.n.id)=x3
  generalize (m.from_==s.n.id)=x4
  generalize wi 4 (IntKind.i64.wrap (m.from_-1))=x5
  generalize wi 899999999 (IntKind.i64.wrap (m.term-1))=x6
  cases x1<;>cases x2<;>cases x3<;>cases x4<;>cases x5<;>cases x6<;>rfl
 refine ⟨⟨fun _=>by simp,fun _=>by simp⟩,fun h=>?_,fun h=>⟨fun h7=>⟨⟨by simp,fun _=>hm.s⟩,?_⟩,fun h7=>⟨fun h5=>?_,fun h5=>?_⟩⟩⟩
 ·rw [hH] at h
  have h:zjx s.n m=false:=by simpa using h
  rw [mayM,h];rfl
 ·rw [hH] at h
  have h:zjx s.n m=true:=by simpa using h
  have h7:m.kind=7:=by simpa using h7
  rw [mayM,h,zle,if_pos h7]
  simp only [List.any_cons,List.any_nil,Bool.or_false,zd8,Bool.not_not,errM]
  cases mayC m.snap.config<;>simp
 ·rw [hH] at h
  have h:zjx s.n m=true:=by simpa using h
  have h7:¬ m.kind=7:=by simpa using h7
  have h5:m.kind=5:=by simpa using h5
  have e:mayM s.n m=zj6 m:=by rw [mayM,h,zle,if_neg h7,if_pos h5];rfl
  rw [e]
  have hml:=hm.e.1
  refine LoopG.head (zaj zl5 fun _=>none) 0 (A:=Nat) (fun i=>i≤m.entries.length∧i≤8∧∀ k,k<i→okE m k=true) (fun i=>[(73,.int .i64 i),(72,.int .i64 (m.entries.length:Int)),(71,.sl [0] (.rEntry m.entries))]) (fun i=>[]) (fun i=>m.entries.length-i) 0 ⟨Nat.zero_le _,by decide,fun k hk=>absurd hk (by omega)⟩ (p0:=let v0:=m.entries;let v1:=Message.logTerm m;let v2:=m.snap;let v4:=v2.config;let v9:=(↑(v0.length):Int);(0:Int)=(↑(0:Nat):Int)∧v9=v9∧v0=v0∧m.kind=m.kind∧m.from_=m.from_∧m.to_=m.to_∧m.term=m.term∧m.index=m.index∧v1=v1∧v0=v0∧m.commit=m.commit∧m.round=m.round∧m.ok=m.ok∧v2.index=v2.index∧v2.term=v2.term∧v4.voters=v4.voters∧v4.learners=v4.learners∧v2.data=v2.data∧m.ask=m.ask∧m.seq=m.seq∧m.data=m.data∧True) (by kernel_rfl) ?_ 300 (p:=fun (x:Nat) (V:List PE→Prop)=>let v2:=(↑x:Int);let v3:=(↑(m.entries.length):Int);let v4:=List.getD m.entries x default;let v7:=v4.kind==2;let v8:=decide (v2≥8);let v9:=decide (v2<v3);let v10:=zac v8 true (decide (v4.index≤m.index));let v11:=zac v10 true (IntKind.wrap IntKind.i64 (IntKind.wrap IntKind.i64 (v4.index-(1:Int))-v2) != m.index);let v12:=!v11;let v13:=zac v11 true (zac v7 (errM (mayC v4.config) != 0) false);True∧True∧(v9=true→((0:Int)≤v2∧v2<v3∧True)∧(((!v8)=true→(!v8)=true)∧((!v8)=true→(!v8)=true)∧((!v8)=true→(!v8)=true)∧((!v8)=true→(!v8)=true)∧(v8=false→(!v8)=true)∧((!v10)=true→(!v10)=true)∧((!v10)=true→(!v10)=true)∧((!v10)=true→(!v10)=true)∧((!v10)=true→(!v10)=true)∧((!v10)=true→(!v10)=true)∧((!v10)=true→(!v10)=true)∧((!v10)=true→(!v10)=true)∧(v10=false→(!v10)=true)∧(v12=true→v12=true)∧(v12=true→v12=true)∧(v12=true→v12=true)∧((v12&&v7)=true→(v12&&v7)=true)∧((v12&&v7)=true→(v12&&v7)=true)∧((v12&&v7)=true→zaq v4.config)∧((v12&&v7)=true→(v12&&v7)=true)∧(v12=true→v12=true)∧(v12=true→v7=true→(v12&&v7)=true)∧(v11=false→v12=true)∧True)∧True∧(v13=true→True∧false=zj6 m∧True)∧(v13=false→True∧V [PE.a,PE.b]))∧(v9=false→True∧true=zj6 m∧True)) (by intro x;kernel_rfl) ?_
  ·repeat' apply And.intro
   all_goals first | trivial | rfl
  rintro i ⟨hi,hi8,hk⟩
  simp only [imp_self,implies_true,true_and,and_true,decide_eq_true_eq,decide_eq_false_iff_not,notF]
  have hC:∀ x:Entry,x=m.entries.getD i default→zac (zac (zac (decide ((i:Int)≥8)) true (decide (x.index≤m.index))) true (IntKind.i64.wrap (IntKind.i64.wrap (x.index-1)-i) != m.index)) true (zac (x.kind==2) (errM (mayC x.config) != 0) false)=!(decide (i<8)&&okE m i):=by
   rintro x rfl
   have e1:decide ((i:Int)≥8)=!decide (i<8):=by rw [Bool.eq_iff_iff];simp;omega
   have e2:∀ b:Bool,(errM b != (0:Int))=!b:=by intro b;cases b<;>rfl
   rw [e1,e2,okE,okx]
   generalize decide (i<8)=x1
   generalize decide ((m.entries.getD i default).index≤m.index)=x2
   generalize (IntKind.i64.wrap (IntKind.i64.wrap ((m.entries.getD i default).index-1)-i) != m.index)=x3
   generalize ((m.entries.getD i default).kind==2)=x4
   generalize mayC (m.entries.getD i default).config=x5
   cases x1<;>cases x2<;>cases x3<;>cases x4<;>cases x5<;>rfl
  rw [hC _ rfl]
  refine ⟨fun h6=>⟨⟨by omega,h6⟩,⟨fun h=>by simp [h],fun _=>hm.e.2 _ (za8 (by omega)),fun h1 h2=>by rw [h1,h2];rfl⟩,fun h8=>?_,fun h8=>?_⟩,fun h6=>?_⟩
  ·have h8:¬ (i<8∧okE m i=true):=by
    rintro ⟨g1,g2⟩
    rw [g2] at h8;simp [g1] at h8
   symm
   rw [zj6,Bool.and_eq_false_iff]
   by_cases g:i<8
   ·right
    rw [List.all_eq_false]
    exact ⟨i,List.mem_range.2 (by omega),fun g2=>h8 ⟨g,g2⟩⟩
   ·left
    simp only [decide_eq_false_iff_not];omega
  ·have h8:i<8∧okE m i=true:=by simpa using h8
   refine Back.mk (i+1) ⟨by omega,by omega,fun k hk2=>?_⟩ (by omega) (p0:=let v0:=m.entries;let v1:=Message.logTerm m;let v2:=m.snap;let v4:=v2.config;let v9:=(↑(v0.length):Int);IntKind.wrap IntKind.i64 ((↑i:Int)+(1:Int))=(↑(i+(1:Nat)):Int)∧v9=v9∧v0=v0∧m.kind=m.kind∧m.from_=m.from_∧m.to_=m.to_∧m.term=m.term∧m.index=m.index∧v1=v1∧v0=v0∧m.commit=m.commit∧m.round=m.round∧m.ok=m.ok∧v2.index=v2.index∧v2.term=v2.term∧v4.voters=v4.voters∧v4.learners=v4.learners∧v2.data=v2.data∧m.ask=m.ask∧m.seq=m.seq∧m.data=m.data∧True) (by kernel_rfl) ?_
   ·by_cases e:k=i
    ·subst e;exact h8.2
    ·exact hk k (by omega)
   ·simp [zbj (i:=i) (by omega)]
  ·obtain rfl:i=m.entries.length:=by omega
   rw [zj6]
   have:(List.range m.entries.length).all (okE m)=true:=List.all_eq_true.2 fun k hk2=>hk k (List.mem_range.1 hk2)
   rw [this];simp [hi8]
 ·rw [hH] at h
  have h:zjx s.n m=true:=by simpa using h
  have h7:¬ m.kind=7:=by simpa using h7
  have h5:¬ m.kind=5:=by simpa using h5
  rw [mayM,h,zle,if_neg h7,if_neg h5];rfl
def zqe:Ent:=ent2 86 (dRpS 115) dMessage fun s m=>([SmallM m],.bool (mayM s.n m),D2)
theorem zfe:zaf Tryz.prog zqe:=zav (fnB Tryz.func86 (by decide) rfl) fun s m h=>zwf s m (h _ (by simp))
noncomputable def tabBi:List Ent:=[zs2,zgN,zjI,eTo,zkO]
theorem zrq:∀ e∈tabBi,zaf Tryz.prog e:=zaa zif (zaa zcw (zaa zef (zaa zpF (zaa zgY zad))))
def atM (s:Step) (m:Message):Nat:=(zaQ s.n.peers m.from_).toNat
def zfv (s:Step) (m:Message):Bool:=s.n.role != 4||m.term != s.n.kept.term||decide (zaQ s.n.peers m.from_<0)
def setP (l:List Peer) (i:Nat) (f:Peer→Peer):List Peer:=l.set i (f (l.getD i default))
def zbC (s:Step) (m:Message):List Peer:=if decide (m.round≤s.n.round)=true then setP s.n.peers (atM s m) fun p=>⟨p.node,p.next,p.match_,if m.round>p.round then m.round else p.round⟩ else s.n.peers
def zrP (m:Message) (q:Peer):Int:=IntKind.i64.wrap ((if m.index<IntKind.i64.wrap (q.next-1) then m.index else IntKind.i64.wrap (q.next-1))+1)
def zbR (s:Step) (m:Message):List Peer:=setP (zbC s m) (atM s m) fun q=>⟨q.node,if zrP m q>IntKind.i64.wrap (q.match_+1) then zrP m q else IntKind.i64.wrap (q.match_+1),q.match_,q.round⟩
def zeI (s:Step) (m:Message):List Peer:=setP (zbC s m) (atM s m) fun q=>⟨q.node,q.next,if m.index>q.match_ then m.index else q.match_,q.round⟩
def zeH (s:Step) (m:Message):List Peer:=setP (zeI s m) (atM s m) fun r=>⟨r.node,if IntKind.i64.wrap (r.match_+1)>r.next then IntKind.i64.wrap (r.match_+1) else r.next,r.match_,r.round⟩
def withP (s:Step) (l:List Peer):Step:=⟨{s.n with peers:=l},s.o⟩
def zbn (s:Step) (m:Message):Step:=za7 (withP s (zeH s m))
def nowP (s:Step) (m:Message):Peer:=(zbn s m).n.peers.getD (atM s m) default
def za1 (s:Step) (m:Message):Step:=
 if zfv s m then s
 else if m.ok&&decide (m.index≤(zal s.n.kept).1) then (if (nowP s m).next≤(zal (zbn s m).n.kept).1 then zaN (toS (zbn s m) (nowP s m)) else zaN (zbn s m))
 else if m.ok then zaN (withP s (zbC s m))
 else zaN (toS (withP s (zbR s m)) ((zbR s m).getD (atM s m) default))
theorem zdL (l:List Peer) (i:Nat) (f:Peer→Peer):(setP l i f).length=l.length:=List.length_set ..
theorem zbx (s:Step) (m:Message):(zbC s m).length=s.n.peers.length:=by
 unfold zbC;split
 ·exact zdL ..
 ·rfl
theorem ze1 (s:Step) (m:Message):(zbR s m).length=s.n.peers.length:=by rw [zbR,zdL,zbx]
theorem ze0 (s:Step) (m:Message):(zeH s m).length=s.n.peers.length:=by rw [zeH,zdL,zeI,zdL,zbx]
theorem znz (s:Step) (m:Message):(zbn s m).n.peers.length=s.n.peers.length:=by
 have:∀ x:Step,(za7 x).n.peers=x.n.peers:=fun x=>by unfold za7;split<;>rfl
 rw [zbn,this];exact ze0 s m
theorem zg6 (a b:Bool):zac a b false=(a&&b):=by cases a<;>rfl
theorem ziQ (a b:Bool):zac a true b=(a||b):=by cases a<;>rfl
theorem zod (s:Step) (m:Message):zac (zac (s.n.role != 4) true (m.term != s.n.kept.term)) true (decide (zaQ s.n.peers m.from_<0))=zfv s m:=by rw [ziQ,ziQ];rfl
theorem zsF (x:Step):(za7 x).o=x.o:=by unfold za7;split<;>rfl
theorem zmY (s:Step) (m:Message) (hf:Few 30000 s) (hy:s.o.ready.length≤9000):FnG Tryz.prog 93 3 (wMi s) [.ptr 2 0,dMessage.L.can m] (.tup []) (wMo (za1 s m)):=by
 obtain ⟨M,hM⟩:∃ M,za1 s m=M:=⟨_,rfl⟩
 rw [hM]
 refine FnG.of_vc (zaj zrq fun _=>none) Tryz.func93 rfl (by decide) rfl 300 (p:=fun (V:List PE→Prop)=>let v0:=m.ok;let v2:=m.index;let v3:=s.o;let v4:=s.n;let v8:=v4.peers;let v10:=default;let v15:=v4.elapsed;let v21:=v4.round;let v23:=v4.reads;let v24:=Out.lost (Step.o M);let v32:=v4.kept;let v43:=v3.ready.length;let v45:=(1:Int);let v46:=v3.messages.length;let v49:=v8.length;let v51:=v23.length;let v55:=zaQ v8 m.from_;let v56:=Int.toNat v55;let v58:=v4.role != 4;let v59:=decide (m.round≤v21);let v60:=List.getD v8 v56 v10;let v62:=zac v58 true (m.term != v32.term);let v63:=zac v0 (decide (v2≤(Prod.fst (zal v32)))) false;let v64:=zac v62 true (decide (v55<0));let v65:=if v59=true then List.set v8 v56 (Peer.mk v60.node v60.next v60.match_ (if m.round>v60.round then m.round else v60.round)) else v8;let v66:=v65.length;let v67:=List.getD v65 v56 v10;let v69:=v67.match_;let v72:=IntKind.wrap IntKind.i64 (v69+v45);let v73:=IntKind.wrap IntKind.i64 (v67.next-v45);let v74:=Node.mk v4.id v4.role v32 v4.commit v4.lead v15 v4.yes v65 v21 v23;let v75:=zaN (Step.mk v74 v3);let v81:=IntKind.wrap IntKind.i64 ((if v2<v73 then v2 else v73)+v45);let v82:=List.set v65 v56 (Peer.mk v67.node v67.next (if v2>v69 then v2 else v69) v67.round);let v83:=List.getD v82 v56 v10;let v86:=IntKind.wrap IntKind.i64 (v83.match_+v45);let v87:=List.set v65 v56 (Peer.mk v67.node (if v81>v72 then v81 else v72) v69 v67.round);let v88:=Node.mk v4.id v4.role v32 v4.commit v4.lead v15 v4.yes v87 v21 v23;let v89:=toS (Step.mk v88 v3) (List.getD v87 v56 v10);let v91:=zaN v89;let v98:=Node.mk v4.id v4.role v32 v4.commit v4.lead v15 v4.yes (List.set v82 v56 (Peer.mk v83.node (if v86>v83.next then v86 else v83.next) v83.match_ v83.round)) v21 v23;let v99:=za7 (Step.mk v98 v3);let v102:=zaN v99;let v108:=v99.o.messages.length;let v110:=v99.n.reads.length;let v111:=v99.n.peers.length;let v112:=v99.o.ready.length;let v115:=List.getD v99.n.peers v56 v10;let v117:=toS v99 v115;let v118:=zaN v117;let v126:=decide (v115.next≤(Prod.fst (zal v99.n.kept)));True∧(v32.entries.length≤17592186044416∧v4.yes.length≤17592186044416∧v49≤17592186044416∧v51≤17592186044416∧v3.records.length≤17592186044416∧v46≤17592186044416∧v43≤17592186044416∧v3.lost.length≤17592186044416∧True)∧(((!v58)=true→(!v58)=true)∧((!v58)=true→(!v58)=true)∧((!v58)=true→(!v58)=true)∧((!v58)=true→(!v58)=true)∧((!v58)=true→(!v58)=true)∧((!v58)=true→(!v58)=true)∧((!v58)=true→(!v58)=true)∧((!v58)=true→(!v58)=true)∧(v58=false→(!v58)=true)∧((!v62)=true→(!v62)=true)∧(v62=false→(!v62)=true)∧True)∧True∧(v64=true→qN0 v4 (Step.n M) (qN3 v4 (Step.n M) (qO13 v3 (Step.o M) (v3.lost=v24∧True))))∧(v64=false→((0:Int)≤v55∧v55<(↑v49:Int)∧True)∧True∧((v59=true→v56<v49)∧(v59=true→v56<v49)∧True)∧((v0=true→v0=true)∧(v0=true→v0=true)∧(v0=true→v32.entries.length≤17592186044416)∧(v0=true→v4.yes.length≤17592186044416)∧(v0=true→v66≤17592186044416)∧(v0=true→v51≤17592186044416)∧(v0=true→v3.records.length≤17592186044416)∧(v0=true→v46≤17592186044416)∧(v0=true→v43≤17592186044416)∧(v0=true→v3.lost.length≤17592186044416)∧(v0=true→v0=true)∧(v0=true→v0=true)∧(v0=true→v0=true)∧True)∧True∧(v63=true→(v56<v66∧v56<v66∧True)∧(v56<v82.length∧v56<v82.length∧v56<v82.length∧True)∧(SmallN v98∧SmallO v3∧List.length (Config.voters (za0 v98))≤4000∧True)∧(v56<v111∧v99.n.kept.entries.length≤17592186044416∧v99.n.yes.length≤17592186044416∧v111≤17592186044416∧v110≤17592186044416∧v99.o.records.length≤17592186044416∧v108≤17592186044416∧v112≤17592186044416∧v99.o.lost.length≤17592186044416∧True)∧True∧(v126=true→(v56<v111∧SmallN v99.n∧v108≤1000000∧True)∧(SmallN v117.n∧SmallO v117.o∧v117.o.ready.length≤10000∧v117.n.reads.length≤10000∧v117.n.peers.length≤10000∧True)∧qN0 v118.n (Step.n M) (qN3 v118.n (Step.n M) (qO13 v118.o (Step.o M) (v118.o.lost=v24∧True))))∧(v126=false→(SmallN v99.n∧SmallO v99.o∧v112≤10000∧v110≤10000∧v111≤10000∧True)∧qN0 v102.n (Step.n M) (qN3 v102.n (Step.n M) (qO13 v102.o (Step.o M) (v102.o.lost=v24∧True)))))∧(v63=false→True∧True∧((!v0)=true→(v56<v66∧v56<v66∧v56<v66∧True)∧(v56<v87.length∧SmallN v88∧v46≤1000000∧True)∧(SmallN v89.n∧SmallO v89.o∧v89.o.ready.length≤10000∧v89.n.reads.length≤10000∧v89.n.peers.length≤10000∧True)∧qN0 v91.n (Step.n M) (qN3 v91.n (Step.n M) (qO13 v91.o (Step.o M) (v91.o.lost=v24∧True))))∧((!v0)=false→(SmallN v74∧SmallO v3∧v43≤10000∧v51≤10000∧v66≤10000∧True)∧qN0 v75.n (Step.n M) (qN3 v75.n (Step.n M) (qO13 v75.o (Step.o M) (v75.o.lost=v24∧True))))))) (by kernel_rfl) ?_
 obtain ⟨b1,b2,b3,b4,b5⟩:=(hf.sn (by decide)).ls
 obtain ⟨c1,c2,c3,c4⟩:=(hf.so (by decide)).ls
 have hy1:s.o.ready.length≤10000:=Nat.le_trans hy (by decide)
 have hy2:(zbn s m).o.ready.length≤10000:=by rw [zbn,zsF];exact hy1
 intros
 refine ⟨trivial,⟨b1,b2,b3,b4,c1,c2,c3,c4,trivial⟩,?_,trivial,fun h=>?_,fun h=>?_⟩
 ·refine ⟨fun h=>h,fun h=>h,fun h=>h,fun h=>h,fun h=>h,fun h=>h,fun h=>h,fun h=>h,fun h=>(by rw [h];rfl),fun h=>h,fun h=>(by rw [h];rfl),trivial⟩
 ·have h:zfv s m=true:=(zod s m).symm.trans h
  have e:M=s:=by rw [← hM,za1,if_pos h]
  subst e
  repeat' apply And.intro
  all_goals first | trivial | rfl
 ·have h:zfv s m=false:=(zod s m).symm.trans h
  have hp:=zc3 s.n.peers m.from_
  have h0:0≤zaQ s.n.peers m.from_:=by
   unfold zfv at h
   simp only [Bool.or_eq_false_iff,decide_eq_false_iff_not] at h
   omega
  have hat:atM s m<s.n.peers.length:=by unfold atM;omega
  have hlr:(zbC s m).length≤17592186044416:=by rw [zbx];exact b3
  refine ⟨⟨h0,hp,trivial⟩,trivial,⟨fun _=>hat,fun _=>hat,trivial⟩,?_,trivial,?_⟩
  ·refine ⟨fun h=>h,fun h=>h,fun _=>b1,fun _=>b2,fun _=>hlr,fun _=>b4,fun _=>c1,fun _=>c2,fun _=>c3,fun _=>c4,fun h=>h,fun h=>h,fun h=>h,trivial⟩
  ·refine ⟨fun h2=>?_,fun h2=>?_⟩
   ·have h2:(m.ok&&decide (m.index≤(zal s.n.kept).1))=true:=(zg6 _ _).symm.trans h2
    have k0:Few 30000 (withP s (zeH s m)):=⟨hf.entries,hf.ec,hf.sc,hf.yes,by show (zeH s m).length≤_;rw [ze0];exact hf.peers,hf.reads,hf.records,hf.messages,hf.ready,hf.lost⟩
    have k1:Few 30000 (zbn s m):=k0.count
    have k2:Few 30001 (toS (zbn s m) (nowP s m)):=k1.send _
    obtain ⟨d1,d2,d3,d4,d5⟩:=(k1.sn (by decide)).ls
    obtain ⟨f1,f2,f3,f4⟩:=(k1.so (by decide)).ls
    have g1:atM s m<(zbC s m).length:=by rw [zbx];exact hat
    have g2:atM s m<(zeI s m).length:=by rw [zeI,zdL];exact g1
    have g3:atM s m<(zbn s m).n.peers.length:=by rw [znz];exact hat
    refine ⟨⟨g1,g1,trivial⟩,⟨g2,g2,g2,trivial⟩,⟨k0.sn (by decide),k0.so (by decide),k0.cf.1,trivial⟩,⟨g3,d1,d2,d3,d4,f1,f2,f3,f4,trivial⟩,trivial,fun h3=>?_,fun h3=>?_⟩
    ·have h3:(nowP s m).next≤(zal (zbn s m).n.kept).1:=of_decide_eq_true h3
     have e:M=zaN (toS (zbn s m) (nowP s m)):=by rw [← hM,za1,if_neg (by rw [h];decide),if_pos h2,if_pos h3]
     subst e
     refine ⟨⟨g3,k1.sn (by decide),Nat.le_trans k1.messages (by decide),trivial⟩,⟨k2.sn (by decide),k2.so (by decide),hy2,Nat.le_trans k2.reads (by decide),Nat.le_trans k2.peers (by decide),trivial⟩,?_⟩
     repeat' apply And.intro
     all_goals first | trivial | rfl
    ·have h3:¬ (nowP s m).next≤(zal (zbn s m).n.kept).1:=of_decide_eq_false h3
     have e:M=zaN (zbn s m):=by rw [← hM,za1,if_neg (by rw [h];decide),if_pos h2,if_neg h3]
     subst e
     refine ⟨⟨k1.sn (by decide),k1.so (by decide),hy2,Nat.le_trans k1.reads (by decide),Nat.le_trans k1.peers (by decide),trivial⟩,?_⟩
     repeat' apply And.intro
     all_goals first | trivial | rfl
   ·have h2:(m.ok&&decide (m.index≤(zal s.n.kept).1))=false:=(zg6 _ _).symm.trans h2
    have g1:atM s m<(zbC s m).length:=by rw [zbx];exact hat
    refine ⟨trivial,trivial,fun h3=>?_,fun h3=>?_⟩
    ·have h3:m.ok=false:=by
      have h4:(!m.ok)=true:=h3
      cases hk:m.ok
      ·rfl
      ·rw [hk] at h4;cases h4
     have k0:Few 30000 (withP s (zbR s m)):=⟨hf.entries,hf.ec,hf.sc,hf.yes,by show (zbR s m).length≤_;rw [ze1];exact hf.peers,hf.reads,hf.records,hf.messages,hf.ready,hf.lost⟩
     have k2:Few 30001 (toS (withP s (zbR s m)) ((zbR s m).getD (atM s m) default)):=k0.send _
     have g2:atM s m<(zbR s m).length:=by rw [ze1];exact hat
     have e:M=zaN (toS (withP s (zbR s m)) ((zbR s m).getD (atM s m) default)):=by rw [← hM,za1,if_neg (by rw [h];decide),if_neg (by rw [h2];decide),if_neg (by rw [h3];decide)]
     subst e
     refine ⟨⟨g1,g1,g1,trivial⟩,⟨g2,k0.sn (by decide),Nat.le_trans k0.messages (by decide),trivial⟩,⟨k2.sn (by decide),k2.so (by decide),hy1,Nat.le_trans k2.reads (by decide),Nat.le_trans k2.peers (by decide),trivial⟩,?_⟩
     repeat' apply And.intro
     all_goals first | trivial | rfl
    ·have h3:m.ok=true:=by
      have h4:(!m.ok)=false:=h3
      cases hk:m.ok
      ·rw [hk] at h4;cases h4
      ·rfl
     have k0:Few 30000 (withP s (zbC s m)):=⟨hf.entries,hf.ec,hf.sc,hf.yes,by show (zbC s m).length≤_;rw [zbx];exact hf.peers,hf.reads,hf.records,hf.messages,hf.ready,hf.lost⟩
     have e:M=zaN (withP s (zbC s m)):=by rw [← hM,za1,if_neg (by rw [h];decide),if_neg (by rw [h2];decide),if_pos h3]
     subst e
     refine ⟨⟨k0.sn (by decide),k0.so (by decide),hy1,Nat.le_trans k0.reads (by decide),Nat.le_trans k0.peers (by decide),trivial⟩,?_⟩
     repeat' apply And.intro
     all_goals first | trivial | rfl
def zig:Ent:=zcC 93 3 mW dMessage.L vrW [1,0] glW fun s m=>([Few 30000 s,s.o.ready.length≤9000],.tup [],wMo (za1 s m))
theorem zfP:zaf Tryz.prog zig:=zaL (fnB Tryz.func93 (by decide) rfl) fun s m h=>zmY s m (h _ (by simp)) (h _ (by simp))
theorem Few.answer {B:Nat} {s:Step} (h:Few B s):Few (B+5000) (zaN s):=by
 have h1:=h.ready
 have h2:=h.reads
 have g:=h.mono (show B≤B+5000 by omega)
 have h3:=List.length_filter_le (fun r=>!zaK s r) s.n.reads
 have h4:=List.length_filter_le (zaK s) s.n.reads
 exact ⟨g.entries,g.ec,g.sc,g.yes,g.peers,by show (List.filter _ _).length≤_;omega,g.records,g.messages,by show (_++_:List Read).length≤_;simp only [List.length_append];omega,g.lost⟩
theorem Few.withP {B:Nat} {s:Step} {l:List Peer} (h:Few B s) (hl:l.length≤5000):Few B (withP s l):=⟨h.entries,h.ec,h.sc,h.yes,hl,h.reads,h.records,h.messages,h.ready,h.lost⟩
theorem Few.matched {B:Nat} {s:Step} (m:Message) (h:Few B s):Few (B+5001) (za1 s m):=by
 have k0:Few B (zbn s m):=(h.withP (by rw [ze0];exact h.peers)).count
 unfold za1
 split
 ·exact h.mono (by omega)
 split
 ·split
  ·exact (Few.answer (k0.send _)).mono (by omega)
  ·exact k0.answer.mono (by omega)
 split
 ·exact (Few.answer (h.withP (by rw [zbx];exact h.peers))).mono (by omega)
 ·exact (Few.answer (Few.send _ (h.withP (by rw [ze1];exact h.peers)))).mono (by omega)
def zcA (n:Node) (m:Message):Bool:=decide (n.kept.term<m.term)&&m.kind != 1&&!(m.kind==2&&m.ok)
def zaX (n:Node) (m:Message):Step:=if zcA n m then za5 (zah n) m.term else zah n
def zaW (n:Node) (m:Message):Step:=if mayM n m then (if m.kind=2 then zaG (zaX n m) m else zaY (zaX n m) m) else zah n
def zbA (n:Node) (m:Message):Step×Int:=if zak n then (zaW n m,0) else (⟨zeroN,outZ⟩,1)
theorem ze4 (n:Node) (m:Message) (hn:SmallN n) (hr:zak n=false):FnC Tryz.prog 29 [dNode.can n,dMessage.can m] (refO zeroN outZ 1) D3d:=by
 refine FnG.of_vc (zaj zht fun _=>none) Tryz.func29 rfl (by decide) rfl 300 (p:=fun (V:List PE→Prop)=>let v14:=(1:Int) != 0;True∧(SmallN n∧zak n=false∧True)∧True∧True∧(v14=true→True∧qN0 zeroN zeroN (qN24 zeroN zeroN (qO25 outZ outZ ((1:Int)=1∧True))))∧(v14=false→False)) (by kernel_rfl) ?_
 simp only [qN0,qN24,qO25,imp_self,implies_true,true_and,and_true,zae,zag]
 exact ⟨⟨hn,hr⟩,fun h=>absurd h (by decide)⟩
noncomputable def tabHr:List Ent:=[zkN,zbh,zqe,zqo,zkC,zpE,eEnd]
theorem zrl:∀ e∈tabHr,zaf Tryz.prog e:=zaa zcg (zaa zaD (zaa zfe (zaa zee (zaa zgR (zaa zj9 (zaa zdF zad))))))
theorem Few.pb {B:Nat} {s:Step} (m:Message) (h:Few B s) (hb:16≤B):Few (B+5002) (zaG s m):=by
 unfold zaG
 split
 ·exact (h.yr hb).stand
 ·exact (h.yr hb).mono (by omega)
theorem Few.vt {B:Nat} {s:Step} (m:Message) (h:Few B s) (hb:16≤B):Few (B+5002) (zaY s m):=by
 unfold zaY
 split
 ·exact (h.yr hb).rule.mono (by omega)
 ·exact (h.yr hb).mono (by omega)
theorem zgF (n:Node) (m:Message) (hf:Few 40000 (zah n)) (hm:SmallM m) (hr:zak n=true) (hk:m.kind=2∨m.kind=4):FnC Tryz.prog 29 [dNode.can n,dMessage.can m] (refO (zaW n m).n (zaW n m).o 0) D3d:=by
 refine FnG.of_vc (zaj zrl fun _=>none) Tryz.func29 rfl (by decide) rfl 300 (p:=fun (V:List PE→Prop)=>let v0:=m.kind;let v10:=Step.o (zaW n m);let v11:=Step.n (zaW n m);let v14:=(0:Int);let v37:=Out.mk [] [] [] [];let v38:=Step.mk n v37;let v39:=v0==1;let v40:=v0==2;let v41:=v0==5;let v42:=v0==6;let v43:=v0==4;let v44:=v0==3;let v45:=v0==7;let v46:=zaY v38 m;let v47:=zaG v38 m;let v51:=za5 v38 m.term;let v58:=decide (m.term>n.kept.term);let v60:=zaG v51 m;let v61:=zaY v51 m;let v78:=zac v58 (v0 != 1) false;let v79:=zac v78 (!zac v40 m.ok false) false;True∧(SmallN n∧zak n=true∧True)∧True∧True∧((v14 != v14)=true→True∧qN0 zeroN v11 (qN24 zeroN v11 (qO25 outZ v10 (v14=v14∧True))))∧((v14 != v14)=false→(n.kept.entries.length≤17592186044416∧n.yes.length≤17592186044416∧n.peers.length≤17592186044416∧n.reads.length≤17592186044416∧SmallM m∧True)∧True∧((!mayM n m)=true→(SmallN n∧SmallO v37∧True)∧qN0 n v11 (qN24 n v11 ([]=v10.records∧[]=v10.messages∧[]=v10.ready∧[]=v10.lost∧v14=v14∧True)))∧((!mayM n m)=false→((v58=true→v58=true)∧(v58=true→v58=true)∧(v58=true→v58=true)∧(v78=true→v78=true)∧(v78=true→v78=true)∧(v78=true→v78=true)∧((v78&&v40)=true→(v78&&v40)=true)∧(v78=true→v78=true)∧(v78=true→v40=true→(v78&&v40)=true)∧(v78=true→v78=true)∧(v78=true→v78=true)∧True)∧True∧(v79=true→(Few 70000 v38∧True)∧True∧True∧True∧(v39=true→False)∧(v39=false→True∧True∧(v40=true→(Few 60000 v51∧True)∧(SmallN v60.n∧SmallO v60.o∧True)∧qN0 v60.n v11 (qN24 v60.n v11 (qO25 v60.o v10 (v14=v14∧True))))∧(v40=false→True∧True∧(v44=true→False)∧(v44=false→True∧True∧(v43=true→(Few 60000 v51∧True)∧(SmallN v61.n∧SmallO v61.o∧True)∧qN0 v61.n v11 (qN24 v61.n v11 (qO25 v61.o v10 (v14=v14∧True))))∧(v43=false→True∧True∧(v41=true→False)∧(v41=false→True∧True∧(v42=true→False)∧(v42=false→True∧True∧(v45=true→False)∧(v45=false→(SmallN v51.n∧SmallO v51.o∧True)∧qN0 v51.n v11 (qN24 v51.n v11 (qO25 v51.o v10 (v14=v14∧True)))))))))))∧(v79=false→True∧True∧True∧(v39=true→False)∧(v39=false→True∧True∧(v40=true→(Few 60000 v38∧True)∧(SmallN v47.n∧SmallO v47.o∧True)∧qN0 v47.n v11 (qN24 v47.n v11 (qO25 v47.o v10 (v14=v14∧True))))∧(v40=false→True∧True∧(v44=true→False)∧(v44=false→True∧True∧(v43=true→(Few 60000 v38∧True)∧(SmallN v46.n∧SmallO v46.o∧True)∧qN0 v46.n v11 (qN24 v46.n v11 (qO25 v46.o v10 (v14=v14∧True))))∧(v43=false→True∧True∧(v41=true→False)∧(v41=false→True∧True∧(v42=true→False)∧(v42=false→True∧True∧(v45=true→False)∧(v45=false→(SmallN n∧SmallO v37∧True)∧qN0 n v11 (qN24 n v11 ([]=v10.records∧[]=v10.messages∧[]=v10.ready∧[]=v10.lost∧v14=v14∧True))))))))))))) (by kernel_rfl) ?_
 simp only [qN0,qN24,qO25,imp_self,implies_true,true_and,and_true,zae,zag,notF]
 have k0:Few 50000 (zah n):=hf.mono (by decide)
 have kf:=hf.fall m.term
 obtain ⟨b1,b2,b3,b4,b5⟩:=(hf.sn (by decide)).ls
 have hm0:mayM n m=mayM (zah n).n m:=rfl
 rcases hk with hk | hk
 ·have d1:(m.kind==1)=false:=by rw [hk];rfl
  have d2:(m.kind==2)=true:=by rw [hk];rfl
  simp only [qN0,qN24,qO25,d1,d2,Bool.true_eq_false,Bool.false_eq_true,false_implies,true_implies,forall_const,true_and,and_true,imp_self]
  refine ⟨⟨hf.sn (by decide),hr⟩,fun h=>absurd h (by decide),fun _=>⟨⟨b1,b2,b3,b4,hm⟩,fun h=>?_,fun h=>⟨fun g=>(by first | trivial | simpa using g),fun g=>?_,fun g=>?_⟩⟩⟩
  ·have h:mayM n m=false:=by simpa using h
   have e:zaW n m=zah n:=by rw [zaW,if_neg (by rw [h];decide)]
   rw [e]
   refine ⟨⟨k0.sn (by decide),k0.so (by decide)⟩,?_⟩
   repeat' apply And.intro
   all_goals rfl
  ·have h:mayM n m=true:=by simpa using h
   have hfb:zcA n m=true:=by rw [zcA,d2];exact g
   have e:zaW n m=zaG (za5 (zah n) m.term) m:=by rw [zaW,if_pos h,if_pos hk,zaX,if_pos hfb]
   have k1:=kf.pb m (by decide)
   rw [e]
   refine ⟨hf.mono (by decide),kf.mono (by decide),⟨k1.sn (by decide),k1.so (by decide)⟩,?_⟩
   repeat' apply And.intro
   all_goals rfl
  ·have h:mayM n m=true:=by simpa using h
   have hfb:zcA n m=false:=by rw [zcA,d2];exact g
   have e:zaW n m=zaG (zah n) m:=by rw [zaW,if_pos h,if_pos hk,zaX,if_neg (by rw [hfb];decide)]
   have k1:=k0.pb m (by decide)
   rw [e]
   refine ⟨k0.mono (by decide),⟨k1.sn (by decide),k1.so (by decide)⟩,?_⟩
   repeat' apply And.intro
   all_goals rfl
 ·have d1:(m.kind==1)=false:=by rw [hk];rfl
  have d2:(m.kind==2)=false:=by rw [hk];rfl
  have d3:(m.kind==3)=false:=by rw [hk];rfl
  have d4:(m.kind==4)=true:=by rw [hk];rfl
  simp only [qN0,qN24,qO25,d1,d2,d3,d4,Bool.true_eq_false,Bool.false_eq_true,false_implies,true_implies,forall_const,true_and,and_true,imp_self]
  refine ⟨⟨hf.sn (by decide),hr⟩,fun h=>absurd h (by decide),fun _=>⟨⟨b1,b2,b3,b4,hm⟩,fun h=>?_,fun h=>⟨fun g=>(by first | trivial | simpa using g),fun g=>?_,fun g=>?_⟩⟩⟩
  ·have h:mayM n m=false:=by simpa using h
   have e:zaW n m=zah n:=by rw [zaW,if_neg (by rw [h];decide)]
   rw [e]
   refine ⟨⟨k0.sn (by decide),k0.so (by decide)⟩,?_⟩
   repeat' apply And.intro
   all_goals rfl
  ·have h:mayM n m=true:=by simpa using h
   have hfb:zcA n m=true:=by rw [zcA,d2];exact g
   have e:zaW n m=zaY (za5 (zah n) m.term) m:=by rw [zaW,if_pos h,if_neg (by rw [hk];decide),zaX,if_pos hfb]
   have k1:=kf.vt m (by decide)
   rw [e]
   refine ⟨hf.mono (by decide),kf.mono (by decide),⟨k1.sn (by decide),k1.so (by decide)⟩,?_⟩
   repeat' apply And.intro
   all_goals rfl
  ·have h:mayM n m=true:=by simpa using h
   have hfb:zcA n m=false:=by rw [zcA,d2];exact g
   have e:zaW n m=zaY (zah n) m:=by rw [zaW,if_pos h,if_neg (by rw [hk];decide),zaX,if_neg (by rw [hfb];decide)]
   have k1:=k0.vt m (by decide)
   rw [e]
   refine ⟨k0.mono (by decide),⟨k1.sn (by decide),k1.so (by decide)⟩,?_⟩
   repeat' apply And.intro
   all_goals rfl
theorem zpu (n:Node) (m:Message) (hf:Few 40000 (zah n)) (hm:SmallM m) (hk:m.kind=2∨m.kind=4):FnC Tryz.prog 29 [dNode.can n,dMessage.can m] (refO (zbA n m).1.n (zbA n m).1.o (zbA n m).2) D3d:=by
 unfold zbA
 cases hr:zak n
 ·exact ze4 n m (hf.sn (by decide)) hr
 ·exact zgF n m hf hm hr hk
def zqm:Ent:=ent2 29 dNode dMessage fun n m=>([Few 40000 (zah n),SmallM m,m.kind=2∨m.kind=4],refO (zbA n m).1.n (zbA n m).1.o (zbA n m).2,D3d)
theorem znu:zaf Tryz.prog zqm:=zav (fnB Tryz.func29 (by decide) rfl) fun n m h=>zpu n m (h _ (by simp)) (h _ (by simp)) (h _ (by simp))
def zdc (n:Node) (m:Message):Step:=if mayM n m then za1 (zaX n m) m else zah n
noncomputable def tabHm:List Ent:=[zkN,zbh,zqe,zqo,zig,eEnd]
theorem zrm:∀ e∈tabHm,zaf Tryz.prog e:=zaa zcg (zaa zaD (zaa zfe (zaa zee (zaa zfP (zaa zdF zad)))))
theorem zfK (n:Node) (t:Int):(za5 (zah n) t).o.ready=[]:=by
 unfold za5 zcj
 split<;>rfl
theorem zpt (n:Node) (m:Message) (hf:Few 20000 (zah n)) (hm:SmallM m) (hr:zak n=true) (hk:m.kind=6):FnC Tryz.prog 29 [dNode.can n,dMessage.can m] (refO (zdc n m).n (zdc n m).o 0) D3d:=by
 refine FnG.of_vc (zaj zrm fun _=>none) Tryz.func29 rfl (by decide) rfl 300 (p:=fun (V:List PE→Prop)=>let v0:=m.kind;let v10:=Step.n (zdc n m);let v11:=Step.o (zdc n m);let v19:=(0:Int);let v37:=Out.mk [] [] [] [];let v38:=Step.mk n v37;let v39:=v0==1;let v40:=v0==2;let v41:=v0==7;let v42:=v0==4;let v43:=v0==5;let v44:=v0==3;let v45:=v0==6;let v46:=za1 v38 m;let v47:=za5 v38 m.term;let v54:=decide (m.term>n.kept.term);let v58:=za1 v47 m;let v67:=zac v54 (v0 != 1) false;let v68:=zac v67 (!zac v40 m.ok false) false;True∧(SmallN n∧zak n=true∧True)∧True∧True∧((v19 != v19)=true→True∧qN0 zeroN v10 (qN24 zeroN v10 (qO25 outZ v11 (v19=v19∧True))))∧((v19 != v19)=false→(n.kept.entries.length≤17592186044416∧n.yes.length≤17592186044416∧n.peers.length≤17592186044416∧n.reads.length≤17592186044416∧SmallM m∧True)∧True∧((!mayM n m)=true→(SmallN n∧SmallO v37∧True)∧qN0 n v10 (qN24 n v10 ([]=v11.records∧[]=v11.messages∧[]=v11.ready∧[]=v11.lost∧v19=v19∧True)))∧((!mayM n m)=false→((v54=true→v54=true)∧(v54=true→v54=true)∧(v54=true→v54=true)∧(v67=true→v67=true)∧(v67=true→v67=true)∧(v67=true→v67=true)∧((v67&&v40)=true→(v67&&v40)=true)∧(v67=true→v67=true)∧(v67=true→v40=true→(v67&&v40)=true)∧(v67=true→v67=true)∧(v67=true→v67=true)∧True)∧True∧(v68=true→(Few 70000 v38∧True)∧True∧True∧True∧(v39=true→False)∧(v39=false→True∧True∧(v40=true→False)∧(v40=false→True∧True∧(v44=true→False)∧(v44=false→True∧True∧(v42=true→False)∧(v42=false→True∧True∧(v43=true→False)∧(v43=false→True∧True∧(v45=true→(Few 30000 v47∧v47.o.ready.length≤9000∧True)∧(SmallN v58.n∧SmallO v58.o∧True)∧qN0 v58.n v10 (qN24 v58.n v10 (qO25 v58.o v11 (v19=v19∧True))))∧(v45=false→True∧True∧(v41=true→False)∧(v41=false→(SmallN v47.n∧SmallO v47.o∧True)∧qN0 v47.n v10 (qN24 v47.n v10 (qO25 v47.o v11 (v19=v19∧True)))))))))))∧(v68=false→True∧True∧True∧(v39=true→False)∧(v39=false→True∧True∧(v40=true→False)∧(v40=false→True∧True∧(v44=true→False)∧(v44=false→True∧True∧(v42=true→False)∧(v42=false→True∧True∧(v43=true→False)∧(v43=false→True∧True∧(v45=true→(Few 30000 v38∧(0:Nat)≤9000∧True)∧(SmallN v46.n∧SmallO v46.o∧True)∧qN0 v46.n v10 (qN24 v46.n v10 (qO25 v46.o v11 (v19=v19∧True))))∧(v45=false→True∧True∧(v41=true→False)∧(v41=false→(SmallN n∧SmallO v37∧True)∧qN0 n v10 (qN24 n v10 ([]=v11.records∧[]=v11.messages∧[]=v11.ready∧[]=v11.lost∧v19=v19∧True))))))))))))) (by kernel_rfl) ?_
 simp only [qN0,qN24,qO25,imp_self,implies_true,true_and,and_true,zae,zag,notF]
 have k0:Few 20000 (zah n):=hf
 have kf:=hf.fall m.term
 obtain ⟨b1,b2,b3,b4,b5⟩:=(hf.sn (by decide)).ls
 have d1:(m.kind==1)=false:=by rw [hk];rfl
 have d2:(m.kind==2)=false:=by rw [hk];rfl
 have d3:(m.kind==3)=false:=by rw [hk];rfl
 have d4:(m.kind==4)=false:=by rw [hk];rfl
 have d5:(m.kind==5)=false:=by rw [hk];rfl
 have d6:(m.kind==6)=true:=by rw [hk];rfl
 simp only [qN0,qN24,qO25,d1,d2,d3,d4,d5,d6,Bool.true_eq_false,Bool.false_eq_true,false_implies,true_implies,forall_const,true_and,and_true,imp_self]
 refine ⟨⟨hf.sn (by decide),hr⟩,fun h=>absurd h (by decide),fun _=>⟨⟨b1,b2,b3,b4,hm⟩,fun h=>?_,fun h=>⟨fun g=>(by first | trivial | simpa using g),fun g=>?_,fun g=>?_⟩⟩⟩
 ·have h:mayM n m=false:=by simpa using h
  have e:zdc n m=zah n:=by rw [zdc,if_neg (by rw [h];decide)]
  rw [e]
  refine ⟨⟨k0.sn (by decide),k0.so (by decide)⟩,?_⟩
  repeat' apply And.intro
  all_goals rfl
 ·have h:mayM n m=true:=by simpa using h
  have hfb:zcA n m=true:=by rw [zcA,d2];exact g
  have e:zdc n m=za1 (za5 (zah n) m.term) m:=by rw [zdc,if_pos h,zaX,if_pos hfb]
  have k1:=kf.matched m
  rw [e]
  refine ⟨hf.mono (by decide),⟨kf.mono (by decide),by show (za5 (zah n) m.term).o.ready.length≤_;rw [zfK];decide⟩,⟨k1.sn (by decide),k1.so (by decide)⟩,?_⟩
  repeat' apply And.intro
  all_goals rfl
 ·have h:mayM n m=true:=by simpa using h
  have hfb:zcA n m=false:=by rw [zcA,d2];exact g
  have e:zdc n m=za1 (zah n) m:=by rw [zdc,if_pos h,zaX,if_neg (by rw [hfb];decide)]
  have k1:=k0.matched m
  rw [e]
  refine ⟨⟨k0.mono (by decide),Nat.zero_le _⟩,⟨k1.sn (by decide),k1.so (by decide)⟩,?_⟩
  repeat' apply And.intro
  all_goals rfl
def zps (n:Node) (m:Message):Step:=if m.kind=6 then zdc n m else zaW n m
def zdy (n:Node) (m:Message):Step×Int:=if zak n then (zps n m,0) else (⟨zeroN,outZ⟩,1)
theorem zsd (n:Node) (m:Message) (hf:Few 20000 (zah n)) (hm:SmallM m) (hk:m.kind=2∨m.kind=4∨m.kind=6):FnC Tryz.prog 29 [dNode.can n,dMessage.can m] (refO (zdy n m).1.n (zdy n m).1.o (zdy n m).2) D3d:=by
 unfold zdy
 cases hr:zak n
 ·exact ze4 n m (hf.sn (by decide)) hr
 ·rw [if_pos rfl,zps]
  by_cases h6:m.kind=6
  ·rw [if_pos h6];exact zpt n m hf hm hr h6
  ·rw [if_neg h6];exact zgF n m (hf.mono (by decide)) hm hr (by omega)
def ztE:Ent:=ent2 29 dNode dMessage fun n m=>([Few 20000 (zah n),SmallM m,m.kind=2∨m.kind=4∨m.kind=6],refO (zdy n m).1.n (zdy n m).1.o (zdy n m).2,D3d)
theorem zql:zaf Tryz.prog ztE:=zav (fnB Tryz.func29 (by decide) rfl) fun n m h=>zsd n m (h _ (by simp)) (h _ (by simp)) (h _ (by simp))
end Go.Proofs.YteabcgkjbnecaaaGreat
namespace Go.Proofs.YteabcgkjbnecaaaGreat
open Go.RowKit Go.ChangeShapes Go.WideShapes Go.Deep
structure Gone (n x:Node):Prop where
 good:Good2 x
 fwd:Fwd n x
theorem Gone.of {n m x:Node} (h:Gone m x) (hf:Fwd n m):Gone n x:=⟨h.good,hf.trans h.fwd⟩
structure Near (n:Node):Prop where
 term:n.kept.term≤800000000
 last:n.kept.snap.index+n.kept.entries.length≤800000000
 round:n.round≤800000000
 len:n.kept.entries.length≤8000
theorem zcb {n:Node} (h:n.role≠4):zcK n=(decide (n.peers=[])&&decide (n.reads=[])):=by rw [zcK,if_neg h]
theorem zcS {n:Node} (h:n.role≠4) (hr:zcK n=true):n.peers=[]∧n.reads=[]:=by
 rw [zcb h] at hr
 simpa using hr
theorem zu1 (x:Int):isC [x]=true:=by simp [isC]
theorem zkz:isC []=true:=by simp [isC]
theorem zlE {s:Step} {role:Int} (h:Core s.n):Core (runS s role).n:=
 ⟨h.id,h.len,h.on,h.term,h.vote,h.round,⟨Int.le_refl _,by show (0:Int)≤_;decide⟩,h.last,⟨Int.le_refl _,by show (0:Int)≤_;decide⟩,h.lo,h.hi,zu1 _,fun y hy=>by
  have:y∈[s.n.id]:=hy
  rw [List.mem_singleton] at this;subst this;exact h.id,h.confs⟩
theorem zog (s:Step) (role:Int):Fwd s.n (runS s role).n:=Fwd.of_kept rfl rfl (Int.le_refl _)
theorem ziD {s:Step} (h:Core s.n) (hl:s.n.kept.entries.length<9000) (hi:s.n.kept.snap.index+s.n.kept.entries.length<900000000) (hr:s.n.reads.length≤100):Gone s.n (zeu s).n:=by
 have hid:=h.id
 have k1:Core (ledS s).n:=⟨h.id,h.len,h.on,h.term,h.vote,h.round,⟨by show 0≤s.n.id;omega,by show s.n.id≤_;omega⟩,h.last,⟨Int.le_refl _,by show (0:Int)≤_;decide⟩,h.lo,h.hi,zkz,fun y hy=>(by cases hy),h.confs⟩
 have hk:cfOk zgc:=fun e=>absurd (show (1:Int)=2 from e) (by decide)
 have k2:=zfa k1 hl hi hk
 have k3:=zdr k2
 have hb:=(zcY h.on).1
 have hp:zbp (layS (ledS s) zgc).n=true:=by
  refine ziR k1 hl hi hk (by show (1:Int)≠2;decide) ?_ hr fun p hp=>?_
  ·show ((zam s.n).map (zd6 s)).map (·.node)=_
   rw [List.map_map,show ((fun p:Peer=>p.node)∘zd6 s)=id from rfl,List.map_id]
   show zam s.n=zay (allC (za0 (ledS s).n)) _
   rfl
  ·have hp:p∈(zam s.n).map (zd6 s):=hp
   obtain ⟨o,_,rfl⟩:=List.mem_map.1 hp
   have e:(zd6 s o).next=s.n.kept.snap.index+s.n.kept.entries.length+1:=by
    show IntKind.i64.wrap ((zal s.n.kept).1+1)=_
    rw [zau h.on,zbu ⟨by omega,by omega⟩]
   have hro:=h.round
   unfold zbK
   rw [e,zbu (n:=s.n.kept.snap.index+s.n.kept.entries.length+1-1) ⟨by omega,by omega⟩]
   simp only [Bool.and_eq_true,decide_eq_true_eq,wi_iff]
   refine ⟨⟨⟨⟨Int.le_refl _,?_⟩,?_⟩,?_⟩,Int.le_refl _,hro.1⟩
   ·show (0:Int)≤s.n.kept.snap.index+s.n.kept.entries.length+1;omega
   ·show (0:Int)<_;omega
   ·show s.n.kept.snap.index+s.n.kept.entries.length+1-1≤s.n.kept.snap.index+s.n.kept.entries.length+1;omega
 have f1:Fwd s.n (ledS s).n:=Fwd.of_kept rfl rfl (Int.le_refl _)
 refine ⟨⟨k3.1,?_,?_⟩,f1.trans ((zkw k1 hl).trans k3.2)⟩
 ·have e:(za7 (layS (ledS s) zgc)).n.role=4:=by rcases zio (layS (ledS s) zgc) with e | ⟨c,_,_,e⟩<;>rw [e]<;>rfl
  have e':(zeu s).n.role=4:=e
  exact ⟨by rw [e'];decide,by rw [e'];decide⟩
 ·show zcK (za7 (layS (ledS s) zgc)).n=true
  rw [zdq,zcK,if_pos (show (layS (ledS s) zgc).n.role=4 from rfl)];exact hp
theorem zgq {s:Step} (h:Core s.n) (ht:s.n.kept.term<900000000) (hl:s.n.kept.entries.length<9000) (hi:s.n.kept.snap.index+s.n.kept.entries.length<900000000) (hp:s.n.peers=[]∧s.n.reads=[]):Gone s.n (zbO s).n:=by
 have h0:=h.term
 have hid:=h.id
 have e:IntKind.i64.wrap (s.n.kept.term+1)=s.n.kept.term+1:=zbu ⟨by omega,by omega⟩
 have k1:Core (stand1 s).n:=zlE (zfn h (by rw [e];omega) ⟨by omega,by omega⟩)
 have f1:Fwd s.n (stand1 s).n:=(zhn (.inl (by rw [e];omega))).trans (zog _ _)
 unfold zbO
 split
 ·refine (ziD k1 hl hi ?_).of f1
  show s.n.reads.length≤100
  rw [hp.2];decide
 ·refine ⟨⟨k1,⟨by show (1:Int)≤3;decide,by show (3:Int)≤4;decide⟩,?_⟩,f1⟩
  have e:zcK (stand1 s).n=(decide (s.n.peers=[])&&decide (s.n.reads=[])):=zcb (by show (3:Int)≠4;decide)
  show zcK (stand1 s).n=true
  rw [e,hp.1,hp.2];rfl
theorem zuG (n:Node) (h:0≤n.elapsed∧n.elapsed≤1000):0≤elap n∧elap n≤1000:=by
 have e:IntKind.i64.wrap (n.elapsed+1)=n.elapsed+1:=zbu ⟨by omega,by omega⟩
 unfold elap
 rw [e];split<;>omega
theorem Good2.elapsed {n:Node} {e:Int} (h:Good2 n) (he:0≤e∧e≤1000):Good2 {n with elapsed:=e}:=
 ⟨⟨h.core.id,h.core.len,h.core.on,h.core.term,h.core.vote,h.core.round,h.core.lead,h.core.last,he,h.core.lo,h.core.hi,h.core.yes,h.core.yesn,h.core.confs⟩,h.role,h.rest⟩
theorem znJ {n:Node} (h:Good2 n) (hn:Near n):Gone n (zcI n).n:=by
 have he:=zuG n h.core.elapsed
 have g1:Gone n (tick1 n).n:=⟨h.elapsed he,Fwd.of_kept rfl rfl (Int.le_refl _)⟩
 unfold zcI
 split
 ·split
  ·exact ⟨h.elapsed ⟨Int.le_refl _,by decide⟩,Fwd.of_kept rfl rfl (Int.le_refl _)⟩
  ·exact g1
 rename_i hr
 have hp:=zcS hr h.rest
 split
 ·exact g1
 have k1:Core (runS (tick1 n) 2).n:=zlE g1.good.core
 have f1:Fwd n (runS (tick1 n) 2).n:=g1.fwd.trans (zog _ _)
 have a1:=hn.term
 have a2:=hn.len
 have a3:=hn.last
 split
 ·exact (zgq k1 (by show n.kept.term<_;omega) (by show n.kept.entries.length<_;omega) (by show n.kept.snap.index+(n.kept.entries.length:Int)<_;omega) hp).of f1
 ·refine ⟨⟨k1,⟨by show (1:Int)≤2;decide,by show (2:Int)≤4;decide⟩,?_⟩,f1⟩
  have e:zcK (runS (tick1 n) 2).n=(decide (n.peers=[])&&decide (n.reads=[])):=zcb (by show (2:Int)≠4;decide)
  show zcK (runS (tick1 n) 2).n=true
  rw [e,hp.1,hp.2];rfl
theorem zj3 {s:Step} {t:Int} (h:Core s.n) (ht:0≤t∧t≤900000000):Gone s.n (za5 s t).n∧(za5 s t).n.role=1:=by
 have e:(za5 s t).n={(zcj s t).n with role:=1,yes:=[],peers:=[],reads:=[]}:=rfl
 have k1:Core (zcj s t).n∧Fwd s.n (zcj s t).n:=by
  unfold zcj
  split
  ·rename_i hlt
   have a:=zfn (s:=s) (t:=t) (v:=0) h ht ⟨Int.le_refl _,by decide⟩
   refine ⟨⟨a.id,a.len,a.on,a.term,a.vote,a.round,⟨Int.le_refl _,by show (0:Int)≤_;decide⟩,a.last,a.elapsed,a.lo,a.hi,a.yes,a.yesn,a.confs⟩,?_⟩
   exact (zhn (t:=t) (v:=0) (.inl hlt)).trans (Fwd.of_kept rfl rfl (Int.le_refl _))
  ·exact ⟨h,Fwd.refl _⟩
 obtain ⟨c,f⟩:=k1
 refine ⟨⟨⟨⟨c.id,c.len,c.on,c.term,c.vote,c.round,c.lead,c.last,c.elapsed,c.lo,c.hi,zkz,fun y hy=>(by cases hy),c.confs⟩,⟨by show (1:Int)≤1;decide,by show (1:Int)≤4;decide⟩,?_⟩,f.trans (Fwd.of_kept rfl rfl (Int.le_refl _))⟩,rfl⟩
 rw [zcb (by show (1:Int)≠4;decide)];rfl
theorem zqW {l:List Int} {v:Int} (h:isC l=true) (hl:∀ y∈l,1≤y∧y≤5) (hv:1≤v∧v≤5):isC (zcm l v)=true∧∀ y∈zcm l v,1≤y∧y≤5:=by
 unfold zcm
 rw [if_pos h]
 split
 ·rename_i h16
  refine ⟨isC_iff.2 ⟨zcc (isC_iff.1 h).1,h16⟩,fun y hy=>?_⟩
  rcases putL_mem.1 hy with rfl | hy
  ·exact hv
  ·exact hl y hy
 ·exact ⟨zkz,fun y hy=>by cases hy⟩
theorem zlj {s:Step} {m:Message} {role term:Int} (h:Good2 s.n) (hf:1≤m.from_∧m.from_≤5):Gone s.n (yesR s m role term).n:=by
 unfold yesR
 split
 ·have c:=h.core
  have w:=zqW c.yes c.yesn hf
  exact ⟨⟨⟨c.id,c.len,c.on,c.term,c.vote,c.round,c.lead,c.last,c.elapsed,c.lo,c.hi,w.1,w.2,c.confs⟩,h.role,h.rest⟩,Fwd.of_kept rfl rfl (Int.le_refl _)⟩
 ·exact ⟨h,Fwd.refl _⟩
theorem zix {s:Step} {m:Message} {role term:Int} (h:yesB s m role term=true):s.n.role=role∧(yesR s m role term).n.role=role∧(yesR s m role term).n.peers=s.n.peers∧(yesR s m role term).n.reads=s.n.reads∧(yesR s m role term).n.kept=s.n.kept:=by
 unfold yesB at h
 rw [Bool.and_eq_true] at h
 have hr:s.n.role=role:=by
  have:=h.1
  unfold zhl at this
  simp only [Bool.and_eq_true,beq_iff_eq] at this
  exact this.1.1
 unfold yesR
 rw [if_pos h.1]
 exact ⟨hr,hr,rfl,rfl,rfl⟩
structure Room (n:Node):Prop where
 term:n.kept.term<900000000
 len:n.kept.entries.length<9000
 last:n.kept.snap.index+n.kept.entries.length<900000000
theorem zkl {s:Step} {m:Message} (h:Good2 s.n) (hf:1≤m.from_∧m.from_≤5) (hr:Room s.n):Gone s.n (zaG s m).n:=by
 have g:=zlj (m:=m) (role:=2) (term:=IntKind.i64.wrap (s.n.kept.term+1)) h hf
 unfold zaG
 split
 ·rename_i hy
  obtain ⟨e0,e1,e2,e3,e4⟩:=zix hy
  have hp:=zcS (by rw [e0];decide) h.rest
  exact (zgq g.good.core (by rw [e4];exact hr.term) (by rw [e4];exact hr.len) (by rw [e4];exact hr.last) ⟨by rw [e2];exact hp.1,by rw [e3];exact hp.2⟩).of g.fwd
 ·exact g
theorem zmJ {s:Step} {m:Message} (h:Good2 s.n) (hf:1≤m.from_∧m.from_≤5) (hr:Room s.n):Gone s.n (zaY s m).n:=by
 have g:=zlj (m:=m) (role:=3) (term:=s.n.kept.term) h hf
 unfold zaY
 split
 ·rename_i hy
  obtain ⟨e0,e1,e2,e3,e4⟩:=zix hy
  have hp:=zcS (by rw [e0];decide) h.rest
  exact (ziD g.good.core (by rw [e4];exact hr.len) (by rw [e4];exact hr.last) (by rw [e3,hp.2];decide)).of g.fwd
 ·exact g
theorem zmI {s:Step} {m:Message} (h:Good2 s.n) (hf:1≤m.from_∧m.from_≤5):Gone s.n (zcn s m).n:=by
 have g1:Gone s.n (zfo s m).n:=by
  unfold zfo
  split
  ·exact ⟨h.elapsed ⟨Int.le_refl _,by decide⟩,Fwd.of_kept rfl rfl (Int.le_refl _)⟩
  ·exact ⟨h,Fwd.refl _⟩
 show Gone s.n (zjY s m).n
 unfold zjY
 split
 ·rename_i hv
  simp only [Bool.and_eq_true,beq_iff_eq] at hv
  have e1:(zfo s m).n.kept=s.n.kept:=by unfold zfo;split<;>rfl
  have k:=zfn (s:=zfo s m) (t:=s.n.kept.term) (v:=m.from_) g1.good.core h.core.term ⟨by omega,by omega⟩
  refine ⟨⟨k,g1.good.role,g1.good.rest⟩,g1.fwd.trans (zhn (.inr ⟨by rw [e1],by rw [e1];exact hv.2⟩))⟩
 ·exact g1
end Go.Proofs.YteabcgkjbnecaaaGreat
