/- Parts of the proof, joined: the symbolic walk and what it is told of each function. Condition: as each theorem says. -/
import Derived.Test.YteabcgkjbnecaaaGreatJy4
set_option linter.unusedVariables false
set_option linter.unusedSimpArgs false
set_option linter.unusedSectionVars false
namespace Go.Proofs.YteabcgkjbnecaaaGreat
open Go.RowKit Go.ChangeShapes Go.WideShapes Go.Deep
set_option maxRecDepth 100000
theorem zjM (a b:List Int):FnC Tryz.prog 60 [dInts.can a,dInts.can b] (.bool (decide (a=b))) D2:=by
 refine FnC.g2 dInts dInts a b (fnB Tryz.func60 (by decide) rfl) fun ha hb=>?_
 refine FnG.of_vc (zah zad fun _=>none) Tryz.func60 rfl (by decide) rfl 300 (p:=fun (V:List PE→Prop)=>let v0:=(↑(a.length):Int) != (↑(b.length):Int);True∧True∧True∧(v0=true→True∧false=decide (a=b)∧True)∧(v0=false→True∧V [PE.b])) (by kernel_rfl) ?_
 simp only [true_and,and_true,imp_self]
 refine ⟨fun h=>?_,fun h=>?_⟩
 ·have:a≠b:=fun e=>by subst e;simp at h
  simp [this]
 have hab:a.length=b.length:=by simp at h;omega
 refine LoopG.head (zah zad fun _=>none) 0 (A:=Nat) (fun j=>j≤a.length∧∀ i,i<j→a.getD i 0=b.getD i 0) (fun j=>[(13,.int .i64 j)]) (fun j=>[]) (fun j=>a.length-j) 0 ⟨Nat.zero_le _,fun i h=>absurd h (by omega)⟩ (p0:=let v0:=(↑(a.length):Int);(0:Int)=(↑(0:Nat):Int)∧v0=v0∧a=a∧b=b∧True) (by kernel_rfl) ?_ 300 (p:=fun (x:Nat) (V:List PE→Prop)=>let v0:=(↑x:Int);let v1:=(↑(a.length):Int);let v2:=List.getD a x (0:Int) != List.getD b x (0:Int);let v3:=decide (v0<v1);True∧True∧(v3=true→True∧((0:Int)≤v0∧v0<v1∧(0:Int)≤v0∧v0<(↑(b.length):Int)∧True)∧True∧(v2=true→True∧false=decide (a=b)∧True)∧(v2=false→True∧V [PE.a,PE.b]))∧(v3=false→True∧true=decide (a=b)∧True)) (by intro x;kernel_rfl) ?_
 ·simp
 ·rintro j ⟨hj,h0⟩
  have hkl:=ha.1
  simp only [imp_self,implies_true,true_and,and_true,decide_eq_true_eq,decide_eq_false_iff_not]
  refine ⟨fun h6=>⟨by omega,fun h7=>?_,fun h7=>?_⟩,fun h6=>?_⟩
  ·have:a≠b:=fun e=>by subst e;simp at h7
   simp [this]
  ·refine Back.mk (j+1) ⟨by omega,fun i hi=>?_⟩ (by omega) (p0:=let v0:=(↑(a.length):Int);IntKind.wrap IntKind.i64 ((↑j:Int)+(1:Int))=(↑(j+(1:Nat)):Int)∧v0=v0∧a=a∧b=b∧True) (by kernel_rfl) ?_
   ·by_cases hij:i=j
    ·subst hij;simpa using h7
    ·exact h0 i (by omega)
   ·simp [za8 (i:=j) (by omega)]
  ·have:a=b:=zb7 hab fun i hi=>h0 i (by omega)
   simp [this]
def eEqS:Ent:=ent2 60 dInts dInts fun a b=>([],.bool (decide (a=b)),D2)
theorem zwj:zae Tryz.prog eEqS:=zar (zjM [] []).1 fun a b _=>zjM a b
def wi (m x:Int):Bool:=decide (0≤x)&&decide (x≤m)
theorem zdD (m x:Int):offB m x=!wi m x:=by
 unfold offB wi
 by_cases h1:0≤x<;>by_cases h2:x≤m<;>simp [h1,h2]<;>omega
def zcr (last round:Int) (p:Peer):Bool:=wi last p.match_&&decide (p.next>p.match_)&&decide (IntKind.i64.wrap (p.next-1)≤last)&&wi round p.round
def zb6 (n:Node):Bool:=decide (n.peers.map (·.node)=za7 n)&&decide (n.reads.length≤100)&&n.peers.all (zcr (zaq n.kept).1 n.round)
def zd4 (k:Kept):Bool:=k.entries.all (fun e=>!(e.kind==2)||mayC e.config)&&mayC k.snap.config
def zvy (n:Node):Bool:=
 wi 4 (IntKind.i64.wrap (n.id-1))&&decide (1≤n.role)&&decide (n.role≤4)&&decide (n.kept.entries.length≤9000)&&onC n.kept &&
 wi 900000000 n.kept.term&&wi 900000000 n.kept.vote&&wi 900000000 n.round&&wi 900000000 n.lead&&wi 900000000 (zaq n.kept).1&&wi 1000 n.elapsed &&
 decide (n.kept.snap.index≤n.commit)&&decide (n.commit≤(zaq n.kept).1)&&isC n.yes&&n.yes.all (fun y=>wi 4 (IntKind.i64.wrap (y-1)))
def zap (n:Node):Bool:=zvy n&&zd4 n.kept&&(if n.role=4 then zb6 n else decide (n.peers=[])&&decide (n.reads=[]))
def cfE (e:Entry):Bool:=!(e.kind==2)||mayC e.config
def okA0 (n:Node):Bool:=
 wi 4 (IntKind.i64.wrap (n.id-1))&&decide (1≤n.role)&&decide (n.role≤4)&&decide (n.kept.entries.length≤9000)&&onC n.kept &&
 wi 900000000 n.kept.term&&wi 900000000 n.kept.vote&&wi 900000000 n.round&&wi 900000000 n.lead&&wi 900000000 (zaq n.kept).1&&wi 1000 n.elapsed &&
 decide (n.kept.snap.index≤n.commit)&&decide (n.commit≤(zaq n.kept).1)&&isC n.yes&&mayC n.kept.snap.config
theorem zes {α:Type} {d:α} {l:List α} {j:Nat} (f:α→Bool) (h:j<l.length):(l.take (j+1)).all f=((l.take j).all f&&f (l.getD j d)):=by
 rw [zam (d:=d) h,List.all_append];simp
theorem zs7 (n:Node) (hl:n.peers.length+n.reads.length≤9000000000):zap n=((okA0 n&&n.kept.entries.all cfE&&n.yes.all (fun y=>wi 4 (IntKind.i64.wrap (y-1)))&&n.peers.all (zcr (zaq n.kept).1 n.round)) &&
  ((!(n.role==4)||decide (n.peers.map (fun x=>x.node)=za7 n))&&((n.role==4)||!decide (IntKind.i64.wrap ((n.peers.length:Int)+(n.reads.length:Int))>0))&&!decide ((n.reads.length:Int)>100))):=by
 have hc:zd4 n.kept=(n.kept.entries.all cfE&&mayC n.kept.snap.config):=rfl
 rw [zap,hc,zvy,okA0,zb3 (n:=(n.peers.length:Int)+(n.reads.length:Int)) ⟨by omega,by omega⟩]
 have h100:(!decide ((n.reads.length:Int)>100))=decide (n.reads.length≤100):=by rw [Bool.eq_iff_iff];simp;omega
 rw [h100]
 have ew:(!decide ((n.peers.length:Int)+(n.reads.length:Int)>0))=(decide (n.peers=[])&&decide (n.reads=[])):=by
  rw [Bool.eq_iff_iff]
  simp only [Bool.not_eq_true',decide_eq_false_iff_not,Bool.and_eq_true,decide_eq_true_eq,← List.length_eq_zero_iff]
  omega
 rw [ew]
 by_cases hr:n.role=4
 ·have hr2:(n.role==4)=true:=by simpa using hr
  rw [if_pos hr,hr2,zb6]
  simp only [Bool.not_true,Bool.false_or,Bool.true_or,Bool.and_true]
  generalize mayC n.kept.snap.config=x1
  generalize n.kept.entries.all cfE=x2
  generalize n.peers.all (zcr (zaq n.kept).1 n.round)=x3
  generalize n.yes.all (fun y=>wi 4 (IntKind.i64.wrap (y-1)))=x4
  generalize decide (n.reads.length≤100)=x5
  simp only [Bool.and_assoc]
  cases x1<;>cases x2<;>cases x3<;>cases x4<;>cases x5<;>simp [Bool.and_assoc]
 ·have hr2:(n.role==4)=false:=by simpa using hr
  rw [if_neg hr,hr2]
  by_cases hp:n.peers=[]
  ·by_cases hq:n.reads=[]
   ·rw [hp,hq]
    generalize mayC n.kept.snap.config=x1
    generalize n.kept.entries.all cfE=x2
    generalize n.yes.all (fun y=>wi 4 (IntKind.i64.wrap (y-1)))=x4
    cases x1<;>cases x2<;>cases x4<;>simp [Bool.and_assoc]
   ·simp [hq]
  ·simp [hp]
def errC (n:Node):Int:=if zap n then 0 else 1
noncomputable def tabP:List Ent:=[zkg,zkN,zlb,eIs,zkY,eOth,eEqS]
theorem zhD:∀ e∈tabP,zae Tryz.prog e:=zaa zej (zaa zhj (zaa zhv (zaa zxZ (zaa zhr (zaa zqR (zaa zwj zad))))))
theorem zhy (n:Node) (hn:SmallN n):FnC Tryz.prog 18 [dNode.can n] (.int .i64 (errC n)) D2:=by
 refine FnC.g1 dNode n (fnB Tryz.func18 (by decide) rfl) fun hk=>?_
 refine FnG.of_vc (zah zhD fun _=>none) Tryz.func18 rfl (by decide) rfl 300 (p:=fun (V:List PE→Prop)=>let v1:=n.kept;let v5:=Prod.fst (zaq v1);let v7:=[IntKind.wrap IntKind.i64 (n.id-(1:Int))];let v8:=!List.any v7 (offB (4:Int));let v9:=zac v8 (decide (n.role≥1)) false;let v10:=zac v9 (decide (n.role≤4)) false;let v11:=[v1.term]++[v1.vote]++[n.round]++[n.lead]++[v5];let v12:=zac v10 (decide ((↑(v1.entries.length):Int)≤9000)) false;let v13:=zac v12 (err (onC v1)==0) false;let v14:=zac v13 (!List.any v11 (offB (900000000:Int))) false;let v15:=zac v14 (!List.any [n.elapsed] (offB (1000:Int))) false;let v16:=zac v15 (decide (n.commit≥v1.snap.index)) false;let v17:=zac v16 (decide (n.commit≤v5)) false;True∧True∧(v7.length≤17592186044416∧(v8=true→v8=true)∧(v8=true→v8=true)∧(v8=true→v8=true)∧(v9=true→v9=true)∧(v9=true→v9=true)∧(v9=true→v9=true)∧(v10=true→v10=true)∧(v10=true→v10=true)∧(v10=true→v10=true)∧(v10=true→v10=true)∧(v10=true→v10=true)∧True)∧((v12=true→v12=true)∧(v12=true→v12=true)∧(v12=true→v12=true)∧(v12=true→v12=true)∧(v13=true→v13=true)∧(v13=true→v13=true)∧(v13=true→v13=true)∧(v13=true→v13=true)∧(v13=true→v13=true)∧(v13=true→v13=true)∧(v13=true→v11.length≤17592186044416)∧(v13=true→v13=true)∧(v13=true→v13=true)∧(v13=true→v13=true)∧(v13=true→v13=true)∧(v13=true→v13=true)∧(v13=true→v13=true)∧(v13=true→v13=true)∧(v14=true→v14=true)∧(v14=true→List.length [n.elapsed]≤17592186044416)∧(v14=true→v14=true)∧(v14=true→v14=true)∧(v14=true→v14=true)∧True)∧((v15=true→v15=true)∧(v15=true→v15=true)∧(v15=true→v15=true)∧(v15=true→v15=true)∧(v15=true→v15=true)∧(v15=true→v15=true)∧(v15=true→v15=true)∧(v16=true→v16=true)∧(v16=true→v16=true)∧(v16=true→v16=true)∧(v16=true→v16=true)∧(v17=true→v17=true)∧(v17=true→v17=true)∧(v17=true→v17=true)∧(zac v17 (isC n.yes) false=true→zac v17 (isC n.yes) false=true)∧(zac v17 (isC n.yes) false=true→zac v17 (isC n.yes) false=true)∧(zac v17 (isC n.yes) false=true→zac v17 (isC n.yes) false=true)∧(zac v17 (isC n.yes) false=true→zac v17 (isC n.yes) false=true)∧(zac v17 (isC n.yes) false=true→zaw v1.snap.config)∧(zac v17 (isC n.yes) false=true→zac v17 (isC n.yes) false=true)∧(zac v17 (isC n.yes) false=true→zac v17 (isC n.yes) false=true)∧True)∧True∧V []) (by kernel_rfl) ?_
 simp only [qN0,qN2,imp_self,implies_true,true_and,and_true,zaf,zag]
 refine ⟨by simp,⟨fun _=>by simp,fun _=>by simp⟩,fun _=>hn.k.2,?_⟩
 obtain ⟨okA,hA⟩:∃ b,b=okA0 n:=⟨_,rfl⟩
 refine LoopG.head (zah zhD fun _=>none) 0 (A:=Nat) (fun j=>j≤n.kept.entries.length) (fun j=>[(102,.int .i64 j),(5,.bool (okA&&(n.kept.entries.take j).all cfE))]) (fun _=>[]) (fun j=>n.kept.entries.length-j) 0 (Nat.zero_le _) (p0:=let v6:=n.kept;let v7:=v6.entries;let v17:=(0:Int);let v18:=Prod.fst (zaq v6);let v19:=(↑(v7.length):Int);v17=(↑(0:Nat):Int)∧zac (zac (zac (zac (zac (zac (zac (zac (zac (zac (!List.any [IntKind.wrap IntKind.i64 (n.id-(1:Int))] (offB (4:Int))) (decide (n.role≥1)) false) (decide (n.role≤4)) false) (decide (v19≤9000)) false) (err (onC v6)==v17) false) (!List.any ([v6.term]++[v6.vote]++[n.round]++[n.lead]++[v18]) (offB (900000000:Int))) false) (!List.any [n.elapsed] (offB (1000:Int))) false) (decide (n.commit≥v6.snap.index)) false) (decide (n.commit≤v18)) false) (isC n.yes) false) (errM (mayC v6.snap.config)==v17) false=(okA&&List.all (List.take (0:Nat) v7) cfE)∧v19=v19∧v7=v7∧v18=v18∧v17=v17∧qN0 n n (qN2 n n (n.reads=n.reads∧True))) (by kernel_rfl) ?_ 300 (p:=fun (x:Nat) (V:List PE→Prop)=>let v0:=n.kept.entries;let v1:=(↑x:Int);let v2:=(↑(v0.length):Int);let v3:=List.getD v0 x default;let v4:=okA&&List.all (List.take x v0) cfE;let v5:=v3.kind != 2;let v6:=decide (v1<v2);True∧True∧(v6=true→((0:Int)≤v1∧v1<v2∧True)∧((v4=true→v4=true)∧(v4=true→v4=true)∧(v4=true→v4=true)∧((v4&&!v5)=true→(v4&&!v5)=true)∧((v4&&!v5)=true→(v4&&!v5)=true)∧((v4&&!v5)=true→zaw v3.config)∧((v4&&!v5)=true→(v4&&!v5)=true)∧(v4=true→v4=true)∧(v4=true→v5=false→(v4&&!v5)=true)∧(v4=true→v4=true)∧True)∧True∧V [PE.a])∧(v6=false→True∧V [PE.b])) (by intro x;kernel_rfl) ?_
 ·have hb:∀ (b:Bool),(errM b==(0:Int))=b:=fun b=>by cases b<;>rfl
  have hb2:∀ (b:Bool),(err b==(0:Int))=b:=fun b=>by cases b<;>rfl
  have e1:(!List.any [IntKind.i64.wrap (n.id-1)] (offB 4))=wi 4 (IntKind.i64.wrap (n.id-1)):=by simp [zdD]
  have e2:(!List.any ([n.kept.term]++[n.kept.vote]++[n.round]++[n.lead]++[(zaq n.kept).1]) (offB 900000000))=(wi 900000000 n.kept.term&&wi 900000000 n.kept.vote&&wi 900000000 n.round&&wi 900000000 n.lead&&wi 900000000 (zaq n.kept).1):=by simp [zdD,Bool.and_assoc]
  have e3:(!List.any [n.elapsed] (offB 1000))=wi 1000 n.elapsed:=by simp [zdD]
  have e4:decide ((n.kept.entries.length:Int)≤9000)=decide (n.kept.entries.length≤9000):=by rw [Bool.eq_iff_iff,decide_eq_true_eq,decide_eq_true_eq];omega
  simp only [qN0,qN2,hb,hb2,e1,e2,e3,e4,hA,okA0,GE.ge,List.take_zero,List.all_nil,Bool.and_true,and_true,true_and,zaf]
  refine ⟨rfl,?_⟩
  have pb:∀ a b:Bool,zac a b false=(a&&b):=fun a b=>by cases a<;>rfl
  simp only [pb,Bool.and_assoc]
 rintro j hj
 have hkl:=hk.kept_entries.1
 simp only [qN0,qN2,imp_self,implies_true,true_and,and_true,decide_eq_true_eq,decide_eq_false_iff_not]
 have hb:∀ (b:Bool),(errM b==(0:Int))=b:=fun b=>by cases b<;>rfl
 have pb:∀ a b:Bool,zac a b false=(a&&b):=fun a b=>by cases a<;>rfl
 have pt:∀ a b:Bool,zac a true b=(a||b):=fun a b=>by cases a<;>rfl
 refine ⟨fun h6=>?_,fun h6=>?_⟩
 ·have hse:=hn.k.1.2 _ (za4 (d:=(default:Entry)) (show j<n.kept.entries.length by omega))
  refine ⟨by omega,⟨fun _=>hse,fun g1 g2=>by rw [g1,g2];rfl⟩,?_⟩
  refine Back.mk (j+1) (by omega) (by omega) (p0:=let v1:=n.kept.entries;let v11:=Prod.fst (zaq n.kept);let v12:=(↑(v1.length):Int);let v13:=List.getD v1 j default;IntKind.wrap IntKind.i64 ((↑j:Int)+(1:Int))=(↑(j+(1:Nat)):Int)∧zac (okA&&List.all (List.take j v1) cfE) (zac (v13.kind != 2) true (errM (mayC v13.config)==0)) false=(okA&&List.all (List.take (j+(1:Nat)) v1) cfE)∧v12=v12∧v1=v1∧v11=v11∧(0:Int)=0∧qN0 n n (qN2 n n (n.reads=n.reads∧True))) (by kernel_rfl) ?_
  simp only [qN0,qN2,true_and,and_true,za8 (i:=j) (by omega),hb,pb,pt]
  refine ⟨by omega,?_⟩
  rw [zes (d:=default) _ (by omega),cfE]
  simp only [bne,Bool.and_assoc]
 obtain rfl:j=n.kept.entries.length:=by omega
 rw [List.take_length]
 obtain ⟨okB,hB⟩:∃ b,n.kept.entries.all cfE=b:=⟨_,rfl⟩
 rw [hB]
 refine LoopG.head (zah zhD fun _=>none) 1 (A:=Nat) (fun j=>j≤n.yes.length) (fun j=>[(122,.int .i64 j),(5,.bool (okA&&okB&&(n.yes.take j).all (fun y=>wi 4 (IntKind.i64.wrap (y-1)))))]) (fun _=>[]) (fun j=>n.yes.length-j) 0 (Nat.zero_le _) (p0:=let v12:=Prod.fst (zaq n.kept);let v13:=(↑(n.yes.length):Int);(0:Int)=(↑(0:Nat):Int)∧(okA&&okB)=(okA&&okB&&List.all (List.take (0:Nat) n.yes) fun (y:Int)=>wi (4:Int) (IntKind.wrap IntKind.i64 (y-(1:Int))))∧v13=v13∧n.yes=n.yes∧v12=v12∧(0:Int)=0∧qN0 n n (qN2 n n (n.reads=n.reads∧True))) (by kernel_rfl) ?_ 300 (p:=fun (x:Nat) (V:List PE→Prop)=>let v0:=n.yes;let v1:=(↑x:Int);let v2:=(↑(v0.length):Int);let v3:=decide (v1<v2);True∧True∧(v3=true→((0:Int)≤v1∧v1<v2∧True)∧(((okA&&okB&&List.all (List.take x v0) fun (y:Int)=>wi (4:Int) (IntKind.wrap IntKind.i64 (y-(1:Int))))=true→(okA&&okB&&List.all (List.take x v0) fun (y:Int)=>wi (4:Int) (IntKind.wrap IntKind.i64 (y-(1:Int))))=true)∧((okA&&okB&&List.all (List.take x v0) fun (y:Int)=>wi (4:Int) (IntKind.wrap IntKind.i64 (y-(1:Int))))=true→List.length [IntKind.wrap IntKind.i64 (List.getD v0 x (0:Int)-(1:Int))]≤17592186044416)∧((okA&&okB&&List.all (List.take x v0) fun (y:Int)=>wi (4:Int) (IntKind.wrap IntKind.i64 (y-(1:Int))))=true→(okA&&okB&&List.all (List.take x v0) fun (y:Int)=>wi (4:Int) (IntKind.wrap IntKind.i64 (y-(1:Int))))=true)∧((okA&&okB&&List.all (List.take x v0) fun (y:Int)=>wi (4:Int) (IntKind.wrap IntKind.i64 (y-(1:Int))))=true→(okA&&okB&&List.all (List.take x v0) fun (y:Int)=>wi (4:Int) (IntKind.wrap IntKind.i64 (y-(1:Int))))=true)∧((okA&&okB&&List.all (List.take x v0) fun (y:Int)=>wi (4:Int) (IntKind.wrap IntKind.i64 (y-(1:Int))))=true→(okA&&okB&&List.all (List.take x v0) fun (y:Int)=>wi (4:Int) (IntKind.wrap IntKind.i64 (y-(1:Int))))=true)∧True)∧True∧V [PE.a])∧(v3=false→True∧True∧V [PE.b])) (by intro x;kernel_rfl) ?_
 ·simp
 rintro j hj
 have hkl:=hk.yes.1
 simp only [qN0,qN2,imp_self,implies_true,true_and,and_true,decide_eq_true_eq,decide_eq_false_iff_not]
 refine ⟨fun h6=>?_,fun h6=>?_⟩
 ·refine ⟨by omega,fun _=>by simp,?_⟩
  refine Back.mk (j+1) (by omega) (by omega) (p0:=let v1:=n.yes;let v10:=(1:Int);let v13:=Prod.fst (zaq n.kept);let v14:=(↑(v1.length):Int);IntKind.wrap IntKind.i64 ((↑j:Int)+v10)=(↑(j+(1:Nat)):Int)∧zac (okA&&okB&&List.all (List.take j v1) fun (y:Int)=>wi (4:Int) (IntKind.wrap IntKind.i64 (y-v10))) (!List.any [IntKind.wrap IntKind.i64 (List.getD v1 j (0:Int)-v10)] (offB (4:Int))) false=(okA&&okB&&List.all (List.take (j+(1:Nat)) v1) fun (y:Int)=>wi (4:Int) (IntKind.wrap IntKind.i64 (y-v10)))∧v14=v14∧v1=v1∧v13=v13∧(0:Int)=0∧qN0 n n (qN2 n n (n.reads=n.reads∧True))) (by kernel_rfl) ?_
  simp only [qN0,qN2,true_and,and_true,za8 (i:=j) (by omega),pb]
  refine ⟨by omega,?_⟩
  rw [zes (d:=(0:Int)) _ (by omega)]
  simp only [List.any_cons,List.any_nil,Bool.or_false,zdD,Bool.not_not,Bool.and_assoc]
 obtain rfl:j=n.yes.length:=by omega
 rw [List.take_length]
 obtain ⟨okC,hC⟩:∃ b,n.yes.all (fun y=>wi 4 (IntKind.i64.wrap (y-1)))=b:=⟨_,rfl⟩
 rw [hC]
 refine LoopG.head (zah zhD fun _=>none) 2 (A:=Nat) (fun j=>j≤n.peers.length) (fun j=>[(137,.int .i64 j),(10,.own 11),(5,.bool (okA&&okB&&okC&&(n.peers.take j).all (zcr (zaq n.kept).1 n.round)))]) (fun j=>[(11,.row 3 [] (.rInts ((n.peers.take j).map (·.node))))]) (fun j=>n.peers.length-j) 0 (Nat.zero_le _) (p0:=let v1:=n.peers;let v11:=okA&&okB&&okC;let v14:=Prod.fst (zaq n.kept);let v15:=(↑(v1.length):Int);let v16:=List.take (0:Nat) v1;(0:Int)=(↑(0:Nat):Int)∧v11=(v11&&List.all v16 (zcr v14 n.round))∧v15=v15∧v1=v1∧v14=v14∧(0:Int)=0∧List.map (fun (x:Peer)=>x.node) v16=[]∧qN0 n n (qN2 n n (n.reads=n.reads∧True))) (by kernel_rfl) ?_ 300 (p:=fun (x:Nat) (V:List PE→Prop)=>let v1:=(↑x:Int);let v2:=List.take x n.peers;let v3:=(0:Int);let v4:=Prod.fst (zaq n.kept);let v5:=(↑(n.reads.length):Int);let v6:=(↑(n.peers.length):Int);let v7:=List.getD n.peers x default;let v8:=v7.match_;let v10:=List.map (fun (x:Peer)=>x.node) v2;let v11:=n.role != 4;let v12:=n.role==4;let v15:=okA&&okB&&okC&&List.all v2 (zcr v4 n.round);let v16:=IntKind.wrap IntKind.i64 (v7.next-(1:Int));let v19:=!(!v15);let v20:=decide (v1<v6);let v21:=zac v15 (!List.any ([v8]) (offB v4)) false;let v22:=zac (!v15) true (zac v12 (!decide (v10=za7 n)) false);let v23:=!v22;let v24:=zac v21 (decide (v7.next>v8)) false;let v25:=zac v22 true (zac v11 (decide ((IntKind.wrap IntKind.i64 (v6+v5))>v3)) false);let v26:=zac v25 true (decide (v5>100));True∧True∧(v20=true→(v3≤v1∧v1<v6∧True)∧((v10.length+List.length [v7.node])*(1024:Nat)≤140737488355328∧True)∧((v15=true→v15=true)∧(v15=true→List.length ([v8])≤17592186044416)∧(v15=true→v15=true)∧(v15=true→v15=true)∧(v15=true→v15=true)∧(v15=true→v15=true)∧(v21=true→v21=true)∧(v21=true→v21=true)∧(v21=true→v21=true)∧(v21=true→v21=true)∧(v21=true→v21=true)∧(v24=true→v24=true)∧(v24=true→v24=true)∧(v24=true→v24=true)∧(v24=true→v24=true)∧(v24=true→v24=true)∧(zac v24 (decide (v16≤v4)) false=true→zac v24 (decide (v16≤v4)) false=true)∧(zac v24 (decide (v16≤v4)) false=true→zac v24 (decide (v16≤v4)) false=true)∧(zac v24 (decide (v16≤v4)) false=true→List.length [v7.round]≤17592186044416)∧(zac v24 (decide (v16≤v4)) false=true→zac v24 (decide (v16≤v4)) false=true)∧(zac v24 (decide (v16≤v4)) false=true→zac v24 (decide (v16≤v4)) false=true)∧(zac v24 (decide (v16≤v4)) false=true→zac v24 (decide (v16≤v4)) false=true)∧(zac v24 (decide (v16≤v4)) false=true→zac v24 (decide (v16≤v4)) false=true)∧True)∧True∧V [PE.a])∧(v20=false→((v19=true→v19=true)∧(v19=true→v19=true)∧(v19=true→v19=true)∧((v19&&v12)=true→(v19&&v12)=true)∧((v19&&v12)=true→SmallN n)∧((v19&&v12)=true→(v19&&v12)=true)∧((v19&&v12)=true→(v19&&v12)=true)∧((v19&&v12)=true→v10.length≤17592186044416)∧((v19&&v12)=true→(v19&&v12)=true)∧(v19=true→v19=true)∧(v19=true→v12=true→(v19&&v12)=true)∧((!v15)=false→v19=true)∧(v23=true→v23=true)∧(v23=true→v23=true)∧(v23=true→v23=true)∧((v23&&v11)=true→(v23&&v11)=true)∧((v23&&v11)=true→(v23&&v11)=true)∧((v23&&v11)=true→(v23&&v11)=true)∧((v23&&v11)=true→(v23&&v11)=true)∧((v23&&v11)=true→(v23&&v11)=true)∧((v23&&v11)=true→(v23&&v11)=true)∧((v23&&v11)=true→(v23&&v11)=true)∧(v23=true→v23=true)∧(v23=true→v11=true→(v23&&v11)=true)∧(v22=false→v23=true)∧((!v25)=true→(!v25)=true)∧((!v25)=true→(!v25)=true)∧((!v25)=true→(!v25)=true)∧(v25=false→(!v25)=true)∧True)∧True∧(v26=true→True∧(1:Int)=errC n∧True)∧(v26=false→True∧v3=errC n∧True))) (by intro x;kernel_rfl) ?_
 ·simp
 rintro j hj
 have hkl:=hk.peers.1
 simp only [qN0,qN2,imp_self,implies_true,true_and,and_true,decide_eq_true_eq,decide_eq_false_iff_not]
 refine ⟨fun h6=>?_,fun h6=>?_⟩
 ·refine ⟨by omega,by simp only [List.length_map,List.length_take,List.length_cons,List.length_nil];have:=hn.peers;omega,⟨fun _=>by simp,fun _=>by simp⟩,?_⟩
  refine Back.mk (j+1) (by omega) (by omega) (p0:=let v1:=n.peers;let v13:=okA&&okB&&okC;let v15:=Prod.fst (zaq n.kept);let v16:=(↑(v1.length):Int);let v17:=List.getD v1 j default;let v20:=List.take (j+(1:Nat)) v1;IntKind.wrap IntKind.i64 ((↑j:Int)+(1:Int))=(↑(j+(1:Nat)):Int)∧zac (zac (zac (zac (v13&&List.all (List.take j v1) (zcr v15 n.round)) (!List.any [v17.match_] (offB v15)) false) (decide (v17.next>v17.match_)) false) (decide ((IntKind.wrap IntKind.i64 (v17.next-(1:Int)))≤v15)) false) (!List.any [v17.round] (offB n.round)) false=(v13&&List.all v20 (zcr v15 n.round))∧v16=v16∧v1=v1∧v15=v15∧(0:Int)=0∧List.map (fun (x:Peer)=>x.node) (List.take j v1)++[v17.node]=List.map (fun (x:Peer)=>x.node) v20∧qN0 n n (qN2 n n (n.reads=n.reads∧True))) (by kernel_rfl) ?_
  simp only [qN0,qN2,true_and,and_true,za8 (i:=j) (by omega),pb]
  refine ⟨by omega,?_,?_⟩
  ·rw [zes (d:=(default:Peer)) _ (by omega),zcr]
   simp only [List.any_cons,List.any_nil,Bool.or_false,zdD,Bool.not_not,Bool.and_assoc]
  ·rw [zam (d:=(default:Peer)) (by omega),List.map_append];rfl
 obtain rfl:j=n.peers.length:=by omega
 rw [List.take_length]
 obtain ⟨okD,hD⟩:∃ b,n.peers.all (zcr (zaq n.kept).1 n.round)=b:=⟨_,rfl⟩
 rw [hD]
 have hr:=zs7 n (by have:=hn.peers;have:=hn.reads;omega)
 rw [← hA,hB,hC,hD] at hr
 rw [errC,hr]
 simp only [pb,pt]
 obtain ⟨r,hr1⟩:∃ b,(n.role==4)=b:=⟨_,rfl⟩
 obtain ⟨A,hA1⟩:∃ b,(okA&&okB&&okC&&okD)=b:=⟨_,rfl⟩
 obtain ⟨q,hq⟩:∃ b,decide (n.peers.map (fun x=>x.node)=za7 n)=b:=⟨_,rfl⟩
 obtain ⟨w,hw⟩:∃ b,decide (IntKind.i64.wrap ((n.peers.length:Int)+(n.reads.length:Int))>0)=b:=⟨_,rfl⟩
 obtain ⟨v,hv⟩:∃ b,decide ((n.reads.length:Int)>100)=b:=⟨_,rfl⟩
 have hpl:=hn.peers
 simp only [bne,hr1,hA1,hq,hw,hv,List.length_map]
 refine ⟨⟨fun _=>hn,fun _=>by omega,?_⟩,?_⟩
 ·cases r<;>cases A<;>cases q<;>cases w<;>cases v<;>simp
 ·cases r<;>cases A<;>cases q<;>cases w<;>cases v<;>simp
theorem zgI (n m:Int):FnC Tryz.prog 62 [dInt.can n,dInt.can m] (.bool (wi m n)) D2:=by
 refine FnG.of_vc (zah zad fun _=>none) Tryz.func62 rfl (by decide) rfl 300 (p:=fun (V:List PE→Prop)=>let v0:=decide (n≥0);True∧((v0=true→v0=true)∧(v0=true→v0=true)∧(v0=true→v0=true)∧True)∧zac v0 (decide (n≤m)) false=wi m n∧True) (by kernel_rfl) ?_
 simp only [imp_self,implies_true,true_and,and_true,zaf,zag,wi,GE.ge]
def zi1:Ent:=ent1 18 dNode fun n=>([SmallN n],.int .i64 (errC n),D2)
theorem zgq:zae Tryz.prog zi1:=zan (zhy default zbE).1 fun l h=>zhy l (h _ (by simp))
def zil:Ent:=ent2 62 dInt dInt fun n m=>([],.bool (wi m n),D2)
theorem zgk:zae Tryz.prog zil:=zar (zgI 0 0).1 fun n m _=>zgI n m
noncomputable def tabQ:List Ent:=[zil,zcF,eOnC,eRIs,zvX,zvV]
theorem zhC:∀ e∈tabQ,zae Tryz.prog e:=zaa zgk (zaa zbc (zaa zkW (zaa zio (zaa zft (zaa zm7 zad)))))
theorem ziW (n:Node) (hn:SmallN n):FnC Tryz.prog 67 [dNode.can n] (.bool (zb6 n)) D2:=by
 refine FnC.g1 dNode n (fnB Tryz.func67 (by decide) rfl) fun hk=>?_
 refine FnG.of_vc (zah zhC fun _=>none) Tryz.func67 rfl (by decide) rfl 300 (p:=fun (V:List PE→Prop)=>let v1:=(↑(n.peers.length):Int) != (↑(List.length (za7 n)):Int);let v2:=zac v1 true (decide ((↑(n.reads.length):Int)>100));True∧(SmallN n∧True)∧True∧(((!v1)=true→(!v1)=true)∧((!v1)=true→(!v1)=true)∧((!v1)=true→(!v1)=true)∧(v1=false→(!v1)=true)∧True)∧True∧(v2=true→True∧false=zb6 n∧True)∧(v2=false→True∧V [PE.b])) (by kernel_rfl) ?_
 simp only [qN0,qN2,imp_self,implies_true,true_and,and_true,zaf,zag]
 have hol:=(zcp (zav n)).2
 have hol2:(za7 n).length≤16:=Nat.le_trans (List.length_filter_le _ _) hol
 have hpl:=hn.peers
 refine ⟨hn,fun h=>by rw [h];rfl,fun h=>?_,fun h=>?_⟩
 ·unfold zb6
  simp only [Bool.or_eq_true,bne_iff_ne,ne_eq,decide_eq_true_eq] at h
  rcases h with h | h
  ·have:¬ n.peers.map (·.node)=za7 n:=fun e=>h (by rw [← e];simp)
   simp [this]
  ·have:¬ n.reads.length≤100:=by omega
   simp [this]
 have hle:n.peers.length=(za7 n).length:=by
  simp only [Bool.or_eq_false_iff,bne_eq_false_iff_eq] at h;omega
 have hr100:n.reads.length≤100:=by
  simp only [Bool.or_eq_false_iff,decide_eq_false_iff_not] at h;omega
 have hbad:∀ j,j<n.peers.length→((n.peers.getD j default).node==(za7 n).getD j 0&&zcr (zaq n.kept).1 n.round (n.peers.getD j default))=false→zb6 n=false:=by
  intro j hj hb
  cases hp:zb6 n
  ·rfl
  ·exfalso
   unfold zb6 at hp
   simp only [Bool.and_eq_true,decide_eq_true_eq,List.all_eq_true] at hp
   have h1:(n.peers.getD j default).node=(za7 n).getD j 0:=by
    rw [← hp.1.1,zbi hj,zbi (by simpa using hj)];simp
   rw [h1,hp.2 _ (za4 hj)] at hb
   simp at hb
 refine LoopG.head (zah zhC fun _=>none) 0 (A:=Nat) (fun j=>j≤(za7 n).length∧∀ i,i<j→(n.peers.getD i default).node=(za7 n).getD i 0∧zcr (zaq n.kept).1 n.round (n.peers.getD i default)=true) (fun j=>[(6,.int .i64 j)]) (fun _=>[]) (fun j=>(za7 n).length-j) 0 ⟨Nat.zero_le _,fun i h=>absurd h (by omega)⟩ (p0:=let v11:=Prod.fst (zaq n.kept);(0:Int)=(↑(0:Nat):Int)∧v11=v11∧za7 n=za7 n∧qN0 n n (qN2 n n (n.reads=n.reads∧True))) (by kernel_rfl) ?_ 300 (p:=fun (x:Nat) (V:List PE→Prop)=>let v0:=(↑x:Int);let v1:=Prod.fst (zaq n.kept);let v2:=(↑(List.length (za7 n)):Int);let v3:=List.getD n.peers x default;let v7:=v3.node != List.getD (za7 n) x (0:Int);let v8:=decide (v0<v2);let v9:=zac v7 true !wi v1 v3.match_;let v10:=zac v9 true (decide (v3.next≤v3.match_));let v11:=zac v10 true (decide ((IntKind.wrap IntKind.i64 (v3.next-(1:Int)))>v1));let v12:=zac v11 true !wi n.round v3.round;True∧True∧(v8=true→((0:Int)≤v0∧v0<(↑(n.peers.length):Int)∧True)∧((0:Int)≤v0∧v0<v2∧((!v7)=true→(!v7)=true)∧((!v7)=true→(!v7)=true)∧((!v7)=true→(!v7)=true)∧((!v7)=true→(!v7)=true)∧(v7=false→(!v7)=true)∧((!v9)=true→(!v9)=true)∧((!v9)=true→(!v9)=true)∧((!v9)=true→(!v9)=true)∧((!v9)=true→(!v9)=true)∧(v9=false→(!v9)=true)∧((!v10)=true→(!v10)=true)∧((!v10)=true→(!v10)=true)∧((!v10)=true→(!v10)=true)∧((!v10)=true→(!v10)=true)∧(v10=false→(!v10)=true)∧((!v11)=true→(!v11)=true)∧((!v11)=true→(!v11)=true)∧((!v11)=true→(!v11)=true)∧((!v11)=true→(!v11)=true)∧((!v11)=true→(!v11)=true)∧(v11=false→(!v11)=true)∧True)∧True∧(v12=true→True∧false=zb6 n∧True)∧(v12=false→True∧V [PE.a,PE.b]))∧(v8=false→True∧true=zb6 n∧True)) (by intro x;kernel_rfl) ?_
 ·simp
 rintro j ⟨hj,h0⟩
 simp only [qN0,qN2,imp_self,implies_true,true_and,and_true,decide_eq_true_eq,decide_eq_false_iff_not]
 refine ⟨fun h6=>?_,fun h6=>?_⟩
 ·have hb:=hbad j (by omega)
  unfold zcr at hb
  generalize hP:n.peers.getD j default=p at *
  have q1:decide (p.next≤p.match_)=!decide (p.next>p.match_):=by rw [Bool.eq_iff_iff];simp
  have q2:decide (IntKind.i64.wrap (p.next-1)>(zaq n.kept).1)=!decide (IntKind.i64.wrap (p.next-1)≤(zaq n.kept).1):=by rw [Bool.eq_iff_iff];simp
  simp only [bne,q1,q2]
  obtain ⟨x1,hx1⟩:∃ b,(p.node==(za7 n).getD j 0)=b:=⟨_,rfl⟩
  obtain ⟨x2,hx2⟩:∃ b,wi (zaq n.kept).1 p.match_=b:=⟨_,rfl⟩
  obtain ⟨x3,hx3⟩:∃ b,decide (p.next>p.match_)=b:=⟨_,rfl⟩
  obtain ⟨x4,hx4⟩:∃ b,decide (IntKind.i64.wrap (p.next-1)≤(zaq n.kept).1)=b:=⟨_,rfl⟩
  obtain ⟨x5,hx5⟩:∃ b,wi n.round p.round=b:=⟨_,rfl⟩
  simp only [hx1,hx2,hx3,hx4,hx5] at hb ⊢
  refine ⟨by omega,⟨by omega,h6,?_⟩,fun h7=>?_,fun h7=>?_⟩
  ·cases x1<;>cases x2<;>cases x3<;>cases x4<;>simp [zac]
  ·refine (hb ?_).symm
   revert h7;cases x1<;>cases x2<;>cases x3<;>cases x4<;>cases x5<;>simp [zac]
  ·refine Back.mk (j+1) ⟨by omega,fun i hi=>?_⟩ (by omega) (p0:=let v11:=Prod.fst (zaq n.kept);IntKind.wrap IntKind.i64 ((↑j:Int)+(1:Int))=(↑(j+(1:Nat)):Int)∧v11=v11∧za7 n=za7 n∧qN0 n n (qN2 n n (n.reads=n.reads∧True))) (by kernel_rfl) ?_
   ·by_cases hij:i=j
    ·subst hij
     have:(x1&&(x2&&x3&&x4&&x5))=true:=by
      revert h7;cases x1<;>cases x2<;>cases x3<;>cases x4<;>cases x5<;>simp [zac]
     rw [hP,zcr,hx2,hx3,hx4,hx5]
     simp only [Bool.and_eq_true] at this
     refine ⟨by simpa using hx1.trans this.1,by simp [this.2]⟩
    ·exact h0 i (by omega)
   ·simp [za8 (i:=j) (by omega)]
 ·have:zb6 n=true:=by
   unfold zb6
   simp only [Bool.and_eq_true,decide_eq_true_eq,List.all_eq_true]
   refine ⟨⟨zb7 (d:=0) (by simp;exact hle) fun i hi=>?_,hr100⟩,fun x hx=>?_⟩
   ·have hi2:i<n.peers.length:=by simpa using hi
    rw [← (h0 i (by omega)).1,zbi hi,zbi hi2];simp
   ·obtain ⟨i,hi,rfl⟩:=List.mem_iff_getElem.1 hx
    have:=(h0 i (by omega)).2
    rwa [zbi hi] at this
  exact this.symm
theorem zji (k:Kept):FnC Tryz.prog 66 [dKept.can k] (.bool (zd4 k)) D2:=by
 refine FnC.g1 dKept k (fnB Tryz.func66 (by decide) rfl) fun hk=>?_
 refine FnG.of_vc (zah zhC fun _=>none) Tryz.func66 rfl (by decide) rfl 300 (p:=fun (V:List PE→Prop)=>True∧True∧V []) (by kernel_rfl) ?_
 simp only [imp_self,implies_true,true_and,and_true,zaf,zag]
 have hc:zd4 k=(k.entries.all cfE&&mayC k.snap.config):=rfl
 rw [hc]
 refine LoopG.head (zah zhC fun _=>none) 0 (A:=Nat) (fun j=>j≤k.entries.length∧(k.entries.take j).all cfE=true) (fun j=>[(3,.int .i64 j)]) (fun _=>[]) (fun j=>k.entries.length-j) 0 ⟨Nat.zero_le _,rfl⟩ (p0:=let v0:=k.snap;let v2:=v0.config;(0:Int)=(↑(0:Nat):Int)∧k.term=k.term∧k.vote=k.vote∧v0.index=v0.index∧v0.term=v0.term∧v2.voters=v2.voters∧v2.learners=v2.learners∧v0.data=v0.data∧k.entries=k.entries∧True) (by kernel_rfl) ?_ 300 (p:=fun (x:Nat) (V:List PE→Prop)=>let v0:=k.entries;let v1:=mayC k.snap.config;let v2:=(↑x:Int);let v3:=(↑(v0.length):Int);let v4:=List.getD v0 x default;let v5:=List.all v0 cfE&&v1;let v6:=v4.kind==2;let v7:=decide (v2<v3);let v8:=zac v6 (!mayC v4.config) false;True∧True∧(v7=true→((0:Int)≤v2∧v2<v3∧(v6=true→v6=true)∧(v6=true→v6=true)∧(v6=true→v6=true)∧(v6=true→(0:Int)≤v2)∧(v6=true→v2<v3)∧(v6=true→v6=true)∧(v6=true→v6=true)∧(v6=true→v6=true)∧(v6=true→v6=true)∧(v6=true→v6=true)∧True)∧True∧(v8=true→True∧false=v5∧True)∧(v8=false→True∧V [PE.a,PE.b]))∧(v7=false→True∧v1=v5∧True)) (by intro x;kernel_rfl) ?_
 ·simp
 rintro j ⟨hj,h0⟩
 have hkl:=hk.entries.1
 simp only [imp_self,implies_true,true_and,and_true,decide_eq_true_eq,decide_eq_false_iff_not]
 refine ⟨fun h6=>?_,fun h6=>?_⟩
 ·have hsn:=zes (d:=(default:Entry)) cfE (show j<k.entries.length by omega)
  generalize hE:k.entries.getD j default=e at *
  have hme:e∈k.entries:=by rw [← hE];exact za4 (by omega)
  have hpe:zac (e.kind==2) (!mayC e.config) false=!cfE e:=by
   unfold cfE;cases (e.kind==2)<;>simp [zac]
  rw [hpe]
  refine ⟨⟨by omega,h6,fun _=>by omega,fun _=>h6⟩,fun h7=>?_,fun h7=>?_⟩
  ·have:k.entries.all cfE=false:=by
    rw [List.all_eq_false];exact ⟨e,hme,by simpa using h7⟩
   simp [this]
  ·refine Back.mk (j+1) ⟨by omega,?_⟩ (by omega) (p0:=let v0:=k.snap;let v2:=v0.config;IntKind.wrap IntKind.i64 ((↑j:Int)+(1:Int))=(↑(j+(1:Nat)):Int)∧k.term=k.term∧k.vote=k.vote∧v0.index=v0.index∧v0.term=v0.term∧v2.voters=v2.voters∧v2.learners=v2.learners∧v0.data=v0.data∧k.entries=k.entries∧True) (by kernel_rfl) ?_
   ·rw [hsn,h0];simpa using h7
   ·simp [za8 (i:=j) (by omega)]
 ·obtain rfl:j=k.entries.length:=by omega
  rw [List.take_length] at h0
  simp [h0]
structure RightN (n:Node):Prop where
 id:wi 4 (IntKind.i64.wrap (n.id-1))=true
 role1:1≤n.role
 role4:n.role≤4
 len:n.kept.entries.length≤9000
 on:onC n.kept=true
 term:wi 900000000 n.kept.term=true
 vote:wi 900000000 n.kept.vote=true
 round:wi 900000000 n.round=true
 lead:wi 900000000 n.lead=true
 last:(zaq n.kept).1≤900000000
 elapsed:wi 1000 n.elapsed=true
 lo:n.kept.snap.index≤n.commit
 hi:n.commit≤(zaq n.kept).1
 yes:isC n.yes=true
 yesn:n.yes.all (fun y=>wi 4 (IntKind.i64.wrap (y-1)))=true
 confs:zd4 n.kept=true
 rest:(if n.role=4 then zb6 n else decide (n.peers=[])&&decide (n.reads=[]))=true
theorem last0 {k:Kept} (h:onC k=true):0≤(zaq k).1:=by rw [zbe h];have:=(zjr h).1;omega
theorem right_iff {n:Node}:zap n=true↔RightN n:=by
 unfold zap zvy
 simp only [Bool.and_eq_true,decide_eq_true_eq]
 constructor
 ·rintro ⟨⟨⟨⟨⟨⟨⟨⟨⟨⟨⟨⟨⟨⟨⟨⟨h1,h2⟩,h3⟩,h4⟩,h5⟩,h6⟩,h7⟩,h8⟩,h9⟩,h10⟩,h11⟩,h12⟩,h13⟩,h14⟩,h15⟩,h16⟩,h17⟩
  exact ⟨h1,h2,h3,h4,h5,h6,h7,h8,h9,by unfold wi at h10;simp only [Bool.and_eq_true,decide_eq_true_eq] at h10;exact h10.2,h11,h12,h13,h14,h15,h16,h17⟩
 ·intro h
  exact ⟨⟨⟨⟨⟨⟨⟨⟨⟨⟨⟨⟨⟨⟨⟨⟨h.id,h.role1⟩,h.role4⟩,h.len⟩,h.on⟩,h.term⟩,h.vote⟩,h.round⟩,h.lead⟩,by have:=last0 h.on;have:=h.last;unfold wi;simp;omega⟩,h.elapsed⟩,h.lo⟩,h.hi⟩,h.yes⟩,h.yesn⟩,h.confs⟩,h.rest⟩
theorem notF (b:Bool):(b=false→(!b)=true)=True:=by cases b<;>simp
def zq7:Ent:=ent1 67 dNode fun n=>([SmallN n],.bool (zb6 n),D2)
theorem znC:zae Tryz.prog zq7:=zan (ziW default zbE).1 fun l h=>ziW l (h _ (by simp))
def zqJ:Ent:=ent1 66 dKept fun n=>([],.bool (zd4 n),D2)
theorem znG:zae Tryz.prog zqJ:=zan (zji default).1 fun l h=>zji l
noncomputable def tabQ2:List Ent:=[zil,zcF,eOnC,eRIs,zq7,zqJ]
theorem zl7:∀ e∈tabQ2,zae Tryz.prog e:=zaa zgk (zaa zbc (zaa zkW (zaa zio (zaa znC (zaa znG zad)))))
theorem ziT (n:Node) (hn:SmallN n):FnC Tryz.prog 19 [dNode.can n] (.bool (zap n)) D2:=by
 refine FnC.g1 dNode n (fnB Tryz.func19 (by decide) rfl) fun hk=>?_
 refine FnG.of_vc (zah zl7 fun _=>none) Tryz.func19 rfl (by decide) rfl 300 (p:=fun (V:List PE→Prop)=>let v0:=n.kept;let v4:=(900000000:Int);let v5:=Prod.fst (zaq v0);let v7:=!wi v4 v0.term;let v8:=zac v7 true !wi v4 v0.vote;let v9:=!wi (4:Int) (IntKind.wrap IntKind.i64 (n.id-(1:Int)));let v10:=zac v8 true !wi v4 n.round;let v11:=zac v9 true (decide (n.role<1));let v12:=zac v10 true !wi v4 n.lead;let v13:=zac v12 true !wi (1000:Int) n.elapsed;let v14:=zac v11 true (decide (n.role>4));let v15:=zac v13 true (decide (n.commit<v0.snap.index));let v16:=zac v15 true (decide (n.commit>v5));let v17:=zac v14 true (decide ((↑(v0.entries.length):Int)>9000));let v18:=zac v17 true !onC v0;let v19:=zac v16 true (decide (v5>v4));let v20:=zac v19 true !isC n.yes;True∧(((!v9)=true→(!v9)=true)∧((!v9)=true→(!v9)=true)∧(v9=false→(!v9)=true)∧((!v11)=true→(!v11)=true)∧((!v11)=true→(!v11)=true)∧(v11=false→(!v11)=true)∧((!v14)=true→(!v14)=true)∧((!v14)=true→(!v14)=true)∧((!v14)=true→(!v14)=true)∧((!v14)=true→(!v14)=true)∧(v14=false→(!v14)=true)∧((!v17)=true→(!v17)=true)∧((!v17)=true→(!v17)=true)∧((!v17)=true→(!v17)=true)∧(v17=false→(!v17)=true)∧True)∧True∧(v18=true→True∧false=zap n∧True)∧(v18=false→True∧(((!v7)=true→(!v7)=true)∧((!v7)=true→(!v7)=true)∧((!v7)=true→(!v7)=true)∧((!v7)=true→(!v7)=true)∧(v7=false→(!v7)=true)∧((!v8)=true→(!v8)=true)∧((!v8)=true→(!v8)=true)∧((!v8)=true→(!v8)=true)∧(v8=false→(!v8)=true)∧((!v10)=true→(!v10)=true)∧((!v10)=true→(!v10)=true)∧((!v10)=true→(!v10)=true)∧(v10=false→(!v10)=true)∧((!v12)=true→(!v12)=true)∧((!v12)=true→(!v12)=true)∧((!v12)=true→(!v12)=true)∧(v12=false→(!v12)=true)∧((!v13)=true→(!v13)=true)∧((!v13)=true→(!v13)=true)∧((!v13)=true→(!v13)=true)∧((!v13)=true→(!v13)=true)∧((!v13)=true→(!v13)=true)∧((!v13)=true→(!v13)=true)∧(v13=false→(!v13)=true)∧((!v15)=true→(!v15)=true)∧((!v15)=true→(!v15)=true)∧((!v15)=true→(!v15)=true)∧(v15=false→(!v15)=true)∧((!v16)=true→(!v16)=true)∧(v16=false→(!v16)=true)∧((!v19)=true→(!v19)=true)∧((!v19)=true→(!v19)=true)∧((!v19)=true→(!v19)=true)∧(v19=false→(!v19)=true)∧True)∧True∧(v20=true→True∧false=zap n∧True)∧(v20=false→True∧V [PE.b,PE.b]))) (by kernel_rfl) ?_
 simp only [qN0,qN2,imp_self,implies_true,true_and,and_true,zaf,zag,notF]
 have no:¬ RightN n→false=zap n:=fun h=>by
  cases hr:zap n
  ·rfl
  ·exact absurd (right_iff.1 hr) h
 have yesT:RightN n→true=zap n:=fun h=>(right_iff.2 h).symm
 simp only [Bool.or_eq_true,Bool.not_eq_true',decide_eq_true_eq,Bool.or_eq_false_iff,Bool.not_eq_false',decide_eq_false_iff_not]
 refine ⟨fun h=>no fun g=>?_,fun h1=>⟨fun h=>no fun g=>?_,fun h2=>?_⟩⟩
 ·have g1:=g.id;have g2:=g.role1;have g3:=g.role4;have g4:=g.len;have g5:=g.on
  rw [g1,g5] at h
  rcases h with (((h | h) | h) | h) | h<;>first | (cases h;done) | omega
 ·have g1:=g.term;have g2:=g.vote;have g3:=g.round;have g4:=g.lead;have g5:=g.elapsed;have g6:=g.lo;have g7:=g.hi;have g8:=g.last;have g9:=g.yes
  rw [g1,g2,g3,g4,g5,g9] at h
  rcases h with (((((((h | h) | h) | h) | h) | h) | h) | h) | h<;>first | (cases h;done) | omega
 obtain ⟨⟨⟨⟨p1,p2⟩,p3⟩,p4⟩,p5⟩:=h1
 obtain ⟨⟨⟨⟨⟨⟨⟨⟨q1,q2⟩,q3⟩,q4⟩,q5⟩,q6⟩,q7⟩,q8⟩,q9⟩:=h2
 refine LoopG.head (zah zl7 fun _=>none) 0 (A:=Nat) (fun j=>j≤n.yes.length∧(n.yes.take j).all (fun y=>wi 4 (IntKind.i64.wrap (y-1)))=true) (fun j=>[(5,.int .i64 j)]) (fun _=>[]) (fun j=>n.yes.length-j) 0 ⟨Nat.zero_le _,rfl⟩ (p0:=(0:Int)=(↑(0:Nat):Int)∧qN0 n n (qN2 n n (n.reads=n.reads∧True))) (by kernel_rfl) ?_ 300 (p:=fun (x:Nat) (V:List PE→Prop)=>let v0:=!zd4 n.kept;let v1:=(↑x:Int);let v2:=(0:Int);let v3:=(↑(n.yes.length):Int);let v4:=n.role==4;let v5:=(↑(n.peers.length):Int)==v2;let v6:=decide (v1<v3);let v7:=!wi (4:Int) (IntKind.wrap IntKind.i64 (List.getD n.yes x v2-(1:Int)));True∧True∧(v6=true→(v2≤v1∧v1<v3∧True)∧True∧(v7=true→True∧false=zap n∧True)∧(v7=false→True∧V [PE.a,PE.b]))∧(v6=false→True∧True∧(v0=true→True∧false=zap n∧True)∧(v0=false→True∧True∧(v4=true→(SmallN n∧True)∧zb6 n=zap n∧True)∧(v4=false→((v5=true→v5=true)∧(v5=true→v5=true)∧(v5=true→v5=true)∧(v5=true→v5=true)∧True)∧zac v5 ((↑(n.reads.length):Int)==v2) false=zap n∧True)))) (by intro x;kernel_rfl) ?_
 ·simp
 rintro j ⟨hj,h0⟩
 have hkl:=hk.yes.1
 simp only [qN0,qN2,imp_self,implies_true,true_and,and_true,decide_eq_true_eq,decide_eq_false_iff_not,zaf,notF]
 refine ⟨fun h6=>?_,fun h6=>?_⟩
 ·have hsn:=zes (d:=(0:Int)) (fun y=>wi 4 (IntKind.i64.wrap (y-1))) (show j<n.yes.length by omega)
  refine ⟨by omega,fun h7=>no fun g=>?_,fun h7=>?_⟩
  ·have:=List.all_eq_true.1 g.yesn _ (za4 (d:=(0:Int)) (show j<n.yes.length by omega))
   rw [this] at h7;cases h7
  ·refine Back.mk (j+1) ⟨by omega,?_⟩ (by omega) (p0:=IntKind.wrap IntKind.i64 ((↑j:Int)+(1:Int))=(↑(j+(1:Nat)):Int)∧qN0 n n (qN2 n n (n.reads=n.reads∧True))) (by kernel_rfl) ?_
   ·rw [hsn,h0];simpa using h7
   ·simp [za8 (i:=j) (by omega)]
 ·obtain rfl:j=n.yes.length:=by omega
  rw [List.take_length] at h0
  have fin:zd4 n.kept=true→zap n=(if n.role=4 then zb6 n else decide (n.peers=[])&&decide (n.reads=[])):=fun hc=>by
   rw [Bool.eq_iff_iff]
   constructor
   ·intro h;exact (right_iff.1 h).rest
   ·intro h;exact right_iff.2 ⟨p1,by omega,by omega,by omega,p5,q1,q2,q3,q4,by omega,q5,by omega,by omega,q9,h0,hc,h⟩
  refine ⟨fun h=>no fun g=>?_,fun h=>?_⟩
  ·have:=g.confs;rw [this] at h;cases h
  have hc:zd4 n.kept=true:=by simpa using h
  rw [fin hc]
  refine ⟨fun h=>?_,fun h=>?_⟩
  ·have:n.role=4:=by simpa using h
   rw [if_pos this];exact ⟨hn,rfl⟩
  ·have:¬ n.role=4:=by simpa using h
   rw [if_neg this]
   cases n.peers<;>cases n.reads<;>simp<;>omega
def zkR:Ent:=ent1 19 dNode fun n=>([SmallN n],.bool (zap n),D2)
theorem zhl:zae Tryz.prog zkR:=zan (ziT default zbE).1 fun l h=>ziT l (h _ (by simp))
def zuc (n:Node):List BE:=[.dead,.dead,.row 3 [] (.rInts n.yes),.row 94 [] (.rPeer n.peers),.row 96 [] (.rRead n.reads)]
def Node.rsvs (n:Node) (ls:List Nat) (y p r:Nat):List SV:=
 [.int .i64 n.id,.int .i64 n.role,.int .i64 n.kept.term,.int .i64 n.kept.vote,.int .i64 n.kept.snap.index,.int .i64 n.kept.snap.term,.sl ls (.rInts n.kept.snap.config.voters),.sl ls (.rInts n.kept.snap.config.learners),.str n.kept.snap.data,.sl ls (.rEntry n.kept.entries),.int .i64 n.commit,.int .i64 n.lead,.int .i64 n.elapsed,.own y,.own p,.int .i64 n.round,.own r]
def zxL:Ent:=ent1 13 dKept fun k=>([zaC k],.agg (k.svs [1]),D2)
theorem zin:zae Tryz.prog zxL:=zan (zoH default zdA).1 fun l h=>zoH l (h _ (by simp))
theorem zlV (n:Node) (hn:SmallN n):FnC Tryz.prog 24 [dNode.can n] (.agg (n.rsvs [1] 2 3 4)) (zuc n):=by
 refine FnG.of_vc (zah (zaa zin zad) fun _=>none) Tryz.func24 rfl (by decide) rfl 300 (p:=fun (V:List PE→Prop)=>True∧(zaC n.kept∧True)∧True∧(((0:Nat)+n.yes.length)*(1024:Nat)≤140737488355328∧True)∧True∧True∧(((0:Nat)+n.peers.length)*(1024:Nat)≤140737488355328∧True)∧True∧True∧(((0:Nat)+n.reads.length)*(1024:Nat)≤140737488355328∧True)∧True∧True∧qN0 n n (qN3 n n (n.reads=n.reads∧True))) (by kernel_rfl) ?_
 simp only [qN0,qN3,imp_self,implies_true,true_and,and_true,zaf,zag]
 have h1:=hn.yes
 have h2:=hn.peers
 have h3:=hn.reads
 exact ⟨hn.k,by omega,by omega,by omega⟩
def zu7:Ent:=ent1 24 dNode fun n=>([SmallN n],.agg (n.rsvs [1] 2 3 4),zuc n)
theorem zq9:zae Tryz.prog zu7:=zan (zlV default zbE).1 fun l h=>zlV l (h _ (by simp))
def newN (id:Int) (k:Kept):Node:=⟨id,1,k,k.snap.index,0,0,[],[],0,[]⟩
def zeroN:Node:=⟨0,0,default,0,0,0,[],[],0,[]⟩
noncomputable def tabQ3:List Ent:=[zi1,zwb,zkR]
theorem zse:∀ e∈tabQ3,zae Tryz.prog e:=zaa zgq (zaa zmB (zaa zhl zad))
def newC (id:Int) (k:Kept):Node×Int:=if zap (newN id k) then (newN id k,0) else (zeroN,1)
theorem zxx (id:Int) (k:Kept) (hk:zaC k):FnC Tryz.prog 14 [dInt.can id,dKept.can k] (.tup [.agg ((newC id k).1.svs [1]),.int .i64 (newC id k).2]) D2:=by
 refine FnG.of_vc (zah zse fun _=>none) Tryz.func14 rfl (by decide) rfl 300 (p:=fun (V:List PE→Prop)=>let v0:=k.snap;let v1:=v0.index;let v3:=(0:Int);let v4:=Prod.snd (newC id k);let v5:=Prod.fst (newC id k);let v6:=v5.kept;let v14:=v6.snap;let v17:=v14.config;let v23:=Node.mk id (1:Int) k v1 v3 v3 [] [] v3 [];let v24:=errC v23;True∧True∧(SmallN v23∧True)∧True∧True∧((v24 != v3)=true→True∧v3=v5.id∧v3=v5.role∧v3=v6.term∧v3=v6.vote∧v3=v14.index∧v3=v14.term∧v17.voters=[]∧v17.learners=[]∧ByteArray.mk #[]=v14.data∧v6.entries=[]∧v3=v5.commit∧v3=v5.lead∧v3=v5.elapsed∧v5.yes=[]∧v5.peers=[]∧v3=v5.round∧v5.reads=[]∧v24=v4∧True)∧((v24 != v3)=false→(SmallN v23∧True)∧id=v5.id∧(1:Int)=v5.role∧k.term=v6.term∧k.vote=v6.vote∧v1=v14.index∧v0.term=v14.term∧v0.config.voters=v17.voters∧v0.config.learners=v17.learners∧v0.data=v14.data∧k.entries=v6.entries∧k.entries.length≤17592186044416∧v1=v5.commit∧v3=v5.lead∧v3=v5.elapsed∧[]=v5.yes∧(0:Nat)≤17592186044416∧[]=v5.peers∧(0:Nat)≤17592186044416∧v3=v5.round∧[]=v5.reads∧(0:Nat)≤17592186044416∧v3=v4∧True)) (by kernel_rfl) ?_
 simp only [imp_self,implies_true,true_and,and_true,zaf,zag]
 have hs:SmallN (newN id k):=⟨hk,by simp [newN],by simp [newN],by simp [newN]⟩
 have hkl:k.entries.length≤17592186044416:=by have:=hk.1.1;omega
 change SmallN (newN id k)∧((errC (newN id k) != (0:Int))=true→_)∧((errC (newN id k) != (0:Int))=false→_)
 refine ⟨hs,fun h=>?_,fun h=>?_⟩
 ·have hr:zap (newN id k)=false:=by
   cases hr:zap (newN id k)
   ·rfl
   ·rw [errC,hr] at h;simp at h
  have e:newC id k=(zeroN,1):=by rw [newC,hr];rfl
  rw [e]
  refine ⟨rfl,rfl,rfl,rfl,rfl,rfl,rfl,rfl,rfl,rfl,rfl,rfl,rfl,rfl,rfl,rfl,rfl,?_⟩
  show errC (newN id k)=1
  rw [errC,hr];rfl
 ·have hr:zap (newN id k)=true:=by
   cases hr:zap (newN id k)
   ·rw [errC,hr] at h;simp at h
   ·rfl
  have e:newC id k=(newN id k,0):=by rw [newC,hr];rfl
  rw [e]
  simp only [newN] at hs ⊢
  simp [hs,hkl]
def patI (n:Node):Int:=IntKind.i64.wrap (6+IntKind.i64.wrap (2*(IntKind.i64.wrap (n.id+n.kept.term)).tmod 5))
theorem tmod5 (x:Int):(Lit.int .i64 (x.tmod 5)).wf=true:=by
 have h:(x.tmod 5).natAbs=x.natAbs % 5:=Int.natAbs_tmod x 5
 have:x.natAbs % 5<5:=Nat.mod_lt _ (by decide)
 exact zcJ ⟨by omega,by omega⟩
theorem zfO (n:Node):FnC Tryz.prog 69 [dNode.can n] (.int .i64 (patI n)) D2:=by
 refine FnG.of_vc (zah zad fun _=>none) Tryz.func69 rfl (by decide) rfl 300 (p:=fun (V:List PE→Prop)=>let v0:=Int.tmod (IntKind.wrap IntKind.i64 (n.id+n.kept.term)) (5:Int);True∧((5:Int)≠(0:Int)∧Lit.wf (Lit.int IntKind.i64 v0)=true∧True)∧IntKind.wrap IntKind.i64 ((6:Int)+IntKind.wrap IntKind.i64 ((2:Int)*v0))=patI n∧True) (by kernel_rfl) ?_
 simp only [imp_self,implies_true,true_and,and_true,zaf,zag]
 exact ⟨⟨by decide,tmod5 _⟩,rfl⟩
def ePat:Ent:=ent1 69 dNode fun n=>([],.int .i64 (patI n),D2)
theorem zwa:zae Tryz.prog ePat:=zan (zfO default).1 fun l h=>zfO l
end Go.Proofs.YteabcgkjbnecaaaGreat
namespace Go.Proofs.YteabcgkjbnecaaaGreat
open Go.RowKit Go.ChangeShapes Go.WideShapes Go.Deep
def Env.only (E:Env):Env:=⟨E.β,fun i b=>i=0∧E.σ i b⟩
theorem Env.only_zero (E:Env):E.only.zero:=fun i b h=>h.1
theorem Env.only_le (E:Env):E.only.Le E:=⟨fun _ _ h=>h,fun _ _ h=>h.2⟩
def o0:SV→Bool
 | .any=>true
 | .int _ _=>true
 | .bool _=>true
 | .str _=>true
 | .nil=>true
 | .sl ls _=>ls.all (Nat.beq 0)
 | _=>false
def o1:SV→Bool
 | .agg vs=>vs.all o0
 | s=>o0 s
section
variable {E : Env} {w : World}
theorem zxu {s:SV} {v:Value} (h:o0 s=true) (hd:DenV E w s v):DenV E.only w s v:=by
 cases s with
 | sl ls r=>
  exact Rd.mono hd (fun b _ ⟨i,hi,hs⟩=>⟨i,hi,(Nat.eq_of_beq_eq_true (List.all_eq_true.1 h i hi)).symm,hs⟩)
 | any=>exact hd
 | int k n=>exact hd
 | bool b=>exact hd
 | str s=>exact hd
 | nil=>exact hd
 | _=>simp [o0] at h
theorem zui:∀ {ss:List SV} {vs:List Value},ss.all o0=true→DenL E w ss vs→DenL E.only w ss vs
 | [],[],_,_=>trivial
 | s::ss,v::vs,h,hd=>by
  rw [List.all_cons,Bool.and_eq_true] at h
  exact ⟨zxu h.1 hd.1,zui h.2 hd.2⟩
 | [],_::_,_,hd=>hd.elim
 | _::_,[],_,hd=>hd.elim
theorem o1_ok {s:SV} {v:Value} (h:o1 s=true) (hd:DenV E w s v):DenV E.only w s v:=by
 cases s with
 | agg vs=>
  obtain ⟨xs,hv,hl⟩:=hd
  exact ⟨xs,hv,zui h hl⟩
 | _=>exact zxu h hd
end
section
variable {P : Program} {σ α β γ δ : Type}
def Dec.strict (a:Dec α) (s:SV):Option α:=bif o1 s then a.dec s else none
theorem Dec.strict_ok (a:Dec α) {s:SV} {x:α} (h:a.strict s=some x) {E:Env} {w:World} {v:Value} (hd:DenV E w s v):DenV E w (a.can x) v:=by
 unfold Dec.strict at h
 cases ho:o1 s
 ·rw [ho] at h;cases h
 ·rw [ho] at h
  exact DenV.mono E.only_le (Same.refl _ _) _ _ (a.ok s x h E.only w v E.only_zero (o1_ok ho hd))
theorem FnG.preN {f:FuncId} {nl:Nat} {mi:List BE} {ins ins':List SV} {out:SV} {mo:List BE} (h:FnG P f nl mi ins out mo) (hd:∀ E w vals,DenL E w ins' vals→DenL E w ins vals):FnG P f nl mi ins' out mo:=
 ⟨h.1,fun w E vals hm hv=>h.2 w E vals hm (hd E w vals hv)⟩
def goN0 (M:Mem σ) (r:σ→R3) (ins:List SV) (mi:List BE):Option R3:=match M.dec mi,ins with
 | some s,[.ptr 2 0]=>some (r s)
 | _,_=>none
variable {f : FuncId} {M : Mem σ} {a : Dec α} {b : Dec β} {c : Dec γ} {nl : Nat} {al gl : List Nat} {vr : List (Nat × TypeId × RL)}
def zeF (f:FuncId) (nl:Nat) (M:Mem σ) (vr:List (Nat×TypeId×RL)) (al gl:List Nat) (r:σ→R3):Ent:=⟨f,true,al,gl,nl,vr,goN0 M r⟩
theorem zbu {r:σ→R3} (hB:FnB P f) (h:∀ s,(∀ p∈(r s).1,p)→FnG P f nl (M.mi s) [.ptr 2 0] (r s).2.1 (r s).2.2):zae P (zeF f nl M vr al gl r):=by
 refine ⟨hB,fun ins mi n out mo hg hn=>?_⟩
 change goN0 M r ins mi=some (n,out,mo) at hg
 unfold goN0 at hg
 split at hg
 case h_2=>simp at hg
 rename_i s e
 have e:=M.ok _ _ e
 subst e
 simp only [Option.some.injEq] at hg
 have:=h s (by rw [hg];exact hn)
 rwa [hg] at this
end
end Go.Proofs.YteabcgkjbnecaaaGreat
namespace Go.Proofs.YteabcgkjbnecaaaGreat
open Go.RowKit Go.ChangeShapes Go.WideShapes Go.Deep
structure DecL (α:Type) where
 dec:SV→Option α
 can:α→SV
 ok:∀ s x,dec s=some x→∀ E w v,DenV E w s v→DenV E w (can x) v
def Dec.L {α:Type} (a:Dec α):DecL α:=⟨a.strict,a.can,fun s x h E w v hd=>a.strict_ok h hd⟩
def Env.sh (E:Env) (l:Nat):Env:=⟨E.β,fun i b=>i=0∧E.σ l b⟩
theorem Env.sh_zero (E:Env) (l:Nat):(E.sh l).zero:=fun i b h=>h.1
theorem Env.sh_set {E:Env} {l b:Nat} (h:(E.sh l).set [0] b):E.set [l] b:=by
 obtain ⟨i,_,_,hs⟩:=h;exact ⟨l,by simp,hs⟩
def dn0 (l:Nat):SV→Option SV
 | .any=>some .any
 | .int k n=>some (.int k n)
 | .bool b=>some (.bool b)
 | .str s=>some (.str s)
 | .nil=>some .nil
 | .sl ls r=>if ls.all (Nat.beq l) then some (.sl [0] r) else none
 | _=>none
def dnLs (l:Nat):List SV→Option (List SV)
 | []=>some []
 | s::r=>match dn0 l s,dnLs l r with
  | some a,some b=>some (a::b)
  | _,_=>none
section
variable {E : Env} {w : World} {l : Nat}
theorem zyg {s t:SV} {v:Value} (h:dn0 l s=some t) (hd:DenV E w s v):DenV (E.sh l) w t v:=by
 cases s with
 | sl ls r=>
  simp only [dn0] at h
  split at h
  ·rename_i ha
   simp only [Option.some.injEq] at h;subst h
   exact Rd.mono hd (fun b _ ⟨i,hi,hs⟩=>⟨0,by simp,rfl,by rw [Nat.eq_of_beq_eq_true (List.all_eq_true.1 ha i hi)];exact hs⟩)
  ·cases h
 | any=>simp only [dn0,Option.some.injEq] at h;subst h;exact hd
 | int k n=>simp only [dn0,Option.some.injEq] at h;subst h;exact hd
 | bool b=>simp only [dn0,Option.some.injEq] at h;subst h;exact hd
 | str s=>simp only [dn0,Option.some.injEq] at h;subst h;exact hd
 | nil=>simp only [dn0,Option.some.injEq] at h;subst h;exact hd
 | _=>simp [dn0] at h
theorem zrp:∀ {ss ts:List SV} {vs:List Value},dnLs l ss=some ts→DenL E w ss vs→DenL (E.sh l) w ts vs
 | [],ts,[],h,_=>by simp only [dnLs,Option.some.injEq] at h;subst h;trivial
 | s::ss,ts,v::vs,h,hd=>by
  simp only [dnLs] at h
  split at h
  ·rename_i a b ha hb
   simp only [Option.some.injEq] at h;subst h
   exact ⟨zyg ha hd.1,zrp hb hd.2⟩
  ·cases h
 | [],_,_::_,_,hd=>hd.elim
 | _::_,_,[],_,hd=>hd.elim
end
def Dec.lab {α:Type} (a:Dec α) (l:Nat) (can:α→List SV) (hc:∀ x E w v,DenV (Env.sh E l) w (a.can x) v→DenV E w (.agg (can x)) v):DecL α where
 dec:=fun s=>match s with
  | .agg vs=>match dnLs l vs with
   | some us=>a.dec (.agg us)
   | none=>none
  | _=>none
 can:=fun x=> .agg (can x)
 ok:=by
  intro s x h E w v hd
  split at h
  case h_2=>cases h
  split at h
  case h_2=>cases h
  rename_i vs us hu
  obtain ⟨xs,hv,hl⟩:=hd
  exact hc x E w v (a.ok _ x h (E.sh l) w v (Env.sh_zero E l) ⟨xs,hv,zrp hu hl⟩)
def dMsg2:DecL Message:=dMessage.lab 2 (fun x=>x.svs [2]) fun x E w v ⟨xs,hv,hl⟩=>⟨xs,hv,Message.svs_of (RdL.mono (fun b _ hb=>Env.sh_set hb) (Message.svs_rd hl))⟩
def dRec2:DecL Record:=dRecord.lab 2 (fun x=>x.svs [2]) fun x E w v ⟨xs,hv,hl⟩=>⟨xs,hv,Record.svs_of (RdL.mono (fun b _ hb=>Env.sh_set hb) (Record.svs_rd hl))⟩
def dEnt2:DecL Entry:=dEntry.lab 2 (fun x=>x.svs [2]) fun x E w v ⟨xs,hv,hl⟩=>⟨xs,hv,Entry.svs_of (RdL.mono (fun b _ hb=>Env.sh_set hb) (Entry.svs_rd hl))⟩
section
variable {P : Program} {σ α β γ δ : Type}
def goL1 (M:Mem σ) (a:DecL α) (r:σ→α→R3) (ins:List SV) (mi:List BE):Option R3:=match M.dec mi,ins with
 | some s,[.ptr 2 0,x]=>match a.dec x with
  | some x=>some (r s x)
  | none=>none
 | _,_=>none
def goL2 (M:Mem σ) (a:DecL α) (b:DecL β) (r:σ→α→β→R3) (ins:List SV) (mi:List BE):Option R3:=match M.dec mi,ins with
 | some s,[.ptr 2 0,x,y]=>match a.dec x,b.dec y with
  | some x,some y=>some (r s x y)
  | _,_=>none
 | _,_=>none
def goL3 (M:Mem σ) (a:DecL α) (b:DecL β) (c:DecL γ) (r:σ→α→β→γ→R3) (ins:List SV) (mi:List BE):Option R3:=match M.dec mi,ins with
 | some s,[.ptr 2 0,x,y,z]=>match a.dec x,b.dec y,c.dec z with
  | some x,some y,some z=>some (r s x y z)
  | _,_,_=>none
 | _,_=>none
variable {f : FuncId} {M : Mem σ} {a : DecL α} {b : DecL β} {c : DecL γ} {nl : Nat} {al gl : List Nat} {vr : List (Nat × TypeId × RL)}
def zbs (f:FuncId) (nl:Nat) (M:Mem σ) (a:DecL α) (vr:List (Nat×TypeId×RL)) (al gl:List Nat) (r:σ→α→R3):Ent:=⟨f,true,al,gl,nl,vr,goL1 M a r⟩
def zxB (f:FuncId) (nl:Nat) (M:Mem σ) (a:DecL α) (b:DecL β) (vr:List (Nat×TypeId×RL)) (al gl:List Nat) (r:σ→α→β→R3):Ent:=⟨f,true,al,gl,nl,vr,goL2 M a b r⟩
def zqg (f:FuncId) (nl:Nat) (M:Mem σ) (a:DecL α) (b:DecL β) (c:DecL γ) (vr:List (Nat×TypeId×RL)) (al gl:List Nat) (r:σ→α→β→γ→R3):Ent:=⟨f,true,al,gl,nl,vr,goL3 M a b c r⟩
theorem za2 {r:σ→α→R3} (hB:FnB P f) (h:∀ s x,(∀ p∈(r s x).1,p)→FnG P f nl (M.mi s) [.ptr 2 0,a.can x] (r s x).2.1 (r s x).2.2):zae P (zbs f nl M a vr al gl r):=by
 refine ⟨hB,fun ins mi n out mo hg hn=>?_⟩
 change goL1 M a r ins mi=some (n,out,mo) at hg
 unfold goL1 at hg
 split at hg
 case h_2=>simp at hg
 rename_i s x e
 have e:=M.ok _ _ e
 subst e
 split at hg
 case h_2=>simp at hg
 rename_i y ey
 simp only [Option.some.injEq] at hg
 have:=h s y (by rw [hg];exact hn)
 rw [hg] at this
 refine this.preN fun E w vals hd=>?_
 match vals,hd with
 | [v,u],hd=>exact ⟨hd.1,a.ok _ _ ey E w u hd.2.1,trivial⟩
theorem zth {r:σ→α→β→R3} (hB:FnB P f) (h:∀ s x y,(∀ p∈(r s x y).1,p)→FnG P f nl (M.mi s) [.ptr 2 0,a.can x,b.can y] (r s x y).2.1 (r s x y).2.2):zae P (zxB f nl M a b vr al gl r):=by
 refine ⟨hB,fun ins mi n out mo hg hn=>?_⟩
 change goL2 M a b r ins mi=some (n,out,mo) at hg
 unfold goL2 at hg
 split at hg
 case h_2=>simp at hg
 rename_i s x y e
 have e:=M.ok _ _ e
 subst e
 split at hg
 case h_2=>simp at hg
 rename_i p q ep eq
 simp only [Option.some.injEq] at hg
 have:=h s p q (by rw [hg];exact hn)
 rw [hg] at this
 refine this.preN fun E w vals hd=>?_
 match vals,hd with
 | [v,u,t],hd=>exact ⟨hd.1,a.ok _ _ ep E w u hd.2.1,b.ok _ _ eq E w t hd.2.2.1,trivial⟩
theorem zfr {r:σ→α→β→γ→R3} (hB:FnB P f) (h:∀ s x y z,(∀ p∈(r s x y z).1,p)→FnG P f nl (M.mi s) [.ptr 2 0,a.can x,b.can y,c.can z] (r s x y z).2.1 (r s x y z).2.2):zae P (zqg f nl M a b c vr al gl r):=by
 refine ⟨hB,fun ins mi n out mo hg hn=>?_⟩
 change goL3 M a b c r ins mi=some (n,out,mo) at hg
 unfold goL3 at hg
 split at hg
 case h_2=>simp at hg
 rename_i s x y z e
 have e:=M.ok _ _ e
 subst e
 split at hg
 case h_2=>simp at hg
 rename_i p q t ep eq et
 simp only [Option.some.injEq] at hg
 have:=h s p q t (by rw [hg];exact hn)
 rw [hg] at this
 refine this.preN fun E w vals hd=>?_
 match vals,hd with
 | [v,u,t,k],hd=>exact ⟨hd.1,a.ok _ _ ep E w u hd.2.1,b.ok _ _ eq E w t hd.2.2.1,c.ok _ _ et E w k hd.2.2.2.1,trivial⟩
end
end Go.Proofs.YteabcgkjbnecaaaGreat
namespace Go.Proofs.YteabcgkjbnecaaaGreat
open Go.RowKit Go.ChangeShapes Go.WideShapes Go.Deep
set_option maxRecDepth 100000
structure Step where
 n:Node
 o:Out
 deriving Inhabited
--MEM<
def wCs (ls:List Nat) (s:Step) (e q p r c m y l:Nat):List SV:=[.int .i64 s.n.id,.int .i64 s.n.role,.int .i64 s.n.kept.term,.int .i64 s.n.kept.vote,.int .i64 s.n.kept.snap.index,.int .i64 s.n.kept.snap.term,.sl ls (.rInts s.n.kept.snap.config.voters),.sl ls (.rInts s.n.kept.snap.config.learners),.str s.n.kept.snap.data,.own e,.int .i64 s.n.commit,.int .i64 s.n.lead,.int .i64 s.n.elapsed,.own q,.own p,.int .i64 s.n.round,.own r,.own c,.own m,.own y,.own l]
def sCs (ls:List Nat) (s:Step) (q p r c m y l:Nat):List SV:=[.int .i64 s.n.id,.int .i64 s.n.role,.int .i64 s.n.kept.term,.int .i64 s.n.kept.vote,.int .i64 s.n.kept.snap.index,.int .i64 s.n.kept.snap.term,.sl ls (.rInts s.n.kept.snap.config.voters),.sl ls (.rInts s.n.kept.snap.config.learners),.str s.n.kept.snap.data,.sl ls (.rEntry s.n.kept.entries),.int .i64 s.n.commit,.int .i64 s.n.lead,.int .i64 s.n.elapsed,.own q,.own p,.int .i64 s.n.round,.own r,.own c,.own m,.own y,.own l]
def wMi (s:Step):List BE:=[.dead,.dead,.cells 115 (wCs [1] s 3 4 5 6 7 8 9 10),.row 89 [1] (.rEntry s.n.kept.entries),.row 3 [1] (.rInts s.n.yes),.row 94 [1] (.rPeer s.n.peers),.row 96 [1] (.rRead s.n.reads),.row 139 [2] (.rRecord s.o.records),.row 39 [2] (.rMessage s.o.messages),.row 96 [2] (.rRead s.o.ready),.row 3 [2] (.rInts s.o.lost)]
def wMo (s:Step):List BE:=[.dead,.dead,.cells 115 (wCs [1,4] s 11 12 13 14 15 16 17 18),.dead,.dead,.dead,.dead,.dead,.dead,.dead,.dead,.row 89 [1,4] (.rEntry s.n.kept.entries),.row 3 [1,4] (.rInts s.n.yes),.row 94 [1,4] (.rPeer s.n.peers),.row 96 [1,4] (.rRead s.n.reads),.row 139 [2,3] (.rRecord s.o.records),.row 39 [2,3] (.rMessage s.o.messages),.row 96 [2,3] (.rRead s.o.ready),.row 3 [2,3] (.rInts s.o.lost)]
def wMoM (s:Step):List BE:=[.dead,.dead,.cells 115 (wCs [1] s 3 4 5 6 7 11 9 10),.row 89 [1] (.rEntry s.n.kept.entries),.row 3 [1] (.rInts s.n.yes),.row 94 [1] (.rPeer s.n.peers),.row 96 [1] (.rRead s.n.reads),.row 139 [2,3] (.rRecord s.o.records),.dead,.row 96 [2,3] (.rRead s.o.ready),.row 3 [2,3] (.rInts s.o.lost),.row 39 [2,3] (.rMessage s.o.messages)]
def sMi (T:TypeId) (s:Step):List BE:=[.dead,.dead,.cells T (sCs [1] s 3 4 5 6 7 8 9),.row 3 [1] (.rInts s.n.yes),.row 94 [1] (.rPeer s.n.peers),.row 96 [1] (.rRead s.n.reads),.row 139 [2] (.rRecord s.o.records),.row 39 [2] (.rMessage s.o.messages),.row 96 [2] (.rRead s.o.ready),.row 3 [2] (.rInts s.o.lost)]
def sMo (T:TypeId) (s:Step):List BE:=[.dead,.dead,.cells T (sCs [1,4] s 10 11 12 13 14 15 16),.dead,.dead,.dead,.dead,.dead,.dead,.dead,.row 3 [1,4] (.rInts s.n.yes),.row 94 [1,4] (.rPeer s.n.peers),.row 96 [1,4] (.rRead s.n.reads),.row 139 [2,3] (.rRecord s.o.records),.row 39 [2,3] (.rMessage s.o.messages),.row 96 [2,3] (.rRead s.o.ready),.row 3 [2,3] (.rInts s.o.lost)]
def sMoM (T:TypeId) (s:Step):List BE:=[.dead,.dead,.cells T (sCs [1] s 3 4 5 6 10 8 9),.row 3 [1] (.rInts s.n.yes),.row 94 [1] (.rPeer s.n.peers),.row 96 [1] (.rRead s.n.reads),.row 139 [2,3] (.rRecord s.o.records),.dead,.row 96 [2,3] (.rRead s.o.ready),.row 3 [2,3] (.rInts s.o.lost),.row 39 [2,3] (.rMessage s.o.messages)]
def wMoS (s:Step):List BE:=[.dead,.dead,.cells 115 (sCs [1,4] s 11 12 13 14 15 16 17),.dead,.dead,.dead,.dead,.dead,.dead,.dead,.dead,.row 3 [1,4] (.rInts s.n.yes),.row 94 [1,4] (.rPeer s.n.peers),.row 96 [1,4] (.rRead s.n.reads),.row 139 [2,3] (.rRecord s.o.records),.row 39 [2,3] (.rMessage s.o.messages),.row 96 [2,3] (.rRead s.o.ready),.row 3 [2,3] (.rInts s.o.lost)]
def mW:Mem Step where
 mi:=wMi
 dec:=fun m=>match m with
  | [.dead,.dead,.cells 115 [.int .i64 id,.int .i64 role,.int .i64 term,.int .i64 vote,.int .i64 si,.int .i64 st,.sl [1] (.rInts v),.sl [1] (.rInts le),.str d,.own 3,.int .i64 commit,.int .i64 lead,.int .i64 el,.own 4,.own 5,.int .i64 round,.own 6,.own 7,.own 8,.own 9,.own 10],.row 89 [1] (.rEntry es),.row 3 [1] (.rInts yes),.row 94 [1] (.rPeer ps),.row 96 [1] (.rRead rs),.row 139 [2] (.rRecord cs),.row 39 [2] (.rMessage ms),.row 96 [2] (.rRead ys),.row 3 [2] (.rInts lo)]=>
   some ⟨⟨id,role,⟨term,vote,⟨si,st,⟨v,le⟩,d⟩,es⟩,commit,lead,el,yes,ps,round,rs⟩,⟨cs,ms,ys,lo⟩⟩
  | _=>none
 ok:=by
  intro m x h
  split at h
  ·simp only [Option.some.injEq] at h;subst h;rfl
  ·simp at h
def mWS:Mem Step where
 mi:=sMi 115
 dec:=fun m=>match m with
  | [.dead,.dead,.cells 115 [.int .i64 id,.int .i64 role,.int .i64 term,.int .i64 vote,.int .i64 si,.int .i64 st,.sl [1] (.rInts v),.sl [1] (.rInts le),.str d,.sl [1] (.rEntry es),.int .i64 commit,.int .i64 lead,.int .i64 el,.own 3,.own 4,.int .i64 round,.own 5,.own 6,.own 7,.own 8,.own 9],.row 3 [1] (.rInts yes),.row 94 [1] (.rPeer ps),.row 96 [1] (.rRead rs),.row 139 [2] (.rRecord cs),.row 39 [2] (.rMessage ms),.row 96 [2] (.rRead ys),.row 3 [2] (.rInts lo)]=>
   some ⟨⟨id,role,⟨term,vote,⟨si,st,⟨v,le⟩,d⟩,es⟩,commit,lead,el,yes,ps,round,rs⟩,⟨cs,ms,ys,lo⟩⟩
  | _=>none
 ok:=by
  intro m x h
  split at h
  ·simp only [Option.some.injEq] at h;subst h;rfl
  ·simp at h
def mSt:Mem Step where
 mi:=sMi 125
 dec:=fun m=>match m with
  | [.dead,.dead,.cells 125 [.int .i64 id,.int .i64 role,.int .i64 term,.int .i64 vote,.int .i64 si,.int .i64 st,.sl [1] (.rInts v),.sl [1] (.rInts le),.str d,.sl [1] (.rEntry es),.int .i64 commit,.int .i64 lead,.int .i64 el,.own 3,.own 4,.int .i64 round,.own 5,.own 6,.own 7,.own 8,.own 9],.row 3 [1] (.rInts yes),.row 94 [1] (.rPeer ps),.row 96 [1] (.rRead rs),.row 139 [2] (.rRecord cs),.row 39 [2] (.rMessage ms),.row 96 [2] (.rRead ys),.row 3 [2] (.rInts lo)]=>
   some ⟨⟨id,role,⟨term,vote,⟨si,st,⟨v,le⟩,d⟩,es⟩,commit,lead,el,yes,ps,round,rs⟩,⟨cs,ms,ys,lo⟩⟩
  | _=>none
 ok:=by
  intro m x h
  split at h
  ·simp only [Option.some.injEq] at h;subst h;rfl
  ·simp at h
def vrW:List (Nat×TypeId×RL):=[(9,89,.rEntry []),(13,3,.rInts []),(14,94,.rPeer []),(16,96,.rRead []),(17,139,.rRecord []),(18,39,.rMessage []),(19,96,.rRead []),(20,3,.rInts [])]
def vrS:List (Nat×TypeId×RL):=[(13,3,.rInts []),(14,94,.rPeer []),(16,96,.rRead []),(17,139,.rRecord []),(18,39,.rMessage []),(19,96,.rRead []),(20,3,.rInts [])]
def glW:List Nat:=[1,1,1,1,1,2,2,2,2]
def glS:List Nat:=[1,1,1,1,2,2,2,2]
--MEM>
def msgS (s:Step) (m:Message):Message:=⟨m.kind,s.n.id,m.to_,if m.term=0 then s.n.kept.term else m.term,m.index,m.logTerm,m.entries,m.commit,m.round,m.ok,m.snap,m.ask,m.seq,m.data⟩
def za3 (s:Step) (m:Message):Step:=⟨s.n,⟨s.o.records,s.o.messages++[msgS s m],s.o.ready,s.o.lost⟩⟩
theorem zaU (b:Bool) (x:Int):zai b x x=x:=by cases b<;>rfl
theorem zbx (b:Bool) (x:Bool):zac b x x=x:=by cases b<;>rfl
theorem zhN (x y z:Int):zai (x==0) y z=if x=0 then y else z:=by unfold zai;by_cases h:x=0<;>simp [h]
theorem zo6 (s:Step) (m:Message) (hl:s.o.messages.length≤1000000):FnG Tryz.prog 141 3 (wMi s) [.ptr 2 0,dMsg2.can m] (.tup []) (wMoM (za3 s m)):=by
 refine FnG.of_vc (zah zad fun _=>none) Tryz.func141 rfl (by decide) rfl 300 (p:=fun (V:List PE→Prop)=>let v0:=Message.logTerm m;let v2:=m.snap;let v11:=v2.config;let v12:=Step.n (za3 s m);let v16:=Step.o (za3 s m);let v22:=m.term==0;let v23:=[Message.mk (zai v22 m.kind m.kind) (zai v22 s.n.id s.n.id) (zai v22 m.to_ m.to_) (zai v22 s.n.kept.term m.term) (zai v22 m.index m.index) (zai v22 v0 v0) (if v22=true then m.entries else m.entries) (zai v22 m.commit m.commit) (zai v22 m.round m.round) (zac v22 m.ok m.ok) (Snap.mk (zai v22 v2.index v2.index) (zai v22 v2.term v2.term) (Config.mk (if v22=true then v11.voters else v11.voters) (if v22=true then v11.learners else v11.learners)) (if v22=true then v2.data else v2.data)) (zai v22 m.ask m.ask) (zai v22 m.seq m.seq) (if v22=true then m.data else m.data)];True∧True∧True∧True∧((s.o.messages.length+v23.length)*(1024:Nat)≤140737488355328∧True)∧qN0 s.n v12 (qN4 s.n v12 (qO5 s.o v16 (s.o.messages++v23=v16.messages∧True)))) (by kernel_rfl) ?_
 simp only [qN0,qN4,qO5,imp_self,implies_true,true_and,and_true,zaf,zag,zaU,zbx,ite_self,za3,msgS,zhN,List.length_cons,List.length_nil]
 omega
def zvR:Ent:=zbs 141 3 mW dMsg2 vrW [1,2] glW fun s m=>([s.o.messages.length≤1000000],.tup [],wMoM (za3 s m))
theorem zei:zae Tryz.prog zvR:=za2 (zo6 default default (by decide)).1 fun s m h=>zo6 s m (h _ (by simp))
theorem zlL (s:Step) (m:Message) (hl:s.o.messages.length≤1000000):FnG Tryz.prog 141 3 (sMi 115 s) [.ptr 2 0,dMsg2.can m] (.tup []) (sMoM 115 (za3 s m)):=by
 refine FnG.of_vc (zah zad fun _=>none) Tryz.func141 rfl (by decide) rfl 300 (p:=fun (V:List PE→Prop)=>let v2:=m.snap;let v3:=Message.logTerm m;let v5:=v2.config;let v14:=Step.o (za3 s m);let v16:=Step.n (za3 s m);let v22:=m.term==0;let v23:=[Message.mk (zai v22 m.kind m.kind) (zai v22 s.n.id s.n.id) (zai v22 m.to_ m.to_) (zai v22 s.n.kept.term m.term) (zai v22 m.index m.index) (zai v22 v3 v3) (if v22=true then m.entries else m.entries) (zai v22 m.commit m.commit) (zai v22 m.round m.round) (zac v22 m.ok m.ok) (Snap.mk (zai v22 v2.index v2.index) (zai v22 v2.term v2.term) (Config.mk (if v22=true then v5.voters else v5.voters) (if v22=true then v5.learners else v5.learners)) (if v22=true then v2.data else v2.data)) (zai v22 m.ask m.ask) (zai v22 m.seq m.seq) (if v22=true then m.data else m.data)];True∧True∧True∧True∧((s.o.messages.length+v23.length)*(1024:Nat)≤140737488355328∧True)∧qN0 s.n v16 (qN6 s.n v16 (qO5 s.o v14 (s.o.messages++v23=v14.messages∧True)))) (by kernel_rfl) ?_
 simp only [qN0,qN6,qO5,imp_self,implies_true,true_and,and_true,zaf,zag,zaU,zbx,ite_self,za3,msgS,zhN,List.length_cons,List.length_nil]
 omega
def zxI:Ent:=zbs 141 3 mWS dMsg2 vrS [1,2] glS fun s m=>([s.o.messages.length≤1000000],.tup [],sMoM 115 (za3 s m))
theorem zqt:zae Tryz.prog zxI:=za2 (zlL default default (by decide)).1 fun s m h=>zlL s m (h _ (by simp))
theorem zlR (s:Step) (m:Message) (hl:s.o.messages.length≤1000000):FnG Tryz.prog 192 3 (sMi 125 s) [.ptr 2 0,dMsg2.can m] (.tup []) (sMoM 125 (za3 s m)):=by
 refine FnG.of_vc (zah zad fun _=>none) Tryz.func192 rfl (by decide) rfl 300 (p:=fun (V:List PE→Prop)=>let v0:=Message.logTerm m;let v3:=m.snap;let v9:=v3.config;let v14:=Step.o (za3 s m);let v17:=Step.n (za3 s m);let v22:=m.term==0;let v23:=[Message.mk (zai v22 m.kind m.kind) (zai v22 s.n.id s.n.id) (zai v22 m.to_ m.to_) (zai v22 s.n.kept.term m.term) (zai v22 m.index m.index) (zai v22 v0 v0) (if v22=true then m.entries else m.entries) (zai v22 m.commit m.commit) (zai v22 m.round m.round) (zac v22 m.ok m.ok) (Snap.mk (zai v22 v3.index v3.index) (zai v22 v3.term v3.term) (Config.mk (if v22=true then v9.voters else v9.voters) (if v22=true then v9.learners else v9.learners)) (if v22=true then v3.data else v3.data)) (zai v22 m.ask m.ask) (zai v22 m.seq m.seq) (if v22=true then m.data else m.data)];True∧True∧True∧True∧((s.o.messages.length+v23.length)*(1024:Nat)≤140737488355328∧True)∧qN0 s.n v17 (qN6 s.n v17 (qO5 s.o v14 (s.o.messages++v23=v14.messages∧True)))) (by kernel_rfl) ?_
 simp only [qN0,qN6,qO5,imp_self,implies_true,true_and,and_true,zaf,zag,zaU,zbx,ite_self,za3,msgS,zhN,List.length_cons,List.length_nil]
 omega
def zjT:Ent:=zbs 192 3 mSt dMsg2 vrS [1,2] glS fun s m=>([s.o.messages.length≤1000000],.tup [],sMoM 125 (za3 s m))
theorem zbQ:zae Tryz.prog zjT:=za2 (zlR default default (by decide)).1 fun s m h=>zlR s m (h _ (by simp))
def recK (k:Kept) (r:Record):Kept:=
 if r.kind=1 then {k with term:=r.term,vote:=r.vote}
 else if r.kind=2 then {k with entries:=k.entries++[r.entry]}
 else if r.kind=3 then {k with entries:=k.entries.take (IntKind.i64.wrap (IntKind.i64.wrap (r.index-1)-k.snap.index)).toNat}
 else if r.kind=4 then {k with entries:=(if (zaI k r.snap.index).2=0∧(zaI k r.snap.index).1=r.snap.term then k.entries.drop (IntKind.i64.wrap (r.snap.index-k.snap.index)).toNat else []),snap:=r.snap}
 else k
def recS (s:Step) (r:Record):Step:=⟨{s.n with kept:=recK s.n.kept r},{s.o with records:=s.o.records++[r]}⟩
structure SmallR (r:Record):Prop where
 e:zbA r.entry
 s:zaw r.snap.config
def zg6 (k:Kept) (r:Record):Prop:=r.kind=3→0≤IntKind.i64.wrap (IntKind.i64.wrap (r.index-1)-k.snap.index)∧IntKind.i64.wrap (IntKind.i64.wrap (r.index-1)-k.snap.index)≤(k.entries.length:Int)
def tabW1:List Ent:=[zqP,zhq,zjR]
theorem zl3:∀ e∈tabW1,zae Tryz.prog e:=zaa zke (zaa zdh (zaa zeh zad))
theorem zfJ (s:Step) (r:Record) (hl:s.o.records.length≤1000000) (he:s.n.kept.entries.length≤1000000) (hr:SmallR r) (hc:zg6 s.n.kept r) (h4:r.kind≠4):FnG Tryz.prog 100 3 (wMi s) [.ptr 2 0,dRec2.can r] (.tup []) (wMo (recS s r)):=by
 refine FnG.of_vc (zah zl3 fun _=>none) Tryz.func100 rfl (by decide) rfl 300 (p:=fun (V:List PE→Prop)=>let v0:=r.kind;let v1:=s.o;let v2:=r.snap;let v3:=s.n;let v4:=v3.kept;let v6:=v2.index;let v7:=v2.config;let v8:=v1.records;let v9:=v4.entries;let v10:=Step.n (recS s r);let v12:=Step.o (recS s r);let v13:=v10.kept;let v17:=v13.snap;let v18:=v13.entries;let v20:=[Record.entry r];let v21:=v9.length;let v30:=(↑v21:Int);let v31:=v0==3;let v32:=v0==2;let v33:=v0==1;let v34:=v0==4;let v35:=IntKind.wrap IntKind.i64 (v6-v4.snap.index);let v36:=Prod.snd (zaI v4 v6)==0;let v37:=IntKind.wrap IntKind.i64 (IntKind.wrap IntKind.i64 (r.index-(1:Int))-v4.snap.index);let v38:=zac v36 (Prod.fst (zaI v4 v6)==v2.term) false;True∧True∧True∧True∧True∧(v33=true→True∧((v8.length+List.length [r])*(1024:Nat)≤140737488355328∧True)∧v3.id=v10.id∧v3.role=v10.role∧r.term=v13.term∧r.vote=v13.vote∧qN7 v3 v10 (v8++[r]=v12.records∧v1.messages=v12.messages∧v1.ready=v12.ready∧v1.lost=v12.lost∧True))∧(v33=false→True∧True∧(v32=true→(v20.length≤17592186044416∧zbS v20∧(v21+v20.length)*(1024:Nat)≤140737488355328∧True)∧((v8.length+List.length [r])*(1024:Nat)≤140737488355328∧True)∧qN0 v3 v10 (qN8 v3 v10 (v9++v20=v18∧qN9 v3 v10 (v8++[r]=v12.records∧v1.messages=v12.messages∧v1.ready=v12.ready∧v1.lost=v12.lost∧True))))∧(v32=false→True∧True∧(v31=true→((0:Int)≤v37∧v37≤v30∧True)∧((v8.length+List.length [r])*(1024:Nat)≤140737488355328∧True)∧qN0 v3 v10 (qN8 v3 v10 (List.take (Int.toNat v37) v9=v18∧qN9 v3 v10 (v8++[r]=v12.records∧v1.messages=v12.messages∧v1.ready=v12.ready∧v1.lost=v12.lost∧True))))∧(v31=false→True∧True∧(v34=true→(v21≤17592186044416∧True)∧((v36=true→v36=true)∧(v36=true→v36=true)∧(v36=true→v36=true)∧(v36=true→v36=true)∧(v36=true→v36=true)∧True)∧True∧(v38=true→((0:Int)≤v35∧v35≤v30∧v30≤v30∧v21≤17592186044416∧True)∧(zaw v7∧True)∧((v8.length+List.length [r])*(1024:Nat)≤140737488355328∧True)∧False)∧(v38=false→True∧(zaw v7∧True)∧((v8.length+List.length [r])*(1024:Nat)≤140737488355328∧True)∧qN10 v3 v10 (v6=v17.index∧v2.term=v17.term∧v7.voters=v17.config.voters∧v7.learners=v17.config.learners∧v2.data=v17.data∧qN8 v3 v10 (v18=[]∧qN9 v3 v10 (v8++[r]=v12.records∧v1.messages=v12.messages∧v1.ready=v12.ready∧v1.lost=v12.lost∧True)))))∧(v34=false→((v8.length+List.length [r])*(1024:Nat)≤140737488355328∧True)∧qN0 v3 v10 (qN4 v3 v10 (v8++[r]=v12.records∧v1.messages=v12.messages∧v1.ready=v12.ready∧v1.lost=v12.lost∧True))))))) (by kernel_rfl) ?_
 simp only [qN0,qN10,qN4,qN7,qN8,qN9,imp_self,implies_true,true_and,and_true,zaf,zag,zaU,zbx,ite_self]
 have hsl:zbS [r.entry]:=⟨by simp,fun x hx=>by simp only [List.mem_singleton] at hx;subst hx;exact hr.e⟩
 simp only [List.length_cons,List.length_nil,List.take_length]
 refine ⟨fun h=>?_,fun h1=>⟨fun h=>?_,fun h2=>⟨fun h=>?_,fun h3=>⟨fun h=>?_,fun h5=>?_⟩⟩⟩⟩
 ·have e:r.kind=1:=by simpa using h
  simp only [qN0,qN10,qN4,qN7,qN8,qN9,recS,recK,e,if_true,true_and,and_true];omega
 ·have e:r.kind=2:=by simpa using h
  simp [recS,recK,e,hsl];omega
 ·have e:r.kind=3:=by simpa using h
  have:=hc e
  simp [recS,recK,e];omega
 ·have e:r.kind=4:=by simpa using h
  exact absurd e h4
 ·have e1:¬ r.kind=1:=by simpa using h1
  have e2:¬ r.kind=2:=by simpa using h2
  have e3:¬ r.kind=3:=by simpa using h3
  have e4:¬ r.kind=4:=by simpa using h5
  simp [recS,recK,e1,e2,e3,e4];omega
def eRec:Ent:=zbs 100 3 mW dRec2 vrW [1,2] glW fun s r=>([s.o.records.length≤1000000,s.n.kept.entries.length≤1000000,SmallR r,zg6 s.n.kept r,r.kind≠4],.tup [],wMo (recS s r))
theorem zo4:SmallR default:=⟨⟨by decide,by decide⟩,⟨by decide,by decide⟩⟩
theorem zdI:zae Tryz.prog eRec:=za2 (zfJ default default (by decide) (by decide) zo4 (fun h=>by cases h) (by decide)).1 fun s r h=>zfJ s r (h _ (by simp)) (h _ (by simp)) (h _ (by simp)) (h _ (by simp)) (h _ (by simp))
theorem znp (s:Step) (r:Record) (hl:s.o.records.length≤1000000) (he:s.n.kept.entries.length≤1000000) (hr:SmallR r) (h4:r.kind=4)
  (hc:(zaI s.n.kept r.snap.index).2=0→0≤IntKind.i64.wrap (r.snap.index-s.n.kept.snap.index)∧IntKind.i64.wrap (r.snap.index-s.n.kept.snap.index)≤(s.n.kept.entries.length:Int)):FnG Tryz.prog 100 3 (wMi s) [.ptr 2 0,dRec2.can r] (.tup []) (wMoS (recS s r)):=by
 refine FnG.of_vc (zah zl3 fun _=>none) Tryz.func100 rfl (by decide) rfl 300 (p:=fun (V:List PE→Prop)=>let v0:=s.n;let v1:=r.kind;let v2:=r.snap;let v3:=s.o;let v4:=v2.config;let v6:=v0.kept;let v7:=v2.index;let v8:=v3.records;let v9:=v6.entries;let v10:=Step.o (recS s r);let v12:=Step.n (recS s r);let v14:=v12.kept;let v16:=v9.length;let v19:=v14.entries;let v20:=v14.snap;let v21:=[Record.entry r];let v22:=v20.config;let v30:=(↑v16:Int);let v31:=v1==3;let v32:=v1==1;let v33:=v1==2;let v34:=v1==4;let v35:=IntKind.wrap IntKind.i64 (v7-v6.snap.index);let v36:=Prod.snd (zaI v6 v7)==0;let v38:=IntKind.wrap IntKind.i64 (IntKind.wrap IntKind.i64 (r.index-(1:Int))-v6.snap.index);let v39:=List.take (Int.toNat v38) v9;let v40:=zac v36 (Prod.fst (zaI v6 v7)==v2.term) false;True∧True∧True∧True∧True∧(v32=true→True∧((v8.length+List.length [r])*(1024:Nat)≤140737488355328∧True)∧v0.id=v12.id∧v0.role=v12.role∧r.term=v14.term∧r.vote=v14.vote∧qN11 v0 v12 (v16≤17592186044416∧qN12 v0 v12 (v8++[r]=v10.records∧v3.messages=v10.messages∧v3.ready=v10.ready∧v3.lost=v10.lost∧True)))∧(v32=false→True∧True∧(v33=true→(v21.length≤17592186044416∧zbS v21∧(v16+v21.length)*(1024:Nat)≤140737488355328∧True)∧((v8.length+List.length [r])*(1024:Nat)≤140737488355328∧True)∧qN0 v0 v12 ((v9++v21)=v19∧List.length (v9++v21)≤17592186044416∧qN12 v0 v12 (v8++[r]=v10.records∧v3.messages=v10.messages∧v3.ready=v10.ready∧v3.lost=v10.lost∧True)))∧(v33=false→True∧True∧(v31=true→((0:Int)≤v38∧v38≤v30∧True)∧((v8.length+List.length [r])*(1024:Nat)≤140737488355328∧True)∧qN0 v0 v12 (v39=v19∧v39.length≤17592186044416∧qN12 v0 v12 (v8++[r]=v10.records∧v3.messages=v10.messages∧v3.ready=v10.ready∧v3.lost=v10.lost∧True)))∧(v31=false→True∧True∧(v34=true→(v16≤17592186044416∧True)∧((v36=true→v36=true)∧(v36=true→v36=true)∧(v36=true→v36=true)∧(v36=true→v36=true)∧(v36=true→v36=true)∧True)∧True∧(v40=true→((0:Int)≤v35∧v35≤v30∧v30≤v30∧v16≤17592186044416∧True)∧(zaw v4∧True)∧((v8.length+List.length [r])*(1024:Nat)≤140737488355328∧True)∧qN10 v0 v12 (v7=v20.index∧v2.term=v20.term∧v4.voters=v22.voters∧v4.learners=v22.learners∧v2.data=v20.data∧List.drop (Int.toNat v35) (List.take v16 v9)=v19∧qN12 v0 v12 (v8++[r]=v10.records∧v3.messages=v10.messages∧v3.ready=v10.ready∧v3.lost=v10.lost∧True)))∧(v40=false→True∧(zaw v4∧True)∧((v8.length+List.length [r])*(1024:Nat)≤140737488355328∧True)∧qN10 v0 v12 (v7=v20.index∧v2.term=v20.term∧v4.voters=v22.voters∧v4.learners=v22.learners∧v2.data=v20.data∧v19=[]∧qN12 v0 v12 (v8++[r]=v10.records∧v3.messages=v10.messages∧v3.ready=v10.ready∧v3.lost=v10.lost∧True))))∧(v34=false→((v8.length+List.length [r])*(1024:Nat)≤140737488355328∧True)∧qN0 v0 v12 (v9=v19∧v16≤17592186044416∧qN12 v0 v12 (v8++[r]=v10.records∧v3.messages=v10.messages∧v3.ready=v10.ready∧v3.lost=v10.lost∧True))))))) (by kernel_rfl) ?_
 simp only [qN0,qN10,qN11,qN12,imp_self,implies_true,true_and,and_true,zaf,zag,zaU,zbx,ite_self,h4]
 refine ⟨fun h=>absurd h (by decide),fun _=>⟨fun h=>absurd h (by decide),fun _=>⟨fun h=>absurd h (by decide),fun _=>⟨fun _=>?_,fun h=>absurd h (by decide)⟩⟩⟩⟩
 simp only [List.length_cons,List.length_nil,List.take_length]
 refine ⟨by omega,fun h=>?_,fun h=>?_⟩
 ·have h2:(zaI s.n.kept r.snap.index).2=0∧(zaI s.n.kept r.snap.index).1=r.snap.term:=by simpa using h
  have:=hc h2.1
  simp [recS,recK,h4,h2,hr.s];omega
 ·have h2:¬ ((zaI s.n.kept r.snap.index).2=0∧(zaI s.n.kept r.snap.index).1=r.snap.term):=by simpa using h
  simp [recS,recK,h4,h2,hr.s];omega
def zvT:Ent:=zbs 100 3 mW dRec2 vrW [1,2] glW fun s r=>([s.o.records.length≤1000000,s.n.kept.entries.length≤1000000,SmallR r,r.kind=4,(zaI s.n.kept r.snap.index).2=0→0≤IntKind.i64.wrap (r.snap.index-s.n.kept.snap.index)∧IntKind.i64.wrap (r.snap.index-s.n.kept.snap.index)≤(s.n.kept.entries.length:Int)],.tup [],wMoS (recS s r))
theorem zm3:zae Tryz.prog zvT:=za2 (zfJ default default (by decide) (by decide) zo4 (fun h=>by cases h) (by decide)).1 fun s r h=>znp s r (h _ (by simp)) (h _ (by simp)) (h _ (by simp)) (h _ (by simp)) (h _ (by simp))
def Step.svs (ls:List Nat) (s:Step):List SV:=s.n.svs ls++s.o.svs ls
theorem zvb {E:Env} {w:World} (hz:E.zero) {n:Node} {o:Out} {m k:List Nat} {xs ys:List Value} (h1:DenL E w (n.svs m) xs) (h2:DenL E w (o.svs k) ys):DenL E w (Step.svs [0] ⟨n,o⟩) (xs++ys):=
 DenL.app (Node.svs_of (RdL.mono (fun b _ hb=>hz.set hb) (Node.svs_rd h1))) (Out.svs_of (RdL.mono (fun b _ hb=>hz.set hb) (Out.svs_rd h2)))
def dRpS (T:TypeId):Dec Step where
 dec:=fun s=>match s with
  | .rp _ T' cs 0=>if T'=T then (match Node.of (cs.take 17),Out.of (cs.drop 17) with | some (n,_),some (o,_)=>some ⟨n,o⟩ | _,_=>none) else none
  | _=>none
 can:=fun s=> .rp [0] T (s.svs [0]) 0
 Okp:=fun s=>s.n.Ok
 okp:=fun s E w v ⟨_,xs,_,_,_,hl⟩=>by
  have h:=hl.take 17
  have e:(Step.svs [0] s).take 17=s.n.svs [0]:=by unfold Step.svs;exact List.take_left' rfl
  rw [e] at h
  exact Node.ok_of (Node.svs_rd h)
 ok:=by
  intro s x h E w v hz hd
  split at h
  case h_2=>cases h
  rename_i ls T' cs
  split at h
  case isFalse=>cases h
  rename_i hT
  subst hT
  split at h
  case h_2=>cases h
  rename_i n m o k e1 e2
  simp only [Option.some.injEq] at h
  subst h
  obtain ⟨b,xs,hv,hb,hh,hl⟩:=hd
  have h3:=zvb hz (Node.of_ok e1 (hl.take 17)) (Out.of_ok e2 (hl.drop 17))
  rw [List.take_append_drop] at h3
  exact ⟨b,xs,hv,hz.set hb,hh,h3⟩
noncomputable def tabX:List Ent:=[zkg,zhu,zik,zvR,eRec]
theorem zf6:∀ e∈tabX,zae Tryz.prog e:=zaa zej (zaa zdi (zaa zgj (zaa zei (zaa zdI zad))))
theorem zlu (s:Step):FnC Tryz.prog 113 [(dRpS 115).can s] (.int .i64 (zaq s.n.kept).1) D2:=by
 refine FnG.of_vc (zah zf6 fun _=>none) Tryz.func113 rfl (by decide) rfl 300 (p:=fun (V:List PE→Prop)=>let v0:=Prod.fst (zaq s.n.kept);True∧True∧True∧v0=v0∧True) (by kernel_rfl) ?_
 simp only [imp_self,implies_true,true_and,and_true,zaf,zag]
def zjP:Ent:=ent1 113 (dRpS 115) fun s=>([],.int .i64 (zaq s.n.kept).1,D2)
theorem zdg:zae Tryz.prog zjP:=zan (zlu default).1 fun s h=>zlu s
def zaE (n:Node):Bool:=mayC (zav n)&&zbC (zav n).voters n.yes
theorem zg9 (s:Step) (hn:SmallN s.n):FnC Tryz.prog 139 [(dRpS 115).can s] (.bool (zaE s.n)) D2:=by
 refine FnG.of_vc (zah zf6 fun _=>none) Tryz.func139 rfl (by decide) rfl 300 (p:=fun (V:List PE→Prop)=>let v1:=zav s.n;True∧(SmallN s.n∧zaw v1∧True)∧(mayC v1&&zbC v1.voters s.n.yes)=zaE s.n∧True) (by kernel_rfl) ?_
 simp only [imp_self,implies_true,true_and,and_true,zaf,zag]
 exact ⟨⟨hn,zcG hn⟩,rfl⟩
def zwk:Ent:=ent1 139 (dRpS 115) fun s=>([SmallN s.n],.bool (zaE s.n),D2)
theorem zhs:zae Tryz.prog zwk:=zan (zg9 default zbE).1 fun s h=>zg9 s (h _ (by simp))
def runS (s:Step) (role:Int):Step:=⟨{s.n with elapsed:=0,lead:=0,role:=role,yes:=[s.n.id]},s.o⟩
theorem znj {s:Step} {role:Int} (h:SmallN s.n):SmallN (runS s role).n:=⟨h.k,by simp [runS],h.peers,h.reads⟩
structure SmallO (o:Out):Prop where
 records:o.records.length≤1000000
 messages:o.messages.length≤1000000
 ready:o.ready.length≤1000000
 lost:o.lost.length≤1000000
theorem SmallN.ls {n:Node} (h:SmallN n):n.kept.entries.length≤17592186044416∧n.yes.length≤17592186044416∧n.peers.length≤17592186044416∧n.reads.length≤17592186044416∧n.kept.entries.length≤1000000:=by
 have h1:=h.k.1.1;have h2:=h.yes;have h3:=h.peers;have h4:=h.reads
 omega
theorem SmallO.ls {n:Out} (h:SmallO n):n.records.length≤17592186044416∧n.messages.length≤17592186044416∧n.ready.length≤17592186044416∧n.lost.length≤17592186044416:=by
 have h1:=h.records;have h2:=h.messages;have h3:=h.ready;have h4:=h.lost
 omega
theorem zub (s:Step) (role:Int) (hn:SmallN s.n) (ho:SmallO s.o):FnG Tryz.prog 78 3 (wMi s) [.ptr 2 0,dInt.L.can role] (.bool (zaE (runS s role).n)) (wMo (runS s role)):=by
 refine FnG.of_vc (zah (zaa zhs zad) fun _=>none) Tryz.func78 rfl (by decide) rfl 300 (p:=fun (V:List PE→Prop)=>let v1:=s.n;let v3:=v1.id;let v7:=v1.reads;let v12:=Step.o (runS s role);let v13:=Step.n (runS s role);let v17:=(0:Int);let v22:=Node.mk v3 role v1.kept v1.commit v17 v17 ([v3]) v1.peers v1.round v7;True∧True∧(v1.kept.entries.length≤17592186044416∧List.length ([v3])≤17592186044416∧v1.peers.length≤17592186044416∧v7.length≤17592186044416∧s.o.records.length≤17592186044416∧s.o.messages.length≤17592186044416∧s.o.ready.length≤17592186044416∧s.o.lost.length≤17592186044416∧SmallN v22∧True)∧zaE v22=zaE v13∧v3=v13.id∧role=v13.role∧qN13 v1 v13 (v17=v13.lead∧v17=v13.elapsed∧v1.round=v13.round∧v1.kept.entries=v13.kept.entries∧([v3])=v13.yes∧v1.peers=v13.peers∧v7=v13.reads∧qO14 s.o v12 (s.o.lost=v12.lost∧True))) (by kernel_rfl) ?_
 simp only [qN13,qO14,imp_self,implies_true,true_and,and_true,zaf,zag]
 obtain ⟨b1,b2,b3,b4,_⟩:=hn.ls
 obtain ⟨c1,c2,c3,c4⟩:=ho.ls
 refine ⟨⟨b1,by simp,b3,b4,c1,c2,c3,c4,znj (role:=role) hn⟩,?_⟩
 simp only [runS,and_self]
def eRun:Ent:=zbs 78 3 mW dInt.L vrW [1,0] glW fun s role=>([SmallN s.n,SmallO s.o],.bool (zaE (runS s role).n),wMo (runS s role))
theorem zo5:SmallO default:=⟨by decide,by decide,by decide,by decide⟩
theorem zqu:zae Tryz.prog eRun:=za2 (zub default 0 zbE zo5).1 fun s r h=>zub s r (h _ (by simp)) (h _ (by simp))
def layE (s:Step) (e:Entry):Entry:={e with index:=IntKind.i64.wrap ((zaq s.n.kept).1+1),term:=s.n.kept.term}
def layS (s:Step) (e:Entry):Step:=recS s (entR (layE s e))
theorem zuq (s:Step) (e:Entry) (hn:SmallN s.n) (ho:SmallO s.o) (he:zbA e):FnG Tryz.prog 105 3 (wMi s) [.ptr 2 0,dEnt2.can e] (.tup []) (wMo (layS s e)):=by
 refine FnG.of_vc (zah (zaa zdg zf6) fun _=>none) Tryz.func105 rfl (by decide) rfl 300 (p:=fun (V:List PE→Prop)=>let v2:=s.n.kept;let v3:=Step.o (layS s e);let v4:=Step.n (layS s e);let v5:=s.o.records.length;let v6:=(0:Int);let v8:=v2.entries.length;let v11:=Record.mk (2:Int) v6 v6 (Entry.mk (IntKind.wrap IntKind.i64 (Prod.fst (zaq v2)+(1:Int))) v2.term e.kind e.config e.data) v6 (Snap.mk v6 v6 (Config.mk [] []) (ByteArray.mk #[]));let v12:=recS s v11;True∧(v8≤17592186044416∧s.n.yes.length≤17592186044416∧s.n.peers.length≤17592186044416∧s.n.reads.length≤17592186044416∧v5≤17592186044416∧s.o.messages.length≤17592186044416∧s.o.ready.length≤17592186044416∧s.o.lost.length≤17592186044416∧True)∧(v5≤1000000∧v8≤1000000∧SmallR v11∧zg6 v2 v11∧(2:Int)≠(4:Int)∧True)∧qN0 v12.n v4 (qN4 v12.n v4 (qO14 v12.o v3 (v12.o.lost=v3.lost∧True)))) (by kernel_rfl) ?_
 simp only [qN0,qN4,qO14,imp_self,implies_true,true_and,and_true,zaf,zag]
 obtain ⟨b1,b2,b3,b4,b5⟩:=hn.ls
 obtain ⟨c1,c2,c3,c4⟩:=ho.ls
 refine ⟨⟨b1,b2,b3,b4,c1,c2,c3,c4⟩,⟨ho.records,b5,⟨he,⟨Nat.zero_le _,Nat.zero_le _⟩⟩,(fun h=>absurd (show (2:Int)=3 from h) (by decide)),by decide⟩,?_⟩
 simp only [layS,layE,entR,zs,and_self]
def eLay:Ent:=zbs 105 3 mW dEnt2 vrW [1,2] glW fun s e=>([SmallN s.n,SmallO s.o,zbA e],.tup [],wMo (layS s e))
theorem zwf:zae Tryz.prog eLay:=za2 (zuq default default zbE zo5 ⟨by decide,by decide⟩).1 fun s r h=>zuq s r (h _ (by simp)) (h _ (by simp)) (h _ (by simp))
def askM (s:Step) (m:Message) (v:Int):Message:={m with index:=(zaq s.n.kept).1,logTerm:=(zaq s.n.kept).2,to_:=v}
def askS (s:Step) (m:Message):Step:=⟨s.n,{s.o with messages:=s.o.messages++(zbh (zav s.n).voters s.n.id).map fun v=>msgS s (askM s m v)}⟩
theorem ztW (s:Step) (m:Message) (hn:SmallN s.n) (ho:SmallO s.o) (hm:s.o.messages.length≤900000) (hv:(zav s.n).voters.length≤4000):FnG Tryz.prog 80 3 (wMi s) [.ptr 2 0,dMsg2.can m] (.tup []) (wMoM (askS s m)):=by
 refine FnG.of_vc (zah zf6 fun _=>none) Tryz.func80 rfl (by decide) rfl 300 (p:=fun (V:List PE→Prop)=>True∧(s.n.kept.entries.length≤17592186044416∧True)∧(s.n.kept.entries.length≤17592186044416∧s.n.yes.length≤17592186044416∧s.n.peers.length≤17592186044416∧s.n.reads.length≤17592186044416∧SmallN s.n∧True)∧V []) (by kernel_rfl) ?_
 simp only [qN0,qN15,qN4,qN8,qO5,imp_self,implies_true,true_and,and_true,zaf,zag]
 obtain ⟨b1,b2,b3,b4,b5⟩:=hn.ls
 obtain ⟨V,hV⟩:∃ V,(zav s.n).voters=V:=⟨_,rfl⟩
 refine ⟨b1,⟨b1,b2,b3,b4,hn⟩,?_⟩
 refine LoopG.head (zah zf6 fun _=>none) 0 (A:=Nat×Int) (fun j=>j.1≤V.length) (fun j=>[(24,.int .i64 j.1),(23,.int .i64 (V.length:Int)),(22,.sl [60] (.rInts V))]) (fun j=>[(2,.cells 115 (wCs [1] s 3 4 5 6 7 12 9 10)),(7,.row 139 [2,61] (.rRecord s.o.records)),(9,.row 96 [2,61] (.rRead s.o.ready)),(10,.row 3 [2,61] (.rInts s.o.lost)),(8,.dead),(12,.row 39 [2,61] (.rMessage (s.o.messages++(zbh (V.take j.1) s.n.id).map fun v=>msgS s (askM s m v)))),(11,.cells 39 ((askM s m j.2).svs [2])),(60,.dead),(61,.dead)]) (fun j=>V.length-j.1) (0,m.to_) (Nat.zero_le _) (p0:=let v0:=m.snap;let v2:=s.n;let v21:=Config.voters (zav v2);let v24:=askM s m m.to_;let v31:=v24.snap;(0:Int)=(↑(0:Nat):Int)∧(↑(v21.length):Int)=(↑(List.length V):Int)∧v21=V∧qN0 v2 v2 (qN8 v2 v2 (qO5 s.o s.o (s.o.messages=s.o.messages++List.map (fun (v:Int)=>msgS s (askM s m v)) (zbh (List.take (0:Nat) V) v2.id)∧m.kind=v24.kind∧m.from_=v24.from_∧m.to_=v24.to_∧m.term=v24.term∧Prod.fst (zaq v2.kept)=v24.index∧Prod.snd (zaq v2.kept)=Message.logTerm v24∧m.entries=v24.entries∧m.commit=v24.commit∧m.round=v24.round∧m.ok=v24.ok∧v0.index=v31.index∧v0.term=v31.term∧v0.config.voters=v31.config.voters∧v0.config.learners=v31.config.learners∧v0.data=v31.data∧m.ask=v24.ask∧m.seq=v24.seq∧m.data=v24.data∧qN15 v2 v2 (v2.reads=v2.reads∧True))))) (by kernel_rfl) ?_ 300 (p:=fun (x:Nat×Int) (V_1:List PE→Prop)=>let v6:=Step.o (askS s m);let v7:=Step.n (askS s m);let v10:=(↑(List.length V):Int);let v13:=(↑(Prod.fst x):Int);let v14:=List.getD V (Prod.fst x) (0:Int) != s.n.id;let v15:=decide (v13<v10);let v16:=s.o.messages++List.map (fun (v:Int)=>msgS s (askM s m v)) (zbh (List.take (Prod.fst x) V) s.n.id);True∧True∧(v15=true→((0:Int)≤v13∧v13<v10∧True)∧True∧True∧True∧(v14=true→(v16.length≤1000000∧True)∧True∧V_1 [PE.a,PE.a])∧(v14=false→True∧V_1 [PE.a,PE.b]))∧(v15=false→qN0 s.n v7 (qN4 s.n v7 (qO5 s.o v6 (v16=v6.messages∧True))))) (by intro x;kernel_rfl) ?_
 ·simp [zbh,askM,hV]
 rintro ⟨j,t⟩ hj
 dsimp only at hj
 simp only [qN0,qN15,qN4,qN8,qO5,imp_self,implies_true,true_and,and_true,decide_eq_true_eq,decide_eq_false_iff_not]
 have hdl:(zbh (V.take j) s.n.id).length≤4000:=by
  have h1:(zbh (V.take j) s.n.id).length≤(V.take j).length:=List.length_filter_le _ _
  rw [hV] at hv
  simp only [List.length_take] at h1;omega
 have hsn:j<V.length→zbh (V.take (j+1)) s.n.id=zbh (V.take j) s.n.id++(if (V.getD j 0 != s.n.id)=true then [V.getD j 0] else []):=fun hj=>by
  rw [zam (d:=(0:Int)) hj,zbh,List.filter_append]
  unfold zbh
  congr 1
  simp only [List.filter_cons,List.filter_nil,bne]
 refine ⟨fun h6=>⟨⟨by omega,h6⟩,fun h7=>⟨by simp only [List.length_append,List.length_map];omega,?_⟩,fun h7=>?_⟩,fun h6=>?_⟩
 ·refine Back.mk (j+1,V.getD j 0) (by show j+1≤_;omega) (by show _-(j+1)<_-j;omega) (p0:=let v9:=askM s m t;let v14:=Message.logTerm v9;let v20:=v9.snap;let v25:=(↑(List.length V):Int);let v26:=List.getD V j (0:Int);let v27:=askM s m v26;let v28:=v27.snap;let v30:=za3 (Step.mk s.n (Out.mk s.o.records (s.o.messages++List.map (fun (v:Int)=>msgS s (askM s m v)) (zbh (List.take j V) s.n.id)) s.o.ready s.o.lost)) (Message.mk v9.kind v9.from_ v26 v9.term v9.index v14 v9.entries v9.commit v9.round v9.ok v20 v9.ask v9.seq v9.data);IntKind.wrap IntKind.i64 ((↑j:Int)+(1:Int))=(↑(j+(1:Nat)):Int)∧v25=v25∧V=V∧qN0 v30.n s.n (qN8 v30.n s.n (qO5 v30.o s.o (v30.o.messages=s.o.messages++List.map (fun (v:Int)=>msgS s (askM s m v)) (zbh (List.take (j+(1:Nat)) V) s.n.id)∧v9.kind=v27.kind∧v9.from_=v27.from_∧v26=v27.to_∧v9.term=v27.term∧v9.index=v27.index∧v14=Message.logTerm v27∧v9.entries=v27.entries∧v9.commit=v27.commit∧v9.round=v27.round∧v9.ok=v27.ok∧v20.index=v28.index∧v20.term=v28.term∧v20.config.voters=v28.config.voters∧v20.config.learners=v28.config.learners∧v20.data=v28.data∧v9.ask=v27.ask∧v9.seq=v27.seq∧v9.data=v27.data∧qN15 v30.n s.n (v30.n.reads=s.n.reads∧True))))) (by kernel_rfl) ?_
  simp only [qN0,qN15,qN4,qN8,qO5,true_and,and_true,za8 (i:=j) (by rw [hV] at hv;omega)]
  rw [hsn (by omega),if_pos h7]
  refine ⟨by omega,?_⟩
  simp [za3,msgS,askM]
  by_cases g:m.term=0<;>simp [g]
 ·refine Back.mk (j+1,V.getD j 0) (by show j+1≤_;omega) (by show _-(j+1)<_-j;omega) (p0:=let v16:=askM s m t;let v22:=v16.snap;let v28:=(↑(List.length V):Int);let v30:=List.getD V j (0:Int);let v31:=askM s m v30;let v32:=v31.snap;IntKind.wrap IntKind.i64 ((↑j:Int)+(1:Int))=(↑(j+(1:Nat)):Int)∧v28=v28∧V=V∧qN0 s.n s.n (qN8 s.n s.n (qO5 s.o s.o (s.o.messages++List.map (fun (v:Int)=>msgS s (askM s m v)) (zbh (List.take j V) s.n.id)=s.o.messages++List.map (fun (v:Int)=>msgS s (askM s m v)) (zbh (List.take (j+(1:Nat)) V) s.n.id)∧v16.kind=v31.kind∧v16.from_=v31.from_∧v30=v31.to_∧v16.term=v31.term∧v16.index=v31.index∧Message.logTerm v16=Message.logTerm v31∧v16.entries=v31.entries∧v16.commit=v31.commit∧v16.round=v31.round∧v16.ok=v31.ok∧v22.index=v32.index∧v22.term=v32.term∧v22.config.voters=v32.config.voters∧v22.config.learners=v32.config.learners∧v22.data=v32.data∧v16.ask=v31.ask∧v16.seq=v31.seq∧v16.data=v31.data∧qN15 s.n s.n (s.n.reads=s.n.reads∧True))))) (by kernel_rfl) ?_
  simp only [qN0,qN15,qN4,qN8,qO5,true_and,and_true,za8 (i:=j) (by rw [hV] at hv;omega)]
  rw [hsn (by omega),if_neg (by rw [h7];decide),List.append_nil]
  exact ⟨by omega,rfl,rfl,rfl,rfl,rfl,rfl,rfl,rfl,rfl,rfl,rfl,rfl,rfl,rfl,rfl,rfl,rfl,rfl,rfl⟩
 ·have:j=V.length:=by omega
  subst this
  rw [List.take_length]
  simp only [askS,hV,and_self]
def zwn:Ent:=zbs 80 3 mW dMsg2 vrW [1,2] glW fun s m=>([SmallN s.n,SmallO s.o,s.o.messages.length≤900000,(zav s.n).voters.length≤4000],.tup [],wMoM (askS s m))
theorem zmI:zae Tryz.prog zwn:=za2 (fnB Tryz.func80 (by decide) rfl) fun s m h=>ztW s m (h _ (by simp)) (h _ (by simp)) (h _ (by simp)) (h _ (by simp))
def zd7:Snap:=⟨0,0,⟨[],[]⟩,zs⟩
def zbB (m:Message) (ok:Bool) (i:Int):Message:=⟨6,0,m.from_,0,i,0,[],0,m.round,ok,zd7,0,0,zs⟩
theorem zdK (s:Step) (m:Message) (ok:Bool) (i:Int) (ho:s.o.messages.length≤1000000):FnG Tryz.prog 153 3 (wMi s) [.ptr 2 0,dMessage.L.can m,dBool.L.can ok,dInt.L.can i] (.tup []) (wMoM (za3 s (zbB m ok i))):=by
 refine FnG.of_vc (zah (zaa zei zad) fun _=>none) Tryz.func153 rfl (by decide) rfl 300 (p:=fun (V:List PE→Prop)=>let v0:=(0:Int);let v1:=za3 s (zbB m ok i);let v7:=za3 s (Message.mk (6:Int) v0 m.from_ v0 i v0 [] v0 m.round ok (Snap.mk v0 v0 (Config.mk [] []) (ByteArray.mk #[])) v0 v0 (ByteArray.mk #[]));True∧(s.o.messages.length≤1000000∧True)∧qN0 v7.n v1.n (qN4 v7.n v1.n (qO5 v7.o v1.o (v7.o.messages=v1.o.messages∧True)))) (by kernel_rfl) ?_
 simp only [qN0,qN4,qO5,imp_self,implies_true,true_and,and_true,zaf,zag]
 simp [ho,zbB,zd7,zs]
theorem zks (s:Step) (m:Message) (ok:Bool) (i:Int) (ho:s.o.messages.length≤1000000):FnG Tryz.prog 153 3 (sMi 115 s) [.ptr 2 0,dMessage.L.can m,dBool.L.can ok,dInt.L.can i] (.tup []) (sMoM 115 (za3 s (zbB m ok i))):=by
 refine FnG.of_vc (zah (zaa zqt zad) fun _=>none) Tryz.func153 rfl (by decide) rfl 300 (p:=fun (V:List PE→Prop)=>let v0:=(0:Int);let v1:=za3 s (zbB m ok i);let v7:=za3 s (Message.mk (6:Int) v0 m.from_ v0 i v0 [] v0 m.round ok (Snap.mk v0 v0 (Config.mk [] []) (ByteArray.mk #[])) v0 v0 (ByteArray.mk #[]));True∧(s.o.messages.length≤1000000∧True)∧qN0 v7.n v1.n (qN6 v7.n v1.n (qO5 v7.o v1.o (v7.o.messages=v1.o.messages∧True)))) (by kernel_rfl) ?_
 simp only [qN0,qN6,qO5,imp_self,implies_true,true_and,and_true,zaf,zag]
 simp [ho,zbB,zd7,zs]
def zwo:Ent:=zqg 153 3 mW dMessage.L dBool.L dInt.L vrW [1,0,0,0] glW fun s m ok i=>([s.o.messages.length≤1000000],.tup [],wMoM (za3 s (zbB m ok i)))
theorem zi2:zae Tryz.prog zwo:=zfr (zdK default default true 0 (by decide)).1 fun s m ok i h=>zdK s m ok i (h _ (by simp))
def zuO:Ent:=zqg 153 3 mWS dMessage.L dBool.L dInt.L vrS [1,0,0,0] glS fun s m ok i=>([s.o.messages.length≤1000000],.tup [],sMoM 115 (za3 s (zbB m ok i)))
theorem zrm:zae Tryz.prog zuO:=zfr (zdK default default true 0 (by decide)).1 fun s m ok i h=>zks s m ok i (h _ (by simp))
def toM (s:Step) (p:Peer):Message:=
 if p.next≤s.n.kept.snap.index then ⟨7,0,p.node,0,0,0,[],0,s.n.round,false,s.n.kept.snap,0,0,zs⟩
 else ⟨5,0,p.node,0,IntKind.i64.wrap (p.next-1),(zaI s.n.kept (IntKind.i64.wrap (p.next-1))).1,(zaN s.n.kept p.next 8).1,s.n.commit,s.n.round,false,zd7,0,0,zs⟩
def toS (s:Step) (p:Peer):Step:=za3 s (toM s p)
def tabY:List Ent:=[zjR,zu0,zhq,zvR]
theorem zva:∀ e∈tabY,zae Tryz.prog e:=zaa zeh (zaa zqs (zaa zdh (zaa zei zad)))
theorem zwQ (s:Step) (p:Peer) (hn:SmallN s.n) (ho:s.o.messages.length≤1000000):FnG Tryz.prog 137 3 (wMi s) [.ptr 2 0,dPeer.L.can p] (.tup []) (wMoM (toS s p)):=by
 refine FnG.of_vc (zah zva fun _=>none) Tryz.func137 rfl (by decide) rfl 300 (p:=fun (V:List PE→Prop)=>let v1:=s.n.kept;let v2:=s.n.round;let v4:=Step.o (toS s p);let v5:=Step.n (toS s p);let v19:=(0:Int);let v20:=ByteArray.mk #[];let v33:=IntKind.wrap IntKind.i64 (p.next-(1:Int));let v34:=decide (p.next≤v1.snap.index);let v35:=za3 s (Message.mk (7:Int) v19 p.node v19 v19 v19 [] v19 v2 false v1.snap v19 v19 v20);let v41:=za3 s (Message.mk (5:Int) v19 p.node v19 v33 (Prod.fst (zaI v1 v33)) (Prod.fst (zaN v1 p.next (8:Int))) s.n.commit v2 false (Snap.mk v19 v19 (Config.mk [] []) v20) v19 v19 v20);True∧True∧True∧(v34=true→(zaw v1.snap.config∧s.o.messages.length≤1000000∧True)∧qN0 v35.n v5 (qN4 v35.n v5 (qO5 v35.o v4 (v35.o.messages=v4.messages∧True))))∧(v34=false→(v1.entries.length≤17592186044416∧True)∧(v1.entries.length≤17592186044416∧zaC v1∧v19≤8∧True)∧(s.o.messages.length≤1000000∧True)∧qN0 v41.n v5 (qN4 v41.n v5 (qO5 v41.o v4 (v41.o.messages=v4.messages∧True))))) (by kernel_rfl) ?_
 simp only [qN0,qN4,qO5,imp_self,implies_true,true_and,and_true,zaf,zag]
 refine ⟨fun h=>?_,fun h=>?_⟩
 ·have h:p.next≤s.n.kept.snap.index:=by simpa using h
  have e:toS s p=za3 s ⟨7,0,p.node,0,0,0,[],0,s.n.round,false,s.n.kept.snap,0,0,⟨#[]⟩⟩:=by rw [toS,toM,if_pos h];rfl
  rw [e]
  refine ⟨⟨hn.k.2,ho⟩,?_⟩
  simp only [and_self]
 ·have h:¬ p.next≤s.n.kept.snap.index:=by simpa using h
  have e:toS s p=za3 s ⟨5,0,p.node,0,IntKind.i64.wrap (p.next-1),(zaI s.n.kept (IntKind.i64.wrap (p.next-1))).1,(zaN s.n.kept p.next 8).1,s.n.commit,s.n.round,false,⟨0,0,⟨[],[]⟩,⟨#[]⟩⟩,0,0,⟨#[]⟩⟩:=by rw [toS,toM,if_neg h];rfl
  rw [e]
  refine ⟨hn.ls.1,⟨hn.ls.1,hn.k,by decide⟩,ho,?_⟩
  simp only [and_self]
def eTo:Ent:=zbs 137 3 mW dPeer.L vrW [1,0] glW fun s p=>([SmallN s.n,s.o.messages.length≤1000000],.tup [],wMoM (toS s p))
theorem zqn:zae Tryz.prog eTo:=za2 (zwQ default default zbE (by decide)).1 fun s p h=>zwQ s p (h _ (by simp)) (h _ (by simp))
theorem zwS (n:Node) (o:Out) (p:Peer):toM ⟨n,o⟩ p=toM ⟨n,default⟩ p:=rfl
theorem zwR (s:Step) (p:Peer):toM s p=toM ⟨s.n,default⟩ p:=rfl
theorem zum (n:Node) (o:Out) (m:Message):msgS ⟨n,o⟩ m=msgS ⟨n,default⟩ m:=rfl
theorem zul (s:Step) (m:Message):msgS s m=msgS ⟨s.n,default⟩ m:=rfl
def allS (s:Step):Step:=⟨s.n,{s.o with messages:=s.o.messages++s.n.peers.map fun p=>msgS s (toM s p)}⟩
theorem zyr (s:Step) (hn:SmallN s.n) (ho:s.o.messages.length+s.n.peers.length≤1000000):FnG Tryz.prog 75 3 (wMi s) [.ptr 2 0] (.tup []) (wMoM (allS s)):=by
 refine FnG.of_vc (zah (zaa zqn zad) fun _=>none) Tryz.func75 rfl (by decide) rfl 300 (p:=fun (V:List PE→Prop)=>True∧V []) (by kernel_rfl) ?_
 simp only [qN0,qN15,qN4,qN8,qO5,imp_self,implies_true,true_and,and_true,zaf,zag]
 have hpl:=hn.peers
 refine LoopG.head (zah (zaa zqn zad) fun _=>none) 0 (A:=Nat) (fun j=>j≤s.n.peers.length) (fun j=>[(10,.int .i64 j)]) (fun j=>[(2,.cells 115 (wCs [1] s 3 4 5 6 7 12 9 10)),(7,.row 139 [2,61] (.rRecord s.o.records)),(9,.row 96 [2,61] (.rRead s.o.ready)),(10,.row 3 [2,61] (.rInts s.o.lost)),(8,.dead),(12,.row 39 [2,61] (.rMessage (s.o.messages++(s.n.peers.take j).map fun p=>msgS s (toM s p)))),(61,.dead)]) (fun j=>s.n.peers.length-j) 0 (Nat.zero_le _) (p0:=let v26:=(↑(s.n.peers.length):Int);(0:Int)=(↑(0:Nat):Int)∧v26=v26∧qN0 s.n s.n (qN8 s.n s.n (qO5 s.o s.o (s.o.messages=s.o.messages++List.map (fun (p:Peer)=>msgS s (toM s p)) (List.take (0:Nat) s.n.peers)∧qN15 s.n s.n (s.n.reads=s.n.reads∧True))))) (by kernel_rfl) ?_ 300 (p:=fun (x:Nat) (V:List PE→Prop)=>let v3:=Step.n (allS s);let v4:=Step.o (allS s);let v6:=(↑x:Int);let v9:=s.n.peers.length;let v14:=decide (v6<(↑v9:Int));let v15:=s.o.messages++List.map (fun (p:Peer)=>msgS s (toM s p)) (List.take x s.n.peers);True∧True∧(v14=true→((0:Int)≤v6∧v6<(↑v9:Int)∧x<v9∧True)∧(SmallN s.n∧v15.length≤1000000∧True)∧True∧V [PE.a])∧(v14=false→qN0 s.n v3 (qN4 s.n v3 (qO5 s.o v4 (v15=v4.messages∧True))))) (by intro x;kernel_rfl) ?_
 ·simp
 rintro j hj
 simp only [qN0,qN15,qN4,qN8,qO5,imp_self,implies_true,true_and,and_true,decide_eq_true_eq,decide_eq_false_iff_not]
 refine ⟨fun h6=>?_,fun h6=>?_⟩
 ·refine ⟨⟨by omega,by omega,by omega⟩,⟨hn,by simp only [List.length_append,List.length_map,List.length_take];omega⟩,?_⟩
  refine Back.mk (j+1) (by omega) (by omega) (p0:=let v3:=s.n.peers;let v10:=(↑(v3.length):Int);let v11:=toS (Step.mk s.n (Out.mk s.o.records (s.o.messages++List.map (fun (p:Peer)=>msgS s (toM s p)) (List.take j v3)) s.o.ready s.o.lost)) (List.getD v3 j default);IntKind.wrap IntKind.i64 ((↑j:Int)+(1:Int))=(↑(j+(1:Nat)):Int)∧v10=v10∧qN0 v11.n s.n (qN8 v11.n s.n (qO5 v11.o s.o (v11.o.messages=s.o.messages++List.map (fun (p:Peer)=>msgS s (toM s p)) (List.take (j+(1:Nat)) v3)∧qN15 v11.n s.n (v11.n.reads=s.n.reads∧True))))) (by kernel_rfl) ?_
  have e1:=zam (l:=s.n.peers) (d:=(default:Peer)) (i:=j) (by omega)
  simp only [qN0,qN15,qN4,qN8,qO5,za8 (i:=j) (by omega),e1,toS,za3,zwS,zum,fun p=>zwR s p,fun m=>zul s m,List.map_append,List.map_cons,List.map_nil,List.append_assoc,true_and,and_true]
  omega
 ·obtain rfl:j=s.n.peers.length:=by omega
  simp only [List.take_length,allS,and_self]
def zwq:Ent:=zeF 75 3 mW vrW [1] glW fun s=>([SmallN s.n,s.o.messages.length+s.n.peers.length≤1000000],.tup [],wMoM (allS s))
theorem zmJ:zae Tryz.prog zwq:=zbu (fnB Tryz.func75 (by decide) rfl) fun s h=>zyr s (h _ (by simp)) (h _ (by simp))
def isV (v x:Int):Bool:=x==v
def zaK (ps:List Peer) (v:Int):Int:=zaB (isV v) (ps.map (·.node))
theorem zch (ps:List Peer) (i:Nat):(ps.map (·.node)).getD i 0=(ps.getD i default).node:=by
 simp only [List.getD_eq_getElem?_getD,List.getElem?_map]
 cases ps[i]? <;> rfl
theorem zee {p:Int→Bool}:∀ (l:List Int),-1≤zaB p l∧zaB p l<l.length
 | []=>⟨by simp [zaB],by simp [zaB]⟩
 | x::l=>by
  have:=zee (p:=p) l
  unfold zaB
  simp only [List.length_cons]
  split
  ·omega
  ·split<;>omega
theorem zdn (ps:List Peer) (v:Int):zaK ps v<(ps.length:Int):=by
 have:=(zee (p:=isV v) (ps.map (·.node))).2
 simpa [zaK] using this
def dCloP:Dec Int where
 dec:=fun s=>match s with | .clo 171 [t]=>dRpInt.dec t | _=>none
 can:=fun x=> .clo 171 [dRpInt.can x]
 Okp:=fun x=>True
 okp:=fun x E w v h=>trivial
 ok:=by
  intro s x h E w v hz hd
  split at h
  case h_2=>simp at h
  obtain ⟨xs,hv,hd⟩:=hd
  match xs,hd with
  | [u],hd=>exact ⟨[u],hv,dRpInt.ok _ _ h E w u hz hd.1,trivial⟩
theorem zmc (x:Peer) (v:Int):FnC Tryz.prog 171 [dPeer.can x,dRpInt.can v] (.bool (isV v x.node)) D2:=by
 refine FnG.of_vc (zah zad fun _=>none) Tryz.func171 rfl (by decide) rfl 300 (p:=fun (V:List PE→Prop)=>True∧True∧(x.node==v)=isV v x.node∧True) (by kernel_rfl) ?_
 simp only [isV,true_and,and_true]
def zxR:Ent:=ent2 171 dPeer dRpInt fun x v=>([],.bool (isV v x.node),D2)
theorem zkd:zae Tryz.prog zxR:=zar (zmc default 0).1 fun x v _=>zmc x v
theorem zj8 (l:List Peer) (v:Int):FnC Tryz.prog 170 [dPeers.can l,dCloP.can v] (.int .i64 (zaK l v)) D2:=by
 refine FnC.g2 dPeers dCloP l v (fnB Tryz.func170 (by decide) rfl) fun hl _=>?_
 refine FnG.of_vc (zah (zaa zkd zad) fun _=>none) Tryz.func170 rfl (by decide) rfl 300 (p:=fun (V:List PE→Prop)=>True∧True∧V []) (by kernel_rfl) ?_
 simp only [true_and,and_true]
 refine LoopG.head (zah (zaa zkd zad) fun _=>none) 0 (A:=Nat) (fun j=>j≤l.length∧∀ i,i<j→isV v (l.getD i default).node=false) (fun j=>[(8,.int .i64 j)]) (fun _=>[]) (fun j=>l.length-j) 0 ⟨Nat.zero_le _,fun i h=>absurd h (by omega)⟩ (p0:=let v0:=(↑(l.length):Int);(0:Int)=(↑(0:Nat):Int)∧v0=v0∧l=l∧v=v∧True) (by kernel_rfl) ?_ 300 (p:=fun (x:Nat) (V:List PE→Prop)=>let v0:=(↑x:Int);let v1:=(↑(l.length):Int);let v2:=isV v (Peer.node (List.getD l x default));let v3:=decide (v0<v1);True∧True∧(v3=true→True∧((0:Int)≤v0∧v0<v1∧True)∧True∧(v2=true→True∧v0=zaK l v∧True)∧(v2=false→True∧V [PE.a,PE.b]))∧(v3=false→True∧(-1:Int)=zaK l v∧True)) (by intro x;kernel_rfl) ?_
 ·simp
 ·rintro j ⟨hj,h0⟩
  have hl44:=hl.1
  simp only [true_and,and_true,decide_eq_true_eq,decide_eq_false_iff_not]
  refine ⟨fun h1=>⟨by omega,fun h2=>?_,fun h2=>?_⟩,fun h1=>?_⟩
  ·exact (zds (by simp only [List.length_map];omega) (fun i hi=>by rw [zch];exact h0 i hi) (by rw [zch];exact h2)).symm
  ·refine Back.mk (j+1) ⟨by omega,fun i hi=>?_⟩ (by omega) (p0:=let v0:=(↑(l.length):Int);IntKind.wrap IntKind.i64 ((↑j:Int)+(1:Int))=(↑(j+(1:Nat)):Int)∧v0=v0∧l=l∧v=v∧True) (by kernel_rfl) ?_
   ·by_cases h:i=j
    ·subst h;exact h2
    ·exact h0 i (by omega)
   ·simp [za8 (i:=j) (by omega)]
  ·exact (zcD fun i hi=>by rw [zch];exact h0 i (by simp only [List.length_map] at hi;omega)).symm
def eIdxP:Ent:=ent2 170 dPeers dCloP fun l v=>([],.int .i64 (zaK l v),D2)
theorem ztz:zae Tryz.prog eIdxP:=zar (zj8 [] 0).1 fun l m _=>zj8 l m
theorem zpg (s:Step) (v:Int):FnC Tryz.prog 115 [(dRpS 115).can s,dInt.can v] (.int .i64 (zaK s.n.peers v)) D2:=by
 refine FnG.of_vc (zah (zaa ztz zad) fun _=>none) Tryz.func115 rfl (by decide) rfl 300 (p:=fun (V:List PE→Prop)=>let v0:=zaK s.n.peers v;True∧True∧v0=v0∧True) (by kernel_rfl) ?_
 simp only [true_and,and_true]
def zvZ:Ent:=ent2 115 (dRpS 115) dInt fun s v=>([],.int .i64 (zaK s.n.peers v),D2)
theorem zmA:zae Tryz.prog zvZ:=zar (zpg default 0).1 fun s v _=>zpg s v
def zbz (s:Step) (v:Int):Int:=if 0≤zaK s.n.peers v then (s.n.peers.getD (zaK s.n.peers v).toNat default).match_ else if v=s.n.id then (zaq s.n.kept).1 else 0
def zdz (s:Step):List Int:=(zav s.n).voters.map (zbz s)
def zaW (s:Step):Step:=if (zaI s.n.kept (zcK (zdz s))).2=0∧(zaI s.n.kept (zcK (zdz s))).1=s.n.kept.term then ⟨{s.n with commit:=max s.n.commit (zcK (zdz s))},s.o⟩ else s
def tabZ:List Ent:=[zhu,zvZ,zjP,zxH,zjR]
theorem zon:∀ e∈tabZ,zae Tryz.prog e:=zaa zdi (zaa zmA (zaa zdg (zaa ztm (zaa zeh zad))))
theorem zt9 (s:Step) (hn:SmallN s.n) (ho:SmallO s.o) (hv:(zav s.n).voters.length≤4000):FnG Tryz.prog 106 3 (wMi s) [.ptr 2 0] (.tup []) (wMi (zaW s)):=by
 refine FnG.of_vc (zah zon fun _=>none) Tryz.func106 rfl (by decide) rfl 300 (p:=fun (V:List PE→Prop)=>True∧(s.n.kept.entries.length≤17592186044416∧s.n.yes.length≤17592186044416∧s.n.peers.length≤17592186044416∧s.n.reads.length≤17592186044416∧SmallN s.n∧True)∧V []) (by kernel_rfl) ?_
 simp only [qN0,qN16,qN4,qO14,imp_self,implies_true,true_and,and_true,zaf,zag]
 obtain ⟨b1,b2,b3,b4,b5⟩:=hn.ls
 obtain ⟨V,hV⟩:∃ V,(zav s.n).voters=V:=⟨_,rfl⟩
 obtain ⟨c1,c2,c3,c4⟩:=ho.ls
 refine ⟨⟨b1,b2,b3,b4,hn⟩,?_⟩
 refine LoopG.head (zah zon fun _=>none) 0 (A:=Nat) (fun j=>j≤V.length) (fun j=>[(18,.int .i64 j),(17,.int .i64 (V.length:Int)),(16,.sl [900] (.rInts V)),(2,.own 12)]) (fun j=>[(12,.row 3 [901] (.rInts ((V.take j).map (zbz s)))),(900,.dead),(901,.dead)]) (fun j=>V.length-j) 0 (Nat.zero_le _) (p0:=let v20:=Config.voters (zav s.n);(0:Int)=(↑(0:Nat):Int)∧(↑(v20.length):Int)=(↑(List.length V):Int)∧v20=V∧List.map (zbz s) (List.take (0:Nat) V)=[]∧qN0 s.n s.n (qN4 s.n s.n (qO14 s.o s.o (s.o.lost=s.o.lost∧True)))) (by kernel_rfl) ?_ 300 (p:=fun (x:Nat) (V_1:List PE→Prop)=>let v1:=s.n;let v7:=v1.peers;let v11:=Step.o (zaW s);let v13:=v1.kept;let v15:=Step.n (zaW s);let v20:=v13.entries;let v21:=v13.snap;let v22:=(↑x:Int);let v25:=v21.config;let v26:=(0:Int);let v27:=v15.kept.snap;let v30:=v7.length;let v31:=(↑(List.length V):Int);let v35:=List.getD V x v26;let v36:=List.map (zbz s) (List.take x V);let v37:=zcK v36;let v38:=v36.length;let v39:=zaK v7 v35;let v40:=zaI v13 v37;let v41:=Int.toNat v39;let v42:=v35==v1.id;let v43:=decide (v22<v31);let v44:=Prod.snd v40==v26;let v45:=decide (v39≥v26);let v46:=zac v44 (Prod.fst v40==v13.term) false;True∧True∧(v43=true→(v26≤v22∧v22<v31∧True)∧True∧(v20.length≤17592186044416∧v1.yes.length≤17592186044416∧v30≤17592186044416∧v1.reads.length≤17592186044416∧s.o.records.length≤17592186044416∧s.o.messages.length≤17592186044416∧s.o.ready.length≤17592186044416∧s.o.lost.length≤17592186044416∧True)∧True∧((v45=true→v26≤v39)∧(v45=true→v39<(↑v30:Int))∧(v45=true→v41<v30)∧(v45=false→v42=true→v20.length≤17592186044416)∧(v45=false→v42=true→v1.yes.length≤17592186044416)∧(v45=false→v42=true→v30≤17592186044416)∧(v45=false→v42=true→v1.reads.length≤17592186044416)∧(v45=false→v42=true→s.o.records.length≤17592186044416)∧(v45=false→v42=true→s.o.messages.length≤17592186044416)∧(v45=false→v42=true→s.o.ready.length≤17592186044416)∧(v45=false→v42=true→s.o.lost.length≤17592186044416)∧True)∧((v38+List.length [zai v45 (Peer.match_ (List.getD v7 v41 default)) (zai v42 (Prod.fst (zaq v13)) v26)])*(1024:Nat)≤140737488355328∧True)∧True∧V_1 [PE.a])∧(v43=false→(v38≤17592186044416∧v38≤1000000∧True)∧(v20.length≤17592186044416∧True)∧((v44=true→v44=true)∧(v44=true→v44=true)∧(v44=true→v44=true)∧(v44=true→v44=true)∧(v44=true→v44=true)∧(v44=true→v44=true)∧(v44=true→v44=true)∧(v44=true→v44=true)∧True)∧True∧zai v46 v1.id v1.id=v15.id∧zai v46 v1.role v1.role=v15.role∧zai v46 v13.term v13.term=v15.kept.term∧zai v46 v13.vote v13.vote=v15.kept.vote∧zai v46 v21.index v21.index=v27.index∧zai v46 v21.term v21.term=v27.term∧(if v46=true then v25.voters else v25.voters)=v27.config.voters∧(if v46=true then v25.learners else v25.learners)=v27.config.learners∧(if v46=true then v21.data else v21.data)=v27.data∧zai v46 (if v37>v1.commit then v37 else v1.commit) v1.commit=v15.commit∧zai v46 v1.lead v1.lead=v15.lead∧zai v46 v1.elapsed v1.elapsed=v15.elapsed∧zai v46 v1.round v1.round=v15.round∧qN16 v1 v15 (qO14 s.o v11 (s.o.lost=v11.lost∧True)))) (by intro x;kernel_rfl) ?_
 ·simp [hV]
 rintro j hj
 simp only [qN0,qN16,qN4,qO14,imp_self,implies_true,true_and,and_true,decide_eq_true_eq,decide_eq_false_iff_not]
 have hp:=fun v=>zdn s.n.peers v
 refine ⟨fun h6=>⟨⟨by omega,h6⟩,⟨b1,b2,b3,b4,c1,c2,c3,c4⟩,⟨fun _=>hp _,fun h=>?_,fun _ _=>b1,fun _ _=>b2,fun _ _=>b3,fun _ _=>b4,fun _ _=>c1,fun _ _=>c2,fun _ _=>c3,fun _ _=>c4⟩,?_,?_⟩,fun h6=>?_⟩
 ·have:=hp (V.getD j 0);omega
 ·rw [hV] at hv;simp only [List.length_map,List.length_take,List.length_cons,List.length_nil];omega
 ·refine Back.mk (j+1) (by show j+1≤_;omega) (by show _-(j+1)<_-j;omega) (p0:=let v24:=(0:Int);let v25:=(↑(List.length V):Int);let v28:=List.getD V j v24;let v29:=zaK s.n.peers v28;IntKind.wrap IntKind.i64 ((↑j:Int)+(1:Int))=(↑(j+(1:Nat)):Int)∧v25=v25∧V=V∧List.map (zbz s) (List.take j V)++[zai (decide (v29≥v24)) (Peer.match_ (List.getD s.n.peers (Int.toNat v29) default)) (zai (v28==s.n.id) (Prod.fst (zaq s.n.kept)) v24)]=List.map (zbz s) (List.take (j+(1:Nat)) V)∧qN0 s.n s.n (qN4 s.n s.n (qO14 s.o s.o (s.o.lost=s.o.lost∧True)))) (by kernel_rfl) ?_
  simp only [qN0,qN16,qN4,qO14,true_and,and_true,za8 (i:=j) (by rw [hV] at hv;omega)]
  rw [zam (d:=(0:Int)) (by omega),List.map_append]
  refine ⟨by omega,?_⟩
  have e:zbz s (V.getD j 0)=zai (decide (zaK s.n.peers (V.getD j 0)≥0)) (s.n.peers.getD (zaK s.n.peers (V.getD j 0)).toNat default).match_ (zai (V.getD j 0==s.n.id) (zaq s.n.kept).1 0):=by
   unfold zbz zai
   by_cases h1:0≤zaK s.n.peers (V.getD j 0)<;>by_cases h2:V.getD j 0=s.n.id<;>simp [h1,h2]
  simp only [List.map_cons,List.map_nil,e]
 ·have:j=V.length:=by omega
  subst this
  rw [List.take_length]
  have hL:V.map (zbz s)=zdz s:=by rw [zdz,hV]
  rw [hL]
  have hll:(zdz s).length≤4000:=by rw [zdz,List.length_map];exact hv
  refine ⟨⟨by omega,by omega⟩,b1,?_⟩
  simp only [zaU]
  unfold zaW
  by_cases h1:(zaI s.n.kept (zcK (zdz s))).2=0<;>by_cases h2:(zaI s.n.kept (zcK (zdz s))).1=s.n.kept.term<;>simp [zac,zai,h1,h2]
  omega
def zrh:Ent:=zeF 106 3 mW vrW [1] glW fun s=>([SmallN s.n,SmallO s.o,(zav s.n).voters.length≤4000],.tup [],wMi (zaW s))
theorem zki:zae Tryz.prog zrh:=zbu (fnB Tryz.func106 (by decide) rfl) fun s h=>zt9 s (h _ (by simp)) (h _ (by simp)) (h _ (by simp))
def zaZ (r:Read) (p:Peer):Bool:=decide (r.round≤p.round)
def zx5 (s:Step) (r:Read):List Int:=s.n.id::(s.n.peers.filter (zaZ r)).map (·.node)
def zay (s:Step) (r:Read):Bool:=mayC (zav s.n)&&zbC (zav s.n).voters (zx5 s r)
def zaF (s:Step):Step:=⟨{s.n with reads:=s.n.reads.filter fun r=>!zay s r},{s.o with ready:=s.o.ready++s.n.reads.filter (zay s)}⟩
def wMoA (s:Step):List BE:=[.dead,.dead,.cells 115 (wCs [1] s 3 4 5 11 7 8 12 10),.row 89 [1] (.rEntry s.n.kept.entries),.row 3 [1] (.rInts s.n.yes),.row 94 [1] (.rPeer s.n.peers),.dead,.row 139 [2] (.rRecord s.o.records),.row 39 [2] (.rMessage s.o.messages),.dead,.row 3 [2] (.rInts s.o.lost),.row 96 [1] (.rRead s.n.reads),.row 96 [2] (.rRead s.o.ready)]
def tabRb:List Ent:=[zhu,zik]
theorem zhB:∀ e∈tabRb,zae Tryz.prog e:=zaa zdi (zaa zgj zad)
theorem zrG (s:Step) (hn:SmallN s.n) (ho:SmallO s.o) (hr:s.o.ready.length≤10000) (hs:s.n.reads.length≤10000) (hp:s.n.peers.length≤10000):FnG Tryz.prog 110 3 (wMi s) [.ptr 2 0] (.tup []) (wMoA (zaF s)):=by
 refine FnG.of_vc (zah zhB fun _=>none) Tryz.func110 rfl (by decide) rfl 300 (p:=fun (V:List PE→Prop)=>(s.n.kept.entries.length≤17592186044416∧s.n.yes.length≤17592186044416∧s.n.peers.length≤17592186044416∧s.n.reads.length≤17592186044416∧SmallN s.n∧True)∧True∧True∧V []) (by kernel_rfl) ?_
 simp only [qN0,qN1,qN16,qN8,qO17,imp_self,implies_true,true_and,and_true,zaf,zag]
 obtain ⟨b1,b2,b3,b4,b5⟩:=hn.ls
 obtain ⟨c1,c2,c3,c4⟩:=ho.ls
 refine ⟨⟨b1,b2,b3,b4,hn⟩,?_⟩
 refine LoopG.head (zah zhB fun _=>none) 0 (A:=Nat) (fun j=>j≤s.n.reads.length) (fun j=>[(20,.int .i64 j),(3,.own 13)]) (fun j=>[(2,.cells 115 (wCs [1] s 3 4 5 6 7 8 12 10)),(9,.dead),(12,.row 96 [2] (.rRead (s.o.ready++(s.n.reads.take j).filter (zay s)))),(13,.row 96 [] (.rRead ((s.n.reads.take j).filter fun r=>!zay s r)))]) (fun j=>s.n.reads.length-j) 0 (Nat.zero_le _) (p0:=let v18:=Config.learners (zav s.n);let v19:=Config.voters (zav s.n);let v28:=(↑(s.n.reads.length):Int);let v29:=List.take (0:Nat) s.n.reads;(0:Int)=(↑(0:Nat):Int)∧v28=v28∧qN0 s.n s.n (qN8 s.n s.n (s.o.ready=s.o.ready++List.filter (zay s) v29∧List.filter (fun (r:Read)=>!zay s r) v29=[]∧v19=v19∧v18=v18∧qN16 s.n s.n (s.o.records=s.o.records∧s.o.messages=s.o.messages∧s.o.lost=s.o.lost∧True)))) (by kernel_rfl) ?_ 300 (p:=fun (x:Nat) (V:List PE→Prop)=>let v2:=s.n.reads;let v4:=Step.n (zaF s);let v5:=Step.o (zaF s);let v8:=(↑x:Int);let v14:=(↑(v2.length):Int);let v15:=decide (v8<v14);True∧True∧(v15=true→((0:Int)≤v8∧v8<v14∧x<v2.length∧True)∧True∧True∧V [PE.a])∧(v15=false→True∧qN0 s.n v4 (qN1 s.n v4 (qO17 s.o v5 (List.filter (fun (r:Read)=>!zay s r) (List.take x v2)=v4.reads∧s.o.ready++List.filter (zay s) (List.take x v2)=v5.ready∧True))))) (by intro x;kernel_rfl) ?_
 ·simp
 rintro j hj
 simp only [qN0,qN1,qN16,qN8,qO17,imp_self,implies_true,true_and,and_true,decide_eq_true_eq,decide_eq_false_iff_not]
 refine ⟨fun h6=>⟨⟨by omega,by omega,by omega⟩,?_⟩,fun h6=>?_⟩
 ·refine LoopG.head (zah zhB fun _=>none) 1 (A:=Nat) (fun i=>i≤s.n.peers.length) (fun i=>[(36,.int .i64 i),(6,.own 14)]) (fun i=>[(14,.row 3 [] (.rInts (s.n.id::((s.n.peers.take i).filter (zaZ (s.n.reads.getD j default))).map (·.node)))),(59,.dead)]) (fun i=>s.n.peers.length-i) 0 (Nat.zero_le _) (p0:=let v0:=s.n;let v7:=v0.reads;let v17:=Config.voters (zav v0);let v18:=Config.learners (zav v0);let v20:=(↑j:Int);let v29:=(↑(v7.length):Int);let v30:=(↑(v0.peers.length):Int);let v31:=List.getD v7 j default;let v32:=v31.round;let v33:=v31.token;let v34:=v31.index;let v35:=List.filter (fun (r:Read)=>!zay s r) (List.take j v7);let v36:=s.o.ready++List.filter (zay s) (List.take j v7);let v37:=decide (v20<v29);(0:Int)=(↑(0:Nat):Int)∧v30=v30∧v0.id=v0.id∧v33=v33∧v34=v34∧v32=v32∧v37=v37∧v20=v20∧v29=v29∧[v0.id]=v0.id::List.map (fun (x:Peer)=>x.node) (List.filter (zaZ v31) (List.take (0:Nat) v0.peers))∧v33=v33∧v34=v34∧v32=v32∧qN0 v0 v0 (qN8 v0 v0 (v36=v36∧v35=v35∧v17=v17∧v18=v18∧qN16 v0 v0 (s.o.records=s.o.records∧s.o.messages=s.o.messages∧s.o.lost=s.o.lost∧True)))) (by kernel_rfl) ?_ 300 (p:=fun (x:Nat) (V:List PE→Prop)=>let v1:=zav s.n;let v3:=s.n.peers;let v4:=(↑x:Int);let v6:=List.take j s.n.reads;let v7:=(↑(v3.length):Int);let v8:=List.getD s.n.reads j default;let v9:=List.getD v3 x default;let v12:=List.length [v8];let v13:=s.n.id::List.map (fun (x:Peer)=>x.node) (List.filter (zaZ v8) (List.take x v3));let v14:=decide (v4<v7);let v16:=mayC v1&&zbC v1.voters v13;let v17:=decide (v9.round≥v8.round);True∧True∧(v14=true→((0:Int)≤v4∧v4<v7∧x<v3.length∧True)∧True∧True∧(v17=true→((v13.length+List.length [v9.node])*(1024:Nat)≤140737488355328∧True)∧True∧V [PE.a,PE.a])∧(v17=false→True∧V [PE.a,PE.b]))∧(v14=false→(v13.length≤17592186044416∧zaw v1∧True)∧True∧(v16=true→((List.length (s.o.ready++List.filter (zay s) v6)+v12)*(1024:Nat)≤140737488355328∧True)∧True∧V [PE.b,PE.a])∧(v16=false→((List.length (List.filter (fun (r:Read)=>!zay s r) v6)+v12)*(1024:Nat)≤140737488355328∧True)∧True∧V [PE.b,PE.b]))) (by intro x;kernel_rfl) ?_
  ·simp
  rintro i hi
  simp only [qN0,qN1,qN16,qN8,qO17,imp_self,implies_true,true_and,and_true,decide_eq_true_eq,decide_eq_false_iff_not]
  have hpl:((s.n.peers.take i).filter (zaZ (s.n.reads.getD j default))).length≤10000:=by
   have h1:=List.length_filter_le (zaZ (s.n.reads.getD j default)) (s.n.peers.take i)
   simp only [List.length_take] at h1;omega
  have hrl:∀ f:Read→Bool,((s.n.reads.take j).filter f).length≤10000:=fun f=>by
   have h1:=List.length_filter_le f (s.n.reads.take j)
   simp only [List.length_take] at h1;omega
  have hsn:∀ f:Read→Bool,(s.n.reads.take (j+1)).filter f=(s.n.reads.take j).filter f++(if f (s.n.reads.getD j default)=true then [s.n.reads.getD j default] else []):=fun f=>by
   rw [zam (d:=(default:Read)) (by omega),List.filter_append]
   simp only [List.filter_cons,List.filter_nil]
  refine ⟨fun h7=>⟨⟨by omega,by omega,by omega⟩,fun h8=>⟨by simp only [List.length_cons,List.length_map,List.length_nil];omega,?_⟩,fun h8=>?_⟩,fun h7=>⟨⟨by simp only [List.length_cons,List.length_map];omega,zcG hn⟩,fun h8=>⟨by have:=hrl (zay s);simp only [List.length_append,List.length_cons,List.length_nil];omega,?_⟩,fun h8=>⟨by have:=hrl fun r=>!zay s r;simp only [List.length_cons,List.length_nil];omega,?_⟩⟩⟩
  ·refine Back.mk (i+1) (by show i+1≤_;omega) (by show _-(i+1)<_-i;omega) (p0:=let v0:=s.n;let v2:=v0.peers;let v7:=v0.reads;let v17:=Config.voters (zav v0);let v18:=Config.learners (zav v0);let v20:=(↑j:Int);let v29:=(↑(v7.length):Int);let v30:=(↑(v2.length):Int);let v31:=List.getD v7 j default;let v32:=v31.round;let v33:=v31.index;let v34:=v31.token;let v35:=List.filter (fun (r:Read)=>!zay s r) (List.take j v7);let v36:=s.o.ready++List.filter (zay s) (List.take j v7);let v37:=decide (v20<v29);IntKind.wrap IntKind.i64 ((↑i:Int)+(1:Int))=(↑(i+(1:Nat)):Int)∧v30=v30∧v0.id=v0.id∧v34=v34∧v33=v33∧v32=v32∧v37=v37∧v20=v20∧v29=v29∧v0.id::List.map (fun (x:Peer)=>x.node) (List.filter (zaZ v31) (List.take i v2))++[Peer.node (List.getD v2 i default)]=v0.id::List.map (fun (x:Peer)=>x.node) (List.filter (zaZ v31) (List.take (i+(1:Nat)) v2))∧v34=v34∧v33=v33∧v32=v32∧qN0 v0 v0 (qN8 v0 v0 (v36=v36∧v35=v35∧v17=v17∧v18=v18∧qN16 v0 v0 (s.o.records=s.o.records∧s.o.messages=s.o.messages∧s.o.lost=s.o.lost∧True)))) (by kernel_rfl) ?_
   simp only [qN0,qN1,qN16,qN8,qO17,true_and,and_true]
   rw [zam (d:=(default:Peer)) (by omega),List.filter_append]
   have h9:zaZ (s.n.reads.getD j default) (s.n.peers.getD i default)=true:=by unfold zaZ;simpa using h8
   simp only [qN0,qN1,qN16,qN8,qO17,za8 (i:=i) (by omega),List.filter_cons,List.filter_nil,h9,if_true,List.map_append,List.map_cons,List.map_nil,List.cons_append,true_and,and_true]
   omega
  ·refine Back.mk (i+1) (by show i+1≤_;omega) (by show _-(i+1)<_-i;omega) (p0:=let v0:=s.n;let v2:=v0.peers;let v7:=v0.reads;let v17:=Config.voters (zav v0);let v18:=Config.learners (zav v0);let v20:=(↑j:Int);let v29:=(↑(v7.length):Int);let v30:=(↑(v2.length):Int);let v31:=List.getD v7 j default;let v32:=v31.round;let v33:=v31.index;let v34:=v31.token;let v35:=List.filter (fun (r:Read)=>!zay s r) (List.take j v7);let v36:=s.o.ready++List.filter (zay s) (List.take j v7);let v37:=decide (v20<v29);IntKind.wrap IntKind.i64 ((↑i:Int)+(1:Int))=(↑(i+(1:Nat)):Int)∧v30=v30∧v0.id=v0.id∧v34=v34∧v33=v33∧v32=v32∧v37=v37∧v20=v20∧v29=v29∧v0.id::List.map (fun (x:Peer)=>x.node) (List.filter (zaZ v31) (List.take i v2))=v0.id::List.map (fun (x:Peer)=>x.node) (List.filter (zaZ v31) (List.take (i+(1:Nat)) v2))∧v34=v34∧v33=v33∧v32=v32∧qN0 v0 v0 (qN8 v0 v0 (v36=v36∧v35=v35∧v17=v17∧v18=v18∧qN16 v0 v0 (s.o.records=s.o.records∧s.o.messages=s.o.messages∧s.o.lost=s.o.lost∧True)))) (by kernel_rfl) ?_
   simp only [qN0,qN1,qN16,qN8,qO17,true_and,and_true]
   rw [zam (d:=(default:Peer)) (by omega),List.filter_append]
   have h9:zaZ (s.n.reads.getD j default) (s.n.peers.getD i default)=false:=by unfold zaZ;simpa using h8
   simp only [qN0,qN1,qN16,qN8,qO17,za8 (i:=i) (by omega),List.filter_cons,List.filter_nil,h9,if_false,List.append_nil,Bool.false_eq_true,true_and,and_true]
   omega
  ·have:i=s.n.peers.length:=by omega
   subst this
   rw [List.take_length] at h8
   have h9:zay s (s.n.reads.getD j default)=true:=h8
   refine Back.up (Back.mk (j+1) (by show j+1≤_;omega) (by show _-(j+1)<_-j;omega) (p0:=let v10:=s.n.reads;let v18:=Config.learners (zav s.n);let v19:=Config.voters (zav s.n);let v29:=(↑(v10.length):Int);let v30:=List.take (j+(1:Nat)) v10;IntKind.wrap IntKind.i64 ((↑j:Int)+(1:Int))=(↑(j+(1:Nat)):Int)∧v29=v29∧qN0 s.n s.n (qN8 s.n s.n (s.o.ready++List.filter (zay s) (List.take j v10)++[List.getD v10 j default]=s.o.ready++List.filter (zay s) v30∧List.filter (fun (r:Read)=>!zay s r) (List.take j v10)=List.filter (fun (r:Read)=>!zay s r) v30∧v19=v19∧v18=v18∧qN16 s.n s.n (s.o.records=s.o.records∧s.o.messages=s.o.messages∧s.o.lost=s.o.lost∧True)))) (by kernel_rfl) ?_)
   simp only [qN0,qN1,qN16,qN8,qO17,true_and,and_true]
   rw [hsn,hsn,if_pos h9,h9,if_neg (by decide)]
   simp only [qN0,qN1,qN16,qN8,qO17,za8 (i:=j) (by omega),List.append_nil,List.append_assoc,true_and,and_true]
   omega
  ·have:i=s.n.peers.length:=by omega
   subst this
   rw [List.take_length] at h8
   have h9:zay s (s.n.reads.getD j default)=false:=h8
   refine Back.up (Back.mk (j+1) (by show j+1≤_;omega) (by show _-(j+1)<_-j;omega) (p0:=let v10:=s.n.reads;let v18:=Config.learners (zav s.n);let v19:=Config.voters (zav s.n);let v29:=(↑(v10.length):Int);let v30:=List.take (j+(1:Nat)) v10;IntKind.wrap IntKind.i64 ((↑j:Int)+(1:Int))=(↑(j+(1:Nat)):Int)∧v29=v29∧qN0 s.n s.n (qN8 s.n s.n (s.o.ready++List.filter (zay s) (List.take j v10)=s.o.ready++List.filter (zay s) v30∧List.filter (fun (r:Read)=>!zay s r) (List.take j v10)++[List.getD v10 j default]=List.filter (fun (r:Read)=>!zay s r) v30∧v19=v19∧v18=v18∧qN16 s.n s.n (s.o.records=s.o.records∧s.o.messages=s.o.messages∧s.o.lost=s.o.lost∧True)))) (by kernel_rfl) ?_)
   simp only [qN0,qN1,qN16,qN8,qO17,true_and,and_true]
   rw [hsn,hsn,h9,if_neg (by decide),if_pos (by decide)]
   simp only [qN0,qN1,qN16,qN8,qO17,za8 (i:=j) (by omega),List.append_nil,List.append_assoc,true_and,and_true]
   omega
 ·obtain rfl:j=s.n.reads.length:=by omega
  simp only [List.take_length,zaF,and_self]
def zrn:Ent:=zeF 110 3 mW vrW [1] glW fun s=>([SmallN s.n,SmallO s.o,s.o.ready.length≤10000,s.n.reads.length≤10000,s.n.peers.length≤10000],.tup [],wMoA (zaF s))
theorem znS:zae Tryz.prog zrn:=zbu (fnB Tryz.func110 (by decide) rfl) fun s h=>zrG s (h _ (by simp)) (h _ (by simp)) (h _ (by simp)) (h _ (by simp)) (h _ (by simp))
def SmallD (c:Config):Prop:=c.voters.length≤4000∧c.learners.length≤4000
theorem SmallD.c {c:Config} (h:SmallD c):zaw c:=⟨Nat.le_trans h.1 (by decide),Nat.le_trans h.2 (by decide)⟩
theorem smallD0:SmallD ⟨[],[]⟩:=⟨by decide,by decide⟩
structure Few (B:Nat) (s:Step):Prop where
 entries:s.n.kept.entries.length≤B
 ec:∀ e∈s.n.kept.entries,SmallD e.config
 sc:SmallD s.n.kept.snap.config
 yes:s.n.yes.length≤B
 peers:s.n.peers.length≤5000
 reads:s.n.reads.length≤5000
 records:s.o.records.length≤B
 messages:s.o.messages.length≤B
 ready:s.o.ready.length≤B
 lost:s.o.lost.length≤B
theorem Few.mono {B C:Nat} {s:Step} (h:Few B s) (hb:B≤C):Few C s:=
 ⟨Nat.le_trans h.entries hb,h.ec,h.sc,Nat.le_trans h.yes hb,h.peers,h.reads,Nat.le_trans h.records hb,Nat.le_trans h.messages hb,Nat.le_trans h.ready hb,Nat.le_trans h.lost hb⟩
theorem Few.k {B:Nat} {s:Step} (h:Few B s) (hb:B≤1000000):zaC s.n.kept:=⟨⟨Nat.le_trans h.entries hb,fun e he=>(h.ec e he).c⟩,h.sc.c⟩
theorem Few.sn {B:Nat} {s:Step} (h:Few B s) (hb:B≤1000000):SmallN s.n:=⟨h.k hb,Nat.le_trans h.yes hb,Nat.le_trans h.peers (by decide),Nat.le_trans h.reads (by decide)⟩
theorem Few.so {B:Nat} {s:Step} (h:Few B s) (hb:B≤1000000):SmallO s.o:=⟨Nat.le_trans h.records hb,Nat.le_trans h.messages hb,Nat.le_trans h.ready hb,Nat.le_trans h.lost hb⟩
theorem Few.cf {B:Nat} {s:Step} (h:Few B s):SmallD (zav s.n):=by
 unfold zav za9
 split
 ·unfold cfgR
  split
  ·rename_i e he
   exact h.ec e (by have:=List.mem_of_find?_eq_some he;simpa using this)
  ·exact h.sc
 ·exact smallD0
theorem Few.recd {B:Nat} {s:Step} {r:Record} (h:Few B s) (h1:SmallD r.entry.config) (h2:SmallD r.snap.config):Few (B+1) (recS s r):=by
 have hk:(recK s.n.kept r).entries.length≤B+1∧(∀ e∈(recK s.n.kept r).entries,SmallD e.config)∧SmallD (recK s.n.kept r).snap.config:=by
  have g1:=h.entries
  unfold recK
  split
  ·exact ⟨Nat.le_succ_of_le h.entries,h.ec,h.sc⟩
  split
  ·refine ⟨by simp only [List.length_append,List.length_cons,List.length_nil];omega,fun e he=>?_,h.sc⟩
   simp only [List.mem_append,List.mem_singleton] at he
   rcases he with he | rfl
   ·exact h.ec e he
   ·exact h1
  split
  ·exact ⟨by simp only [List.length_take];omega,fun e he=>h.ec e (List.mem_of_mem_take he),h.sc⟩
  split
  ·refine ⟨?_,fun e he=>?_,h2⟩
   ·show (if _ then _ else _:List Entry).length≤_
    split
    ·simp only [List.length_drop];omega
    ·simp
   ·have he:e∈(if (zaI s.n.kept r.snap.index).2=0∧(zaI s.n.kept r.snap.index).1=r.snap.term then s.n.kept.entries.drop (IntKind.i64.wrap (r.snap.index-s.n.kept.snap.index)).toNat else []):=he
    split at he
    ·exact h.ec e (List.mem_of_mem_drop he)
    ·cases he
  ·exact ⟨Nat.le_succ_of_le h.entries,h.ec,h.sc⟩
 exact ⟨hk.1,hk.2.1,hk.2.2,Nat.le_succ_of_le h.yes,h.peers,h.reads,by show (s.o.records++[r]).length≤_;have:=h.records;simp only [List.length_append,List.length_cons,List.length_nil];omega,Nat.le_succ_of_le h.messages,Nat.le_succ_of_le h.ready,Nat.le_succ_of_le h.lost⟩
theorem Few.run {B:Nat} {s:Step} (role:Int) (h:Few B s) (h1:1≤B):Few B (runS s role):=⟨h.entries,h.ec,h.sc,h1,h.peers,h.reads,h.records,h.messages,h.ready,h.lost⟩
theorem Few.lay {B:Nat} {s:Step} {e:Entry} (h:Few B s) (h1:SmallD e.config):Few (B+1) (layS s e):=h.recd h1 smallD0
theorem Few.send {B:Nat} {s:Step} (m:Message) (h:Few B s):Few (B+1) (za3 s m):=by
 have:=h.messages
 exact ⟨Nat.le_succ_of_le h.entries,h.ec,h.sc,Nat.le_succ_of_le h.yes,h.peers,h.reads,Nat.le_succ_of_le h.records,by show (s.o.messages++[msgS s m]).length≤_;simp only [List.length_append,List.length_cons,List.length_nil];omega,Nat.le_succ_of_le h.ready,Nat.le_succ_of_le h.lost⟩
theorem Few.ask {B:Nat} {s:Step} (m:Message) (h:Few B s):Few (B+4000) (askS s m):=by
 have h1:=h.messages
 have h2:=h.cf.1
 have h3:(zbh (zav s.n).voters s.n.id).length≤(zav s.n).voters.length:=List.length_filter_le _ _
 have g:=h.mono (show B≤B+4000 by omega)
 exact ⟨g.entries,g.ec,g.sc,g.yes,g.peers,g.reads,g.records,by show (s.o.messages++_).length≤_;simp only [List.length_append,List.length_map];omega,g.ready,g.lost⟩
theorem Few.all {B:Nat} {s:Step} (h:Few B s):Few (B+5000) (allS s):=by
 have h1:=h.messages
 have h2:=h.peers
 have g:=h.mono (show B≤B+5000 by omega)
 exact ⟨g.entries,g.ec,g.sc,g.yes,g.peers,g.reads,g.records,by show (s.o.messages++_).length≤_;simp only [List.length_append,List.length_map];omega,g.ready,g.lost⟩
theorem Few.count {B:Nat} {s:Step} (h:Few B s):Few B (zaW s):=by
 unfold zaW
 split
 ·exact ⟨h.entries,h.ec,h.sc,h.yes,h.peers,h.reads,h.records,h.messages,h.ready,h.lost⟩
 ·exact h
def ztX:Entry:=⟨0,0,0,⟨[],[]⟩,zs⟩
def zns:Entry:=⟨0,0,1,⟨[],[]⟩,zs⟩
def zca (s:Step) (o:Int):Peer:=⟨o,IntKind.i64.wrap ((zaq s.n.kept).1+1),0,0⟩
def zcy (s:Step) (ps:List Peer):Step:=⟨{s.n with role:=4,lead:=s.n.id,elapsed:=0,yes:=[],peers:=ps},s.o⟩
def ledS (s:Step):Step:=zcy s ((za7 s.n).map (zca s))
def zcq (s:Step):Step:=allS (zaW (layS (ledS s) zns))
theorem Few.led {B:Nat} {s:Step} (h:Few B s):Few B (ledS s):=by
 have h1:(za7 s.n).length≤16:=Nat.le_trans (List.length_filter_le _ _) (zcp (zav s.n)).2
 exact ⟨h.entries,h.ec,h.sc,Nat.zero_le _,by show (List.map _ _).length≤_;rw [List.length_map];omega,h.reads,h.records,h.messages,h.ready,h.lost⟩
theorem Few.rule {B:Nat} {s:Step} (h:Few B s):Few (B+5001) (zcq s):=((h.led.lay (e:=zns) smallD0).count.all).mono (by omega)
def tabB:List Ent:=[eOth,zjP,eLay,zrh,zwq]
theorem zow:∀ e∈tabB,zae Tryz.prog e:=zaa zqR (zaa zdg (zaa zwf (zaa zki (zaa zmJ zad))))
theorem zvi (s:Step) (hf:Few 80000 s):FnG Tryz.prog 140 3 (wMi s) [.ptr 2 0] (.tup []) (wMo (zcq s)):=by
 refine FnG.of_vc (zah zow fun _=>none) Tryz.func140 rfl (by decide) rfl 300 (p:=fun (V:List PE→Prop)=>True∧(s.n.kept.entries.length≤17592186044416∧s.n.reads.length≤17592186044416∧SmallN (Node.mk s.n.id (4:Int) s.n.kept s.n.commit s.n.id (0:Int) [] [] s.n.round s.n.reads)∧True)∧V []) (by kernel_rfl) ?_
 simp only [qN0,qN13,qN16,qN4,qN8,qO14,imp_self,implies_true,true_and,and_true,zaf,zag]
 have hol:(za7 s.n).length≤16:=Nat.le_trans (List.length_filter_le _ _) (zcp (zav s.n)).2
 have hsn:=hf.sn (by decide)
 have hso:=hf.so (by decide)
 obtain ⟨b1,b2,b3,b4,b5⟩:=hsn.ls
 obtain ⟨c1,c2,c3,c4⟩:=hso.ls
 obtain ⟨L,hL⟩:∃ L,za7 s.n=L:=⟨_,rfl⟩
 refine ⟨⟨b1,b4,⟨hsn.k,Nat.zero_le _,Nat.zero_le _,hsn.reads⟩⟩,?_⟩
 refine LoopG.head (zah zow fun _=>none) 0 (A:=Nat) (fun j=>j≤L.length) (fun j=>[(35,.int .i64 j),(34,.int .i64 (L.length:Int)),(33,.sl [53] (.rInts L))]) (fun j=>[(2,.cells 115 (wCs [1] (zcy s ((L.take j).map (zca s))) 3 13 12 6 7 8 9 10)),(12,.row 94 [] (.rPeer ((L.take j).map (zca s)))),(13,.row 3 [] (.rInts []))]) (fun j=>L.length-j) 0 (Nat.zero_le _) (p0:=let v0:=s.n;let v16:=List.map (zca s) (List.take (0:Nat) L);let v17:=Step.n (zcy s v16);let v21:=za7 (Node.mk v0.id (4:Int) v0.kept v0.commit v0.id (0:Int) [] [] v0.round v0.reads);(0:Int)=(↑(0:Nat):Int)∧(↑(v21.length):Int)=(↑(List.length L):Int)∧v21=L∧v0.id=v17.id∧(4:Int)=v17.role∧qN13 v0 v17 (v0.id=v17.lead∧(0:Int)=v17.elapsed∧v0.round=v17.round∧v16=[]∧zfe Int∧qN16 v0 v0 (qO14 s.o s.o (s.o.lost=s.o.lost∧True)))) (by kernel_rfl) ?_ 300 (p:=fun (x:Nat) (V:List PE→Prop)=>let v1:=Step.o (zcq s);let v2:=s.n.reads;let v3:=Step.n (zcq s);let v5:=s.n.kept.entries;let v6:=(↑x:Int);let v8:=(0:Int);let v9:=(↑(List.length L):Int);let v11:=List.map (zca s) (List.take x L);let v13:=Step.n (zcy s v11);let v15:=decide (v6<v9);let v16:=Entry.mk v8 v8 (1:Int) (Config.mk [] []) (ByteArray.mk #[]);let v17:=Kept.mk v13.kept.term v13.kept.vote v13.kept.snap v5;let v18:=Node.mk v13.id v13.role v17 v13.commit v13.lead v13.elapsed [] v11 v13.round v2;let v19:=layS (Step.mk v18 s.o) v16;let v20:=zaW v19;let v23:=allS v20;True∧True∧(v15=true→(v8≤v6∧v6<v9∧True)∧(v5.length≤17592186044416∧(0:Nat)≤17592186044416∧v11.length≤17592186044416∧v2.length≤17592186044416∧s.o.records.length≤17592186044416∧s.o.messages.length≤17592186044416∧s.o.ready.length≤17592186044416∧s.o.lost.length≤17592186044416∧(v11.length+List.length [Peer.mk (List.getD L x v8) (IntKind.wrap IntKind.i64 (Prod.fst (zaq v17)+(1:Int))) v8 v8])*(1024:Nat)≤140737488355328∧True)∧True∧V [PE.a])∧(v15=false→(SmallN v18∧SmallO s.o∧zbA v16∧True)∧(SmallN v19.n∧SmallO v19.o∧List.length (Config.voters (zav v19.n))≤4000∧True)∧(SmallN v20.n∧v20.o.messages.length+v20.n.peers.length≤1000000∧True)∧qN0 v23.n v3 (qN4 v23.n v3 (qO14 v23.o v1 (v23.o.lost=v1.lost∧True))))) (by intro x;kernel_rfl) ?_
 ·refine ⟨rfl,by rw [← hL];rfl,hL,?_⟩
  simp [zcy]
 rintro j hj
 simp only [qN0,qN13,qN16,qN4,qN8,qO14,imp_self,implies_true,true_and,and_true,decide_eq_true_eq,decide_eq_false_iff_not]
 have hml:(List.map (zca s) (List.take j L)).length≤16:=by simp only [List.length_map,List.length_take];rw [← hL];omega
 have hle:∀ ps:List Peer,ps.length≤5000→Few 80000 (zcy s ps):=fun ps h=>⟨hf.entries,hf.ec,hf.sc,Nat.zero_le _,h,hf.reads,hf.records,hf.messages,hf.ready,hf.lost⟩
 refine ⟨fun h6=>⟨⟨by omega,h6⟩,⟨b1,by decide,by omega,b4,c1,c2,c3,c4,by simp only [List.length_cons,List.length_nil];omega⟩,?_⟩,fun h6=>?_⟩
 ·refine Back.mk (j+1) (by show j+1≤_;omega) (by show _-(j+1)<_-j;omega) (p0:=let v10:=(↑(List.length L):Int);let v11:=List.map (zca s) (List.take j L);let v12:=Step.n (zcy s v11);let v18:=List.map (zca s) (List.take (j+(1:Nat)) L);let v19:=Step.n (zcy s v18);IntKind.wrap IntKind.i64 ((↑j:Int)+(1:Int))=(↑(j+(1:Nat)):Int)∧v10=v10∧L=L∧qN0 v12 v19 (qN8 v12 v19 (v11++[Peer.mk (List.getD L j (0:Int)) (IntKind.wrap IntKind.i64 (Prod.fst (zaq (Kept.mk v12.kept.term v12.kept.vote v12.kept.snap s.n.kept.entries))+(1:Int))) (0:Int) (0:Int)]=v18∧zfe Int∧qN16 s.n s.n (qO14 s.o s.o (s.o.lost=s.o.lost∧True))))) (by kernel_rfl) ?_
  have e1:=zam (l:=L) (d:=(0:Int)) (i:=j) (by omega)
  rw [hL] at hol
  simp only [qN0,qN13,qN16,qN4,qN8,qO14,za8 (i:=j) (by omega),e1,List.map_append,List.map_cons,List.map_nil,true_and,and_true]
  refine ⟨by omega,?_⟩
  simp [zcy,zca]
 ·obtain rfl:j=L.length:=by omega
  rw [List.take_length] at hml ⊢
  have k1:=hle _ (show (L.map (zca s)).length≤5000 by omega)
  have k2:=k1.lay (e:=zns) smallD0
  have k3:=k2.count
  have e:zcq s=allS (zaW (layS (zcy s (L.map (zca s))) zns)):=by rw [zcq,ledS,hL]
  refine ⟨⟨k1.sn (by decide),k1.so (by decide),smallD0.c⟩,⟨k2.sn (by decide),k2.so (by decide),?_⟩,?_⟩
  ·exact k2.cf.1
  ·refine ⟨⟨k3.sn (by decide),?_⟩,?_⟩
   ·have h1:=k3.messages
    have h2:=k3.peers
    exact Nat.le_trans (Nat.add_le_add h1 h2) (by decide)
   ·rw [e]
    repeat' apply And.intro
    all_goals rfl
def zj4 (k:Kept):Int:=IntKind.i64.wrap (k.snap.index+k.entries.length)
theorem zmt (k:Kept):FnC Tryz.prog 201 [dKept.can k] (.int .i64 (zj4 k)) D2:=by
 refine FnG.of_vc (zah zad fun _=>none) Tryz.func201 rfl (by decide) rfl 300 (p:=fun (V:List PE→Prop)=>True∧True∧IntKind.wrap IntKind.i64 (k.snap.index+(↑(k.entries.length):Int))=zj4 k∧True) (by kernel_rfl) ?_
 simp [zj4]
def zuF:Ent:=ent1 201 dKept fun k=>([],.int .i64 (zj4 k),D2)
theorem zqV:zae Tryz.prog zuF:=zan (zmt default).1 fun k _=>zmt k
def zKept:Kept:=⟨0,0,zd7,[]⟩
theorem zpq (e:Int):FnC Tryz.prog 202 [dInt.can e] (.tup [.agg (zKept.svs [1]),.int .i64 e]) D2:=by
 refine FnG.of_vc (zah zad fun _=>none) Tryz.func202 rfl (by decide) rfl 300 (p:=fun (V:List PE→Prop)=>let v0:=zKept.snap;let v2:=(0:Int);True∧True∧v2=zKept.term∧v2=zKept.vote∧v2=v0.index∧v2=v0.term∧v0.config.voters=[]∧v0.config.learners=[]∧ByteArray.mk #[]=v0.data∧zKept.entries=[]∧e=e∧True) (by kernel_rfl) ?_
 simp [zKept,zd7,zs]
def zxU:Ent:=ent1 202 dInt fun e=>([],.tup [.agg (zKept.svs [1]),.int .i64 e],D2)
theorem ztv:zae Tryz.prog zxU:=zan (zpq 0).1 fun e _=>zpq e
theorem zlU (k:Kept) (hk:zaC k):FnC Tryz.prog 13 [dKept.can k] (.agg [.int .i64 k.term,.int .i64 k.vote,.int .i64 k.snap.index,.int .i64 k.snap.term,.sl [1] (.rInts k.snap.config.voters),.sl [1] (.rInts k.snap.config.learners),.str k.snap.data,.own 2]) [.dead,.dead,.row 89 [1] (.rEntry k.entries)]:=by
 refine FnC.g1 dKept k (fnB Tryz.func13 (by decide) rfl) fun hkk=>?_
 refine FnG.of_vc (zah zcP fun _=>none) Tryz.func13 rfl (by decide) rfl 300 (p:=fun (V:List PE→Prop)=>let v0:=k.snap.config;True∧(v0.voters.length≤1000000∧v0.learners.length≤1000000∧True)∧True∧V []) (by kernel_rfl) ?_
 simp only [true_and,and_true]
 obtain ⟨⟨hk1,hk2⟩,hk3⟩:=hk
 refine ⟨hk3,?_⟩
 refine LoopG.head (zah zcP fun _=>none) 0 (A:=Nat) (fun j=>j≤k.entries.length) (fun j=>[(4,.int .i64 j)]) (fun j=>[(35,.cells 30 [.int .i64 k.term,.int .i64 k.vote,.int .i64 k.snap.index,.int .i64 k.snap.term,.sl [18] (.rInts k.snap.config.voters),.sl [18] (.rInts k.snap.config.learners),.str k.snap.data,.own 19]),(19,.row 89 [20] (.rEntry (k.entries.take j))),(20,.dead)]) (fun j=>k.entries.length-j) 0 (Nat.zero_le _) (p0:=let v0:=k.snap;let v1:=k.entries;let v2:=v0.data;let v3:=v0.term;let v4:=v0.index;let v6:=v0.config.voters;let v7:=v0.config.learners;(0:Int)=(↑(0:Nat):Int)∧k.term=k.term∧k.vote=k.vote∧v4=v4∧v3=v3∧v6=v6∧v7=v7∧v2=v2∧List.take (0:Nat) v1=[]∧(0:Int)=0∧(0:Int)=0∧(0:Int)=0∧(0:Int)=0∧ByteArray.mk #[]=ByteArray.mk #[]∧k.term=k.term∧k.vote=k.vote∧v4=v4∧v3=v3∧v6=v6∧v7=v7∧v2=v2∧v1=v1∧True) (by kernel_rfl) ?_ 300 (p:=fun (x:Nat) (V:List PE→Prop)=>let v0:=k.snap;let v1:=k.entries;let v4:=v0.config;let v6:=(↑x:Int);let v9:=List.take x v1;let v10:=(↑(v1.length):Int);let v11:=List.getD v1 x default;let v13:=decide (v6<v10);True∧True∧(v13=true→((0:Int)≤v6∧v6<v10∧v11.config.voters.length≤1000000∧v11.config.learners.length≤1000000∧(v9.length+List.length [v11])*(1024:Nat)≤140737488355328∧True)∧True∧V [PE.a])∧(v13=false→True∧k.term=k.term∧k.vote=k.vote∧v0.index=v0.index∧v0.term=v0.term∧v4.voters=v4.voters∧v4.learners=v4.learners∧v0.data=v0.data∧v9=v1∧True)) (by intro x;kernel_rfl) ?_
 ·simp
 ·rintro j hj
  have hkl:=hkk.entries.1
  simp only [imp_self,implies_true,true_and,and_true,decide_eq_true_eq,decide_eq_false_iff_not]
  refine ⟨fun h6=>?_,fun h6=>?_⟩
  ·have hse:zbA (k.entries.getD j default):=hk2 _ (za4 (by omega))
   refine ⟨⟨by omega,by omega,hse.1,hse.2,by simp;omega⟩,?_⟩
   refine Back.mk (j+1) (by omega) (by omega) (p0:=let v0:=k.snap;let v1:=k.entries;let v2:=v0.data;let v3:=v0.term;let v4:=v0.index;let v6:=v0.config.voters;let v7:=v0.config.learners;IntKind.wrap IntKind.i64 ((↑j:Int)+(1:Int))=(↑(j+(1:Nat)):Int)∧k.term=k.term∧k.vote=k.vote∧v4=v4∧v3=v3∧v6=v6∧v7=v7∧v2=v2∧List.take j v1++[List.getD v1 j default]=List.take (j+(1:Nat)) v1∧(0:Int)=0∧(0:Int)=0∧(0:Int)=0∧(0:Int)=0∧ByteArray.mk #[]=ByteArray.mk #[]∧k.term=k.term∧k.vote=k.vote∧v4=v4∧v3=v3∧v6=v6∧v7=v7∧v2=v2∧v1=v1∧True) (by kernel_rfl) ?_
   simp only [true_and,and_true,za8 (i:=j) (by omega)]
   refine ⟨by omega,?_⟩
   rw [zam (d:=default) (by omega)]
  ·obtain rfl:j=k.entries.length:=by omega
   simp
def zu6:Ent:=ent1 13 dKept fun k=>([zaC k],.agg [.int .i64 k.term,.int .i64 k.vote,.int .i64 k.snap.index,.int .i64 k.snap.term,.sl [1] (.rInts k.snap.config.voters),.sl [1] (.rInts k.snap.config.learners),.str k.snap.data,.own 2],[.dead,.dead,.row 89 [1] (.rEntry k.entries)])
theorem zq8:zae Tryz.prog zu6:=zan (zlU default zdA).1 fun k h=>zlU k (h _ (by simp))
def tabR1:List Ent:=[zir,zgl,zu6,zuF,zxU]
theorem zsd:∀ e∈tabR1,zae Tryz.prog e:=zaa zeH (zaa zc3 (zaa zq8 (zaa zqV (zaa ztv zad))))
def foldOk (k:Kept) (r:Record):Prop:=onC k=true∧k.snap.index+k.entries.length≤1000000000 ∧
  ((r.kind = 1 ∧ k.term ≤ r.term) ∨ (r.kind = 2 ∧ r.entry.index = k.snap.index + k.entries.length + 1 ∧ k.entries.length < 10000) ∨
   (r.kind=3∧k.snap.index<r.index∧r.index≤k.snap.index+k.entries.length)∨(r.kind=4∧k.snap.index<r.snap.index))
theorem foldOk.last {k:Kept} {r:Record} (h:foldOk k r):zj4 k=k.snap.index+k.entries.length∧0≤k.snap.index:=by
 have h1:=(zjr h.1).1
 have h2:=h.2.1
 unfold zj4
 rw [IntKind.wrap_i64]
 omega
theorem zpW (k:Kept) (r:Record) (hk:zaC k) (hr:SmallR r) (hf:foldOk k r):FnC Tryz.prog 164 [dKept.can k,dRecord.can r] (.tup [.agg ((recK k r).svs [1]),.int .i64 0]) D2:=by
 refine FnC.g2 dKept dRecord k r (fnB Tryz.func164 (by decide) rfl) fun hkk hrr=>?_
 refine FnG.of_vc (zah zsd fun _=>none) Tryz.func164 rfl (by decide) rfl 300 (p:=fun (V:List PE→Prop)=>let v0:=r.kind;let v1:=k.entries;let v2:=r.snap;let v3:=k.term;let v5:=zKept.snap;let v6:=Record.entry r;let v7:=k.snap;let v11:=v2.index;let v13:=v7.index;let v14:=recK k r;let v15:=v7.config;let v16:=v5.config;let v17:=v14.snap;let v18:=v2.config.voters;let v19:=v14.entries;let v20:=v1.length;let v21:=v14.term;let v22:=v2.config.learners;let v23:=v14.vote;let v24:=v17.data;let v26:=v17.index;let v27:=(1:Int);let v28:=(0:Int);let v29:=v17.term;let v30:=v17.config.learners;let v31:=v17.config.voters;let v32:=(↑v20:Int);let v33:=v0==3;let v35:=v0==2;let v36:=decide (r.term<v3);let v37:=decide (r.index≤v13);let v38:=decide (v11≤v13);let v40:=v6.index != IntKind.wrap IntKind.i64 (zj4 k+v27);let v41:=IntKind.wrap IntKind.i64 (IntKind.wrap IntKind.i64 (r.index-v13)-v27);let v42:=IntKind.wrap IntKind.i64 (IntKind.wrap IntKind.i64 (v11-v13)-v27);let v43:=decide (v32≥10000);let v44:=zac v37 true (decide (r.index>zj4 k));let v45:=List.take (Int.toNat v41) v1;let v46:=IntKind.wrap IntKind.i64 (v42+v27);let v47:=decide (v42<v32);let v48:=zac v47 (Entry.term (List.getD v1 (Int.toNat v42) default)==v2.term) false;True∧(zaC k∧True)∧True∧True∧True∧True∧((v0==v27)=true→True∧True∧(v36=true→True∧zKept.term=v21∧zKept.vote=v23∧v5.index=v26∧v5.term=v29∧v16.voters=v31∧v16.learners=v30∧v5.data=v24∧zKept.entries=v19∧(140:Int)=v28∧True)∧(v36=false→True∧True∧True∧r.term=v21∧r.vote=v23∧v13=v26∧v7.term=v29∧v15.voters=v31∧v15.learners=v30∧v7.data=v24∧v1=v19∧v20≤17592186044416∧v28=v28∧True))∧((v0==v27)=false→True∧True∧(v35=true→True∧True∧(v40=true→True∧zKept.term=v21∧zKept.vote=v23∧v5.index=v26∧v5.term=v29∧v16.voters=v31∧v16.learners=v30∧v5.data=v24∧zKept.entries=v19∧(140:Int)=v28∧True)∧(v40=false→True∧True∧(v43=true→True∧zKept.term=v21∧zKept.vote=v23∧v5.index=v26∧v5.term=v29∧v16.voters=v31∧v16.learners=v30∧v5.data=v24∧zKept.entries=v19∧(2:Int)=v28∧True)∧(v43=false→(v6.config.voters.length≤1000000∧v6.config.learners.length≤1000000∧(v20+List.length [v6])*(1024:Nat)≤140737488355328∧True)∧True∧v3=v21∧k.vote=v23∧v13=v26∧v7.term=v29∧v15.voters=v31∧v15.learners=v30∧v7.data=v24∧(v1++[v6])=v19∧List.length (v1++[v6])≤17592186044416∧v28=v28∧True)))∧(v35=false→True∧True∧(v33=true→(((!v37)=true→(!v37)=true)∧((!v37)=true→(!v37)=true)∧((!v37)=true→(!v37)=true)∧(v37=false→(!v37)=true)∧True)∧True∧(v44=true→True∧zKept.term=v21∧zKept.vote=v23∧v5.index=v26∧v5.term=v29∧v16.voters=v31∧v16.learners=v30∧v5.data=v24∧zKept.entries=v19∧(140:Int)=v28∧True)∧(v44=false→(v28≤v41∧v41≤v32∧True)∧True∧v3=v21∧k.vote=v23∧v13=v26∧v7.term=v29∧v15.voters=v31∧v15.learners=v30∧v7.data=v24∧v45=v19∧v45.length≤17592186044416∧v28=v28∧True))∧(v33=false→True∧True∧(v38=true→True∧zKept.term=v21∧zKept.vote=v23∧v5.index=v26∧v5.term=v29∧v16.voters=v31∧v16.learners=v30∧v5.data=v24∧zKept.entries=v19∧(140:Int)=v28∧True)∧(v38=false→True∧((v47=true→v47=true)∧(v47=true→v47=true)∧(v47=true→v47=true)∧(v47=true→v28≤v42)∧(v47=true→v42<v32)∧(v47=true→v47=true)∧(v47=true→v47=true)∧(v47=true→v47=true)∧(v47=true→v47=true)∧(v47=true→v47=true)∧(v47=true→v47=true)∧(v47=true→v47=true)∧True)∧True∧(v48=true→(v28≤v46∧v46≤v32∧v32≤v32∧v20≤17592186044416∧True)∧(v18.length≤1000000∧v22.length≤1000000∧True)∧True∧v3=v21∧k.vote=v23∧v11=v26∧v2.term=v29∧v18=v31∧v22=v30∧v2.data=v24∧List.drop (Int.toNat v46) (List.take v20 v1)=v19∧v28=v28∧True)∧(v48=false→True∧(v18.length≤1000000∧v22.length≤1000000∧True)∧True∧v3=v21∧k.vote=v23∧v11=v26∧v2.term=v29∧v18=v31∧v22=v30∧v2.data=v24∧v19=[]∧v28=v28∧True)))))) (by kernel_rfl) ?_
 simp only [imp_self,implies_true,true_and,and_true,zaf,zag]
 have hkl:=hkk.entries.1
 obtain ⟨hl,h0⟩:=hf.last
 obtain ⟨ho,hb,hc⟩:=hf
 have hw:IntKind.i64.wrap (k.snap.index+k.entries.length+1)=k.snap.index+k.entries.length+1:=zb3 ⟨by omega,by omega⟩
 simp only [beq_iff_eq,beq_eq_false_iff_ne,bne_iff_ne,bne_eq_false_iff_eq,decide_eq_true_eq,decide_eq_false_iff_not,Bool.or_eq_true,Bool.or_eq_false_iff,Bool.not_eq_true',imp_self,true_and,and_true,hw,hl]
 refine ⟨hk,fun h=>⟨fun h2=>?_,fun h2=>?_⟩,fun h1=>⟨fun h=>⟨fun h2=>?_,fun h2=>⟨fun h3=>?_,fun h3=>?_⟩⟩,fun h2=>⟨fun h=>⟨fun h4=>?_,fun h4=>?_⟩,fun h3=>?_⟩⟩⟩
 ·exact absurd hc (by omega)
 ·have e:recK k r={k with term:=r.term,vote:=r.vote}:=by rw [recK,if_pos h]
  rw [e]
  exact ⟨rfl,rfl,rfl,rfl,rfl,rfl,rfl,rfl,hkl⟩
 ·exact absurd hc (by omega)
 ·exact absurd hc (by omega)
 ·have e:recK k r={k with entries:=k.entries++[r.entry]}:=by rw [recK,if_neg h1,if_pos h]
  rw [e]
  refine ⟨⟨hr.e.1,hr.e.2,by simp;omega⟩,rfl,rfl,rfl,rfl,rfl,rfl,rfl,rfl,by simp;omega⟩
 ·exact absurd hc (by omega)
 ·have ew:IntKind.i64.wrap (IntKind.i64.wrap (r.index-k.snap.index)-1)=r.index-k.snap.index-1:=by
   rw [zb3 (n:=r.index-k.snap.index) ⟨by omega,by omega⟩,zb3 ⟨by omega,by omega⟩]
  have ew2:IntKind.i64.wrap (IntKind.i64.wrap (r.index-1)-k.snap.index)=r.index-k.snap.index-1:=by
   rw [zb3 (n:=r.index-1) ⟨by omega,by omega⟩,zb3 ⟨by omega,by omega⟩];omega
  have e:recK k r={k with entries:=k.entries.take (r.index-k.snap.index-1).toNat}:=by rw [recK,if_neg h1,if_neg h2,if_pos h,ew2]
  rw [e,ew]
  exact ⟨⟨by omega,by omega⟩,rfl,rfl,rfl,rfl,rfl,rfl,rfl,rfl,by simp only [List.length_take];omega⟩
 ·have h4:r.kind=4:=by omega
  have e:recK k r={k with entries:=(if (zaI k r.snap.index).2=0∧(zaI k r.snap.index).1=r.snap.term then k.entries.drop (IntKind.i64.wrap (r.snap.index-k.snap.index)).toNat else []),snap:=r.snap}:=by rw [recK,if_neg h1,if_neg h2,if_neg h3,if_pos h4]
  have hsi:=hrr.snap_index
  have hgt:k.snap.index<r.snap.index:=by omega
  have hsi2:r.snap.index≤9223372036854775807:=by have:=hsi.2;omega
  have ew:IntKind.i64.wrap (IntKind.i64.wrap (r.snap.index-k.snap.index)-1)=r.snap.index-k.snap.index-1:=by
   rw [zb3 (n:=r.snap.index-k.snap.index) ⟨by omega,by omega⟩,zb3 ⟨by omega,by omega⟩]
  have ew2:IntKind.i64.wrap (r.snap.index-k.snap.index)=r.snap.index-k.snap.index:=zb3 ⟨by omega,by omega⟩
  have ew3:IntKind.i64.wrap (r.snap.index-k.snap.index-1+1)=r.snap.index-k.snap.index:=by rw [zb3 ⟨by omega,by omega⟩];omega
  have ht:((zaI k r.snap.index).2=0∧(zaI k r.snap.index).1=r.snap.term)↔(r.snap.index-k.snap.index-1<(k.entries.length:Int)∧(k.entries.getD (r.snap.index-k.snap.index-1).toNat default).term=r.snap.term):=by
   unfold zaI
   rw [if_pos ho,if_neg (by omega)]
   by_cases g:r.snap.index≤k.snap.index+k.entries.length
   ·rw [if_pos ⟨hgt,g⟩]
    simp only [true_and]
    exact ⟨fun h=>⟨by omega,h⟩,fun h=>h.2⟩
   ·rw [if_neg (fun h=>g h.2)]
    constructor
    ·rintro ⟨h,_⟩;exact absurd h (by decide)
    ·rintro ⟨h,_⟩;omega
  rw [ew] at *
  simp only [ht,ew2] at e
  refine ⟨fun h=>absurd h (by omega),fun _=>⟨fun _=>by omega,fun g=>?_,fun g=>?_⟩⟩
  ·have g:r.snap.index-k.snap.index-1<(k.entries.length:Int)∧(k.entries.getD (r.snap.index-k.snap.index-1).toNat default).term=r.snap.term:=by simpa using g
   rw [if_pos g] at e
   rw [e,ew3,List.take_length]
   exact ⟨⟨by omega,by omega,by omega,hkl⟩,⟨hr.s.1,hr.s.2⟩,rfl,rfl,rfl,rfl,rfl,rfl,rfl,rfl⟩
  ·have g:¬ (r.snap.index-k.snap.index-1<(k.entries.length:Int)∧(k.entries.getD (r.snap.index-k.snap.index-1).toNat default).term=r.snap.term):=by
    rintro ⟨g1,g2⟩
    rw [g2] at g;simp [g1] at g
   rw [if_neg g] at e
   rw [e]
   exact ⟨⟨hr.s.1,hr.s.2⟩,rfl,rfl,rfl,rfl,rfl,rfl,rfl,rfl⟩
def zwi:Ent:=ent2 164 dKept dRecord fun k r=>([zaC k,SmallR r,foldOk k r],.tup [.agg ((recK k r).svs [1]),.int .i64 0],D2)
theorem znO:zae Tryz.prog zwi:=zar (fnB Tryz.func164 (by decide) rfl) fun k r h=>zpW k r (h _ (by simp)) (h _ (by simp)) (h _ (by simp))
theorem ziU (s:Step) (r:Record) (hl:s.o.records.length≤1000000) (hk:zaC s.n.kept) (hr:SmallR r) (hf:foldOk s.n.kept r):FnG Tryz.prog 103 3 (sMi 125 s) [.ptr 2 0,dRec2.can r] (.tup []) (sMo 125 (recS s r)):=by
 refine FnG.of_vc (zah (zaa znO zad) fun _=>none) Tryz.func103 rfl (by decide) rfl 300 (p:=fun (V:List PE→Prop)=>let v0:=s.n;let v8:=v0.kept;let v10:=Step.n (recS s r);let v11:=v8.snap;let v12:=Step.o (recS s r);let v14:=v10.kept;let v15:=recK v8 r;let v16:=v15.snap;let v17:=v14.snap;let v20:=(0:Int)==0;True∧(zaC v8∧SmallR r∧foldOk v8 r∧True)∧True∧True∧((s.o.records.length+List.length [r])*(1024:Nat)≤140737488355328∧True)∧zai v20 v0.id v0.id=v10.id∧zai v20 v0.role v0.role=v10.role∧zai v20 v15.term v8.term=v14.term∧zai v20 v15.vote v8.vote=v14.vote∧zai v20 v16.index v11.index=v17.index∧zai v20 v16.term v11.term=v17.term∧(if v20=true then v16.config.voters else v11.config.voters)=v17.config.voters∧(if v20=true then v16.config.learners else v11.config.learners)=v17.config.learners∧(if v20=true then v16.data else v11.data)=v17.data∧(if v20=true then v15.entries else v8.entries)=v14.entries∧zai v20 v0.commit v0.commit=v10.commit∧zai v20 v0.lead v0.lead=v10.lead∧zai v20 v0.elapsed v0.elapsed=v10.elapsed∧zai v20 v0.round v0.round=v10.round∧qN9 v0 v10 (s.o.records++[r]=v12.records∧s.o.messages=v12.messages∧s.o.ready=v12.ready∧s.o.lost=v12.lost∧True)) (by kernel_rfl) ?_
 simp only [qN9,imp_self,implies_true,true_and,and_true,zaf,zag]
 refine ⟨⟨hk,hr,hf⟩,by simp;omega,?_⟩
 repeat' apply And.intro
 all_goals rfl
def zvU:Ent:=zbs 103 3 mSt dRec2 vrS [1,2] glS fun s r=>([s.o.records.length≤1000000,zaC s.n.kept,SmallR r,foldOk s.n.kept r],.tup [],sMo 125 (recS s r))
theorem zfs:zae Tryz.prog zvU:=za2 (fnB Tryz.func103 (by decide) rfl) fun s r h=>ziU s r (h _ (by simp)) (h _ (by simp)) (h _ (by simp)) (h _ (by simp))
def zbl (t v:Int):Record:=⟨1,t,v,ztX,0,zd7⟩
theorem zc5 (t v:Int):SmallR (zbl t v):=⟨smallD0.c,smallD0.c⟩
theorem zeK (k:Kept) (t v:Int):zg6 k (zbl t v):=fun h=>absurd (show (1:Int)=3 from h) (by decide)
theorem Few.vote {B:Nat} {s:Step} (t v:Int) (h:Few B s):Few (B+1) (recS s (zbl t v)):=h.recd smallD0 smallD0
def msgK (kind:Int):Message:=⟨kind,0,0,0,0,0,[],0,0,false,zd7,0,0,zs⟩
def stand1 (s:Step):Step:=runS (recS s (zbl (IntKind.i64.wrap (s.n.kept.term+1)) s.n.id)) 3
def zbo (s:Step):Step:=if zaE (stand1 s).n then zcq (stand1 s) else askS (stand1 s) (msgK 3)
theorem Few.stand1 {B:Nat} {s:Step} (h:Few B s):Few (B+1) (stand1 s):=Few.run _ (h.vote _ _) (by omega)
theorem Few.stand {B:Nat} {s:Step} (h:Few B s):Few (B+5002) (zbo s):=by
 unfold zbo
 split
 ·exact h.stand1.rule.mono (by omega)
 ·exact (h.stand1.ask _).mono (by omega)
def zvS:Ent:=zeF 140 3 mW vrW [1] glW fun s=>([Few 80000 s],.tup [],wMo (zcq s))
theorem zm2:zae Tryz.prog zvS:=zbu (fnB Tryz.func140 (by decide) rfl) fun s h=>zvi s (h _ (by simp))
def tabBc:List Ent:=[eRec,eRun,zvS,zwn]
theorem zsp:∀ e∈tabBc,zae Tryz.prog e:=zaa zdI (zaa zqu (zaa zm2 (zaa zmI zad)))
theorem zsv (s:Step) (hf:Few 70000 s):FnG Tryz.prog 79 3 (wMi s) [.ptr 2 0] (.tup []) (wMo (zbo s)):=by
 refine FnG.of_vc (zah zsp fun _=>none) Tryz.func79 rfl (by decide) rfl 300 (p:=fun (V:List PE→Prop)=>let v0:=Step.o (zbo s);let v1:=s.n.kept;let v2:=Step.n (zbo s);let v18:=ByteArray.mk #[];let v19:=(0:Int);let v29:=Snap.mk v19 v19 (Config.mk [] []) v18;let v30:=Record.mk (1:Int) (IntKind.wrap IntKind.i64 (v1.term+(1:Int))) s.n.id (Entry.mk v19 v19 v19 (Config.mk [] []) v18) v19 v29;let v31:=recS s v30;let v32:=runS v31 (3:Int);let v34:=zcq v32;let v42:=askS v32 (Message.mk (3:Int) v19 v19 v19 v19 v19 [] v19 v19 false v29 v19 v19 v18);(s.o.records.length≤1000000∧v1.entries.length≤1000000∧SmallR v30∧zg6 v1 v30∧(1:Int)≠(4:Int)∧True)∧(SmallN v31.n∧SmallO v31.o∧True)∧True∧((zaE v32.n)=true→(Few 80000 v32∧True)∧qN0 v34.n v2 (qN4 v34.n v2 (qO14 v34.o v0 (v34.o.lost=v0.lost∧True))))∧((zaE v32.n)=false→(SmallN v32.n∧SmallO v32.o∧v32.o.messages.length≤900000∧List.length (Config.voters (zav v32.n))≤4000∧True)∧qN0 v42.n v2 (qN4 v42.n v2 (qO14 v42.o v0 (v42.o.lost=v0.lost∧True))))) (by kernel_rfl) ?_
 simp only [qN0,qN4,qO14,imp_self,implies_true,true_and,and_true,zaf,zag]
 have k0:=hf.vote (IntKind.i64.wrap (s.n.kept.term+1)) s.n.id
 have k1:=hf.stand1
 refine ⟨⟨(hf.so (by decide)).records,(hf.sn (by decide)).ls.2.2.2.2,zc5 _ _,zeK _ _ _,by decide⟩,⟨k0.sn (by decide),k0.so (by decide)⟩,fun h=>?_,fun h=>?_⟩
 ·have h:zaE (stand1 s).n=true:=h
  rw [zbo,if_pos h]
  refine ⟨k1.mono (by decide),?_⟩
  repeat' apply And.intro
  all_goals rfl
 ·have h:zaE (stand1 s).n=false:=h
  rw [zbo,if_neg (by rw [h];decide)]
  refine ⟨⟨k1.sn (by decide),k1.so (by decide),Nat.le_trans k1.messages (by decide),k1.cf.1⟩,?_⟩
  repeat' apply And.intro
  all_goals rfl
def zbO (s:Step) (t:Int):Step:=if s.n.kept.term<t then ⟨{(recS s (zbl t 0)).n with lead:=0},(recS s (zbl t 0)).o⟩ else s
def za0 (s:Step) (t:Int):Step:=⟨{(zbO s t).n with role:=1,yes:=[],peers:=[],reads:=[]},{(zbO s t).o with lost:=(zbO s t).o.lost++s.n.reads.map (·.token)}⟩
theorem zvL (s:Step) (t:Int) (hf:Few 70000 s):FnG Tryz.prog 87 3 (wMi s) [.ptr 2 0,dInt.L.can t] (.tup []) (wMo (za0 s t)):=by
 refine FnG.of_vc (zah (zaa zdI zad) fun _=>none) Tryz.func87 rfl (by decide) rfl 300 (p:=fun (V:List PE→Prop)=>let v0:=s.n.kept;let v2:=(0:Int);let v3:=decide (t>v0.term);let v4:=Record.mk (1:Int) t v2 (Entry.mk v2 v2 v2 (Config.mk [] []) (ByteArray.mk #[])) v2 (Snap.mk v2 v2 (Config.mk [] []) (ByteArray.mk #[]));True∧True∧(v3=true→(s.o.records.length≤1000000∧v0.entries.length≤1000000∧SmallR v4∧zg6 v0 v4∧(1:Int)≠(4:Int)∧True)∧True∧True∧V [PE.a])∧(v3=false→True∧V [PE.b])) (by kernel_rfl) ?_
 simp only [qN0,qN16,qN18,qN19,qN8,qO14,imp_self,implies_true,true_and,and_true,zaf,zag]
 obtain ⟨b1,b2,b3,b4,b5⟩:=(hf.sn (by decide)).ls
 have hrl:=hf.reads
 have hll:=hf.lost
 have hpre:s.o.records.length≤1000000∧s.n.kept.entries.length≤1000000∧SmallR (zbl t 0)∧zg6 s.n.kept (zbl t 0)∧(1:Int)≠4:=⟨(hf.so (by decide)).records,b5,zc5 _ _,zeK _ _ _,by decide⟩
 refine ⟨fun h=>⟨hpre,?_⟩,fun h=>?_⟩
 ·have h:s.n.kept.term<t:=by simpa using h
  obtain ⟨s1,hs1⟩:∃ s1,(⟨{(recS s (zbl t 0)).n with lead:=0},(recS s (zbl t 0)).o⟩:Step)=s1:=⟨_,rfl⟩
  have e:za0 s t=⟨{s1.n with role:=1,yes:=[],peers:=[],reads:=[]},{s1.o with lost:=s1.o.lost++s.n.reads.map (·.token)}⟩:=by rw [za0,zbO,if_pos h,hs1]
  rw [e]
  refine LoopG.head (zah (zaa zdI zad) fun _=>none) 0 (A:=Nat) (fun j=>j≤s.n.reads.length) (fun j=>[(28,.int .i64 j),(27,.int .i64 (s.n.reads.length:Int))]) (fun j=>[(2,.cells 115 (wCs [1,31] s1 30 31 32 33 34 35 36 12)),(12,.row 3 [2,30] (.rInts (s1.o.lost++(s.n.reads.take j).map (·.token)))),(37,.dead)]) (fun j=>s.n.reads.length-j) 0 (Nat.zero_le _) (p0:=let v2:=s.n.reads;let v5:=(0:Int);let v6:=recS s (Record.mk (1:Int) t v5 (Entry.mk v5 v5 v5 (Config.mk [] []) (ByteArray.mk #[])) v5 (Snap.mk v5 v5 (Config.mk [] []) (ByteArray.mk #[])));let v7:=v6.o;let v8:=v6.n;v5=(↑(0:Nat):Int)∧(↑(v8.reads.length):Int)=(↑(v2.length):Int)∧qN0 v8 s1.n (v8.commit=s1.n.commit∧v5=s1.n.lead∧v8.elapsed=s1.n.elapsed∧v8.round=s1.n.round∧v7.lost=s1.o.lost++List.map (fun (x:Read)=>x.token) (List.take (0:Nat) v2)∧qN16 v8 v8 (v7.records=v7.records∧v7.messages=v7.messages∧v7.ready=v7.ready∧True))) (by kernel_rfl) ?_ 300 (p:=fun (x:Nat) (V:List PE→Prop)=>let v1:=s1.n;let v4:=s.n.reads;let v6:=(↑x:Int);let v7:=(1:Int);let v9:=(0:Int);let v12:=s1.o.lost++List.map (fun (x:Read)=>x.token) (List.take x v4);let v15:=decide (v6<(↑(v4.length):Int));let v17:=recS s (Record.mk v7 t v9 (Entry.mk v9 v9 v9 (Config.mk [] []) (ByteArray.mk #[])) v9 (Snap.mk v9 v9 (Config.mk [] []) (ByteArray.mk #[])));True∧True∧(v15=true→(v9≤v6∧v6<(↑(v17.n.reads.length):Int)∧x<v17.n.reads.length∧True)∧((v12.length+List.length [Read.token (List.getD v17.n.reads x default)])*(1024:Nat)≤140737488355328∧True)∧True∧V [PE.a])∧(v15=false→True∧v1.id=Node.id (let __src:=v1;Node.mk (Node.id __src) v7 (Node.kept __src) (Node.commit __src) (Node.lead __src) (Node.elapsed __src) [] [] (Node.round __src) [])∧v7=Node.role (let __src:=v1;Node.mk (Node.id __src) v7 (Node.kept __src) (Node.commit __src) (Node.lead __src) (Node.elapsed __src) [] [] (Node.round __src) [])∧qN18 v1 (let __src:=s1.n;Node.mk (Node.id __src) (1:Int) (Node.kept __src) (Node.commit __src) (Node.lead __src) (Node.elapsed __src) [] [] (Node.round __src) []) (v17.n.kept.entries=Kept.entries (Node.kept (let __src:=v1;Node.mk (Node.id __src) v7 (Node.kept __src) (Node.commit __src) (Node.lead __src) (Node.elapsed __src) [] [] (Node.round __src) []))∧Node.yes (let __src:=v1;Node.mk (Node.id __src) v7 (Node.kept __src) (Node.commit __src) (Node.lead __src) (Node.elapsed __src) [] [] (Node.round __src) [])=[]∧Node.peers (let __src:=v1;Node.mk (Node.id __src) v7 (Node.kept __src) (Node.commit __src) (Node.lead __src) (Node.elapsed __src) [] [] (Node.round __src) [])=[]∧Node.reads (let __src:=v1;Node.mk (Node.id __src) v7 (Node.kept __src) (Node.commit __src) (Node.lead __src) (Node.elapsed __src) [] [] (Node.round __src) [])=[]∧qO14 v17.o (let __src:=s1.o;Out.mk (Out.records __src) (Out.messages __src) (Out.ready __src) (s1.o.lost++List.map (fun (x:Read)=>x.token) s.n.reads)) (v12=Out.lost (let __src:=s1.o;Out.mk (Out.records __src) (Out.messages __src) (Out.ready __src) (s1.o.lost++List.map (fun (x:Read)=>x.token) v4))∧True)))) (by intro x;kernel_rfl) ?_
  ·subst hs1
   repeat' apply And.intro
   all_goals first | rfl | (simp;done) | (simp;rfl)
  rintro j hj
  subst hs1
  simp only [qN0,qN16,qN18,qN19,qN8,qO14,imp_self,implies_true,true_and,and_true,decide_eq_true_eq,decide_eq_false_iff_not]
  have hlt:((recS s (zbl t 0)).o.lost++(s.n.reads.take j).map (·.token)).length≤75000:=by
   have:(s.n.reads.take j).length≤s.n.reads.length:=by simp only [List.length_take];omega
   simp only [List.length_append,List.length_map]
   have h9:(recS s (zbl t 0)).o.lost.length≤70000:=hll
   omega
  refine ⟨fun h6=>⟨⟨by omega,h6,by show j<s.n.reads.length;omega⟩,Nat.le_trans (Nat.mul_le_mul_right _ (Nat.add_le_add_right hlt 1)) (by decide),?_⟩,fun h6=>?_⟩
  ·refine Back.mk (j+1) (by omega) (by omega) (p0:=let v0:=s.n.reads;let v1:=(0:Int);let v2:=(↑(v0.length):Int);let v3:=recS s (zbl t v1);let v4:=v3.n;let v10:=v3.o.lost;let v21:=recS s (Record.mk (1:Int) t v1 (Entry.mk v1 v1 v1 (Config.mk [] []) (ByteArray.mk #[])) v1 (Snap.mk v1 v1 (Config.mk [] []) (ByteArray.mk #[])));IntKind.wrap IntKind.i64 ((↑j:Int)+(1:Int))=(↑(j+(1:Nat)):Int)∧v2=v2∧qN0 v4 v4 (v4.commit=v4.commit∧v1=v1∧v4.elapsed=v4.elapsed∧v4.round=v4.round∧v10++List.map (fun (x:Read)=>x.token) (List.take j v0)++[Read.token (List.getD v21.n.reads j default)]=v10++List.map (fun (x:Read)=>x.token) (List.take (j+(1:Nat)) v0)∧qN16 v21.n v21.n (v21.o.records=v21.o.records∧v21.o.messages=v21.o.messages∧v21.o.ready=v21.o.ready∧True))) (by kernel_rfl) ?_
   have e1:=zam (l:=s.n.reads) (d:=(default:Read)) (i:=j) (by omega)
   simp only [qN0,qN16,qN18,qN19,qN8,qO14,za8 (i:=j) (by omega),e1,List.map_append,List.map_cons,List.map_nil,List.append_assoc,true_and,and_true]
   first | exact ⟨by omega,rfl⟩ | omega
  ·obtain rfl:j=s.n.reads.length:=by omega
   rw [List.take_length]
   repeat' apply And.intro
   all_goals rfl
 ·have h:¬ s.n.kept.term<t:=by simpa using h
  have e:za0 s t=⟨{s.n with role:=1,yes:=[],peers:=[],reads:=[]},{s.o with lost:=s.o.lost++s.n.reads.map (·.token)}⟩:=by rw [za0,zbO,if_neg h]
  rw [e]
  refine LoopG.head (zah (zaa zdI zad) fun _=>none) 0 (A:=Nat) (fun j=>j≤s.n.reads.length) (fun j=>[(28,.int .i64 j),(27,.int .i64 (s.n.reads.length:Int))]) (fun j=>[(2,.cells 115 (wCs [1] s 3 4 5 6 7 8 9 12)),(12,.row 3 [2] (.rInts (s.o.lost++(s.n.reads.take j).map (·.token)))),(10,.dead)]) (fun j=>s.n.reads.length-j) 0 (Nat.zero_le _) (p0:=let v26:=(↑(s.n.reads.length):Int);(0:Int)=(↑(0:Nat):Int)∧v26=v26∧qN0 s.n s.n (qN8 s.n s.n (s.o.lost=s.o.lost++List.map (fun (x:Read)=>x.token) (List.take (0:Nat) s.n.reads)∧qN16 s.n s.n (s.o.records=s.o.records∧s.o.messages=s.o.messages∧s.o.ready=s.o.ready∧True)))) (by kernel_rfl) ?_ 300 (p:=fun (x:Nat) (V:List PE→Prop)=>let v3:=s.n.reads;let v6:=(↑x:Int);let v7:=(1:Int);let v8:=v3.length;let v12:=s.o.lost++List.map (fun (x:Read)=>x.token) (List.take x v3);let v15:=decide (v6<(↑v8:Int));True∧True∧(v15=true→((0:Int)≤v6∧v6<(↑v8:Int)∧x<v8∧True)∧((v12.length+List.length [Read.token (List.getD v3 x default)])*(1024:Nat)≤140737488355328∧True)∧True∧V [PE.a])∧(v15=false→True∧s.n.id=Node.id (let __src:=s.n;Node.mk (Node.id __src) v7 (Node.kept __src) (Node.commit __src) (Node.lead __src) (Node.elapsed __src) [] [] (Node.round __src) [])∧v7=Node.role (let __src:=s.n;Node.mk (Node.id __src) v7 (Node.kept __src) (Node.commit __src) (Node.lead __src) (Node.elapsed __src) [] [] (Node.round __src) [])∧qN19 s.n (let __src:=s.n;Node.mk (Node.id __src) (1:Int) (Node.kept __src) (Node.commit __src) (Node.lead __src) (Node.elapsed __src) [] [] (Node.round __src) []) (Node.yes (let __src:=s.n;Node.mk (Node.id __src) v7 (Node.kept __src) (Node.commit __src) (Node.lead __src) (Node.elapsed __src) [] [] (Node.round __src) [])=[]∧Node.peers (let __src:=s.n;Node.mk (Node.id __src) v7 (Node.kept __src) (Node.commit __src) (Node.lead __src) (Node.elapsed __src) [] [] (Node.round __src) [])=[]∧Node.reads (let __src:=s.n;Node.mk (Node.id __src) v7 (Node.kept __src) (Node.commit __src) (Node.lead __src) (Node.elapsed __src) [] [] (Node.round __src) [])=[]∧qO14 s.o (let __src:=s.o;Out.mk (Out.records __src) (Out.messages __src) (Out.ready __src) (s.o.lost++List.map (fun (x:Read)=>x.token) s.n.reads)) (v12=Out.lost (let __src:=s.o;Out.mk (Out.records __src) (Out.messages __src) (Out.ready __src) (s.o.lost++List.map (fun (x:Read)=>x.token) v3))∧True)))) (by intro x;kernel_rfl) ?_
  ·repeat' apply And.intro
   all_goals first | rfl | (simp;done) | (simp;rfl)
  rintro j hj
  simp only [qN0,qN16,qN18,qN19,qN8,qO14,imp_self,implies_true,true_and,and_true,decide_eq_true_eq,decide_eq_false_iff_not]
  have hlt:(s.o.lost++(s.n.reads.take j).map (·.token)).length≤75000:=by
   have:(s.n.reads.take j).length≤s.n.reads.length:=by simp only [List.length_take];omega
   simp only [List.length_append,List.length_map]
   have h9:s.o.lost.length≤70000:=hll
   omega
  refine ⟨fun h6=>⟨⟨by omega,h6,by show j<s.n.reads.length;omega⟩,Nat.le_trans (Nat.mul_le_mul_right _ (Nat.add_le_add_right hlt 1)) (by decide),?_⟩,fun h6=>?_⟩
  ·refine Back.mk (j+1) (by omega) (by omega) (p0:=let v14:=s.n.reads;let v26:=(↑(v14.length):Int);IntKind.wrap IntKind.i64 ((↑j:Int)+(1:Int))=(↑(j+(1:Nat)):Int)∧v26=v26∧qN0 s.n s.n (qN8 s.n s.n (s.o.lost++List.map (fun (x:Read)=>x.token) (List.take j v14)++[Read.token (List.getD v14 j default)]=s.o.lost++List.map (fun (x:Read)=>x.token) (List.take (j+(1:Nat)) v14)∧qN16 s.n s.n (s.o.records=s.o.records∧s.o.messages=s.o.messages∧s.o.ready=s.o.ready∧True)))) (by kernel_rfl) ?_
   have e1:=zam (l:=s.n.reads) (d:=(default:Read)) (i:=j) (by omega)
   simp only [qN0,qN16,qN18,qN19,qN8,qO14,za8 (i:=j) (by omega),e1,List.map_append,List.map_cons,List.map_nil,List.append_assoc,true_and,and_true]
   first | exact ⟨by omega,rfl⟩ | omega
  ·obtain rfl:j=s.n.reads.length:=by omega
   rw [List.take_length]
   repeat' apply And.intro
   all_goals rfl
def zqp:Ent:=zeF 79 3 mW vrW [1] glW fun s=>([Few 70000 s],.tup [],wMo (zbo s))
theorem zjS:zae Tryz.prog zqp:=zbu (fnB Tryz.func79 (by decide) rfl) fun s h=>zsv s (h _ (by simp))
def zrg:Ent:=zbs 87 3 mW dInt.L vrW [1,0] glW fun s t=>([Few 70000 s],.tup [],wMo (za0 s t))
theorem zek:zae Tryz.prog zrg:=za2 (fnB Tryz.func87 (by decide) rfl) fun s t h=>zvL s t (h _ (by simp))
def zjn (s:Step) (m:Message):Bool:=decide (m.term>s.n.kept.term)&&zcI s.n.kept m.index m.logTerm&&(s.n.lead==0||decide (s.n.elapsed≥6))
def zvo (m:Message) (ok:Bool):Message:=⟨2,0,m.from_,if ok then m.term else 0,0,0,[],0,0,ok,zd7,0,0,zs⟩
def zbj (s:Step) (m:Message):Step:=za3 s (zvo m (zjn s m))
theorem zsG (s:Step) (m:Message) (hf:Few 70000 s):FnG Tryz.prog 88 3 (wMi s) [.ptr 2 0,dMessage.L.can m] (.tup []) (wMo (zbj s m)):=by
 refine FnG.of_vc (zah (zaa zkf (zaa zei zad)) fun _=>none) Tryz.func88 rfl (by decide) rfl 300 (p:=fun (V:List PE→Prop)=>let v2:=s.n.kept;let v4:=Step.n (zbj s m);let v5:=Step.o (zbj s m);let v7:=(0:Int);let v10:=s.n.lead==v7;let v11:=decide (m.term>v2.term);let v12:=zac v11 (zcI v2 m.index (Message.logTerm m)) false;let v13:=zac v12 (zac v10 true (decide (s.n.elapsed≥6))) false;let v14:=zai v13 v7 v7;let v15:=if v13=true then ByteArray.mk #[] else ByteArray.mk #[];let v16:=za3 s (Message.mk (zai v13 (2:Int) (2:Int)) v14 (zai v13 m.from_ m.from_) (zai v13 m.term v7) v14 v14 [] v14 v14 (zac v13 true false) (Snap.mk v14 v14 (Config.mk [] []) v15) v14 v14 v15);True∧True∧((v11=true→v11=true)∧(v11=true→v11=true)∧(v11=true→v11=true)∧(v11=true→v11=true)∧(v11=true→v11=true)∧(v11=true→v11=true)∧(v11=true→v11=true)∧(v11=true→v11=true)∧(v11=true→v11=true)∧(v11=true→v2.entries.length≤17592186044416)∧(v11=true→v11=true)∧(v12=true→v12=true)∧(v12=true→v12=true)∧(v12=true→v12=true)∧(v12=true→v12=true)∧(v12=true→v12=true)∧(v12=true→v12=true)∧((v12&&!v10)=true→(v12&&!v10)=true)∧((v12&&!v10)=true→(v12&&!v10)=true)∧((v12&&!v10)=true→(v12&&!v10)=true)∧((v12&&!v10)=true→(v12&&!v10)=true)∧((v12&&!v10)=true→(v12&&!v10)=true)∧(v12=true→v12=true)∧(v12=true→v10=false→(v12&&!v10)=true)∧(v12=true→v12=true)∧True)∧True∧(s.o.messages.length≤1000000∧True)∧qN0 v16.n v4 (qN4 v16.n v4 (qO14 v16.o v5 (v16.o.lost=v5.lost∧True)))) (by kernel_rfl) ?_
 simp only [qN0,qN4,qO14,imp_self,implies_true,true_and,and_true,zaf,zag]
 refine ⟨⟨fun h=>(hf.sn (by decide)).ls.1,fun h1 h2=>by rw [h1,h2];rfl⟩,(hf.so (by decide)).messages,?_⟩
 obtain ⟨b,hb⟩:∃ b,zjn s m=b:=⟨_,rfl⟩
 rw [zbj,hb]
 unfold zjn at hb
 simp only [hb,zaU,zbx]
 cases b<;>(repeat' apply And.intro)<;>rfl
def zuD:Ent:=zbs 88 3 mW dMessage.L vrW [1,0] glW fun s m=>([Few 70000 s],.tup [],wMo (zbj s m))
theorem zqO:zae Tryz.prog zuD:=za2 (fnB Tryz.func88 (by decide) rfl) fun s m h=>zsG s m (h _ (by simp))
def zg2 (s:Step) (m:Message) (role term:Int):Bool:=s.n.role==role&&m.ok&&m.term==term
def yesS (s:Step) (m:Message):Step:=⟨{s.n with yes:=zcu s.n.yes m.from_},s.o⟩
def yesR (s:Step) (m:Message) (role term:Int):Step:=if zg2 s m role term then yesS s m else s
def yesB (s:Step) (m:Message) (role term:Int):Bool:=zg2 s m role term&&zaE (yesS s m).n
theorem zf1 (l:List Int) (v:Int):(zcu l v).length≤16:=by
 unfold zcu
 split
 ·split
  ·assumption
  ·simp
 ·simp
theorem zwN (s:Step) (m:Message) (role term:Int) (hf:Few 70000 s):FnG Tryz.prog 150 3 (wMi s) [.ptr 2 0,dMessage.L.can m,dInt.L.can role,dInt.L.can term] (.bool (yesB s m role term)) (wMo (yesR s m role term)):=by
 refine FnG.of_vc (zah (zaa zhs (zaa zm1 zad)) fun _=>none) Tryz.func150 rfl (by decide) rfl 300 (p:=fun (V:List PE→Prop)=>let v0:=s.n;let v5:=v0.reads;let v19:=yesB s m role term;let v21:=yesR s m role term;let v22:=zcu v0.yes m.from_;let v29:=v0.role != role;let v30:=zac v29 true !m.ok;let v31:=zac v30 true (m.term != term);let v32:=Node.mk v0.id v0.role v0.kept v0.commit v0.lead v0.elapsed v22 v0.peers v0.round v5;True∧(((!v29)=true→(!v29)=true)∧((!v29)=true→(!v29)=true)∧(v29=false→(!v29)=true)∧((!v30)=true→(!v30)=true)∧((!v30)=true→(!v30)=true)∧((!v30)=true→(!v30)=true)∧(v30=false→(!v30)=true)∧True)∧True∧(v31=true→True∧false=v19∧qN0 v0 v21.n (qN4 v0 v21.n (qO14 s.o v21.o (s.o.lost=v21.o.lost∧True))))∧(v31=false→(v0.yes.length≤17592186044416∧v0.yes.length≤1000000∧True)∧(v0.kept.entries.length≤17592186044416∧v22.length≤17592186044416∧v0.peers.length≤17592186044416∧v5.length≤17592186044416∧s.o.records.length≤17592186044416∧s.o.messages.length≤17592186044416∧s.o.ready.length≤17592186044416∧s.o.lost.length≤17592186044416∧SmallN v32∧True)∧zaE v32=v19∧qN0 v0 v21.n (qN20 v0 v21.n (v22=v21.n.yes∧v0.peers=v21.n.peers∧v5=v21.n.reads∧qO14 s.o v21.o (s.o.lost=v21.o.lost∧True))))) (by kernel_rfl) ?_
 simp only [qN0,qN20,qN4,qO14,imp_self,implies_true,true_and,and_true,zaf,zag]
 refine ⟨⟨fun h=>by rw [h];rfl,fun h=>by rw [h];rfl⟩,fun h=>?_,fun h=>?_⟩
 ·have ho:zg2 s m role term=false:=by
   unfold zg2
   revert h
   simp only [bne]
   cases (s.n.role==role)<;>cases m.ok<;>cases (m.term==term)<;>simp
  have e:yesR s m role term=s:=by rw [yesR,ho];rfl
  rw [e,yesB,ho]
  repeat' apply And.intro
  all_goals rfl
 ·have ho:zg2 s m role term=true:=by
   unfold zg2
   revert h
   simp only [bne]
   cases (s.n.role==role)<;>cases m.ok<;>cases (m.term==term)<;>simp
  have e:yesR s m role term=yesS s m:=by rw [yesR,ho];rfl
  rw [e,yesB,ho]
  obtain ⟨b1,b2,b3,b4,b5⟩:=(hf.sn (by decide)).ls
  obtain ⟨c1,c2,c3,c4⟩:=(hf.so (by decide)).ls
  have hy:=hf.yes
  have hw:=zf1 s.n.yes m.from_
  refine ⟨⟨by omega,by omega⟩,⟨b1,by omega,b3,b4,c1,c2,c3,c4,⟨(hf.sn (by decide)).k,by show (zcu s.n.yes m.from_).length≤_;omega,(hf.sn (by decide)).peers,(hf.sn (by decide)).reads⟩⟩,?_⟩
  repeat' apply And.intro
  all_goals rfl
theorem zo7 (s:Step) (t v:Int) (hl:s.o.records.length≤1000000) (hk:zaC s.n.kept) (hf:foldOk s.n.kept (zbl t v)):FnG Tryz.prog 190 3 (sMi 125 s) [.ptr 2 0,dInt.L.can t,dInt.L.can v] (.tup []) (sMo 125 (recS s (zbl t v))):=by
 refine FnG.of_vc (zah (zaa zfs zad) fun _=>none) Tryz.func190 rfl (by decide) rfl 300 (p:=fun (V:List PE→Prop)=>let v0:=s.n.kept;let v1:=(0:Int);let v2:=recS s (zbl t v);let v8:=Record.mk (1:Int) t v (Entry.mk v1 v1 v1 (Config.mk [] []) (ByteArray.mk #[])) v1 (Snap.mk v1 v1 (Config.mk [] []) (ByteArray.mk #[]));let v9:=recS s v8;(s.o.records.length≤1000000∧zaC v0∧SmallR v8∧foldOk v0 v8∧True)∧qN0 v9.n v2.n (qN6 v9.n v2.n (qO14 v9.o v2.o (v9.o.lost=v2.o.lost∧True)))) (by kernel_rfl) ?_
 simp only [qN0,qN6,qO14,imp_self,implies_true,true_and,and_true,zaf,zag]
 refine ⟨⟨hl,hk,zc5 t v,hf⟩,?_⟩
 repeat' apply And.intro
 all_goals rfl
def zqw:Ent:=zxB 190 3 mSt dInt.L dInt.L vrS [1,0,0] glS fun s t v=>([s.o.records.length≤1000000,zaC s.n.kept,foldOk s.n.kept (zbl t v)],.tup [],sMo 125 (recS s (zbl t v)))
theorem zc2:zae Tryz.prog zqw:=zth (fnB Tryz.func190 (by decide) rfl) fun s t v h=>zo7 s t v (h _ (by simp)) (h _ (by simp)) (h _ (by simp))
theorem zno (s:Step) (hn:SmallN s.n):FnC Tryz.prog 144 [(dRpS 125).can s] (.bool (zaE s.n)) D2:=by
 refine FnG.of_vc (zah (zaa zcd (zaa zeW zad)) fun _=>none) Tryz.func144 rfl (by decide) rfl 300 (p:=fun (V:List PE→Prop)=>True∧(SmallN s.n∧True)∧(mayC (zav s.n)&&zbC (Config.voters (zav s.n)) s.n.yes)=zaE s.n∧True) (by kernel_rfl) ?_
 simp only [imp_self,implies_true,true_and,and_true,zaf,zag]
 exact ⟨hn,rfl⟩
def zis:Ent:=ent1 144 (dRpS 125) fun s=>([SmallN s.n],.bool (zaE s.n),D2)
theorem zgo:zae Tryz.prog zis:=zan (fnB Tryz.func144 (by decide) rfl) fun s h=>zno s (h _ (by simp))
theorem zn2 {n:Node} {e:Entry} (ho:onC n.kept=true) (hb:n.kept.snap.index+n.kept.entries.length≤900001000) (hc:n.kept.entries.length<10000) (s:Step) (hs:s.n=n):foldOk s.n.kept (entR (layE s e)):=by
 subst hs
 refine ⟨ho,by omega,.inr (.inl ⟨rfl,?_,hc⟩)⟩
 have h1:=(zjr ho).1
 show IntKind.i64.wrap ((zaq s.n.kept).1+1)=_
 rw [zbe ho,IntKind.wrap_i64]
 omega
theorem zvj (s:Step) (e:Entry) (hn:SmallN s.n) (ho:SmallO s.o) (he:zbA e) (hg:onC s.n.kept=true∧s.n.kept.snap.index+s.n.kept.entries.length≤900001000∧s.n.kept.entries.length<10000):FnG Tryz.prog 118 3 (sMi 125 s) [.ptr 2 0,dEnt2.can e] (.tup []) (sMo 125 (layS s e)):=by
 refine FnG.of_vc (zah (zaa zfs (zaa zbc zad)) fun _=>none) Tryz.func118 rfl (by decide) rfl 300 (p:=fun (V:List PE→Prop)=>let v0:=s.n.kept;let v1:=Step.n (layS s e);let v2:=Step.o (layS s e);let v3:=(0:Int);let v7:=Record.mk (2:Int) v3 v3 (Entry.mk (IntKind.wrap IntKind.i64 (Prod.fst (zaq v0)+(1:Int))) v0.term e.kind e.config e.data) v3 (Snap.mk v3 v3 (Config.mk [] []) (ByteArray.mk #[]));let v8:=recS s v7;True∧True∧True∧True∧(s.o.records.length≤1000000∧zaC v0∧SmallR v7∧foldOk v0 v7∧True)∧qN0 v8.n v1 (qN6 v8.n v1 (qO14 v8.o v2 (v8.o.lost=v2.lost∧True)))) (by kernel_rfl) ?_
 simp only [qN0,qN6,qO14,imp_self,implies_true,true_and,and_true,zaf,zag]
 refine ⟨⟨ho.records,hn.k,⟨he,⟨Nat.zero_le _,Nat.zero_le _⟩⟩,zn2 hg.1 hg.2.1 hg.2.2 s rfl⟩,?_⟩
 repeat' apply And.intro
 all_goals rfl
def zxO:Ent:=zbs 118 3 mSt dEnt2 vrS [1,2] glS fun s e=>([SmallN s.n,SmallO s.o,zbA e,onC s.n.kept=true∧s.n.kept.snap.index+s.n.kept.entries.length≤900001000∧s.n.kept.entries.length<10000],.tup [],sMo 125 (layS s e))
theorem ztq:zae Tryz.prog zxO:=za2 (fnB Tryz.func118 (by decide) rfl) fun s r h=>zvj s r (h _ (by simp)) (h _ (by simp)) (h _ (by simp)) (h _ (by simp))
def tabRY:List Ent:=[zim,zq1,zgl,zjT]
theorem zsc:∀ e∈tabRY,zae Tryz.prog e:=zaa zeG (zaa zn9 (zaa zc3 (zaa zbQ zad)))
theorem zxl (s:Step) (p:Peer) (hn:SmallN s.n) (ho:s.o.messages.length≤1000000):FnG Tryz.prog 166 3 (sMi 125 s) [.ptr 2 0,dPeer.L.can p] (.tup []) (sMoM 125 (toS s p)):=by
 refine FnG.of_vc (zah zsc fun _=>none) Tryz.func166 rfl (by decide) rfl 300 (p:=fun (V:List PE→Prop)=>let v1:=s.n.kept;let v2:=s.n.round;let v3:=Step.o (toS s p);let v4:=Step.n (toS s p);let v5:=v1.snap;let v17:=ByteArray.mk #[];let v23:=(0:Int);let v34:=IntKind.wrap IntKind.i64 (p.next-(1:Int));let v35:=decide (p.next≤v5.index);let v36:=za3 s (Message.mk (7:Int) v23 p.node v23 v23 v23 [] v23 v2 false v5 v23 v23 v17);let v42:=za3 s (Message.mk (5:Int) v23 p.node v23 v34 (Prod.fst (zaI v1 v34)) (Prod.fst (zaN v1 p.next (8:Int))) s.n.commit v2 false (Snap.mk v23 v23 (Config.mk [] []) v17) v23 v23 v17);True∧True∧True∧(v35=true→(v5.config.voters.length≤1000000∧v5.config.learners.length≤1000000∧s.o.messages.length≤1000000∧True)∧qN0 v36.n v4 (qN6 v36.n v4 (qO5 v36.o v3 (v36.o.messages=v3.messages∧True))))∧(v35=false→True∧(zaC v1∧v23≤8∧True)∧(s.o.messages.length≤1000000∧True)∧qN0 v42.n v4 (qN6 v42.n v4 (qO5 v42.o v3 (v42.o.messages=v3.messages∧True))))) (by kernel_rfl) ?_
 simp only [qN0,qN6,qO5,imp_self,implies_true,true_and,and_true,zaf,zag]
 refine ⟨fun h=>?_,fun h=>?_⟩
 ·have h:p.next≤s.n.kept.snap.index:=by simpa using h
  have e:toS s p=za3 s ⟨7,0,p.node,0,0,0,[],0,s.n.round,false,s.n.kept.snap,0,0,⟨#[]⟩⟩:=by rw [toS,toM,if_pos h];rfl
  rw [e]
  refine ⟨⟨hn.k.2.1,hn.k.2.2,ho⟩,?_⟩
  simp only [and_self]
 ·have h:¬ p.next≤s.n.kept.snap.index:=by simpa using h
  have e:toS s p=za3 s ⟨5,0,p.node,0,IntKind.i64.wrap (p.next-1),(zaI s.n.kept (IntKind.i64.wrap (p.next-1))).1,(zaN s.n.kept p.next 8).1,s.n.commit,s.n.round,false,⟨0,0,⟨[],[]⟩,⟨#[]⟩⟩,0,0,⟨#[]⟩⟩:=by rw [toS,toM,if_neg h];rfl
  rw [e]
  refine ⟨⟨hn.k,by decide⟩,ho,?_⟩
  simp only [and_self]
def eRTo:Ent:=zbs 166 3 mSt dPeer.L vrS [1,0] glS fun s p=>([SmallN s.n,s.o.messages.length≤1000000],.tup [],sMoM 125 (toS s p))
theorem zkP:zae Tryz.prog eRTo:=za2 (fnB Tryz.func166 (by decide) rfl) fun s p h=>zxl s p (h _ (by simp)) (h _ (by simp))
theorem zoX (s:Step) (hn:SmallN s.n) (ho:s.o.messages.length+s.n.peers.length≤1000000):FnG Tryz.prog 108 3 (sMi 125 s) [.ptr 2 0] (.tup []) (sMoM 125 (allS s)):=by
 refine FnG.of_vc (zah (zaa zkP zad) fun _=>none) Tryz.func108 rfl (by decide) rfl 300 (p:=fun (V:List PE→Prop)=>True∧V []) (by kernel_rfl) ?_
 simp only [qN0,qN21,qN6,qO5,imp_self,implies_true,true_and,and_true,zaf,zag]
 have hpl:=hn.peers
 refine LoopG.head (zah (zaa zkP zad) fun _=>none) 0 (A:=Nat) (fun j=>j≤s.n.peers.length) (fun j=>[(2,.int .i64 j)]) (fun j=>[(2,.cells 125 (sCs [1] s 3 4 5 6 12 8 9)),(6,.row 139 [2,61] (.rRecord s.o.records)),(8,.row 96 [2,61] (.rRead s.o.ready)),(9,.row 3 [2,61] (.rInts s.o.lost)),(7,.dead),(12,.row 39 [2,61] (.rMessage (s.o.messages++(s.n.peers.take j).map fun p=>msgS s (toM s p)))),(61,.dead)]) (fun j=>s.n.peers.length-j) 0 (Nat.zero_le _) (p0:=(0:Int)=(↑(0:Nat):Int)∧qN0 s.n s.n (qN21 s.n s.n (qO5 s.o s.o (s.o.messages=s.o.messages++List.map (fun (p:Peer)=>msgS s (toM s p)) (List.take (0:Nat) s.n.peers)∧s.n.yes=s.n.yes∧s.n.peers=s.n.peers∧s.n.reads=s.n.reads∧True)))) (by kernel_rfl) ?_ 300 (p:=fun (x:Nat) (V:List PE→Prop)=>let v2:=Step.o (allS s);let v3:=s.n.peers;let v5:=Step.n (allS s);let v6:=(↑x:Int);let v13:=(↑(v3.length):Int);let v14:=decide (v6<v13);let v15:=s.o.messages++List.map (fun (p:Peer)=>msgS s (toM s p)) (List.take x v3);True∧True∧(v14=true→((0:Int)≤v6∧v6<v13∧x<v3.length∧SmallN s.n∧v15.length≤1000000∧True)∧True∧V [PE.a])∧(v14=false→qN0 s.n v5 (qN6 s.n v5 (qO5 s.o v2 (v15=v2.messages∧True))))) (by intro x;kernel_rfl) ?_
 ·simp
 rintro j hj
 simp only [qN0,qN21,qN6,qO5,imp_self,implies_true,true_and,and_true,decide_eq_true_eq,decide_eq_false_iff_not]
 refine ⟨fun h6=>?_,fun h6=>?_⟩
 ·refine ⟨⟨by omega,by omega,by omega,hn,by simp only [List.length_append,List.length_map,List.length_take];omega⟩,?_⟩
  refine Back.mk (j+1) (by omega) (by omega) (p0:=let v3:=s.n.peers;let v10:=toS (Step.mk s.n (Out.mk s.o.records (s.o.messages++List.map (fun (p:Peer)=>msgS s (toM s p)) (List.take j v3)) s.o.ready s.o.lost)) (List.getD v3 j default);IntKind.wrap IntKind.i64 ((↑j:Int)+(1:Int))=(↑(j+(1:Nat)):Int)∧qN0 v10.n s.n (qN21 v10.n s.n (qO5 v10.o s.o (v10.o.messages=s.o.messages++List.map (fun (p:Peer)=>msgS s (toM s p)) (List.take (j+(1:Nat)) v3)∧v10.n.yes=s.n.yes∧v10.n.peers=v3∧v10.n.reads=s.n.reads∧True)))) (by kernel_rfl) ?_
  have e1:=zam (l:=s.n.peers) (d:=(default:Peer)) (i:=j) (by omega)
  simp only [qN0,qN21,qN6,qO5,za8 (i:=j) (by omega),e1,toS,za3,zwS,zum,fun p=>zwR s p,fun m=>zul s m,List.map_append,List.map_cons,List.map_nil,List.append_assoc,true_and,and_true]
  omega
 ·obtain rfl:j=s.n.peers.length:=by omega
  simp only [List.take_length,allS,and_self]
def zqN:Ent:=zeF 108 3 mSt vrS [1] glS fun s=>([SmallN s.n,s.o.messages.length+s.n.peers.length≤1000000],.tup [],sMoM 125 (allS s))
theorem znI:zae Tryz.prog zqN:=zbu (fnB Tryz.func108 (by decide) rfl) fun s h=>zoX s (h _ (by simp)) (h _ (by simp))
theorem zni (s:Step) (m:Message) (hn:SmallN s.n) (ho:SmallO s.o) (hm:s.o.messages.length≤900000) (hv:(zav s.n).voters.length≤4000):FnG Tryz.prog 146 3 (sMi 125 s) [.ptr 2 0,dMsg2.can m] (.tup []) (sMoM 125 (askS s m)):=by
 refine FnG.of_vc (zah (zaa zbc (zaa zcd (zaa ziz (zaa zbQ zad)))) fun _=>none) Tryz.func146 rfl (by decide) rfl 300 (p:=fun (V:List PE→Prop)=>True∧True∧True∧True∧(s.n.yes.length≤17592186044416∧s.n.peers.length≤17592186044416∧s.n.reads.length≤17592186044416∧SmallN s.n∧List.length (Config.voters (zav s.n))≤1000000∧True)∧True∧V []) (by kernel_rfl) ?_
 simp only [qN0,qN21,qN6,qO5,imp_self,implies_true,true_and,and_true,zaf,zag]
 obtain ⟨b1,b2,b3,b4,b5⟩:=hn.ls
 obtain ⟨L,hL⟩:∃ L,zbh (zav s.n).voters s.n.id=L:=⟨_,rfl⟩
 have hll:L.length≤4000:=by rw [← hL];exact Nat.le_trans (List.length_filter_le _ _) hv
 refine ⟨⟨b2,b3,b4,hn,Nat.le_trans hv (by decide)⟩,?_⟩
 refine LoopG.head (zah (zaa zbc (zaa zcd (zaa ziz (zaa zbQ zad)))) fun _=>none) 0 (A:=Nat×Int) (fun j=>j.1≤L.length) (fun j=>[(7,.int .i64 j.1),(6,.sl [900] (.rInts L))]) (fun j=>[(2,.cells 125 (sCs [1] s 3 4 5 6 12 8 9)),(6,.row 139 [2,901] (.rRecord s.o.records)),(8,.row 96 [2,901] (.rRead s.o.ready)),(9,.row 3 [2,901] (.rInts s.o.lost)),(7,.dead),(12,.row 39 [2,901] (.rMessage (s.o.messages++(L.take j.1).map fun v=>msgS s (askM s m v)))),(10,.cells 39 ((askM s m j.2).svs [2])),(900,.dead),(901,.dead)]) (fun j=>L.length-j.1) (0,m.to_) (Nat.zero_le _) (p0:=let v1:=m.snap;let v2:=s.n;let v24:=askM s m m.to_;let v28:=v24.snap;(0:Int)=(↑(0:Nat):Int)∧zbh (Config.voters (zav v2)) v2.id=L∧qN0 v2 v2 (qN21 v2 v2 (qO5 s.o s.o (s.o.messages=s.o.messages++List.map (fun (v:Int)=>msgS s (askM s m v)) (List.take (0:Nat) L)∧m.kind=v24.kind∧m.from_=v24.from_∧m.to_=v24.to_∧m.term=v24.term∧Prod.fst (zaq v2.kept)=v24.index∧Prod.snd (zaq v2.kept)=Message.logTerm v24∧m.entries=v24.entries∧m.commit=v24.commit∧m.round=v24.round∧m.ok=v24.ok∧v1.index=v28.index∧v1.term=v28.term∧v1.config.voters=v28.config.voters∧v1.config.learners=v28.config.learners∧v1.data=v28.data∧m.ask=v24.ask∧m.seq=v24.seq∧m.data=v24.data∧v2.yes=v2.yes∧v2.peers=v2.peers∧v2.reads=v2.reads∧True)))) (by kernel_rfl) ?_ 300 (p:=fun (x:Nat×Int) (V:List PE→Prop)=>let v4:=Step.n (askS s m);let v5:=Step.o (askS s m);let v8:=(↑(List.length L):Int);let v10:=(↑(Prod.fst x):Int);let v12:=decide (v10<v8);let v13:=s.o.messages++List.map (fun (v:Int)=>msgS s (askM s m v)) (List.take (Prod.fst x) L);True∧True∧(v12=true→((0:Int)≤v10∧v10<v8∧True)∧(v13.length≤1000000∧True)∧True∧V [PE.a])∧(v12=false→qN0 s.n v4 (qN6 s.n v4 (qO5 s.o v5 (v13=v5.messages∧True))))) (by intro x;kernel_rfl) ?_
 ·simp [askM,hL]
 rintro ⟨j,t⟩ hj
 dsimp only at hj
 simp only [qN0,qN21,qN6,qO5,imp_self,implies_true,true_and,and_true,decide_eq_true_eq,decide_eq_false_iff_not]
 have htl:(L.take j).length≤4000:=by simp only [List.length_take];omega
 refine ⟨fun h6=>⟨⟨by omega,h6⟩,by simp only [List.length_append,List.length_map];omega,?_⟩,fun h6=>?_⟩
 ·refine Back.mk (j+1,L.getD j 0) (by show j+1≤_;omega) (by show _-(j+1)<_-j;omega) (p0:=let v8:=askM s m t;let v13:=v8.snap;let v19:=Message.logTerm v8;let v24:=List.getD L j (0:Int);let v25:=askM s m v24;let v26:=v25.snap;let v28:=za3 (Step.mk s.n (Out.mk s.o.records (s.o.messages++List.map (fun (v:Int)=>msgS s (askM s m v)) (List.take j L)) s.o.ready s.o.lost)) (Message.mk v8.kind v8.from_ v24 v8.term v8.index v19 v8.entries v8.commit v8.round v8.ok v13 v8.ask v8.seq v8.data);IntKind.wrap IntKind.i64 ((↑j:Int)+(1:Int))=(↑(j+(1:Nat)):Int)∧L=L∧qN0 v28.n s.n (qN21 v28.n s.n (qO5 v28.o s.o (v28.o.messages=s.o.messages++List.map (fun (v:Int)=>msgS s (askM s m v)) (List.take (j+(1:Nat)) L)∧v8.kind=v25.kind∧v8.from_=v25.from_∧v24=v25.to_∧v8.term=v25.term∧v8.index=v25.index∧v19=Message.logTerm v25∧v8.entries=v25.entries∧v8.commit=v25.commit∧v8.round=v25.round∧v8.ok=v25.ok∧v13.index=v26.index∧v13.term=v26.term∧v13.config.voters=v26.config.voters∧v13.config.learners=v26.config.learners∧v13.data=v26.data∧v8.ask=v25.ask∧v8.seq=v25.seq∧v8.data=v25.data∧v28.n.yes=s.n.yes∧v28.n.peers=s.n.peers∧v28.n.reads=s.n.reads∧True)))) (by kernel_rfl) ?_
  simp only [qN0,qN21,qN6,qO5,true_and,and_true,za8 (i:=j) (by omega)]
  rw [zam (d:=(0:Int)) (by omega),List.map_append]
  refine ⟨by omega,?_⟩
  simp [za3,msgS,askM]
  by_cases g:m.term=0<;>simp [g]
 ·obtain rfl:j=L.length:=by omega
  rw [List.take_length]
  simp only [askS,hL,and_self]
def zm4:Ent:=zbs 146 3 mSt dMsg2 vrS [1,2] glS fun s m=>([SmallN s.n,SmallO s.o,s.o.messages.length≤900000,(zav s.n).voters.length≤4000],.tup [],sMoM 125 (askS s m))
theorem zkO:zae Tryz.prog zm4:=za2 (fnB Tryz.func146 (by decide) rfl) fun s m h=>zni s m (h _ (by simp)) (h _ (by simp)) (h _ (by simp)) (h _ (by simp))
def refM (v:Int):List Peer→Int→Int
 | [],n=>n
 | p::l,n=>refM v l (if p.node=v then p.match_ else n)
theorem zlX (v:Int):∀ (a b:List Peer) (n:Int),refM v (a++b) n=refM v b (refM v a n)
 | [],b,n=>rfl
 | p::a,b,n=>zlX v a b _
theorem zjg {v:Int}:∀ {l:List Peer} {n:Int},v∉l.map (·.node)→refM v l n=n∧zaK l v = -1
 | [],n,_=>⟨rfl,rfl⟩
 | p::l,n,h=>by
  simp only [List.map_cons,List.mem_cons,not_or] at h
  obtain ⟨h1,h2⟩:=zjg (l:=l) (n:=n) h.2
  have hne:¬ p.node=v:=fun e=>h.1 e.symm
  refine ⟨by rw [refM,if_neg hne];exact h1,?_⟩
  have h2':zaB (isV v) (l.map (·.node)) = -1:=h2
  show zaB (isV v) (p.node::l.map (·.node)) = -1
  rw [zaB,if_neg (by simp [isV,hne]),if_pos h2']
theorem zoS {v:Int}:∀ {l:List Peer} {n:Int},(l.map (·.node)).Nodup→refM v l n=if 0≤zaK l v then (l.getD (zaK l v).toNat default).match_ else n
 | [],n,_=>rfl
 | p::l,n,h=>by
  simp only [List.map_cons,List.nodup_cons] at h
  by_cases e:p.node=v
  ·have hv:v∉l.map (·.node):=by rw [← e];exact h.1
   have hi:zaK (p::l) v=0:=by
    show zaB (isV v) (p.node::l.map (·.node))=0
    rw [zaB,if_pos (by simp [isV,e])]
   rw [refM,if_pos e,(zjg hv).1,hi,if_pos (Int.le_refl 0)]
   rfl
  ·have ih:=zoS (v:=v) (l:=l) (n:=n) h.2
   have h2:zaK (p::l) v=if zaK l v = -1 then -1 else zaK l v+1:=by
    show zaB (isV v) (p.node::l.map (·.node))=_
    rw [zaB,if_neg (by simp [isV,e])]
    rfl
   rw [refM,if_neg e,ih,h2]
   have hge:=(zee (p:=isV v) (l.map (·.node))).1
   have hge : -1≤zaK l v:=hge
   by_cases g:zaK l v = -1
   ·rw [if_neg (by omega),if_pos g,if_neg (by omega)]
   ·rw [if_pos (by omega),if_neg g,if_pos (by omega)]
    rw [show (zaK l v+1).toNat=(zaK l v).toNat+1 by omega,List.getD_cons_succ]
noncomputable def zxd:List Ent:=[zit,zcF,zu3,zim]
theorem zf7:∀ e∈zxd,zae Tryz.prog e:=zaa zcd (zaa zbc (zaa zqy (zaa zeG zad)))
theorem zoT (s:Step) (hn:SmallN s.n) (ho:SmallO s.o) (hv:(zav s.n).voters.length≤4000) (hg:(s.n.peers.map (·.node)).Nodup):FnG Tryz.prog 120 3 (sMi 125 s) [.ptr 2 0] (.tup []) (sMi 125 (zaW s)):=by
 refine FnG.of_vc (zah zf7 fun _=>none) Tryz.func120 rfl (by decide) rfl 300 (p:=fun (V:List PE→Prop)=>(s.n.yes.length≤17592186044416∧s.n.peers.length≤17592186044416∧s.n.reads.length≤17592186044416∧SmallN s.n∧True)∧True∧True∧True∧V []) (by kernel_rfl) ?_
 simp only [qN0,qN6,qN9,qO14,imp_self,implies_true,true_and,and_true,zaf,zag]
 obtain ⟨b1,b2,b3,b4,b5⟩:=hn.ls
 obtain ⟨V,hV⟩:∃ V,(zav s.n).voters=V:=⟨_,rfl⟩
 have hVl:V.length≤4000:=by rw [← hV];exact hv
 refine ⟨⟨b2,b3,b4,hn⟩,?_⟩
 refine LoopG.head (zah zf7 fun _=>none) 0 (A:=Nat) (fun j=>j≤V.length) (fun j=>[(6,.int .i64 j),(5,.own 12)]) (fun j=>[(38,.cells 25 [.sl [900] (.rInts V),.sl [900] (.rInts (zav s.n).learners)]),(12,.row 3 [] (.rInts ((V.take j).map (zbz s)))),(900,.dead)]) (fun j=>V.length-j) 0 (Nat.zero_le _) (p0:=let v16:=Config.learners (zav s.n);let v27:=Prod.fst (zaq s.n.kept);(0:Int)=(↑(0:Nat):Int)∧v27=v27∧Config.voters (zav s.n)=V∧v16=v16∧List.map (zbz s) (List.take (0:Nat) V)=[]∧qN0 s.n s.n (qN6 s.n s.n (qO14 s.o s.o (s.o.lost=s.o.lost∧True)))) (by kernel_rfl) ?_ 300 (p:=fun (x:Nat) (V_1:List PE→Prop)=>let v0:=s.n;let v2:=v0.kept;let v4:=Step.n (zaW s);let v8:=Step.o (zaW s);let v13:=v2.snap;let v16:=(↑x:Int);let v18:=v13.config;let v21:=v4.kept.snap;let v25:=(↑(List.length V):Int);let v26:=List.map (zbz s) (List.take x V);let v27:=zcK v26;let v29:=zaI v2 v27;let v30:=decide (v16<v25);let v31:=decide (v27>v0.commit);let v32:=zac v31 (Prod.snd v29==0) false;let v33:=zac v32 (Prod.fst v29==v2.term) false;True∧True∧(v30=true→True∧((0:Int)≤v16∧v16<v25∧True)∧True∧True∧V_1 [PE.a])∧(v30=false→(v26.length≤17592186044416∧v26.length≤1000000∧True)∧True∧((v31=true→v31=true)∧(v31=true→v31=true)∧(v32=true→v32=true)∧(v32=true→v32=true)∧(v32=true→v32=true)∧(v32=true→v32=true)∧(v32=true→v32=true)∧(v32=true→v32=true)∧(v32=true→v32=true)∧(v32=true→v32=true)∧True)∧True∧zai v33 v0.id v0.id=v4.id∧zai v33 v0.role v0.role=v4.role∧zai v33 v2.term v2.term=v4.kept.term∧zai v33 v2.vote v2.vote=v4.kept.vote∧zai v33 v13.index v13.index=v21.index∧zai v33 v13.term v13.term=v21.term∧(if v33=true then v18.voters else v18.voters)=v21.config.voters∧(if v33=true then v18.learners else v18.learners)=v21.config.learners∧(if v33=true then v13.data else v13.data)=v21.data∧(if v33=true then v2.entries else v2.entries)=v4.kept.entries∧zai v33 v27 v0.commit=v4.commit∧zai v33 v0.lead v0.lead=v4.lead∧zai v33 v0.elapsed v0.elapsed=v4.elapsed∧zai v33 v0.round v0.round=v4.round∧qN9 v0 v4 (qO14 s.o v8 (s.o.lost=v8.lost∧True)))) (by intro x;kernel_rfl) ?_
 ·simp [hV]
 rintro j hj
 simp only [qN0,qN6,qN9,qO14,imp_self,implies_true,true_and,and_true,decide_eq_true_eq,decide_eq_false_iff_not]
 refine ⟨fun h6=>⟨⟨by omega,h6⟩,?_⟩,fun h6=>?_⟩
 ·refine LoopG.head (zah zf7 fun _=>none) 1 (A:=Nat) (fun i=>i≤s.n.peers.length) (fun i=>[(8,.int .i64 i),(7,.int .i64 (refM (V.getD j 0) (s.n.peers.take i) (zai (V.getD j 0==s.n.id) (zaq s.n.kept).1 0)))]) (fun i=>[]) (fun i=>s.n.peers.length-i) 0 (Nat.zero_le _) (p0:=let v16:=Config.learners (zav s.n);let v20:=(↑j:Int);let v26:=(↑(List.length V):Int);let v29:=Prod.fst (zaq s.n.kept);let v30:=List.map (zbz s) (List.take j V);let v31:=List.getD V j (0:Int);let v32:=v31==s.n.id;let v33:=decide (v20<v26);let v34:=zai v32 v29 (0:Int);(0:Int)=(↑(0:Nat):Int)∧v34=refM v31 (List.take (0:Nat) s.n.peers) v34∧v32=v32∧s.n.id=s.n.id∧v31=v31∧v20=v20∧V=V∧v33=v33∧v26=v26∧V=V∧v20=v20∧v20=v20∧v29=v29∧V=V∧v16=v16∧v30=v30∧qN0 s.n s.n (qN6 s.n s.n (qO14 s.o s.o (s.o.lost=s.o.lost∧True)))) (by kernel_rfl) ?_ 300 (p:=fun (x:Nat) (V_1:List PE→Prop)=>let v0:=s.n.peers;let v1:=(↑x:Int);let v2:=v0.length;let v3:=(0:Int);let v4:=(↑v2:Int);let v5:=List.getD V j v3;let v6:=decide (v1<v4);True∧True∧(v6=true→(v3≤v1∧v1<v4∧x<v2∧v3≤(↑j:Int)∧(↑j:Int)<(↑(List.length V):Int)∧True)∧(((Peer.node (List.getD v0 x default)==v5)=true→v3≤v1)∧((Peer.node (List.getD v0 x default)==v5)=true→v1<v4)∧((Peer.node (List.getD v0 x default)==v5)=true→x<v2)∧True)∧True∧V_1 [PE.a])∧(v6=false→((List.length (List.map (zbz s) (List.take j V))+List.length [refM v5 (List.take x v0) (zai (v5==s.n.id) (Prod.fst (zaq s.n.kept)) v3)])*(1024:Nat)≤140737488355328∧True)∧True∧V_1 [PE.b])) (by intro x;kernel_rfl) ?_
  ·simp [refM]
  rintro i hi
  simp only [qN0,qN6,qN9,qO14,imp_self,implies_true,true_and,and_true,decide_eq_true_eq,decide_eq_false_iff_not]
  have htl:(V.take j).length≤4000:=by rw [hV] at hv;simp only [List.length_take];omega
  refine ⟨fun h7=>⟨⟨by omega,h7,by omega,by omega,h6⟩,⟨fun _=>by omega,fun _=>h7,fun _=>by omega⟩,?_⟩,fun h7=>⟨by simp only [List.length_map,List.length_cons,List.length_nil];omega,?_⟩⟩
  ·refine Back.mk (i+1) (by show i+1≤_;omega) (by show _-(i+1)<_-i;omega) (p0:=let v3:=s.n.peers;let v16:=Config.learners (zav s.n);let v17:=(↑j:Int);let v26:=(↑(List.length V):Int);let v29:=Prod.fst (zaq s.n.kept);let v30:=List.map (zbz s) (List.take j V);let v31:=List.getD v3 i default;let v32:=List.getD V j (0:Int);let v33:=v32==s.n.id;let v34:=decide (v17<v26);let v35:=zai v33 v29 (0:Int);IntKind.wrap IntKind.i64 ((↑i:Int)+(1:Int))=(↑(i+(1:Nat)):Int)∧zai (v31.node==v32) v31.match_ (refM v32 (List.take i v3) v35)=refM v32 (List.take (i+(1:Nat)) v3) v35∧v33=v33∧s.n.id=s.n.id∧v32=v32∧v17=v17∧V=V∧v34=v34∧v26=v26∧V=V∧v17=v17∧v17=v17∧v29=v29∧V=V∧v16=v16∧v30=v30∧qN0 s.n s.n (qN6 s.n s.n (qO14 s.o s.o (s.o.lost=s.o.lost∧True)))) (by kernel_rfl) ?_
   simp only [qN0,qN6,qN9,qO14,true_and,and_true]
   rw [zam (d:=(default:Peer)) (by omega),zlX]
   refine ⟨za8 (by omega),?_⟩
   simp only [refM]
   by_cases g:(s.n.peers.getD i default).node=V.getD j 0<;>simp [zai,g]
  ·obtain rfl:i=s.n.peers.length:=by omega
   refine Back.up (Back.mk (j+1) (by show j+1≤_;omega) (by show _-(j+1)<_-j;omega) (p0:=let v20:=Config.learners (zav s.n);let v27:=Prod.fst (zaq s.n.kept);let v28:=List.getD V j (0:Int);IntKind.wrap IntKind.i64 ((↑j:Int)+(1:Int))=(↑(j+(1:Nat)):Int)∧v27=v27∧V=V∧v20=v20∧List.map (zbz s) (List.take j V)++[refM v28 (List.take s.n.peers.length s.n.peers) (zai (v28==s.n.id) v27 (0:Int))]=List.map (zbz s) (List.take (j+(1:Nat)) V)∧qN0 s.n s.n (qN6 s.n s.n (qO14 s.o s.o (s.o.lost=s.o.lost∧True)))) (by kernel_rfl) ?_)
   simp only [qN0,qN6,qN9,qO14,true_and,and_true]
   rw [zam (d:=(0:Int)) (by omega),List.map_append,List.take_length,zoS hg]
   refine ⟨za8 (by omega),?_⟩
   have e:zbz s (V.getD j 0)=if 0≤zaK s.n.peers (V.getD j 0) then (s.n.peers.getD (zaK s.n.peers (V.getD j 0)).toNat default).match_ else zai (V.getD j 0==s.n.id) (zaq s.n.kept).1 0:=by
    unfold zbz zai
    by_cases h1:0≤zaK s.n.peers (V.getD j 0)<;>by_cases h2:V.getD j 0=s.n.id<;>simp [h1,h2]
   simp only [List.map_cons,List.map_nil,e]
 ·obtain rfl:j=V.length:=by omega
  rw [List.take_length]
  have hL:V.map (zbz s)=zdz s:=by rw [zdz,hV]
  rw [hL]
  have hll:(zdz s).length≤4000:=by rw [zdz,List.length_map];exact hv
  refine ⟨⟨by omega,by omega⟩,?_⟩
  simp only [zaU,ite_self]
  unfold zaW
  by_cases h1:(zaI s.n.kept (zcK (zdz s))).2=0<;>by_cases h2:(zaI s.n.kept (zcK (zdz s))).1=s.n.kept.term<;>by_cases h3:s.n.commit<zcK (zdz s)<;>simp [zac,zai,h1,h2,h3]
  all_goals omega
def zkU:Ent:=zeF 120 3 mSt vrS [1] glS fun s=>([SmallN s.n,SmallO s.o,(zav s.n).voters.length≤4000,(s.n.peers.map (·.node)).Nodup],.tup [],sMi 125 (zaW s))
theorem zho:zae Tryz.prog zkU:=zbu (fnB Tryz.func120 (by decide) rfl) fun s h=>zoT s (h _ (by simp)) (h _ (by simp)) (h _ (by simp)) (h _ (by simp))
def LogG (k:Kept):Prop:=onC k=true∧k.snap.index+k.entries.length≤900001000∧k.entries.length<10000
def addS (s:Step) (e:Entry):Step:=zaW (layS s e)
noncomputable def zxc:List Ent:=[zxO,zkU]
theorem zot:∀ e∈zxc,zae Tryz.prog e:=zaa ztq (zaa zho zad)
theorem zvl (s:Step) (e:Entry) (hf:Few 80000 s) (he:SmallD e.config) (hg:LogG s.n.kept) (hd:(s.n.peers.map (·.node)).Nodup):FnG Tryz.prog 107 3 (sMi 125 s) [.ptr 2 0,dEnt2.can e] (.tup []) (sMo 125 (addS s e)):=by
 refine FnG.of_vc (zah zot fun _=>none) Tryz.func107 rfl (by decide) rfl 300 (p:=fun (V:List PE→Prop)=>let v0:=s.n.kept;let v1:=Step.o (addS s e);let v2:=Step.n (addS s e);let v3:=Step.n (layS s e);let v4:=zaW (layS s e);let v9:=v0.entries.length;True∧(SmallN s.n∧SmallO s.o∧zbA e∧(onC v0=true∧v0.snap.index+(↑v9:Int)≤900001000∧v9<10000)∧True)∧(SmallN v3∧SmallO (Step.o (layS s e))∧List.length (Config.voters (zav v3))≤4000∧List.Nodup (List.map (fun (x:Peer)=>x.node) v3.peers)∧True)∧qN0 v4.n v2 (qN6 v4.n v2 (qO14 v4.o v1 (v4.o.lost=v1.lost∧True)))) (by kernel_rfl) ?_
 simp only [qN0,qN6,qO14,imp_self,implies_true,true_and,and_true,zaf,zag]
 have k1:=hf.lay he
 refine ⟨⟨hf.sn (by decide),hf.so (by decide),he.c,hg⟩,⟨k1.sn (by decide),k1.so (by decide),k1.cf.1,hd⟩,?_⟩
 repeat' apply And.intro
 all_goals rfl
def zxQ:Ent:=zbs 107 3 mSt dEnt2 vrS [1,2] glS fun s e=>([Few 80000 s,SmallD e.config,LogG s.n.kept,(s.n.peers.map (·.node)).Nodup],.tup [],sMo 125 (addS s e))
theorem zts:zae Tryz.prog zxQ:=za2 (fnB Tryz.func107 (by decide) rfl) fun s e h=>zvl s e (h _ (by simp)) (h _ (by simp)) (h _ (by simp)) (h _ (by simp))
theorem zsL:∀ {l:List Int},l.Pairwise (· < ·)→l.Nodup:=fun h=>h.imp fun h=>by omega
theorem zeS (n:Node):(za7 n).Nodup:=List.Nodup.sublist (List.filter_sublist ..) (zsL (zcp (zav n)).1)
noncomputable def zxb:List Ent:=[zcF,zvV,zxQ,zqN]
theorem ziI:∀ e∈zxb,zae Tryz.prog e:=zaa zbc (zaa zm7 (zaa zts (zaa znI zad)))
theorem zs6 (s:Step) (hf:Few 80000 s) (hg:LogG s.n.kept):FnG Tryz.prog 191 3 (sMi 125 s) [.ptr 2 0] (.tup []) (sMo 125 (zcq s)):=by
 refine FnG.of_vc (zah ziI fun _=>none) Tryz.func191 rfl (by decide) rfl 300 (p:=fun (V:List PE→Prop)=>True∧True∧True∧True∧True∧(s.n.peers.length≤17592186044416∧s.n.reads.length≤17592186044416∧SmallN (Node.mk s.n.id (4:Int) s.n.kept s.n.commit s.n.id (0:Int) [] s.n.peers s.n.round s.n.reads)∧True)∧True∧True∧V []) (by kernel_rfl) ?_
 simp only [qN0,qN21,qN22,qN6,qN9,qO14,imp_self,implies_true,true_and,and_true,zaf,zag]
 have hol:(za7 s.n).length≤16:=Nat.le_trans (List.length_filter_le _ _) (zcp (zav s.n)).2
 have hsn:=hf.sn (by decide)
 have hso:=hf.so (by decide)
 obtain ⟨b1,b2,b3,b4,b5⟩:=hsn.ls
 obtain ⟨c1,c2,c3,c4⟩:=hso.ls
 obtain ⟨L,hL⟩:∃ L,za7 s.n=L:=⟨_,rfl⟩
 refine ⟨⟨b3,b4,⟨hsn.k,Nat.zero_le _,hsn.peers,hsn.reads⟩⟩,?_⟩
 refine LoopG.head (zah ziI fun _=>none) 0 (A:=Nat) (fun j=>j≤L.length) (fun j=>[(5,.int .i64 j),(4,.sl [900] (.rInts L))]) (fun j=>[(2,.cells 125 (sCs [1] (zcy s ((L.take j).map (zca s))) 13 12 5 6 7 8 9)),(12,.row 94 [] (.rPeer ((L.take j).map (zca s)))),(13,.row 3 [] (.rInts [])),(900,.dead)]) (fun j=>L.length-j) 0 (Nat.zero_le _) (p0:=let v0:=s.n;let v15:=Prod.fst (zaq v0.kept);let v16:=List.map (zca s) (List.take (0:Nat) L);let v17:=Step.n (zcy s v16);(0:Int)=(↑(0:Nat):Int)∧za7 (Node.mk v0.id (4:Int) v0.kept v0.commit v0.id (0:Int) [] v0.peers v0.round v0.reads)=L∧v15=v15∧v0.id=v17.id∧(4:Int)=v17.role∧qN22 v0 v17 (v0.id=v17.lead∧(0:Int)=v17.elapsed∧v0.round=v17.round∧v16=[]∧zfe Int∧qN9 v0 v0 (qO14 s.o s.o (s.o.lost=s.o.lost∧True)))) (by kernel_rfl) ?_ 300 (p:=fun (x:Nat) (V:List PE→Prop)=>let v0:=Step.o (zcq s);let v1:=Step.n (zcq s);let v2:=(↑x:Int);let v4:=(0:Int);let v7:=(↑(List.length L):Int);let v8:=List.map (zca s) (List.take x L);let v9:=Step.n (zcy s v8);let v11:=decide (v2<v7);let v12:=Step.mk (Node.mk v9.id v9.role v9.kept v9.commit v9.lead v9.elapsed [] v8 v9.round s.n.reads) s.o;let v13:=addS v12 (Entry.mk v4 v4 (1:Int) (Config.mk [] []) (ByteArray.mk #[]));let v14:=allS v13;True∧True∧(v11=true→(v4≤v2∧v2<v7∧(v8.length+List.length [Peer.mk (List.getD L x v4) (IntKind.wrap IntKind.i64 (Prod.fst (zaq s.n.kept)+(1:Int))) v4 v4])*(1024:Nat)≤140737488355328∧True)∧True∧V [PE.a])∧(v11=false→(Few 80000 v12∧SmallD (Config.mk [] [])∧LogG v9.kept∧List.Nodup (List.map (fun (x:Peer)=>x.node) v8)∧True)∧(SmallN v13.n∧v13.o.messages.length+v13.n.peers.length≤1000000∧True)∧qN0 v14.n v1 (qN6 v14.n v1 (qO14 v14.o v0 (v14.o.lost=v0.lost∧True))))) (by intro x;kernel_rfl) ?_
 ·refine ⟨rfl,hL,?_⟩
  simp [zcy]
 rintro j hj
 simp only [qN0,qN21,qN22,qN6,qN9,qO14,imp_self,implies_true,true_and,and_true,decide_eq_true_eq,decide_eq_false_iff_not]
 have hml:(List.map (zca s) (List.take j L)).length≤16:=by simp only [List.length_map,List.length_take];rw [← hL];omega
 have hle:∀ ps:List Peer,ps.length≤5000→Few 80000 (zcy s ps):=fun ps h=>⟨hf.entries,hf.ec,hf.sc,Nat.zero_le _,h,hf.reads,hf.records,hf.messages,hf.ready,hf.lost⟩
 refine ⟨fun h6=>?_,fun h6=>?_⟩
 ·refine ⟨⟨by omega,h6,by simp only [List.length_cons,List.length_nil];omega⟩,?_⟩
  refine Back.mk (j+1) (by show j+1≤_;omega) (by show _-(j+1)<_-j;omega) (p0:=let v9:=Prod.fst (zaq s.n.kept);let v10:=List.map (zca s) (List.take j L);let v11:=Step.n (zcy s v10);let v15:=List.map (zca s) (List.take (j+(1:Nat)) L);let v16:=Step.n (zcy s v15);IntKind.wrap IntKind.i64 ((↑j:Int)+(1:Int))=(↑(j+(1:Nat)):Int)∧L=L∧v9=v9∧qN0 v11 v16 (qN21 v11 v16 (v10++[Peer.mk (List.getD L j (0:Int)) (IntKind.wrap IntKind.i64 (v9+(1:Int))) (0:Int) (0:Int)]=v15∧zfe Int∧qN9 s.n s.n (qO14 s.o s.o (s.o.lost=s.o.lost∧True))))) (by kernel_rfl) ?_
  have e1:=zam (l:=L) (d:=(0:Int)) (i:=j) (by omega)
  rw [hL] at hol
  simp only [qN0,qN21,qN22,qN6,qN9,qO14,za8 (i:=j) (by omega),e1,List.map_append,List.map_cons,List.map_nil,true_and,and_true]
  refine ⟨by omega,?_⟩
  simp [zcy,zca]
 ·obtain rfl:j=L.length:=by omega
  rw [List.take_length] at hml ⊢
  have k1:=hle _ (show (L.map (zca s)).length≤5000 by omega)
  have k2:=k1.lay (e:=zns) smallD0
  have k3:=k2.count
  have hd:((zcy s (L.map (zca s))).n.peers.map (·.node)).Nodup:=by
   show ((L.map (zca s)).map (·.node)).Nodup
   rw [List.map_map,show ((fun p:Peer=>p.node)∘zca s)=id from rfl,List.map_id,← hL]
   exact zeS s.n
  have e:zcq s=allS (addS (zcy s (L.map (zca s))) zns):=by rw [zcq,ledS,hL];rfl
  refine ⟨⟨k1,smallD0,hg,hd⟩,⟨k3.sn (by decide),?_⟩,?_⟩
  ·have h1:=k3.messages
   have h2:=k3.peers
   exact Nat.le_trans (Nat.add_le_add h1 h2) (by decide)
  ·rw [e]
   repeat' apply And.intro
   all_goals rfl
def zqD:Ent:=zeF 191 3 mSt vrS [1] glS fun s=>([Few 80000 s,LogG s.n.kept],.tup [],sMo 125 (zcq s))
theorem zjZ:zae Tryz.prog zqD:=zbu (fnB Tryz.func191 (by decide) rfl) fun s h=>zs6 s (h _ (by simp)) (h _ (by simp))
noncomputable def zxa:List Ent:=[zqw,zis,zqD,zm4]
theorem zos:∀ e∈zxa,zae Tryz.prog e:=zaa zc2 (zaa zgo (zaa zjZ (zaa zkO zad)))
def zg0 (k:Kept):Prop:=0≤k.term∧k.term≤900000001
theorem zoD (s:Step) (hf:Few 70000 s) (hg:LogG s.n.kept) (ht:zg0 s.n.kept):FnG Tryz.prog 145 3 (sMi 125 s) [.ptr 2 0] (.tup []) (sMo 125 (zbo s)):=by
 refine FnG.of_vc (zah zos fun _=>none) Tryz.func145 rfl (by decide) rfl 300 (p:=fun (V:List PE→Prop)=>let v1:=s.n.kept;let v2:=Step.n (zbo s);let v4:=Step.o (zbo s);let v20:=(0:Int);let v30:=zbl (IntKind.wrap IntKind.i64 (v1.term+(1:Int))) s.n.id;let v31:=recS (Step.mk (Node.mk s.n.id (3:Int) v1 s.n.commit v20 v20 [s.n.id] s.n.peers s.n.round s.n.reads) s.o) v30;let v32:=v31.n;let v33:=zcq v31;let v39:=v31.o.messages.length;let v42:=askS v31 (Message.mk (3:Int) v20 v20 v20 v20 v20 [] v20 v20 false (Snap.mk v20 v20 (Config.mk [] []) (ByteArray.mk #[])) v20 v20 (ByteArray.mk #[]));True∧True∧True∧True∧(s.o.records.length≤1000000∧zaC v1∧foldOk v1 v30∧True)∧(v32.yes.length≤17592186044416∧v32.peers.length≤17592186044416∧v32.reads.length≤17592186044416∧v31.o.records.length≤17592186044416∧v39≤17592186044416∧v31.o.ready.length≤17592186044416∧v31.o.lost.length≤17592186044416∧SmallN v32∧True)∧True∧((zaE v32)=true→(Few 80000 v31∧LogG v32.kept∧True)∧qN0 v33.n v2 (qN6 v33.n v2 (qO14 v33.o v4 (v33.o.lost=v4.lost∧True))))∧((zaE v32)=false→(SmallN v32∧SmallO v31.o∧v39≤900000∧List.length (Config.voters (zav v32))≤4000∧True)∧qN0 v42.n v2 (qN6 v42.n v2 (qO14 v42.o v4 (v42.o.lost=v4.lost∧True))))) (by kernel_rfl) ?_
 simp only [qN0,qN6,qO14,imp_self,implies_true,true_and,and_true,zaf,zag]
 have k1:=hf.stand1
 obtain ⟨b1,b2,b3,b4,b5⟩:=(k1.sn (by decide)).ls
 obtain ⟨c1,c2,c3,c4⟩:=(k1.so (by decide)).ls
 have hw:IntKind.i64.wrap (s.n.kept.term+1)=s.n.kept.term+1:=zb3 ⟨by have:=ht.1;omega,by have:=ht.2;omega⟩
 have hfo:foldOk s.n.kept (zbl (IntKind.i64.wrap (s.n.kept.term+1)) s.n.id):=⟨hg.1,by have:=hg.2.1;omega,.inl ⟨rfl,by show s.n.kept.term≤IntKind.i64.wrap (s.n.kept.term+1);rw [hw];omega⟩⟩
 have hg1:LogG (stand1 s).n.kept:=hg
 refine ⟨⟨(hf.so (by decide)).records,(hf.sn (by decide)).k,hfo⟩,⟨b2,b3,b4,c1,c2,c3,c4,k1.sn (by decide)⟩,fun h=>?_,fun h=>?_⟩
 ·have h:zaE (stand1 s).n=true:=h
  rw [zbo,if_pos h]
  refine ⟨⟨k1.mono (by decide),hg1⟩,?_⟩
  repeat' apply And.intro
  all_goals rfl
 ·have h:zaE (stand1 s).n=false:=h
  rw [zbo,if_neg (by rw [h];decide)]
  refine ⟨⟨k1.sn (by decide),k1.so (by decide),Nat.le_trans k1.messages (by decide),k1.cf.1⟩,?_⟩
  repeat' apply And.intro
  all_goals rfl
def zqz:Ent:=zeF 145 3 mSt vrS [1] glS fun s=>([Few 70000 s,LogG s.n.kept,zg0 s.n.kept],.tup [],sMo 125 (zbo s))
theorem zn8:zae Tryz.prog zqz:=zbu (fnB Tryz.func145 (by decide) rfl) fun s h=>zoD s (h _ (by simp)) (h _ (by simp)) (h _ (by simp))
theorem Few.yesS {B:Nat} {s:Step} (m:Message) (h:Few B s) (hb:16≤B):Few B (yesS s m):=⟨h.entries,h.ec,h.sc,Nat.le_trans (zf1 _ _) hb,h.peers,h.reads,h.records,h.messages,h.ready,h.lost⟩
theorem Few.yr {B:Nat} {s:Step} {m:Message} {role term:Int} (h:Few B s) (hb:16≤B):Few B (yesR s m role term):=by
 unfold yesR
 split
 ·exact h.yesS m hb
 ·exact h
theorem Few.fl1 {B:Nat} {s:Step} (t:Int) (h:Few B s):Few (B+1) (zbO s t):=by
 unfold zbO
 split
 ·have:=h.vote t 0
  exact ⟨this.entries,this.ec,this.sc,this.yes,this.peers,this.reads,this.records,this.messages,this.ready,this.lost⟩
 ·exact h.mono (Nat.le_succ _)
theorem Few.fall {B:Nat} {s:Step} (t:Int) (h:Few B s):Few (B+5001) (za0 s t):=by
 have h1:=h.fl1 t
 have h2:=h.reads
 have h3:=h1.lost
 have g:=h1.mono (show B+1≤B+5001 by omega)
 exact ⟨g.entries,g.ec,g.sc,Nat.zero_le _,Nat.zero_le _,Nat.zero_le _,g.records,g.messages,g.ready,by show (_++_:List Int).length≤_;simp only [List.length_append,List.length_map];omega⟩
def eYes:Ent:=zqg 150 3 mW dMessage.L dInt.L dInt.L vrW [1,0,0,0] glW fun s m r t=>([Few 70000 s],.bool (yesB s m r t),wMo (yesR s m r t))
theorem zvQ:zae Tryz.prog eYes:=zfr (fnB Tryz.func150 (by decide) rfl) fun s m r t h=>zwN s m r t (h _ (by simp))
def tabBd:List Ent:=[eYes,zqp,zvS]
theorem zlE:∀ e∈tabBd,zae Tryz.prog e:=zaa zvQ (zaa zjS (zaa zm2 zad))
def zaM (s:Step) (m:Message):Step:=if yesB s m 2 (IntKind.i64.wrap (s.n.kept.term+1)) then zbo (yesR s m 2 (IntKind.i64.wrap (s.n.kept.term+1))) else yesR s m 2 (IntKind.i64.wrap (s.n.kept.term+1))
theorem zpd (s:Step) (m:Message) (hf:Few 60000 s):FnG Tryz.prog 89 3 (wMi s) [.ptr 2 0,dMessage.L.can m] (.tup []) (wMo (zaM s m)):=by
 refine FnG.of_vc (zah zlE fun _=>none) Tryz.func89 rfl (by decide) rfl 300 (p:=fun (V:List PE→Prop)=>let v0:=Step.o (zaM s m);let v1:=Step.n (zaM s m);let v26:=IntKind.wrap IntKind.i64 (s.n.kept.term+(1:Int));let v27:=yesB s m (2:Int) v26;let v28:=yesR s m (2:Int) v26;let v30:=zbo v28;True∧(Few 70000 s∧True)∧True∧(v27=true→(Few 70000 v28∧True)∧qN0 v30.n v1 (qN4 v30.n v1 (qO14 v30.o v0 (v30.o.lost=v0.lost∧True))))∧(v27=false→qN0 v28.n v1 (qN4 v28.n v1 (qO14 v28.o v0 (v28.o.lost=v0.lost∧True))))) (by kernel_rfl) ?_
 simp only [qN0,qN4,qO14,imp_self,implies_true,true_and,and_true,zaf,zag]
 have k1:=Few.yr (m:=m) (role:=2) (term:=IntKind.i64.wrap (s.n.kept.term+1)) hf (by decide)
 refine ⟨hf.mono (by decide),fun h=>?_,fun h=>?_⟩
 ·rw [zaM,if_pos h]
  refine ⟨k1.mono (by decide),?_⟩
  repeat' apply And.intro
  all_goals rfl
 ·rw [zaM,if_neg (by rw [h];decide)]
  repeat' apply And.intro
  all_goals rfl
def zkV:Ent:=zbs 89 3 mW dMessage.L vrW [1,0] glW fun s m=>([Few 60000 s],.tup [],wMo (zaM s m))
theorem zhp:zae Tryz.prog zkV:=za2 (fnB Tryz.func89 (by decide) rfl) fun s m h=>zpd s m (h _ (by simp))
def zbg (s:Step) (m:Message):Step:=if yesB s m 3 s.n.kept.term then zcq (yesR s m 3 s.n.kept.term) else yesR s m 3 s.n.kept.term
theorem zrN (s:Step) (m:Message) (hf:Few 60000 s):FnG Tryz.prog 91 3 (wMi s) [.ptr 2 0,dMessage.L.can m] (.tup []) (wMo (zbg s m)):=by
 refine FnG.of_vc (zah zlE fun _=>none) Tryz.func91 rfl (by decide) rfl 300 (p:=fun (V:List PE→Prop)=>let v0:=Step.n (zbg s m);let v1:=Step.o (zbg s m);let v2:=s.n.kept.term;let v27:=yesB s m (3:Int) v2;let v28:=yesR s m (3:Int) v2;let v30:=zcq v28;True∧(Few 70000 s∧True)∧True∧(v27=true→(Few 80000 v28∧True)∧qN0 v30.n v0 (qN4 v30.n v0 (qO14 v30.o v1 (v30.o.lost=v1.lost∧True))))∧(v27=false→qN0 v28.n v0 (qN4 v28.n v0 (qO14 v28.o v1 (v28.o.lost=v1.lost∧True))))) (by kernel_rfl) ?_
 simp only [qN0,qN4,qO14,imp_self,implies_true,true_and,and_true,zaf,zag]
 have k1:=Few.yr (m:=m) (role:=3) (term:=s.n.kept.term) hf (by decide)
 refine ⟨hf.mono (by decide),fun h=>?_,fun h=>?_⟩
 ·rw [zbg,if_pos h]
  refine ⟨k1.mono (by decide),?_⟩
  repeat' apply And.intro
  all_goals rfl
 ·rw [zbg,if_neg (by rw [h];decide)]
  repeat' apply And.intro
  all_goals rfl
def zqm:Ent:=zbs 91 3 mW dMessage.L vrW [1,0] glW fun s m=>([Few 60000 s],.tup [],wMo (zbg s m))
theorem zjQ:zae Tryz.prog zqm:=za2 (fnB Tryz.func91 (by decide) rfl) fun s m h=>zrN s m (h _ (by simp))
def zf3 (s:Step) (m:Message):Bool:=m.term==s.n.kept.term&&(s.n.kept.vote==0||s.n.kept.vote==m.from_)&&zcI s.n.kept m.index m.logTerm
def zgB (m:Message) (ok:Bool):Message:=⟨4,0,m.from_,0,0,0,[],0,0,ok,zd7,0,0,zs⟩
def zh4 (s:Step) (m:Message):Step:=if zf3 s m then ⟨{s.n with elapsed:=0},s.o⟩ else s
def ziC (s:Step) (m:Message):Step:=if zf3 s m&&s.n.kept.vote==0 then recS (zh4 s m) (zbl s.n.kept.term m.from_) else zh4 s m
def zbq (s:Step) (m:Message):Step:=za3 (ziC s m) (zgB m (zf3 s m))
theorem zuX (s:Step) (m:Message) (hf:Few 60000 s):FnG Tryz.prog 90 3 (wMi s) [.ptr 2 0,dMessage.L.can m] (.tup []) (wMo (zbq s m)):=by
 refine FnG.of_vc (zah (zaa zkf (zaa zdI (zaa zei zad))) fun _=>none) Tryz.func90 rfl (by decide) rfl 300 (p:=fun (V:List PE→Prop)=>let v0:=s.n;let v3:=v0.kept;let v8:=v3.snap;let v9:=Step.n (zbq s m);let v10:=v3.entries;let v12:=Step.o (zbq s m);let v16:=v8.config;let v27:=ByteArray.mk #[];let v30:=(0:Int);let v47:=m.term==v3.term;let v48:=v3.vote==v30;let v49:=Snap.mk v30 v30 (Config.mk [] []) v27;let v50:=zac v47 (zac v48 true (v3.vote==m.from_)) false;let v51:=zac v50 (zcI v3 m.index (Message.logTerm m)) false;let v52:=zai v51 v3.term v3.term;let v53:=zai v51 v3.vote v3.vote;let v54:=Record.mk (1:Int) v52 m.from_ (Entry.mk v30 v30 v30 (Config.mk [] []) v27) v30 v49;let v55:=zac v51 (v53==v30) false;let v56:=Message.mk (4:Int) v30 m.from_ v30 v30 v30 [] v30 v30 v51 v49 v30 v30 v27;let v57:=Kept.mk v52 v53 (Snap.mk (zai v51 v8.index v8.index) (zai v51 v8.term v8.term) (Config.mk (if v51=true then v16.voters else v16.voters) (if v51=true then v16.learners else v16.learners)) (if v51=true then v8.data else v8.data)) v10;let v58:=Step.mk (Node.mk (zai v51 v0.id v0.id) (zai v51 v0.role v0.role) v57 (zai v51 v0.commit v0.commit) (zai v51 v0.lead v0.lead) (zai v51 v30 v0.elapsed) v0.yes v0.peers (zai v51 v0.round v0.round) v0.reads) s.o;let v59:=recS v58 v54;let v60:=za3 v58 v56;let v66:=za3 v59 v56;True∧((v47=true→v47=true)∧(v47=true→v47=true)∧(v47=true→v47=true)∧(v47=true→v47=true)∧(v47=true→v47=true)∧(v47=true→v47=true)∧(v47=true→v47=true)∧((v47&&!v48)=true→(v47&&!v48)=true)∧((v47&&!v48)=true→(v47&&!v48)=true)∧((v47&&!v48)=true→(v47&&!v48)=true)∧((v47&&!v48)=true→(v47&&!v48)=true)∧((v47&&!v48)=true→(v47&&!v48)=true)∧((v47&&!v48)=true→(v47&&!v48)=true)∧((v47&&!v48)=true→(v47&&!v48)=true)∧((v47&&!v48)=true→(v47&&!v48)=true)∧(v47=true→v47=true)∧(v47=true→v48=false→(v47&&!v48)=true)∧(v47=true→v47=true)∧(v50=true→v50=true)∧(v50=true→v50=true)∧(v50=true→v50=true)∧(v50=true→v50=true)∧(v50=true→v50=true)∧(v50=true→v50=true)∧(v50=true→v50=true)∧(v50=true→v50=true)∧(v50=true→v50=true)∧(v50=true→v10.length≤17592186044416)∧(v50=true→v50=true)∧True)∧True∧True∧((v51=true→v51=true)∧(v51=true→v51=true)∧(v51=true→v51=true)∧(v51=true→v51=true)∧(v51=true→v51=true)∧(v51=true→v51=true)∧(v51=true→v51=true)∧True)∧True∧(v55=true→(s.o.records.length≤1000000∧v10.length≤1000000∧SmallR v54∧zg6 v57 v54∧(1:Int)≠(4:Int)∧True)∧(v59.o.messages.length≤1000000∧True)∧qN0 v66.n v9 (qN4 v66.n v9 (qO14 v66.o v12 (v66.o.lost=v12.lost∧True))))∧(v55=false→(s.o.messages.length≤1000000∧True)∧qN0 v60.n v9 (qN4 v60.n v9 (qO14 v60.o v12 (v60.o.lost=v12.lost∧True))))) (by kernel_rfl) ?_
 simp only [qN0,qN4,qO14,imp_self,implies_true,true_and,and_true,zaf,zag]
 obtain ⟨b,hb⟩:∃ b,zf3 s m=b:=⟨_,rfl⟩
 have hb2:=hb
 unfold zf3 at hb2
 simp only [hb2,zaU,zbx]
 refine ⟨⟨fun h1 h2=>by rw [h1,h2];rfl,fun _=>(hf.sn (by decide)).ls.1⟩,fun h=>?_,fun h=>?_⟩
 ·have h:b=true∧(s.n.kept.vote==0)=true:=by simpa using h
  obtain ⟨rfl,h2⟩:=h
  have e:zbq s m=za3 (recS ⟨{s.n with elapsed:=0},s.o⟩ (zbl s.n.kept.term m.from_)) (zgB m true):=by
   rw [zbq,ziC,zh4,hb,h2];rfl
  rw [e]
  refine ⟨⟨(hf.so (by decide)).records,(hf.sn (by decide)).ls.2.2.2.2,zc5 _ _,zeK _ _ _,by decide⟩,(hf.so (by decide)).messages,?_⟩
  repeat' apply And.intro
  all_goals rfl
 ·have h:b=true→(s.n.kept.vote==0)=false:=fun hb=>by rw [hb] at h;simpa using h
  have e:zbq s m=za3 (if b then ⟨{s.n with elapsed:=0},s.o⟩ else s) (zgB m b):=by
   rw [zbq,ziC,zh4,hb]
   cases b
   ·rfl
   ·rw [h rfl];rfl
  rw [e]
  refine ⟨(hf.so (by decide)).messages,?_⟩
  cases b<;>(repeat' apply And.intro)<;>rfl
def zxE:Ent:=zbs 90 3 mW dMessage.L vrW [1,0] glW fun s m=>([Few 60000 s],.tup [],wMo (zbq s m))
theorem ztj:zae Tryz.prog zxE:=za2 (fnB Tryz.func90 (by decide) rfl) fun s m h=>zuX s m (h _ (by simp))
def zal (s:Step) (m:Message):Bool:=!decide (m.term<s.n.kept.term)&&s.n.role != 4
def zab (s:Step) (m:Message):Step:=
 if m.term<s.n.kept.term then za3 s (zbB m false 0)
 else if s.n.role=4 then s
 else ⟨{(za0 s s.n.kept.term).n with lead:=m.from_,elapsed:=0},(za0 s s.n.kept.term).o⟩
theorem zpV (s:Step) (m:Message) (hf:Few 60000 s):FnG Tryz.prog 151 3 (wMi s) [.ptr 2 0,dMessage.L.can m] (.bool (zal s m)) (wMo (zab s m)):=by
 refine FnG.of_vc (zah (zaa zi2 (zaa zek zad)) fun _=>none) Tryz.func151 rfl (by decide) rfl 300 (p:=fun (V:List PE→Prop)=>let v6:=Step.n (zab s m);let v7:=Step.o (zab s m);let v27:=za0 s s.n.kept.term;let v39:=za3 s (zbB m false (0:Int));let v45:=s.n.role==4;let v47:=decide (m.term<s.n.kept.term);True∧True∧True∧(v47=true→(s.o.messages.length≤1000000∧True)∧True∧false=zal s m∧qN0 v39.n v6 (qN4 v39.n v6 (qO14 v39.o v7 (v39.o.lost=v7.lost∧True))))∧(v47=false→True∧True∧(v45=true→True∧false=zal s m∧qN0 s.n v6 (qN4 s.n v6 (qO14 s.o v7 (s.o.lost=v7.lost∧True))))∧(v45=false→(Few 70000 s∧True)∧True∧True∧true=zal s m∧qN0 v27.n v6 (v27.n.commit=v6.commit∧m.from_=v6.lead∧(0:Int)=v6.elapsed∧qN23 v27.n v6 (qO14 v27.o v7 (v27.o.lost=v7.lost∧True)))))) (by kernel_rfl) ?_
 simp only [qN0,qN23,qN4,qO14,imp_self,implies_true,true_and,and_true,zaf,zag]
 refine ⟨fun h=>?_,fun h=>⟨fun h2=>?_,fun h2=>?_⟩⟩
 ·have h':m.term<s.n.kept.term:=by simpa using h
  have e:zab s m=za3 s (zbB m false 0):=by rw [zab,if_pos h']
  have e2:zal s m=false:=by rw [zal,h];rfl
  rw [e,e2]
  refine ⟨(hf.so (by decide)).messages,?_⟩
  repeat' apply And.intro
  all_goals rfl
 ·have h':¬ m.term<s.n.kept.term:=by simpa using h
  have h2':s.n.role=4:=by simpa using h2
  have e:zab s m=s:=by rw [zab,if_neg h',if_pos h2']
  have e2:zal s m=false:=by rw [zal,h,h2'];rfl
  rw [e,e2]
  repeat' apply And.intro
  all_goals rfl
 ·have h':¬ m.term<s.n.kept.term:=by simpa using h
  have h2':¬ s.n.role=4:=by simpa using h2
  have e:zab s m=⟨{(za0 s s.n.kept.term).n with lead:=m.from_,elapsed:=0},(za0 s s.n.kept.term).o⟩:=by rw [zab,if_neg h',if_neg h2']
  have e2:zal s m=true:=by rw [zal,h];simp [h2']
  rw [e,e2]
  refine ⟨hf.mono (by decide),?_⟩
  repeat' apply And.intro
  all_goals rfl
def zix:Ent:=zbs 151 3 mW dMessage.L vrW [1,0] glW fun s m=>([Few 60000 s],.bool (zal s m),wMo (zab s m))
theorem zeI:zae Tryz.prog zix:=za2 (fnB Tryz.func151 (by decide) rfl) fun s m h=>zpV s m (h _ (by simp))
def outZ:Out:=⟨[],[],[],[]⟩
def zak (n:Node):Step:=⟨n,outZ⟩
def zrA (n:Node):List BE:=[.dead,.dead,.cells 115 (n.osvs [1] 3 4 5 6++[.nil,.nil,.nil,.nil]),.row 89 [1] (.rEntry n.kept.entries),.row 3 [] (.rInts n.yes),.row 94 [] (.rPeer n.peers),.row 96 [] (.rRead n.reads)]
def tabE2:List Ent:=[zi1,zwb]
theorem zlB:∀ e∈tabE2,zae Tryz.prog e:=zaa zgq (zaa zmB zad)
theorem zr9 (n:Node) (hn:SmallN n) (hr:zap n=false):FnC Tryz.prog 73 [dNode.can n] (.tup [.any,.int .i64 1]) D2:=by
 refine FnG.of_vc (zah zlB fun _=>none) Tryz.func73 rfl (by decide) rfl 300 (p:=fun (V:List PE→Prop)=>let v0:=errC n != 0;True∧(SmallN n∧True)∧True∧True∧(v0=true→True∧errC n=1∧True)∧(v0=false→(SmallN n∧True)∧(0:Int)=1∧True)) (by kernel_rfl) ?_
 simp only [imp_self,implies_true,true_and,and_true,zaf,zag]
 refine ⟨hn,fun h=>?_,fun h=>?_⟩
 ·rw [errC,hr];rfl
 ·rw [errC,hr] at h;exact absurd h (by decide)
theorem zr8 (n:Node) (hn:SmallN n) (hr:zap n=true):FnC Tryz.prog 73 [dNode.can n] (.tup [.ptr 2 0,.int .i64 0]) (zrA n):=by
 refine FnG.of_vc (zah zlB fun _=>none) Tryz.func73 rfl (by decide) rfl 300 (p:=fun (V:List PE→Prop)=>let v11:=errC n != 0;True∧(SmallN n∧True)∧True∧True∧(v11=true→True∧False)∧(v11=false→(SmallN n∧True)∧(0:Int)=0∧qN0 n n (qN1 n n (n.reads=n.reads∧True)))) (by kernel_rfl) ?_
 simp only [qN0,qN1,imp_self,implies_true,true_and,and_true,zaf,zag]
 refine ⟨hn,fun h=>?_,fun h=>?_⟩
 ·rw [errC,hr] at h;exact absurd h (by decide)
 exact hn
abbrev D11:List BE:=[.dead,.dead,.dead,.dead,.dead,.dead,.dead,.dead,.dead,.dead,.dead]
abbrev D10:List BE:=[.dead,.dead,.dead,.dead,.dead,.dead,.dead,.dead,.dead,.dead]
def endO (s:Step):SV:= .tup [.agg (s.n.svs [1,4]),.agg (s.o.svs [2,3]),.int .i64 0]
theorem zxC (s:Step) (hn:SmallN s.n) (ho:SmallO s.o):FnG Tryz.prog 81 3 (wMi s) [.ptr 2 0] (endO s) D11:=by
 refine FnG.of_vc (zah zad fun _=>none) Tryz.func81 rfl (by decide) rfl 300 (p:=fun (V:List PE→Prop)=>True∧True∧qN0 s.n s.n (qN24 s.n s.n (qO25 s.o s.o ((0:Int)=0∧True)))) (by kernel_rfl) ?_
 simp only [qN0,qN24,qO25,imp_self,implies_true,true_and,and_true,zaf,zag]
 obtain ⟨b1,b2,b3,b4,b5⟩:=hn.ls
 obtain ⟨c1,c2,c3,c4⟩:=ho.ls
 exact ⟨b1,b2,b3,b4,c1,c2,c3,c4⟩
def eEnd:Ent:=zeF 81 3 mW vrW [1] glW fun s=>([SmallN s.n,SmallO s.o],endO s,D11)
theorem ziy:zae Tryz.prog eEnd:=zbu (fnB Tryz.func81 (by decide) rfl) fun s h=>zxC s (h _ (by simp)) (h _ (by simp))
theorem zvP (s:Step) (hn:SmallN s.n) (ho:SmallO s.o):FnG Tryz.prog 81 3 (sMi 115 s) [.ptr 2 0] (endO s) D10:=by
 refine FnG.of_vc (zah zad fun _=>none) Tryz.func81 rfl (by decide) rfl 300 (p:=fun (V:List PE→Prop)=>True∧True∧qN0 s.n s.n (qN26 s.n s.n (qO25 s.o s.o ((0:Int)=0∧True)))) (by kernel_rfl) ?_
 simp only [qN0,qN26,qO25,imp_self,implies_true,true_and,and_true,zaf,zag]
 obtain ⟨b1,b2,b3,b4,b5⟩:=hn.ls
 obtain ⟨c1,c2,c3,c4⟩:=ho.ls
 exact ⟨b2,b3,b4,c1,c2,c3,c4⟩
def zya:Ent:=zeF 81 3 mWS vrS [1] glS fun s=>([SmallN s.n,SmallO s.o],endO s,D10)
theorem zt0:zae Tryz.prog zya:=zbu (fnB Tryz.func81 (by decide) rfl) fun s h=>zvP s (h _ (by simp)) (h _ (by simp))
def zyf:Ent:=ent1 73 dNode fun n=>([SmallN n,zap n=false],.tup [.any,.int .i64 1],D2)
theorem zt3:zae Tryz.prog zyf:=zan (fnB Tryz.func73 (by decide) rfl) fun n h=>zr9 n (h _ (by simp)) (h _ (by simp))
def znR:Ent:=ent1 73 dNode fun n=>([SmallN n,zap n=true],.tup [.ptr 2 0,.int .i64 0],zrA n)
theorem zel:zae Tryz.prog znR:=zan (fnB Tryz.func73 (by decide) rfl) fun n h=>zr8 n (h _ (by simp)) (h _ (by simp))
abbrev D3d:List BE:=[.dead,.dead,.dead]
def refO (n:Node) (o:Out) (e:Int):SV:= .tup [.agg (n.svs [1]),.agg (o.svs [2]),.int .i64 e]
theorem zgR (e:Int):FnC Tryz.prog 74 [dInt.can e] (refO zeroN outZ e) D3d:=by
 refine FnG.of_vc (zah zad fun _=>none) Tryz.func74 rfl (by decide) rfl 300 (p:=fun (V:List PE→Prop)=>let v0:=zeroN.kept;let v1:=v0.snap;let v3:=(0:Int);True∧True∧v3=zeroN.id∧v3=zeroN.role∧v3=v0.term∧v3=v0.vote∧v3=v1.index∧v3=v1.term∧v1.config.voters=[]∧v1.config.learners=[]∧ByteArray.mk #[]=v1.data∧v0.entries=[]∧v3=zeroN.commit∧v3=zeroN.lead∧v3=zeroN.elapsed∧zeroN.yes=[]∧zeroN.peers=[]∧v3=zeroN.round∧zeroN.reads=[]∧outZ.records=[]∧outZ.messages=[]∧outZ.ready=[]∧outZ.lost=[]∧e=e∧True) (by kernel_rfl) ?_
 simp only [imp_self,implies_true,true_and,and_true,zaf,zag]
 repeat' apply And.intro
 all_goals rfl
def zcE:Ent:=ent1 74 dInt fun e=>([],refO zeroN outZ e,D3d)
theorem zbI:zae Tryz.prog zcE:=zan (zgR 0).1 fun n h=>zgR n
def tabT0:List Ent:=[zyf,zcE]
theorem zl4:∀ e∈tabT0,zae Tryz.prog e:=zaa zt3 (zaa zbI zad)
theorem zrS (n:Node) (hn:SmallN n) (hr:zap n=false):FnC Tryz.prog 25 [dNode.can n] (refO zeroN outZ 1) D3d:=by
 refine FnG.of_vc (zah zl4 fun _=>none) Tryz.func25 rfl (by decide) rfl 300 (p:=fun (V:List PE→Prop)=>let v14:=(1:Int) != 0;True∧(SmallN n∧zap n=false∧True)∧True∧True∧(v14=true→True∧qN0 zeroN zeroN (qN27 zeroN zeroN (qO28 outZ outZ ((1:Int)=1∧True))))∧(v14=false→False)) (by kernel_rfl) ?_
 simp only [qN0,qN27,qO28,imp_self,implies_true,true_and,and_true,zaf,zag]
 exact ⟨⟨hn,hr⟩,fun h=>absurd h (by decide)⟩
noncomputable def tabT1:List Ent:=[znR,zcE,zwq,ePat,zhu,zuw,eRun,zqp,zwn,eEnd]
theorem zrW:∀ e∈tabT1,zae Tryz.prog e:=zaa zel (zaa zbI (zaa zmJ (zaa zwa (zaa zdi (zaa zql (zaa zqu (zaa zjS (zaa zmI (zaa ziy zad)))))))))
def elap (n:Node):Int:=if (1000:Int)<IntKind.i64.wrap (n.elapsed+1) then 1000 else IntKind.i64.wrap (n.elapsed+1)
def tick1 (n:Node):Step:=⟨{n with elapsed:=elap n},outZ⟩
def zly (n:Node):Bool:=hasB (zav n).voters n.id&&mayC (zav n)
def zpe (n:Node):Message:=⟨1,0,0,IntKind.i64.wrap (n.kept.term+1),0,0,[],0,0,false,zd7,0,0,zs⟩
def zdN (n:Node):Step:=
 if n.role=4 then (if 2≤elap n then allS ⟨{n with elapsed:=0},outZ⟩ else tick1 n)
 else if elap n<patI n∨zly n=false then tick1 n
 else if zaE (runS (tick1 n) 2).n then zbo (runS (tick1 n) 2) else askS (runS (tick1 n) 2) (zpe n)
theorem Few.tick1 {B:Nat} {n:Node} (h:Few B (zak n)):Few B (tick1 n):=⟨h.entries,h.ec,h.sc,h.yes,h.peers,h.reads,h.records,h.messages,h.ready,h.lost⟩
theorem zrR (n:Node) (hn:SmallN n) (hr:zap n=true) (hf:Few 50000 (zak n)):FnC Tryz.prog 25 [dNode.can n] (refO (zdN n).n (zdN n).o 0) D3d:=by
 refine FnG.of_vc (zah zrW fun _=>none) Tryz.func25 rfl (by decide) rfl 300 (p:=fun (V:List PE→Prop)=>let v2:=n.kept;let v3:=n.peers;let v4:=n.reads;let v11:=Step.n (zdN n);let v14:=Step.o (zdN n);let v34:=(1000:Int);let v36:=(0:Int);let v44:=Out.mk [] [] [] [];let v45:=n.role==4;let v47:=IntKind.wrap IntKind.i64 (n.elapsed+(1:Int));let v48:=Node.mk n.id n.role v2 n.commit n.lead v36 n.yes v3 n.round v4;let v49:=allS (Step.mk v48 v44);let v55:=if v34<v47 then v34 else v47;let v56:=Node.mk n.id n.role v2 n.commit n.lead v55 n.yes v3 n.round v4;let v57:=zav v56;let v59:=runS (Step.mk v56 v44) (2:Int);let v61:=zbo v59;let v69:=zac v45 (decide (v55≥2)) false;let v70:=askS v59 (Message.mk (1:Int) v36 v36 (IntKind.wrap IntKind.i64 (v59.n.kept.term+(1:Int))) v36 v36 [] v36 v36 false (Snap.mk v36 v36 (Config.mk [] []) (ByteArray.mk #[])) v36 v36 (ByteArray.mk #[]));let v76:=zac v45 true (decide (v55<(patI v56)));let v77:=zac v76 true !(hasB v57.voters n.id&&mayC v57);True∧(SmallN n∧zap n=true∧True)∧True∧True∧((v36 != v36)=true→True∧qN0 zeroN v11 (qN27 zeroN v11 (qO28 outZ v14 (v36=v36∧True))))∧((v36 != v36)=false→True∧((v45=true→v45=true)∧(v45=true→v45=true)∧(v45=true→v45=true)∧(v45=true→v45=true)∧(v45=true→v45=true)∧(v45=true→v45=true)∧True)∧True∧(v69=true→True∧(SmallN v48∧(0:Nat)+v3.length≤1000000∧True)∧(SmallN v49.n∧SmallO v49.o∧True)∧qN0 v49.n v11 (qN27 v49.n v11 (qO28 v49.o v14 (v36=v36∧True))))∧(v69=false→(((!v45)=true→(!v45)=true)∧((!v45)=true→(!v45)=true)∧((!v45)=true→(!v45)=true)∧((!v45)=true→(!v45)=true)∧((!v45)=true→(!v45)=true)∧((!v45)=true→(!v45)=true)∧((!v45)=true→(!v45)=true)∧((!v45)=true→(!v45)=true)∧((!v45)=true→v2.entries.length≤17592186044416)∧((!v45)=true→n.yes.length≤17592186044416)∧((!v45)=true→v3.length≤17592186044416)∧((!v45)=true→v4.length≤17592186044416)∧((!v45)=true→(!v45)=true)∧((!v45)=true→(!v45)=true)∧(v45=false→(!v45)=true)∧((!v76)=true→(!v76)=true)∧((!v76)=true→(!v76)=true)∧((!v76)=true→(!v76)=true)∧((!v76)=true→(!v76)=true)∧((!v76)=true→v2.entries.length≤17592186044416)∧((!v76)=true→n.yes.length≤17592186044416)∧((!v76)=true→v3.length≤17592186044416)∧((!v76)=true→v4.length≤17592186044416)∧((!v76)=true→SmallN v56)∧((!v76)=true→(!v76)=true)∧((!v76)=true→(!v76)=true)∧((!v76)=true→(!v76)=true)∧((!v76)=true→(!v76)=true)∧((!v76)=true→(!v76)=true)∧((!v76)=true→(!v76)=true)∧((!v76)=true→zaw v57)∧((!v76)=true→(!v76)=true)∧(v76=false→(!v76)=true)∧True)∧True∧(v77=true→(SmallN v56∧SmallO v44∧True)∧qN0 n v11 (qN29 n v11 (v55=v11.elapsed∧qN30 n v11 ([]=v14.records∧[]=v14.messages∧[]=v14.ready∧[]=v14.lost∧v36=v36∧True))))∧(v77=false→(SmallN v56∧SmallO v44∧True)∧True∧((zaE v59.n)=true→(Few 70000 v59∧True)∧(SmallN v61.n∧SmallO v61.o∧True)∧qN0 v61.n v11 (qN27 v61.n v11 (qO28 v61.o v14 (v36=v36∧True))))∧((zaE v59.n)=false→(SmallN v59.n∧SmallO v59.o∧v59.o.messages.length≤900000∧List.length (Config.voters (zav v59.n))≤4000∧True)∧(SmallN v70.n∧SmallO v70.o∧True)∧qN0 v70.n v11 (qN27 v70.n v11 (qO28 v70.o v14 (v36=v36∧True)))))))) (by kernel_rfl) ?_
 simp only [qN0,qN27,qN29,qN30,qO28,imp_self,implies_true,true_and,and_true,zaf,zag,notF]
 refine ⟨⟨hn,hr⟩,fun h=>absurd h (by decide),fun _=>?_⟩
 have k1:=hf.tick1
 obtain ⟨b1,b2,b3,b4,b5⟩:=hn.ls
 have hp:=hf.peers
 refine ⟨fun h=>?_,fun h=>?_⟩
 ·have h:n.role=4∧2≤elap n:=by
   simp only [Bool.and_eq_true,beq_iff_eq,decide_eq_true_eq] at h
   exact h
  have e:zdN n=allS ⟨{n with elapsed:=0},outZ⟩:=by rw [zdN,if_pos h.1,if_pos h.2]
  have k:Few 50000 ⟨{n with elapsed:=0},outZ⟩:=⟨hf.entries,hf.ec,hf.sc,hf.yes,hf.peers,hf.reads,hf.records,hf.messages,hf.ready,hf.lost⟩
  have k2:=k.all
  rw [e]
  refine ⟨⟨k.sn (by decide),by show 0+n.peers.length≤_;have:n.peers.length≤5000:=hp;omega⟩,⟨k2.sn (by decide),k2.so (by decide)⟩,?_⟩
  repeat' apply And.intro
  all_goals rfl
 ·have h0:¬ (n.role=4∧2≤elap n):=by
   simp only [Bool.and_eq_false_iff,beq_eq_false_iff_ne,decide_eq_false_iff_not] at h
   rintro ⟨q1,q2⟩
   exact h.elim (fun h=>h q1) (fun h=>h q2)
  refine ⟨⟨fun _=>b1,fun _=>b2,fun _=>b3,fun _=>b4,fun _=>b1,fun _=>b2,fun _=>b3,fun _=>b4,fun _=>k1.sn (by decide),fun _=>k1.cf.c⟩,fun h=>?_,fun h=>?_⟩
  ·have h:n.role=4∨elap n<patI n∨zly n=false:=by
    simp only [Bool.or_eq_true,beq_iff_eq,decide_eq_true_eq,Bool.not_eq_true',or_assoc] at h
    exact h
   have e:zdN n=tick1 n:=by
    rw [zdN]
    by_cases hr:n.role=4
    ·rw [if_pos hr,if_neg fun h2=>h0 ⟨hr,h2⟩]
    ·rw [if_neg hr,if_pos (h.resolve_left hr)]
   rw [e]
   refine ⟨⟨k1.sn (by decide),k1.so (by decide)⟩,?_⟩
   repeat' apply And.intro
   all_goals rfl
  ·have h:¬ n.role=4∧¬ (elap n<patI n∨zly n=false):=by
    simp only [Bool.or_eq_false_iff,beq_eq_false_iff_ne,decide_eq_false_iff_not,Bool.not_eq_false',and_assoc] at h
    refine ⟨h.1,fun h2=>h2.elim h.2.1 fun h3=>?_⟩
    have h4:zly n=true:=h.2.2
    rw [h3] at h4;cases h4
   have k2:=k1.run 2 (by decide)
   refine ⟨⟨k1.sn (by decide),k1.so (by decide)⟩,fun g=>?_,fun g=>?_⟩
   ·have g:zaE (runS (tick1 n) 2).n=true:=g
    have e:zdN n=zbo (runS (tick1 n) 2):=by rw [zdN,if_neg h.1,if_neg h.2,if_pos g]
    have k3:=k2.stand
    rw [e]
    refine ⟨k2.mono (by decide),⟨k3.sn (by decide),k3.so (by decide)⟩,?_⟩
    repeat' apply And.intro
    all_goals rfl
   ·have g:zaE (runS (tick1 n) 2).n=false:=g
    have e:zdN n=askS (runS (tick1 n) 2) (zpe n):=by rw [zdN,if_neg h.1,if_neg h.2,if_neg (by rw [g];decide)]
    have k3:=Few.ask (zpe n) k2
    rw [e]
    refine ⟨⟨k2.sn (by decide),k2.so (by decide),Nat.le_trans k2.messages (by decide),k2.cf.1⟩,⟨k3.sn (by decide),k3.so (by decide)⟩,?_⟩
    repeat' apply And.intro
    all_goals rfl
theorem zvz (b:Bool):(b=false→(!b)=true)=True:=by cases b<;>simp
theorem zhO (a b:Bool):zac a true b=(a||b):=by cases a<;>rfl
theorem wadd {x:Int} {k:Nat} (b:Nat) (hx:x=(k:Int)) (h:k+b≤1000000000000000):IntKind.i64.wrap (x+(b:Int))=((k+b:Nat):Int):=by
 subst hx
 rw [zb3 ⟨by omega,by omega⟩];omega
def cntE (e:Entry):Nat:=1+e.config.voters.length+e.config.learners.length
def cntL:List Entry→Nat
 | []=>0
 | e::l=>cntE e+cntL l
theorem zmO (a b:List Entry):cntL (a++b)=cntL a+cntL b:=by
 induction a with
 | nil=>simp [cntL]
 | cons x a ih=>simp only [List.cons_append,cntL,ih];omega
theorem zen {l:List Entry} {j:Nat} (h:j<l.length):cntL (l.take (j+1))=cntL (l.take j)+cntE (l.getD j default):=by
 rw [zam (d:=(default:Entry)) h,zmO];simp [cntL]
theorem zru (l:List Entry) (j:Nat):cntL (l.take j)≤cntL l:=by
 have h:=zmO (l.take j) (l.drop j)
 rw [List.take_append_drop] at h;omega
def zrB (n:Node) (m:Message):Nat:=n.yes.length+n.peers.length+n.reads.length+n.kept.entries.length+m.entries.length+n.kept.snap.config.voters.length+n.kept.snap.config.learners.length+m.snap.config.voters.length+m.snap.config.learners.length
def zd2 (n:Node) (m:Message):Bool:=decide (3000<zrB n m+cntL n.kept.entries+cntL m.entries)
theorem zhx (e:Entry):FnC Tryz.prog 50 [dEntry.can e] (.int .i64 (cntE e:Nat)) D2:=by
 refine FnC.g1 dEntry e (fnB Tryz.func50 (by decide) rfl) fun he=>?_
 refine FnG.of_vc (zah zad fun _=>none) Tryz.func50 rfl (by decide) rfl 300 (p:=fun (V:List PE→Prop)=>True∧True∧IntKind.wrap IntKind.i64 (IntKind.wrap IntKind.i64 ((1:Int)+(↑(e.config.voters.length):Int))+(↑(e.config.learners.length):Int))=(↑(cntE e):Int)∧True) (by kernel_rfl) ?_
 simp only [imp_self,implies_true,true_and,and_true,zaf,zag]
 have h1:=he.config_voters.1
 have h2:=he.config_learners.1
 simp only [IntKind.wrap_i64,cntE]
 omega
def eCnt:Ent:=ent1 50 dEntry fun e=>([],.int .i64 (cntE e:Nat),D2)
theorem zla:zae Tryz.prog eCnt:=zan (zhx default).1 fun e _=>zhx e
theorem zmu (n:Node) (m:Message):FnC Tryz.prog 12 [dNode.can n,dMessage.can m] (.bool (zd2 n m)) D2:=by
 refine FnC.g2 dNode dMessage n m (fnB Tryz.func12 (by decide) rfl) fun hn hm=>?_
 refine FnG.of_vc (zah (zaa zla zad) fun _=>none) Tryz.func12 rfl (by decide) rfl 300 (p:=fun (V:List PE→Prop)=>True∧True∧True∧True∧V []) (by kernel_rfl) ?_
 simp only [qN31,imp_self,implies_true,true_and,and_true,zaf,zag]
 have h1:=hn.yes.1;have h2:=hn.peers.1;have h3:=hn.reads.1;have h4:=hn.kept_entries.1;have h5:=hm.entries.1
 have h6:=hn.kept_snap_config_voters.1;have h7:=hn.kept_snap_config_learners.1;have h8:=hm.snap_config_voters.1;have h9:=hm.snap_config_learners.1
 have hc:∀ e:Entry,e∈n.kept.entries∨e∈m.entries→cntE e≤35184372088833:=fun e he=>by
  have:=he.elim (hn.kept_entries.2 e) (hm.entries.2 e)
  have q1:=this.config_voters.1;have q2:=this.config_learners.1
  unfold cntE;omega
 obtain ⟨B,hB⟩:∃ B,zrB n m=B:=⟨_,rfl⟩
 have hB2:B≤200000000000000:=by rw [← hB];unfold zrB;omega
 refine LoopG.head (zah (zaa zla zad) fun _=>none) 0 (A:=Nat) (fun j=>j≤n.kept.entries.length∧(0<j→B+cntL (n.kept.entries.take (j-1))≤3000)) (fun j=>[(7,.int .i64 j),(6,.int .i64 ((B+cntL (n.kept.entries.take j):Nat):Int))]) (fun _=>[]) (fun j=>n.kept.entries.length-j) 0 ⟨Nat.zero_le _,fun h=>absurd h (by omega)⟩ (p0:=let v0:=m.entries;let v1:=m.snap;let v2:=Message.logTerm m;let v3:=n.kept;let v13:=v1.config.learners;let v16:=v1.config.voters;(0:Int)=(↑(0:Nat):Int)∧IntKind.wrap IntKind.i64 (IntKind.wrap IntKind.i64 (IntKind.wrap IntKind.i64 (IntKind.wrap IntKind.i64 (IntKind.wrap IntKind.i64 (IntKind.wrap IntKind.i64 (IntKind.wrap IntKind.i64 (IntKind.wrap IntKind.i64 ((↑(n.yes.length):Int)+(↑(n.peers.length):Int))+(↑(n.reads.length):Int))+(↑(v3.entries.length):Int))+(↑(v0.length):Int))+(↑(v3.snap.config.voters.length):Int))+(↑(v3.snap.config.learners.length):Int))+(↑(v16.length):Int))+(↑(v13.length):Int))=(↑(B+cntL (List.take (0:Nat) v3.entries)):Int)∧false=false∧qN31 n n (m.kind=m.kind∧m.from_=m.from_∧m.to_=m.to_∧m.term=m.term∧m.index=m.index∧v2=v2∧v0=v0∧m.commit=m.commit∧m.round=m.round∧m.ok=m.ok∧v1.index=v1.index∧v1.term=v1.term∧v16=v16∧v13=v13∧v1.data=v1.data∧m.ask=m.ask∧m.seq=m.seq∧m.data=m.data∧True)) (by kernel_rfl) ?_ 300 (p:=fun (x:Nat) (V:List PE→Prop)=>let v0:=n.kept.entries;let v1:=(↑x:Int);let v2:=(↑(v0.length):Int);let v4:=decide (v1<v2);let v5:=zac v4 (decide ((↑(B+cntL (List.take x v0)):Int)≤3000)) false;((v4=true→v4=true)∧(v4=true→v4=true)∧True)∧True∧(v5=true→((0:Int)≤v1∧v1<v2∧True)∧True∧V [PE.a])∧(v5=false→True∧V [PE.b])) (by intro x;kernel_rfl) ?_
 ·refine ⟨rfl,?_,?_⟩
  ·have e:=wadd m.snap.config.learners.length (wadd m.snap.config.voters.length (wadd n.kept.snap.config.learners.length (wadd n.kept.snap.config.voters.length (wadd m.entries.length (wadd n.kept.entries.length (wadd n.reads.length (wadd n.peers.length (k:=n.yes.length) rfl (by omega)) (by omega)) (by omega)) (by omega)) (by omega)) (by omega)) (by omega)) (by omega)
   rw [e,← hB]
   rfl
  ·repeat' apply And.intro
   all_goals first | trivial | rfl
 rintro j ⟨hj,h0⟩
 have hb0:B+cntL (n.kept.entries.take j)≤300000000000000:=by
  by_cases hp:0<j
  ·have h:=zen (l:=n.kept.entries) (j:=j-1) (by omega)
   rw [show j-1+1=j by omega] at h
   have:=hc _ (.inl (za4 (d:=default) (show j-1<n.kept.entries.length by omega)))
   have:=h0 hp
   omega
  ·obtain rfl:j=0:=by omega
   simp only [List.take_zero,cntL];omega
 have ep:zac (decide ((j:Int)<(n.kept.entries.length:Int))) (decide (((B+cntL (n.kept.entries.take j):Nat):Int)≤3000)) false=decide (j<n.kept.entries.length∧B+cntL (n.kept.entries.take j)≤3000):=by
  by_cases g1:j<n.kept.entries.length<;>by_cases g2:B+cntL (n.kept.entries.take j)≤3000<;>simp [zac,g1,g2]<;>omega
 simp only [qN31,imp_self,implies_true,true_and,and_true,ep,decide_eq_true_eq,decide_eq_false_iff_not]
 refine ⟨fun h6=>⟨by omega,?_⟩,fun h6=>?_⟩
 ·have hcl:=hc _ (.inl (za4 (d:=default) h6.1))
  refine Back.mk (j+1) ⟨by omega,fun _=>by rw [Nat.add_sub_cancel];exact h6.2⟩ (by omega) (p0:=let v1:=m.snap;let v2:=Message.logTerm m;let v9:=n.kept.entries;let v10:=v1.config;IntKind.wrap IntKind.i64 ((↑j:Int)+(1:Int))=(↑(j+(1:Nat)):Int)∧IntKind.wrap IntKind.i64 ((↑(B+cntL (List.take j v9)):Int)+(↑(cntE (List.getD v9 j default)):Int))=(↑(B+cntL (List.take (j+(1:Nat)) v9)):Int)∧false=false∧qN31 n n (m.kind=m.kind∧m.from_=m.from_∧m.to_=m.to_∧m.term=m.term∧m.index=m.index∧v2=v2∧m.entries=m.entries∧m.commit=m.commit∧m.round=m.round∧m.ok=m.ok∧v1.index=v1.index∧v1.term=v1.term∧v10.voters=v10.voters∧v10.learners=v10.learners∧v1.data=v1.data∧m.ask=m.ask∧m.seq=m.seq∧m.data=m.data∧True)) (by kernel_rfl) ?_
  have e1:=wadd (x:=(j:Int)) 1 rfl (by omega)
  have e2:=wadd (x:=((B+cntL (n.kept.entries.take j):Nat):Int)) (cntE (n.kept.entries.getD j default)) rfl (by omega)
  have e3:=zen h6.1
  refine ⟨e1,e2.trans (by rw [e3,Nat.add_assoc]),?_⟩
  repeat' apply And.intro
  all_goals first | trivial | rfl
 obtain ⟨C,hC⟩:∃ C,B+cntL (n.kept.entries.take j)=C:=⟨_,rfl⟩
 rw [hC] at h6 hb0
 refine LoopG.head (zah (zaa zla zad) fun _=>none) 1 (A:=Nat) (fun i=>i≤m.entries.length∧(0<i→C+cntL (m.entries.take (i-1))≤3000)) (fun i=>[(8,.int .i64 i),(6,.int .i64 ((C+cntL (m.entries.take i):Nat):Int))]) (fun _=>[]) (fun i=>m.entries.length-i) 0 ⟨Nat.zero_le _,fun h=>absurd h (by omega)⟩ (p0:=let v0:=m.snap;let v1:=Message.logTerm m;let v2:=m.entries;let v5:=v0.config;(0:Int)=(↑(0:Nat):Int)∧(↑(B+cntL (List.take j n.kept.entries)):Int)=(↑(C+cntL (List.take (0:Nat) v2)):Int)∧false=false∧m.kind=m.kind∧m.from_=m.from_∧m.to_=m.to_∧m.term=m.term∧m.index=m.index∧v1=v1∧v2=v2∧m.commit=m.commit∧m.round=m.round∧m.ok=m.ok∧v0.index=v0.index∧v0.term=v0.term∧v5.voters=v5.voters∧v5.learners=v5.learners∧v0.data=v0.data∧m.ask=m.ask∧m.seq=m.seq∧m.data=m.data∧True) (by kernel_rfl) ?_ 300 (p:=fun (x:Nat) (V:List PE→Prop)=>let v1:=(↑x:Int);let v2:=(3000:Int);let v3:=(↑(m.entries.length):Int);let v4:=(↑(C+cntL (List.take x m.entries)):Int);let v5:=decide (v1<v3);let v6:=zac v5 (decide (v4≤v2)) false;((v5=true→v5=true)∧(v5=true→v5=true)∧True)∧True∧(v6=true→((0:Int)≤v1∧v1<v3∧True)∧True∧V [PE.a])∧(v6=false→True∧decide (v4>v2)=zd2 n m∧True)) (by intro x;kernel_rfl) ?_
 ·rw [hC]
  simp only [qN31,List.take_zero,cntL,Nat.add_zero,true_and,and_true]
  first | done | (repeat' apply And.intro)<;>rfl
 rintro i ⟨hi,h1⟩
 have hb1:C+cntL (m.entries.take i)≤400000000000000:=by
  by_cases hp:0<i
  ·have h:=zen (l:=m.entries) (j:=i-1) (by omega)
   rw [show i-1+1=i by omega] at h
   have:=hc _ (.inr (za4 (d:=default) (show i-1<m.entries.length by omega)))
   have:=h1 hp
   omega
  ·obtain rfl:i=0:=by omega
   simp only [List.take_zero,cntL];omega
 have ep2:zac (decide ((i:Int)<(m.entries.length:Int))) (decide (((C+cntL (m.entries.take i):Nat):Int)≤3000)) false=decide (i<m.entries.length∧C+cntL (m.entries.take i)≤3000):=by
  by_cases g1:i<m.entries.length<;>by_cases g2:C+cntL (m.entries.take i)≤3000<;>simp [zac,g1,g2]<;>omega
 simp only [qN31,imp_self,implies_true,true_and,and_true,ep2,decide_eq_true_eq,decide_eq_false_iff_not]
 refine ⟨fun h7=>⟨by omega,?_⟩,fun h7=>?_⟩
 ·have hcl:=hc _ (.inr (za4 (d:=default) h7.1))
  refine Back.mk (i+1) ⟨by omega,fun _=>by rw [Nat.add_sub_cancel];exact h7.2⟩ (by omega) (p0:=let v0:=m.snap;let v1:=Message.logTerm m;let v2:=m.entries;let v5:=v0.config;IntKind.wrap IntKind.i64 ((↑i:Int)+(1:Int))=(↑(i+(1:Nat)):Int)∧IntKind.wrap IntKind.i64 ((↑(C+cntL (List.take i v2)):Int)+(↑(cntE (List.getD v2 i default)):Int))=(↑(C+cntL (List.take (i+(1:Nat)) v2)):Int)∧false=false∧m.kind=m.kind∧m.from_=m.from_∧m.to_=m.to_∧m.term=m.term∧m.index=m.index∧v1=v1∧v2=v2∧m.commit=m.commit∧m.round=m.round∧m.ok=m.ok∧v0.index=v0.index∧v0.term=v0.term∧v5.voters=v5.voters∧v5.learners=v5.learners∧v0.data=v0.data∧m.ask=m.ask∧m.seq=m.seq∧m.data=m.data∧True) (by kernel_rfl) ?_
  have e1:=wadd (x:=(i:Int)) 1 rfl (by omega)
  have e2:=wadd (x:=((C+cntL (m.entries.take i):Nat):Int)) (cntE (m.entries.getD i default)) rfl (by omega)
  have e3:=zen h7.1
  refine ⟨e1,e2.trans (by rw [e3,Nat.add_assoc]),?_⟩
  repeat' apply And.intro
  all_goals first | trivial | rfl
 ·have z1:=zru n.kept.entries j
  have z2:=zru m.entries i
  have z3:¬ j<n.kept.entries.length→cntL (n.kept.entries.take j)=cntL n.kept.entries:=fun h=>by rw [List.take_of_length_le (by omega)]
  have z4:¬ i<m.entries.length→cntL (m.entries.take i)=cntL m.entries:=fun h=>by rw [List.take_of_length_le (by omega)]
  have z5:i=0→cntL (m.entries.take i)=0:=fun h=>by rw [h];rfl
  rw [zd2,hB]
  rw [Bool.eq_iff_iff]
  simp only [decide_eq_true_eq]
  omega
theorem zmZ (a b:List Int):FnC Tryz.prog 54 [dInts.can a,dInts.can b] (.bool (decide (a=b))) D2:=by
 refine FnC.g2 dInts dInts a b (fnB Tryz.func54 (by decide) rfl) fun ha hb=>?_
 refine FnG.of_vc (zah zad fun _=>none) Tryz.func54 rfl (by decide) rfl 300 (p:=fun (V:List PE→Prop)=>let v0:=(↑(a.length):Int) != (↑(b.length):Int);True∧True∧True∧(v0=true→True∧false=decide (a=b)∧True)∧(v0=false→True∧V [PE.b])) (by kernel_rfl) ?_
 simp only [true_and,and_true,imp_self]
 refine ⟨fun h=>?_,fun h=>?_⟩
 ·have:a≠b:=fun e=>by subst e;simp at h
  simp [this]
 have hab:a.length=b.length:=by simp at h;omega
 refine LoopG.head (zah zad fun _=>none) 0 (A:=Nat) (fun j=>j≤a.length∧∀ i,i<j→a.getD i 0=b.getD i 0) (fun j=>[(5,.int .i64 j)]) (fun j=>[]) (fun j=>a.length-j) 0 ⟨Nat.zero_le _,fun i h=>absurd h (by omega)⟩ (p0:=(0:Int)=(↑(0:Nat):Int)∧a=a∧b=b∧True) (by kernel_rfl) ?_ 300 (p:=fun (x:Nat) (V:List PE→Prop)=>let v0:=(↑x:Int);let v1:=(↑(a.length):Int);let v2:=List.getD a x (0:Int) != List.getD b x (0:Int);let v3:=decide (v0<v1);True∧True∧(v3=true→((0:Int)≤v0∧v0<v1∧(0:Int)≤v0∧v0<(↑(b.length):Int)∧True)∧True∧(v2=true→True∧false=decide (a=b)∧True)∧(v2=false→True∧V [PE.a,PE.b]))∧(v3=false→True∧true=decide (a=b)∧True)) (by intro x;kernel_rfl) ?_
 ·simp
 ·rintro j ⟨hj,h0⟩
  have hkl:=ha.1
  simp only [imp_self,implies_true,true_and,and_true,decide_eq_true_eq,decide_eq_false_iff_not]
  refine ⟨fun h6=>⟨by omega,fun h7=>?_,fun h7=>?_⟩,fun h6=>?_⟩
  ·have:a≠b:=fun e=>by subst e;simp at h7
   simp [this]
  ·refine Back.mk (j+1) ⟨by omega,fun i hi=>?_⟩ (by omega) (p0:=IntKind.wrap IntKind.i64 ((↑j:Int)+(1:Int))=(↑(j+(1:Nat)):Int)∧a=a∧b=b∧True) (by kernel_rfl) ?_
   ·by_cases hij:i=j
    ·subst hij;simpa using h7
    ·exact h0 i (by omega)
   ·simp [za8 (i:=j) (by omega)]
  ·have:a=b:=zb7 hab fun i hi=>h0 i (by omega)
   simp [this]
def zra:Ent:=ent2 54 dInts dInts fun a b=>([],.bool (decide (a=b)),D2)
theorem zkh:zae Tryz.prog zra:=zar (zmZ [] []).1 fun a b _=>zmZ a b
theorem Message.eq_iff {a b:Message}:a=b↔a.kind=b.kind∧a.from_=b.from_∧a.to_=b.to_∧a.term=b.term∧a.index=b.index∧a.logTerm=b.logTerm∧a.entries=b.entries∧a.commit=b.commit∧a.round=b.round∧a.ok=b.ok∧a.snap=b.snap∧a.ask=b.ask∧a.seq=b.seq∧a.data=b.data:=by cases a;cases b;simp
def zxK:Ent:=ent2 97 dEntrys dEntrys fun a b=>([],.bool (decide (a=b)),D2)
theorem zq4:zae Tryz.prog zxK:=zar (zlT [] []).1 fun a b _=>zlT a b
def zjV:Ent:=ent2 147 dRecords dRecords fun a b=>([],.bool (decide (a=b)),D2)
theorem zjU:zae Tryz.prog zjV:=zar (zfG [] []).1 fun a b _=>zfG a b
def zu5:Ent:=ent2 23 dKept dKept fun a b=>([],.bool (decide (a=b)),D2)
theorem zq3:zae Tryz.prog zu5:=zar (zlS default default).1 fun a b _=>zlS a b
theorem zrI (a b:Message):FnC Tryz.prog 32 [dMessage.can a,dMessage.can b] (.bool (decide (a=b))) D2:=by
 refine FnC.g2 dMessage dMessage a b (fnB Tryz.func32 (by decide) rfl) fun ha hb=>?_
 refine FnG.of_vc (zah (zaa zq4 (zaa zhk zad)) fun _=>none) Tryz.func32 rfl (by decide) rfl 300 (p:=fun (V:List PE→Prop)=>let v2:=a.kind != b.kind;let v3:=decide (a.entries=b.entries);let v4:=zac v2 true (a.from_ != b.from_);let v5:=zac v4 true (a.to_ != b.to_);let v6:=zac v5 true (a.term != b.term);let v7:=zac v6 true (a.index != b.index);let v8:=zac v7 true (Message.logTerm a != Message.logTerm b);let v9:=zac v8 true (a.commit != b.commit);let v10:=zac v9 true (a.round != b.round);let v11:=zac v10 true !a.ok==b.ok;let v12:=zac v11 true (a.ask != b.ask);let v13:=zac v12 true (a.seq != b.seq);let v14:=zac v13 true !ByteArray.toList a.data==ByteArray.toList b.data;True∧(((!v2)=true→(!v2)=true)∧((!v2)=true→(!v2)=true)∧((!v2)=true→(!v2)=true)∧((!v2)=true→(!v2)=true)∧(v2=false→(!v2)=true)∧((!v4)=true→(!v4)=true)∧((!v4)=true→(!v4)=true)∧((!v4)=true→(!v4)=true)∧((!v4)=true→(!v4)=true)∧(v4=false→(!v4)=true)∧((!v5)=true→(!v5)=true)∧((!v5)=true→(!v5)=true)∧((!v5)=true→(!v5)=true)∧((!v5)=true→(!v5)=true)∧(v5=false→(!v5)=true)∧((!v6)=true→(!v6)=true)∧((!v6)=true→(!v6)=true)∧((!v6)=true→(!v6)=true)∧((!v6)=true→(!v6)=true)∧(v6=false→(!v6)=true)∧((!v7)=true→(!v7)=true)∧((!v7)=true→(!v7)=true)∧((!v7)=true→(!v7)=true)∧((!v7)=true→(!v7)=true)∧(v7=false→(!v7)=true)∧((!v8)=true→(!v8)=true)∧((!v8)=true→(!v8)=true)∧((!v8)=true→(!v8)=true)∧((!v8)=true→(!v8)=true)∧(v8=false→(!v8)=true)∧((!v9)=true→(!v9)=true)∧((!v9)=true→(!v9)=true)∧((!v9)=true→(!v9)=true)∧((!v9)=true→(!v9)=true)∧(v9=false→(!v9)=true)∧((!v10)=true→(!v10)=true)∧((!v10)=true→(!v10)=true)∧((!v10)=true→(!v10)=true)∧((!v10)=true→(!v10)=true)∧(v10=false→(!v10)=true)∧((!v11)=true→(!v11)=true)∧((!v11)=true→(!v11)=true)∧((!v11)=true→(!v11)=true)∧((!v11)=true→(!v11)=true)∧(v11=false→(!v11)=true)∧((!v12)=true→(!v12)=true)∧((!v12)=true→(!v12)=true)∧((!v12)=true→(!v12)=true)∧((!v12)=true→(!v12)=true)∧(v12=false→(!v12)=true)∧((!v13)=true→(!v13)=true)∧((!v13)=true→(!v13)=true)∧((!v13)=true→(!v13)=true)∧((!v13)=true→(!v13)=true)∧(v13=false→(!v13)=true)∧True)∧True∧(v14=true→True∧false=decide (a=b)∧True)∧(v14=false→((v3=true→v3=true)∧(v3=true→v3=true)∧(v3=true→v3=true)∧(v3=true→v3=true)∧(v3=true→v3=true)∧True)∧zac v3 (decide (a.snap=b.snap)) false=decide (a=b)∧True)) (by kernel_rfl) ?_
 simp only [imp_self,implies_true,true_and,and_true,zaf,zag,zep,zvz,zhO]
 refine ⟨fun h=>?_,fun h=>?_⟩
 ·have:a≠b:=fun e=>by subst e;simp at h
  simp [this]
 ·simp only [Bool.or_eq_false_iff,bne_eq_false_iff_eq,Bool.not_eq_false',decide_eq_true_eq] at h
  have h9:a.ok=b.ok:=by have:=h.1.1.1.2;simpa using this
  rw [Bool.eq_iff_iff]
  simp [Message.eq_iff,h,h9,and_assoc,and_comm,and_left_comm]
def zxY:Ent:=ent2 32 dMessage dMessage fun a b=>([],.bool (decide (a=b)),D2)
theorem ziw:zae Tryz.prog zxY:=zar (zrI default default).1 fun a b _=>zrI a b
theorem zmY (a b:List Message):FnC Tryz.prog 148 [dMessages.can a,dMessages.can b] (.bool (decide (a=b))) D2:=by
 refine FnC.g2 dMessages dMessages a b (fnB Tryz.func148 (by decide) rfl) fun ha hb=>?_
 refine FnG.of_vc (zah (zaa ziw zad) fun _=>none) Tryz.func148 rfl (by decide) rfl 300 (p:=fun (V:List PE→Prop)=>let v0:=(↑(a.length):Int) != (↑(b.length):Int);True∧True∧True∧(v0=true→True∧false=decide (a=b)∧True)∧(v0=false→True∧V [PE.b])) (by kernel_rfl) ?_
 simp only [true_and,and_true,imp_self]
 refine ⟨fun h=>?_,fun h=>?_⟩
 ·have:a≠b:=fun e=>by subst e;simp at h
  simp [this]
 have hab:a.length=b.length:=by simp at h;omega
 refine LoopG.head (zah (zaa ziw zad) fun _=>none) 0 (A:=Nat) (fun j=>j≤a.length∧∀ i,i<j→a.getD i default=b.getD i default) (fun j=>[(5,.int .i64 j)]) (fun j=>[]) (fun j=>a.length-j) 0 ⟨Nat.zero_le _,fun i h=>absurd h (by omega)⟩ (p0:=(0:Int)=(↑(0:Nat):Int)∧a=a∧b=b∧True) (by kernel_rfl) ?_ 300 (p:=fun (x:Nat) (V:List PE→Prop)=>let v0:=(↑x:Int);let v1:=(↑(a.length):Int);let v4:=decide (v0<v1);let v5:=!decide ((List.getD a x default)=(List.getD b x default));True∧True∧(v4=true→((0:Int)≤v0∧v0<v1∧(0:Int)≤v0∧v0<(↑(b.length):Int)∧True)∧True∧(v5=true→True∧false=decide (a=b)∧True)∧(v5=false→True∧V [PE.a,PE.b]))∧(v4=false→True∧true=decide (a=b)∧True)) (by intro x;kernel_rfl) ?_
 ·simp
 ·rintro j ⟨hj,h0⟩
  have hkl:=ha.1
  simp only [imp_self,implies_true,true_and,and_true,decide_eq_true_eq,decide_eq_false_iff_not]
  refine ⟨fun h6=>⟨by omega,fun h7=>?_,fun h7=>?_⟩,fun h6=>?_⟩
  ·have:a≠b:=fun e=>by subst e;simp at h7
   simp [this]
  ·refine Back.mk (j+1) ⟨by omega,fun i hi=>?_⟩ (by omega) (p0:=IntKind.wrap IntKind.i64 ((↑j:Int)+(1:Int))=(↑(j+(1:Nat)):Int)∧a=a∧b=b∧True) (by kernel_rfl) ?_
   ·by_cases hij:i=j
    ·subst hij;simpa using h7
    ·exact h0 i (by omega)
   ·simp [za8 (i:=j) (by omega)]
  ·have:a=b:=zb7 hab fun i hi=>h0 i (by omega)
   simp [this]
def zuI:Ent:=ent2 148 dMessages dMessages fun a b=>([],.bool (decide (a=b)),D2)
theorem zqY:zae Tryz.prog zuI:=zar (zmY [] []).1 fun a b _=>zmY a b
theorem eqRd (p q:Read):eqI [.int .i64 p.token,.int .i64 p.index,.int .i64 p.round] [.int .i64 q.token,.int .i64 q.index,.int .i64 q.round]=decide (p=q):=by
 obtain ⟨a1,a2,a3⟩:=p
 obtain ⟨b1,b2,b3⟩:=q
 simp only [eqI,Read.mk.injEq]
 by_cases h1:a1=b1<;>by_cases h2:a2=b2<;>by_cases h3:a3=b3<;>simp [h1,h2,h3]
theorem eqPr (p q:Peer):eqI [.int .i64 p.node,.int .i64 p.next,.int .i64 p.match_,.int .i64 p.round] [.int .i64 q.node,.int .i64 q.next,.int .i64 q.match_,.int .i64 q.round]=decide (p=q):=by
 obtain ⟨a1,a2,a3,a4⟩:=p
 obtain ⟨b1,b2,b3,b4⟩:=q
 simp only [eqI,Peer.mk.injEq]
 by_cases h1:a1=b1<;>by_cases h2:a2=b2<;>by_cases h3:a3=b3<;>by_cases h4:a4=b4<;>simp [h1,h2,h3,h4]
theorem Out.eq_iff {a b:Out}:a=b↔a.records=b.records∧a.messages=b.messages∧a.ready=b.ready∧a.lost=b.lost:=by cases a;cases b;simp
def tabDa:List Ent:=[zra,zjV,zuI]
theorem zlD:∀ e∈tabDa,zae Tryz.prog e:=zaa zkh (zaa zjU (zaa zqY zad))
theorem zmX (a b:Out):FnC Tryz.prog 85 [dOut.can a,dOut.can b] (.bool (decide (a=b))) D2:=by
 refine FnC.g2 dOut dOut a b (fnB Tryz.func85 (by decide) rfl) fun ha hb=>?_
 refine FnG.of_vc (zah zlD fun _=>none) Tryz.func85 rfl (by decide) rfl 300 (p:=fun (V:List PE→Prop)=>let v0:=(↑(a.ready.length):Int) != (↑(b.ready.length):Int);let v1:=zac v0 true !decide (a.lost=b.lost);let v2:=zac v1 true !decide (a.records=b.records);let v3:=zac v2 true !decide (a.messages=b.messages);True∧(((!v0)=true→(!v0)=true)∧((!v0)=true→(!v0)=true)∧((!v0)=true→(!v0)=true)∧((!v0)=true→(!v0)=true)∧((!v0)=true→(!v0)=true)∧(v0=false→(!v0)=true)∧((!v1)=true→(!v1)=true)∧((!v1)=true→(!v1)=true)∧((!v1)=true→(!v1)=true)∧((!v1)=true→(!v1)=true)∧((!v1)=true→(!v1)=true)∧(v1=false→(!v1)=true)∧((!v2)=true→(!v2)=true)∧((!v2)=true→(!v2)=true)∧((!v2)=true→(!v2)=true)∧((!v2)=true→(!v2)=true)∧((!v2)=true→(!v2)=true)∧(v2=false→(!v2)=true)∧True)∧True∧(v3=true→True∧false=decide (a=b)∧True)∧(v3=false→True∧V [PE.b])) (by kernel_rfl) ?_
 simp only [true_and,and_true,imp_self,implies_true,zvz,zhO]
 refine ⟨fun h=>?_,fun h=>?_⟩
 ·have:a≠b:=fun e=>by subst e;simp at h
  simp [this]
 simp only [Bool.or_eq_false_iff,bne_eq_false_iff_eq,Bool.not_eq_false',decide_eq_true_eq] at h
 obtain ⟨⟨⟨e1,e2⟩,e3⟩,e4⟩:=h
 have hab:a.ready.length=b.ready.length:=by omega
 refine LoopG.head (zah zlD fun _=>none) 0 (A:=Nat) (fun j=>j≤a.ready.length∧∀ i,i<j→a.ready.getD i default=b.ready.getD i default) (fun j=>[(5,.int .i64 j)]) (fun j=>[]) (fun j=>a.ready.length-j) 0 ⟨Nat.zero_le _,fun i h=>absurd h (by omega)⟩ (p0:=(0:Int)=(↑(0:Nat):Int)∧b.records=b.records∧b.messages=b.messages∧b.ready=b.ready∧b.lost=b.lost∧a.records=a.records∧a.messages=a.messages∧a.ready=a.ready∧a.lost=a.lost∧True) (by kernel_rfl) ?_ 300 (p:=fun (x:Nat) (V:List PE→Prop)=>let v1:=(↑x:Int);let v2:=(↑(a.ready.length):Int);let v3:=decide (v1<v2);let v4:=TypeInfo.size (Tables.types (Program.toTables Tryz.prog))[(96:Nat)];let v5:=!eqI (List.take v4 (List.drop (0:Nat) (RL.elem [(0:Nat)] (RL.rRead a.ready) x))) (List.take v4 (List.drop (0:Nat) (RL.elem [(0:Nat)] (RL.rRead b.ready) x)));True∧True∧(v3=true→((0:Int)≤v1∧v1<v2∧(0:Int)≤v1∧v1<(↑(b.ready.length):Int)∧True)∧True∧(v5=true→True∧false=decide (a=b)∧True)∧(v5=false→True∧V [PE.a,PE.b]))∧(v3=false→True∧true=decide (a=b)∧True)) (by intro x;kernel_rfl) ?_
 ·simp
 rintro j ⟨hj,h0⟩
 have hkl:=ha.ready.1
 simp only [imp_self,implies_true,true_and,and_true,decide_eq_true_eq,decide_eq_false_iff_not]
 have hsz:TypeInfo.size ((Tables.types (Program.toTables Tryz.prog))[96]'(Nat.le_of_ble_eq_true (by kernel_rfl)))=3:=by kernel_rfl
 have eq:eqI (List.take 3 (List.drop 0 (RL.elem [0] (RL.rRead a.ready) j))) (List.take 3 (List.drop 0 (RL.elem [0] (RL.rRead b.ready) j)))=decide (a.ready.getD j default=b.ready.getD j default):=eqRd _ _
 rw [hsz,eq]
 simp only [imp_self,implies_true,true_and,and_true,Bool.not_eq_true',Bool.not_eq_false',decide_eq_true_eq,decide_eq_false_iff_not]
 refine ⟨fun h6=>⟨by omega,fun h7=>?_,fun h7=>?_⟩,fun h6=>?_⟩
 ·have:a≠b:=fun e=>by subst e;simp at h7
  simp [this]
 ·refine Back.mk (j+1) ⟨by omega,fun i hi=>?_⟩ (by omega) (p0:=IntKind.wrap IntKind.i64 ((↑j:Int)+(1:Int))=(↑(j+(1:Nat)):Int)∧b.records=b.records∧b.messages=b.messages∧b.ready=b.ready∧b.lost=b.lost∧a.records=a.records∧a.messages=a.messages∧a.ready=a.ready∧a.lost=a.lost∧True) (by kernel_rfl) ?_
  ·by_cases hij:i=j
   ·subst hij;simpa using h7
   ·exact h0 i (by omega)
  ·simp [za8 (i:=j) (by omega)]
 ·have:a=b:=Out.eq_iff.2 ⟨e3,e4,zb7 hab fun i hi=>h0 i (by omega),e2⟩
  simp [this]
def zuH:Ent:=ent2 85 dOut dOut fun a b=>([],.bool (decide (a=b)),D2)
theorem zqX:zae Tryz.prog zuH:=zar (zmX default default).1 fun a b _=>zmX a b
theorem Node.eq_iff {a b:Node}:a=b↔a.id=b.id∧a.role=b.role∧a.kept=b.kept∧a.commit=b.commit∧a.lead=b.lead∧a.elapsed=b.elapsed∧a.yes=b.yes∧a.peers=b.peers∧a.round=b.round∧a.reads=b.reads:=by cases a;cases b;simp
def tabDb:List Ent:=[zra,zu5]
theorem zhE:∀ e∈tabDb,zae Tryz.prog e:=zaa zkh (zaa zq3 zad)
theorem zkt (a b:Node):FnC Tryz.prog 16 [dNode.can a,dNode.can b] (.bool (decide (a=b))) D2:=by
 refine FnC.g2 dNode dNode a b (fnB Tryz.func16 (by decide) rfl) fun ha hb=>?_
 refine FnG.of_vc (zah zhE fun _=>none) Tryz.func16 rfl (by decide) rfl 300 (p:=fun (V:List PE→Prop)=>let v0:=a.id != b.id;let v1:=zac v0 true (a.role != b.role);let v2:=zac v1 true (a.commit != b.commit);let v3:=zac v2 true (a.lead != b.lead);let v4:=zac v3 true (a.elapsed != b.elapsed);let v5:=zac v4 true (a.round != b.round);let v6:=zac v5 true !decide (a.yes=b.yes);let v7:=zac v6 true ((↑(a.peers.length):Int) != (↑(b.peers.length):Int));let v8:=zac v7 true ((↑(a.reads.length):Int) != (↑(b.reads.length):Int));let v9:=zac v8 true !decide (a.kept=b.kept);True∧(((!v0)=true→(!v0)=true)∧((!v0)=true→(!v0)=true)∧((!v0)=true→(!v0)=true)∧((!v0)=true→(!v0)=true)∧(v0=false→(!v0)=true)∧((!v1)=true→(!v1)=true)∧((!v1)=true→(!v1)=true)∧((!v1)=true→(!v1)=true)∧((!v1)=true→(!v1)=true)∧(v1=false→(!v1)=true)∧((!v2)=true→(!v2)=true)∧((!v2)=true→(!v2)=true)∧((!v2)=true→(!v2)=true)∧((!v2)=true→(!v2)=true)∧(v2=false→(!v2)=true)∧((!v3)=true→(!v3)=true)∧((!v3)=true→(!v3)=true)∧((!v3)=true→(!v3)=true)∧((!v3)=true→(!v3)=true)∧(v3=false→(!v3)=true)∧((!v4)=true→(!v4)=true)∧((!v4)=true→(!v4)=true)∧((!v4)=true→(!v4)=true)∧((!v4)=true→(!v4)=true)∧(v4=false→(!v4)=true)∧((!v5)=true→(!v5)=true)∧((!v5)=true→(!v5)=true)∧((!v5)=true→(!v5)=true)∧((!v5)=true→(!v5)=true)∧((!v5)=true→(!v5)=true)∧(v5=false→(!v5)=true)∧((!v6)=true→(!v6)=true)∧((!v6)=true→(!v6)=true)∧((!v6)=true→(!v6)=true)∧((!v6)=true→(!v6)=true)∧((!v6)=true→(!v6)=true)∧((!v6)=true→(!v6)=true)∧(v6=false→(!v6)=true)∧((!v7)=true→(!v7)=true)∧((!v7)=true→(!v7)=true)∧((!v7)=true→(!v7)=true)∧((!v7)=true→(!v7)=true)∧((!v7)=true→(!v7)=true)∧((!v7)=true→(!v7)=true)∧(v7=false→(!v7)=true)∧((!v8)=true→(!v8)=true)∧((!v8)=true→(!v8)=true)∧((!v8)=true→(!v8)=true)∧((!v8)=true→(!v8)=true)∧((!v8)=true→(!v8)=true)∧(v8=false→(!v8)=true)∧True)∧True∧(v9=true→True∧false=decide (a=b)∧True)∧(v9=false→True∧V [PE.b])) (by kernel_rfl) ?_
 simp only [qN0,qN2,qN27,true_and,and_true,imp_self,implies_true,zvz,zhO]
 refine ⟨fun h=>?_,fun h=>?_⟩
 ·have:a≠b:=fun e=>by subst e;simp at h
  simp [this]
 simp only [Bool.or_eq_false_iff,bne_eq_false_iff_eq,Bool.not_eq_false',decide_eq_true_eq] at h
 obtain ⟨⟨⟨⟨⟨⟨⟨⟨⟨e1,e2⟩,e3⟩,e4⟩,e5⟩,e6⟩,e7⟩,e8⟩,e9⟩,e10⟩:=h
 have hab:a.peers.length=b.peers.length:=by omega
 have hac:a.reads.length=b.reads.length:=by omega
 refine LoopG.head (zah zhE fun _=>none) 0 (A:=Nat) (fun j=>j≤a.peers.length∧∀ i,i<j→a.peers.getD i default=b.peers.getD i default) (fun j=>[(5,.int .i64 j)]) (fun j=>[]) (fun j=>a.peers.length-j) 0 ⟨Nat.zero_le _,fun i h=>absurd h (by omega)⟩ (p0:=(0:Int)=(↑(0:Nat):Int)∧qN0 b b (qN27 b b (qN0 a a (qN2 a a (a.reads=a.reads∧True))))) (by kernel_rfl) ?_ 300 (p:=fun (x:Nat) (V:List PE→Prop)=>let v1:=(↑x:Int);let v2:=(↑(a.peers.length):Int);let v3:=decide (v1<v2);let v4:=TypeInfo.size (Tables.types (Program.toTables Tryz.prog))[(94:Nat)];let v5:=!eqI (List.take v4 (List.drop (0:Nat) (RL.elem [(0:Nat)] (RL.rPeer a.peers) x))) (List.take v4 (List.drop (0:Nat) (RL.elem [(0:Nat)] (RL.rPeer b.peers) x)));True∧True∧(v3=true→((0:Int)≤v1∧v1<v2∧(0:Int)≤v1∧v1<(↑(b.peers.length):Int)∧True)∧True∧(v5=true→True∧false=decide (a=b)∧True)∧(v5=false→True∧V [PE.a,PE.b]))∧(v3=false→True∧V [PE.b])) (by intro x;kernel_rfl) ?_
 ·simp
 rintro j ⟨hj,h0⟩
 have hkl:=ha.peers.1
 have hkr:=ha.reads.1
 simp only [qN0,qN2,qN27,imp_self,implies_true,true_and,and_true,decide_eq_true_eq,decide_eq_false_iff_not]
 have hsz:TypeInfo.size ((Tables.types (Program.toTables Tryz.prog))[94]'(Nat.le_of_ble_eq_true (by kernel_rfl)))=4:=by kernel_rfl
 have eq:eqI (List.take 4 (List.drop 0 (RL.elem [0] (RL.rPeer a.peers) j))) (List.take 4 (List.drop 0 (RL.elem [0] (RL.rPeer b.peers) j)))=decide (a.peers.getD j default=b.peers.getD j default):=eqPr _ _
 rw [hsz,eq]
 simp only [qN0,qN2,qN27,imp_self,implies_true,true_and,and_true,Bool.not_eq_true',Bool.not_eq_false',decide_eq_true_eq,decide_eq_false_iff_not]
 refine ⟨fun h6=>⟨by omega,fun h7=>?_,fun h7=>?_⟩,fun h6=>?_⟩
 ·have:a≠b:=fun e=>by subst e;simp at h7
  simp [this]
 ·refine Back.mk (j+1) ⟨by omega,fun i hi=>?_⟩ (by omega) (p0:=IntKind.wrap IntKind.i64 ((↑j:Int)+(1:Int))=(↑(j+(1:Nat)):Int)∧qN0 b b (qN27 b b (qN0 a a (qN2 a a (a.reads=a.reads∧True))))) (by kernel_rfl) ?_
  ·by_cases hij:i=j
   ·subst hij;simpa using h7
   ·exact h0 i (by omega)
  ·simp [za8 (i:=j) (by omega)]
 have hpe:a.peers=b.peers:=zb7 hab fun i hi=>h0 i (by omega)
 refine LoopG.head (zah zhE fun _=>none) 1 (A:=Nat) (fun j=>j≤a.reads.length∧∀ i,i<j→a.reads.getD i default=b.reads.getD i default) (fun j=>[(6,.int .i64 j)]) (fun j=>[]) (fun j=>a.reads.length-j) 0 ⟨Nat.zero_le _,fun i h=>absurd h (by omega)⟩ (p0:=(0:Int)=(↑(0:Nat):Int)∧qN0 b b (qN27 b b (qN0 a a (qN2 a a (a.reads=a.reads∧True))))) (by kernel_rfl) ?_ 300 (p:=fun (x:Nat) (V:List PE→Prop)=>let v1:=(↑x:Int);let v2:=(↑(a.reads.length):Int);let v3:=decide (v1<v2);let v4:=TypeInfo.size (Tables.types (Program.toTables Tryz.prog))[(96:Nat)];let v5:=!eqI (List.take v4 (List.drop (0:Nat) (RL.elem [(0:Nat)] (RL.rRead a.reads) x))) (List.take v4 (List.drop (0:Nat) (RL.elem [(0:Nat)] (RL.rRead b.reads) x)));True∧True∧(v3=true→((0:Int)≤v1∧v1<v2∧(0:Int)≤v1∧v1<(↑(b.reads.length):Int)∧True)∧True∧(v5=true→True∧false=decide (a=b)∧True)∧(v5=false→True∧V [PE.a,PE.b]))∧(v3=false→True∧true=decide (a=b)∧True)) (by intro x;kernel_rfl) ?_
 ·simp
 clear eq h0 hj h6
 rintro j ⟨hj,h0⟩
 simp only [qN0,qN2,qN27,imp_self,implies_true,true_and,and_true,decide_eq_true_eq,decide_eq_false_iff_not]
 have hsz2:TypeInfo.size ((Tables.types (Program.toTables Tryz.prog))[96]'(Nat.le_of_ble_eq_true (by kernel_rfl)))=3:=by kernel_rfl
 have eq2:eqI (List.take 3 (List.drop 0 (RL.elem [0] (RL.rRead a.reads) j))) (List.take 3 (List.drop 0 (RL.elem [0] (RL.rRead b.reads) j)))=decide (a.reads.getD j default=b.reads.getD j default):=eqRd _ _
 rw [hsz2,eq2]
 simp only [qN0,qN2,qN27,imp_self,implies_true,true_and,and_true,Bool.not_eq_true',Bool.not_eq_false',decide_eq_true_eq,decide_eq_false_iff_not]
 refine ⟨fun h6=>⟨by omega,fun h7=>?_,fun h7=>?_⟩,fun h6=>?_⟩
 ·have:a≠b:=fun e=>by subst e;simp at h7
  simp [this]
 ·refine Back.mk (j+1) ⟨by omega,fun i hi=>?_⟩ (by omega) (p0:=IntKind.wrap IntKind.i64 ((↑j:Int)+(1:Int))=(↑(j+(1:Nat)):Int)∧qN0 b b (qN27 b b (qN0 a a (qN2 a a (a.reads=a.reads∧True))))) (by kernel_rfl) ?_
  ·by_cases hij:i=j
   ·subst hij;simpa using h7
   ·exact h0 i (by omega)
  ·simp [za8 (i:=j) (by omega)]
 ·have:a=b:=Node.eq_iff.2 ⟨e1,e2,e10,e3,e4,e5,e7,hpe,e6,zb7 hac fun i hi=>h0 i (by omega)⟩
  simp [this]
def zqZ:Ent:=ent2 16 dNode dNode fun a b=>([],.bool (decide (a=b)),D2)
theorem znK:zae Tryz.prog zqZ:=zar (zkt default default).1 fun a b _=>zkt a b
end Go.Proofs.YteabcgkjbnecaaaGreat
