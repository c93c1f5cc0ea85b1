/- Parts of the proof, joined: the symbolic walk and what it is told of each function. Condition: as each theorem says. -/
import Derived.Test.YteabcgkjbnecaaaGreatJx4
set_option linter.unusedVariables false
set_option linter.unusedSimpArgs false
set_option linter.unusedSectionVars false
namespace Go.Proofs.YteabcgkjbnecaaaGreat
open Go.RowKit Go.ChangeShapes Go.WideShapes Go.Deep
set_option maxRecDepth 100000
def eOwnEs:Ent:=ent1 124 dEntrys fun l=>([SmallL l],.own 2,[.dead,.dead,.row 89 [1] (.rEntry l)])
theorem smallL0:SmallL []:=⟨by decide,fun x h=>by cases h⟩
theorem eOwnEs_ok:EntOk Tryz.prog eOwnEs:=ent1_ok (ownEntries_fn [] smallL0).1 fun l h=>ownEntries_fn l (h _ (by simp))
structure SmallN (n:Node):Prop where
 k:SmallK n.kept
 yes:n.yes.length≤1000000
 peers:n.peers.length≤1000000
 reads:n.reads.length≤1000000
def Node.osvs (n:Node) (ls:List Nat) (e y p r:Nat):List SV:=
 [.int .i64 n.id,.int .i64 n.role,.int .i64 n.kept.term,.int .i64 n.kept.vote,.int .i64 n.kept.snap.index,.int .i64 n.kept.snap.term,.sl ls (.rInts n.kept.snap.config.voters),.sl ls (.rInts n.kept.snap.config.learners),.str n.kept.snap.data,.own e,.int .i64 n.commit,.int .i64 n.lead,.int .i64 n.elapsed,.own y,.own p,.int .i64 n.round,.own r]
def ownMo (n:Node):List BE:=[.dead,.dead,.row 89 [1] (.rEntry n.kept.entries),.row 3 [] (.rInts n.yes),.row 94 [] (.rPeer n.peers),.row 96 [] (.rRead n.reads)]
def tabN1:List Ent:=[eClSet,eClPeer,eClRead,eOwnSN,eOwnEs]
theorem tabN1_ok:∀ e∈tabN1,EntOk Tryz.prog e:=tab_cons eClSet_ok (tab_cons eClPeer_ok (tab_cons eClRead_ok (tab_cons eOwnSN_ok (tab_cons eOwnEs_ok tab_nil))))
theorem own_fn (n:Node) (hn:SmallN n):FnC Tryz.prog 53 [dNode.can n] (.agg (n.osvs [1] 2 3 4 5)) (ownMo n):=by
 refine FnG.of_vc (fitsT tabN1_ok fun _=>none) Tryz.func53 rfl (by decide) rfl 300 (p:=fun (V:List PE→Prop)=>let v0:=Node.yes n;let v1:=Node.kept n;let v2:=Node.reads n;let v3:=Node.peers n;let v4:=v1.snap;let v5:=v1.term;let v6:=v1.vote;let v7:=v1.entries;let v8:=v4.term;let v9:=v4.index;let v10:=v4.data;let v11:=v4.config;let v12:=v11.voters;let v13:=v11.learners;True∧(SmallC v11∧True)∧(SmallL v7∧True)∧(List.length v0≤(1000000:Nat)∧List.length v3≤(1000000:Nat)∧List.length v2≤(1000000:Nat)∧True)∧True∧Node.id n=Node.id n∧Node.role n=Node.role n∧v5=v5∧v6=v6∧v9=v9∧v8=v8∧v12=v12∧v13=v13∧v10=v10∧Node.commit n=Node.commit n∧Node.lead n=Node.lead n∧Node.elapsed n=Node.elapsed n∧Node.round n=Node.round n∧v7=v7∧v0=v0∧v3=v3∧v2=v2∧True) (by kernel_rfl) ?_
 simp only [imp_self,implies_true,true_and,and_true,pickB_f,pickB_t]
 exact ⟨hn.k.2,hn.k.1,hn.yes,hn.peers,hn.reads⟩
def eOwnN:Ent:=ent1 53 dNode fun n=>([SmallN n],.agg (n.osvs [1] 2 3 4 5),ownMo n)
theorem smallN0:SmallN default:=⟨smallK0,by decide,by decide,by decide⟩
theorem eOwnN_ok:EntOk Tryz.prog eOwnN:=ent1_ok (own_fn default smallN0).1 fun l h=>own_fn l (h _ (by simp))
def dRpInt:Dec Int where
 dec:=fun s=>match s with | .rp _ 3 [.int .i64 n] 0=>some n | _=>none
 can:=fun x=> .rp [0] 3 [.int .i64 x] 0
 Okp:=fun x=>True
 okp:=fun x E w v _=>trivial
 ok:=by
  intro s x h E w v hz hd
  split at h
  case h_2=>simp at h
  rename_i ls n
  simp only [Option.some.injEq] at h
  subst h
  obtain ⟨b,xs,hv,hb,hh,hl⟩:=hd
  exact ⟨b,xs,hv,hz.set hb,hh,hl⟩
def dCloW:Dec Int where
 dec:=fun s=>match s with | .clo 130 [t]=>dRpInt.dec t | _=>none
 can:=fun x=> .clo 130 [dRpInt.can x]
 Okp:=fun x=>True
 okp:=fun x E w v h=>trivial
 ok:=by
  intro s x h E w v hz hd
  split at h
  case h_2=>simp at h
  obtain ⟨xs,hv,hd⟩:=hd
  match xs,hd with
  | [u],hd=>exact ⟨[u],hv,dRpInt.ok _ _ h E w u hz hd.1,trivial⟩
def offB (most x:Int):Bool:=decide (x<0)||decide (x>most)
theorem within1_fn (x most:Int):FnC Tryz.prog 130 [dInt.can x,dRpInt.can most] (.bool (offB most x)) D2:=by
 refine FnG.of_vc (fitsT tab_nil fun _=>none) Tryz.func130 rfl (by decide) rfl 300 (p:=fun (V:List PE→Prop)=>let v0:=decide (x<(0:Int));True∧(((!v0)=true→(!v0)=true)∧((!v0)=true→(!v0)=true)∧(v0=false→(!v0)=true)∧True)∧pickB v0 true (decide (x>most))=offB most x∧True) (by kernel_rfl) ?_
 simp only [offB]
 cases h:decide (x<0)<;>simp [pickB]
def eWi1:Ent:=ent2 130 dInt dRpInt fun x m=>([],.bool (offB m x),D2)
theorem eWi1_ok:EntOk Tryz.prog eWi1:=ent2_ok (within1_fn 0 0).1 fun x m _=>within1_fn x m
theorem indexW_fn (l:List Int) (m:Int):FnC Tryz.prog 180 [dInts.can l,dCloW.can m] (.int .i64 (firstI (offB m) l)) D2:=by
 refine FnC.g2 dInts dCloW l m (fnB Tryz.func180 (by decide) rfl) fun hl _=>?_
 refine FnG.of_vc (fitsT (tab_cons eWi1_ok tab_nil) fun _=>none) Tryz.func180 rfl (by decide) rfl 300 (p:=fun (V:List PE→Prop)=>True∧True∧V []) (by kernel_rfl) ?_
 simp only [true_and,and_true]
 refine LoopG.head (fitsT (tab_cons eWi1_ok tab_nil) fun _=>none) 0 (A:=Nat) (fun j=>j≤l.length∧∀ i,i<j→offB m (l.getD i 0)=false) (fun j=>[(8,.int .i64 j)]) (fun _=>[]) (fun j=>l.length - j) 0 ⟨Nat.zero_le _,fun i h=>absurd h (by omega)⟩ (p0:=let v0:=(↑(List.length l):Int);(0:Int)=(↑(0:Nat):Int)∧v0=v0∧l=l∧m=m∧True) (by kernel_rfl) ?_ 300 (p:=fun (x:Nat) (V:List PE→Prop)=>let v0:=firstI (offB m) l;let v1:=(↑x:Int);let v2:=(↑(List.length l):Int);let v3:=offB m (List.getD l x (0:Int));let v4:=decide (v1<v2);True∧True∧(v4=true→True∧((0:Int)≤v1∧v1<v2∧True)∧True∧(v3=true→True∧v1=v0∧True)∧(v3=false→True∧V [PE.a,PE.b]))∧(v4=false→True∧(-1:Int)=v0∧True)) (by intro x;kernel_rfl) ?_
 ·simp
 ·rintro j ⟨hj,h0⟩
  have hl44:=hl.1
  simp only [true_and,and_true,decide_eq_true_eq,decide_eq_false_iff_not]
  refine ⟨fun h1=>⟨by omega,fun h2=>?_,fun h2=>?_⟩,fun h1=>?_⟩
  ·exact (firstI_hit (by omega) h0 h2).symm
  ·refine Back.mk (j+1) ⟨by omega,fun i hi=>?_⟩ (by omega) (p0:=let v0:=(↑(List.length l):Int);IntKind.wrap IntKind.i64 ((↑j:Int)+(1:Int))=(↑(j+(1:Nat)):Int)∧v0=v0∧l=l∧m=m∧True) (by kernel_rfl) ?_
   ·by_cases h:i=j
    ·subst h;exact h2
    ·exact h0 i (by omega)
   ·simp [wrapN (i:=j) (by omega)]
  ·exact (firstI_miss fun i hi=>h0 i (by omega)).symm
def eIdxW:Ent:=ent2 180 dInts dCloW fun l m=>([],.int .i64 (firstI (offB m) l),D2)
theorem eIdxW_ok:EntOk Tryz.prog eIdxW:=ent2_ok (indexW_fn [] 0).1 fun l m _=>indexW_fn l m
theorem contW_fn (l:List Int) (m:Int):FnC Tryz.prog 129 [dInts.can l,dCloW.can m] (.bool (l.any (offB m))) D2:=by
 refine FnG.of_vc (fitsT (tab_cons eIdxW_ok tab_nil) fun _=>none) Tryz.func129 rfl (by decide) rfl 300 (p:=fun (V:List PE→Prop)=>let v0:=firstI (offB m) l;True∧True∧decide (v0≥(0:Int))=List.any l (offB m)∧True) (by kernel_rfl) ?_
 simp only [true_and,and_true]
 exact firstI_ge l
def eContW:Ent:=ent2 129 dInts dCloW fun l m=>([],.bool (l.any (offB m)),D2)
theorem eContW_ok:EntOk Tryz.prog eContW:=ent2_ok (contW_fn [] 0).1 fun l m _=>contW_fn l m
theorem within_fn (m:Int) (l:List Int):FnC Tryz.prog 56 [dInt.can m,dInts.can l] (.bool (!l.any (offB m))) D2:=by
 refine FnG.of_vc (fitsT (tab_cons eContW_ok tab_nil) fun _=>none) Tryz.func56 rfl (by decide) rfl 300 (p:=fun (V:List PE→Prop)=>let v0:=!List.any l (offB m);True∧True∧v0=v0∧True) (by kernel_rfl) ?_
 simp
def eWithin:Ent:=ent2 56 dInt dInts fun m l=>([],.bool (!l.any (offB m)),D2)
theorem eWithin_ok:EntOk Tryz.prog eWithin:=ent2_ok (within_fn 0 []).1 fun m l _=>within_fn m l
def confC (n:Node):Config:=(configC n.kept (lastC n.kept).1).1
theorem cfgR_small {k:Kept} (h:SmallK k) (i:Int):SmallC (cfgR k i).1:=by
 unfold cfgR
 split
 ·rename_i e he
  exact h.1.2 e (by have:=List.mem_of_find?_eq_some he;simpa using this)
 ·exact h.2
theorem configC_small {k:Kept} (h:SmallK k) (i:Int):SmallC (configC k i).1:=by
 unfold configC
 split
 ·exact cfgR_small h i
 ·exact ⟨Nat.zero_le _,Nat.zero_le _⟩
theorem confC_small {n:Node} (h:SmallN n):SmallC (confC n):=configC_small h.k _
def tabN2:List Ent:=[eLastC,eConf,eRLastC,eRConf]
theorem tabN2_ok:∀ e∈tabN2,EntOk Tryz.prog e:=tab_cons eLastC_ok (tab_cons eConf_ok (tab_cons eRLastC_ok (tab_cons eRConf_ok tab_nil)))
theorem config_fn (n:Node) (hn:SmallN n):FnC Tryz.prog 77 [dNode.can n] (.agg ((confC n).svs [1])) D2:=by
 refine FnG.of_vc (fitsT tabN2_ok fun _=>none) Tryz.func77 rfl (by decide) rfl 300 (p:=fun (V:List PE→Prop)=>let v0:=Node.kept n;let v1:=Prod.fst (configC v0 (Prod.fst (lastC v0)));True∧True∧(SmallK v0∧True)∧True∧v1.voters=Config.voters (confC n)∧v1.learners=Config.learners (confC n)∧True) (by kernel_rfl) ?_
 simp only [imp_self,implies_true,true_and,and_true,pickB_f,pickB_t]
 exact ⟨hn.k,rfl,rfl⟩
theorem rconfigN_fn (n:Node) (hn:SmallN n):FnC Tryz.prog 143 [dNode.can n] (.agg ((confC n).svs [1])) D2:=by
 refine FnG.of_vc (fitsT tabN2_ok fun _=>none) Tryz.func143 rfl (by decide) rfl 300 (p:=fun (V:List PE→Prop)=>let v0:=Node.kept n;let v1:=Prod.fst (configC v0 (Prod.fst (lastC v0)));True∧True∧(SmallK v0∧True)∧True∧v1.voters=Config.voters (confC n)∧v1.learners=Config.learners (confC n)∧True) (by kernel_rfl) ?_
 simp only [imp_self,implies_true,true_and,and_true,pickB_f,pickB_t]
 exact ⟨hn.k,rfl,rfl⟩
def eConfN:Ent:=ent1 77 dNode fun n=>([SmallN n],.agg ((confC n).svs [1]),D2)
theorem eConfN_ok:EntOk Tryz.prog eConfN:=ent1_ok (config_fn default smallN0).1 fun l h=>config_fn l (h _ (by simp))
def eRConfN:Ent:=ent1 143 dNode fun n=>([SmallN n],.agg ((confC n).svs [1]),D2)
theorem eRConfN_ok:EntOk Tryz.prog eRConfN:=ent1_ok (rconfigN_fn default smallN0).1 fun l h=>rconfigN_fn l (h _ (by simp))
def othersC (n:Node):List Int:=dropL (allC (confC n)) n.id
theorem allC_asc (c:Config):Asc (allC c)∧(allC c).length≤16:=by
 unfold allC
 split
 ·rename_i h
  have h2:=h
  unfold mayC at h2
  simp only [Bool.and_eq_true] at h2
  refine ⟨putAll_asc (isC_iff.1 h2.1.1.1.1).1,?_⟩
  have:=may_both h
  unfold bothC at this
  split at this
  ·split at this
   ·assumption
   ·simp at this
  ·simp at this
 ·exact ⟨List.Pairwise.nil,by simp⟩
theorem isC_allC (c:Config):isC (allC c)=true:=isC_iff.2 (allC_asc c)
noncomputable def tabN3:List Ent:=[eConfN,eRConfN,eAll,eRAll,eWithout,eDrop]
theorem tabN3_ok:∀ e∈tabN3,EntOk Tryz.prog e:=tab_cons eConfN_ok (tab_cons eRConfN_ok (tab_cons eAll_ok (tab_cons eRAll_ok (tab_cons eWithout_ok (tab_cons eDrop_ok tab_nil)))))
theorem others_fn (n:Node) (hn:SmallN n):FnC Tryz.prog 61 [dNode.can n] (.sl [1] (.rInts (othersC n))) D2:=by
 refine FnG.of_vc (fitsT tabN3_ok fun _=>none) Tryz.func61 rfl (by decide) rfl 300 (p:=fun (V:List PE→Prop)=>True∧(SmallN n∧SmallC (confC n)∧List.length (allC (confC n))≤(1000000:Nat)∧True)∧True∧withoutC (allC (confC n)) (Node.id n)=othersC n∧True) (by kernel_rfl) ?_
 simp only [imp_self,implies_true,true_and,and_true,pickB_f,pickB_t]
 have:=(allC_asc (confC n)).2
 refine ⟨⟨hn,confC_small hn,by omega⟩,?_⟩
 rw [withoutC,isC_allC];rfl
theorem rothers_fn (n:Node) (hn:SmallN n):FnC Tryz.prog 119 [dNode.can n] (.sl [1] (.rInts (othersC n))) D2:=by
 refine FnG.of_vc (fitsT tabN3_ok fun _=>none) Tryz.func119 rfl (by decide) rfl 300 (p:=fun (V:List PE→Prop)=>True∧(SmallN n∧SmallC (confC n)∧List.length (allC (confC n))≤(1000000:Nat)∧True)∧dropL (allC (confC n)) (Node.id n)=othersC n∧True) (by kernel_rfl) ?_
 simp only [imp_self,implies_true,true_and,and_true,pickB_f,pickB_t]
 have:=(allC_asc (confC n)).2
 exact ⟨⟨hn,confC_small hn,by omega⟩,rfl⟩
def eOth:Ent:=ent1 61 dNode fun n=>([SmallN n],.sl [1] (.rInts (othersC n)),D2)
theorem eOth_ok:EntOk Tryz.prog eOth:=ent1_ok (others_fn default smallN0).1 fun l h=>others_fn l (h _ (by simp))
def eROth:Ent:=ent1 119 dNode fun n=>([SmallN n],.sl [1] (.rInts (othersC n)),D2)
theorem eROth_ok:EntOk Tryz.prog eROth:=ent1_ok (rothers_fn default smallN0).1 fun l h=>rothers_fn l (h _ (by simp))
theorem equalS_fn (a b:List Int):FnC Tryz.prog 60 [dInts.can a,dInts.can b] (.bool (decide (a=b))) D2:=by
 refine FnC.g2 dInts dInts a b (fnB Tryz.func60 (by decide) rfl) fun ha hb=>?_
 refine FnG.of_vc (fitsT tab_nil fun _=>none) Tryz.func60 rfl (by decide) rfl 300 (p:=fun (V:List PE→Prop)=>let v0:=(↑(List.length a):Int) != (↑(List.length b):Int);True∧True∧True∧(v0=true→True∧false=decide (a=b)∧True)∧(v0=false→True∧V [PE.b])) (by kernel_rfl) ?_
 simp only [true_and,and_true,imp_self]
 refine ⟨fun h=>?_,fun h=>?_⟩
 ·have:a≠b:=fun e=>by subst e;simp at h
  simp [this]
 have hab:a.length=b.length:=by simp at h;omega
 refine LoopG.head (fitsT tab_nil fun _=>none) 0 (A:=Nat) (fun j=>j≤a.length∧∀ i,i<j→a.getD i 0=b.getD i 0) (fun j=>[(13,.int .i64 j)]) (fun j=>[]) (fun j=>a.length - j) 0 ⟨Nat.zero_le _,fun i h=>absurd h (by omega)⟩ (p0:=let v0:=(↑(List.length a):Int);(0:Int)=(↑(0:Nat):Int)∧v0=v0∧a=a∧b=b∧True) (by kernel_rfl) ?_ 300 (p:=fun (x:Nat) (V:List PE→Prop)=>let v0:=(↑x:Int);let v1:=(↑(List.length a):Int);let v2:=List.getD a x (0:Int) != List.getD b x (0:Int);let v3:=decide (v0<v1);True∧True∧(v3=true→True∧((0:Int)≤v0∧v0<v1∧(0:Int)≤v0∧v0<(↑(List.length b):Int)∧True)∧True∧(v2=true→True∧false=decide (a=b)∧True)∧(v2=false→True∧V [PE.a,PE.b]))∧(v3=false→True∧true=decide (a=b)∧True)) (by intro x;kernel_rfl) ?_
 ·simp
 ·rintro j ⟨hj,h0⟩
  have hkl:=ha.1
  simp only [imp_self,implies_true,true_and,and_true,decide_eq_true_eq,decide_eq_false_iff_not]
  refine ⟨fun h6=>⟨by omega,fun h7=>?_,fun h7=>?_⟩,fun h6=>?_⟩
  ·have:a≠b:=fun e=>by subst e;simp at h7
   simp [this]
  ·refine Back.mk (j+1) ⟨by omega,fun i hi=>?_⟩ (by omega) (p0:=let v0:=(↑(List.length a):Int);IntKind.wrap IntKind.i64 ((↑j:Int)+(1:Int))=(↑(j+(1:Nat)):Int)∧v0=v0∧a=a∧b=b∧True) (by kernel_rfl) ?_
   ·by_cases hij:i=j
    ·subst hij;simpa using h7
    ·exact h0 i (by omega)
   ·simp [wrapN (i:=j) (by omega)]
  ·have:a=b:=ext_getD hab fun i hi=>h0 i (by omega)
   simp [this]
def eEqS:Ent:=ent2 60 dInts dInts fun a b=>([],.bool (decide (a=b)),D2)
theorem eEqS_ok:EntOk Tryz.prog eEqS:=ent2_ok (equalS_fn [] []).1 fun a b _=>equalS_fn a b
def wi (m x:Int):Bool:=decide (0≤x)&&decide (x≤m)
theorem offB_wi (m x:Int):offB m x=!wi m x:=by
 unfold offB wi
 by_cases h1:0≤x<;>by_cases h2:x≤m<;>simp [h1,h2]<;>omega
def peerB (last round:Int) (p:Peer):Bool:=wi last p.match_&&decide (p.next>p.match_)&&decide (IntKind.i64.wrap (p.next - 1)≤last)&&wi round p.round
def peersB (n:Node):Bool:=decide (n.peers.map (·.node)=othersC n)&&decide (n.reads.length≤100)&&n.peers.all (peerB (lastC n.kept).1 n.round)
def confsB (k:Kept):Bool:=k.entries.all (fun e=>!(e.kind==2)||mayC e.config)&&mayC k.snap.config
def numsB (n:Node):Bool:=
 wi 4 (IntKind.i64.wrap (n.id - 1))&&decide (1≤n.role)&&decide (n.role≤4)&&decide (n.kept.entries.length≤9000)&&onC n.kept &&
 wi 900000000 n.kept.term&&wi 900000000 n.kept.vote&&wi 900000000 n.round&&wi 900000000 n.lead&&wi 900000000 (lastC n.kept).1&&wi 1000 n.elapsed &&
 decide (n.kept.snap.index≤n.commit)&&decide (n.commit≤(lastC n.kept).1)&&isC n.yes&&n.yes.all (fun y=>wi 4 (IntKind.i64.wrap (y - 1)))
def rightC (n:Node):Bool:=numsB n&&confsB n.kept&&(if n.role=4 then peersB n else decide (n.peers=[])&&decide (n.reads=[]))
def cfE (e:Entry):Bool:=!(e.kind==2)||mayC e.config
def okA0 (n:Node):Bool:=
 wi 4 (IntKind.i64.wrap (n.id - 1))&&decide (1≤n.role)&&decide (n.role≤4)&&decide (n.kept.entries.length≤9000)&&onC n.kept &&
 wi 900000000 n.kept.term&&wi 900000000 n.kept.vote&&wi 900000000 n.round&&wi 900000000 n.lead&&wi 900000000 (lastC n.kept).1&&wi 1000 n.elapsed &&
 decide (n.kept.snap.index≤n.commit)&&decide (n.commit≤(lastC n.kept).1)&&isC n.yes&&mayC n.kept.snap.config
theorem all_snoc {α:Type} {d:α} {l:List α} {j:Nat} (f:α→Bool) (h:j<l.length):(l.take (j+1)).all f=((l.take j).all f&&f (l.getD j d)):=by
 rw [take_snoc (d:=d) h,List.all_append];simp
theorem right_eq (n:Node) (hl:n.peers.length+n.reads.length≤9000000000):rightC n=((okA0 n&&n.kept.entries.all cfE&&n.yes.all (fun y=>wi 4 (IntKind.i64.wrap (y - 1)))&&n.peers.all (peerB (lastC n.kept).1 n.round)) &&
  ((!(n.role==4)||decide (n.peers.map (fun x=>x.node)=othersC n))&&((n.role==4)||!decide (IntKind.i64.wrap ((n.peers.length:Int)+(n.reads.length:Int))>0))&&!decide ((n.reads.length:Int)>100))):=by
 have hc:confsB n.kept=(n.kept.entries.all cfE&&mayC n.kept.snap.config):=rfl
 rw [rightC,hc,numsB,okA0,wrapI (n:=(n.peers.length:Int)+(n.reads.length:Int)) ⟨by omega,by omega⟩]
 have h100:(!decide ((n.reads.length:Int)>100))=decide (n.reads.length≤100):=by rw [Bool.eq_iff_iff];simp;omega
 rw [h100]
 have ew:(!decide ((n.peers.length:Int)+(n.reads.length:Int)>0))=(decide (n.peers=[])&&decide (n.reads=[])):=by
  rw [Bool.eq_iff_iff]
  simp only [Bool.not_eq_true',decide_eq_false_iff_not,Bool.and_eq_true,decide_eq_true_eq,← List.length_eq_zero_iff]
  omega
 rw [ew]
 by_cases hr:n.role=4
 ·have hr2:(n.role==4)=true:=by simpa using hr
  rw [if_pos hr,hr2,peersB]
  simp only [Bool.not_true,Bool.false_or,Bool.true_or,Bool.and_true]
  generalize mayC n.kept.snap.config=x1
  generalize n.kept.entries.all cfE=x2
  generalize n.peers.all (peerB (lastC n.kept).1 n.round)=x3
  generalize n.yes.all (fun y=>wi 4 (IntKind.i64.wrap (y - 1)))=x4
  generalize decide (n.reads.length≤100)=x5
  simp only [Bool.and_assoc]
  cases x1<;>cases x2<;>cases x3<;>cases x4<;>cases x5<;>simp [Bool.and_assoc]
 ·have hr2:(n.role==4)=false:=by simpa using hr
  rw [if_neg hr,hr2]
  by_cases hp:n.peers=[]
  ·by_cases hq:n.reads=[]
   ·rw [hp,hq]
    generalize mayC n.kept.snap.config=x1
    generalize n.kept.entries.all cfE=x2
    generalize n.yes.all (fun y=>wi 4 (IntKind.i64.wrap (y - 1)))=x4
    cases x1<;>cases x2<;>cases x4<;>simp [Bool.and_assoc]
   ·simp [hq]
  ·simp [hp]
def errC (n:Node):Int:=if rightC n then 0 else 1
noncomputable def tabP:List Ent:=[eLastC,eWithin,eCheckC,eIs,eMCheck,eOth,eEqS]
theorem tabP_ok:∀ e∈tabP,EntOk Tryz.prog e:=tab_cons eLastC_ok (tab_cons eWithin_ok (tab_cons eCheckC_ok (tab_cons eIs_ok (tab_cons eMCheck_ok (tab_cons eOth_ok (tab_cons eEqS_ok tab_nil))))))
theorem check18_fn (n:Node) (hn:SmallN n):FnC Tryz.prog 18 [dNode.can n] (.int .i64 (errC n)) D2:=by
 refine FnC.g1 dNode n (fnB Tryz.func18 (by decide) rfl) fun hk=>?_
 refine FnG.of_vc (fitsT tabP_ok fun _=>none) Tryz.func18 rfl (by decide) rfl 300 (p:=fun (V:List PE→Prop)=>let v0:=Node.role n;let v1:=Node.kept n;let v2:=Node.commit n;let v3:=v1.snap;let v4:=v3.index;let v5:=Prod.fst (lastC v1);let v6:=(↑(List.length (v1.entries)):Int);let v7:=[IntKind.wrap IntKind.i64 (Node.id n - (1:Int))];let v8:=!List.any v7 (offB (4:Int));let v9:=pickB v8 (decide (v0≥(1:Int))) false;let v10:=pickB v9 (decide (v0≤(4:Int))) false;let v11:=[v1.term]++[v1.vote]++[Node.round n]++[Node.lead n]++[v5];let v12:=pickB v10 (decide (v6≤(9000:Int))) false;let v13:=pickB v12 (err (onC v1)==(0:Int)) false;let v14:=pickB v13 (!List.any v11 (offB (900000000:Int))) false;let v15:=pickB v14 (!List.any [Node.elapsed n] (offB (1000:Int))) false;let v16:=pickB v15 (decide (v2≥v4)) false;let v17:=pickB v16 (decide (v2≤v5)) false;True∧True∧(List.length v7≤(17592186044416:Nat)∧(v8=true→v8=true)∧(v8=true→v8=true)∧(v8=true→v8=true)∧(v9=true→v9=true)∧(v9=true→v9=true)∧(v9=true→v9=true)∧(v10=true→v10=true)∧(v10=true→v10=true)∧(v10=true→v10=true)∧(v10=true→v10=true)∧(v10=true→v10=true)∧True)∧((v12=true→v12=true)∧(v12=true→v12=true)∧(v12=true→v12=true)∧(v12=true→v12=true)∧(v13=true→v13=true)∧(v13=true→v13=true)∧(v13=true→v13=true)∧(v13=true→v13=true)∧(v13=true→v13=true)∧(v13=true→v13=true)∧(v13=true→List.length v11≤(17592186044416:Nat))∧(v13=true→v13=true)∧(v13=true→v13=true)∧(v13=true→v13=true)∧(v13=true→v13=true)∧(v13=true→v13=true)∧(v13=true→v13=true)∧(v13=true→v13=true)∧(v14=true→v14=true)∧(v14=true→List.length [Node.elapsed n]≤(17592186044416:Nat))∧(v14=true→v14=true)∧(v14=true→v14=true)∧(v14=true→v14=true)∧True)∧((v15=true→v15=true)∧(v15=true→v15=true)∧(v15=true→v15=true)∧(v15=true→v15=true)∧(v15=true→v15=true)∧(v15=true→v15=true)∧(v15=true→v15=true)∧(v16=true→v16=true)∧(v16=true→v16=true)∧(v16=true→v16=true)∧(v16=true→v16=true)∧(v17=true→v17=true)∧(v17=true→v17=true)∧(v17=true→v17=true)∧(pickB v17 (isC (Node.yes n)) false=true→pickB v17 (isC (Node.yes n)) false=true)∧(pickB v17 (isC (Node.yes n)) false=true→pickB v17 (isC (Node.yes n)) false=true)∧(pickB v17 (isC (Node.yes n)) false=true→pickB v17 (isC (Node.yes n)) false=true)∧(pickB v17 (isC (Node.yes n)) false=true→pickB v17 (isC (Node.yes n)) false=true)∧(pickB v17 (isC (Node.yes n)) false=true→SmallC (v3.config))∧(pickB v17 (isC (Node.yes n)) false=true→pickB v17 (isC (Node.yes n)) false=true)∧(pickB v17 (isC (Node.yes n)) false=true→pickB v17 (isC (Node.yes n)) false=true)∧True)∧True∧V []) (by kernel_rfl) ?_
 simp only [imp_self,implies_true,true_and,and_true,pickB_f,pickB_t]
 refine ⟨by simp,⟨fun _=>by simp,fun _=>by simp⟩,fun _=>hn.k.2,?_⟩
 obtain ⟨okA,hA⟩:∃ b,b=okA0 n:=⟨_,rfl⟩
 refine LoopG.head (fitsT tabP_ok fun _=>none) 0 (A:=Nat) (fun j=>j≤n.kept.entries.length) (fun j=>[(102,.int .i64 j),(5,.bool (okA&&(n.kept.entries.take j).all cfE))]) (fun _=>[]) (fun j=>n.kept.entries.length - j) 0 (Nat.zero_le _) (p0:=let v0:=Node.role n;let v1:=Node.commit n;let v2:=Node.elapsed n;let v3:=Node.lead n;let v4:=Node.yes n;let v5:=Node.round n;let v6:=Node.kept n;let v7:=v6.entries;let v8:=v6.term;let v9:=v6.snap;let v10:=v6.vote;let v11:=v9.index;let v12:=v9.config;let v13:=v9.term;let v14:=v9.data;let v15:=v12.voters;let v16:=v12.learners;let v17:=(0:Int);let v18:=Prod.fst (lastC v6);let v19:=(↑(List.length v7):Int);v17=(↑(0:Nat):Int)∧pickB (pickB (pickB (pickB (pickB (pickB (pickB (pickB (pickB (pickB (!List.any [IntKind.wrap IntKind.i64 (Node.id n - (1:Int))] (offB (4:Int))) (decide (v0≥(1:Int))) false) (decide (v0≤(4:Int))) false) (decide (v19≤(9000:Int))) false) (err (onC v6)==v17) false) (!List.any ([v8]++[v10]++[v5]++[v3]++[v18]) (offB (900000000:Int))) false) (!List.any [v2] (offB (1000:Int))) false) (decide (v1≥v11)) false) (decide (v1≤v18)) false) (isC v4) false) (errM (mayC v12)==v17) false=(okA&&List.all (List.take (0:Nat) v7) cfE)∧v19=v19∧v7=v7∧v18=v18∧v17=v17∧Node.id n=Node.id n∧v0=v0∧v8=v8∧v10=v10∧v11=v11∧v13=v13∧v15=v15∧v16=v16∧v14=v14∧v7=v7∧v1=v1∧v3=v3∧v2=v2∧v4=v4∧Node.peers n=Node.peers n∧v5=v5∧Node.reads n=Node.reads n∧True) (by kernel_rfl) ?_ 300 (p:=fun (x:Nat) (V:List PE→Prop)=>let v0:=Kept.entries (Node.kept n);let v1:=(↑x:Int);let v2:=(↑(List.length v0):Int);let v3:=List.getD v0 x default;let v4:=okA&&List.all (List.take x v0) cfE;let v5:=v3.kind != (2:Int);let v6:=decide (v1<v2);True∧True∧(v6=true→((0:Int)≤v1∧v1<v2∧True)∧((v4=true→v4=true)∧(v4=true→v4=true)∧(v4=true→v4=true)∧((v4&&!v5)=true→(v4&&!v5)=true)∧((v4&&!v5)=true→(v4&&!v5)=true)∧((v4&&!v5)=true→SmallC (v3.config))∧((v4&&!v5)=true→(v4&&!v5)=true)∧(v4=true→v4=true)∧(v4=true→v5=false→(v4&&!v5)=true)∧(v4=true→v4=true)∧True)∧True∧V [PE.a])∧(v6=false→True∧V [PE.b])) (by intro x;kernel_rfl) ?_
 ·have hb:∀ (b:Bool),(errM b==(0:Int))=b:=fun b=>by cases b<;>rfl
  have hb2:∀ (b:Bool),(err b==(0:Int))=b:=fun b=>by cases b<;>rfl
  have e1:(!List.any [IntKind.i64.wrap (n.id - 1)] (offB 4))=wi 4 (IntKind.i64.wrap (n.id - 1)):=by simp [offB_wi]
  have e2:(!List.any ([n.kept.term]++[n.kept.vote]++[n.round]++[n.lead]++[(lastC n.kept).1]) (offB 900000000))=(wi 900000000 n.kept.term&&wi 900000000 n.kept.vote&&wi 900000000 n.round&&wi 900000000 n.lead&&wi 900000000 (lastC n.kept).1):=by simp [offB_wi,Bool.and_assoc]
  have e3:(!List.any [n.elapsed] (offB 1000))=wi 1000 n.elapsed:=by simp [offB_wi]
  have e4:decide ((n.kept.entries.length:Int)≤9000)=decide (n.kept.entries.length≤9000):=by rw [Bool.eq_iff_iff,decide_eq_true_eq,decide_eq_true_eq];omega
  simp only [hb,hb2,e1,e2,e3,e4,hA,okA0,GE.ge,List.take_zero,List.all_nil,Bool.and_true,and_true,true_and,pickB_f]
  refine ⟨rfl,?_⟩
  have pb:∀ a b:Bool,pickB a b false=(a&&b):=fun a b=>by cases a<;>rfl
  simp only [pb,Bool.and_assoc]
 rintro j hj
 have hkl:=hk.kept_entries.1
 simp only [imp_self,implies_true,true_and,and_true,decide_eq_true_eq,decide_eq_false_iff_not]
 have hb:∀ (b:Bool),(errM b==(0:Int))=b:=fun b=>by cases b<;>rfl
 have pb:∀ a b:Bool,pickB a b false=(a&&b):=fun a b=>by cases a<;>rfl
 have pt:∀ a b:Bool,pickB a true b=(a||b):=fun a b=>by cases a<;>rfl
 refine ⟨fun h6=>?_,fun h6=>?_⟩
 ·have hse:=hn.k.1.2 _ (getD_mem (d:=(default:Entry)) (show j<n.kept.entries.length by omega))
  refine ⟨by omega,⟨fun _=>hse,fun g1 g2=>by rw [g1,g2];rfl⟩,?_⟩
  refine Back.mk (j+1) (by omega) (by omega) (p0:=let v0:=Node.kept n;let v1:=v0.entries;let v2:=v0.vote;let v3:=v0.term;let v4:=v0.snap;let v5:=v4.index;let v6:=v4.config;let v7:=v4.data;let v8:=v4.term;let v9:=v6.voters;let v10:=v6.learners;let v11:=Prod.fst (lastC v0);let v12:=(↑(List.length v1):Int);let v13:=List.getD v1 j default;IntKind.wrap IntKind.i64 ((↑j:Int)+(1:Int))=(↑(j+(1:Nat)):Int)∧pickB (okA&&List.all (List.take j v1) cfE) (pickB (v13.kind != (2:Int)) true (errM (mayC (v13.config))==(0:Int))) false=(okA&&List.all (List.take (j+(1:Nat)) v1) cfE)∧v12=v12∧v1=v1∧v11=v11∧(0:Int)=(0:Int)∧Node.id n=Node.id n∧Node.role n=Node.role n∧v3=v3∧v2=v2∧v5=v5∧v8=v8∧v9=v9∧v10=v10∧v7=v7∧v1=v1∧Node.commit n=Node.commit n∧Node.lead n=Node.lead n∧Node.elapsed n=Node.elapsed n∧Node.yes n=Node.yes n∧Node.peers n=Node.peers n∧Node.round n=Node.round n∧Node.reads n=Node.reads n∧True) (by kernel_rfl) ?_
  simp only [true_and,and_true,wrapN (i:=j) (by omega),hb,pb,pt]
  refine ⟨by omega,?_⟩
  rw [all_snoc (d:=default) _ (by omega),cfE]
  simp only [bne,Bool.and_assoc]
 obtain rfl:j=n.kept.entries.length:=by omega
 rw [List.take_length]
 obtain ⟨okB,hB⟩:∃ b,n.kept.entries.all cfE=b:=⟨_,rfl⟩
 rw [hB]
 refine LoopG.head (fitsT tabP_ok fun _=>none) 1 (A:=Nat) (fun j=>j≤n.yes.length) (fun j=>[(122,.int .i64 j),(5,.bool (okA&&okB&&(n.yes.take j).all (fun y=>wi 4 (IntKind.i64.wrap (y - 1)))))]) (fun _=>[]) (fun j=>n.yes.length - j) 0 (Nat.zero_le _) (p0:=let v0:=Node.kept n;let v1:=Node.yes n;let v2:=v0.entries;let v3:=v0.term;let v4:=v0.vote;let v5:=v0.snap;let v6:=v5.term;let v7:=v5.config;let v8:=v5.data;let v9:=v5.index;let v10:=v7.voters;let v11:=v7.learners;let v12:=Prod.fst (lastC v0);let v13:=(↑(List.length v1):Int);(0:Int)=(↑(0:Nat):Int)∧(okA&&okB)=(okA&&okB&&List.all (List.take (0:Nat) v1) fun (y:Int)=>wi (4:Int) (IntKind.wrap IntKind.i64 (y - (1:Int))))∧v13=v13∧v1=v1∧v12=v12∧(0:Int)=(0:Int)∧Node.id n=Node.id n∧Node.role n=Node.role n∧v3=v3∧v4=v4∧v9=v9∧v6=v6∧v10=v10∧v11=v11∧v8=v8∧v2=v2∧Node.commit n=Node.commit n∧Node.lead n=Node.lead n∧Node.elapsed n=Node.elapsed n∧v1=v1∧Node.peers n=Node.peers n∧Node.round n=Node.round n∧Node.reads n=Node.reads n∧True) (by kernel_rfl) ?_ 300 (p:=fun (x:Nat) (V:List PE→Prop)=>let v0:=Node.yes n;let v1:=(↑x:Int);let v2:=(↑(List.length v0):Int);let v3:=decide (v1<v2);True∧True∧(v3=true→((0:Int)≤v1∧v1<v2∧True)∧(((okA&&okB&&List.all (List.take x v0) fun (y:Int)=>wi (4:Int) (IntKind.wrap IntKind.i64 (y - (1:Int))))=true→(okA&&okB&&List.all (List.take x v0) fun (y:Int)=>wi (4:Int) (IntKind.wrap IntKind.i64 (y - (1:Int))))=true)∧((okA&&okB&&List.all (List.take x v0) fun (y:Int)=>wi (4:Int) (IntKind.wrap IntKind.i64 (y - (1:Int))))=true→List.length [IntKind.wrap IntKind.i64 (List.getD v0 x (0:Int) - (1:Int))]≤(17592186044416:Nat))∧((okA&&okB&&List.all (List.take x v0) fun (y:Int)=>wi (4:Int) (IntKind.wrap IntKind.i64 (y - (1:Int))))=true→(okA&&okB&&List.all (List.take x v0) fun (y:Int)=>wi (4:Int) (IntKind.wrap IntKind.i64 (y - (1:Int))))=true)∧((okA&&okB&&List.all (List.take x v0) fun (y:Int)=>wi (4:Int) (IntKind.wrap IntKind.i64 (y - (1:Int))))=true→(okA&&okB&&List.all (List.take x v0) fun (y:Int)=>wi (4:Int) (IntKind.wrap IntKind.i64 (y - (1:Int))))=true)∧((okA&&okB&&List.all (List.take x v0) fun (y:Int)=>wi (4:Int) (IntKind.wrap IntKind.i64 (y - (1:Int))))=true→(okA&&okB&&List.all (List.take x v0) fun (y:Int)=>wi (4:Int) (IntKind.wrap IntKind.i64 (y - (1:Int))))=true)∧True)∧True∧V [PE.a])∧(v3=false→True∧True∧V [PE.b])) (by intro x;kernel_rfl) ?_
 ·simp
 rintro j hj
 have hkl:=hk.yes.1
 simp only [imp_self,implies_true,true_and,and_true,decide_eq_true_eq,decide_eq_false_iff_not]
 refine ⟨fun h6=>?_,fun h6=>?_⟩
 ·refine ⟨by omega,fun _=>by simp,?_⟩
  refine Back.mk (j+1) (by omega) (by omega) (p0:=let v0:=Node.kept n;let v1:=Node.yes n;let v2:=v0.term;let v3:=v0.entries;let v4:=v0.snap;let v5:=v0.vote;let v6:=v4.term;let v7:=v4.config;let v8:=v4.index;let v9:=v4.data;let v10:=(1:Int);let v11:=v7.learners;let v12:=v7.voters;let v13:=Prod.fst (lastC v0);let v14:=(↑(List.length v1):Int);IntKind.wrap IntKind.i64 ((↑j:Int)+v10)=(↑(j+(1:Nat)):Int)∧pickB (okA&&okB&&List.all (List.take j v1) fun (y:Int)=>wi (4:Int) (IntKind.wrap IntKind.i64 (y - v10))) (!List.any [IntKind.wrap IntKind.i64 (List.getD v1 j (0:Int) - v10)] (offB (4:Int))) false=(okA&&okB&&List.all (List.take (j+(1:Nat)) v1) fun (y:Int)=>wi (4:Int) (IntKind.wrap IntKind.i64 (y - v10)))∧v14=v14∧v1=v1∧v13=v13∧(0:Int)=(0:Int)∧Node.id n=Node.id n∧Node.role n=Node.role n∧v2=v2∧v5=v5∧v8=v8∧v6=v6∧v12=v12∧v11=v11∧v9=v9∧v3=v3∧Node.commit n=Node.commit n∧Node.lead n=Node.lead n∧Node.elapsed n=Node.elapsed n∧v1=v1∧Node.peers n=Node.peers n∧Node.round n=Node.round n∧Node.reads n=Node.reads n∧True) (by kernel_rfl) ?_
  simp only [true_and,and_true,wrapN (i:=j) (by omega),pb]
  refine ⟨by omega,?_⟩
  rw [all_snoc (d:=(0:Int)) _ (by omega)]
  simp only [List.any_cons,List.any_nil,Bool.or_false,offB_wi,Bool.not_not,Bool.and_assoc]
 obtain rfl:j=n.yes.length:=by omega
 rw [List.take_length]
 obtain ⟨okC,hC⟩:∃ b,n.yes.all (fun y=>wi 4 (IntKind.i64.wrap (y - 1)))=b:=⟨_,rfl⟩
 rw [hC]
 refine LoopG.head (fitsT tabP_ok fun _=>none) 2 (A:=Nat) (fun j=>j≤n.peers.length) (fun j=>[(137,.int .i64 j),(10,.own 11),(5,.bool (okA&&okB&&okC&&(n.peers.take j).all (peerB (lastC n.kept).1 n.round)))]) (fun j=>[(11,.row 3 [] (.rInts ((n.peers.take j).map (·.node))))]) (fun j=>n.peers.length - j) 0 (Nat.zero_le _) (p0:=let v0:=Node.round n;let v1:=Node.peers n;let v2:=Node.kept n;let v3:=v2.term;let v4:=v2.vote;let v5:=v2.entries;let v6:=v2.snap;let v7:=v6.term;let v8:=v6.data;let v9:=v6.config;let v10:=v6.index;let v11:=okA&&okB&&okC;let v12:=v9.voters;let v13:=v9.learners;let v14:=Prod.fst (lastC v2);let v15:=(↑(List.length v1):Int);let v16:=List.take (0:Nat) v1;(0:Int)=(↑(0:Nat):Int)∧v11=(v11&&List.all v16 (peerB v14 v0))∧v15=v15∧v1=v1∧v14=v14∧(0:Int)=(0:Int)∧List.map (fun (x:Peer)=>Peer.node x) v16=[]∧Node.id n=Node.id n∧Node.role n=Node.role n∧v3=v3∧v4=v4∧v10=v10∧v7=v7∧v12=v12∧v13=v13∧v8=v8∧v5=v5∧Node.commit n=Node.commit n∧Node.lead n=Node.lead n∧Node.elapsed n=Node.elapsed n∧Node.yes n=Node.yes n∧v1=v1∧v0=v0∧Node.reads n=Node.reads n∧True) (by kernel_rfl) ?_ 300 (p:=fun (x:Nat) (V:List PE→Prop)=>let v0:=Node.peers n;let v1:=(↑x:Int);let v2:=List.take x v0;let v3:=(0:Int);let v4:=Prod.fst (lastC (Node.kept n));let v5:=(↑(List.length (Node.reads n)):Int);let v6:=(↑(List.length v0):Int);let v7:=List.getD v0 x default;let v8:=v7.match_;let v9:=v7.next;let v10:=List.map (fun (x:Peer)=>Peer.node x) v2;let v11:=Node.role n != (4:Int);let v12:=Node.role n==(4:Int);let v13:=List.length v10;let v14:=[v8];let v15:=okA&&okB&&okC&&List.all v2 (peerB v4 (Node.round n));let v16:=IntKind.wrap IntKind.i64 (v9 - (1:Int));let v17:=!v15;let v18:=IntKind.wrap IntKind.i64 (v6+v5);let v19:=!v17;let v20:=decide (v1<v6);let v21:=pickB v15 (!List.any v14 (offB v4)) false;let v22:=pickB v17 true (pickB v12 (!decide (v10=othersC n)) false);let v23:=!v22;let v24:=pickB v21 (decide (v9>v8)) false;let v25:=pickB v22 true (pickB v11 (decide (v18>v3)) false);let v26:=pickB v25 true (decide (v5>(100:Int)));True∧True∧(v20=true→(v3≤v1∧v1<v6∧True)∧((v13+List.length [v7.node])*(1024:Nat)≤(140737488355328:Nat)∧True)∧((v15=true→v15=true)∧(v15=true→List.length v14≤(17592186044416:Nat))∧(v15=true→v15=true)∧(v15=true→v15=true)∧(v15=true→v15=true)∧(v15=true→v15=true)∧(v21=true→v21=true)∧(v21=true→v21=true)∧(v21=true→v21=true)∧(v21=true→v21=true)∧(v21=true→v21=true)∧(v24=true→v24=true)∧(v24=true→v24=true)∧(v24=true→v24=true)∧(v24=true→v24=true)∧(v24=true→v24=true)∧(pickB v24 (decide (v16≤v4)) false=true→pickB v24 (decide (v16≤v4)) false=true)∧(pickB v24 (decide (v16≤v4)) false=true→pickB v24 (decide (v16≤v4)) false=true)∧(pickB v24 (decide (v16≤v4)) false=true→List.length [v7.round]≤(17592186044416:Nat))∧(pickB v24 (decide (v16≤v4)) false=true→pickB v24 (decide (v16≤v4)) false=true)∧(pickB v24 (decide (v16≤v4)) false=true→pickB v24 (decide (v16≤v4)) false=true)∧(pickB v24 (decide (v16≤v4)) false=true→pickB v24 (decide (v16≤v4)) false=true)∧(pickB v24 (decide (v16≤v4)) false=true→pickB v24 (decide (v16≤v4)) false=true)∧True)∧True∧V [PE.a])∧(v20=false→((v19=true→v19=true)∧(v19=true→v19=true)∧(v19=true→v19=true)∧((v19&&v12)=true→(v19&&v12)=true)∧((v19&&v12)=true→SmallN n)∧((v19&&v12)=true→(v19&&v12)=true)∧((v19&&v12)=true→(v19&&v12)=true)∧((v19&&v12)=true→v13≤(17592186044416:Nat))∧((v19&&v12)=true→(v19&&v12)=true)∧(v19=true→v19=true)∧(v19=true→v12=true→(v19&&v12)=true)∧(v17=false→v19=true)∧(v23=true→v23=true)∧(v23=true→v23=true)∧(v23=true→v23=true)∧((v23&&v11)=true→(v23&&v11)=true)∧((v23&&v11)=true→(v23&&v11)=true)∧((v23&&v11)=true→(v23&&v11)=true)∧((v23&&v11)=true→(v23&&v11)=true)∧((v23&&v11)=true→(v23&&v11)=true)∧((v23&&v11)=true→(v23&&v11)=true)∧((v23&&v11)=true→(v23&&v11)=true)∧(v23=true→v23=true)∧(v23=true→v11=true→(v23&&v11)=true)∧(v22=false→v23=true)∧((!v25)=true→(!v25)=true)∧((!v25)=true→(!v25)=true)∧((!v25)=true→(!v25)=true)∧(v25=false→(!v25)=true)∧True)∧True∧(v26=true→True∧(1:Int)=errC n∧True)∧(v26=false→True∧v3=errC n∧True))) (by intro x;kernel_rfl) ?_
 ·simp
 rintro j hj
 have hkl:=hk.peers.1
 simp only [imp_self,implies_true,true_and,and_true,decide_eq_true_eq,decide_eq_false_iff_not]
 refine ⟨fun h6=>?_,fun h6=>?_⟩
 ·refine ⟨by omega,by simp only [List.length_map,List.length_take,List.length_cons,List.length_nil];have:=hn.peers;omega,⟨fun _=>by simp,fun _=>by simp⟩,?_⟩
  refine Back.mk (j+1) (by omega) (by omega) (p0:=let v0:=Node.round n;let v1:=Node.peers n;let v2:=Node.kept n;let v3:=v2.snap;let v4:=v2.term;let v5:=v2.vote;let v6:=v2.entries;let v7:=v3.config;let v8:=v3.index;let v9:=v3.term;let v10:=v3.data;let v11:=v7.voters;let v12:=v7.learners;let v13:=okA&&okB&&okC;let v14:=List.take j v1;let v15:=Prod.fst (lastC v2);let v16:=(↑(List.length v1):Int);let v17:=List.getD v1 j default;let v18:=v17.match_;let v19:=v17.next;let v20:=List.take (j+(1:Nat)) v1;let v21:=IntKind.wrap IntKind.i64 (v19 - (1:Int));IntKind.wrap IntKind.i64 ((↑j:Int)+(1:Int))=(↑(j+(1:Nat)):Int)∧pickB (pickB (pickB (pickB (v13&&List.all v14 (peerB v15 v0)) (!List.any [v18] (offB v15)) false) (decide (v19>v18)) false) (decide (v21≤v15)) false) (!List.any [v17.round] (offB v0)) false=(v13&&List.all v20 (peerB v15 v0))∧v16=v16∧v1=v1∧v15=v15∧(0:Int)=(0:Int)∧List.map (fun (x:Peer)=>Peer.node x) v14++[v17.node]=List.map (fun (x:Peer)=>Peer.node x) v20∧Node.id n=Node.id n∧Node.role n=Node.role n∧v4=v4∧v5=v5∧v8=v8∧v9=v9∧v11=v11∧v12=v12∧v10=v10∧v6=v6∧Node.commit n=Node.commit n∧Node.lead n=Node.lead n∧Node.elapsed n=Node.elapsed n∧Node.yes n=Node.yes n∧v1=v1∧v0=v0∧Node.reads n=Node.reads n∧True) (by kernel_rfl) ?_
  simp only [true_and,and_true,wrapN (i:=j) (by omega),pb]
  refine ⟨by omega,?_,?_⟩
  ·rw [all_snoc (d:=(default:Peer)) _ (by omega),peerB]
   simp only [List.any_cons,List.any_nil,Bool.or_false,offB_wi,Bool.not_not,Bool.and_assoc]
  ·rw [take_snoc (d:=(default:Peer)) (by omega),List.map_append];rfl
 obtain rfl:j=n.peers.length:=by omega
 rw [List.take_length]
 obtain ⟨okD,hD⟩:∃ b,n.peers.all (peerB (lastC n.kept).1 n.round)=b:=⟨_,rfl⟩
 rw [hD]
 have hr:=right_eq n (by have:=hn.peers;have:=hn.reads;omega)
 rw [← hA,hB,hC,hD] at hr
 rw [errC,hr]
 simp only [pb,pt]
 obtain ⟨r,hr1⟩:∃ b,(n.role==4)=b:=⟨_,rfl⟩
 obtain ⟨A,hA1⟩:∃ b,(okA&&okB&&okC&&okD)=b:=⟨_,rfl⟩
 obtain ⟨q,hq⟩:∃ b,decide (n.peers.map (fun x=>x.node)=othersC n)=b:=⟨_,rfl⟩
 obtain ⟨w,hw⟩:∃ b,decide (IntKind.i64.wrap ((n.peers.length:Int)+(n.reads.length:Int))>0)=b:=⟨_,rfl⟩
 obtain ⟨v,hv⟩:∃ b,decide ((n.reads.length:Int)>100)=b:=⟨_,rfl⟩
 have hpl:=hn.peers
 simp only [bne,hr1,hA1,hq,hw,hv,List.length_map]
 refine ⟨⟨fun _=>hn,fun _=>by omega,?_⟩,?_⟩
 ·cases r<;>cases A<;>cases q<;>cases w<;>cases v<;>simp
 ·cases r<;>cases A<;>cases q<;>cases w<;>cases v<;>simp
theorem rwithin_fn (n m:Int):FnC Tryz.prog 62 [dInt.can n,dInt.can m] (.bool (wi m n)) D2:=by
 refine FnG.of_vc (fitsT tab_nil fun _=>none) Tryz.func62 rfl (by decide) rfl 300 (p:=fun (V:List PE→Prop)=>let v0:=decide (n≥(0:Int));True∧((v0=true→v0=true)∧(v0=true→v0=true)∧(v0=true→v0=true)∧True)∧pickB v0 (decide (n≤m)) false=wi m n∧True) (by kernel_rfl) ?_
 simp only [imp_self,implies_true,true_and,and_true,pickB_f,pickB_t,wi,GE.ge]
def eCheck18:Ent:=ent1 18 dNode fun n=>([SmallN n],.int .i64 (errC n),D2)
theorem eCheck18_ok:EntOk Tryz.prog eCheck18:=ent1_ok (check18_fn default smallN0).1 fun l h=>check18_fn l (h _ (by simp))
def eRWithin:Ent:=ent2 62 dInt dInt fun n m=>([],.bool (wi m n),D2)
theorem eRWithin_ok:EntOk Tryz.prog eRWithin:=ent2_ok (rwithin_fn 0 0).1 fun n m _=>rwithin_fn n m
noncomputable def tabQ:List Ent:=[eRWithin,eRLastC,eOnC,eRIs,eRMay,eROth]
theorem tabQ_ok:∀ e∈tabQ,EntOk Tryz.prog e:=tab_cons eRWithin_ok (tab_cons eRLastC_ok (tab_cons eOnC_ok (tab_cons eRIs_ok (tab_cons eRMay_ok (tab_cons eROth_ok tab_nil)))))
theorem rpeers_fn (n:Node) (hn:SmallN n):FnC Tryz.prog 67 [dNode.can n] (.bool (peersB n)) D2:=by
 refine FnC.g1 dNode n (fnB Tryz.func67 (by decide) rfl) fun hk=>?_
 refine FnG.of_vc (fitsT tabQ_ok fun _=>none) Tryz.func67 rfl (by decide) rfl 300 (p:=fun (V:List PE→Prop)=>let v0:=(↑(List.length (Node.reads n)):Int);let v1:=(↑(List.length (Node.peers n)):Int) != (↑(List.length (othersC n)):Int);let v2:=pickB v1 true (decide (v0>(100:Int)));True∧(SmallN n∧True)∧True∧(((!v1)=true→(!v1)=true)∧((!v1)=true→(!v1)=true)∧((!v1)=true→(!v1)=true)∧(v1=false→(!v1)=true)∧True)∧True∧(v2=true→True∧false=peersB n∧True)∧(v2=false→True∧V [PE.b])) (by kernel_rfl) ?_
 simp only [imp_self,implies_true,true_and,and_true,pickB_f,pickB_t]
 have hol:=(allC_asc (confC n)).2
 have hol2:(othersC n).length≤16:=Nat.le_trans (List.length_filter_le _ _) hol
 have hpl:=hn.peers
 refine ⟨hn,fun h=>by rw [h];rfl,fun h=>?_,fun h=>?_⟩
 ·unfold peersB
  simp only [Bool.or_eq_true,bne_iff_ne,ne_eq,decide_eq_true_eq] at h
  rcases h with h | h
  ·have:¬ n.peers.map (·.node)=othersC n:=fun e=>h (by rw [← e];simp)
   simp [this]
  ·have:¬ n.reads.length≤100:=by omega
   simp [this]
 have hle:n.peers.length=(othersC n).length:=by
  simp only [Bool.or_eq_false_iff,bne_eq_false_iff_eq] at h;omega
 have hr100:n.reads.length≤100:=by
  simp only [Bool.or_eq_false_iff,decide_eq_false_iff_not] at h;omega
 have hbad:∀ j,j<n.peers.length→((n.peers.getD j default).node==(othersC n).getD j 0&&peerB (lastC n.kept).1 n.round (n.peers.getD j default))=false→peersB n=false:=by
  intro j hj hb
  cases hp:peersB n
  ·rfl
  ·exfalso
   unfold peersB at hp
   simp only [Bool.and_eq_true,decide_eq_true_eq,List.all_eq_true] at hp
   have h1:(n.peers.getD j default).node=(othersC n).getD j 0:=by
    rw [← hp.1.1,getD_in hj,getD_in (by simpa using hj)];simp
   rw [h1,hp.2 _ (getD_mem hj)] at hb
   simp at hb
 refine LoopG.head (fitsT tabQ_ok fun _=>none) 0 (A:=Nat) (fun j=>j≤(othersC n).length∧∀ i,i<j→(n.peers.getD i default).node=(othersC n).getD i 0∧peerB (lastC n.kept).1 n.round (n.peers.getD i default)=true) (fun j=>[(6,.int .i64 j)]) (fun _=>[]) (fun j=>(othersC n).length - j) 0 ⟨Nat.zero_le _,fun i h=>absurd h (by omega)⟩ (p0:=let v0:=Node.kept n;let v1:=v0.entries;let v2:=v0.vote;let v3:=v0.term;let v4:=v0.snap;let v5:=v4.config;let v6:=v4.term;let v7:=v4.data;let v8:=v4.index;let v9:=v5.voters;let v10:=v5.learners;let v11:=Prod.fst (lastC v0);(0:Int)=(↑(0:Nat):Int)∧v11=v11∧othersC n=othersC n∧Node.id n=Node.id n∧Node.role n=Node.role n∧v3=v3∧v2=v2∧v8=v8∧v6=v6∧v9=v9∧v10=v10∧v7=v7∧v1=v1∧Node.commit n=Node.commit n∧Node.lead n=Node.lead n∧Node.elapsed n=Node.elapsed n∧Node.yes n=Node.yes n∧Node.peers n=Node.peers n∧Node.round n=Node.round n∧Node.reads n=Node.reads n∧True) (by kernel_rfl) ?_ 300 (p:=fun (x:Nat) (V:List PE→Prop)=>let v0:=(↑x:Int);let v1:=Prod.fst (lastC (Node.kept n));let v2:=(↑(List.length (othersC n)):Int);let v3:=List.getD (Node.peers n) x default;let v4:=v3.match_;let v5:=v3.next;let v6:=IntKind.wrap IntKind.i64 (v5 - (1:Int));let v7:=v3.node != List.getD (othersC n) x (0:Int);let v8:=decide (v0<v2);let v9:=pickB v7 true !wi v1 v4;let v10:=pickB v9 true (decide (v5≤v4));let v11:=pickB v10 true (decide (v6>v1));let v12:=pickB v11 true !wi (Node.round n) (v3.round);True∧True∧(v8=true→((0:Int)≤v0∧v0<(↑(List.length (Node.peers n)):Int)∧True)∧((0:Int)≤v0∧v0<v2∧((!v7)=true→(!v7)=true)∧((!v7)=true→(!v7)=true)∧((!v7)=true→(!v7)=true)∧((!v7)=true→(!v7)=true)∧(v7=false→(!v7)=true)∧((!v9)=true→(!v9)=true)∧((!v9)=true→(!v9)=true)∧((!v9)=true→(!v9)=true)∧((!v9)=true→(!v9)=true)∧(v9=false→(!v9)=true)∧((!v10)=true→(!v10)=true)∧((!v10)=true→(!v10)=true)∧((!v10)=true→(!v10)=true)∧((!v10)=true→(!v10)=true)∧(v10=false→(!v10)=true)∧((!v11)=true→(!v11)=true)∧((!v11)=true→(!v11)=true)∧((!v11)=true→(!v11)=true)∧((!v11)=true→(!v11)=true)∧((!v11)=true→(!v11)=true)∧(v11=false→(!v11)=true)∧True)∧True∧(v12=true→True∧false=peersB n∧True)∧(v12=false→True∧V [PE.a,PE.b]))∧(v8=false→True∧true=peersB n∧True)) (by intro x;kernel_rfl) ?_
 ·simp
 rintro j ⟨hj,h0⟩
 simp only [imp_self,implies_true,true_and,and_true,decide_eq_true_eq,decide_eq_false_iff_not]
 refine ⟨fun h6=>?_,fun h6=>?_⟩
 ·have hb:=hbad j (by omega)
  unfold peerB at hb
  generalize hP:n.peers.getD j default=p at *
  have q1:decide (p.next≤p.match_)=!decide (p.next>p.match_):=by rw [Bool.eq_iff_iff];simp
  have q2:decide (IntKind.i64.wrap (p.next - 1)>(lastC n.kept).1)=!decide (IntKind.i64.wrap (p.next - 1)≤(lastC n.kept).1):=by rw [Bool.eq_iff_iff];simp
  simp only [bne,q1,q2]
  obtain ⟨x1,hx1⟩:∃ b,(p.node==(othersC n).getD j 0)=b:=⟨_,rfl⟩
  obtain ⟨x2,hx2⟩:∃ b,wi (lastC n.kept).1 p.match_=b:=⟨_,rfl⟩
  obtain ⟨x3,hx3⟩:∃ b,decide (p.next>p.match_)=b:=⟨_,rfl⟩
  obtain ⟨x4,hx4⟩:∃ b,decide (IntKind.i64.wrap (p.next - 1)≤(lastC n.kept).1)=b:=⟨_,rfl⟩
  obtain ⟨x5,hx5⟩:∃ b,wi n.round p.round=b:=⟨_,rfl⟩
  simp only [hx1,hx2,hx3,hx4,hx5] at hb ⊢
  refine ⟨by omega,⟨by omega,h6,?_⟩,fun h7=>?_,fun h7=>?_⟩
  ·cases x1<;>cases x2<;>cases x3<;>cases x4<;>simp [pickB]
  ·refine (hb ?_).symm
   revert h7;cases x1<;>cases x2<;>cases x3<;>cases x4<;>cases x5<;>simp [pickB]
  ·refine Back.mk (j+1) ⟨by omega,fun i hi=>?_⟩ (by omega) (p0:=let v0:=Node.kept n;let v1:=v0.entries;let v2:=v0.vote;let v3:=v0.term;let v4:=v0.snap;let v5:=v4.config;let v6:=v4.term;let v7:=v4.data;let v8:=v4.index;let v9:=v5.voters;let v10:=v5.learners;let v11:=Prod.fst (lastC v0);IntKind.wrap IntKind.i64 ((↑j:Int)+(1:Int))=(↑(j+(1:Nat)):Int)∧v11=v11∧othersC n=othersC n∧Node.id n=Node.id n∧Node.role n=Node.role n∧v3=v3∧v2=v2∧v8=v8∧v6=v6∧v9=v9∧v10=v10∧v7=v7∧v1=v1∧Node.commit n=Node.commit n∧Node.lead n=Node.lead n∧Node.elapsed n=Node.elapsed n∧Node.yes n=Node.yes n∧Node.peers n=Node.peers n∧Node.round n=Node.round n∧Node.reads n=Node.reads n∧True) (by kernel_rfl) ?_
   ·by_cases hij:i=j
    ·subst hij
     have:(x1&&(x2&&x3&&x4&&x5))=true:=by
      revert h7;cases x1<;>cases x2<;>cases x3<;>cases x4<;>cases x5<;>simp [pickB]
     rw [hP,peerB,hx2,hx3,hx4,hx5]
     simp only [Bool.and_eq_true] at this
     refine ⟨by simpa using hx1.trans this.1,by simp [this.2]⟩
    ·exact h0 i (by omega)
   ·simp [wrapN (i:=j) (by omega)]
 ·have:peersB n=true:=by
   unfold peersB
   simp only [Bool.and_eq_true,decide_eq_true_eq,List.all_eq_true]
   refine ⟨⟨ext_getD (d:=0) (by simp;exact hle) fun i hi=>?_,hr100⟩,fun x hx=>?_⟩
   ·have hi2:i<n.peers.length:=by simpa using hi
    rw [← (h0 i (by omega)).1,getD_in hi,getD_in hi2];simp
   ·obtain ⟨i,hi,rfl⟩:=List.mem_iff_getElem.1 hx
    have:=(h0 i (by omega)).2
    rwa [getD_in hi] at this
  exact this.symm
theorem rconfs_fn (k:Kept):FnC Tryz.prog 66 [dKept.can k] (.bool (confsB k)) D2:=by
 refine FnC.g1 dKept k (fnB Tryz.func66 (by decide) rfl) fun hk=>?_
 refine FnG.of_vc (fitsT tabQ_ok fun _=>none) Tryz.func66 rfl (by decide) rfl 300 (p:=fun (V:List PE→Prop)=>True∧True∧V []) (by kernel_rfl) ?_
 simp only [imp_self,implies_true,true_and,and_true,pickB_f,pickB_t]
 have hc:confsB k=(k.entries.all cfE&&mayC k.snap.config):=rfl
 rw [hc]
 refine LoopG.head (fitsT tabQ_ok fun _=>none) 0 (A:=Nat) (fun j=>j≤k.entries.length∧(k.entries.take j).all cfE=true) (fun j=>[(3,.int .i64 j)]) (fun _=>[]) (fun j=>k.entries.length - j) 0 ⟨Nat.zero_le _,rfl⟩ (p0:=let v0:=Kept.snap k;let v1:=v0.index;let v2:=v0.config;let v3:=v0.term;let v4:=v0.data;let v5:=v2.learners;let v6:=v2.voters;(0:Int)=(↑(0:Nat):Int)∧Kept.term k=Kept.term k∧Kept.vote k=Kept.vote k∧v1=v1∧v3=v3∧v6=v6∧v5=v5∧v4=v4∧Kept.entries k=Kept.entries k∧True) (by kernel_rfl) ?_ 300 (p:=fun (x:Nat) (V:List PE→Prop)=>let v0:=Kept.entries k;let v1:=mayC (Snap.config (Kept.snap k));let v2:=(↑x:Int);let v3:=(↑(List.length v0):Int);let v4:=List.getD v0 x default;let v5:=List.all v0 cfE&&v1;let v6:=v4.kind==(2:Int);let v7:=decide (v2<v3);let v8:=pickB v6 (!mayC (v4.config)) false;True∧True∧(v7=true→((0:Int)≤v2∧v2<v3∧(v6=true→v6=true)∧(v6=true→v6=true)∧(v6=true→v6=true)∧(v6=true→(0:Int)≤v2)∧(v6=true→v2<v3)∧(v6=true→v6=true)∧(v6=true→v6=true)∧(v6=true→v6=true)∧(v6=true→v6=true)∧(v6=true→v6=true)∧True)∧True∧(v8=true→True∧false=v5∧True)∧(v8=false→True∧V [PE.a,PE.b]))∧(v7=false→True∧v1=v5∧True)) (by intro x;kernel_rfl) ?_
 ·simp
 rintro j ⟨hj,h0⟩
 have hkl:=hk.entries.1
 simp only [imp_self,implies_true,true_and,and_true,decide_eq_true_eq,decide_eq_false_iff_not]
 refine ⟨fun h6=>?_,fun h6=>?_⟩
 ·have hsn:=all_snoc (d:=(default:Entry)) cfE (show j<k.entries.length by omega)
  generalize hE:k.entries.getD j default=e at *
  have hme:e∈k.entries:=by rw [← hE];exact getD_mem (by omega)
  have hpe:pickB (e.kind==2) (!mayC e.config) false=!cfE e:=by
   unfold cfE;cases (e.kind==2)<;>simp [pickB]
  rw [hpe]
  refine ⟨⟨by omega,h6,fun _=>by omega,fun _=>h6⟩,fun h7=>?_,fun h7=>?_⟩
  ·have:k.entries.all cfE=false:=by
    rw [List.all_eq_false];exact ⟨e,hme,by simpa using h7⟩
   simp [this]
  ·refine Back.mk (j+1) ⟨by omega,?_⟩ (by omega) (p0:=let v0:=Kept.snap k;let v1:=v0.index;let v2:=v0.config;let v3:=v0.term;let v4:=v0.data;let v5:=v2.learners;let v6:=v2.voters;IntKind.wrap IntKind.i64 ((↑j:Int)+(1:Int))=(↑(j+(1:Nat)):Int)∧Kept.term k=Kept.term k∧Kept.vote k=Kept.vote k∧v1=v1∧v3=v3∧v6=v6∧v5=v5∧v4=v4∧Kept.entries k=Kept.entries k∧True) (by kernel_rfl) ?_
   ·rw [hsn,h0];simpa using h7
   ·simp [wrapN (i:=j) (by omega)]
 ·obtain rfl:j=k.entries.length:=by omega
  rw [List.take_length] at h0
  simp [h0]
structure RightN (n:Node):Prop where
 id:wi 4 (IntKind.i64.wrap (n.id - 1))=true
 role1:1≤n.role
 role4:n.role≤4
 len:n.kept.entries.length≤9000
 on:onC n.kept=true
 term:wi 900000000 n.kept.term=true
 vote:wi 900000000 n.kept.vote=true
 round:wi 900000000 n.round=true
 lead:wi 900000000 n.lead=true
 last:(lastC n.kept).1≤900000000
 elapsed:wi 1000 n.elapsed=true
 lo:n.kept.snap.index≤n.commit
 hi:n.commit≤(lastC n.kept).1
 yes:isC n.yes=true
 yesn:n.yes.all (fun y=>wi 4 (IntKind.i64.wrap (y - 1)))=true
 confs:confsB n.kept=true
 rest:(if n.role=4 then peersB n else decide (n.peers=[])&&decide (n.reads=[]))=true
theorem last0 {k:Kept} (h:onC k=true):0≤(lastC k).1:=by rw [lastC_index h];have:=(on_bd h).1;omega
theorem right_iff {n:Node}:rightC n=true↔RightN n:=by
 unfold rightC numsB
 simp only [Bool.and_eq_true,decide_eq_true_eq]
 constructor
 ·rintro ⟨⟨⟨⟨⟨⟨⟨⟨⟨⟨⟨⟨⟨⟨⟨⟨h1,h2⟩,h3⟩,h4⟩,h5⟩,h6⟩,h7⟩,h8⟩,h9⟩,h10⟩,h11⟩,h12⟩,h13⟩,h14⟩,h15⟩,h16⟩,h17⟩
  exact ⟨h1,h2,h3,h4,h5,h6,h7,h8,h9,by unfold wi at h10;simp only [Bool.and_eq_true,decide_eq_true_eq] at h10;exact h10.2,h11,h12,h13,h14,h15,h16,h17⟩
 ·intro h
  exact ⟨⟨⟨⟨⟨⟨⟨⟨⟨⟨⟨⟨⟨⟨⟨⟨h.id,h.role1⟩,h.role4⟩,h.len⟩,h.on⟩,h.term⟩,h.vote⟩,h.round⟩,h.lead⟩,by have:=last0 h.on;have:=h.last;unfold wi;simp;omega⟩,h.elapsed⟩,h.lo⟩,h.hi⟩,h.yes⟩,h.yesn⟩,h.confs⟩,h.rest⟩
theorem notF (b:Bool):(b=false→(!b)=true)=True:=by cases b<;>simp
def eRPeers:Ent:=ent1 67 dNode fun n=>([SmallN n],.bool (peersB n),D2)
theorem eRPeers_ok:EntOk Tryz.prog eRPeers:=ent1_ok (rpeers_fn default smallN0).1 fun l h=>rpeers_fn l (h _ (by simp))
def eRConfs:Ent:=ent1 66 dKept fun n=>([],.bool (confsB n),D2)
theorem eRConfs_ok:EntOk Tryz.prog eRConfs:=ent1_ok (rconfs_fn default).1 fun l h=>rconfs_fn l
noncomputable def tabQ2:List Ent:=[eRWithin,eRLastC,eOnC,eRIs,eRPeers,eRConfs]
theorem tabQ2_ok:∀ e∈tabQ2,EntOk Tryz.prog e:=tab_cons eRWithin_ok (tab_cons eRLastC_ok (tab_cons eOnC_ok (tab_cons eRIs_ok (tab_cons eRPeers_ok (tab_cons eRConfs_ok tab_nil)))))
theorem rright_fn (n:Node) (hn:SmallN n):FnC Tryz.prog 19 [dNode.can n] (.bool (rightC n)) D2:=by
 refine FnC.g1 dNode n (fnB Tryz.func19 (by decide) rfl) fun hk=>?_
 refine FnG.of_vc (fitsT tabQ2_ok fun _=>none) Tryz.func19 rfl (by decide) rfl 300 (p:=fun (V:List PE→Prop)=>let v0:=Node.kept n;let v1:=Node.role n;let v2:=Node.commit n;let v3:=Snap.index (v0.snap);let v4:=(900000000:Int);let v5:=Prod.fst (lastC v0);let v6:=(↑(List.length (v0.entries)):Int);let v7:=!wi v4 (v0.term);let v8:=pickB v7 true !wi v4 (v0.vote);let v9:=!wi (4:Int) (IntKind.wrap IntKind.i64 (Node.id n - (1:Int)));let v10:=pickB v8 true !wi v4 (Node.round n);let v11:=pickB v9 true (decide (v1<(1:Int)));let v12:=pickB v10 true !wi v4 (Node.lead n);let v13:=pickB v12 true !wi (1000:Int) (Node.elapsed n);let v14:=pickB v11 true (decide (v1>(4:Int)));let v15:=pickB v13 true (decide (v2<v3));let v16:=pickB v15 true (decide (v2>v5));let v17:=pickB v14 true (decide (v6>(9000:Int)));let v18:=pickB v17 true !onC v0;let v19:=pickB v16 true (decide (v5>v4));let v20:=pickB v19 true !isC (Node.yes n);True∧(((!v9)=true→(!v9)=true)∧((!v9)=true→(!v9)=true)∧(v9=false→(!v9)=true)∧((!v11)=true→(!v11)=true)∧((!v11)=true→(!v11)=true)∧(v11=false→(!v11)=true)∧((!v14)=true→(!v14)=true)∧((!v14)=true→(!v14)=true)∧((!v14)=true→(!v14)=true)∧((!v14)=true→(!v14)=true)∧(v14=false→(!v14)=true)∧((!v17)=true→(!v17)=true)∧((!v17)=true→(!v17)=true)∧((!v17)=true→(!v17)=true)∧(v17=false→(!v17)=true)∧True)∧True∧(v18=true→True∧false=rightC n∧True)∧(v18=false→True∧(((!v7)=true→(!v7)=true)∧((!v7)=true→(!v7)=true)∧((!v7)=true→(!v7)=true)∧((!v7)=true→(!v7)=true)∧(v7=false→(!v7)=true)∧((!v8)=true→(!v8)=true)∧((!v8)=true→(!v8)=true)∧((!v8)=true→(!v8)=true)∧(v8=false→(!v8)=true)∧((!v10)=true→(!v10)=true)∧((!v10)=true→(!v10)=true)∧((!v10)=true→(!v10)=true)∧(v10=false→(!v10)=true)∧((!v12)=true→(!v12)=true)∧((!v12)=true→(!v12)=true)∧((!v12)=true→(!v12)=true)∧(v12=false→(!v12)=true)∧((!v13)=true→(!v13)=true)∧((!v13)=true→(!v13)=true)∧((!v13)=true→(!v13)=true)∧((!v13)=true→(!v13)=true)∧((!v13)=true→(!v13)=true)∧((!v13)=true→(!v13)=true)∧(v13=false→(!v13)=true)∧((!v15)=true→(!v15)=true)∧((!v15)=true→(!v15)=true)∧((!v15)=true→(!v15)=true)∧(v15=false→(!v15)=true)∧((!v16)=true→(!v16)=true)∧(v16=false→(!v16)=true)∧((!v19)=true→(!v19)=true)∧((!v19)=true→(!v19)=true)∧((!v19)=true→(!v19)=true)∧(v19=false→(!v19)=true)∧True)∧True∧(v20=true→True∧false=rightC n∧True)∧(v20=false→True∧V [PE.b,PE.b]))) (by kernel_rfl) ?_
 simp only [imp_self,implies_true,true_and,and_true,pickB_f,pickB_t,notF]
 have no:¬ RightN n→false=rightC n:=fun h=>by
  cases hr:rightC n
  ·rfl
  ·exact absurd (right_iff.1 hr) h
 have yesT:RightN n→true=rightC n:=fun h=>(right_iff.2 h).symm
 simp only [Bool.or_eq_true,Bool.not_eq_true',decide_eq_true_eq,Bool.or_eq_false_iff,Bool.not_eq_false',decide_eq_false_iff_not]
 refine ⟨fun h=>no fun g=>?_,fun h1=>⟨fun h=>no fun g=>?_,fun h2=>?_⟩⟩
 ·have g1:=g.id;have g2:=g.role1;have g3:=g.role4;have g4:=g.len;have g5:=g.on
  rw [g1,g5] at h
  rcases h with (((h | h) | h) | h) | h<;>first | (cases h;done) | omega
 ·have g1:=g.term;have g2:=g.vote;have g3:=g.round;have g4:=g.lead;have g5:=g.elapsed;have g6:=g.lo;have g7:=g.hi;have g8:=g.last;have g9:=g.yes
  rw [g1,g2,g3,g4,g5,g9] at h
  rcases h with (((((((h | h) | h) | h) | h) | h) | h) | h) | h<;>first | (cases h;done) | omega
 obtain ⟨⟨⟨⟨p1,p2⟩,p3⟩,p4⟩,p5⟩:=h1
 obtain ⟨⟨⟨⟨⟨⟨⟨⟨q1,q2⟩,q3⟩,q4⟩,q5⟩,q6⟩,q7⟩,q8⟩,q9⟩:=h2
 refine LoopG.head (fitsT tabQ2_ok fun _=>none) 0 (A:=Nat) (fun j=>j≤n.yes.length∧(n.yes.take j).all (fun y=>wi 4 (IntKind.i64.wrap (y - 1)))=true) (fun j=>[(5,.int .i64 j)]) (fun _=>[]) (fun j=>n.yes.length - j) 0 ⟨Nat.zero_le _,rfl⟩ (p0:=let v0:=Node.kept n;let v1:=v0.term;let v2:=v0.snap;let v3:=v0.entries;let v4:=v0.vote;let v5:=v2.term;let v6:=v2.index;let v7:=v2.config;let v8:=v2.data;let v9:=v7.learners;let v10:=v7.voters;(0:Int)=(↑(0:Nat):Int)∧Node.id n=Node.id n∧Node.role n=Node.role n∧v1=v1∧v4=v4∧v6=v6∧v5=v5∧v10=v10∧v9=v9∧v8=v8∧v3=v3∧Node.commit n=Node.commit n∧Node.lead n=Node.lead n∧Node.elapsed n=Node.elapsed n∧Node.yes n=Node.yes n∧Node.peers n=Node.peers n∧Node.round n=Node.round n∧Node.reads n=Node.reads n∧True) (by kernel_rfl) ?_ 300 (p:=fun (x:Nat) (V:List PE→Prop)=>let v0:=!confsB (Node.kept n);let v1:=(↑x:Int);let v2:=(0:Int);let v3:=(↑(List.length (Node.yes n)):Int);let v4:=Node.role n==(4:Int);let v5:=(↑(List.length (Node.peers n)):Int)==v2;let v6:=decide (v1<v3);let v7:=!wi (4:Int) (IntKind.wrap IntKind.i64 (List.getD (Node.yes n) x v2 - (1:Int)));True∧True∧(v6=true→(v2≤v1∧v1<v3∧True)∧True∧(v7=true→True∧false=rightC n∧True)∧(v7=false→True∧V [PE.a,PE.b]))∧(v6=false→True∧True∧(v0=true→True∧false=rightC n∧True)∧(v0=false→True∧True∧(v4=true→(SmallN n∧True)∧peersB n=rightC n∧True)∧(v4=false→((v5=true→v5=true)∧(v5=true→v5=true)∧(v5=true→v5=true)∧(v5=true→v5=true)∧True)∧pickB v5 ((↑(List.length (Node.reads n)):Int)==v2) false=rightC n∧True)))) (by intro x;kernel_rfl) ?_
 ·simp
 rintro j ⟨hj,h0⟩
 have hkl:=hk.yes.1
 simp only [imp_self,implies_true,true_and,and_true,decide_eq_true_eq,decide_eq_false_iff_not,pickB_f,notF]
 refine ⟨fun h6=>?_,fun h6=>?_⟩
 ·have hsn:=all_snoc (d:=(0:Int)) (fun y=>wi 4 (IntKind.i64.wrap (y - 1))) (show j<n.yes.length by omega)
  refine ⟨by omega,fun h7=>no fun g=>?_,fun h7=>?_⟩
  ·have:=List.all_eq_true.1 g.yesn _ (getD_mem (d:=(0:Int)) (show j<n.yes.length by omega))
   rw [this] at h7;cases h7
  ·refine Back.mk (j+1) ⟨by omega,?_⟩ (by omega) (p0:=let v0:=Node.kept n;let v1:=v0.term;let v2:=v0.snap;let v3:=v0.entries;let v4:=v0.vote;let v5:=v2.term;let v6:=v2.index;let v7:=v2.config;let v8:=v2.data;let v9:=v7.learners;let v10:=v7.voters;IntKind.wrap IntKind.i64 ((↑j:Int)+(1:Int))=(↑(j+(1:Nat)):Int)∧Node.id n=Node.id n∧Node.role n=Node.role n∧v1=v1∧v4=v4∧v6=v6∧v5=v5∧v10=v10∧v9=v9∧v8=v8∧v3=v3∧Node.commit n=Node.commit n∧Node.lead n=Node.lead n∧Node.elapsed n=Node.elapsed n∧Node.yes n=Node.yes n∧Node.peers n=Node.peers n∧Node.round n=Node.round n∧Node.reads n=Node.reads n∧True) (by kernel_rfl) ?_
   ·rw [hsn,h0];simpa using h7
   ·simp [wrapN (i:=j) (by omega)]
 ·obtain rfl:j=n.yes.length:=by omega
  rw [List.take_length] at h0
  have fin:confsB n.kept=true→rightC n=(if n.role=4 then peersB n else decide (n.peers=[])&&decide (n.reads=[])):=fun hc=>by
   rw [Bool.eq_iff_iff]
   constructor
   ·intro h;exact (right_iff.1 h).rest
   ·intro h;exact right_iff.2 ⟨p1,by omega,by omega,by omega,p5,q1,q2,q3,q4,by omega,q5,by omega,by omega,q9,h0,hc,h⟩
  refine ⟨fun h=>no fun g=>?_,fun h=>?_⟩
  ·have:=g.confs;rw [this] at h;cases h
  have hc:confsB n.kept=true:=by simpa using h
  rw [fin hc]
  refine ⟨fun h=>?_,fun h=>?_⟩
  ·have:n.role=4:=by simpa using h
   rw [if_pos this];exact ⟨hn,rfl⟩
  ·have:¬ n.role=4:=by simpa using h
   rw [if_neg this]
   cases n.peers<;>cases n.reads<;>simp<;>omega
def eRRight:Ent:=ent1 19 dNode fun n=>([SmallN n],.bool (rightC n),D2)
theorem eRRight_ok:EntOk Tryz.prog eRRight:=ent1_ok (rright_fn default smallN0).1 fun l h=>rright_fn l (h _ (by simp))
def rownMo (n:Node):List BE:=[.dead,.dead,.row 3 [] (.rInts n.yes),.row 94 [] (.rPeer n.peers),.row 96 [] (.rRead n.reads)]
def Node.rsvs (n:Node) (ls:List Nat) (y p r:Nat):List SV:=
 [.int .i64 n.id,.int .i64 n.role,.int .i64 n.kept.term,.int .i64 n.kept.vote,.int .i64 n.kept.snap.index,.int .i64 n.kept.snap.term,.sl ls (.rInts n.kept.snap.config.voters),.sl ls (.rInts n.kept.snap.config.learners),.str n.kept.snap.data,.sl ls (.rEntry n.kept.entries),.int .i64 n.commit,.int .i64 n.lead,.int .i64 n.elapsed,.own y,.own p,.int .i64 n.round,.own r]
def eROwn:Ent:=ent1 13 dKept fun k=>([SmallK k],.agg (k.svs [1]),D2)
theorem eROwn_ok:EntOk Tryz.prog eROwn:=ent1_ok (rown_fn default smallK0).1 fun l h=>rown_fn l (h _ (by simp))
theorem rownN_fn (n:Node) (hn:SmallN n):FnC Tryz.prog 24 [dNode.can n] (.agg (n.rsvs [1] 2 3 4)) (rownMo n):=by
 refine FnG.of_vc (fitsT (tab_cons eROwn_ok tab_nil) fun _=>none) Tryz.func24 rfl (by decide) rfl 300 (p:=fun (V:List PE→Prop)=>let v0:=Node.yes n;let v1:=Node.kept n;let v2:=Node.peers n;let v3:=Node.reads n;let v4:=v1.snap;let v5:=v1.term;let v6:=v1.vote;let v7:=v1.entries;let v8:=v4.term;let v9:=v4.config;let v10:=v4.data;let v11:=v4.index;let v12:=v9.learners;let v13:=v9.voters;True∧(SmallK v1∧True)∧True∧(((0:Nat)+List.length v0)*(1024:Nat)≤(140737488355328:Nat)∧True)∧True∧True∧(((0:Nat)+List.length v2)*(1024:Nat)≤(140737488355328:Nat)∧True)∧True∧True∧(((0:Nat)+List.length v3)*(1024:Nat)≤(140737488355328:Nat)∧True)∧True∧True∧Node.id n=Node.id n∧Node.role n=Node.role n∧v5=v5∧v6=v6∧v11=v11∧v8=v8∧v13=v13∧v12=v12∧v10=v10∧v7=v7∧Node.commit n=Node.commit n∧Node.lead n=Node.lead n∧Node.elapsed n=Node.elapsed n∧Node.round n=Node.round n∧v0=v0∧v2=v2∧v3=v3∧True) (by kernel_rfl) ?_
 simp only [imp_self,implies_true,true_and,and_true,pickB_f,pickB_t]
 have h1:=hn.yes
 have h2:=hn.peers
 have h3:=hn.reads
 exact ⟨hn.k,by omega,by omega,by omega⟩
def eROwnN:Ent:=ent1 24 dNode fun n=>([SmallN n],.agg (n.rsvs [1] 2 3 4),rownMo n)
theorem eROwnN_ok:EntOk Tryz.prog eROwnN:=ent1_ok (rownN_fn default smallN0).1 fun l h=>rownN_fn l (h _ (by simp))
def newN (id:Int) (k:Kept):Node:=⟨id,1,k,k.snap.index,0,0,[],[],0,[]⟩
def zeroN:Node:=⟨0,0,default,0,0,0,[],[],0,[]⟩
noncomputable def tabQ3:List Ent:=[eCheck18,eOwnN,eRRight]
theorem tabQ3_ok:∀ e∈tabQ3,EntOk Tryz.prog e:=tab_cons eCheck18_ok (tab_cons eOwnN_ok (tab_cons eRRight_ok tab_nil))
def newC (id:Int) (k:Kept):Node×Int:=if rightC (newN id k) then (newN id k,0) else (zeroN,1)
theorem new_fn (id:Int) (k:Kept) (hk:SmallK k):FnC Tryz.prog 14 [dInt.can id,dKept.can k] (.tup [.agg ((newC id k).1.svs [1]),.int .i64 (newC id k).2]) D2:=by
 refine FnG.of_vc (fitsT tabQ3_ok fun _=>none) Tryz.func14 rfl (by decide) rfl 300 (p:=fun (V:List PE→Prop)=>let v0:=Kept.snap k;let v1:=v0.index;let v2:=v0.config;let v3:=(0:Int);let v4:=Prod.snd (newC id k);let v5:=Prod.fst (newC id k);let v6:=v5.kept;let v7:=v5.reads;let v8:=v5.yes;let v9:=v5.peers;let v10:=v5.role;let v11:=v5.commit;let v12:=v5.id;let v13:=v6.term;let v14:=v6.snap;let v15:=v6.vote;let v16:=v6.entries;let v17:=v14.config;let v18:=v14.data;let v19:=v14.term;let v20:=v14.index;let v21:=v17.voters;let v22:=v17.learners;let v23:=Node.mk id (1:Int) k v1 v3 v3 [] [] v3 [];let v24:=errC v23;let v25:=v24 != v3;True∧True∧(SmallN v23∧True)∧True∧True∧(v25=true→True∧v3=v12∧v3=v10∧v3=v13∧v3=v15∧v3=v20∧v3=v19∧v21=[]∧v22=[]∧ByteArray.mk #[]=v18∧v16=[]∧v3=v11∧v3=v5.lead∧v3=v5.elapsed∧v8=[]∧v9=[]∧v3=v5.round∧v7=[]∧v24=v4∧True)∧(v25=false→(SmallN v23∧True)∧id=v12∧(1:Int)=v10∧Kept.term k=v13∧Kept.vote k=v15∧v1=v20∧v0.term=v19∧v2.voters=v21∧v2.learners=v22∧v0.data=v18∧Kept.entries k=v16∧List.length (Kept.entries k)≤(17592186044416:Nat)∧v1=v11∧v3=v5.lead∧v3=v5.elapsed∧[]=v8∧(0:Nat)≤(17592186044416:Nat)∧[]=v9∧(0:Nat)≤(17592186044416:Nat)∧v3=v5.round∧[]=v7∧(0:Nat)≤(17592186044416:Nat)∧v3=v4∧True)) (by kernel_rfl) ?_
 simp only [imp_self,implies_true,true_and,and_true,pickB_f,pickB_t]
 have hs:SmallN (newN id k):=⟨hk,by simp [newN],by simp [newN],by simp [newN]⟩
 have hkl:k.entries.length≤17592186044416:=by have:=hk.1.1;omega
 change SmallN (newN id k)∧((errC (newN id k) != (0:Int))=true→_)∧((errC (newN id k) != (0:Int))=false→_)
 refine ⟨hs,fun h=>?_,fun h=>?_⟩
 ·have hr:rightC (newN id k)=false:=by
   cases hr:rightC (newN id k)
   ·rfl
   ·rw [errC,hr] at h;simp at h
  have e:newC id k=(zeroN,1):=by rw [newC,hr];rfl
  rw [e]
  refine ⟨rfl,rfl,rfl,rfl,rfl,rfl,rfl,rfl,rfl,rfl,rfl,rfl,rfl,rfl,rfl,rfl,rfl,?_⟩
  show errC (newN id k)=1
  rw [errC,hr];rfl
 ·have hr:rightC (newN id k)=true:=by
   cases hr:rightC (newN id k)
   ·rw [errC,hr] at h;simp at h
   ·rfl
  have e:newC id k=(newN id k,0):=by rw [newC,hr];rfl
  rw [e]
  simp only [newN] at hs ⊢
  simp [hs,hkl]
def patI (n:Node):Int:=IntKind.i64.wrap (6+IntKind.i64.wrap (2*(IntKind.i64.wrap (n.id+n.kept.term)).tmod 5))
theorem tmod5 (x:Int):(Lit.int .i64 (x.tmod 5)).wf=true:=by
 have h:(x.tmod 5).natAbs=x.natAbs % 5:=Int.natAbs_tmod x 5
 have:x.natAbs % 5<5:=Nat.mod_lt _ (by decide)
 exact bd_lit ⟨by omega,by omega⟩
theorem patience_fn (n:Node):FnC Tryz.prog 69 [dNode.can n] (.int .i64 (patI n)) D2:=by
 refine FnG.of_vc (fitsT tab_nil fun _=>none) Tryz.func69 rfl (by decide) rfl 300 (p:=fun (V:List PE→Prop)=>let v0:=Int.tmod (IntKind.wrap IntKind.i64 (Node.id n+Kept.term (Node.kept n))) (5:Int);True∧((5:Int)≠(0:Int)∧Lit.wf (Lit.int IntKind.i64 v0)=true∧True)∧IntKind.wrap IntKind.i64 ((6:Int)+IntKind.wrap IntKind.i64 ((2:Int)*v0))=patI n∧True) (by kernel_rfl) ?_
 simp only [imp_self,implies_true,true_and,and_true,pickB_f,pickB_t]
 exact ⟨⟨by decide,tmod5 _⟩,rfl⟩
def ePat:Ent:=ent1 69 dNode fun n=>([],.int .i64 (patI n),D2)
theorem ePat_ok:EntOk Tryz.prog ePat:=ent1_ok (patience_fn default).1 fun l h=>patience_fn l
end Go.Proofs.YteabcgkjbnecaaaGreat
namespace Go.Proofs.YteabcgkjbnecaaaGreat
open Go.RowKit Go.ChangeShapes Go.WideShapes Go.Deep
def Env.only (E:Env):Env:=⟨E.β,fun i b=>i=0∧E.σ i b⟩
theorem Env.only_zero (E:Env):E.only.zero:=fun i b h=>h.1
theorem Env.only_le (E:Env):E.only.Le E:=⟨fun _ _ h=>h,fun _ _ h=>h.2⟩
def o0:SV→Bool
 | .any=>true
 | .int _ _=>true
 | .bool _=>true
 | .str _=>true
 | .nil=>true
 | .sl ls _=>ls.all (Nat.beq 0)
 | _=>false
def o1:SV→Bool
 | .agg vs=>vs.all o0
 | s=>o0 s
section
variable {E : Env} {w : World}
theorem o0_ok {s : SV} {v : Value} (h : o0 s = true) (hd : DenV E w s v) : DenV E.only w s v := by
  cases s with
  | sl ls r =>
    exact Rd.mono hd (fun b _ ⟨i, hi, hs⟩ => ⟨i, hi, (Nat.eq_of_beq_eq_true (List.all_eq_true.1 h i hi)).symm, hs⟩)
  | any => exact hd
  | int k n => exact hd
  | bool b => exact hd
  | str s => exact hd
  | nil => exact hd
  | _ => simp [o0] at h
theorem o0s_ok : ∀ {ss : List SV} {vs : List Value}, ss.all o0 = true → DenL E w ss vs → DenL E.only w ss vs
  | [], [], _, _ => trivial
  | s :: ss, v :: vs, h, hd => by
    rw [List.all_cons, Bool.and_eq_true] at h
    exact ⟨o0_ok h.1 hd.1, o0s_ok h.2 hd.2⟩
  | [], _ :: _, _, hd => hd.elim
  | _ :: _, [], _, hd => hd.elim
theorem o1_ok {s : SV} {v : Value} (h : o1 s = true) (hd : DenV E w s v) : DenV E.only w s v := by
  cases s with
  | agg vs =>
    obtain ⟨xs, hv, hl⟩ := hd
    exact ⟨xs, hv, o0s_ok h hl⟩
  | _ => exact o0_ok h hd
end
section
variable {P : Program} {σ α β γ δ : Type}
def Dec.strict (a:Dec α) (s:SV):Option α:=bif o1 s then a.dec s else none
theorem Dec.strict_ok (a:Dec α) {s:SV} {x:α} (h:a.strict s=some x) {E:Env} {w:World} {v:Value} (hd:DenV E w s v):DenV E w (a.can x) v:=by
 unfold Dec.strict at h
 cases ho:o1 s
 ·rw [ho] at h;cases h
 ·rw [ho] at h
  exact DenV.mono E.only_le (Same.refl _ _) _ _ (a.ok s x h E.only w v E.only_zero (o1_ok ho hd))
theorem FnG.preN {f:FuncId} {nl:Nat} {mi:List BE} {ins ins':List SV} {out:SV} {mo:List BE} (h:FnG P f nl mi ins out mo) (hd:∀ E w vals,DenL E w ins' vals→DenL E w ins vals):FnG P f nl mi ins' out mo:=
 ⟨h.1,fun w E vals hm hv=>h.2 w E vals hm (hd E w vals hv)⟩
def goN0 (M:Mem σ) (r:σ→R3) (ins:List SV) (mi:List BE):Option R3:=match M.dec mi,ins with
 | some s,[.ptr 2 0]=>some (r s)
 | _,_=>none
variable {f : FuncId} {M : Mem σ} {a : Dec α} {b : Dec β} {c : Dec γ} {nl : Nat} {al gl : List Nat} {vr : List (Nat × TypeId × RL)}
def entN0 (f:FuncId) (nl:Nat) (M:Mem σ) (vr:List (Nat×TypeId×RL)) (al gl:List Nat) (r:σ→R3):Ent:=⟨f,true,al,gl,nl,vr,goN0 M r⟩
theorem entN0_ok {r:σ→R3} (hB:FnB P f) (h:∀ s,(∀ p∈(r s).1,p)→FnG P f nl (M.mi s) [.ptr 2 0] (r s).2.1 (r s).2.2):EntOk P (entN0 f nl M vr al gl r):=by
 refine ⟨hB,fun ins mi n out mo hg hn=>?_⟩
 change goN0 M r ins mi=some (n,out,mo) at hg
 unfold goN0 at hg
 split at hg
 case h_2=>simp at hg
 rename_i s e
 have e:=M.ok _ _ e
 subst e
 simp only [Option.some.injEq] at hg
 have:=h s (by rw [hg];exact hn)
 rwa [hg] at this
end
end Go.Proofs.YteabcgkjbnecaaaGreat
namespace Go.Proofs.YteabcgkjbnecaaaGreat
open Go.RowKit Go.ChangeShapes Go.WideShapes Go.Deep
structure DecL (α:Type) where
 dec:SV→Option α
 can:α→SV
 ok:∀ s x,dec s=some x→∀ E w v,DenV E w s v→DenV E w (can x) v
def Dec.L {α:Type} (a:Dec α):DecL α:=⟨a.strict,a.can,fun s x h E w v hd=>a.strict_ok h hd⟩
def Env.sh (E:Env) (l:Nat):Env:=⟨E.β,fun i b=>i=0∧E.σ l b⟩
theorem Env.sh_zero (E:Env) (l:Nat):(E.sh l).zero:=fun i b h=>h.1
theorem Env.sh_set {E:Env} {l b:Nat} (h:(E.sh l).set [0] b):E.set [l] b:=by
 obtain ⟨i,_,_,hs⟩:=h;exact ⟨l,by simp,hs⟩
def dn0 (l:Nat):SV→Option SV
 | .any=>some .any
 | .int k n=>some (.int k n)
 | .bool b=>some (.bool b)
 | .str s=>some (.str s)
 | .nil=>some .nil
 | .sl ls r=>if ls.all (Nat.beq l) then some (.sl [0] r) else none
 | _=>none
def dnLs (l : Nat) : List SV → Option (List SV)
  | [] => some []
  | s :: r => match dn0 l s, dnLs l r with
    | some a, some b => some (a :: b)
    | _, _ => none
section
variable {E : Env} {w : World} {l : Nat}
theorem dn0_ok {s t : SV} {v : Value} (h : dn0 l s = some t) (hd : DenV E w s v) : DenV (E.sh l) w t v := by
  cases s with
  | sl ls r =>
    simp only [dn0] at h
    split at h
    · rename_i ha
      simp only [Option.some.injEq] at h; subst h
      exact Rd.mono hd (fun b _ ⟨i, hi, hs⟩ => ⟨0, by simp, rfl, by rw [Nat.eq_of_beq_eq_true (List.all_eq_true.1 ha i hi)]; exact hs⟩)
    · cases h
  | any => simp only [dn0, Option.some.injEq] at h; subst h; exact hd
  | int k n => simp only [dn0, Option.some.injEq] at h; subst h; exact hd
  | bool b => simp only [dn0, Option.some.injEq] at h; subst h; exact hd
  | str s => simp only [dn0, Option.some.injEq] at h; subst h; exact hd
  | nil => simp only [dn0, Option.some.injEq] at h; subst h; exact hd
  | _ => simp [dn0] at h
theorem dnLs_ok : ∀ {ss ts : List SV} {vs : List Value}, dnLs l ss = some ts → DenL E w ss vs → DenL (E.sh l) w ts vs
  | [], ts, [], h, _ => by simp only [dnLs, Option.some.injEq] at h; subst h; trivial
  | s :: ss, ts, v :: vs, h, hd => by
    simp only [dnLs] at h
    split at h
    · rename_i a b ha hb
      simp only [Option.some.injEq] at h; subst h
      exact ⟨dn0_ok ha hd.1, dnLs_ok hb hd.2⟩
    · cases h
  | [], _, _ :: _, _, hd => hd.elim
  | _ :: _, _, [], _, hd => hd.elim
end
def Dec.lab {α : Type} (a : Dec α) (l : Nat) (can : α → List SV) (hc : ∀ x E w v, DenV (Env.sh E l) w (a.can x) v → DenV E w (.agg (can x)) v) : DecL α where
  dec := fun s => match s with
    | .agg vs => match dnLs l vs with
      | some us => a.dec (.agg us)
      | none => none
    | _ => none
  can := fun x => .agg (can x)
  ok := by
    intro s x h E w v hd
    split at h
    case h_2 => cases h
    split at h
    case h_2 => cases h
    rename_i vs us hu
    obtain ⟨xs, hv, hl⟩ := hd
    exact hc x E w v (a.ok _ x h (E.sh l) w v (Env.sh_zero E l) ⟨xs, hv, dnLs_ok hu hl⟩)
def dMsg2:DecL Message:=dMessage.lab 2 (fun x=>x.svs [2]) fun x E w v ⟨xs,hv,hl⟩=>⟨xs,hv,Message.svs_of (RdL.mono (fun b _ hb=>Env.sh_set hb) (Message.svs_rd hl))⟩
def dRec2:DecL Record:=dRecord.lab 2 (fun x=>x.svs [2]) fun x E w v ⟨xs,hv,hl⟩=>⟨xs,hv,Record.svs_of (RdL.mono (fun b _ hb=>Env.sh_set hb) (Record.svs_rd hl))⟩
def dEnt2:DecL Entry:=dEntry.lab 2 (fun x=>x.svs [2]) fun x E w v ⟨xs,hv,hl⟩=>⟨xs,hv,Entry.svs_of (RdL.mono (fun b _ hb=>Env.sh_set hb) (Entry.svs_rd hl))⟩
section
variable {P : Program} {σ α β γ δ : Type}
def goL1 (M : Mem σ) (a : DecL α) (r : σ → α → R3) (ins : List SV) (mi : List BE) : Option R3 := match M.dec mi, ins with
  | some s, [.ptr 2 0, x] => match a.dec x with
    | some x => some (r s x)
    | none => none
  | _, _ => none
def goL3 (M : Mem σ) (a : DecL α) (b : DecL β) (c : DecL γ) (r : σ → α → β → γ → R3) (ins : List SV) (mi : List BE) : Option R3 := match M.dec mi, ins with
  | some s, [.ptr 2 0, x, y, z] => match a.dec x, b.dec y, c.dec z with
    | some x, some y, some z => some (r s x y z)
    | _, _, _ => none
  | _, _ => none
variable {f : FuncId} {M : Mem σ} {a : DecL α} {b : DecL β} {c : DecL γ} {nl : Nat} {al gl : List Nat} {vr : List (Nat × TypeId × RL)}
def entL1 (f:FuncId) (nl:Nat) (M:Mem σ) (a:DecL α) (vr:List (Nat×TypeId×RL)) (al gl:List Nat) (r:σ→α→R3):Ent:=⟨f,true,al,gl,nl,vr,goL1 M a r⟩
def entL3 (f:FuncId) (nl:Nat) (M:Mem σ) (a:DecL α) (b:DecL β) (c:DecL γ) (vr:List (Nat×TypeId×RL)) (al gl:List Nat) (r:σ→α→β→γ→R3):Ent:=⟨f,true,al,gl,nl,vr,goL3 M a b c r⟩
theorem entL1_ok {r:σ→α→R3} (hB:FnB P f) (h:∀ s x,(∀ p∈(r s x).1,p)→FnG P f nl (M.mi s) [.ptr 2 0,a.can x] (r s x).2.1 (r s x).2.2):EntOk P (entL1 f nl M a vr al gl r):=by
 refine ⟨hB,fun ins mi n out mo hg hn=>?_⟩
 change goL1 M a r ins mi=some (n,out,mo) at hg
 unfold goL1 at hg
 split at hg
 case h_2=>simp at hg
 rename_i s x e
 have e:=M.ok _ _ e
 subst e
 split at hg
 case h_2=>simp at hg
 rename_i y ey
 simp only [Option.some.injEq] at hg
 have:=h s y (by rw [hg];exact hn)
 rw [hg] at this
 refine this.preN fun E w vals hd=>?_
 match vals,hd with
 | [v,u],hd=>exact ⟨hd.1,a.ok _ _ ey E w u hd.2.1,trivial⟩
theorem entL3_ok {r:σ→α→β→γ→R3} (hB:FnB P f) (h:∀ s x y z,(∀ p∈(r s x y z).1,p)→FnG P f nl (M.mi s) [.ptr 2 0,a.can x,b.can y,c.can z] (r s x y z).2.1 (r s x y z).2.2):EntOk P (entL3 f nl M a b c vr al gl r):=by
 refine ⟨hB,fun ins mi n out mo hg hn=>?_⟩
 change goL3 M a b c r ins mi=some (n,out,mo) at hg
 unfold goL3 at hg
 split at hg
 case h_2=>simp at hg
 rename_i s x y z e
 have e:=M.ok _ _ e
 subst e
 split at hg
 case h_2=>simp at hg
 rename_i p q t ep eq et
 simp only [Option.some.injEq] at hg
 have:=h s p q t (by rw [hg];exact hn)
 rw [hg] at this
 refine this.preN fun E w vals hd=>?_
 match vals,hd with
 | [v,u,t,k],hd=>exact ⟨hd.1,a.ok _ _ ep E w u hd.2.1,b.ok _ _ eq E w t hd.2.2.1,c.ok _ _ et E w k hd.2.2.2.1,trivial⟩
end
end Go.Proofs.YteabcgkjbnecaaaGreat
namespace Go.Proofs.YteabcgkjbnecaaaGreat
open Go.RowKit Go.ChangeShapes Go.WideShapes Go.Deep
set_option maxRecDepth 100000
structure Step where
 n:Node
 o:Out
 deriving Inhabited
--MEM<
def wCs (ls:List Nat) (s:Step) (e q p r c m y l:Nat):List SV:=[.int .i64 s.n.id,.int .i64 s.n.role,.int .i64 s.n.kept.term,.int .i64 s.n.kept.vote,.int .i64 s.n.kept.snap.index,.int .i64 s.n.kept.snap.term,.sl ls (.rInts s.n.kept.snap.config.voters),.sl ls (.rInts s.n.kept.snap.config.learners),.str s.n.kept.snap.data,.own e,.int .i64 s.n.commit,.int .i64 s.n.lead,.int .i64 s.n.elapsed,.own q,.own p,.int .i64 s.n.round,.own r,.own c,.own m,.own y,.own l]
def sCs (ls:List Nat) (s:Step) (q p r c m y l:Nat):List SV:=[.int .i64 s.n.id,.int .i64 s.n.role,.int .i64 s.n.kept.term,.int .i64 s.n.kept.vote,.int .i64 s.n.kept.snap.index,.int .i64 s.n.kept.snap.term,.sl ls (.rInts s.n.kept.snap.config.voters),.sl ls (.rInts s.n.kept.snap.config.learners),.str s.n.kept.snap.data,.sl ls (.rEntry s.n.kept.entries),.int .i64 s.n.commit,.int .i64 s.n.lead,.int .i64 s.n.elapsed,.own q,.own p,.int .i64 s.n.round,.own r,.own c,.own m,.own y,.own l]
def wMi (s:Step):List BE:=[.dead,.dead,.cells 115 (wCs [1] s 3 4 5 6 7 8 9 10),.row 89 [1] (.rEntry s.n.kept.entries),.row 3 [1] (.rInts s.n.yes),.row 94 [1] (.rPeer s.n.peers),.row 96 [1] (.rRead s.n.reads),.row 139 [2] (.rRecord s.o.records),.row 39 [2] (.rMessage s.o.messages),.row 96 [2] (.rRead s.o.ready),.row 3 [2] (.rInts s.o.lost)]
def wMo (s:Step):List BE:=[.dead,.dead,.cells 115 (wCs [1,4] s 11 12 13 14 15 16 17 18),.dead,.dead,.dead,.dead,.dead,.dead,.dead,.dead,.row 89 [1,4] (.rEntry s.n.kept.entries),.row 3 [1,4] (.rInts s.n.yes),.row 94 [1,4] (.rPeer s.n.peers),.row 96 [1,4] (.rRead s.n.reads),.row 139 [2,3] (.rRecord s.o.records),.row 39 [2,3] (.rMessage s.o.messages),.row 96 [2,3] (.rRead s.o.ready),.row 3 [2,3] (.rInts s.o.lost)]
def wMoM (s:Step):List BE:=[.dead,.dead,.cells 115 (wCs [1] s 3 4 5 6 7 11 9 10),.row 89 [1] (.rEntry s.n.kept.entries),.row 3 [1] (.rInts s.n.yes),.row 94 [1] (.rPeer s.n.peers),.row 96 [1] (.rRead s.n.reads),.row 139 [2,3] (.rRecord s.o.records),.dead,.row 96 [2,3] (.rRead s.o.ready),.row 3 [2,3] (.rInts s.o.lost),.row 39 [2,3] (.rMessage s.o.messages)]
def sMi (T:TypeId) (s:Step):List BE:=[.dead,.dead,.cells T (sCs [1] s 3 4 5 6 7 8 9),.row 3 [1] (.rInts s.n.yes),.row 94 [1] (.rPeer s.n.peers),.row 96 [1] (.rRead s.n.reads),.row 139 [2] (.rRecord s.o.records),.row 39 [2] (.rMessage s.o.messages),.row 96 [2] (.rRead s.o.ready),.row 3 [2] (.rInts s.o.lost)]
def sMo (T:TypeId) (s:Step):List BE:=[.dead,.dead,.cells T (sCs [1,4] s 10 11 12 13 14 15 16),.dead,.dead,.dead,.dead,.dead,.dead,.dead,.row 3 [1,4] (.rInts s.n.yes),.row 94 [1,4] (.rPeer s.n.peers),.row 96 [1,4] (.rRead s.n.reads),.row 139 [2,3] (.rRecord s.o.records),.row 39 [2,3] (.rMessage s.o.messages),.row 96 [2,3] (.rRead s.o.ready),.row 3 [2,3] (.rInts s.o.lost)]
def sMoM (T:TypeId) (s:Step):List BE:=[.dead,.dead,.cells T (sCs [1] s 3 4 5 6 10 8 9),.row 3 [1] (.rInts s.n.yes),.row 94 [1] (.rPeer s.n.peers),.row 96 [1] (.rRead s.n.reads),.row 139 [2,3] (.rRecord s.o.records),.dead,.row 96 [2,3] (.rRead s.o.ready),.row 3 [2,3] (.rInts s.o.lost),.row 39 [2,3] (.rMessage s.o.messages)]
def mW : Mem Step where
  mi := wMi
  dec := fun m => match m with
    | [.dead, .dead, .cells 115 [.int .i64 id, .int .i64 role, .int .i64 term, .int .i64 vote, .int .i64 si, .int .i64 st, .sl [1] (.rInts v), .sl [1] (.rInts le), .str d, .own 3, .int .i64 commit, .int .i64 lead, .int .i64 el, .own 4, .own 5, .int .i64 round, .own 6, .own 7, .own 8, .own 9, .own 10], .row 89 [1] (.rEntry es), .row 3 [1] (.rInts yes), .row 94 [1] (.rPeer ps), .row 96 [1] (.rRead rs), .row 139 [2] (.rRecord cs), .row 39 [2] (.rMessage ms), .row 96 [2] (.rRead ys), .row 3 [2] (.rInts lo)] =>
      some ⟨⟨id, role, ⟨term, vote, ⟨si, st, ⟨v, le⟩, d⟩, es⟩, commit, lead, el, yes, ps, round, rs⟩, ⟨cs, ms, ys, lo⟩⟩
    | _ => none
  ok := by
    intro m x h
    split at h
    · simp only [Option.some.injEq] at h; subst h; rfl
    · simp at h
def mSt : Mem Step where
  mi := sMi 125
  dec := fun m => match m with
    | [.dead, .dead, .cells 125 [.int .i64 id, .int .i64 role, .int .i64 term, .int .i64 vote, .int .i64 si, .int .i64 st, .sl [1] (.rInts v), .sl [1] (.rInts le), .str d, .sl [1] (.rEntry es), .int .i64 commit, .int .i64 lead, .int .i64 el, .own 3, .own 4, .int .i64 round, .own 5, .own 6, .own 7, .own 8, .own 9], .row 3 [1] (.rInts yes), .row 94 [1] (.rPeer ps), .row 96 [1] (.rRead rs), .row 139 [2] (.rRecord cs), .row 39 [2] (.rMessage ms), .row 96 [2] (.rRead ys), .row 3 [2] (.rInts lo)] =>
      some ⟨⟨id, role, ⟨term, vote, ⟨si, st, ⟨v, le⟩, d⟩, es⟩, commit, lead, el, yes, ps, round, rs⟩, ⟨cs, ms, ys, lo⟩⟩
    | _ => none
  ok := by
    intro m x h
    split at h
    · simp only [Option.some.injEq] at h; subst h; rfl
    · simp at h
def vrW:List (Nat×TypeId×RL):=[(9,89,.rEntry []),(13,3,.rInts []),(14,94,.rPeer []),(16,96,.rRead []),(17,139,.rRecord []),(18,39,.rMessage []),(19,96,.rRead []),(20,3,.rInts [])]
def vrS:List (Nat×TypeId×RL):=[(13,3,.rInts []),(14,94,.rPeer []),(16,96,.rRead []),(17,139,.rRecord []),(18,39,.rMessage []),(19,96,.rRead []),(20,3,.rInts [])]
def glW:List Nat:=[1,1,1,1,1,2,2,2,2]
def glS:List Nat:=[1,1,1,1,2,2,2,2]
--MEM>
def msgS (s:Step) (m:Message):Message:=⟨m.kind,s.n.id,m.to_,if m.term=0 then s.n.kept.term else m.term,m.index,m.logTerm,m.entries,m.commit,m.round,m.ok,m.snap,m.ask,m.seq,m.data⟩
def sendS (s:Step) (m:Message):Step:=⟨s.n,⟨s.o.records,s.o.messages++[msgS s m],s.o.ready,s.o.lost⟩⟩
theorem pickI_self (b:Bool) (x:Int):pickI b x x=x:=by cases b<;>rfl
theorem pickB_self (b:Bool) (x:Bool):pickB b x x=x:=by cases b<;>rfl
theorem pickI_eq (x y z:Int):pickI (x==0) y z=if x=0 then y else z:=by unfold pickI;by_cases h:x=0<;>simp [h]
theorem send_fn (s:Step) (m:Message) (hl:s.o.messages.length≤1000000):FnG Tryz.prog 141 3 (wMi s) [.ptr 2 0,dMsg2.can m] (.tup []) (wMoM (sendS s m)):=by
 refine FnG.of_vc (fitsT tab_nil fun _=>none) Tryz.func141 rfl (by decide) rfl 300 (p:=fun (V:List PE→Prop)=>let v0:=Message.logTerm m;let v1:=Message.entries m;let v2:=Message.snap m;let v3:=Step.n s;let v4:=Step.o s;let v5:=v2.term;let v6:=v4.messages;let v7:=v3.id;let v8:=v2.data;let v9:=v2.index;let v10:=v3.kept;let v11:=v2.config;let v12:=Step.n (sendS s m);let v13:=v10.term;let v14:=v11.learners;let v15:=v10.snap;let v16:=Step.o (sendS s m);let v17:=v11.voters;let v18:=v12.kept;let v19:=v15.config;let v20:=v18.snap;let v21:=v20.config;let v22:=Message.term m==(0:Int);let v23:=[Message.mk (pickI v22 (Message.kind m) (Message.kind m)) (pickI v22 v7 v7) (pickI v22 (Message.to_ m) (Message.to_ m)) (pickI v22 v13 (Message.term m)) (pickI v22 (Message.index m) (Message.index m)) (pickI v22 v0 v0) (if v22=true then v1 else v1) (pickI v22 (Message.commit m) (Message.commit m)) (pickI v22 (Message.round m) (Message.round m)) (pickB v22 (Message.ok m) (Message.ok m)) (Snap.mk (pickI v22 v9 v9) (pickI v22 v5 v5) (Config.mk (if v22=true then v17 else v17) (if v22=true then v14 else v14)) (if v22=true then v8 else v8)) (pickI v22 (Message.ask m) (Message.ask m)) (pickI v22 (Message.seq m) (Message.seq m)) (if v22=true then Message.data m else Message.data m)];True∧True∧True∧True∧((List.length v6+List.length v23)*(1024:Nat)≤(140737488355328:Nat)∧True)∧v7=v12.id∧v3.role=v12.role∧v13=v18.term∧v10.vote=v18.vote∧v15.index=v20.index∧v15.term=v20.term∧v19.voters=v21.voters∧v19.learners=v21.learners∧v15.data=v20.data∧v3.commit=v12.commit∧v3.lead=v12.lead∧v3.elapsed=v12.elapsed∧v3.round=v12.round∧v10.entries=v18.entries∧v3.yes=v12.yes∧v3.peers=v12.peers∧v3.reads=v12.reads∧v4.records=v16.records∧v4.ready=v16.ready∧v4.lost=v16.lost∧v6++v23=v16.messages∧True) (by kernel_rfl) ?_
 simp only [imp_self,implies_true,true_and,and_true,pickB_f,pickB_t,pickI_self,pickB_self,ite_self,sendS,msgS,pickI_eq,List.length_cons,List.length_nil]
 omega
def eSend:Ent:=entL1 141 3 mW dMsg2 vrW [1,2] glW fun s m=>([s.o.messages.length≤1000000],.tup [],wMoM (sendS s m))
theorem eSend_ok:EntOk Tryz.prog eSend:=entL1_ok (send_fn default default (by decide)).1 fun s m h=>send_fn s m (h _ (by simp))
theorem rsend_fn (s:Step) (m:Message) (hl:s.o.messages.length≤1000000):FnG Tryz.prog 192 3 (sMi 125 s) [.ptr 2 0,dMsg2.can m] (.tup []) (sMoM 125 (sendS s m)):=by
 refine FnG.of_vc (fitsT tab_nil fun _=>none) Tryz.func192 rfl (by decide) rfl 300 (p:=fun (V:List PE→Prop)=>let v0:=Message.logTerm m;let v1:=Step.o s;let v2:=Message.entries m;let v3:=Message.snap m;let v4:=Step.n s;let v5:=v3.term;let v6:=v4.id;let v7:=v3.index;let v8:=v3.data;let v9:=v3.config;let v10:=v1.messages;let v11:=v4.kept;let v12:=v11.snap;let v13:=v9.learners;let v14:=Step.o (sendS s m);let v15:=v11.term;let v16:=v9.voters;let v17:=Step.n (sendS s m);let v18:=v17.kept;let v19:=v12.config;let v20:=v18.snap;let v21:=v20.config;let v22:=Message.term m==(0:Int);let v23:=[Message.mk (pickI v22 (Message.kind m) (Message.kind m)) (pickI v22 v6 v6) (pickI v22 (Message.to_ m) (Message.to_ m)) (pickI v22 v15 (Message.term m)) (pickI v22 (Message.index m) (Message.index m)) (pickI v22 v0 v0) (if v22=true then v2 else v2) (pickI v22 (Message.commit m) (Message.commit m)) (pickI v22 (Message.round m) (Message.round m)) (pickB v22 (Message.ok m) (Message.ok m)) (Snap.mk (pickI v22 v7 v7) (pickI v22 v5 v5) (Config.mk (if v22=true then v16 else v16) (if v22=true then v13 else v13)) (if v22=true then v8 else v8)) (pickI v22 (Message.ask m) (Message.ask m)) (pickI v22 (Message.seq m) (Message.seq m)) (if v22=true then Message.data m else Message.data m)];True∧True∧True∧True∧((List.length v10+List.length v23)*(1024:Nat)≤(140737488355328:Nat)∧True)∧v6=v17.id∧v4.role=v17.role∧v15=v18.term∧v11.vote=v18.vote∧v12.index=v20.index∧v12.term=v20.term∧v19.voters=v21.voters∧v19.learners=v21.learners∧v12.data=v20.data∧v11.entries=v18.entries∧v4.commit=v17.commit∧v4.lead=v17.lead∧v4.elapsed=v17.elapsed∧v4.round=v17.round∧v4.yes=v17.yes∧v4.peers=v17.peers∧v4.reads=v17.reads∧v1.records=v14.records∧v1.ready=v14.ready∧v1.lost=v14.lost∧v10++v23=v14.messages∧True) (by kernel_rfl) ?_
 simp only [imp_self,implies_true,true_and,and_true,pickB_f,pickB_t,pickI_self,pickB_self,ite_self,sendS,msgS,pickI_eq,List.length_cons,List.length_nil]
 omega
def eRSend:Ent:=entL1 192 3 mSt dMsg2 vrS [1,2] glS fun s m=>([s.o.messages.length≤1000000],.tup [],sMoM 125 (sendS s m))
theorem eRSend_ok:EntOk Tryz.prog eRSend:=entL1_ok (rsend_fn default default (by decide)).1 fun s m h=>rsend_fn s m (h _ (by simp))
def recK (k:Kept) (r:Record):Kept:=
 if r.kind=1 then {k with term:=r.term,vote:=r.vote}
 else if r.kind=2 then {k with entries:=k.entries++[r.entry]}
 else if r.kind=3 then {k with entries:=k.entries.take (IntKind.i64.wrap (IntKind.i64.wrap (r.index - 1) - k.snap.index)).toNat}
 else if r.kind=4 then {k with entries:=(if (termC k r.snap.index).2=0∧(termC k r.snap.index).1=r.snap.term then k.entries.drop (IntKind.i64.wrap (r.snap.index - k.snap.index)).toNat else []),snap:=r.snap}
 else k
def recS (s:Step) (r:Record):Step:=⟨{s.n with kept:=recK s.n.kept r},{s.o with records:=s.o.records++[r]}⟩
structure SmallR (r:Record):Prop where
 e:SmallE r.entry
 s:SmallC r.snap.config
def cutOk (k:Kept) (r:Record):Prop:=r.kind=3→0≤IntKind.i64.wrap (IntKind.i64.wrap (r.index - 1) - k.snap.index)∧IntKind.i64.wrap (IntKind.i64.wrap (r.index - 1) - k.snap.index)≤(k.entries.length:Int)
def tabW1:List Ent:=[eOwnEs,eOwnSN,eTermC]
theorem tabW1_ok:∀ e∈tabW1,EntOk Tryz.prog e:=tab_cons eOwnEs_ok (tab_cons eOwnSN_ok (tab_cons eTermC_ok tab_nil))
theorem record_fn (s:Step) (r:Record) (hl:s.o.records.length≤1000000) (he:s.n.kept.entries.length≤1000000) (hr:SmallR r) (hc:cutOk s.n.kept r) (h4:r.kind≠4):FnG Tryz.prog 100 3 (wMi s) [.ptr 2 0,dRec2.can r] (.tup []) (wMo (recS s r)):=by
 refine FnG.of_vc (fitsT tabW1_ok fun _=>none) Tryz.func100 rfl (by decide) rfl 300 (p:=fun (V:List PE→Prop)=>let v0:=Record.kind r;let v1:=Step.o s;let v2:=Record.snap r;let v3:=Step.n s;let v4:=v3.kept;let v5:=v2.term;let v6:=v2.index;let v7:=v2.config;let v8:=v1.records;let v9:=v4.entries;let v10:=Step.n (recS s r);let v11:=v4.snap;let v12:=Step.o (recS s r);let v13:=v10.kept;let v14:=v11.config;let v15:=v11.index;let v16:=v13.term;let v17:=v13.snap;let v18:=v13.entries;let v19:=v13.vote;let v20:=[Record.entry r];let v21:=List.length v9;let v22:=v17.term;let v23:=v17.data;let v24:=termC v4 v6;let v25:=v17.index;let v26:=v17.config;let v27:=List.length v20;let v28:=v26.learners;let v29:=v26.voters;let v30:=(↑v21:Int);let v31:=v0==(3:Int);let v32:=v0==(2:Int);let v33:=v0==(1:Int);let v34:=v0==(4:Int);let v35:=IntKind.wrap IntKind.i64 (v6 - v15);let v36:=Prod.snd v24==(0:Int);let v37:=IntKind.wrap IntKind.i64 (IntKind.wrap IntKind.i64 (Record.index r - (1:Int)) - v15);let v38:=pickB v36 (Prod.fst v24==v5) false;True∧True∧True∧True∧True∧(v33=true→True∧((List.length v8+List.length [r])*(1024:Nat)≤(140737488355328:Nat)∧True)∧v3.id=v10.id∧v3.role=v10.role∧Record.term r=v16∧Record.vote r=v19∧v15=v25∧v11.term=v22∧v14.voters=v29∧v14.learners=v28∧v11.data=v23∧v3.commit=v10.commit∧v3.lead=v10.lead∧v3.elapsed=v10.elapsed∧v3.round=v10.round∧v9=v18∧v3.yes=v10.yes∧v3.peers=v10.peers∧v3.reads=v10.reads∧v8++[r]=v12.records∧v1.messages=v12.messages∧v1.ready=v12.ready∧v1.lost=v12.lost∧True)∧(v33=false→True∧True∧(v32=true→(v27≤(17592186044416:Nat)∧SmallL v20∧(v21+v27)*(1024:Nat)≤(140737488355328:Nat)∧True)∧((List.length v8+List.length [r])*(1024:Nat)≤(140737488355328:Nat)∧True)∧v3.id=v10.id∧v3.role=v10.role∧v4.term=v16∧v4.vote=v19∧v15=v25∧v11.term=v22∧v14.voters=v29∧v14.learners=v28∧v11.data=v23∧v3.commit=v10.commit∧v3.lead=v10.lead∧v3.elapsed=v10.elapsed∧v3.round=v10.round∧v9++v20=v18∧v3.yes=v10.yes∧v3.peers=v10.peers∧v3.reads=v10.reads∧v8++[r]=v12.records∧v1.messages=v12.messages∧v1.ready=v12.ready∧v1.lost=v12.lost∧True)∧(v32=false→True∧True∧(v31=true→((0:Int)≤v37∧v37≤v30∧True)∧((List.length v8+List.length [r])*(1024:Nat)≤(140737488355328:Nat)∧True)∧v3.id=v10.id∧v3.role=v10.role∧v4.term=v16∧v4.vote=v19∧v15=v25∧v11.term=v22∧v14.voters=v29∧v14.learners=v28∧v11.data=v23∧v3.commit=v10.commit∧v3.lead=v10.lead∧v3.elapsed=v10.elapsed∧v3.round=v10.round∧List.take (Int.toNat v37) v9=v18∧v3.yes=v10.yes∧v3.peers=v10.peers∧v3.reads=v10.reads∧v8++[r]=v12.records∧v1.messages=v12.messages∧v1.ready=v12.ready∧v1.lost=v12.lost∧True)∧(v31=false→True∧True∧(v34=true→(v21≤(17592186044416:Nat)∧True)∧((v36=true→v36=true)∧(v36=true→v36=true)∧(v36=true→v36=true)∧(v36=true→v36=true)∧(v36=true→v36=true)∧True)∧True∧(v38=true→((0:Int)≤v35∧v35≤v30∧v30≤v30∧v21≤(17592186044416:Nat)∧True)∧(SmallC v7∧True)∧((List.length v8+List.length [r])*(1024:Nat)≤(140737488355328:Nat)∧True)∧False)∧(v38=false→True∧(SmallC v7∧True)∧((List.length v8+List.length [r])*(1024:Nat)≤(140737488355328:Nat)∧True)∧v3.id=v10.id∧v3.role=v10.role∧v4.term=v16∧v4.vote=v19∧v6=v25∧v5=v22∧v7.voters=v29∧v7.learners=v28∧v2.data=v23∧v3.commit=v10.commit∧v3.lead=v10.lead∧v3.elapsed=v10.elapsed∧v3.round=v10.round∧v18=[]∧v3.yes=v10.yes∧v3.peers=v10.peers∧v3.reads=v10.reads∧v8++[r]=v12.records∧v1.messages=v12.messages∧v1.ready=v12.ready∧v1.lost=v12.lost∧True))∧(v34=false→((List.length v8+List.length [r])*(1024:Nat)≤(140737488355328:Nat)∧True)∧v3.id=v10.id∧v3.role=v10.role∧v4.term=v16∧v4.vote=v19∧v15=v25∧v11.term=v22∧v14.voters=v29∧v14.learners=v28∧v11.data=v23∧v3.commit=v10.commit∧v3.lead=v10.lead∧v3.elapsed=v10.elapsed∧v3.round=v10.round∧v9=v18∧v3.yes=v10.yes∧v3.peers=v10.peers∧v3.reads=v10.reads∧v8++[r]=v12.records∧v1.messages=v12.messages∧v1.ready=v12.ready∧v1.lost=v12.lost∧True))))) (by kernel_rfl) ?_
 simp only [imp_self,implies_true,true_and,and_true,pickB_f,pickB_t,pickI_self,pickB_self,ite_self]
 have hsl:SmallL [r.entry]:=⟨by simp,fun x hx=>by simp only [List.mem_singleton] at hx;subst hx;exact hr.e⟩
 simp only [List.length_cons,List.length_nil,List.take_length]
 refine ⟨fun h=>?_,fun h1=>⟨fun h=>?_,fun h2=>⟨fun h=>?_,fun h3=>⟨fun h=>?_,fun h5=>?_⟩⟩⟩⟩
 ·have e:r.kind=1:=by simpa using h
  simp only [recS,recK,e,if_true,true_and,and_true];omega
 ·have e:r.kind=2:=by simpa using h
  simp [recS,recK,e,hsl];omega
 ·have e:r.kind=3:=by simpa using h
  have:=hc e
  simp [recS,recK,e];omega
 ·have e:r.kind=4:=by simpa using h
  exact absurd e h4
 ·have e1:¬ r.kind=1:=by simpa using h1
  have e2:¬ r.kind=2:=by simpa using h2
  have e3:¬ r.kind=3:=by simpa using h3
  have e4:¬ r.kind=4:=by simpa using h5
  simp [recS,recK,e1,e2,e3,e4];omega
def eRec:Ent:=entL1 100 3 mW dRec2 vrW [1,2] glW fun s r=>([s.o.records.length≤1000000,s.n.kept.entries.length≤1000000,SmallR r,cutOk s.n.kept r,r.kind≠4],.tup [],wMo (recS s r))
theorem smallR0:SmallR default:=⟨⟨by decide,by decide⟩,⟨by decide,by decide⟩⟩
theorem eRec_ok:EntOk Tryz.prog eRec:=entL1_ok (record_fn default default (by decide) (by decide) smallR0 (fun h=>by cases h) (by decide)).1 fun s r h=>record_fn s r (h _ (by simp)) (h _ (by simp)) (h _ (by simp)) (h _ (by simp)) (h _ (by simp))
def Step.svs (ls:List Nat) (s:Step):List SV:=s.n.svs ls++s.o.svs ls
theorem svs_rel {E:Env} {w:World} (hz:E.zero) {n:Node} {o:Out} {m k:List Nat} {xs ys:List Value} (h1:DenL E w (n.svs m) xs) (h2:DenL E w (o.svs k) ys):DenL E w (Step.svs [0] ⟨n,o⟩) (xs++ys):=
 DenL.app (Node.svs_of (RdL.mono (fun b _ hb=>hz.set hb) (Node.svs_rd h1))) (Out.svs_of (RdL.mono (fun b _ hb=>hz.set hb) (Out.svs_rd h2)))
def dRpS (T:TypeId):Dec Step where
 dec:=fun s=>match s with
  | .rp _ T' cs 0=>if T'=T then (match Node.of (cs.take 17),Out.of (cs.drop 17) with | some (n,_),some (o,_)=>some ⟨n,o⟩ | _,_=>none) else none
  | _=>none
 can:=fun s=> .rp [0] T (s.svs [0]) 0
 Okp:=fun s=>s.n.Ok
 okp:=fun s E w v ⟨_,xs,_,_,_,hl⟩=>by
  have h:=hl.take 17
  have e:(Step.svs [0] s).take 17=s.n.svs [0]:=by unfold Step.svs;exact List.take_left' rfl
  rw [e] at h
  exact Node.ok_of (Node.svs_rd h)
 ok:=by
  intro s x h E w v hz hd
  split at h
  case h_2=>cases h
  rename_i ls T' cs
  split at h
  case isFalse=>cases h
  rename_i hT
  subst hT
  split at h
  case h_2=>cases h
  rename_i n m o k e1 e2
  simp only [Option.some.injEq] at h
  subst h
  obtain ⟨b,xs,hv,hb,hh,hl⟩:=hd
  have h3:=svs_rel hz (Node.of_ok e1 (hl.take 17)) (Out.of_ok e2 (hl.drop 17))
  rw [List.take_append_drop] at h3
  exact ⟨b,xs,hv,hz.set hb,hh,h3⟩
noncomputable def tabX:List Ent:=[eLastC,eConfN,eReached,eSend,eRec]
theorem tabX_ok:∀ e∈tabX,EntOk Tryz.prog e:=tab_cons eLastC_ok (tab_cons eConfN_ok (tab_cons eReached_ok (tab_cons eSend_ok (tab_cons eRec_ok tab_nil))))
theorem wlast_fn (s:Step):FnC Tryz.prog 113 [(dRpS 115).can s] (.int .i64 (lastC s.n.kept).1) D2:=by
 refine FnG.of_vc (fitsT tabX_ok fun _=>none) Tryz.func113 rfl (by decide) rfl 300 (p:=fun (V:List PE→Prop)=>let v0:=Prod.fst (lastC (Node.kept (Step.n s)));True∧True∧True∧v0=v0∧True) (by kernel_rfl) ?_
 simp only [imp_self,implies_true,true_and,and_true,pickB_f,pickB_t]
def eWLast:Ent:=ent1 113 (dRpS 115) fun s=>([],.int .i64 (lastC s.n.kept).1,D2)
theorem eWLast_ok:EntOk Tryz.prog eWLast:=ent1_ok (wlast_fn default).1 fun s h=>wlast_fn s
def enoughB (n:Node):Bool:=mayC (confC n)&&reachC (confC n).voters n.yes
theorem wenough_fn (s:Step) (hn:SmallN s.n):FnC Tryz.prog 139 [(dRpS 115).can s] (.bool (enoughB s.n)) D2:=by
 refine FnG.of_vc (fitsT tabX_ok fun _=>none) Tryz.func139 rfl (by decide) rfl 300 (p:=fun (V:List PE→Prop)=>let v0:=Step.n s;let v1:=confC v0;True∧(SmallN v0∧SmallC v1∧True)∧(mayC v1&&reachC (v1.voters) (v0.yes))=enoughB v0∧True) (by kernel_rfl) ?_
 simp only [imp_self,implies_true,true_and,and_true,pickB_f,pickB_t]
 exact ⟨⟨hn,confC_small hn⟩,rfl⟩
def eEnough:Ent:=ent1 139 (dRpS 115) fun s=>([SmallN s.n],.bool (enoughB s.n),D2)
theorem eEnough_ok:EntOk Tryz.prog eEnough:=ent1_ok (wenough_fn default smallN0).1 fun s h=>wenough_fn s (h _ (by simp))
def runS (s:Step) (role:Int):Step:=⟨{s.n with elapsed:=0,lead:=0,role:=role,yes:=[s.n.id]},s.o⟩
theorem runS_small {s:Step} {role:Int} (h:SmallN s.n):SmallN (runS s role).n:=⟨h.k,by simp [runS],h.peers,h.reads⟩
structure SmallO (o:Out):Prop where
 records:o.records.length≤1000000
 messages:o.messages.length≤1000000
 ready:o.ready.length≤1000000
 lost:o.lost.length≤1000000
theorem SmallN.ls {n:Node} (h:SmallN n):n.kept.entries.length≤17592186044416∧n.yes.length≤17592186044416∧n.peers.length≤17592186044416∧n.reads.length≤17592186044416∧n.kept.entries.length≤1000000:=by
 have h1:=h.k.1.1;have h2:=h.yes;have h3:=h.peers;have h4:=h.reads
 omega
theorem SmallO.ls {n:Out} (h:SmallO n):n.records.length≤17592186044416∧n.messages.length≤17592186044416∧n.ready.length≤17592186044416∧n.lost.length≤17592186044416:=by
 have h1:=h.records;have h2:=h.messages;have h3:=h.ready;have h4:=h.lost
 omega
theorem run_fn (s:Step) (role:Int) (hn:SmallN s.n) (ho:SmallO s.o):FnG Tryz.prog 78 3 (wMi s) [.ptr 2 0,dInt.L.can role] (.bool (enoughB (runS s role).n)) (wMo (runS s role)):=by
 refine FnG.of_vc (fitsT (tab_cons eEnough_ok tab_nil) fun _=>none) Tryz.func78 rfl (by decide) rfl 300 (p:=fun (V:List PE→Prop)=>let v0:=Step.o s;let v1:=Step.n s;let v2:=v0.records;let v3:=v1.id;let v4:=v1.kept;let v5:=v1.round;let v6:=v0.lost;let v7:=v1.reads;let v8:=v0.ready;let v9:=v0.messages;let v10:=v1.commit;let v11:=v1.peers;let v12:=Step.o (runS s role);let v13:=Step.n (runS s role);let v14:=v4.snap;let v15:=v4.entries;let v16:=v13.kept;let v17:=(0:Int);let v18:=v14.config;let v19:=v16.snap;let v20:=[v3];let v21:=v19.config;let v22:=Node.mk v3 role v4 v10 v17 v17 v20 v11 v5 v7;True∧True∧(List.length v15≤(17592186044416:Nat)∧List.length v20≤(17592186044416:Nat)∧List.length v11≤(17592186044416:Nat)∧List.length v7≤(17592186044416:Nat)∧List.length v2≤(17592186044416:Nat)∧List.length v9≤(17592186044416:Nat)∧List.length v8≤(17592186044416:Nat)∧List.length v6≤(17592186044416:Nat)∧SmallN v22∧True)∧enoughB v22=enoughB v13∧v3=v13.id∧role=v13.role∧v4.term=v16.term∧v4.vote=v16.vote∧v14.index=v19.index∧v14.term=v19.term∧v18.voters=v21.voters∧v18.learners=v21.learners∧v14.data=v19.data∧v10=v13.commit∧v17=v13.lead∧v17=v13.elapsed∧v5=v13.round∧v15=v16.entries∧v20=v13.yes∧v11=v13.peers∧v7=v13.reads∧v2=v12.records∧v9=v12.messages∧v8=v12.ready∧v6=v12.lost∧True) (by kernel_rfl) ?_
 simp only [imp_self,implies_true,true_and,and_true,pickB_f,pickB_t]
 obtain ⟨b1,b2,b3,b4,_⟩:=hn.ls
 obtain ⟨c1,c2,c3,c4⟩:=ho.ls
 refine ⟨⟨b1,by simp,b3,b4,c1,c2,c3,c4,runS_small (role:=role) hn⟩,?_⟩
 simp only [runS,and_self]
def eRun:Ent:=entL1 78 3 mW dInt.L vrW [1,0] glW fun s role=>([SmallN s.n,SmallO s.o],.bool (enoughB (runS s role).n),wMo (runS s role))
theorem smallO0:SmallO default:=⟨by decide,by decide,by decide,by decide⟩
theorem eRun_ok:EntOk Tryz.prog eRun:=entL1_ok (run_fn default 0 smallN0 smallO0).1 fun s r h=>run_fn s r (h _ (by simp)) (h _ (by simp))
def layE (s:Step) (e:Entry):Entry:={e with index:=IntKind.i64.wrap ((lastC s.n.kept).1+1),term:=s.n.kept.term}
def layS (s:Step) (e:Entry):Step:=recS s (entR (layE s e))
theorem lay_fn (s:Step) (e:Entry) (hn:SmallN s.n) (ho:SmallO s.o) (he:SmallE e):FnG Tryz.prog 105 3 (wMi s) [.ptr 2 0,dEnt2.can e] (.tup []) (wMo (layS s e)):=by
 refine FnG.of_vc (fitsT (tab_cons eWLast_ok tabX_ok) fun _=>none) Tryz.func105 rfl (by decide) rfl 300 (p:=fun (V:List PE→Prop)=>let v0:=Step.o s;let v1:=Step.n s;let v2:=v1.kept;let v3:=Step.o (layS s e);let v4:=Step.n (layS s e);let v5:=List.length (v0.records);let v6:=(0:Int);let v7:=v4.kept;let v8:=List.length (v2.entries);let v9:=v7.snap;let v10:=v9.config;let v11:=Record.mk (2:Int) v6 v6 (Entry.mk (IntKind.wrap IntKind.i64 (Prod.fst (lastC v2)+(1:Int))) (v2.term) (Entry.kind e) (Entry.config e) (Entry.data e)) v6 (Snap.mk v6 v6 (Config.mk [] []) (ByteArray.mk #[]));let v12:=recS s v11;let v13:=v12.n;let v14:=v12.o;let v15:=v13.kept;let v16:=v15.snap;let v17:=v16.config;True∧(v8≤(17592186044416:Nat)∧List.length (v1.yes)≤(17592186044416:Nat)∧List.length (v1.peers)≤(17592186044416:Nat)∧List.length (v1.reads)≤(17592186044416:Nat)∧v5≤(17592186044416:Nat)∧List.length (v0.messages)≤(17592186044416:Nat)∧List.length (v0.ready)≤(17592186044416:Nat)∧List.length (v0.lost)≤(17592186044416:Nat)∧True)∧(v5≤(1000000:Nat)∧v8≤(1000000:Nat)∧SmallR v11∧cutOk v2 v11∧(2:Int)≠(4:Int)∧True)∧v13.id=v4.id∧v13.role=v4.role∧v15.term=v7.term∧v15.vote=v7.vote∧v16.index=v9.index∧v16.term=v9.term∧v17.voters=v10.voters∧v17.learners=v10.learners∧v16.data=v9.data∧v13.commit=v4.commit∧v13.lead=v4.lead∧v13.elapsed=v4.elapsed∧v13.round=v4.round∧v15.entries=v7.entries∧v13.yes=v4.yes∧v13.peers=v4.peers∧v13.reads=v4.reads∧v14.records=v3.records∧v14.messages=v3.messages∧v14.ready=v3.ready∧v14.lost=v3.lost∧True) (by kernel_rfl) ?_
 simp only [imp_self,implies_true,true_and,and_true,pickB_f,pickB_t]
 obtain ⟨b1,b2,b3,b4,b5⟩:=hn.ls
 obtain ⟨c1,c2,c3,c4⟩:=ho.ls
 refine ⟨⟨b1,b2,b3,b4,c1,c2,c3,c4⟩,⟨ho.records,b5,⟨he,⟨Nat.zero_le _,Nat.zero_le _⟩⟩,(fun h=>absurd (show (2:Int)=3 from h) (by decide)),by decide⟩,?_⟩
 simp only [layS,layE,entR,zs,and_self]
def eLay:Ent:=entL1 105 3 mW dEnt2 vrW [1,2] glW fun s e=>([SmallN s.n,SmallO s.o,SmallE e],.tup [],wMo (layS s e))
theorem eLay_ok:EntOk Tryz.prog eLay:=entL1_ok (lay_fn default default smallN0 smallO0 ⟨by decide,by decide⟩).1 fun s r h=>lay_fn s r (h _ (by simp)) (h _ (by simp)) (h _ (by simp))
def askM (s:Step) (m:Message) (v:Int):Message:={m with index:=(lastC s.n.kept).1,logTerm:=(lastC s.n.kept).2,to_:=v}
def askS (s:Step) (m:Message):Step:=⟨s.n,{s.o with messages:=s.o.messages++(dropL (confC s.n).voters s.n.id).map fun v=>msgS s (askM s m v)}⟩
theorem ask_fn18 (s:Step) (m:Message) (hn:SmallN s.n) (ho:SmallO s.o) (hm:s.o.messages.length≤900000) (hv:(confC s.n).voters.length≤4000):FnG Tryz.prog 80 3 (wMi s) [.ptr 2 0,dMsg2.can m] (.tup []) (wMoM (askS s m)):=by
 refine FnG.of_vc (fitsT tabX_ok fun _=>none) Tryz.func80 rfl (by decide) rfl 300 (p:=fun (V:List PE→Prop)=>let v0:=Step.n s;True∧(List.length (Kept.entries (v0.kept))≤(17592186044416:Nat)∧True)∧(List.length (Kept.entries (v0.kept))≤(17592186044416:Nat)∧List.length (v0.yes)≤(17592186044416:Nat)∧List.length (v0.peers)≤(17592186044416:Nat)∧List.length (v0.reads)≤(17592186044416:Nat)∧SmallN v0∧True)∧V []) (by kernel_rfl) ?_
 simp only [imp_self,implies_true,true_and,and_true,pickB_f,pickB_t]
 obtain ⟨b1,b2,b3,b4,b5⟩:=hn.ls
 obtain ⟨V,hV⟩:∃ V,(confC s.n).voters=V:=⟨_,rfl⟩
 refine ⟨b1,⟨b1,b2,b3,b4,hn⟩,?_⟩
 refine LoopG.head (fitsT tabX_ok fun _=>none) 0 (A:=Nat×Int) (fun j=>j.1≤V.length) (fun j=>[(24,.int .i64 j.1),(23,.int .i64 (V.length:Int)),(22,.sl [60] (.rInts V))]) (fun j=>[(2,.cells 115 (wCs [1] s 3 4 5 6 7 12 9 10)),(7,.row 139 [2,61] (.rRecord s.o.records)),(9,.row 96 [2,61] (.rRead s.o.ready)),(10,.row 3 [2,61] (.rInts s.o.lost)),(8,.dead),(12,.row 39 [2,61] (.rMessage (s.o.messages++(dropL (V.take j.1) s.n.id).map fun v=>msgS s (askM s m v)))),(11,.cells 39 ((askM s m j.2).svs [2])),(60,.dead),(61,.dead)]) (fun j=>V.length - j.1) (0,m.to_) (Nat.zero_le _) (p0:=let v0:=Message.snap m;let v1:=Step.o s;let v2:=Step.n s;let v3:=v1.ready;let v4:=v2.round;let v5:=v2.id;let v6:=v2.peers;let v7:=v1.messages;let v8:=v1.lost;let v9:=v2.kept;let v10:=v2.elapsed;let v11:=v2.role;let v12:=v2.yes;let v13:=v2.lead;let v14:=v2.commit;let v15:=v1.records;let v16:=v2.reads;let v17:=v0.config;let v18:=lastC v9;let v19:=v9.vote;let v20:=v9.entries;let v21:=Config.voters (confC v2);let v22:=v9.term;let v23:=v9.snap;let v24:=askM s m (Message.to_ m);let v25:=v23.config;let v26:=v23.term;let v27:=v23.index;let v28:=v23.data;let v29:=v25.learners;let v30:=v25.voters;let v31:=v24.snap;let v32:=v31.config;(0:Int)=(↑(0:Nat):Int)∧(↑(List.length v21):Int)=(↑(List.length V):Int)∧v21=V∧v5=v5∧v11=v11∧v22=v22∧v19=v19∧v27=v27∧v26=v26∧v30=v30∧v29=v29∧v28=v28∧v14=v14∧v13=v13∧v10=v10∧v4=v4∧v15=v15∧v3=v3∧v8=v8∧v7=v7++List.map (fun (v:Int)=>msgS s (askM s m v)) (dropL (List.take (0:Nat) V) v5)∧Message.kind m=v24.kind∧Message.from_ m=v24.from_∧Message.to_ m=v24.to_∧Message.term m=v24.term∧Prod.fst v18=v24.index∧Prod.snd v18=Message.logTerm v24∧Message.entries m=v24.entries∧Message.commit m=v24.commit∧Message.round m=v24.round∧Message.ok m=v24.ok∧v0.index=v31.index∧v0.term=v31.term∧v17.voters=v32.voters∧v17.learners=v32.learners∧v0.data=v31.data∧Message.ask m=v24.ask∧Message.seq m=v24.seq∧Message.data m=v24.data∧v20=v20∧v12=v12∧v6=v6∧v16=v16∧True) (by kernel_rfl) ?_ 300 (p:=fun (x:Nat×Int) (V_1:List PE→Prop)=>let v0:=Step.n s;let v1:=Step.o s;let v2:=v0.id;let v3:=v0.kept;let v4:=v3.snap;let v5:=Prod.fst x;let v6:=Step.o (askS s m);let v7:=Step.n (askS s m);let v8:=v7.kept;let v9:=v4.config;let v10:=(↑(List.length V):Int);let v11:=v8.snap;let v12:=v11.config;let v13:=(↑v5:Int);let v14:=List.getD V v5 (0:Int) != v2;let v15:=decide (v13<v10);let v16:=v1.messages++List.map (fun (v:Int)=>msgS s (askM s m v)) (dropL (List.take v5 V) v2);True∧True∧(v15=true→((0:Int)≤v13∧v13<v10∧True)∧True∧True∧True∧(v14=true→(List.length v16≤(1000000:Nat)∧True)∧True∧V_1 [PE.a,PE.a])∧(v14=false→True∧V_1 [PE.a,PE.b]))∧(v15=false→v2=v7.id∧v0.role=v7.role∧v3.term=v8.term∧v3.vote=v8.vote∧v4.index=v11.index∧v4.term=v11.term∧v9.voters=v12.voters∧v9.learners=v12.learners∧v4.data=v11.data∧v0.commit=v7.commit∧v0.lead=v7.lead∧v0.elapsed=v7.elapsed∧v0.round=v7.round∧v3.entries=v8.entries∧v0.yes=v7.yes∧v0.peers=v7.peers∧v0.reads=v7.reads∧v1.records=v6.records∧v1.ready=v6.ready∧v1.lost=v6.lost∧v16=v6.messages∧True)) (by intro x;kernel_rfl) ?_
 ·simp [dropL,askM,hV]
 rintro ⟨j,t⟩ hj
 dsimp only at hj
 simp only [imp_self,implies_true,true_and,and_true,decide_eq_true_eq,decide_eq_false_iff_not]
 have hdl:(dropL (V.take j) s.n.id).length≤4000:=by
  have h1:(dropL (V.take j) s.n.id).length≤(V.take j).length:=List.length_filter_le _ _
  rw [hV] at hv
  simp only [List.length_take] at h1;omega
 have hsn:j<V.length→dropL (V.take (j+1)) s.n.id=dropL (V.take j) s.n.id++(if (V.getD j 0 != s.n.id)=true then [V.getD j 0] else []):=fun hj=>by
  rw [take_snoc (d:=(0:Int)) hj,dropL,List.filter_append]
  unfold dropL
  congr 1
  simp only [List.filter_cons,List.filter_nil,bne]
 refine ⟨fun h6=>⟨⟨by omega,h6⟩,fun h7=>⟨by simp only [List.length_append,List.length_map];omega,?_⟩,fun h7=>?_⟩,fun h6=>?_⟩
 ·refine Back.mk (j+1,V.getD j 0) (by show j+1≤_;omega) (by show _ - (j+1)<_ - j;omega) (p0:=let v0:=Step.n s;let v1:=Step.o s;let v2:=v1.ready;let v3:=v1.messages;let v4:=v1.records;let v5:=v0.id;let v6:=v0.kept;let v7:=v1.lost;let v8:=v6.snap;let v9:=askM s m t;let v10:=v9.kind;let v11:=v8.config;let v12:=v9.data;let v13:=v9.commit;let v14:=Message.logTerm v9;let v15:=v9.term;let v16:=v9.ask;let v17:=v9.seq;let v18:=v9.ok;let v19:=v9.index;let v20:=v9.snap;let v21:=v9.entries;let v22:=v9.from_;let v23:=v9.round;let v24:=v20.config;let v25:=(↑(List.length V):Int);let v26:=List.getD V j (0:Int);let v27:=askM s m v26;let v28:=v27.snap;let v29:=v28.config;let v30:=sendS (Step.mk v0 (Out.mk v4 (v3++List.map (fun (v:Int)=>msgS s (askM s m v)) (dropL (List.take j V) v5)) v2 v7)) (Message.mk v10 v22 v26 v15 v19 v14 v21 v13 v23 v18 v20 v16 v17 v12);let v31:=v30.o;let v32:=v30.n;let v33:=v32.kept;let v34:=v33.snap;let v35:=v34.config;IntKind.wrap IntKind.i64 ((↑j:Int)+(1:Int))=(↑(j+(1:Nat)):Int)∧v25=v25∧V=V∧v32.id=v5∧v32.role=v0.role∧v33.term=v6.term∧v33.vote=v6.vote∧v34.index=v8.index∧v34.term=v8.term∧v35.voters=v11.voters∧v35.learners=v11.learners∧v34.data=v8.data∧v32.commit=v0.commit∧v32.lead=v0.lead∧v32.elapsed=v0.elapsed∧v32.round=v0.round∧v31.records=v4∧v31.ready=v2∧v31.lost=v7∧v31.messages=v3++List.map (fun (v:Int)=>msgS s (askM s m v)) (dropL (List.take (j+(1:Nat)) V) v5)∧v10=v27.kind∧v22=v27.from_∧v26=v27.to_∧v15=v27.term∧v19=v27.index∧v14=Message.logTerm v27∧v21=v27.entries∧v13=v27.commit∧v23=v27.round∧v18=v27.ok∧v20.index=v28.index∧v20.term=v28.term∧v24.voters=v29.voters∧v24.learners=v29.learners∧v20.data=v28.data∧v16=v27.ask∧v17=v27.seq∧v12=v27.data∧v33.entries=v6.entries∧v32.yes=v0.yes∧v32.peers=v0.peers∧v32.reads=v0.reads∧True) (by kernel_rfl) ?_
  simp only [true_and,and_true,wrapN (i:=j) (by rw [hV] at hv;omega)]
  rw [hsn (by omega),if_pos h7]
  refine ⟨by omega,?_⟩
  simp [sendS,msgS,askM]
  by_cases g:m.term=0<;>simp [g]
 ·refine Back.mk (j+1,V.getD j 0) (by show j+1≤_;omega) (by show _ - (j+1)<_ - j;omega) (p0:=let v0:=Step.n s;let v1:=Step.o s;let v2:=v0.round;let v3:=v0.id;let v4:=v0.lead;let v5:=v1.ready;let v6:=v0.peers;let v7:=v1.lost;let v8:=v0.kept;let v9:=v0.elapsed;let v10:=v0.yes;let v11:=v0.commit;let v12:=v1.messages;let v13:=v1.records;let v14:=v0.reads;let v15:=v0.role;let v16:=askM s m t;let v17:=v8.vote;let v18:=v8.term;let v19:=v8.entries;let v20:=v8.snap;let v21:=v20.term;let v22:=v16.snap;let v23:=v20.config;let v24:=v20.data;let v25:=v20.index;let v26:=v22.config;let v27:=v23.learners;let v28:=(↑(List.length V):Int);let v29:=v23.voters;let v30:=List.getD V j (0:Int);let v31:=askM s m v30;let v32:=v31.snap;let v33:=v32.config;IntKind.wrap IntKind.i64 ((↑j:Int)+(1:Int))=(↑(j+(1:Nat)):Int)∧v28=v28∧V=V∧v3=v3∧v15=v15∧v18=v18∧v17=v17∧v25=v25∧v21=v21∧v29=v29∧v27=v27∧v24=v24∧v11=v11∧v4=v4∧v9=v9∧v2=v2∧v13=v13∧v5=v5∧v7=v7∧v12++List.map (fun (v:Int)=>msgS s (askM s m v)) (dropL (List.take j V) v3)=v12++List.map (fun (v:Int)=>msgS s (askM s m v)) (dropL (List.take (j+(1:Nat)) V) v3)∧v16.kind=v31.kind∧v16.from_=v31.from_∧v30=v31.to_∧v16.term=v31.term∧v16.index=v31.index∧Message.logTerm v16=Message.logTerm v31∧v16.entries=v31.entries∧v16.commit=v31.commit∧v16.round=v31.round∧v16.ok=v31.ok∧v22.index=v32.index∧v22.term=v32.term∧v26.voters=v33.voters∧v26.learners=v33.learners∧v22.data=v32.data∧v16.ask=v31.ask∧v16.seq=v31.seq∧v16.data=v31.data∧v19=v19∧v10=v10∧v6=v6∧v14=v14∧True) (by kernel_rfl) ?_
  simp only [true_and,and_true,wrapN (i:=j) (by rw [hV] at hv;omega)]
  rw [hsn (by omega),if_neg (by rw [h7];decide),List.append_nil]
  exact ⟨by omega,rfl,rfl,rfl,rfl,rfl,rfl,rfl,rfl,rfl,rfl,rfl,rfl,rfl,rfl,rfl,rfl,rfl,rfl,rfl⟩
 ·have:j=V.length:=by omega
  subst this
  rw [List.take_length]
  simp only [askS,hV,and_self]
def eAskW:Ent:=entL1 80 3 mW dMsg2 vrW [1,2] glW fun s m=>([SmallN s.n,SmallO s.o,s.o.messages.length≤900000,(confC s.n).voters.length≤4000],.tup [],wMoM (askS s m))
theorem eAskW_ok:EntOk Tryz.prog eAskW:=entL1_ok (fnB Tryz.func80 (by decide) rfl) fun s m h=>ask_fn18 s m (h _ (by simp)) (h _ (by simp)) (h _ (by simp)) (h _ (by simp))
def zSnap:Snap:=⟨0,0,⟨[],[]⟩,zs⟩
def toM (s:Step) (p:Peer):Message:=
 if p.next≤s.n.kept.snap.index then ⟨7,0,p.node,0,0,0,[],0,s.n.round,false,s.n.kept.snap,0,0,zs⟩
 else ⟨5,0,p.node,0,IntKind.i64.wrap (p.next - 1),(termC s.n.kept (IntKind.i64.wrap (p.next - 1))).1,(sliceC s.n.kept p.next 8).1,s.n.commit,s.n.round,false,zSnap,0,0,zs⟩
def toS (s:Step) (p:Peer):Step:=sendS s (toM s p)
def tabY:List Ent:=[eTermC,eSlice,eOwnSN,eSend]
theorem tabY_ok:∀ e∈tabY,EntOk Tryz.prog e:=tab_cons eTermC_ok (tab_cons eSlice_ok (tab_cons eOwnSN_ok (tab_cons eSend_ok tab_nil)))
theorem to_fn (s:Step) (p:Peer) (hn:SmallN s.n) (ho:s.o.messages.length≤1000000):FnG Tryz.prog 137 3 (wMi s) [.ptr 2 0,dPeer.L.can p] (.tup []) (wMoM (toS s p)):=by
 refine FnG.of_vc (fitsT tabY_ok fun _=>none) Tryz.func137 rfl (by decide) rfl 300 (p:=fun (V:List PE→Prop)=>let v0:=Peer.next p;let v1:=Node.kept (Step.n s);let v2:=Node.round (Step.n s);let v3:=v1.snap;let v4:=Step.o (toS s p);let v5:=Step.n (toS s p);let v6:=v5.yes;let v7:=v4.ready;let v8:=v5.peers;let v9:=v4.lost;let v10:=v4.records;let v11:=v5.elapsed;let v12:=v5.commit;let v13:=v4.messages;let v14:=v5.lead;let v15:=v5.round;let v16:=v5.reads;let v17:=v5.kept;let v18:=v3.index;let v19:=(0:Int);let v20:=ByteArray.mk #[];let v21:=v5.id;let v22:=v5.role;let v23:=v17.term;let v24:=v17.snap;let v25:=v17.vote;let v26:=v17.entries;let v27:=v24.term;let v28:=v24.config;let v29:=v24.index;let v30:=v24.data;let v31:=v28.voters;let v32:=v28.learners;let v33:=IntKind.wrap IntKind.i64 (v0 - (1:Int));let v34:=decide (v0≤v18);let v35:=sendS s (Message.mk (7:Int) v19 (Peer.node p) v19 v19 v19 [] v19 v2 false v3 v19 v19 v20);let v36:=v35.o;let v37:=v35.n;let v38:=v37.kept;let v39:=v38.snap;let v40:=v39.config;let v41:=sendS s (Message.mk (5:Int) v19 (Peer.node p) v19 v33 (Prod.fst (termC v1 v33)) (Prod.fst (sliceC v1 v0 (8:Int))) (Node.commit (Step.n s)) v2 false (Snap.mk v19 v19 (Config.mk [] []) v20) v19 v19 v20);let v42:=v41.o;let v43:=v41.n;let v44:=v43.kept;let v45:=v44.snap;let v46:=v45.config;True∧True∧True∧(v34=true→(SmallC (v3.config)∧List.length (Out.messages (Step.o s))≤(1000000:Nat)∧True)∧v37.id=v21∧v37.role=v22∧v38.term=v23∧v38.vote=v25∧v39.index=v29∧v39.term=v27∧v40.voters=v31∧v40.learners=v32∧v39.data=v30∧v37.commit=v12∧v37.lead=v14∧v37.elapsed=v11∧v37.round=v15∧v38.entries=v26∧v37.yes=v6∧v37.peers=v8∧v37.reads=v16∧v36.records=v10∧v36.ready=v7∧v36.lost=v9∧v36.messages=v13∧True)∧(v34=false→(List.length (v1.entries)≤(17592186044416:Nat)∧True)∧(List.length (v1.entries)≤(17592186044416:Nat)∧SmallK v1∧v19≤(8:Int)∧True)∧(List.length (Out.messages (Step.o s))≤(1000000:Nat)∧True)∧v43.id=v21∧v43.role=v22∧v44.term=v23∧v44.vote=v25∧v45.index=v29∧v45.term=v27∧v46.voters=v31∧v46.learners=v32∧v45.data=v30∧v43.commit=v12∧v43.lead=v14∧v43.elapsed=v11∧v43.round=v15∧v44.entries=v26∧v43.yes=v6∧v43.peers=v8∧v43.reads=v16∧v42.records=v10∧v42.ready=v7∧v42.lost=v9∧v42.messages=v13∧True)) (by kernel_rfl) ?_
 simp only [imp_self,implies_true,true_and,and_true,pickB_f,pickB_t]
 refine ⟨fun h=>?_,fun h=>?_⟩
 ·have h:p.next≤s.n.kept.snap.index:=by simpa using h
  have e:toS s p=sendS s ⟨7,0,p.node,0,0,0,[],0,s.n.round,false,s.n.kept.snap,0,0,⟨#[]⟩⟩:=by rw [toS,toM,if_pos h];rfl
  rw [e]
  refine ⟨⟨hn.k.2,ho⟩,?_⟩
  simp only [and_self]
 ·have h:¬ p.next≤s.n.kept.snap.index:=by simpa using h
  have e:toS s p=sendS s ⟨5,0,p.node,0,IntKind.i64.wrap (p.next - 1),(termC s.n.kept (IntKind.i64.wrap (p.next - 1))).1,(sliceC s.n.kept p.next 8).1,s.n.commit,s.n.round,false,⟨0,0,⟨[],[]⟩,⟨#[]⟩⟩,0,0,⟨#[]⟩⟩:=by rw [toS,toM,if_neg h];rfl
  rw [e]
  refine ⟨hn.ls.1,⟨hn.ls.1,hn.k,by decide⟩,ho,?_⟩
  simp only [and_self]
def eTo:Ent:=entL1 137 3 mW dPeer.L vrW [1,0] glW fun s p=>([SmallN s.n,s.o.messages.length≤1000000],.tup [],wMoM (toS s p))
theorem eTo_ok:EntOk Tryz.prog eTo:=entL1_ok (to_fn default default smallN0 (by decide)).1 fun s p h=>to_fn s p (h _ (by simp)) (h _ (by simp))
theorem toM_o (n:Node) (o:Out) (p:Peer):toM ⟨n,o⟩ p=toM ⟨n,default⟩ p:=rfl
theorem toM_s (s:Step) (p:Peer):toM s p=toM ⟨s.n,default⟩ p:=rfl
theorem msgS_o (n:Node) (o:Out) (m:Message):msgS ⟨n,o⟩ m=msgS ⟨n,default⟩ m:=rfl
theorem msgS_s (s:Step) (m:Message):msgS s m=msgS ⟨s.n,default⟩ m:=rfl
def allS (s:Step):Step:=⟨s.n,{s.o with messages:=s.o.messages++s.n.peers.map fun p=>msgS s (toM s p)}⟩
theorem all_fn (s:Step) (hn:SmallN s.n) (ho:s.o.messages.length+s.n.peers.length≤1000000):FnG Tryz.prog 75 3 (wMi s) [.ptr 2 0] (.tup []) (wMoM (allS s)):=by
 refine FnG.of_vc (fitsT (tab_cons eTo_ok tab_nil) fun _=>none) Tryz.func75 rfl (by decide) rfl 300 (p:=fun (V:List PE→Prop)=>True∧V []) (by kernel_rfl) ?_
 simp only [imp_self,implies_true,true_and,and_true,pickB_f,pickB_t]
 have hpl:=hn.peers
 refine LoopG.head (fitsT (tab_cons eTo_ok tab_nil) fun _=>none) 0 (A:=Nat) (fun j=>j≤s.n.peers.length) (fun j=>[(10,.int .i64 j)]) (fun j=>[(2,.cells 115 (wCs [1] s 3 4 5 6 7 12 9 10)),(7,.row 139 [2,61] (.rRecord s.o.records)),(9,.row 96 [2,61] (.rRead s.o.ready)),(10,.row 3 [2,61] (.rInts s.o.lost)),(8,.dead),(12,.row 39 [2,61] (.rMessage (s.o.messages++(s.n.peers.take j).map fun p=>msgS s (toM s p)))),(61,.dead)]) (fun j=>s.n.peers.length - j) 0 (Nat.zero_le _) (p0:=let v0:=Step.n s;let v1:=Step.o s;let v2:=v0.kept;let v3:=v0.round;let v4:=v0.lead;let v5:=v0.yes;let v6:=v0.id;let v7:=v0.elapsed;let v8:=v1.messages;let v9:=v0.peers;let v10:=v1.records;let v11:=v0.commit;let v12:=v1.ready;let v13:=v0.reads;let v14:=v0.role;let v15:=v1.lost;let v16:=v2.vote;let v17:=v2.term;let v18:=v2.snap;let v19:=v2.entries;let v20:=v18.term;let v21:=v18.config;let v22:=v18.data;let v23:=v18.index;let v24:=v21.voters;let v25:=v21.learners;let v26:=(↑(List.length v9):Int);(0:Int)=(↑(0:Nat):Int)∧v26=v26∧v6=v6∧v14=v14∧v17=v17∧v16=v16∧v23=v23∧v20=v20∧v24=v24∧v25=v25∧v22=v22∧v11=v11∧v4=v4∧v7=v7∧v3=v3∧v10=v10∧v12=v12∧v15=v15∧v8=v8++List.map (fun (p:Peer)=>msgS s (toM s p)) (List.take (0:Nat) v9)∧v19=v19∧v5=v5∧v9=v9∧v13=v13∧True) (by kernel_rfl) ?_ 300 (p:=fun (x:Nat) (V:List PE→Prop)=>let v0:=Step.n s;let v1:=Step.o s;let v2:=v0.kept;let v3:=Step.n (allS s);let v4:=Step.o (allS s);let v5:=v0.peers;let v6:=(↑x:Int);let v7:=v3.kept;let v8:=v2.snap;let v9:=List.length v5;let v10:=v7.snap;let v11:=v8.config;let v12:=v10.config;let v13:=(↑v9:Int);let v14:=decide (v6<v13);let v15:=v1.messages++List.map (fun (p:Peer)=>msgS s (toM s p)) (List.take x v5);True∧True∧(v14=true→((0:Int)≤v6∧v6<v13∧x<v9∧True)∧(SmallN v0∧List.length v15≤(1000000:Nat)∧True)∧True∧V [PE.a])∧(v14=false→v0.id=v3.id∧v0.role=v3.role∧v2.term=v7.term∧v2.vote=v7.vote∧v8.index=v10.index∧v8.term=v10.term∧v11.voters=v12.voters∧v11.learners=v12.learners∧v8.data=v10.data∧v0.commit=v3.commit∧v0.lead=v3.lead∧v0.elapsed=v3.elapsed∧v0.round=v3.round∧v2.entries=v7.entries∧v0.yes=v3.yes∧v5=v3.peers∧v0.reads=v3.reads∧v1.records=v4.records∧v1.ready=v4.ready∧v1.lost=v4.lost∧v15=v4.messages∧True)) (by intro x;kernel_rfl) ?_
 ·simp
 rintro j hj
 simp only [imp_self,implies_true,true_and,and_true,decide_eq_true_eq,decide_eq_false_iff_not]
 refine ⟨fun h6=>?_,fun h6=>?_⟩
 ·refine ⟨⟨by omega,by omega,by omega⟩,⟨hn,by simp only [List.length_append,List.length_map,List.length_take];omega⟩,?_⟩
  refine Back.mk (j+1) (by omega) (by omega) (p0:=let v0:=Step.o s;let v1:=Step.n s;let v2:=v1.kept;let v3:=v1.peers;let v4:=v0.lost;let v5:=v0.ready;let v6:=v0.messages;let v7:=v0.records;let v8:=v2.snap;let v9:=v8.config;let v10:=(↑(List.length v3):Int);let v11:=toS (Step.mk v1 (Out.mk v7 (v6++List.map (fun (p:Peer)=>msgS s (toM s p)) (List.take j v3)) v5 v4)) (List.getD v3 j default);let v12:=v11.o;let v13:=v11.n;let v14:=v13.kept;let v15:=v14.snap;let v16:=v15.config;IntKind.wrap IntKind.i64 ((↑j:Int)+(1:Int))=(↑(j+(1:Nat)):Int)∧v10=v10∧v13.id=v1.id∧v13.role=v1.role∧v14.term=v2.term∧v14.vote=v2.vote∧v15.index=v8.index∧v15.term=v8.term∧v16.voters=v9.voters∧v16.learners=v9.learners∧v15.data=v8.data∧v13.commit=v1.commit∧v13.lead=v1.lead∧v13.elapsed=v1.elapsed∧v13.round=v1.round∧v12.records=v7∧v12.ready=v5∧v12.lost=v4∧v12.messages=v6++List.map (fun (p:Peer)=>msgS s (toM s p)) (List.take (j+(1:Nat)) v3)∧v14.entries=v2.entries∧v13.yes=v1.yes∧v13.peers=v3∧v13.reads=v1.reads∧True) (by kernel_rfl) ?_
  have e1:=take_snoc (l:=s.n.peers) (d:=(default:Peer)) (i:=j) (by omega)
  simp only [wrapN (i:=j) (by omega),e1,toS,sendS,toM_o,msgS_o,fun p=>toM_s s p,fun m=>msgS_s s m,List.map_append,List.map_cons,List.map_nil,List.append_assoc,true_and,and_true]
  omega
 ·obtain rfl:j=s.n.peers.length:=by omega
  simp only [List.take_length,allS,and_self]
def eAllW:Ent:=entN0 75 3 mW vrW [1] glW fun s=>([SmallN s.n,s.o.messages.length+s.n.peers.length≤1000000],.tup [],wMoM (allS s))
theorem eAllW_ok:EntOk Tryz.prog eAllW:=entN0_ok (fnB Tryz.func75 (by decide) rfl) fun s h=>all_fn s (h _ (by simp)) (h _ (by simp))
def isV (v x:Int):Bool:=x==v
def peerI (ps:List Peer) (v:Int):Int:=firstI (isV v) (ps.map (·.node))
theorem getD_node (ps:List Peer) (i:Nat):(ps.map (·.node)).getD i 0=(ps.getD i default).node:=by
 simp only [List.getD_eq_getElem?_getD,List.getElem?_map]
 cases ps[i]? <;> rfl
theorem firstI_lt {p : Int → Bool} : ∀ (l : List Int), -1 ≤ firstI p l ∧ firstI p l < l.length
  | [] => ⟨by simp [firstI], by simp [firstI]⟩
  | x :: l => by
    have := firstI_lt (p := p) l
    unfold firstI
    simp only [List.length_cons]
    split
    · omega
    · split <;> omega
theorem peerI_lt (ps:List Peer) (v:Int):peerI ps v<(ps.length:Int):=by
 have:=(firstI_lt (p:=isV v) (ps.map (·.node))).2
 simpa [peerI] using this
def dCloP:Dec Int where
 dec:=fun s=>match s with | .clo 171 [t]=>dRpInt.dec t | _=>none
 can:=fun x=> .clo 171 [dRpInt.can x]
 Okp:=fun x=>True
 okp:=fun x E w v h=>trivial
 ok:=by
  intro s x h E w v hz hd
  split at h
  case h_2=>simp at h
  obtain ⟨xs,hv,hd⟩:=hd
  match xs,hd with
  | [u],hd=>exact ⟨[u],hv,dRpInt.ok _ _ h E w u hz hd.1,trivial⟩
theorem peer1_fn (x:Peer) (v:Int):FnC Tryz.prog 171 [dPeer.can x,dRpInt.can v] (.bool (isV v x.node)) D2:=by
 refine FnG.of_vc (fitsT tab_nil fun _=>none) Tryz.func171 rfl (by decide) rfl 300 (p:=fun (V:List PE→Prop)=>True∧True∧(Peer.node x==v)=isV v (Peer.node x)∧True) (by kernel_rfl) ?_
 simp only [isV,true_and,and_true]
def ePeer1:Ent:=ent2 171 dPeer dRpInt fun x v=>([],.bool (isV v x.node),D2)
theorem ePeer1_ok:EntOk Tryz.prog ePeer1:=ent2_ok (peer1_fn default 0).1 fun x v _=>peer1_fn x v
theorem indexP_fn (l:List Peer) (v:Int):FnC Tryz.prog 170 [dPeers.can l,dCloP.can v] (.int .i64 (peerI l v)) D2:=by
 refine FnC.g2 dPeers dCloP l v (fnB Tryz.func170 (by decide) rfl) fun hl _=>?_
 refine FnG.of_vc (fitsT (tab_cons ePeer1_ok tab_nil) fun _=>none) Tryz.func170 rfl (by decide) rfl 300 (p:=fun (V:List PE→Prop)=>True∧True∧V []) (by kernel_rfl) ?_
 simp only [true_and,and_true]
 refine LoopG.head (fitsT (tab_cons ePeer1_ok tab_nil) fun _=>none) 0 (A:=Nat) (fun j=>j≤l.length∧∀ i,i<j→isV v (l.getD i default).node=false) (fun j=>[(8,.int .i64 j)]) (fun _=>[]) (fun j=>l.length - j) 0 ⟨Nat.zero_le _,fun i h=>absurd h (by omega)⟩ (p0:=let v0:=(↑(List.length l):Int);(0:Int)=(↑(0:Nat):Int)∧v0=v0∧l=l∧v=v∧True) (by kernel_rfl) ?_ 300 (p:=fun (x:Nat) (V:List PE→Prop)=>let v0:=(↑x:Int);let v1:=(↑(List.length l):Int);let v2:=isV v (Peer.node (List.getD l x default));let v3:=decide (v0<v1);True∧True∧(v3=true→True∧((0:Int)≤v0∧v0<v1∧True)∧True∧(v2=true→True∧v0=peerI l v∧True)∧(v2=false→True∧V [PE.a,PE.b]))∧(v3=false→True∧(-1:Int)=peerI l v∧True)) (by intro x;kernel_rfl) ?_
 ·simp
 ·rintro j ⟨hj,h0⟩
  have hl44:=hl.1
  simp only [true_and,and_true,decide_eq_true_eq,decide_eq_false_iff_not]
  refine ⟨fun h1=>⟨by omega,fun h2=>?_,fun h2=>?_⟩,fun h1=>?_⟩
  ·exact (firstI_hit (by simp only [List.length_map];omega) (fun i hi=>by rw [getD_node];exact h0 i hi) (by rw [getD_node];exact h2)).symm
  ·refine Back.mk (j+1) ⟨by omega,fun i hi=>?_⟩ (by omega) (p0:=let v0:=(↑(List.length l):Int);IntKind.wrap IntKind.i64 ((↑j:Int)+(1:Int))=(↑(j+(1:Nat)):Int)∧v0=v0∧l=l∧v=v∧True) (by kernel_rfl) ?_
   ·by_cases h:i=j
    ·subst h;exact h2
    ·exact h0 i (by omega)
   ·simp [wrapN (i:=j) (by omega)]
  ·exact (firstI_miss fun i hi=>by rw [getD_node];exact h0 i (by simp only [List.length_map] at hi;omega)).symm
def eIdxP:Ent:=ent2 170 dPeers dCloP fun l v=>([],.int .i64 (peerI l v),D2)
theorem eIdxP_ok:EntOk Tryz.prog eIdxP:=ent2_ok (indexP_fn [] 0).1 fun l m _=>indexP_fn l m
theorem peer_fn (s:Step) (v:Int):FnC Tryz.prog 115 [(dRpS 115).can s,dInt.can v] (.int .i64 (peerI s.n.peers v)) D2:=by
 refine FnG.of_vc (fitsT (tab_cons eIdxP_ok tab_nil) fun _=>none) Tryz.func115 rfl (by decide) rfl 300 (p:=fun (V:List PE→Prop)=>let v0:=peerI (Node.peers (Step.n s)) v;True∧True∧v0=v0∧True) (by kernel_rfl) ?_
 simp only [true_and,and_true]
def ePeer:Ent:=ent2 115 (dRpS 115) dInt fun s v=>([],.int .i64 (peerI s.n.peers v),D2)
theorem ePeer_ok:EntOk Tryz.prog ePeer:=ent2_ok (peer_fn default 0).1 fun s v _=>peer_fn s v
def matchI (s:Step) (v:Int):Int:=if 0≤peerI s.n.peers v then (s.n.peers.getD (peerI s.n.peers v).toNat default).match_ else if v=s.n.id then (lastC s.n.kept).1 else 0
def haveL (s:Step):List Int:=(confC s.n).voters.map (matchI s)
def countS (s:Step):Step:=if (termC s.n.kept (sureC (haveL s))).2=0∧(termC s.n.kept (sureC (haveL s))).1=s.n.kept.term then ⟨{s.n with commit:=max s.n.commit (sureC (haveL s))},s.o⟩ else s
def tabZ:List Ent:=[eConfN,ePeer,eWLast,eSure,eTermC]
theorem tabZ_ok:∀ e∈tabZ,EntOk Tryz.prog e:=tab_cons eConfN_ok (tab_cons ePeer_ok (tab_cons eWLast_ok (tab_cons eSure_ok (tab_cons eTermC_ok tab_nil))))
theorem count_fn (s:Step) (hn:SmallN s.n) (ho:SmallO s.o) (hv:(confC s.n).voters.length≤4000):FnG Tryz.prog 106 3 (wMi s) [.ptr 2 0] (.tup []) (wMi (countS s)):=by
 refine FnG.of_vc (fitsT tabZ_ok fun _=>none) Tryz.func106 rfl (by decide) rfl 300 (p:=fun (V:List PE→Prop)=>let v0:=Step.n s;True∧(List.length (Kept.entries (v0.kept))≤(17592186044416:Nat)∧List.length (v0.yes)≤(17592186044416:Nat)∧List.length (v0.peers)≤(17592186044416:Nat)∧List.length (v0.reads)≤(17592186044416:Nat)∧SmallN v0∧True)∧V []) (by kernel_rfl) ?_
 simp only [imp_self,implies_true,true_and,and_true,pickB_f,pickB_t]
 obtain ⟨b1,b2,b3,b4,b5⟩:=hn.ls
 obtain ⟨V,hV⟩:∃ V,(confC s.n).voters=V:=⟨_,rfl⟩
 obtain ⟨c1,c2,c3,c4⟩:=ho.ls
 refine ⟨⟨b1,b2,b3,b4,hn⟩,?_⟩
 refine LoopG.head (fitsT tabZ_ok fun _=>none) 0 (A:=Nat) (fun j=>j≤V.length) (fun j=>[(18,.int .i64 j),(17,.int .i64 (V.length:Int)),(16,.sl [900] (.rInts V)),(2,.own 12)]) (fun j=>[(12,.row 3 [901] (.rInts ((V.take j).map (matchI s)))),(900,.dead),(901,.dead)]) (fun j=>V.length - j) 0 (Nat.zero_le _) (p0:=let v0:=Step.n s;let v1:=Step.o s;let v2:=v1.lost;let v3:=v0.role;let v4:=v0.kept;let v5:=v0.lead;let v6:=v0.round;let v7:=v1.records;let v8:=v1.ready;let v9:=v1.messages;let v10:=v0.peers;let v11:=v0.commit;let v12:=v0.yes;let v13:=v0.elapsed;let v14:=v0.reads;let v15:=v0.id;let v16:=v4.term;let v17:=v4.snap;let v18:=v4.entries;let v19:=v4.vote;let v20:=Config.voters (confC v0);let v21:=v17.term;let v22:=v17.index;let v23:=v17.data;let v24:=v17.config;let v25:=v24.learners;let v26:=v24.voters;(0:Int)=(↑(0:Nat):Int)∧(↑(List.length v20):Int)=(↑(List.length V):Int)∧v20=V∧List.map (matchI s) (List.take (0:Nat) V)=[]∧v15=v15∧v3=v3∧v16=v16∧v19=v19∧v22=v22∧v21=v21∧v26=v26∧v25=v25∧v23=v23∧v11=v11∧v5=v5∧v13=v13∧v6=v6∧v18=v18∧v12=v12∧v10=v10∧v14=v14∧v7=v7∧v9=v9∧v8=v8∧v2=v2∧True) (by kernel_rfl) ?_ 300 (p:=fun (x:Nat) (V_1:List PE→Prop)=>let v0:=Step.o s;let v1:=Step.n s;let v2:=v0.ready;let v3:=v0.records;let v4:=v1.elapsed;let v5:=v1.yes;let v6:=v1.id;let v7:=v1.peers;let v8:=v1.role;let v9:=v1.lead;let v10:=v1.commit;let v11:=Step.o (countS s);let v12:=v0.messages;let v13:=v1.kept;let v14:=v1.round;let v15:=Step.n (countS s);let v16:=v1.reads;let v17:=v0.lost;let v18:=v13.term;let v19:=v13.vote;let v20:=v13.entries;let v21:=v13.snap;let v22:=(↑x:Int);let v23:=v15.kept;let v24:=v21.index;let v25:=v21.config;let v26:=(0:Int);let v27:=v23.snap;let v28:=v21.term;let v29:=v21.data;let v30:=List.length v7;let v31:=(↑(List.length V):Int);let v32:=v27.config;let v33:=v25.voters;let v34:=v25.learners;let v35:=List.getD V x v26;let v36:=List.map (matchI s) (List.take x V);let v37:=sureC v36;let v38:=List.length v36;let v39:=peerI v7 v35;let v40:=termC v13 v37;let v41:=Int.toNat v39;let v42:=v35==v6;let v43:=decide (v22<v31);let v44:=Prod.snd v40==v26;let v45:=decide (v39≥v26);let v46:=pickB v44 (Prod.fst v40==v18) false;True∧True∧(v43=true→(v26≤v22∧v22<v31∧True)∧True∧(List.length v20≤(17592186044416:Nat)∧List.length v5≤(17592186044416:Nat)∧v30≤(17592186044416:Nat)∧List.length v16≤(17592186044416:Nat)∧List.length v3≤(17592186044416:Nat)∧List.length v12≤(17592186044416:Nat)∧List.length v2≤(17592186044416:Nat)∧List.length v17≤(17592186044416:Nat)∧True)∧True∧((v45=true→v26≤v39)∧(v45=true→v39<(↑v30:Int))∧(v45=true→v41<v30)∧(v45=false→v42=true→List.length v20≤(17592186044416:Nat))∧(v45=false→v42=true→List.length v5≤(17592186044416:Nat))∧(v45=false→v42=true→v30≤(17592186044416:Nat))∧(v45=false→v42=true→List.length v16≤(17592186044416:Nat))∧(v45=false→v42=true→List.length v3≤(17592186044416:Nat))∧(v45=false→v42=true→List.length v12≤(17592186044416:Nat))∧(v45=false→v42=true→List.length v2≤(17592186044416:Nat))∧(v45=false→v42=true→List.length v17≤(17592186044416:Nat))∧True)∧((v38+List.length [pickI v45 (Peer.match_ (List.getD v7 v41 default)) (pickI v42 (Prod.fst (lastC v13)) v26)])*(1024:Nat)≤(140737488355328:Nat)∧True)∧True∧V_1 [PE.a])∧(v43=false→(v38≤(17592186044416:Nat)∧v38≤(1000000:Nat)∧True)∧(List.length v20≤(17592186044416:Nat)∧True)∧((v44=true→v44=true)∧(v44=true→v44=true)∧(v44=true→v44=true)∧(v44=true→v44=true)∧(v44=true→v44=true)∧(v44=true→v44=true)∧(v44=true→v44=true)∧(v44=true→v44=true)∧True)∧True∧pickI v46 v6 v6=v15.id∧pickI v46 v8 v8=v15.role∧pickI v46 v18 v18=v23.term∧pickI v46 v19 v19=v23.vote∧pickI v46 v24 v24=v27.index∧pickI v46 v28 v28=v27.term∧(if v46=true then v33 else v33)=v32.voters∧(if v46=true then v34 else v34)=v32.learners∧(if v46=true then v29 else v29)=v27.data∧pickI v46 (if v37>v10 then v37 else v10) v10=v15.commit∧pickI v46 v9 v9=v15.lead∧pickI v46 v4 v4=v15.elapsed∧pickI v46 v14 v14=v15.round∧v20=v23.entries∧v5=v15.yes∧v7=v15.peers∧v16=v15.reads∧v3=v11.records∧v12=v11.messages∧v2=v11.ready∧v17=v11.lost∧True)) (by intro x;kernel_rfl) ?_
 ·simp [hV]
 rintro j hj
 simp only [imp_self,implies_true,true_and,and_true,decide_eq_true_eq,decide_eq_false_iff_not]
 have hp:=fun v=>peerI_lt s.n.peers v
 refine ⟨fun h6=>⟨⟨by omega,h6⟩,⟨b1,b2,b3,b4,c1,c2,c3,c4⟩,⟨fun _=>hp _,fun h=>?_,fun _ _=>b1,fun _ _=>b2,fun _ _=>b3,fun _ _=>b4,fun _ _=>c1,fun _ _=>c2,fun _ _=>c3,fun _ _=>c4⟩,?_,?_⟩,fun h6=>?_⟩
 ·have:=hp (V.getD j 0);omega
 ·rw [hV] at hv;simp only [List.length_map,List.length_take,List.length_cons,List.length_nil];omega
 ·refine Back.mk (j+1) (by show j+1≤_;omega) (by show _ - (j+1)<_ - j;omega) (p0:=let v0:=Step.n s;let v1:=Step.o s;let v2:=v0.kept;let v3:=v0.role;let v4:=v0.lead;let v5:=v0.round;let v6:=v1.records;let v7:=v1.ready;let v8:=v1.messages;let v9:=v0.peers;let v10:=v0.commit;let v11:=v0.reads;let v12:=v0.elapsed;let v13:=v0.yes;let v14:=v0.id;let v15:=v1.lost;let v16:=v2.term;let v17:=v2.vote;let v18:=v2.entries;let v19:=v2.snap;let v20:=v19.index;let v21:=v19.config;let v22:=v19.term;let v23:=v19.data;let v24:=(0:Int);let v25:=(↑(List.length V):Int);let v26:=v21.voters;let v27:=v21.learners;let v28:=List.getD V j v24;let v29:=peerI v9 v28;IntKind.wrap IntKind.i64 ((↑j:Int)+(1:Int))=(↑(j+(1:Nat)):Int)∧v25=v25∧V=V∧List.map (matchI s) (List.take j V)++[pickI (decide (v29≥v24)) (Peer.match_ (List.getD v9 (Int.toNat v29) default)) (pickI (v28==v14) (Prod.fst (lastC v2)) v24)]=List.map (matchI s) (List.take (j+(1:Nat)) V)∧v14=v14∧v3=v3∧v16=v16∧v17=v17∧v20=v20∧v22=v22∧v26=v26∧v27=v27∧v23=v23∧v10=v10∧v4=v4∧v12=v12∧v5=v5∧v18=v18∧v13=v13∧v9=v9∧v11=v11∧v6=v6∧v8=v8∧v7=v7∧v15=v15∧True) (by kernel_rfl) ?_
  simp only [true_and,and_true,wrapN (i:=j) (by rw [hV] at hv;omega)]
  rw [take_snoc (d:=(0:Int)) (by omega),List.map_append]
  refine ⟨by omega,?_⟩
  have e:matchI s (V.getD j 0)=pickI (decide (peerI s.n.peers (V.getD j 0)≥0)) (s.n.peers.getD (peerI s.n.peers (V.getD j 0)).toNat default).match_ (pickI (V.getD j 0==s.n.id) (lastC s.n.kept).1 0):=by
   unfold matchI pickI
   by_cases h1:0≤peerI s.n.peers (V.getD j 0)<;>by_cases h2:V.getD j 0=s.n.id<;>simp [h1,h2]
  simp only [List.map_cons,List.map_nil,e]
 ·have:j=V.length:=by omega
  subst this
  rw [List.take_length]
  have hL:V.map (matchI s)=haveL s:=by rw [haveL,hV]
  rw [hL]
  have hll:(haveL s).length≤4000:=by rw [haveL,List.length_map];exact hv
  refine ⟨⟨by omega,by omega⟩,b1,?_⟩
  simp only [pickI_self]
  unfold countS
  by_cases h1:(termC s.n.kept (sureC (haveL s))).2=0<;>by_cases h2:(termC s.n.kept (sureC (haveL s))).1=s.n.kept.term<;>simp [pickB,pickI,h1,h2]
  omega
def eCount:Ent:=entN0 106 3 mW vrW [1] glW fun s=>([SmallN s.n,SmallO s.o,(confC s.n).voters.length≤4000],.tup [],wMi (countS s))
theorem eCount_ok:EntOk Tryz.prog eCount:=entN0_ok (fnB Tryz.func106 (by decide) rfl) fun s h=>count_fn s (h _ (by simp)) (h _ (by simp)) (h _ (by simp))
def roundB (r:Read) (p:Peer):Bool:=decide (r.round≤p.round)
def heardL (s:Step) (r:Read):List Int:=s.n.id::(s.n.peers.filter (roundB r)).map (·.node)
def readyB (s:Step) (r:Read):Bool:=mayC (confC s.n)&&reachC (confC s.n).voters (heardL s r)
def answerS (s:Step):Step:=⟨{s.n with reads:=s.n.reads.filter fun r=>!readyB s r},{s.o with ready:=s.o.ready++s.n.reads.filter (readyB s)}⟩
def wMoA (s:Step):List BE:=[.dead,.dead,.cells 115 (wCs [1] s 3 4 5 11 7 8 12 10),.row 89 [1] (.rEntry s.n.kept.entries),.row 3 [1] (.rInts s.n.yes),.row 94 [1] (.rPeer s.n.peers),.dead,.row 139 [2] (.rRecord s.o.records),.row 39 [2] (.rMessage s.o.messages),.dead,.row 3 [2] (.rInts s.o.lost),.row 96 [1] (.rRead s.n.reads),.row 96 [2] (.rRead s.o.ready)]
def tabRb:List Ent:=[eConfN,eReached]
theorem tabRb_ok:∀ e∈tabRb,EntOk Tryz.prog e:=tab_cons eConfN_ok (tab_cons eReached_ok tab_nil)
theorem answer_fn (s:Step) (hn:SmallN s.n) (ho:SmallO s.o) (hr:s.o.ready.length≤10000) (hs:s.n.reads.length≤10000) (hp:s.n.peers.length≤10000):FnG Tryz.prog 110 3 (wMi s) [.ptr 2 0] (.tup []) (wMoA (answerS s)):=by
 refine FnG.of_vc (fitsT tabRb_ok fun _=>none) Tryz.func110 rfl (by decide) rfl 300 (p:=fun (V:List PE→Prop)=>let v0:=Step.n s;(List.length (Kept.entries (v0.kept))≤(17592186044416:Nat)∧List.length (v0.yes)≤(17592186044416:Nat)∧List.length (v0.peers)≤(17592186044416:Nat)∧List.length (v0.reads)≤(17592186044416:Nat)∧SmallN v0∧True)∧True∧True∧V []) (by kernel_rfl) ?_
 simp only [imp_self,implies_true,true_and,and_true,pickB_f,pickB_t]
 obtain ⟨b1,b2,b3,b4,b5⟩:=hn.ls
 obtain ⟨c1,c2,c3,c4⟩:=ho.ls
 refine ⟨⟨b1,b2,b3,b4,hn⟩,?_⟩
 refine LoopG.head (fitsT tabRb_ok fun _=>none) 0 (A:=Nat) (fun j=>j≤s.n.reads.length) (fun j=>[(20,.int .i64 j),(3,.own 13)]) (fun j=>[(2,.cells 115 (wCs [1] s 3 4 5 6 7 8 12 10)),(9,.dead),(12,.row 96 [2] (.rRead (s.o.ready++(s.n.reads.take j).filter (readyB s)))),(13,.row 96 [] (.rRead ((s.n.reads.take j).filter fun r=>!readyB s r)))]) (fun j=>s.n.reads.length - j) 0 (Nat.zero_le _) (p0:=let v0:=Step.n s;let v1:=Step.o s;let v2:=v0.peers;let v3:=v1.lost;let v4:=v0.kept;let v5:=v0.yes;let v6:=v0.role;let v7:=v1.messages;let v8:=v1.records;let v9:=v0.id;let v10:=v0.reads;let v11:=v0.round;let v12:=v0.commit;let v13:=v0.elapsed;let v14:=v1.ready;let v15:=v0.lead;let v16:=v4.snap;let v17:=v4.vote;let v18:=Config.learners (confC v0);let v19:=Config.voters (confC v0);let v20:=v4.term;let v21:=v4.entries;let v22:=v16.term;let v23:=v16.index;let v24:=v16.data;let v25:=v16.config;let v26:=v25.learners;let v27:=v25.voters;let v28:=(↑(List.length v10):Int);let v29:=List.take (0:Nat) v10;(0:Int)=(↑(0:Nat):Int)∧v28=v28∧v9=v9∧v6=v6∧v20=v20∧v17=v17∧v23=v23∧v22=v22∧v27=v27∧v26=v26∧v24=v24∧v12=v12∧v15=v15∧v13=v13∧v11=v11∧v14=v14++List.filter (readyB s) v29∧List.filter (fun (r:Read)=>!readyB s r) v29=[]∧v19=v19∧v18=v18∧v21=v21∧v5=v5∧v2=v2∧v10=v10∧v8=v8∧v7=v7∧v3=v3∧True) (by kernel_rfl) ?_ 300 (p:=fun (x:Nat) (V:List PE→Prop)=>let v0:=Step.n s;let v1:=Step.o s;let v2:=v0.reads;let v3:=v0.kept;let v4:=Step.n (answerS s);let v5:=Step.o (answerS s);let v6:=v4.kept;let v7:=v3.snap;let v8:=(↑x:Int);let v9:=v7.config;let v10:=v6.snap;let v11:=List.length v2;let v12:=List.take x v2;let v13:=v10.config;let v14:=(↑v11:Int);let v15:=decide (v8<v14);True∧True∧(v15=true→((0:Int)≤v8∧v8<v14∧x<v11∧True)∧True∧True∧V [PE.a])∧(v15=false→True∧v0.id=v4.id∧v0.role=v4.role∧v3.term=v6.term∧v3.vote=v6.vote∧v7.index=v10.index∧v7.term=v10.term∧v9.voters=v13.voters∧v9.learners=v13.learners∧v7.data=v10.data∧v0.commit=v4.commit∧v0.lead=v4.lead∧v0.elapsed=v4.elapsed∧v0.round=v4.round∧v3.entries=v6.entries∧v0.yes=v4.yes∧v0.peers=v4.peers∧v1.records=v5.records∧v1.messages=v5.messages∧v1.lost=v5.lost∧List.filter (fun (r:Read)=>!readyB s r) v12=v4.reads∧v1.ready++List.filter (readyB s) v12=v5.ready∧True)) (by intro x;kernel_rfl) ?_
 ·simp
 rintro j hj
 simp only [imp_self,implies_true,true_and,and_true,decide_eq_true_eq,decide_eq_false_iff_not]
 refine ⟨fun h6=>⟨⟨by omega,by omega,by omega⟩,?_⟩,fun h6=>?_⟩
 ·refine LoopG.head (fitsT tabRb_ok fun _=>none) 1 (A:=Nat) (fun i=>i≤s.n.peers.length) (fun i=>[(36,.int .i64 i),(6,.own 14)]) (fun i=>[(14,.row 3 [] (.rInts (s.n.id::((s.n.peers.take i).filter (roundB (s.n.reads.getD j default))).map (·.node)))),(59,.dead)]) (fun i=>s.n.peers.length - i) 0 (Nat.zero_le _) (p0:=let v0:=Step.n s;let v1:=Step.o s;let v2:=v0.peers;let v3:=v0.yes;let v4:=v0.role;let v5:=v1.messages;let v6:=v0.id;let v7:=v0.reads;let v8:=v1.records;let v9:=v0.round;let v10:=v0.kept;let v11:=v0.commit;let v12:=v0.elapsed;let v13:=v1.lost;let v14:=v0.lead;let v15:=v10.entries;let v16:=v10.vote;let v17:=Config.voters (confC v0);let v18:=Config.learners (confC v0);let v19:=v10.snap;let v20:=(↑j:Int);let v21:=v10.term;let v22:=v19.index;let v23:=v19.term;let v24:=v19.config;let v25:=v19.data;let v26:=v24.learners;let v27:=v24.voters;let v28:=List.take j v7;let v29:=(↑(List.length v7):Int);let v30:=(↑(List.length v2):Int);let v31:=List.getD v7 j default;let v32:=v31.round;let v33:=v31.token;let v34:=v31.index;let v35:=List.filter (fun (r:Read)=>!readyB s r) v28;let v36:=v1.ready++List.filter (readyB s) v28;let v37:=decide (v20<v29);(0:Int)=(↑(0:Nat):Int)∧v30=v30∧v6=v6∧v33=v33∧v34=v34∧v32=v32∧v37=v37∧v20=v20∧v29=v29∧[v6]=v6::List.map (fun (x:Peer)=>Peer.node x) (List.filter (roundB v31) (List.take (0:Nat) v2))∧v33=v33∧v34=v34∧v32=v32∧v6=v6∧v4=v4∧v21=v21∧v16=v16∧v22=v22∧v23=v23∧v27=v27∧v26=v26∧v25=v25∧v11=v11∧v14=v14∧v12=v12∧v9=v9∧v36=v36∧v35=v35∧v17=v17∧v18=v18∧v15=v15∧v3=v3∧v2=v2∧v7=v7∧v8=v8∧v5=v5∧v13=v13∧True) (by kernel_rfl) ?_ 300 (p:=fun (x:Nat) (V:List PE→Prop)=>let v0:=Step.n s;let v1:=confC v0;let v2:=v0.reads;let v3:=v0.peers;let v4:=(↑x:Int);let v5:=List.length v3;let v6:=List.take j v2;let v7:=(↑v5:Int);let v8:=List.getD v2 j default;let v9:=List.getD v3 x default;let v10:=v9.round;let v11:=v8.round;let v12:=List.length [v8];let v13:=v0.id::List.map (fun (x:Peer)=>Peer.node x) (List.filter (roundB v8) (List.take x v3));let v14:=decide (v4<v7);let v15:=List.length v13;let v16:=mayC v1&&reachC (v1.voters) v13;let v17:=decide (v10≥v11);True∧True∧(v14=true→((0:Int)≤v4∧v4<v7∧x<v5∧True)∧True∧True∧(v17=true→((v15+List.length [v9.node])*(1024:Nat)≤(140737488355328:Nat)∧True)∧True∧V [PE.a,PE.a])∧(v17=false→True∧V [PE.a,PE.b]))∧(v14=false→(v15≤(17592186044416:Nat)∧SmallC v1∧True)∧True∧(v16=true→((List.length (Out.ready (Step.o s)++List.filter (readyB s) v6)+v12)*(1024:Nat)≤(140737488355328:Nat)∧True)∧True∧V [PE.b,PE.a])∧(v16=false→((List.length (List.filter (fun (r:Read)=>!readyB s r) v6)+v12)*(1024:Nat)≤(140737488355328:Nat)∧True)∧True∧V [PE.b,PE.b]))) (by intro x;kernel_rfl) ?_
  ·simp
  rintro i hi
  simp only [imp_self,implies_true,true_and,and_true,decide_eq_true_eq,decide_eq_false_iff_not]
  have hpl:((s.n.peers.take i).filter (roundB (s.n.reads.getD j default))).length≤10000:=by
   have h1:=List.length_filter_le (roundB (s.n.reads.getD j default)) (s.n.peers.take i)
   simp only [List.length_take] at h1;omega
  have hrl:∀ f:Read→Bool,((s.n.reads.take j).filter f).length≤10000:=fun f=>by
   have h1:=List.length_filter_le f (s.n.reads.take j)
   simp only [List.length_take] at h1;omega
  have hsn:∀ f:Read→Bool,(s.n.reads.take (j+1)).filter f=(s.n.reads.take j).filter f++(if f (s.n.reads.getD j default)=true then [s.n.reads.getD j default] else []):=fun f=>by
   rw [take_snoc (d:=(default:Read)) (by omega),List.filter_append]
   simp only [List.filter_cons,List.filter_nil]
  refine ⟨fun h7=>⟨⟨by omega,by omega,by omega⟩,fun h8=>⟨by simp only [List.length_cons,List.length_map,List.length_nil];omega,?_⟩,fun h8=>?_⟩,fun h7=>⟨⟨by simp only [List.length_cons,List.length_map];omega,confC_small hn⟩,fun h8=>⟨by have:=hrl (readyB s);simp only [List.length_append,List.length_cons,List.length_nil];omega,?_⟩,fun h8=>⟨by have:=hrl fun r=>!readyB s r;simp only [List.length_cons,List.length_nil];omega,?_⟩⟩⟩
  ·refine Back.mk (i+1) (by show i+1≤_;omega) (by show _ - (i+1)<_ - i;omega) (p0:=let v0:=Step.n s;let v1:=Step.o s;let v2:=v0.peers;let v3:=v0.yes;let v4:=v0.role;let v5:=v1.messages;let v6:=v0.id;let v7:=v0.reads;let v8:=v1.records;let v9:=v0.round;let v10:=v0.kept;let v11:=v0.commit;let v12:=v0.elapsed;let v13:=v1.lost;let v14:=v0.lead;let v15:=v10.entries;let v16:=v10.vote;let v17:=Config.voters (confC v0);let v18:=Config.learners (confC v0);let v19:=v10.snap;let v20:=(↑j:Int);let v21:=v10.term;let v22:=v19.index;let v23:=v19.term;let v24:=v19.config;let v25:=v19.data;let v26:=v24.learners;let v27:=v24.voters;let v28:=List.take j v7;let v29:=(↑(List.length v7):Int);let v30:=(↑(List.length v2):Int);let v31:=List.getD v7 j default;let v32:=v31.round;let v33:=v31.index;let v34:=v31.token;let v35:=List.filter (fun (r:Read)=>!readyB s r) v28;let v36:=v1.ready++List.filter (readyB s) v28;let v37:=decide (v20<v29);IntKind.wrap IntKind.i64 ((↑i:Int)+(1:Int))=(↑(i+(1:Nat)):Int)∧v30=v30∧v6=v6∧v34=v34∧v33=v33∧v32=v32∧v37=v37∧v20=v20∧v29=v29∧v6::List.map (fun (x:Peer)=>Peer.node x) (List.filter (roundB v31) (List.take i v2))++[Peer.node (List.getD v2 i default)]=v6::List.map (fun (x:Peer)=>Peer.node x) (List.filter (roundB v31) (List.take (i+(1:Nat)) v2))∧v34=v34∧v33=v33∧v32=v32∧v6=v6∧v4=v4∧v21=v21∧v16=v16∧v22=v22∧v23=v23∧v27=v27∧v26=v26∧v25=v25∧v11=v11∧v14=v14∧v12=v12∧v9=v9∧v36=v36∧v35=v35∧v17=v17∧v18=v18∧v15=v15∧v3=v3∧v2=v2∧v7=v7∧v8=v8∧v5=v5∧v13=v13∧True) (by kernel_rfl) ?_
   simp only [true_and,and_true]
   rw [take_snoc (d:=(default:Peer)) (by omega),List.filter_append]
   have h9:roundB (s.n.reads.getD j default) (s.n.peers.getD i default)=true:=by unfold roundB;simpa using h8
   simp only [wrapN (i:=i) (by omega),List.filter_cons,List.filter_nil,h9,if_true,List.map_append,List.map_cons,List.map_nil,List.cons_append,true_and,and_true]
   omega
  ·refine Back.mk (i+1) (by show i+1≤_;omega) (by show _ - (i+1)<_ - i;omega) (p0:=let v0:=Step.n s;let v1:=Step.o s;let v2:=v0.peers;let v3:=v0.yes;let v4:=v0.role;let v5:=v1.messages;let v6:=v0.id;let v7:=v0.reads;let v8:=v1.records;let v9:=v0.round;let v10:=v0.kept;let v11:=v0.commit;let v12:=v0.elapsed;let v13:=v1.lost;let v14:=v0.lead;let v15:=v10.entries;let v16:=v10.vote;let v17:=Config.voters (confC v0);let v18:=Config.learners (confC v0);let v19:=v10.snap;let v20:=(↑j:Int);let v21:=v10.term;let v22:=v19.index;let v23:=v19.term;let v24:=v19.config;let v25:=v19.data;let v26:=v24.learners;let v27:=v24.voters;let v28:=List.take j v7;let v29:=(↑(List.length v7):Int);let v30:=(↑(List.length v2):Int);let v31:=List.getD v7 j default;let v32:=v31.round;let v33:=v31.index;let v34:=v31.token;let v35:=List.filter (fun (r:Read)=>!readyB s r) v28;let v36:=v1.ready++List.filter (readyB s) v28;let v37:=decide (v20<v29);IntKind.wrap IntKind.i64 ((↑i:Int)+(1:Int))=(↑(i+(1:Nat)):Int)∧v30=v30∧v6=v6∧v34=v34∧v33=v33∧v32=v32∧v37=v37∧v20=v20∧v29=v29∧v6::List.map (fun (x:Peer)=>Peer.node x) (List.filter (roundB v31) (List.take i v2))=v6::List.map (fun (x:Peer)=>Peer.node x) (List.filter (roundB v31) (List.take (i+(1:Nat)) v2))∧v34=v34∧v33=v33∧v32=v32∧v6=v6∧v4=v4∧v21=v21∧v16=v16∧v22=v22∧v23=v23∧v27=v27∧v26=v26∧v25=v25∧v11=v11∧v14=v14∧v12=v12∧v9=v9∧v36=v36∧v35=v35∧v17=v17∧v18=v18∧v15=v15∧v3=v3∧v2=v2∧v7=v7∧v8=v8∧v5=v5∧v13=v13∧True) (by kernel_rfl) ?_
   simp only [true_and,and_true]
   rw [take_snoc (d:=(default:Peer)) (by omega),List.filter_append]
   have h9:roundB (s.n.reads.getD j default) (s.n.peers.getD i default)=false:=by unfold roundB;simpa using h8
   simp only [wrapN (i:=i) (by omega),List.filter_cons,List.filter_nil,h9,if_false,List.append_nil,Bool.false_eq_true,true_and,and_true]
   omega
  ·have:i=s.n.peers.length:=by omega
   subst this
   rw [List.take_length] at h8
   have h9:readyB s (s.n.reads.getD j default)=true:=h8
   refine Back.up (Back.mk (j+1) (by show j+1≤_;omega) (by show _ - (j+1)<_ - j;omega) (p0:=let v0:=Step.n s;let v1:=Step.o s;let v2:=v0.peers;let v3:=v1.lost;let v4:=v0.kept;let v5:=v0.yes;let v6:=v0.role;let v7:=v1.messages;let v8:=v1.records;let v9:=v0.id;let v10:=v0.reads;let v11:=v0.round;let v12:=v0.commit;let v13:=v0.elapsed;let v14:=v1.ready;let v15:=v0.lead;let v16:=v4.snap;let v17:=v4.vote;let v18:=Config.learners (confC v0);let v19:=Config.voters (confC v0);let v20:=v4.term;let v21:=v4.entries;let v22:=v16.term;let v23:=v16.data;let v24:=v16.index;let v25:=v16.config;let v26:=v25.voters;let v27:=List.take j v10;let v28:=v25.learners;let v29:=(↑(List.length v10):Int);let v30:=List.take (j+(1:Nat)) v10;IntKind.wrap IntKind.i64 ((↑j:Int)+(1:Int))=(↑(j+(1:Nat)):Int)∧v29=v29∧v9=v9∧v6=v6∧v20=v20∧v17=v17∧v24=v24∧v22=v22∧v26=v26∧v28=v28∧v23=v23∧v12=v12∧v15=v15∧v13=v13∧v11=v11∧v14++List.filter (readyB s) v27++[List.getD v10 j default]=v14++List.filter (readyB s) v30∧List.filter (fun (r:Read)=>!readyB s r) v27=List.filter (fun (r:Read)=>!readyB s r) v30∧v19=v19∧v18=v18∧v21=v21∧v5=v5∧v2=v2∧v10=v10∧v8=v8∧v7=v7∧v3=v3∧True) (by kernel_rfl) ?_)
   simp only [true_and,and_true]
   rw [hsn,hsn,if_pos h9,h9,if_neg (by decide)]
   simp only [wrapN (i:=j) (by omega),List.append_nil,List.append_assoc,true_and,and_true]
   omega
  ·have:i=s.n.peers.length:=by omega
   subst this
   rw [List.take_length] at h8
   have h9:readyB s (s.n.reads.getD j default)=false:=h8
   refine Back.up (Back.mk (j+1) (by show j+1≤_;omega) (by show _ - (j+1)<_ - j;omega) (p0:=let v0:=Step.n s;let v1:=Step.o s;let v2:=v0.peers;let v3:=v1.lost;let v4:=v0.kept;let v5:=v0.yes;let v6:=v0.role;let v7:=v1.messages;let v8:=v1.records;let v9:=v0.id;let v10:=v0.reads;let v11:=v0.round;let v12:=v0.commit;let v13:=v0.elapsed;let v14:=v1.ready;let v15:=v0.lead;let v16:=v4.snap;let v17:=v4.vote;let v18:=Config.learners (confC v0);let v19:=Config.voters (confC v0);let v20:=v4.term;let v21:=v4.entries;let v22:=v16.term;let v23:=v16.data;let v24:=v16.index;let v25:=v16.config;let v26:=v25.voters;let v27:=List.take j v10;let v28:=v25.learners;let v29:=(↑(List.length v10):Int);let v30:=List.take (j+(1:Nat)) v10;IntKind.wrap IntKind.i64 ((↑j:Int)+(1:Int))=(↑(j+(1:Nat)):Int)∧v29=v29∧v9=v9∧v6=v6∧v20=v20∧v17=v17∧v24=v24∧v22=v22∧v26=v26∧v28=v28∧v23=v23∧v12=v12∧v15=v15∧v13=v13∧v11=v11∧v14++List.filter (readyB s) v27=v14++List.filter (readyB s) v30∧List.filter (fun (r:Read)=>!readyB s r) v27++[List.getD v10 j default]=List.filter (fun (r:Read)=>!readyB s r) v30∧v19=v19∧v18=v18∧v21=v21∧v5=v5∧v2=v2∧v10=v10∧v8=v8∧v7=v7∧v3=v3∧True) (by kernel_rfl) ?_)
   simp only [true_and,and_true]
   rw [hsn,hsn,h9,if_neg (by decide),if_pos (by decide)]
   simp only [wrapN (i:=j) (by omega),List.append_nil,List.append_assoc,true_and,and_true]
   omega
 ·obtain rfl:j=s.n.reads.length:=by omega
  simp only [List.take_length,answerS,and_self]
def eAnswer:Ent:=entN0 110 3 mW vrW [1] glW fun s=>([SmallN s.n,SmallO s.o,s.o.ready.length≤10000,s.n.reads.length≤10000,s.n.peers.length≤10000],.tup [],wMoA (answerS s))
theorem eAnswer_ok:EntOk Tryz.prog eAnswer:=entN0_ok (fnB Tryz.func110 (by decide) rfl) fun s h=>answer_fn s (h _ (by simp)) (h _ (by simp)) (h _ (by simp)) (h _ (by simp)) (h _ (by simp))
def SmallD (c:Config):Prop:=c.voters.length≤4000∧c.learners.length≤4000
theorem SmallD.c {c:Config} (h:SmallD c):SmallC c:=⟨Nat.le_trans h.1 (by decide),Nat.le_trans h.2 (by decide)⟩
theorem smallD0:SmallD ⟨[],[]⟩:=⟨by decide,by decide⟩
structure Few (B:Nat) (s:Step):Prop where
 entries:s.n.kept.entries.length≤B
 ec:∀ e∈s.n.kept.entries,SmallD e.config
 sc:SmallD s.n.kept.snap.config
 yes:s.n.yes.length≤B
 peers:s.n.peers.length≤5000
 reads:s.n.reads.length≤5000
 records:s.o.records.length≤B
 messages:s.o.messages.length≤B
 ready:s.o.ready.length≤B
 lost:s.o.lost.length≤B
theorem Few.mono {B C:Nat} {s:Step} (h:Few B s) (hb:B≤C):Few C s:=
 ⟨Nat.le_trans h.entries hb,h.ec,h.sc,Nat.le_trans h.yes hb,h.peers,h.reads,Nat.le_trans h.records hb,Nat.le_trans h.messages hb,Nat.le_trans h.ready hb,Nat.le_trans h.lost hb⟩
theorem Few.k {B:Nat} {s:Step} (h:Few B s) (hb:B≤1000000):SmallK s.n.kept:=⟨⟨Nat.le_trans h.entries hb,fun e he=>(h.ec e he).c⟩,h.sc.c⟩
theorem Few.sn {B:Nat} {s:Step} (h:Few B s) (hb:B≤1000000):SmallN s.n:=⟨h.k hb,Nat.le_trans h.yes hb,Nat.le_trans h.peers (by decide),Nat.le_trans h.reads (by decide)⟩
theorem Few.so {B:Nat} {s:Step} (h:Few B s) (hb:B≤1000000):SmallO s.o:=⟨Nat.le_trans h.records hb,Nat.le_trans h.messages hb,Nat.le_trans h.ready hb,Nat.le_trans h.lost hb⟩
theorem Few.cf {B:Nat} {s:Step} (h:Few B s):SmallD (confC s.n):=by
 unfold confC configC
 split
 ·unfold cfgR
  split
  ·rename_i e he
   exact h.ec e (by have:=List.mem_of_find?_eq_some he;simpa using this)
  ·exact h.sc
 ·exact smallD0
theorem Few.recd {B:Nat} {s:Step} {r:Record} (h:Few B s) (h1:SmallD r.entry.config) (h2:SmallD r.snap.config):Few (B+1) (recS s r):=by
 have hk:(recK s.n.kept r).entries.length≤B+1∧(∀ e∈(recK s.n.kept r).entries,SmallD e.config)∧SmallD (recK s.n.kept r).snap.config:=by
  have g1:=h.entries
  unfold recK
  split
  ·exact ⟨Nat.le_succ_of_le h.entries,h.ec,h.sc⟩
  split
  ·refine ⟨by simp only [List.length_append,List.length_cons,List.length_nil];omega,fun e he=>?_,h.sc⟩
   simp only [List.mem_append,List.mem_singleton] at he
   rcases he with he | rfl
   ·exact h.ec e he
   ·exact h1
  split
  ·exact ⟨by simp only [List.length_take];omega,fun e he=>h.ec e (List.mem_of_mem_take he),h.sc⟩
  split
  ·refine ⟨?_,fun e he=>?_,h2⟩
   ·show (if _ then _ else _:List Entry).length≤_
    split
    ·simp only [List.length_drop];omega
    ·simp
   ·have he:e∈(if (termC s.n.kept r.snap.index).2=0∧(termC s.n.kept r.snap.index).1=r.snap.term then s.n.kept.entries.drop (IntKind.i64.wrap (r.snap.index - s.n.kept.snap.index)).toNat else []):=he
    split at he
    ·exact h.ec e (List.mem_of_mem_drop he)
    ·cases he
  ·exact ⟨Nat.le_succ_of_le h.entries,h.ec,h.sc⟩
 exact ⟨hk.1,hk.2.1,hk.2.2,Nat.le_succ_of_le h.yes,h.peers,h.reads,by show (s.o.records++[r]).length≤_;have:=h.records;simp only [List.length_append,List.length_cons,List.length_nil];omega,Nat.le_succ_of_le h.messages,Nat.le_succ_of_le h.ready,Nat.le_succ_of_le h.lost⟩
theorem Few.run {B:Nat} {s:Step} (role:Int) (h:Few B s) (h1:1≤B):Few B (runS s role):=⟨h.entries,h.ec,h.sc,h1,h.peers,h.reads,h.records,h.messages,h.ready,h.lost⟩
theorem Few.lay {B:Nat} {s:Step} {e:Entry} (h:Few B s) (h1:SmallD e.config):Few (B+1) (layS s e):=h.recd h1 smallD0
theorem Few.send {B:Nat} {s:Step} (m:Message) (h:Few B s):Few (B+1) (sendS s m):=by
 have:=h.messages
 exact ⟨Nat.le_succ_of_le h.entries,h.ec,h.sc,Nat.le_succ_of_le h.yes,h.peers,h.reads,Nat.le_succ_of_le h.records,by show (s.o.messages++[msgS s m]).length≤_;simp only [List.length_append,List.length_cons,List.length_nil];omega,Nat.le_succ_of_le h.ready,Nat.le_succ_of_le h.lost⟩
theorem Few.ask {B:Nat} {s:Step} (m:Message) (h:Few B s):Few (B+4000) (askS s m):=by
 have h1:=h.messages
 have h2:=h.cf.1
 have h3:(dropL (confC s.n).voters s.n.id).length≤(confC s.n).voters.length:=List.length_filter_le _ _
 have g:=h.mono (show B≤B+4000 by omega)
 exact ⟨g.entries,g.ec,g.sc,g.yes,g.peers,g.reads,g.records,by show (s.o.messages++_).length≤_;simp only [List.length_append,List.length_map];omega,g.ready,g.lost⟩
theorem Few.all {B:Nat} {s:Step} (h:Few B s):Few (B+5000) (allS s):=by
 have h1:=h.messages
 have h2:=h.peers
 have g:=h.mono (show B≤B+5000 by omega)
 exact ⟨g.entries,g.ec,g.sc,g.yes,g.peers,g.reads,g.records,by show (s.o.messages++_).length≤_;simp only [List.length_append,List.length_map];omega,g.ready,g.lost⟩
theorem Few.count {B:Nat} {s:Step} (h:Few B s):Few B (countS s):=by
 unfold countS
 split
 ·exact ⟨h.entries,h.ec,h.sc,h.yes,h.peers,h.reads,h.records,h.messages,h.ready,h.lost⟩
 ·exact h
def zEntry:Entry:=⟨0,0,0,⟨[],[]⟩,zs⟩
def noneE:Entry:=⟨0,0,1,⟨[],[]⟩,zs⟩
def peer0 (s:Step) (o:Int):Peer:=⟨o,IntKind.i64.wrap ((lastC s.n.kept).1+1),0,0⟩
def leadS (s:Step) (ps:List Peer):Step:=⟨{s.n with role:=4,lead:=s.n.id,elapsed:=0,yes:=[],peers:=ps},s.o⟩
def ledS (s:Step):Step:=leadS s ((othersC s.n).map (peer0 s))
def ruleS (s:Step):Step:=allS (countS (layS (ledS s) noneE))
theorem Few.led {B:Nat} {s:Step} (h:Few B s):Few B (ledS s):=by
 have h1:(othersC s.n).length≤16:=Nat.le_trans (List.length_filter_le _ _) (allC_asc (confC s.n)).2
 exact ⟨h.entries,h.ec,h.sc,Nat.zero_le _,by show (List.map _ _).length≤_;rw [List.length_map];omega,h.reads,h.records,h.messages,h.ready,h.lost⟩
theorem Few.rule {B:Nat} {s:Step} (h:Few B s):Few (B+5001) (ruleS s):=((h.led.lay (e:=noneE) smallD0).count.all).mono (by omega)
def tabB:List Ent:=[eOth,eWLast,eLay,eCount,eAllW]
theorem tabB_ok:∀ e∈tabB,EntOk Tryz.prog e:=tab_cons eOth_ok (tab_cons eWLast_ok (tab_cons eLay_ok (tab_cons eCount_ok (tab_cons eAllW_ok tab_nil))))
theorem rule_fn (s:Step) (hf:Few 80000 s):FnG Tryz.prog 140 3 (wMi s) [.ptr 2 0] (.tup []) (wMo (ruleS s)):=by
 refine FnG.of_vc (fitsT tabB_ok fun _=>none) Tryz.func140 rfl (by decide) rfl 300 (p:=fun (V:List PE→Prop)=>let v0:=Step.n s;let v1:=v0.reads;let v2:=v0.kept;let v3:=v0.id;True∧(List.length (v2.entries)≤(17592186044416:Nat)∧List.length v1≤(17592186044416:Nat)∧SmallN (Node.mk v3 (4:Int) v2 (v0.commit) v3 (0:Int) [] [] (v0.round) v1)∧True)∧V []) (by kernel_rfl) ?_
 simp only [imp_self,implies_true,true_and,and_true,pickB_f,pickB_t]
 have hol:(othersC s.n).length≤16:=Nat.le_trans (List.length_filter_le _ _) (allC_asc (confC s.n)).2
 have hsn:=hf.sn (by decide)
 have hso:=hf.so (by decide)
 obtain ⟨b1,b2,b3,b4,b5⟩:=hsn.ls
 obtain ⟨c1,c2,c3,c4⟩:=hso.ls
 obtain ⟨L,hL⟩:∃ L,othersC s.n=L:=⟨_,rfl⟩
 refine ⟨⟨b1,b4,⟨hsn.k,Nat.zero_le _,Nat.zero_le _,hsn.reads⟩⟩,?_⟩
 refine LoopG.head (fitsT tabB_ok fun _=>none) 0 (A:=Nat) (fun j=>j≤L.length) (fun j=>[(35,.int .i64 j),(34,.int .i64 (L.length:Int)),(33,.sl [53] (.rInts L))]) (fun j=>[(2,.cells 115 (wCs [1] (leadS s ((L.take j).map (peer0 s))) 3 13 12 6 7 8 9 10)),(12,.row 94 [] (.rPeer ((L.take j).map (peer0 s)))),(13,.row 3 [] (.rInts []))]) (fun j=>L.length - j) 0 (Nat.zero_le _) (p0:=let v0:=Step.n s;let v1:=Step.o s;let v2:=v0.commit;let v3:=v1.records;let v4:=v1.ready;let v5:=v0.yes;let v6:=v0.kept;let v7:=v0.round;let v8:=v1.messages;let v9:=v0.peers;let v10:=v1.lost;let v11:=v0.id;let v12:=v0.reads;let v13:=v6.snap;let v14:=v6.entries;let v15:=v13.config;let v16:=List.map (peer0 s) (List.take (0:Nat) L);let v17:=Step.n (leadS s v16);let v18:=v17.kept;let v19:=v18.snap;let v20:=v19.config;let v21:=othersC (Node.mk v11 (4:Int) v6 v2 v11 (0:Int) [] [] v7 v12);(0:Int)=(↑(0:Nat):Int)∧(↑(List.length v21):Int)=(↑(List.length L):Int)∧v21=L∧v11=v17.id∧(4:Int)=v17.role∧v6.term=v18.term∧v6.vote=v18.vote∧v13.index=v19.index∧v13.term=v19.term∧v15.voters=v20.voters∧v15.learners=v20.learners∧v13.data=v19.data∧v2=v17.commit∧v11=v17.lead∧(0:Int)=v17.elapsed∧v7=v17.round∧v16=[]∧eqNil Int∧v14=v14∧v5=v5∧v9=v9∧v12=v12∧v3=v3∧v8=v8∧v4=v4∧v10=v10∧True) (by kernel_rfl) ?_ 300 (p:=fun (x:Nat) (V:List PE→Prop)=>let v0:=Step.o s;let v1:=Step.o (ruleS s);let v2:=Node.reads (Step.n s);let v3:=Step.n (ruleS s);let v4:=v3.kept;let v5:=Kept.entries (Node.kept (Step.n s));let v6:=(↑x:Int);let v7:=v4.snap;let v8:=(0:Int);let v9:=(↑(List.length L):Int);let v10:=v7.config;let v11:=List.map (peer0 s) (List.take x L);let v12:=List.length v11;let v13:=Step.n (leadS s v11);let v14:=v13.kept;let v15:=decide (v6<v9);let v16:=Entry.mk v8 v8 (1:Int) (Config.mk [] []) (ByteArray.mk #[]);let v17:=Kept.mk (v14.term) (v14.vote) (v14.snap) v5;let v18:=Node.mk (v13.id) (v13.role) v17 (v13.commit) (v13.lead) (v13.elapsed) [] v11 (v13.round) v2;let v19:=layS (Step.mk v18 v0) v16;let v20:=countS v19;let v21:=v19.n;let v22:=v20.n;let v23:=allS v20;let v24:=v23.o;let v25:=v23.n;let v26:=v25.kept;let v27:=v26.snap;let v28:=v27.config;True∧True∧(v15=true→(v8≤v6∧v6<v9∧True)∧(List.length v5≤(17592186044416:Nat)∧(0:Nat)≤(17592186044416:Nat)∧v12≤(17592186044416:Nat)∧List.length v2≤(17592186044416:Nat)∧List.length (v0.records)≤(17592186044416:Nat)∧List.length (v0.messages)≤(17592186044416:Nat)∧List.length (v0.ready)≤(17592186044416:Nat)∧List.length (v0.lost)≤(17592186044416:Nat)∧(v12+List.length [Peer.mk (List.getD L x v8) (IntKind.wrap IntKind.i64 (Prod.fst (lastC v17)+(1:Int))) v8 v8])*(1024:Nat)≤(140737488355328:Nat)∧True)∧True∧V [PE.a])∧(v15=false→(SmallN v18∧SmallO v0∧SmallE v16∧True)∧(SmallN v21∧SmallO (v19.o)∧List.length (Config.voters (confC v21))≤(4000:Nat)∧True)∧(SmallN v22∧List.length (Out.messages (v20.o))+List.length (v22.peers)≤(1000000:Nat)∧True)∧v25.id=v3.id∧v25.role=v3.role∧v26.term=v4.term∧v26.vote=v4.vote∧v27.index=v7.index∧v27.term=v7.term∧v28.voters=v10.voters∧v28.learners=v10.learners∧v27.data=v7.data∧v25.commit=v3.commit∧v25.lead=v3.lead∧v25.elapsed=v3.elapsed∧v25.round=v3.round∧v26.entries=v4.entries∧v25.yes=v3.yes∧v25.peers=v3.peers∧v25.reads=v3.reads∧v24.records=v1.records∧v24.messages=v1.messages∧v24.ready=v1.ready∧v24.lost=v1.lost∧True)) (by intro x;kernel_rfl) ?_
 ·refine ⟨rfl,by rw [← hL];rfl,hL,?_⟩
  simp [leadS]
 rintro j hj
 simp only [imp_self,implies_true,true_and,and_true,decide_eq_true_eq,decide_eq_false_iff_not]
 have hml:(List.map (peer0 s) (List.take j L)).length≤16:=by simp only [List.length_map,List.length_take];rw [← hL];omega
 have hle:∀ ps:List Peer,ps.length≤5000→Few 80000 (leadS s ps):=fun ps h=>⟨hf.entries,hf.ec,hf.sc,Nat.zero_le _,h,hf.reads,hf.records,hf.messages,hf.ready,hf.lost⟩
 refine ⟨fun h6=>⟨⟨by omega,h6⟩,⟨b1,by decide,by omega,b4,c1,c2,c3,c4,by simp only [List.length_cons,List.length_nil];omega⟩,?_⟩,fun h6=>?_⟩
 ·refine Back.mk (j+1) (by show j+1≤_;omega) (by show _ - (j+1)<_ - j;omega) (p0:=let v0:=Step.n s;let v1:=Step.o s;let v2:=v1.lost;let v3:=v0.peers;let v4:=v0.reads;let v5:=v1.records;let v6:=v1.messages;let v7:=v0.yes;let v8:=v1.ready;let v9:=Kept.entries (v0.kept);let v10:=(↑(List.length L):Int);let v11:=List.map (peer0 s) (List.take j L);let v12:=Step.n (leadS s v11);let v13:=v12.kept;let v14:=v13.term;let v15:=v13.vote;let v16:=v13.snap;let v17:=v16.config;let v18:=List.map (peer0 s) (List.take (j+(1:Nat)) L);let v19:=Step.n (leadS s v18);let v20:=v19.kept;let v21:=v20.snap;let v22:=v21.config;IntKind.wrap IntKind.i64 ((↑j:Int)+(1:Int))=(↑(j+(1:Nat)):Int)∧v10=v10∧L=L∧v12.id=v19.id∧v12.role=v19.role∧v14=v20.term∧v15=v20.vote∧v16.index=v21.index∧v16.term=v21.term∧v17.voters=v22.voters∧v17.learners=v22.learners∧v16.data=v21.data∧v12.commit=v19.commit∧v12.lead=v19.lead∧v12.elapsed=v19.elapsed∧v12.round=v19.round∧v11++[Peer.mk (List.getD L j (0:Int)) (IntKind.wrap IntKind.i64 (Prod.fst (lastC (Kept.mk v14 v15 v16 v9))+(1:Int))) (0:Int) (0:Int)]=v18∧eqNil Int∧v9=v9∧v7=v7∧v3=v3∧v4=v4∧v5=v5∧v6=v6∧v8=v8∧v2=v2∧True) (by kernel_rfl) ?_
  have e1:=take_snoc (l:=L) (d:=(0:Int)) (i:=j) (by omega)
  rw [hL] at hol
  simp only [wrapN (i:=j) (by omega),e1,List.map_append,List.map_cons,List.map_nil,true_and,and_true]
  refine ⟨by omega,?_⟩
  simp [leadS,peer0]
 ·obtain rfl:j=L.length:=by omega
  rw [List.take_length] at hml ⊢
  have k1:=hle _ (show (L.map (peer0 s)).length≤5000 by omega)
  have k2:=k1.lay (e:=noneE) smallD0
  have k3:=k2.count
  have e:ruleS s=allS (countS (layS (leadS s (L.map (peer0 s))) noneE)):=by rw [ruleS,ledS,hL]
  refine ⟨⟨k1.sn (by decide),k1.so (by decide),smallD0.c⟩,⟨k2.sn (by decide),k2.so (by decide),?_⟩,?_⟩
  ·exact k2.cf.1
  ·refine ⟨⟨k3.sn (by decide),?_⟩,?_⟩
   ·have h1:=k3.messages
    have h2:=k3.peers
    exact Nat.le_trans (Nat.add_le_add h1 h2) (by decide)
   ·rw [e]
    repeat' apply And.intro
    all_goals rfl
def lastK (k:Kept):Int:=IntKind.i64.wrap (k.snap.index+k.entries.length)
theorem lastK_fn (k:Kept):FnC Tryz.prog 201 [dKept.can k] (.int .i64 (lastK k)) D2:=by
 refine FnG.of_vc (fitsT tab_nil fun _=>none) Tryz.func201 rfl (by decide) rfl 300 (p:=fun (V:List PE→Prop)=>True∧True∧IntKind.wrap IntKind.i64 (Snap.index (Kept.snap k)+(↑(List.length (Kept.entries k)):Int))=lastK k∧True) (by kernel_rfl) ?_
 simp [lastK]
def eLastK:Ent:=ent1 201 dKept fun k=>([],.int .i64 (lastK k),D2)
theorem eLastK_ok:EntOk Tryz.prog eLastK:=ent1_ok (lastK_fn default).1 fun k _=>lastK_fn k
def zKept:Kept:=⟨0,0,zSnap,[]⟩
theorem no15_fn (e:Int):FnC Tryz.prog 202 [dInt.can e] (.tup [.agg (zKept.svs [1]),.int .i64 e]) D2:=by
 refine FnG.of_vc (fitsT tab_nil fun _=>none) Tryz.func202 rfl (by decide) rfl 300 (p:=fun (V:List PE→Prop)=>let v0:=Kept.snap zKept;let v1:=v0.config;let v2:=(0:Int);True∧True∧v2=Kept.term zKept∧v2=Kept.vote zKept∧v2=v0.index∧v2=v0.term∧v1.voters=[]∧v1.learners=[]∧ByteArray.mk #[]=v0.data∧Kept.entries zKept=[]∧e=e∧True) (by kernel_rfl) ?_
 simp [zKept,zSnap,zs]
def eNo15:Ent:=ent1 202 dInt fun e=>([],.tup [.agg (zKept.svs [1]),.int .i64 e],D2)
theorem eNo15_ok:EntOk Tryz.prog eNo15:=ent1_ok (no15_fn 0).1 fun e _=>no15_fn e
theorem rownO_fn (k:Kept) (hk:SmallK k):FnC Tryz.prog 13 [dKept.can k] (.agg [.int .i64 k.term,.int .i64 k.vote,.int .i64 k.snap.index,.int .i64 k.snap.term,.sl [1] (.rInts k.snap.config.voters),.sl [1] (.rInts k.snap.config.learners),.str k.snap.data,.own 2]) [.dead,.dead,.row 89 [1] (.rEntry k.entries)]:=by
 refine FnC.g1 dKept k (fnB Tryz.func13 (by decide) rfl) fun hkk=>?_
 refine FnG.of_vc (fitsT tabD_ok fun _=>none) Tryz.func13 rfl (by decide) rfl 300 (p:=fun (V:List PE→Prop)=>let v0:=Snap.config (Kept.snap k);True∧(List.length (v0.voters)≤(1000000:Nat)∧List.length (v0.learners)≤(1000000:Nat)∧True)∧True∧V []) (by kernel_rfl) ?_
 simp only [true_and,and_true]
 obtain ⟨⟨hk1,hk2⟩,hk3⟩:=hk
 refine ⟨hk3,?_⟩
 refine LoopG.head (fitsT tabD_ok fun _=>none) 0 (A:=Nat) (fun j=>j≤k.entries.length) (fun j=>[(4,.int .i64 j)]) (fun j=>[(35,.cells 30 [.int .i64 k.term,.int .i64 k.vote,.int .i64 k.snap.index,.int .i64 k.snap.term,.sl [18] (.rInts k.snap.config.voters),.sl [18] (.rInts k.snap.config.learners),.str k.snap.data,.own 19]),(19,.row 89 [20] (.rEntry (k.entries.take j))),(20,.dead)]) (fun j=>k.entries.length - j) 0 (Nat.zero_le _) (p0:=let v0:=Kept.snap k;let v1:=Kept.entries k;let v2:=v0.data;let v3:=v0.term;let v4:=v0.index;let v5:=v0.config;let v6:=v5.voters;let v7:=v5.learners;(0:Int)=(↑(0:Nat):Int)∧Kept.term k=Kept.term k∧Kept.vote k=Kept.vote k∧v4=v4∧v3=v3∧v6=v6∧v7=v7∧v2=v2∧List.take (0:Nat) v1=[]∧(0:Int)=(0:Int)∧(0:Int)=(0:Int)∧(0:Int)=(0:Int)∧(0:Int)=(0:Int)∧ByteArray.mk #[]=ByteArray.mk #[]∧Kept.term k=Kept.term k∧Kept.vote k=Kept.vote k∧v4=v4∧v3=v3∧v6=v6∧v7=v7∧v2=v2∧v1=v1∧True) (by kernel_rfl) ?_ 300 (p:=fun (x:Nat) (V:List PE→Prop)=>let v0:=Kept.snap k;let v1:=Kept.entries k;let v2:=v0.index;let v3:=v0.data;let v4:=v0.config;let v5:=v0.term;let v6:=(↑x:Int);let v7:=v4.learners;let v8:=v4.voters;let v9:=List.take x v1;let v10:=(↑(List.length v1):Int);let v11:=List.getD v1 x default;let v12:=v11.config;let v13:=decide (v6<v10);True∧True∧(v13=true→((0:Int)≤v6∧v6<v10∧List.length (v12.voters)≤(1000000:Nat)∧List.length (v12.learners)≤(1000000:Nat)∧(List.length v9+List.length [v11])*(1024:Nat)≤(140737488355328:Nat)∧True)∧True∧V [PE.a])∧(v13=false→True∧Kept.term k=Kept.term k∧Kept.vote k=Kept.vote k∧v2=v2∧v5=v5∧v8=v8∧v7=v7∧v3=v3∧v9=v1∧True)) (by intro x;kernel_rfl) ?_
 ·simp
 ·rintro j hj
  have hkl:=hkk.entries.1
  simp only [imp_self,implies_true,true_and,and_true,decide_eq_true_eq,decide_eq_false_iff_not]
  refine ⟨fun h6=>?_,fun h6=>?_⟩
  ·have hse:SmallE (k.entries.getD j default):=hk2 _ (getD_mem (by omega))
   refine ⟨⟨by omega,by omega,hse.1,hse.2,by simp;omega⟩,?_⟩
   refine Back.mk (j+1) (by omega) (by omega) (p0:=let v0:=Kept.snap k;let v1:=Kept.entries k;let v2:=v0.data;let v3:=v0.term;let v4:=v0.index;let v5:=v0.config;let v6:=v5.voters;let v7:=v5.learners;IntKind.wrap IntKind.i64 ((↑j:Int)+(1:Int))=(↑(j+(1:Nat)):Int)∧Kept.term k=Kept.term k∧Kept.vote k=Kept.vote k∧v4=v4∧v3=v3∧v6=v6∧v7=v7∧v2=v2∧List.take j v1++[List.getD v1 j default]=List.take (j+(1:Nat)) v1∧(0:Int)=(0:Int)∧(0:Int)=(0:Int)∧(0:Int)=(0:Int)∧(0:Int)=(0:Int)∧ByteArray.mk #[]=ByteArray.mk #[]∧Kept.term k=Kept.term k∧Kept.vote k=Kept.vote k∧v4=v4∧v3=v3∧v6=v6∧v7=v7∧v2=v2∧v1=v1∧True) (by kernel_rfl) ?_
   simp only [true_and,and_true,wrapN (i:=j) (by omega)]
   refine ⟨by omega,?_⟩
   rw [take_snoc (d:=default) (by omega)]
  ·obtain rfl:j=k.entries.length:=by omega
   simp
def eROwnO:Ent:=ent1 13 dKept fun k=>([SmallK k],.agg [.int .i64 k.term,.int .i64 k.vote,.int .i64 k.snap.index,.int .i64 k.snap.term,.sl [1] (.rInts k.snap.config.voters),.sl [1] (.rInts k.snap.config.learners),.str k.snap.data,.own 2],[.dead,.dead,.row 89 [1] (.rEntry k.entries)])
theorem eROwnO_ok:EntOk Tryz.prog eROwnO:=ent1_ok (rownO_fn default smallK0).1 fun k h=>rownO_fn k (h _ (by simp))
def tabR1:List Ent:=[eREntry,eRSnap,eROwnO,eLastK,eNo15]
theorem tabR1_ok:∀ e∈tabR1,EntOk Tryz.prog e:=tab_cons eREntry_ok (tab_cons eRSnap_ok (tab_cons eROwnO_ok (tab_cons eLastK_ok (tab_cons eNo15_ok tab_nil))))
def foldOk (k : Kept) (r : Record) : Prop := onC k = true ∧ k.snap.index + k.entries.length ≤ 1000000000 ∧
  ((r.kind = 1 ∧ k.term ≤ r.term) ∨ (r.kind = 2 ∧ r.entry.index = k.snap.index + k.entries.length + 1 ∧ k.entries.length < 10000) ∨
   (r.kind = 3 ∧ k.snap.index < r.index ∧ r.index ≤ k.snap.index + k.entries.length) ∨ (r.kind = 4 ∧ k.snap.index < r.snap.index))
theorem foldOk.last {k:Kept} {r:Record} (h:foldOk k r):lastK k=k.snap.index+k.entries.length∧0≤k.snap.index:=by
 have h1:=(on_bd h.1).1
 have h2:=h.2.1
 unfold lastK
 rw [IntKind.wrap_i64]
 omega
theorem folded_fn (k:Kept) (r:Record) (hk:SmallK k) (hr:SmallR r) (hf:foldOk k r):FnC Tryz.prog 164 [dKept.can k,dRecord.can r] (.tup [.agg ((recK k r).svs [1]),.int .i64 0]) D2:=by
 refine FnC.g2 dKept dRecord k r (fnB Tryz.func164 (by decide) rfl) fun hkk hrr=>?_
 refine FnG.of_vc (fitsT tabR1_ok fun _=>none) Tryz.func164 rfl (by decide) rfl 300 (p:=fun (V:List PE→Prop)=>let v0:=Record.kind r;let v1:=Kept.entries k;let v2:=Record.snap r;let v3:=Kept.term k;let v4:=Record.term r;let v5:=Kept.snap zKept;let v6:=Record.entry r;let v7:=Kept.snap k;let v8:=Record.index r;let v9:=v2.term;let v10:=v2.config;let v11:=v2.index;let v12:=v6.config;let v13:=v7.index;let v14:=recK k r;let v15:=v7.config;let v16:=v5.config;let v17:=v14.snap;let v18:=v10.voters;let v19:=v14.entries;let v20:=List.length v1;let v21:=v14.term;let v22:=v10.learners;let v23:=v14.vote;let v24:=v17.data;let v25:=v17.config;let v26:=v17.index;let v27:=(1:Int);let v28:=(0:Int);let v29:=v17.term;let v30:=v25.learners;let v31:=v25.voters;let v32:=(↑v20:Int);let v33:=v0==(3:Int);let v34:=v0==v27;let v35:=v0==(2:Int);let v36:=decide (v4<v3);let v37:=decide (v8≤v13);let v38:=decide (v11≤v13);let v39:=v1++[v6];let v40:=v6.index != IntKind.wrap IntKind.i64 (lastK k+v27);let v41:=IntKind.wrap IntKind.i64 (IntKind.wrap IntKind.i64 (v8 - v13) - v27);let v42:=IntKind.wrap IntKind.i64 (IntKind.wrap IntKind.i64 (v11 - v13) - v27);let v43:=decide (v32≥(10000:Int));let v44:=pickB v37 true (decide (v8>lastK k));let v45:=List.take (Int.toNat v41) v1;let v46:=IntKind.wrap IntKind.i64 (v42+v27);let v47:=decide (v42<v32);let v48:=pickB v47 (Entry.term (List.getD v1 (Int.toNat v42) default)==v9) false;True∧(SmallK k∧True)∧True∧True∧True∧True∧(v34=true→True∧True∧(v36=true→True∧Kept.term zKept=v21∧Kept.vote zKept=v23∧v5.index=v26∧v5.term=v29∧v16.voters=v31∧v16.learners=v30∧v5.data=v24∧Kept.entries zKept=v19∧(140:Int)=v28∧True)∧(v36=false→True∧True∧True∧v4=v21∧Record.vote r=v23∧v13=v26∧v7.term=v29∧v15.voters=v31∧v15.learners=v30∧v7.data=v24∧v1=v19∧v20≤(17592186044416:Nat)∧v28=v28∧True))∧(v34=false→True∧True∧(v35=true→True∧True∧(v40=true→True∧Kept.term zKept=v21∧Kept.vote zKept=v23∧v5.index=v26∧v5.term=v29∧v16.voters=v31∧v16.learners=v30∧v5.data=v24∧Kept.entries zKept=v19∧(140:Int)=v28∧True)∧(v40=false→True∧True∧(v43=true→True∧Kept.term zKept=v21∧Kept.vote zKept=v23∧v5.index=v26∧v5.term=v29∧v16.voters=v31∧v16.learners=v30∧v5.data=v24∧Kept.entries zKept=v19∧(2:Int)=v28∧True)∧(v43=false→(List.length (v12.voters)≤(1000000:Nat)∧List.length (v12.learners)≤(1000000:Nat)∧(v20+List.length [v6])*(1024:Nat)≤(140737488355328:Nat)∧True)∧True∧v3=v21∧Kept.vote k=v23∧v13=v26∧v7.term=v29∧v15.voters=v31∧v15.learners=v30∧v7.data=v24∧v39=v19∧List.length v39≤(17592186044416:Nat)∧v28=v28∧True)))∧(v35=false→True∧True∧(v33=true→(((!v37)=true→(!v37)=true)∧((!v37)=true→(!v37)=true)∧((!v37)=true→(!v37)=true)∧(v37=false→(!v37)=true)∧True)∧True∧(v44=true→True∧Kept.term zKept=v21∧Kept.vote zKept=v23∧v5.index=v26∧v5.term=v29∧v16.voters=v31∧v16.learners=v30∧v5.data=v24∧Kept.entries zKept=v19∧(140:Int)=v28∧True)∧(v44=false→(v28≤v41∧v41≤v32∧True)∧True∧v3=v21∧Kept.vote k=v23∧v13=v26∧v7.term=v29∧v15.voters=v31∧v15.learners=v30∧v7.data=v24∧v45=v19∧List.length v45≤(17592186044416:Nat)∧v28=v28∧True))∧(v33=false→True∧True∧(v38=true→True∧Kept.term zKept=v21∧Kept.vote zKept=v23∧v5.index=v26∧v5.term=v29∧v16.voters=v31∧v16.learners=v30∧v5.data=v24∧Kept.entries zKept=v19∧(140:Int)=v28∧True)∧(v38=false→True∧((v47=true→v47=true)∧(v47=true→v47=true)∧(v47=true→v47=true)∧(v47=true→v28≤v42)∧(v47=true→v42<v32)∧(v47=true→v47=true)∧(v47=true→v47=true)∧(v47=true→v47=true)∧(v47=true→v47=true)∧(v47=true→v47=true)∧(v47=true→v47=true)∧(v47=true→v47=true)∧True)∧True∧(v48=true→(v28≤v46∧v46≤v32∧v32≤v32∧v20≤(17592186044416:Nat)∧True)∧(List.length v18≤(1000000:Nat)∧List.length v22≤(1000000:Nat)∧True)∧True∧v3=v21∧Kept.vote k=v23∧v11=v26∧v9=v29∧v18=v31∧v22=v30∧v2.data=v24∧List.drop (Int.toNat v46) (List.take v20 v1)=v19∧v28=v28∧True)∧(v48=false→True∧(List.length v18≤(1000000:Nat)∧List.length v22≤(1000000:Nat)∧True)∧True∧v3=v21∧Kept.vote k=v23∧v11=v26∧v9=v29∧v18=v31∧v22=v30∧v2.data=v24∧v19=[]∧v28=v28∧True)))))) (by kernel_rfl) ?_
 simp only [imp_self,implies_true,true_and,and_true,pickB_f,pickB_t]
 have hkl:=hkk.entries.1
 obtain ⟨hl,h0⟩:=hf.last
 obtain ⟨ho,hb,hc⟩:=hf
 have hw:IntKind.i64.wrap (k.snap.index+k.entries.length+1)=k.snap.index+k.entries.length+1:=wrapI ⟨by omega,by omega⟩
 simp only [beq_iff_eq,beq_eq_false_iff_ne,bne_iff_ne,bne_eq_false_iff_eq,decide_eq_true_eq,decide_eq_false_iff_not,Bool.or_eq_true,Bool.or_eq_false_iff,Bool.not_eq_true',imp_self,true_and,and_true,hw,hl]
 refine ⟨hk,fun h=>⟨fun h2=>?_,fun h2=>?_⟩,fun h1=>⟨fun h=>⟨fun h2=>?_,fun h2=>⟨fun h3=>?_,fun h3=>?_⟩⟩,fun h2=>⟨fun h=>⟨fun h4=>?_,fun h4=>?_⟩,fun h3=>?_⟩⟩⟩
 ·exact absurd hc (by omega)
 ·have e:recK k r={k with term:=r.term,vote:=r.vote}:=by rw [recK,if_pos h]
  rw [e]
  exact ⟨rfl,rfl,rfl,rfl,rfl,rfl,rfl,rfl,hkl⟩
 ·exact absurd hc (by omega)
 ·exact absurd hc (by omega)
 ·have e:recK k r={k with entries:=k.entries++[r.entry]}:=by rw [recK,if_neg h1,if_pos h]
  rw [e]
  refine ⟨⟨hr.e.1,hr.e.2,by simp;omega⟩,rfl,rfl,rfl,rfl,rfl,rfl,rfl,rfl,by simp;omega⟩
 ·exact absurd hc (by omega)
 ·have ew:IntKind.i64.wrap (IntKind.i64.wrap (r.index - k.snap.index) - 1)=r.index - k.snap.index - 1:=by
   rw [wrapI (n:=r.index - k.snap.index) ⟨by omega,by omega⟩,wrapI ⟨by omega,by omega⟩]
  have ew2:IntKind.i64.wrap (IntKind.i64.wrap (r.index - 1) - k.snap.index)=r.index - k.snap.index - 1:=by
   rw [wrapI (n:=r.index - 1) ⟨by omega,by omega⟩,wrapI ⟨by omega,by omega⟩];omega
  have e:recK k r={k with entries:=k.entries.take (r.index - k.snap.index - 1).toNat}:=by rw [recK,if_neg h1,if_neg h2,if_pos h,ew2]
  rw [e,ew]
  exact ⟨⟨by omega,by omega⟩,rfl,rfl,rfl,rfl,rfl,rfl,rfl,rfl,by simp only [List.length_take];omega⟩
 ·have h4:r.kind=4:=by omega
  have e:recK k r={k with entries:=(if (termC k r.snap.index).2=0∧(termC k r.snap.index).1=r.snap.term then k.entries.drop (IntKind.i64.wrap (r.snap.index - k.snap.index)).toNat else []),snap:=r.snap}:=by rw [recK,if_neg h1,if_neg h2,if_neg h3,if_pos h4]
  have hsi:=hrr.snap_index
  have hgt:k.snap.index<r.snap.index:=by omega
  have hsi2:r.snap.index≤9223372036854775807:=by have:=hsi.2;omega
  have ew:IntKind.i64.wrap (IntKind.i64.wrap (r.snap.index - k.snap.index) - 1)=r.snap.index - k.snap.index - 1:=by
   rw [wrapI (n:=r.snap.index - k.snap.index) ⟨by omega,by omega⟩,wrapI ⟨by omega,by omega⟩]
  have ew2:IntKind.i64.wrap (r.snap.index - k.snap.index)=r.snap.index - k.snap.index:=wrapI ⟨by omega,by omega⟩
  have ew3:IntKind.i64.wrap (r.snap.index - k.snap.index - 1+1)=r.snap.index - k.snap.index:=by rw [wrapI ⟨by omega,by omega⟩];omega
  have ht:((termC k r.snap.index).2=0∧(termC k r.snap.index).1=r.snap.term)↔(r.snap.index - k.snap.index - 1<(k.entries.length:Int)∧(k.entries.getD (r.snap.index - k.snap.index - 1).toNat default).term=r.snap.term):=by
   unfold termC
   rw [if_pos ho,if_neg (by omega)]
   by_cases g:r.snap.index≤k.snap.index+k.entries.length
   ·rw [if_pos ⟨hgt,g⟩]
    simp only [true_and]
    exact ⟨fun h=>⟨by omega,h⟩,fun h=>h.2⟩
   ·rw [if_neg (fun h=>g h.2)]
    constructor
    ·rintro ⟨h,_⟩;exact absurd h (by decide)
    ·rintro ⟨h,_⟩;omega
  rw [ew] at *
  simp only [ht,ew2] at e
  refine ⟨fun h=>absurd h (by omega),fun _=>⟨fun _=>by omega,fun g=>?_,fun g=>?_⟩⟩
  ·have g:r.snap.index - k.snap.index - 1<(k.entries.length:Int)∧(k.entries.getD (r.snap.index - k.snap.index - 1).toNat default).term=r.snap.term:=by simpa using g
   rw [if_pos g] at e
   rw [e,ew3,List.take_length]
   exact ⟨⟨by omega,by omega,by omega,hkl⟩,⟨hr.s.1,hr.s.2⟩,rfl,rfl,rfl,rfl,rfl,rfl,rfl,rfl⟩
  ·have g:¬ (r.snap.index - k.snap.index - 1<(k.entries.length:Int)∧(k.entries.getD (r.snap.index - k.snap.index - 1).toNat default).term=r.snap.term):=by
    rintro ⟨g1,g2⟩
    rw [g2] at g;simp [g1] at g
   rw [if_neg g] at e
   rw [e]
   exact ⟨⟨hr.s.1,hr.s.2⟩,rfl,rfl,rfl,rfl,rfl,rfl,rfl,rfl⟩
def eFolded:Ent:=ent2 164 dKept dRecord fun k r=>([SmallK k,SmallR r,foldOk k r],.tup [.agg ((recK k r).svs [1]),.int .i64 0],D2)
theorem eFolded_ok:EntOk Tryz.prog eFolded:=ent2_ok (fnB Tryz.func164 (by decide) rfl) fun k r h=>folded_fn k r (h _ (by simp)) (h _ (by simp)) (h _ (by simp))
theorem rrecord18_fn (s:Step) (r:Record) (hl:s.o.records.length≤1000000) (hk:SmallK s.n.kept) (hr:SmallR r) (hf:foldOk s.n.kept r):FnG Tryz.prog 103 3 (sMi 125 s) [.ptr 2 0,dRec2.can r] (.tup []) (sMo 125 (recS s r)):=by
 refine FnG.of_vc (fitsT (tab_cons eFolded_ok tab_nil) fun _=>none) Tryz.func103 rfl (by decide) rfl 300 (p:=fun (V:List PE→Prop)=>let v0:=Step.n s;let v1:=Step.o s;let v2:=v0.commit;let v3:=v0.lead;let v4:=v1.records;let v5:=v0.elapsed;let v6:=v0.round;let v7:=v0.role;let v8:=v0.kept;let v9:=v0.id;let v10:=Step.n (recS s r);let v11:=v8.snap;let v12:=Step.o (recS s r);let v13:=v11.config;let v14:=v10.kept;let v15:=recK v8 r;let v16:=v15.snap;let v17:=v14.snap;let v18:=v16.config;let v19:=v17.config;let v20:=(0:Int)==(0:Int);True∧(SmallK v8∧SmallR r∧foldOk v8 r∧True)∧True∧True∧((List.length v4+List.length [r])*(1024:Nat)≤(140737488355328:Nat)∧True)∧pickI v20 v9 v9=v10.id∧pickI v20 v7 v7=v10.role∧pickI v20 (v15.term) (v8.term)=v14.term∧pickI v20 (v15.vote) (v8.vote)=v14.vote∧pickI v20 (v16.index) (v11.index)=v17.index∧pickI v20 (v16.term) (v11.term)=v17.term∧(if v20=true then v18.voters else v13.voters)=v19.voters∧(if v20=true then v18.learners else v13.learners)=v19.learners∧(if v20=true then v16.data else v11.data)=v17.data∧(if v20=true then v15.entries else v8.entries)=v14.entries∧pickI v20 v2 v2=v10.commit∧pickI v20 v3 v3=v10.lead∧pickI v20 v5 v5=v10.elapsed∧pickI v20 v6 v6=v10.round∧v0.yes=v10.yes∧v0.peers=v10.peers∧v0.reads=v10.reads∧v4++[r]=v12.records∧v1.messages=v12.messages∧v1.ready=v12.ready∧v1.lost=v12.lost∧True) (by kernel_rfl) ?_
 simp only [imp_self,implies_true,true_and,and_true,pickB_f,pickB_t]
 refine ⟨⟨hk,hr,hf⟩,by simp;omega,?_⟩
 repeat' apply And.intro
 all_goals rfl
def eRRec:Ent:=entL1 103 3 mSt dRec2 vrS [1,2] glS fun s r=>([s.o.records.length≤1000000,SmallK s.n.kept,SmallR r,foldOk s.n.kept r],.tup [],sMo 125 (recS s r))
theorem eRRec_ok:EntOk Tryz.prog eRRec:=entL1_ok (fnB Tryz.func103 (by decide) rfl) fun s r h=>rrecord18_fn s r (h _ (by simp)) (h _ (by simp)) (h _ (by simp)) (h _ (by simp))
def voteW (t v:Int):Record:=⟨1,t,v,zEntry,0,zSnap⟩
theorem smallR_vote (t v:Int):SmallR (voteW t v):=⟨smallD0.c,smallD0.c⟩
theorem cutOk_vote (k:Kept) (t v:Int):cutOk k (voteW t v):=fun h=>absurd (show (1:Int)=3 from h) (by decide)
theorem Few.vote {B:Nat} {s:Step} (t v:Int) (h:Few B s):Few (B+1) (recS s (voteW t v)):=h.recd smallD0 smallD0
def msgK (kind:Int):Message:=⟨kind,0,0,0,0,0,[],0,0,false,zSnap,0,0,zs⟩
def stand1 (s:Step):Step:=runS (recS s (voteW (IntKind.i64.wrap (s.n.kept.term+1)) s.n.id)) 3
def standS (s:Step):Step:=if enoughB (stand1 s).n then ruleS (stand1 s) else askS (stand1 s) (msgK 3)
theorem Few.stand1 {B:Nat} {s:Step} (h:Few B s):Few (B+1) (stand1 s):=Few.run _ (h.vote _ _) (by omega)
theorem Few.stand {B:Nat} {s:Step} (h:Few B s):Few (B+5002) (standS s):=by
 unfold standS
 split
 ·exact h.stand1.rule.mono (by omega)
 ·exact (h.stand1.ask _).mono (by omega)
def eRule:Ent:=entN0 140 3 mW vrW [1] glW fun s=>([Few 80000 s],.tup [],wMo (ruleS s))
theorem eRule_ok:EntOk Tryz.prog eRule:=entN0_ok (fnB Tryz.func140 (by decide) rfl) fun s h=>rule_fn s (h _ (by simp))
def tabBc:List Ent:=[eRec,eRun,eRule,eAskW]
theorem tabBc_ok:∀ e∈tabBc,EntOk Tryz.prog e:=tab_cons eRec_ok (tab_cons eRun_ok (tab_cons eRule_ok (tab_cons eAskW_ok tab_nil)))
theorem stand_fn (s:Step) (hf:Few 70000 s):FnG Tryz.prog 79 3 (wMi s) [.ptr 2 0] (.tup []) (wMo (standS s)):=by
 refine FnG.of_vc (fitsT tabBc_ok fun _=>none) Tryz.func79 rfl (by decide) rfl 300 (p:=fun (V:List PE→Prop)=>let v0:=Step.o (standS s);let v1:=Node.kept (Step.n s);let v2:=Step.n (standS s);let v3:=v2.role;let v4:=v0.ready;let v5:=v0.lost;let v6:=v2.peers;let v7:=v2.commit;let v8:=v2.yes;let v9:=v2.elapsed;let v10:=v2.id;let v11:=v0.records;let v12:=v2.lead;let v13:=v2.kept;let v14:=v2.reads;let v15:=v2.round;let v16:=v0.messages;let v17:=v13.entries;let v18:=ByteArray.mk #[];let v19:=(0:Int);let v20:=v13.snap;let v21:=v13.vote;let v22:=v13.term;let v23:=v20.config;let v24:=v20.term;let v25:=v20.data;let v26:=v20.index;let v27:=v23.voters;let v28:=v23.learners;let v29:=Snap.mk v19 v19 (Config.mk [] []) v18;let v30:=Record.mk (1:Int) (IntKind.wrap IntKind.i64 (v1.term+(1:Int))) (Node.id (Step.n s)) (Entry.mk v19 v19 v19 (Config.mk [] []) v18) v19 v29;let v31:=recS s v30;let v32:=runS v31 (3:Int);let v33:=v32.n;let v34:=ruleS v32;let v35:=v32.o;let v36:=v34.o;let v37:=v34.n;let v38:=enoughB v33;let v39:=v37.kept;let v40:=v39.snap;let v41:=v40.config;let v42:=askS v32 (Message.mk (3:Int) v19 v19 v19 v19 v19 [] v19 v19 false v29 v19 v19 v18);let v43:=v42.o;let v44:=v42.n;let v45:=v44.kept;let v46:=v45.snap;let v47:=v46.config;(List.length (Out.records (Step.o s))≤(1000000:Nat)∧List.length (v1.entries)≤(1000000:Nat)∧SmallR v30∧cutOk v1 v30∧(1:Int)≠(4:Int)∧True)∧(SmallN (v31.n)∧SmallO (v31.o)∧True)∧True∧(v38=true→(Few (80000:Nat) v32∧True)∧v37.id=v10∧v37.role=v3∧v39.term=v22∧v39.vote=v21∧v40.index=v26∧v40.term=v24∧v41.voters=v27∧v41.learners=v28∧v40.data=v25∧v37.commit=v7∧v37.lead=v12∧v37.elapsed=v9∧v37.round=v15∧v39.entries=v17∧v37.yes=v8∧v37.peers=v6∧v37.reads=v14∧v36.records=v11∧v36.messages=v16∧v36.ready=v4∧v36.lost=v5∧True)∧(v38=false→(SmallN v33∧SmallO v35∧List.length (v35.messages)≤(900000:Nat)∧List.length (Config.voters (confC v33))≤(4000:Nat)∧True)∧v44.id=v10∧v44.role=v3∧v45.term=v22∧v45.vote=v21∧v46.index=v26∧v46.term=v24∧v47.voters=v27∧v47.learners=v28∧v46.data=v25∧v44.commit=v7∧v44.lead=v12∧v44.elapsed=v9∧v44.round=v15∧v45.entries=v17∧v44.yes=v8∧v44.peers=v6∧v44.reads=v14∧v43.records=v11∧v43.messages=v16∧v43.ready=v4∧v43.lost=v5∧True)) (by kernel_rfl) ?_
 simp only [imp_self,implies_true,true_and,and_true,pickB_f,pickB_t]
 have k0:=hf.vote (IntKind.i64.wrap (s.n.kept.term+1)) s.n.id
 have k1:=hf.stand1
 refine ⟨⟨(hf.so (by decide)).records,(hf.sn (by decide)).ls.2.2.2.2,smallR_vote _ _,cutOk_vote _ _ _,by decide⟩,⟨k0.sn (by decide),k0.so (by decide)⟩,fun h=>?_,fun h=>?_⟩
 ·have h:enoughB (stand1 s).n=true:=h
  rw [standS,if_pos h]
  refine ⟨k1.mono (by decide),?_⟩
  repeat' apply And.intro
  all_goals rfl
 ·have h:enoughB (stand1 s).n=false:=h
  rw [standS,if_neg (by rw [h];decide)]
  refine ⟨⟨k1.sn (by decide),k1.so (by decide),Nat.le_trans k1.messages (by decide),k1.cf.1⟩,?_⟩
  repeat' apply And.intro
  all_goals rfl
def fall1 (s:Step) (t:Int):Step:=if s.n.kept.term<t then ⟨{(recS s (voteW t 0)).n with lead:=0},(recS s (voteW t 0)).o⟩ else s
def fallS (s:Step) (t:Int):Step:=⟨{(fall1 s t).n with role:=1,yes:=[],peers:=[],reads:=[]},{(fall1 s t).o with lost:=(fall1 s t).o.lost++s.n.reads.map (·.token)}⟩
theorem fall_fn (s:Step) (t:Int) (hf:Few 70000 s):FnG Tryz.prog 87 3 (wMi s) [.ptr 2 0,dInt.L.can t] (.tup []) (wMo (fallS s t)):=by
 refine FnG.of_vc (fitsT (tab_cons eRec_ok tab_nil) fun _=>none) Tryz.func87 rfl (by decide) rfl 300 (p:=fun (V:List PE→Prop)=>let v0:=Node.kept (Step.n s);let v1:=v0.term;let v2:=(0:Int);let v3:=decide (t>v1);let v4:=Record.mk (1:Int) t v2 (Entry.mk v2 v2 v2 (Config.mk [] []) (ByteArray.mk #[])) v2 (Snap.mk v2 v2 (Config.mk [] []) (ByteArray.mk #[]));True∧True∧(v3=true→(List.length (Out.records (Step.o s))≤(1000000:Nat)∧List.length (v0.entries)≤(1000000:Nat)∧SmallR v4∧cutOk v0 v4∧(1:Int)≠(4:Int)∧True)∧True∧True∧V [PE.a])∧(v3=false→True∧V [PE.b])) (by kernel_rfl) ?_
 simp only [imp_self,implies_true,true_and,and_true,pickB_f,pickB_t]
 obtain ⟨b1,b2,b3,b4,b5⟩:=(hf.sn (by decide)).ls
 have hrl:=hf.reads
 have hll:=hf.lost
 have hpre:s.o.records.length≤1000000∧s.n.kept.entries.length≤1000000∧SmallR (voteW t 0)∧cutOk s.n.kept (voteW t 0)∧(1:Int)≠4:=⟨(hf.so (by decide)).records,b5,smallR_vote _ _,cutOk_vote _ _ _,by decide⟩
 refine ⟨fun h=>⟨hpre,?_⟩,fun h=>?_⟩
 ·have h:s.n.kept.term<t:=by simpa using h
  obtain ⟨s1,hs1⟩:∃ s1,(⟨{(recS s (voteW t 0)).n with lead:=0},(recS s (voteW t 0)).o⟩:Step)=s1:=⟨_,rfl⟩
  have e:fallS s t=⟨{s1.n with role:=1,yes:=[],peers:=[],reads:=[]},{s1.o with lost:=s1.o.lost++s.n.reads.map (·.token)}⟩:=by rw [fallS,fall1,if_pos h,hs1]
  rw [e]
  refine LoopG.head (fitsT (tab_cons eRec_ok tab_nil) fun _=>none) 0 (A:=Nat) (fun j=>j≤s.n.reads.length) (fun j=>[(28,.int .i64 j),(27,.int .i64 (s.n.reads.length:Int))]) (fun j=>[(2,.cells 115 (wCs [1,31] s1 30 31 32 33 34 35 36 12)),(12,.row 3 [2,30] (.rInts (s1.o.lost++(s.n.reads.take j).map (·.token)))),(37,.dead)]) (fun j=>s.n.reads.length - j) 0 (Nat.zero_le _) (p0:=let v0:=Step.n s1;let v1:=v0.kept;let v2:=Node.reads (Step.n s);let v3:=v1.snap;let v4:=v3.config;let v5:=(0:Int);let v6:=recS s (Record.mk (1:Int) t v5 (Entry.mk v5 v5 v5 (Config.mk [] []) (ByteArray.mk #[])) v5 (Snap.mk v5 v5 (Config.mk [] []) (ByteArray.mk #[])));let v7:=v6.o;let v8:=v6.n;let v9:=v8.kept;let v10:=v7.ready;let v11:=v8.reads;let v12:=v8.peers;let v13:=v7.messages;let v14:=v7.records;let v15:=v8.yes;let v16:=v9.entries;let v17:=v9.snap;let v18:=v17.config;v5=(↑(0:Nat):Int)∧(↑(List.length v11):Int)=(↑(List.length v2):Int)∧v8.id=v0.id∧v8.role=v0.role∧v9.term=v1.term∧v9.vote=v1.vote∧v17.index=v3.index∧v17.term=v3.term∧v18.voters=v4.voters∧v18.learners=v4.learners∧v17.data=v3.data∧v8.commit=v0.commit∧v5=v0.lead∧v8.elapsed=v0.elapsed∧v8.round=v0.round∧v7.lost=Out.lost (Step.o s1)++List.map (fun (x:Read)=>Read.token x) (List.take (0:Nat) v2)∧v16=v16∧v15=v15∧v12=v12∧v11=v11∧v14=v14∧v13=v13∧v10=v10∧True) (by kernel_rfl) ?_ 300 (p:=fun (x:Nat) (V:List PE→Prop)=>let v0:=Step.o s1;let v1:=Step.n s1;let v2:=v1.kept;let v3:=v0.lost;let v4:=Node.reads (Step.n s);let v5:=v2.snap;let v6:=(↑x:Int);let v7:=(1:Int);let v8:=v5.config;let v9:=(0:Int);let v10:=(↑(List.length v4):Int);let v11:=v3++List.map (fun (x:Read)=>Read.token x) v4;let v12:=v3++List.map (fun (x:Read)=>Read.token x) (List.take x v4);let v13:=Node.kept (let __src:=v1;Node.mk (Node.id __src) v7 (Node.kept __src) (Node.commit __src) (Node.lead __src) (Node.elapsed __src) [] [] (Node.round __src) []);let v14:=v13.snap;let v15:=decide (v6<v10);let v16:=v14.config;let v17:=recS s (Record.mk v7 t v9 (Entry.mk v9 v9 v9 (Config.mk [] []) (ByteArray.mk #[])) v9 (Snap.mk v9 v9 (Config.mk [] []) (ByteArray.mk #[])));let v18:=v17.o;let v19:=v17.n;let v20:=v19.reads;let v21:=List.length v20;True∧True∧(v15=true→(v9≤v6∧v6<(↑v21:Int)∧x<v21∧True)∧((List.length v12+List.length [Read.token (List.getD v20 x default)])*(1024:Nat)≤(140737488355328:Nat)∧True)∧True∧V [PE.a])∧(v15=false→True∧v1.id=Node.id (let __src:=v1;Node.mk (Node.id __src) v7 (Node.kept __src) (Node.commit __src) (Node.lead __src) (Node.elapsed __src) [] [] (Node.round __src) [])∧v7=Node.role (let __src:=v1;Node.mk (Node.id __src) v7 (Node.kept __src) (Node.commit __src) (Node.lead __src) (Node.elapsed __src) [] [] (Node.round __src) [])∧v2.term=v13.term∧v2.vote=v13.vote∧v5.index=v14.index∧v5.term=v14.term∧v8.voters=v16.voters∧v8.learners=v16.learners∧v5.data=v14.data∧v1.commit=Node.commit (let __src:=v1;Node.mk (Node.id __src) v7 (Node.kept __src) (Node.commit __src) (Node.lead __src) (Node.elapsed __src) [] [] (Node.round __src) [])∧v1.lead=Node.lead (let __src:=v1;Node.mk (Node.id __src) v7 (Node.kept __src) (Node.commit __src) (Node.lead __src) (Node.elapsed __src) [] [] (Node.round __src) [])∧v1.elapsed=Node.elapsed (let __src:=v1;Node.mk (Node.id __src) v7 (Node.kept __src) (Node.commit __src) (Node.lead __src) (Node.elapsed __src) [] [] (Node.round __src) [])∧v1.round=Node.round (let __src:=v1;Node.mk (Node.id __src) v7 (Node.kept __src) (Node.commit __src) (Node.lead __src) (Node.elapsed __src) [] [] (Node.round __src) [])∧Kept.entries (v19.kept)=v13.entries∧Node.yes (let __src:=v1;Node.mk (Node.id __src) v7 (Node.kept __src) (Node.commit __src) (Node.lead __src) (Node.elapsed __src) [] [] (Node.round __src) [])=[]∧Node.peers (let __src:=v1;Node.mk (Node.id __src) v7 (Node.kept __src) (Node.commit __src) (Node.lead __src) (Node.elapsed __src) [] [] (Node.round __src) [])=[]∧Node.reads (let __src:=v1;Node.mk (Node.id __src) v7 (Node.kept __src) (Node.commit __src) (Node.lead __src) (Node.elapsed __src) [] [] (Node.round __src) [])=[]∧v18.records=Out.records (let __src:=v0;Out.mk (Out.records __src) (Out.messages __src) (Out.ready __src) v11)∧v18.messages=Out.messages (let __src:=v0;Out.mk (Out.records __src) (Out.messages __src) (Out.ready __src) v11)∧v18.ready=Out.ready (let __src:=v0;Out.mk (Out.records __src) (Out.messages __src) (Out.ready __src) v11)∧v12=Out.lost (let __src:=v0;Out.mk (Out.records __src) (Out.messages __src) (Out.ready __src) v11)∧True)) (by intro x;kernel_rfl) ?_
  ·subst hs1
   repeat' apply And.intro
   all_goals first | rfl | (simp;done) | (simp;rfl)
  rintro j hj
  subst hs1
  simp only [imp_self,implies_true,true_and,and_true,decide_eq_true_eq,decide_eq_false_iff_not]
  have hlt:((recS s (voteW t 0)).o.lost++(s.n.reads.take j).map (·.token)).length≤75000:=by
   have:(s.n.reads.take j).length≤s.n.reads.length:=by simp only [List.length_take];omega
   simp only [List.length_append,List.length_map]
   have h9:(recS s (voteW t 0)).o.lost.length≤70000:=hll
   omega
  refine ⟨fun h6=>⟨⟨by omega,h6,by show j<s.n.reads.length;omega⟩,Nat.le_trans (Nat.mul_le_mul_right _ (Nat.add_le_add_right hlt 1)) (by decide),?_⟩,fun h6=>?_⟩
  ·refine Back.mk (j+1) (by omega) (by omega) (p0:=let v0:=Node.reads (Step.n s);let v1:=(0:Int);let v2:=(↑(List.length v0):Int);let v3:=recS s (voteW t v1);let v4:=v3.n;let v5:=v4.id;let v6:=v4.round;let v7:=v4.kept;let v8:=v4.role;let v9:=v4.commit;let v10:=Out.lost (v3.o);let v11:=v4.elapsed;let v12:=v7.vote;let v13:=v7.term;let v14:=v7.snap;let v15:=v14.term;let v16:=v14.index;let v17:=v14.data;let v18:=v14.config;let v19:=v18.learners;let v20:=v18.voters;let v21:=recS s (Record.mk (1:Int) t v1 (Entry.mk v1 v1 v1 (Config.mk [] []) (ByteArray.mk #[])) v1 (Snap.mk v1 v1 (Config.mk [] []) (ByteArray.mk #[])));let v22:=v21.n;let v23:=v21.o;let v24:=v23.records;let v25:=v23.messages;let v26:=v22.yes;let v27:=v23.ready;let v28:=v22.peers;let v29:=v22.reads;let v30:=Kept.entries (v22.kept);IntKind.wrap IntKind.i64 ((↑j:Int)+(1:Int))=(↑(j+(1:Nat)):Int)∧v2=v2∧v5=v5∧v8=v8∧v13=v13∧v12=v12∧v16=v16∧v15=v15∧v20=v20∧v19=v19∧v17=v17∧v9=v9∧v1=v1∧v11=v11∧v6=v6∧v10++List.map (fun (x:Read)=>Read.token x) (List.take j v0)++[Read.token (List.getD v29 j default)]=v10++List.map (fun (x:Read)=>Read.token x) (List.take (j+(1:Nat)) v0)∧v30=v30∧v26=v26∧v28=v28∧v29=v29∧v24=v24∧v25=v25∧v27=v27∧True) (by kernel_rfl) ?_
   have e1:=take_snoc (l:=s.n.reads) (d:=(default:Read)) (i:=j) (by omega)
   simp only [wrapN (i:=j) (by omega),e1,List.map_append,List.map_cons,List.map_nil,List.append_assoc,true_and,and_true]
   first | exact ⟨by omega,rfl⟩ | omega
  ·obtain rfl:j=s.n.reads.length:=by omega
   rw [List.take_length]
   repeat' apply And.intro
   all_goals rfl
 ·have h:¬ s.n.kept.term<t:=by simpa using h
  have e:fallS s t=⟨{s.n with role:=1,yes:=[],peers:=[],reads:=[]},{s.o with lost:=s.o.lost++s.n.reads.map (·.token)}⟩:=by rw [fallS,fall1,if_neg h]
  rw [e]
  refine LoopG.head (fitsT (tab_cons eRec_ok tab_nil) fun _=>none) 0 (A:=Nat) (fun j=>j≤s.n.reads.length) (fun j=>[(28,.int .i64 j),(27,.int .i64 (s.n.reads.length:Int))]) (fun j=>[(2,.cells 115 (wCs [1] s 3 4 5 6 7 8 9 12)),(12,.row 3 [2] (.rInts (s.o.lost++(s.n.reads.take j).map (·.token)))),(10,.dead)]) (fun j=>s.n.reads.length - j) 0 (Nat.zero_le _) (p0:=let v0:=Step.n s;let v1:=Step.o s;let v2:=v0.kept;let v3:=v0.peers;let v4:=v1.lost;let v5:=v0.role;let v6:=v0.elapsed;let v7:=v0.yes;let v8:=v0.id;let v9:=v0.reads;let v10:=v1.messages;let v11:=v0.lead;let v12:=v1.records;let v13:=v0.commit;let v14:=v0.round;let v15:=v1.ready;let v16:=v2.term;let v17:=v2.snap;let v18:=v2.entries;let v19:=v2.vote;let v20:=v17.index;let v21:=v17.term;let v22:=v17.data;let v23:=v17.config;let v24:=v23.voters;let v25:=v23.learners;let v26:=(↑(List.length v9):Int);(0:Int)=(↑(0:Nat):Int)∧v26=v26∧v8=v8∧v5=v5∧v16=v16∧v19=v19∧v20=v20∧v21=v21∧v24=v24∧v25=v25∧v22=v22∧v13=v13∧v11=v11∧v6=v6∧v14=v14∧v4=v4++List.map (fun (x:Read)=>Read.token x) (List.take (0:Nat) v9)∧v18=v18∧v7=v7∧v3=v3∧v9=v9∧v12=v12∧v10=v10∧v15=v15∧True) (by kernel_rfl) ?_ 300 (p:=fun (x:Nat) (V:List PE→Prop)=>let v0:=Step.o s;let v1:=Step.n s;let v2:=v1.kept;let v3:=v1.reads;let v4:=v0.lost;let v5:=v2.snap;let v6:=(↑x:Int);let v7:=(1:Int);let v8:=List.length v3;let v9:=v5.config;let v10:=(↑v8:Int);let v11:=v4++List.map (fun (x:Read)=>Read.token x) v3;let v12:=v4++List.map (fun (x:Read)=>Read.token x) (List.take x v3);let v13:=Node.kept (let __src:=v1;Node.mk (Node.id __src) v7 (Node.kept __src) (Node.commit __src) (Node.lead __src) (Node.elapsed __src) [] [] (Node.round __src) []);let v14:=v13.snap;let v15:=decide (v6<v10);let v16:=v14.config;True∧True∧(v15=true→((0:Int)≤v6∧v6<v10∧x<v8∧True)∧((List.length v12+List.length [Read.token (List.getD v3 x default)])*(1024:Nat)≤(140737488355328:Nat)∧True)∧True∧V [PE.a])∧(v15=false→True∧v1.id=Node.id (let __src:=v1;Node.mk (Node.id __src) v7 (Node.kept __src) (Node.commit __src) (Node.lead __src) (Node.elapsed __src) [] [] (Node.round __src) [])∧v7=Node.role (let __src:=v1;Node.mk (Node.id __src) v7 (Node.kept __src) (Node.commit __src) (Node.lead __src) (Node.elapsed __src) [] [] (Node.round __src) [])∧v2.term=v13.term∧v2.vote=v13.vote∧v5.index=v14.index∧v5.term=v14.term∧v9.voters=v16.voters∧v9.learners=v16.learners∧v5.data=v14.data∧v1.commit=Node.commit (let __src:=v1;Node.mk (Node.id __src) v7 (Node.kept __src) (Node.commit __src) (Node.lead __src) (Node.elapsed __src) [] [] (Node.round __src) [])∧v1.lead=Node.lead (let __src:=v1;Node.mk (Node.id __src) v7 (Node.kept __src) (Node.commit __src) (Node.lead __src) (Node.elapsed __src) [] [] (Node.round __src) [])∧v1.elapsed=Node.elapsed (let __src:=v1;Node.mk (Node.id __src) v7 (Node.kept __src) (Node.commit __src) (Node.lead __src) (Node.elapsed __src) [] [] (Node.round __src) [])∧v1.round=Node.round (let __src:=v1;Node.mk (Node.id __src) v7 (Node.kept __src) (Node.commit __src) (Node.lead __src) (Node.elapsed __src) [] [] (Node.round __src) [])∧v2.entries=v13.entries∧Node.yes (let __src:=v1;Node.mk (Node.id __src) v7 (Node.kept __src) (Node.commit __src) (Node.lead __src) (Node.elapsed __src) [] [] (Node.round __src) [])=[]∧Node.peers (let __src:=v1;Node.mk (Node.id __src) v7 (Node.kept __src) (Node.commit __src) (Node.lead __src) (Node.elapsed __src) [] [] (Node.round __src) [])=[]∧Node.reads (let __src:=v1;Node.mk (Node.id __src) v7 (Node.kept __src) (Node.commit __src) (Node.lead __src) (Node.elapsed __src) [] [] (Node.round __src) [])=[]∧v0.records=Out.records (let __src:=v0;Out.mk (Out.records __src) (Out.messages __src) (Out.ready __src) v11)∧v0.messages=Out.messages (let __src:=v0;Out.mk (Out.records __src) (Out.messages __src) (Out.ready __src) v11)∧v0.ready=Out.ready (let __src:=v0;Out.mk (Out.records __src) (Out.messages __src) (Out.ready __src) v11)∧v12=Out.lost (let __src:=v0;Out.mk (Out.records __src) (Out.messages __src) (Out.ready __src) v11)∧True)) (by intro x;kernel_rfl) ?_
  ·repeat' apply And.intro
   all_goals first | rfl | (simp;done) | (simp;rfl)
  rintro j hj
  simp only [imp_self,implies_true,true_and,and_true,decide_eq_true_eq,decide_eq_false_iff_not]
  have hlt:(s.o.lost++(s.n.reads.take j).map (·.token)).length≤75000:=by
   have:(s.n.reads.take j).length≤s.n.reads.length:=by simp only [List.length_take];omega
   simp only [List.length_append,List.length_map]
   have h9:s.o.lost.length≤70000:=hll
   omega
  refine ⟨fun h6=>⟨⟨by omega,h6,by show j<s.n.reads.length;omega⟩,Nat.le_trans (Nat.mul_le_mul_right _ (Nat.add_le_add_right hlt 1)) (by decide),?_⟩,fun h6=>?_⟩
  ·refine Back.mk (j+1) (by omega) (by omega) (p0:=let v0:=Step.n s;let v1:=Step.o s;let v2:=v0.kept;let v3:=v0.role;let v4:=v0.id;let v5:=v1.lost;let v6:=v0.peers;let v7:=v1.messages;let v8:=v0.yes;let v9:=v0.elapsed;let v10:=v0.commit;let v11:=v1.ready;let v12:=v1.records;let v13:=v0.lead;let v14:=v0.reads;let v15:=v0.round;let v16:=v2.vote;let v17:=v2.term;let v18:=v2.snap;let v19:=v2.entries;let v20:=v18.term;let v21:=v18.index;let v22:=v18.config;let v23:=v18.data;let v24:=v22.learners;let v25:=v22.voters;let v26:=(↑(List.length v14):Int);IntKind.wrap IntKind.i64 ((↑j:Int)+(1:Int))=(↑(j+(1:Nat)):Int)∧v26=v26∧v4=v4∧v3=v3∧v17=v17∧v16=v16∧v21=v21∧v20=v20∧v25=v25∧v24=v24∧v23=v23∧v10=v10∧v13=v13∧v9=v9∧v15=v15∧v5++List.map (fun (x:Read)=>Read.token x) (List.take j v14)++[Read.token (List.getD v14 j default)]=v5++List.map (fun (x:Read)=>Read.token x) (List.take (j+(1:Nat)) v14)∧v19=v19∧v8=v8∧v6=v6∧v14=v14∧v12=v12∧v7=v7∧v11=v11∧True) (by kernel_rfl) ?_
   have e1:=take_snoc (l:=s.n.reads) (d:=(default:Read)) (i:=j) (by omega)
   simp only [wrapN (i:=j) (by omega),e1,List.map_append,List.map_cons,List.map_nil,List.append_assoc,true_and,and_true]
   first | exact ⟨by omega,rfl⟩ | omega
  ·obtain rfl:j=s.n.reads.length:=by omega
   rw [List.take_length]
   repeat' apply And.intro
   all_goals rfl
def eStand:Ent:=entN0 79 3 mW vrW [1] glW fun s=>([Few 70000 s],.tup [],wMo (standS s))
theorem eStand_ok:EntOk Tryz.prog eStand:=entN0_ok (fnB Tryz.func79 (by decide) rfl) fun s h=>stand_fn s (h _ (by simp))
def eFall:Ent:=entL1 87 3 mW dInt.L vrW [1,0] glW fun s t=>([Few 70000 s],.tup [],wMo (fallS s t))
theorem eFall_ok:EntOk Tryz.prog eFall:=entL1_ok (fnB Tryz.func87 (by decide) rfl) fun s t h=>fall_fn s t (h _ (by simp))
def yesOk (s:Step) (m:Message) (role term:Int):Bool:=s.n.role==role&&m.ok&&m.term==term
def yesS (s:Step) (m:Message):Step:=⟨{s.n with yes:=withC s.n.yes m.from_},s.o⟩
def yesR (s:Step) (m:Message) (role term:Int):Step:=if yesOk s m role term then yesS s m else s
def yesB (s:Step) (m:Message) (role term:Int):Bool:=yesOk s m role term&&enoughB (yesS s m).n
theorem withC_len (l:List Int) (v:Int):(withC l v).length≤16:=by
 unfold withC
 split
 ·split
  ·assumption
  ·simp
 ·simp
theorem yes_fn (s:Step) (m:Message) (role term:Int) (hf:Few 70000 s):FnG Tryz.prog 150 3 (wMi s) [.ptr 2 0,dMessage.L.can m,dInt.L.can role,dInt.L.can term] (.bool (yesB s m role term)) (wMo (yesR s m role term)):=by
 refine FnG.of_vc (fitsT (tab_cons eEnough_ok (tab_cons eWith_ok tab_nil)) fun _=>none) Tryz.func150 rfl (by decide) rfl 300 (p:=fun (V:List PE→Prop)=>let v0:=Step.n s;let v1:=Step.o s;let v2:=v0.round;let v3:=v0.yes;let v4:=v1.messages;let v5:=v0.reads;let v6:=v1.records;let v7:=v0.role;let v8:=v1.ready;let v9:=v0.id;let v10:=v0.elapsed;let v11:=v0.commit;let v12:=v0.peers;let v13:=v0.lead;let v14:=v0.kept;let v15:=v1.lost;let v16:=v14.entries;let v17:=v14.snap;let v18:=v17.config;let v19:=yesB s m role term;let v20:=List.length v3;let v21:=yesR s m role term;let v22:=withC v3 (Message.from_ m);let v23:=v21.n;let v24:=v21.o;let v25:=v23.kept;let v26:=v23.yes;let v27:=v25.snap;let v28:=v27.config;let v29:=v7 != role;let v30:=pickB v29 true !Message.ok m;let v31:=pickB v30 true (Message.term m != term);let v32:=Node.mk v9 v7 v14 v11 v13 v10 v22 v12 v2 v5;True∧(((!v29)=true→(!v29)=true)∧((!v29)=true→(!v29)=true)∧(v29=false→(!v29)=true)∧((!v30)=true→(!v30)=true)∧((!v30)=true→(!v30)=true)∧((!v30)=true→(!v30)=true)∧(v30=false→(!v30)=true)∧True)∧True∧(v31=true→True∧false=v19∧v9=v23.id∧v7=v23.role∧v14.term=v25.term∧v14.vote=v25.vote∧v17.index=v27.index∧v17.term=v27.term∧v18.voters=v28.voters∧v18.learners=v28.learners∧v17.data=v27.data∧v11=v23.commit∧v13=v23.lead∧v10=v23.elapsed∧v2=v23.round∧v16=v25.entries∧v3=v26∧v12=v23.peers∧v5=v23.reads∧v6=v24.records∧v4=v24.messages∧v8=v24.ready∧v15=v24.lost∧True)∧(v31=false→(v20≤(17592186044416:Nat)∧v20≤(1000000:Nat)∧True)∧(List.length v16≤(17592186044416:Nat)∧List.length v22≤(17592186044416:Nat)∧List.length v12≤(17592186044416:Nat)∧List.length v5≤(17592186044416:Nat)∧List.length v6≤(17592186044416:Nat)∧List.length v4≤(17592186044416:Nat)∧List.length v8≤(17592186044416:Nat)∧List.length v15≤(17592186044416:Nat)∧SmallN v32∧True)∧enoughB v32=v19∧v9=v23.id∧v7=v23.role∧v14.term=v25.term∧v14.vote=v25.vote∧v17.index=v27.index∧v17.term=v27.term∧v18.voters=v28.voters∧v18.learners=v28.learners∧v17.data=v27.data∧v11=v23.commit∧v13=v23.lead∧v10=v23.elapsed∧v2=v23.round∧v16=v25.entries∧v22=v26∧v12=v23.peers∧v5=v23.reads∧v6=v24.records∧v4=v24.messages∧v8=v24.ready∧v15=v24.lost∧True)) (by kernel_rfl) ?_
 simp only [imp_self,implies_true,true_and,and_true,pickB_f,pickB_t]
 refine ⟨⟨fun h=>by rw [h];rfl,fun h=>by rw [h];rfl⟩,fun h=>?_,fun h=>?_⟩
 ·have ho:yesOk s m role term=false:=by
   unfold yesOk
   revert h
   simp only [bne]
   cases (s.n.role==role)<;>cases m.ok<;>cases (m.term==term)<;>simp
  have e:yesR s m role term=s:=by rw [yesR,ho];rfl
  rw [e,yesB,ho]
  repeat' apply And.intro
  all_goals rfl
 ·have ho:yesOk s m role term=true:=by
   unfold yesOk
   revert h
   simp only [bne]
   cases (s.n.role==role)<;>cases m.ok<;>cases (m.term==term)<;>simp
  have e:yesR s m role term=yesS s m:=by rw [yesR,ho];rfl
  rw [e,yesB,ho]
  obtain ⟨b1,b2,b3,b4,b5⟩:=(hf.sn (by decide)).ls
  obtain ⟨c1,c2,c3,c4⟩:=(hf.so (by decide)).ls
  have hy:=hf.yes
  have hw:=withC_len s.n.yes m.from_
  refine ⟨⟨by omega,by omega⟩,⟨b1,by omega,b3,b4,c1,c2,c3,c4,⟨(hf.sn (by decide)).k,by show (withC s.n.yes m.from_).length≤_;omega,(hf.sn (by decide)).peers,(hf.sn (by decide)).reads⟩⟩,?_⟩
  repeat' apply And.intro
  all_goals rfl
theorem foldOk_lay {n:Node} {e:Entry} (ho:onC n.kept=true) (hb:n.kept.snap.index+n.kept.entries.length≤900001000) (hc:n.kept.entries.length<10000) (s:Step) (hs:s.n=n):foldOk s.n.kept (entR (layE s e)):=by
 subst hs
 refine ⟨ho,by omega,.inr (.inl ⟨rfl,?_,hc⟩)⟩
 have h1:=(on_bd ho).1
 show IntKind.i64.wrap ((lastC s.n.kept).1+1)=_
 rw [lastC_index ho,IntKind.wrap_i64]
 omega
theorem rlay_fn (s:Step) (e:Entry) (hn:SmallN s.n) (ho:SmallO s.o) (he:SmallE e) (hg:onC s.n.kept=true∧s.n.kept.snap.index+s.n.kept.entries.length≤900001000∧s.n.kept.entries.length<10000):FnG Tryz.prog 118 3 (sMi 125 s) [.ptr 2 0,dEnt2.can e] (.tup []) (sMo 125 (layS s e)):=by
 refine FnG.of_vc (fitsT (tab_cons eRRec_ok (tab_cons eRLastC_ok tab_nil)) fun _=>none) Tryz.func118 rfl (by decide) rfl 300 (p:=fun (V:List PE→Prop)=>let v0:=Node.kept (Step.n s);let v1:=Step.n (layS s e);let v2:=Step.o (layS s e);let v3:=(0:Int);let v4:=v1.kept;let v5:=v4.snap;let v6:=v5.config;let v7:=Record.mk (2:Int) v3 v3 (Entry.mk (IntKind.wrap IntKind.i64 (Prod.fst (lastC v0)+(1:Int))) (v0.term) (Entry.kind e) (Entry.config e) (Entry.data e)) v3 (Snap.mk v3 v3 (Config.mk [] []) (ByteArray.mk #[]));let v8:=recS s v7;let v9:=v8.o;let v10:=v8.n;let v11:=v10.kept;let v12:=v11.snap;let v13:=v12.config;True∧True∧True∧True∧(List.length (Out.records (Step.o s))≤(1000000:Nat)∧SmallK v0∧SmallR v7∧foldOk v0 v7∧True)∧v10.id=v1.id∧v10.role=v1.role∧v11.term=v4.term∧v11.vote=v4.vote∧v12.index=v5.index∧v12.term=v5.term∧v13.voters=v6.voters∧v13.learners=v6.learners∧v12.data=v5.data∧v11.entries=v4.entries∧v10.commit=v1.commit∧v10.lead=v1.lead∧v10.elapsed=v1.elapsed∧v10.round=v1.round∧v10.yes=v1.yes∧v10.peers=v1.peers∧v10.reads=v1.reads∧v9.records=v2.records∧v9.messages=v2.messages∧v9.ready=v2.ready∧v9.lost=v2.lost∧True) (by kernel_rfl) ?_
 simp only [imp_self,implies_true,true_and,and_true,pickB_f,pickB_t]
 refine ⟨⟨ho.records,hn.k,⟨he,⟨Nat.zero_le _,Nat.zero_le _⟩⟩,foldOk_lay hg.1 hg.2.1 hg.2.2 s rfl⟩,?_⟩
 repeat' apply And.intro
 all_goals rfl
def eRLay:Ent:=entL1 118 3 mSt dEnt2 vrS [1,2] glS fun s e=>([SmallN s.n,SmallO s.o,SmallE e,onC s.n.kept=true∧s.n.kept.snap.index+s.n.kept.entries.length≤900001000∧s.n.kept.entries.length<10000],.tup [],sMo 125 (layS s e))
theorem eRLay_ok:EntOk Tryz.prog eRLay:=entL1_ok (fnB Tryz.func118 (by decide) rfl) fun s r h=>rlay_fn s r (h _ (by simp)) (h _ (by simp)) (h _ (by simp)) (h _ (by simp))
def tabRY:List Ent:=[eRTermC,eRSlice,eRSnap,eRSend]
theorem tabRY_ok:∀ e∈tabRY,EntOk Tryz.prog e:=tab_cons eRTermC_ok (tab_cons eRSlice_ok (tab_cons eRSnap_ok (tab_cons eRSend_ok tab_nil)))
theorem rto_fn (s:Step) (p:Peer) (hn:SmallN s.n) (ho:s.o.messages.length≤1000000):FnG Tryz.prog 166 3 (sMi 125 s) [.ptr 2 0,dPeer.L.can p] (.tup []) (sMoM 125 (toS s p)):=by
 refine FnG.of_vc (fitsT tabRY_ok fun _=>none) Tryz.func166 rfl (by decide) rfl 300 (p:=fun (V:List PE→Prop)=>let v0:=Peer.next p;let v1:=Node.kept (Step.n s);let v2:=Node.round (Step.n s);let v3:=Step.o (toS s p);let v4:=Step.n (toS s p);let v5:=v1.snap;let v6:=v3.lost;let v7:=v3.records;let v8:=v4.kept;let v9:=v4.round;let v10:=v3.messages;let v11:=v3.ready;let v12:=v4.yes;let v13:=v4.peers;let v14:=v4.reads;let v15:=v5.index;let v16:=v4.elapsed;let v17:=ByteArray.mk #[];let v18:=v5.config;let v19:=v4.role;let v20:=v4.lead;let v21:=v4.commit;let v22:=v4.id;let v23:=(0:Int);let v24:=v8.snap;let v25:=v8.term;let v26:=v8.entries;let v27:=v8.vote;let v28:=v24.term;let v29:=v24.data;let v30:=v24.config;let v31:=v24.index;let v32:=v30.voters;let v33:=v30.learners;let v34:=IntKind.wrap IntKind.i64 (v0 - (1:Int));let v35:=decide (v0≤v15);let v36:=sendS s (Message.mk (7:Int) v23 (Peer.node p) v23 v23 v23 [] v23 v2 false v5 v23 v23 v17);let v37:=v36.o;let v38:=v36.n;let v39:=v38.kept;let v40:=v39.snap;let v41:=v40.config;let v42:=sendS s (Message.mk (5:Int) v23 (Peer.node p) v23 v34 (Prod.fst (termC v1 v34)) (Prod.fst (sliceC v1 v0 (8:Int))) (Node.commit (Step.n s)) v2 false (Snap.mk v23 v23 (Config.mk [] []) v17) v23 v23 v17);let v43:=v42.n;let v44:=v42.o;let v45:=v43.kept;let v46:=v45.snap;let v47:=v46.config;True∧True∧True∧(v35=true→(List.length (v18.voters)≤(1000000:Nat)∧List.length (v18.learners)≤(1000000:Nat)∧List.length (Out.messages (Step.o s))≤(1000000:Nat)∧True)∧v38.id=v22∧v38.role=v19∧v39.term=v25∧v39.vote=v27∧v40.index=v31∧v40.term=v28∧v41.voters=v32∧v41.learners=v33∧v40.data=v29∧v39.entries=v26∧v38.commit=v21∧v38.lead=v20∧v38.elapsed=v16∧v38.round=v9∧v38.yes=v12∧v38.peers=v13∧v38.reads=v14∧v37.records=v7∧v37.ready=v11∧v37.lost=v6∧v37.messages=v10∧True)∧(v35=false→True∧(SmallK v1∧v23≤(8:Int)∧True)∧(List.length (Out.messages (Step.o s))≤(1000000:Nat)∧True)∧v43.id=v22∧v43.role=v19∧v45.term=v25∧v45.vote=v27∧v46.index=v31∧v46.term=v28∧v47.voters=v32∧v47.learners=v33∧v46.data=v29∧v45.entries=v26∧v43.commit=v21∧v43.lead=v20∧v43.elapsed=v16∧v43.round=v9∧v43.yes=v12∧v43.peers=v13∧v43.reads=v14∧v44.records=v7∧v44.ready=v11∧v44.lost=v6∧v44.messages=v10∧True)) (by kernel_rfl) ?_
 simp only [imp_self,implies_true,true_and,and_true,pickB_f,pickB_t]
 refine ⟨fun h=>?_,fun h=>?_⟩
 ·have h:p.next≤s.n.kept.snap.index:=by simpa using h
  have e:toS s p=sendS s ⟨7,0,p.node,0,0,0,[],0,s.n.round,false,s.n.kept.snap,0,0,⟨#[]⟩⟩:=by rw [toS,toM,if_pos h];rfl
  rw [e]
  refine ⟨⟨hn.k.2.1,hn.k.2.2,ho⟩,?_⟩
  simp only [and_self]
 ·have h:¬ p.next≤s.n.kept.snap.index:=by simpa using h
  have e:toS s p=sendS s ⟨5,0,p.node,0,IntKind.i64.wrap (p.next - 1),(termC s.n.kept (IntKind.i64.wrap (p.next - 1))).1,(sliceC s.n.kept p.next 8).1,s.n.commit,s.n.round,false,⟨0,0,⟨[],[]⟩,⟨#[]⟩⟩,0,0,⟨#[]⟩⟩:=by rw [toS,toM,if_neg h];rfl
  rw [e]
  refine ⟨⟨hn.k,by decide⟩,ho,?_⟩
  simp only [and_self]
def eRTo:Ent:=entL1 166 3 mSt dPeer.L vrS [1,0] glS fun s p=>([SmallN s.n,s.o.messages.length≤1000000],.tup [],sMoM 125 (toS s p))
theorem eRTo_ok:EntOk Tryz.prog eRTo:=entL1_ok (fnB Tryz.func166 (by decide) rfl) fun s p h=>rto_fn s p (h _ (by simp)) (h _ (by simp))
theorem rall18_fn (s:Step) (hn:SmallN s.n) (ho:s.o.messages.length+s.n.peers.length≤1000000):FnG Tryz.prog 108 3 (sMi 125 s) [.ptr 2 0] (.tup []) (sMoM 125 (allS s)):=by
 refine FnG.of_vc (fitsT (tab_cons eRTo_ok tab_nil) fun _=>none) Tryz.func108 rfl (by decide) rfl 300 (p:=fun (V:List PE→Prop)=>True∧V []) (by kernel_rfl) ?_
 simp only [imp_self,implies_true,true_and,and_true,pickB_f,pickB_t]
 have hpl:=hn.peers
 refine LoopG.head (fitsT (tab_cons eRTo_ok tab_nil) fun _=>none) 0 (A:=Nat) (fun j=>j≤s.n.peers.length) (fun j=>[(2,.int .i64 j)]) (fun j=>[(2,.cells 125 (sCs [1] s 3 4 5 6 12 8 9)),(6,.row 139 [2,61] (.rRecord s.o.records)),(8,.row 96 [2,61] (.rRead s.o.ready)),(9,.row 3 [2,61] (.rInts s.o.lost)),(7,.dead),(12,.row 39 [2,61] (.rMessage (s.o.messages++(s.n.peers.take j).map fun p=>msgS s (toM s p)))),(61,.dead)]) (fun j=>s.n.peers.length - j) 0 (Nat.zero_le _) (p0:=let v0:=Step.n s;let v1:=Step.o s;let v2:=v0.id;let v3:=v0.role;let v4:=v1.ready;let v5:=v0.commit;let v6:=v0.round;let v7:=v0.reads;let v8:=v0.yes;let v9:=v0.kept;let v10:=v0.lead;let v11:=v0.peers;let v12:=v0.elapsed;let v13:=v1.records;let v14:=v1.lost;let v15:=v1.messages;let v16:=v9.entries;let v17:=v9.snap;let v18:=v9.term;let v19:=v9.vote;let v20:=v17.term;let v21:=v17.index;let v22:=v17.data;let v23:=v17.config;let v24:=v23.voters;let v25:=v23.learners;(0:Int)=(↑(0:Nat):Int)∧v2=v2∧v3=v3∧v18=v18∧v19=v19∧v21=v21∧v20=v20∧v24=v24∧v25=v25∧v22=v22∧v16=v16∧v5=v5∧v10=v10∧v12=v12∧v6=v6∧v13=v13∧v4=v4∧v14=v14∧v15=v15++List.map (fun (p:Peer)=>msgS s (toM s p)) (List.take (0:Nat) v11)∧v8=v8∧v11=v11∧v7=v7∧True) (by kernel_rfl) ?_ 300 (p:=fun (x:Nat) (V:List PE→Prop)=>let v0:=Step.n s;let v1:=Step.o s;let v2:=Step.o (allS s);let v3:=v0.peers;let v4:=v0.kept;let v5:=Step.n (allS s);let v6:=(↑x:Int);let v7:=v5.kept;let v8:=v4.snap;let v9:=v7.snap;let v10:=List.length v3;let v11:=v8.config;let v12:=v9.config;let v13:=(↑v10:Int);let v14:=decide (v6<v13);let v15:=v1.messages++List.map (fun (p:Peer)=>msgS s (toM s p)) (List.take x v3);True∧True∧(v14=true→((0:Int)≤v6∧v6<v13∧x<v10∧SmallN v0∧List.length v15≤(1000000:Nat)∧True)∧True∧V [PE.a])∧(v14=false→v0.id=v5.id∧v0.role=v5.role∧v4.term=v7.term∧v4.vote=v7.vote∧v8.index=v9.index∧v8.term=v9.term∧v11.voters=v12.voters∧v11.learners=v12.learners∧v8.data=v9.data∧v4.entries=v7.entries∧v0.commit=v5.commit∧v0.lead=v5.lead∧v0.elapsed=v5.elapsed∧v0.round=v5.round∧v0.yes=v5.yes∧v3=v5.peers∧v0.reads=v5.reads∧v1.records=v2.records∧v1.ready=v2.ready∧v1.lost=v2.lost∧v15=v2.messages∧True)) (by intro x;kernel_rfl) ?_
 ·simp
 rintro j hj
 simp only [imp_self,implies_true,true_and,and_true,decide_eq_true_eq,decide_eq_false_iff_not]
 refine ⟨fun h6=>?_,fun h6=>?_⟩
 ·refine ⟨⟨by omega,by omega,by omega,hn,by simp only [List.length_append,List.length_map,List.length_take];omega⟩,?_⟩
  refine Back.mk (j+1) (by omega) (by omega) (p0:=let v0:=Step.n s;let v1:=Step.o s;let v2:=v1.messages;let v3:=v0.peers;let v4:=v1.ready;let v5:=v1.records;let v6:=v1.lost;let v7:=v0.kept;let v8:=v7.snap;let v9:=v8.config;let v10:=toS (Step.mk v0 (Out.mk v5 (v2++List.map (fun (p:Peer)=>msgS s (toM s p)) (List.take j v3)) v4 v6)) (List.getD v3 j default);let v11:=v10.n;let v12:=v10.o;let v13:=v11.kept;let v14:=v13.snap;let v15:=v14.config;IntKind.wrap IntKind.i64 ((↑j:Int)+(1:Int))=(↑(j+(1:Nat)):Int)∧v11.id=v0.id∧v11.role=v0.role∧v13.term=v7.term∧v13.vote=v7.vote∧v14.index=v8.index∧v14.term=v8.term∧v15.voters=v9.voters∧v15.learners=v9.learners∧v14.data=v8.data∧v13.entries=v7.entries∧v11.commit=v0.commit∧v11.lead=v0.lead∧v11.elapsed=v0.elapsed∧v11.round=v0.round∧v12.records=v5∧v12.ready=v4∧v12.lost=v6∧v12.messages=v2++List.map (fun (p:Peer)=>msgS s (toM s p)) (List.take (j+(1:Nat)) v3)∧v11.yes=v0.yes∧v11.peers=v3∧v11.reads=v0.reads∧True) (by kernel_rfl) ?_
  have e1:=take_snoc (l:=s.n.peers) (d:=(default:Peer)) (i:=j) (by omega)
  simp only [wrapN (i:=j) (by omega),e1,toS,sendS,toM_o,msgS_o,fun p=>toM_s s p,fun m=>msgS_s s m,List.map_append,List.map_cons,List.map_nil,List.append_assoc,true_and,and_true]
  omega
 ·obtain rfl:j=s.n.peers.length:=by omega
  simp only [List.take_length,allS,and_self]
def eRAll18:Ent:=entN0 108 3 mSt vrS [1] glS fun s=>([SmallN s.n,s.o.messages.length+s.n.peers.length≤1000000],.tup [],sMoM 125 (allS s))
theorem eRAll18_ok:EntOk Tryz.prog eRAll18:=entN0_ok (fnB Tryz.func108 (by decide) rfl) fun s h=>rall18_fn s (h _ (by simp)) (h _ (by simp))
theorem rvoters_fn (s:Step) (m:Message) (hn:SmallN s.n) (ho:SmallO s.o) (hm:s.o.messages.length≤900000) (hv:(confC s.n).voters.length≤4000):FnG Tryz.prog 146 3 (sMi 125 s) [.ptr 2 0,dMsg2.can m] (.tup []) (sMoM 125 (askS s m)):=by
 refine FnG.of_vc (fitsT (tab_cons eRLastC_ok (tab_cons eRConfN_ok (tab_cons eDrop_ok (tab_cons eRSend_ok tab_nil)))) fun _=>none) Tryz.func146 rfl (by decide) rfl 300 (p:=fun (V:List PE→Prop)=>let v0:=Step.n s;True∧True∧True∧True∧(List.length (v0.yes)≤(17592186044416:Nat)∧List.length (v0.peers)≤(17592186044416:Nat)∧List.length (v0.reads)≤(17592186044416:Nat)∧SmallN v0∧List.length (Config.voters (confC v0))≤(1000000:Nat)∧True)∧True∧V []) (by kernel_rfl) ?_
 simp only [imp_self,implies_true,true_and,and_true,pickB_f,pickB_t]
 obtain ⟨b1,b2,b3,b4,b5⟩:=hn.ls
 obtain ⟨L,hL⟩:∃ L,dropL (confC s.n).voters s.n.id=L:=⟨_,rfl⟩
 have hll:L.length≤4000:=by rw [← hL];exact Nat.le_trans (List.length_filter_le _ _) hv
 refine ⟨⟨b2,b3,b4,hn,Nat.le_trans hv (by decide)⟩,?_⟩
 refine LoopG.head (fitsT (tab_cons eRLastC_ok (tab_cons eRConfN_ok (tab_cons eDrop_ok (tab_cons eRSend_ok tab_nil)))) fun _=>none) 0 (A:=Nat×Int) (fun j=>j.1≤L.length) (fun j=>[(7,.int .i64 j.1),(6,.sl [900] (.rInts L))]) (fun j=>[(2,.cells 125 (sCs [1] s 3 4 5 6 12 8 9)),(6,.row 139 [2,901] (.rRecord s.o.records)),(8,.row 96 [2,901] (.rRead s.o.ready)),(9,.row 3 [2,901] (.rInts s.o.lost)),(7,.dead),(12,.row 39 [2,901] (.rMessage (s.o.messages++(L.take j.1).map fun v=>msgS s (askM s m v)))),(10,.cells 39 ((askM s m j.2).svs [2])),(900,.dead),(901,.dead)]) (fun j=>L.length - j.1) (0,m.to_) (Nat.zero_le _) (p0:=let v0:=Step.o s;let v1:=Message.snap m;let v2:=Step.n s;let v3:=v2.elapsed;let v4:=v2.id;let v5:=v0.records;let v6:=v2.lead;let v7:=v2.kept;let v8:=v0.lost;let v9:=v2.reads;let v10:=v0.ready;let v11:=v1.config;let v12:=v2.commit;let v13:=v2.round;let v14:=v2.peers;let v15:=v2.yes;let v16:=v0.messages;let v17:=v2.role;let v18:=lastC v7;let v19:=v7.snap;let v20:=v7.entries;let v21:=v7.vote;let v22:=v7.term;let v23:=v19.config;let v24:=askM s m (Message.to_ m);let v25:=v19.data;let v26:=v19.term;let v27:=v19.index;let v28:=v24.snap;let v29:=v23.voters;let v30:=v23.learners;let v31:=v28.config;(0:Int)=(↑(0:Nat):Int)∧dropL (Config.voters (confC v2)) v4=L∧v4=v4∧v17=v17∧v22=v22∧v21=v21∧v27=v27∧v26=v26∧v29=v29∧v30=v30∧v25=v25∧v20=v20∧v12=v12∧v6=v6∧v3=v3∧v13=v13∧v5=v5∧v10=v10∧v8=v8∧v16=v16++List.map (fun (v:Int)=>msgS s (askM s m v)) (List.take (0:Nat) L)∧Message.kind m=v24.kind∧Message.from_ m=v24.from_∧Message.to_ m=v24.to_∧Message.term m=v24.term∧Prod.fst v18=v24.index∧Prod.snd v18=Message.logTerm v24∧Message.entries m=v24.entries∧Message.commit m=v24.commit∧Message.round m=v24.round∧Message.ok m=v24.ok∧v1.index=v28.index∧v1.term=v28.term∧v11.voters=v31.voters∧v11.learners=v31.learners∧v1.data=v28.data∧Message.ask m=v24.ask∧Message.seq m=v24.seq∧Message.data m=v24.data∧v15=v15∧v14=v14∧v9=v9∧True) (by kernel_rfl) ?_ 300 (p:=fun (x:Nat×Int) (V:List PE→Prop)=>let v0:=Step.n s;let v1:=Step.o s;let v2:=v0.kept;let v3:=v2.snap;let v4:=Step.n (askS s m);let v5:=Step.o (askS s m);let v6:=v3.config;let v7:=v4.kept;let v8:=(↑(List.length L):Int);let v9:=v7.snap;let v10:=(↑(Prod.fst x):Int);let v11:=v9.config;let v12:=decide (v10<v8);let v13:=v1.messages++List.map (fun (v:Int)=>msgS s (askM s m v)) (List.take (Prod.fst x) L);True∧True∧(v12=true→((0:Int)≤v10∧v10<v8∧True)∧(List.length v13≤(1000000:Nat)∧True)∧True∧V [PE.a])∧(v12=false→v0.id=v4.id∧v0.role=v4.role∧v2.term=v7.term∧v2.vote=v7.vote∧v3.index=v9.index∧v3.term=v9.term∧v6.voters=v11.voters∧v6.learners=v11.learners∧v3.data=v9.data∧v2.entries=v7.entries∧v0.commit=v4.commit∧v0.lead=v4.lead∧v0.elapsed=v4.elapsed∧v0.round=v4.round∧v0.yes=v4.yes∧v0.peers=v4.peers∧v0.reads=v4.reads∧v1.records=v5.records∧v1.ready=v5.ready∧v1.lost=v5.lost∧v13=v5.messages∧True)) (by intro x;kernel_rfl) ?_
 ·simp [askM,hL]
 rintro ⟨j,t⟩ hj
 dsimp only at hj
 simp only [imp_self,implies_true,true_and,and_true,decide_eq_true_eq,decide_eq_false_iff_not]
 have htl:(L.take j).length≤4000:=by simp only [List.length_take];omega
 refine ⟨fun h6=>⟨⟨by omega,h6⟩,by simp only [List.length_append,List.length_map];omega,?_⟩,fun h6=>?_⟩
 ·refine Back.mk (j+1,L.getD j 0) (by show j+1≤_;omega) (by show _ - (j+1)<_ - j;omega) (p0:=let v0:=Step.o s;let v1:=Step.n s;let v2:=v0.records;let v3:=v0.messages;let v4:=v1.kept;let v5:=v0.ready;let v6:=v0.lost;let v7:=v4.snap;let v8:=askM s m t;let v9:=v8.entries;let v10:=v8.ask;let v11:=v8.data;let v12:=v8.term;let v13:=v8.snap;let v14:=v8.commit;let v15:=v8.seq;let v16:=v8.from_;let v17:=v8.kind;let v18:=v8.ok;let v19:=Message.logTerm v8;let v20:=v8.round;let v21:=v7.config;let v22:=v8.index;let v23:=v13.config;let v24:=List.getD L j (0:Int);let v25:=askM s m v24;let v26:=v25.snap;let v27:=v26.config;let v28:=sendS (Step.mk v1 (Out.mk v2 (v3++List.map (fun (v:Int)=>msgS s (askM s m v)) (List.take j L)) v5 v6)) (Message.mk v17 v16 v24 v12 v22 v19 v9 v14 v20 v18 v13 v10 v15 v11);let v29:=v28.n;let v30:=v28.o;let v31:=v29.kept;let v32:=v31.snap;let v33:=v32.config;IntKind.wrap IntKind.i64 ((↑j:Int)+(1:Int))=(↑(j+(1:Nat)):Int)∧L=L∧v29.id=v1.id∧v29.role=v1.role∧v31.term=v4.term∧v31.vote=v4.vote∧v32.index=v7.index∧v32.term=v7.term∧v33.voters=v21.voters∧v33.learners=v21.learners∧v32.data=v7.data∧v31.entries=v4.entries∧v29.commit=v1.commit∧v29.lead=v1.lead∧v29.elapsed=v1.elapsed∧v29.round=v1.round∧v30.records=v2∧v30.ready=v5∧v30.lost=v6∧v30.messages=v3++List.map (fun (v:Int)=>msgS s (askM s m v)) (List.take (j+(1:Nat)) L)∧v17=v25.kind∧v16=v25.from_∧v24=v25.to_∧v12=v25.term∧v22=v25.index∧v19=Message.logTerm v25∧v9=v25.entries∧v14=v25.commit∧v20=v25.round∧v18=v25.ok∧v13.index=v26.index∧v13.term=v26.term∧v23.voters=v27.voters∧v23.learners=v27.learners∧v13.data=v26.data∧v10=v25.ask∧v15=v25.seq∧v11=v25.data∧v29.yes=v1.yes∧v29.peers=v1.peers∧v29.reads=v1.reads∧True) (by kernel_rfl) ?_
  simp only [true_and,and_true,wrapN (i:=j) (by omega)]
  rw [take_snoc (d:=(0:Int)) (by omega),List.map_append]
  refine ⟨by omega,?_⟩
  simp [sendS,msgS,askM]
  by_cases g:m.term=0<;>simp [g]
 ·obtain rfl:j=L.length:=by omega
  rw [List.take_length]
  simp only [askS,hL,and_self]
def refM (v:Int):List Peer→Int→Int
 | [],n=>n
 | p::l,n=>refM v l (if p.node=v then p.match_ else n)
theorem refM_app (v:Int):∀ (a b:List Peer) (n:Int),refM v (a++b) n=refM v b (refM v a n)
 | [],b,n=>rfl
 | p::a,b,n=>refM_app v a b _
theorem refM_none {v : Int} : ∀ {l : List Peer} {n : Int}, v ∉ l.map (·.node) → refM v l n = n ∧ peerI l v = -1
  | [], n, _ => ⟨rfl, rfl⟩
  | p :: l, n, h => by
    simp only [List.map_cons, List.mem_cons, not_or] at h
    obtain ⟨h1, h2⟩ := refM_none (l := l) (n := n) h.2
    have hne : ¬ p.node = v := fun e => h.1 e.symm
    refine ⟨by rw [refM, if_neg hne]; exact h1, ?_⟩
    have h2' : firstI (isV v) (l.map (·.node)) = -1 := h2
    show firstI (isV v) (p.node :: l.map (·.node)) = -1
    rw [firstI, if_neg (by simp [isV, hne]), if_pos h2']
theorem refM_eq {v : Int} : ∀ {l : List Peer} {n : Int}, (l.map (·.node)).Nodup → refM v l n = if 0 ≤ peerI l v then (l.getD (peerI l v).toNat default).match_ else n
  | [], n, _ => rfl
  | p :: l, n, h => by
    simp only [List.map_cons, List.nodup_cons] at h
    by_cases e : p.node = v
    · have hv : v ∉ l.map (·.node) := by rw [← e]; exact h.1
      have hi : peerI (p :: l) v = 0 := by
        show firstI (isV v) (p.node :: l.map (·.node)) = 0
        rw [firstI, if_pos (by simp [isV, e])]
      rw [refM, if_pos e, (refM_none hv).1, hi, if_pos (Int.le_refl 0)]
      rfl
    · have ih := refM_eq (v := v) (l := l) (n := n) h.2
      have h2 : peerI (p :: l) v = if peerI l v = -1 then -1 else peerI l v + 1 := by
        show firstI (isV v) (p.node :: l.map (·.node)) = _
        rw [firstI, if_neg (by simp [isV, e])]
        rfl
      rw [refM, if_neg e, ih, h2]
      have hge := (firstI_lt (p := isV v) (l.map (·.node))).1
      have hge : -1 ≤ peerI l v := hge
      by_cases g : peerI l v = -1
      · rw [if_neg (by omega), if_pos g, if_neg (by omega)]
      · rw [if_pos (by omega), if_neg g, if_pos (by omega)]
        rw [show (peerI l v + 1).toNat = (peerI l v).toNat + 1 by omega, List.getD_cons_succ]
noncomputable def tabRc1:List Ent:=[eRConfN,eRLastC,eRSure,eRTermC]
theorem tabRc1_ok:∀ e∈tabRc1,EntOk Tryz.prog e:=tab_cons eRConfN_ok (tab_cons eRLastC_ok (tab_cons eRSure_ok (tab_cons eRTermC_ok tab_nil)))
theorem rcount_fn (s:Step) (hn:SmallN s.n) (ho:SmallO s.o) (hv:(confC s.n).voters.length≤4000) (hg:(s.n.peers.map (·.node)).Nodup):FnG Tryz.prog 120 3 (sMi 125 s) [.ptr 2 0] (.tup []) (sMi 125 (countS s)):=by
 refine FnG.of_vc (fitsT tabRc1_ok fun _=>none) Tryz.func120 rfl (by decide) rfl 300 (p:=fun (V:List PE→Prop)=>let v0:=Step.n s;(List.length (v0.yes)≤(17592186044416:Nat)∧List.length (v0.peers)≤(17592186044416:Nat)∧List.length (v0.reads)≤(17592186044416:Nat)∧SmallN v0∧True)∧True∧True∧True∧V []) (by kernel_rfl) ?_
 simp only [imp_self,implies_true,true_and,and_true,pickB_f,pickB_t]
 obtain ⟨b1,b2,b3,b4,b5⟩:=hn.ls
 obtain ⟨V,hV⟩:∃ V,(confC s.n).voters=V:=⟨_,rfl⟩
 have hVl:V.length≤4000:=by rw [← hV];exact hv
 refine ⟨⟨b2,b3,b4,hn⟩,?_⟩
 refine LoopG.head (fitsT tabRc1_ok fun _=>none) 0 (A:=Nat) (fun j=>j≤V.length) (fun j=>[(6,.int .i64 j),(5,.own 12)]) (fun j=>[(38,.cells 25 [.sl [900] (.rInts V),.sl [900] (.rInts (confC s.n).learners)]),(12,.row 3 [] (.rInts ((V.take j).map (matchI s)))),(900,.dead)]) (fun j=>V.length - j) 0 (Nat.zero_le _) (p0:=let v0:=Step.o s;let v1:=Step.n s;let v2:=v0.messages;let v3:=v1.peers;let v4:=v1.reads;let v5:=v1.yes;let v6:=v1.commit;let v7:=v1.lead;let v8:=v0.lost;let v9:=v1.elapsed;let v10:=v1.kept;let v11:=v1.round;let v12:=v1.role;let v13:=v0.ready;let v14:=v0.records;let v15:=v1.id;let v16:=Config.learners (confC v1);let v17:=v10.entries;let v18:=v10.term;let v19:=v10.vote;let v20:=v10.snap;let v21:=v20.term;let v22:=v20.index;let v23:=v20.config;let v24:=v20.data;let v25:=v23.voters;let v26:=v23.learners;let v27:=Prod.fst (lastC v10);(0:Int)=(↑(0:Nat):Int)∧v27=v27∧Config.voters (confC v1)=V∧v16=v16∧List.map (matchI s) (List.take (0:Nat) V)=[]∧v15=v15∧v12=v12∧v18=v18∧v19=v19∧v22=v22∧v21=v21∧v25=v25∧v26=v26∧v24=v24∧v17=v17∧v6=v6∧v7=v7∧v9=v9∧v11=v11∧v5=v5∧v3=v3∧v4=v4∧v14=v14∧v2=v2∧v13=v13∧v8=v8∧True) (by kernel_rfl) ?_ 300 (p:=fun (x:Nat) (V_1:List PE→Prop)=>let v0:=Step.n s;let v1:=Step.o s;let v2:=v0.kept;let v3:=v0.role;let v4:=Step.n (countS s);let v5:=v0.commit;let v6:=v0.lead;let v7:=v0.round;let v8:=Step.o (countS s);let v9:=v0.elapsed;let v10:=v0.id;let v11:=v4.kept;let v12:=v2.entries;let v13:=v2.snap;let v14:=v2.vote;let v15:=v2.term;let v16:=(↑x:Int);let v17:=v13.index;let v18:=v13.config;let v19:=v13.data;let v20:=v13.term;let v21:=v11.snap;let v22:=v21.config;let v23:=v18.learners;let v24:=v18.voters;let v25:=(↑(List.length V):Int);let v26:=List.map (matchI s) (List.take x V);let v27:=sureC v26;let v28:=List.length v26;let v29:=termC v2 v27;let v30:=decide (v16<v25);let v31:=decide (v27>v5);let v32:=pickB v31 (Prod.snd v29==(0:Int)) false;let v33:=pickB v32 (Prod.fst v29==v15) false;True∧True∧(v30=true→True∧((0:Int)≤v16∧v16<v25∧True)∧True∧True∧V_1 [PE.a])∧(v30=false→(v28≤(17592186044416:Nat)∧v28≤(1000000:Nat)∧True)∧True∧((v31=true→v31=true)∧(v31=true→v31=true)∧(v32=true→v32=true)∧(v32=true→v32=true)∧(v32=true→v32=true)∧(v32=true→v32=true)∧(v32=true→v32=true)∧(v32=true→v32=true)∧(v32=true→v32=true)∧(v32=true→v32=true)∧True)∧True∧pickI v33 v10 v10=v4.id∧pickI v33 v3 v3=v4.role∧pickI v33 v15 v15=v11.term∧pickI v33 v14 v14=v11.vote∧pickI v33 v17 v17=v21.index∧pickI v33 v20 v20=v21.term∧(if v33=true then v24 else v24)=v22.voters∧(if v33=true then v23 else v23)=v22.learners∧(if v33=true then v19 else v19)=v21.data∧(if v33=true then v12 else v12)=v11.entries∧pickI v33 v27 v5=v4.commit∧pickI v33 v6 v6=v4.lead∧pickI v33 v9 v9=v4.elapsed∧pickI v33 v7 v7=v4.round∧v0.yes=v4.yes∧v0.peers=v4.peers∧v0.reads=v4.reads∧v1.records=v8.records∧v1.messages=v8.messages∧v1.ready=v8.ready∧v1.lost=v8.lost∧True)) (by intro x;kernel_rfl) ?_
 ·simp [hV]
 rintro j hj
 simp only [imp_self,implies_true,true_and,and_true,decide_eq_true_eq,decide_eq_false_iff_not]
 refine ⟨fun h6=>⟨⟨by omega,h6⟩,?_⟩,fun h6=>?_⟩
 ·refine LoopG.head (fitsT tabRc1_ok fun _=>none) 1 (A:=Nat) (fun i=>i≤s.n.peers.length) (fun i=>[(8,.int .i64 i),(7,.int .i64 (refM (V.getD j 0) (s.n.peers.take i) (pickI (V.getD j 0==s.n.id) (lastC s.n.kept).1 0)))]) (fun i=>[]) (fun i=>s.n.peers.length - i) 0 (Nat.zero_le _) (p0:=let v0:=Step.n s;let v1:=Step.o s;let v2:=v0.kept;let v3:=v1.messages;let v4:=v0.peers;let v5:=v0.reads;let v6:=v0.yes;let v7:=v0.commit;let v8:=v0.lead;let v9:=v1.lost;let v10:=v0.elapsed;let v11:=v0.round;let v12:=v0.role;let v13:=v1.ready;let v14:=v1.records;let v15:=v0.id;let v16:=Config.learners (confC v0);let v17:=v2.entries;let v18:=v2.vote;let v19:=v2.term;let v20:=(↑j:Int);let v21:=v2.snap;let v22:=v21.index;let v23:=v21.data;let v24:=v21.config;let v25:=v21.term;let v26:=(↑(List.length V):Int);let v27:=v24.voters;let v28:=v24.learners;let v29:=Prod.fst (lastC v2);let v30:=List.map (matchI s) (List.take j V);let v31:=List.getD V j (0:Int);let v32:=v31==v15;let v33:=decide (v20<v26);let v34:=pickI v32 v29 (0:Int);(0:Int)=(↑(0:Nat):Int)∧v34=refM v31 (List.take (0:Nat) v4) v34∧v32=v32∧v15=v15∧v31=v31∧v20=v20∧V=V∧v33=v33∧v26=v26∧V=V∧v20=v20∧v20=v20∧v29=v29∧V=V∧v16=v16∧v30=v30∧v15=v15∧v12=v12∧v19=v19∧v18=v18∧v22=v22∧v25=v25∧v27=v27∧v28=v28∧v23=v23∧v17=v17∧v7=v7∧v8=v8∧v10=v10∧v11=v11∧v6=v6∧v4=v4∧v5=v5∧v14=v14∧v3=v3∧v13=v13∧v9=v9∧True) (by kernel_rfl) ?_ 300 (p:=fun (x:Nat) (V_1:List PE→Prop)=>let v0:=Node.peers (Step.n s);let v1:=(↑x:Int);let v2:=List.length v0;let v3:=(0:Int);let v4:=(↑v2:Int);let v5:=List.getD V j v3;let v6:=decide (v1<v4);True∧True∧(v6=true→(v3≤v1∧v1<v4∧x<v2∧v3≤(↑j:Int)∧(↑j:Int)<(↑(List.length V):Int)∧True)∧(((Peer.node (List.getD v0 x default)==v5)=true→v3≤v1)∧((Peer.node (List.getD v0 x default)==v5)=true→v1<v4)∧((Peer.node (List.getD v0 x default)==v5)=true→x<v2)∧True)∧True∧V_1 [PE.a])∧(v6=false→((List.length (List.map (matchI s) (List.take j V))+List.length [refM v5 (List.take x v0) (pickI (v5==Node.id (Step.n s)) (Prod.fst (lastC (Node.kept (Step.n s)))) v3)])*(1024:Nat)≤(140737488355328:Nat)∧True)∧True∧V_1 [PE.b])) (by intro x;kernel_rfl) ?_
  ·simp [refM]
  rintro i hi
  simp only [imp_self,implies_true,true_and,and_true,decide_eq_true_eq,decide_eq_false_iff_not]
  have htl:(V.take j).length≤4000:=by rw [hV] at hv;simp only [List.length_take];omega
  refine ⟨fun h7=>⟨⟨by omega,h7,by omega,by omega,h6⟩,⟨fun _=>by omega,fun _=>h7,fun _=>by omega⟩,?_⟩,fun h7=>⟨by simp only [List.length_map,List.length_cons,List.length_nil];omega,?_⟩⟩
  ·refine Back.mk (i+1) (by show i+1≤_;omega) (by show _ - (i+1)<_ - i;omega) (p0:=let v0:=Step.n s;let v1:=Step.o s;let v2:=v1.messages;let v3:=v0.peers;let v4:=v0.reads;let v5:=v0.yes;let v6:=v0.commit;let v7:=v0.lead;let v8:=v1.lost;let v9:=v0.elapsed;let v10:=v0.kept;let v11:=v0.round;let v12:=v0.role;let v13:=v1.ready;let v14:=v1.records;let v15:=v0.id;let v16:=Config.learners (confC v0);let v17:=(↑j:Int);let v18:=v10.entries;let v19:=v10.vote;let v20:=v10.term;let v21:=v10.snap;let v22:=v21.index;let v23:=v21.config;let v24:=v21.data;let v25:=v21.term;let v26:=(↑(List.length V):Int);let v27:=v23.learners;let v28:=v23.voters;let v29:=Prod.fst (lastC v10);let v30:=List.map (matchI s) (List.take j V);let v31:=List.getD v3 i default;let v32:=List.getD V j (0:Int);let v33:=v32==v15;let v34:=decide (v17<v26);let v35:=pickI v33 v29 (0:Int);IntKind.wrap IntKind.i64 ((↑i:Int)+(1:Int))=(↑(i+(1:Nat)):Int)∧pickI (v31.node==v32) (v31.match_) (refM v32 (List.take i v3) v35)=refM v32 (List.take (i+(1:Nat)) v3) v35∧v33=v33∧v15=v15∧v32=v32∧v17=v17∧V=V∧v34=v34∧v26=v26∧V=V∧v17=v17∧v17=v17∧v29=v29∧V=V∧v16=v16∧v30=v30∧v15=v15∧v12=v12∧v20=v20∧v19=v19∧v22=v22∧v25=v25∧v28=v28∧v27=v27∧v24=v24∧v18=v18∧v6=v6∧v7=v7∧v9=v9∧v11=v11∧v5=v5∧v3=v3∧v4=v4∧v14=v14∧v2=v2∧v13=v13∧v8=v8∧True) (by kernel_rfl) ?_
   simp only [true_and,and_true]
   rw [take_snoc (d:=(default:Peer)) (by omega),refM_app]
   refine ⟨wrapN (by omega),?_⟩
   simp only [refM]
   by_cases g:(s.n.peers.getD i default).node=V.getD j 0<;>simp [pickI,g]
  ·obtain rfl:i=s.n.peers.length:=by omega
   refine Back.up (Back.mk (j+1) (by show j+1≤_;omega) (by show _ - (j+1)<_ - j;omega) (p0:=let v0:=Step.n s;let v1:=Step.o s;let v2:=v1.messages;let v3:=v0.peers;let v4:=v0.reads;let v5:=v0.kept;let v6:=v0.yes;let v7:=v0.role;let v8:=v0.commit;let v9:=v0.lead;let v10:=v1.lost;let v11:=v0.round;let v12:=v1.records;let v13:=v0.elapsed;let v14:=v1.ready;let v15:=v0.id;let v16:=v5.entries;let v17:=v5.vote;let v18:=v5.snap;let v19:=v5.term;let v20:=Config.learners (confC v0);let v21:=v18.config;let v22:=v18.term;let v23:=v18.index;let v24:=v18.data;let v25:=v21.voters;let v26:=v21.learners;let v27:=Prod.fst (lastC v5);let v28:=List.getD V j (0:Int);IntKind.wrap IntKind.i64 ((↑j:Int)+(1:Int))=(↑(j+(1:Nat)):Int)∧v27=v27∧V=V∧v20=v20∧List.map (matchI s) (List.take j V)++[refM v28 (List.take (List.length v3) v3) (pickI (v28==v15) v27 (0:Int))]=List.map (matchI s) (List.take (j+(1:Nat)) V)∧v15=v15∧v7=v7∧v19=v19∧v17=v17∧v23=v23∧v22=v22∧v25=v25∧v26=v26∧v24=v24∧v16=v16∧v8=v8∧v9=v9∧v13=v13∧v11=v11∧v6=v6∧v3=v3∧v4=v4∧v12=v12∧v2=v2∧v14=v14∧v10=v10∧True) (by kernel_rfl) ?_)
   simp only [true_and,and_true]
   rw [take_snoc (d:=(0:Int)) (by omega),List.map_append,List.take_length,refM_eq hg]
   refine ⟨wrapN (by omega),?_⟩
   have e:matchI s (V.getD j 0)=if 0≤peerI s.n.peers (V.getD j 0) then (s.n.peers.getD (peerI s.n.peers (V.getD j 0)).toNat default).match_ else pickI (V.getD j 0==s.n.id) (lastC s.n.kept).1 0:=by
    unfold matchI pickI
    by_cases h1:0≤peerI s.n.peers (V.getD j 0)<;>by_cases h2:V.getD j 0=s.n.id<;>simp [h1,h2]
   simp only [List.map_cons,List.map_nil,e]
 ·obtain rfl:j=V.length:=by omega
  rw [List.take_length]
  have hL:V.map (matchI s)=haveL s:=by rw [haveL,hV]
  rw [hL]
  have hll:(haveL s).length≤4000:=by rw [haveL,List.length_map];exact hv
  refine ⟨⟨by omega,by omega⟩,?_⟩
  simp only [pickI_self,ite_self]
  unfold countS
  by_cases h1:(termC s.n.kept (sureC (haveL s))).2=0<;>by_cases h2:(termC s.n.kept (sureC (haveL s))).1=s.n.kept.term<;>by_cases h3:s.n.commit<sureC (haveL s)<;>simp [pickB,pickI,h1,h2,h3]
  all_goals omega
def eRCount:Ent:=entN0 120 3 mSt vrS [1] glS fun s=>([SmallN s.n,SmallO s.o,(confC s.n).voters.length≤4000,(s.n.peers.map (·.node)).Nodup],.tup [],sMi 125 (countS s))
theorem eRCount_ok:EntOk Tryz.prog eRCount:=entN0_ok (fnB Tryz.func120 (by decide) rfl) fun s h=>rcount_fn s (h _ (by simp)) (h _ (by simp)) (h _ (by simp)) (h _ (by simp))
theorem nodup_lt:∀ {l:List Int},l.Pairwise (· < ·)→l.Nodup:=fun h=>h.imp fun h=>by omega
theorem others_nodup (n:Node):(othersC n).Nodup:=List.Nodup.sublist (List.filter_sublist ..) (nodup_lt (allC_asc (confC n)).1)
theorem Few.yesS {B:Nat} {s:Step} (m:Message) (h:Few B s) (hb:16≤B):Few B (yesS s m):=⟨h.entries,h.ec,h.sc,Nat.le_trans (withC_len _ _) hb,h.peers,h.reads,h.records,h.messages,h.ready,h.lost⟩
theorem Few.yr {B:Nat} {s:Step} {m:Message} {role term:Int} (h:Few B s) (hb:16≤B):Few B (yesR s m role term):=by
 unfold yesR
 split
 ·exact h.yesS m hb
 ·exact h
theorem Few.fl1 {B:Nat} {s:Step} (t:Int) (h:Few B s):Few (B+1) (fall1 s t):=by
 unfold fall1
 split
 ·have:=h.vote t 0
  exact ⟨this.entries,this.ec,this.sc,this.yes,this.peers,this.reads,this.records,this.messages,this.ready,this.lost⟩
 ·exact h.mono (Nat.le_succ _)
theorem Few.fall {B:Nat} {s:Step} (t:Int) (h:Few B s):Few (B+5001) (fallS s t):=by
 have h1:=h.fl1 t
 have h2:=h.reads
 have h3:=h1.lost
 have g:=h1.mono (show B+1≤B+5001 by omega)
 exact ⟨g.entries,g.ec,g.sc,Nat.zero_le _,Nat.zero_le _,Nat.zero_le _,g.records,g.messages,g.ready,by show (_++_:List Int).length≤_;simp only [List.length_append,List.length_map];omega⟩
def eYes:Ent:=entL3 150 3 mW dMessage.L dInt.L dInt.L vrW [1,0,0,0] glW fun s m r t=>([Few 70000 s],.bool (yesB s m r t),wMo (yesR s m r t))
theorem eYes_ok:EntOk Tryz.prog eYes:=entL3_ok (fnB Tryz.func150 (by decide) rfl) fun s m r t h=>yes_fn s m r t (h _ (by simp))
def tabBd:List Ent:=[eYes,eStand,eRule]
theorem tabBd_ok:∀ e∈tabBd,EntOk Tryz.prog e:=tab_cons eYes_ok (tab_cons eStand_ok (tab_cons eRule_ok tab_nil))
def probedS (s:Step) (m:Message):Step:=if yesB s m 2 (IntKind.i64.wrap (s.n.kept.term+1)) then standS (yesR s m 2 (IntKind.i64.wrap (s.n.kept.term+1))) else yesR s m 2 (IntKind.i64.wrap (s.n.kept.term+1))
theorem probed_fn (s:Step) (m:Message) (hf:Few 60000 s):FnG Tryz.prog 89 3 (wMi s) [.ptr 2 0,dMessage.L.can m] (.tup []) (wMo (probedS s m)):=by
 refine FnG.of_vc (fitsT tabBd_ok fun _=>none) Tryz.func89 rfl (by decide) rfl 300 (p:=fun (V:List PE→Prop)=>let v0:=Step.o (probedS s m);let v1:=Step.n (probedS s m);let v2:=v1.round;let v3:=v1.reads;let v4:=v1.role;let v5:=v1.commit;let v6:=v0.lost;let v7:=v1.id;let v8:=v0.messages;let v9:=v1.elapsed;let v10:=v1.lead;let v11:=v1.yes;let v12:=v1.kept;let v13:=v0.ready;let v14:=v1.peers;let v15:=v0.records;let v16:=v12.vote;let v17:=v12.term;let v18:=v12.snap;let v19:=v12.entries;let v20:=v18.term;let v21:=v18.index;let v22:=v18.config;let v23:=v18.data;let v24:=v22.voters;let v25:=v22.learners;let v26:=IntKind.wrap IntKind.i64 (Kept.term (Node.kept (Step.n s))+(1:Int));let v27:=yesB s m (2:Int) v26;let v28:=yesR s m (2:Int) v26;let v29:=v28.n;let v30:=standS v28;let v31:=v28.o;let v32:=v30.n;let v33:=v30.o;let v34:=v29.kept;let v35:=v34.snap;let v36:=v32.kept;let v37:=v35.config;let v38:=v36.snap;let v39:=v38.config;True∧(Few (70000:Nat) s∧True)∧True∧(v27=true→(Few (70000:Nat) v28∧True)∧v32.id=v7∧v32.role=v4∧v36.term=v17∧v36.vote=v16∧v38.index=v21∧v38.term=v20∧v39.voters=v24∧v39.learners=v25∧v38.data=v23∧v32.commit=v5∧v32.lead=v10∧v32.elapsed=v9∧v32.round=v2∧v36.entries=v19∧v32.yes=v11∧v32.peers=v14∧v32.reads=v3∧v33.records=v15∧v33.messages=v8∧v33.ready=v13∧v33.lost=v6∧True)∧(v27=false→v29.id=v7∧v29.role=v4∧v34.term=v17∧v34.vote=v16∧v35.index=v21∧v35.term=v20∧v37.voters=v24∧v37.learners=v25∧v35.data=v23∧v29.commit=v5∧v29.lead=v10∧v29.elapsed=v9∧v29.round=v2∧v34.entries=v19∧v29.yes=v11∧v29.peers=v14∧v29.reads=v3∧v31.records=v15∧v31.messages=v8∧v31.ready=v13∧v31.lost=v6∧True)) (by kernel_rfl) ?_
 simp only [imp_self,implies_true,true_and,and_true,pickB_f,pickB_t]
 have k1:=Few.yr (m:=m) (role:=2) (term:=IntKind.i64.wrap (s.n.kept.term+1)) hf (by decide)
 refine ⟨hf.mono (by decide),fun h=>?_,fun h=>?_⟩
 ·rw [probedS,if_pos h]
  refine ⟨k1.mono (by decide),?_⟩
  repeat' apply And.intro
  all_goals rfl
 ·rw [probedS,if_neg (by rw [h];decide)]
  repeat' apply And.intro
  all_goals rfl
def eProbed:Ent:=entL1 89 3 mW dMessage.L vrW [1,0] glW fun s m=>([Few 60000 s],.tup [],wMo (probedS s m))
theorem eProbed_ok:EntOk Tryz.prog eProbed:=entL1_ok (fnB Tryz.func89 (by decide) rfl) fun s m h=>probed_fn s m (h _ (by simp))
def votedS (s:Step) (m:Message):Step:=if yesB s m 3 s.n.kept.term then ruleS (yesR s m 3 s.n.kept.term) else yesR s m 3 s.n.kept.term
theorem voted_fn (s:Step) (m:Message) (hf:Few 60000 s):FnG Tryz.prog 91 3 (wMi s) [.ptr 2 0,dMessage.L.can m] (.tup []) (wMo (votedS s m)):=by
 refine FnG.of_vc (fitsT tabBd_ok fun _=>none) Tryz.func91 rfl (by decide) rfl 300 (p:=fun (V:List PE→Prop)=>let v0:=Step.n (votedS s m);let v1:=Step.o (votedS s m);let v2:=Kept.term (Node.kept (Step.n s));let v3:=v0.peers;let v4:=v1.ready;let v5:=v0.elapsed;let v6:=v1.lost;let v7:=v0.commit;let v8:=v0.kept;let v9:=v1.records;let v10:=v0.round;let v11:=v0.id;let v12:=v1.messages;let v13:=v0.yes;let v14:=v0.reads;let v15:=v0.role;let v16:=v0.lead;let v17:=v8.term;let v18:=v8.entries;let v19:=v8.snap;let v20:=v8.vote;let v21:=v19.config;let v22:=v19.data;let v23:=v19.term;let v24:=v19.index;let v25:=v21.learners;let v26:=v21.voters;let v27:=yesB s m (3:Int) v2;let v28:=yesR s m (3:Int) v2;let v29:=v28.o;let v30:=ruleS v28;let v31:=v28.n;let v32:=v31.kept;let v33:=v30.o;let v34:=v30.n;let v35:=v32.snap;let v36:=v34.kept;let v37:=v36.snap;let v38:=v35.config;let v39:=v37.config;True∧(Few (70000:Nat) s∧True)∧True∧(v27=true→(Few (80000:Nat) v28∧True)∧v34.id=v11∧v34.role=v15∧v36.term=v17∧v36.vote=v20∧v37.index=v24∧v37.term=v23∧v39.voters=v26∧v39.learners=v25∧v37.data=v22∧v34.commit=v7∧v34.lead=v16∧v34.elapsed=v5∧v34.round=v10∧v36.entries=v18∧v34.yes=v13∧v34.peers=v3∧v34.reads=v14∧v33.records=v9∧v33.messages=v12∧v33.ready=v4∧v33.lost=v6∧True)∧(v27=false→v31.id=v11∧v31.role=v15∧v32.term=v17∧v32.vote=v20∧v35.index=v24∧v35.term=v23∧v38.voters=v26∧v38.learners=v25∧v35.data=v22∧v31.commit=v7∧v31.lead=v16∧v31.elapsed=v5∧v31.round=v10∧v32.entries=v18∧v31.yes=v13∧v31.peers=v3∧v31.reads=v14∧v29.records=v9∧v29.messages=v12∧v29.ready=v4∧v29.lost=v6∧True)) (by kernel_rfl) ?_
 simp only [imp_self,implies_true,true_and,and_true,pickB_f,pickB_t]
 have k1:=Few.yr (m:=m) (role:=3) (term:=s.n.kept.term) hf (by decide)
 refine ⟨hf.mono (by decide),fun h=>?_,fun h=>?_⟩
 ·rw [votedS,if_pos h]
  refine ⟨k1.mono (by decide),?_⟩
  repeat' apply And.intro
  all_goals rfl
 ·rw [votedS,if_neg (by rw [h];decide)]
  repeat' apply And.intro
  all_goals rfl
def eVoted:Ent:=entL1 91 3 mW dMessage.L vrW [1,0] glW fun s m=>([Few 60000 s],.tup [],wMo (votedS s m))
theorem eVoted_ok:EntOk Tryz.prog eVoted:=entL1_ok (fnB Tryz.func91 (by decide) rfl) fun s m h=>voted_fn s m (h _ (by simp))
def outZ:Out:=⟨[],[],[],[]⟩
def stepZ (n:Node):Step:=⟨n,outZ⟩
def beginMo (n:Node):List BE:=[.dead,.dead,.cells 115 (n.osvs [1] 3 4 5 6++[.nil,.nil,.nil,.nil]),.row 89 [1] (.rEntry n.kept.entries),.row 3 [] (.rInts n.yes),.row 94 [] (.rPeer n.peers),.row 96 [] (.rRead n.reads)]
def tabE2:List Ent:=[eCheck18,eOwnN]
theorem tabE2_ok:∀ e∈tabE2,EntOk Tryz.prog e:=tab_cons eCheck18_ok (tab_cons eOwnN_ok tab_nil)
theorem beginN_fn (n:Node) (hn:SmallN n) (hr:rightC n=false):FnC Tryz.prog 73 [dNode.can n] (.tup [.any,.int .i64 1]) D2:=by
 refine FnG.of_vc (fitsT tabE2_ok fun _=>none) Tryz.func73 rfl (by decide) rfl 300 (p:=fun (V:List PE→Prop)=>let v0:=errC n != (0:Int);True∧(SmallN n∧True)∧True∧True∧(v0=true→True∧errC n=(1:Int)∧True)∧(v0=false→(SmallN n∧True)∧(0:Int)=(1:Int)∧True)) (by kernel_rfl) ?_
 simp only [imp_self,implies_true,true_and,and_true,pickB_f,pickB_t]
 refine ⟨hn,fun h=>?_,fun h=>?_⟩
 ·rw [errC,hr];rfl
 ·rw [errC,hr] at h;exact absurd h (by decide)
theorem beginY_fn (n:Node) (hn:SmallN n) (hr:rightC n=true):FnC Tryz.prog 73 [dNode.can n] (.tup [.ptr 2 0,.int .i64 0]) (beginMo n):=by
 refine FnG.of_vc (fitsT tabE2_ok fun _=>none) Tryz.func73 rfl (by decide) rfl 300 (p:=fun (V:List PE→Prop)=>let v0:=Node.kept n;let v1:=v0.term;let v2:=v0.snap;let v3:=v0.entries;let v4:=v0.vote;let v5:=v2.term;let v6:=v2.index;let v7:=v2.config;let v8:=v2.data;let v9:=v7.voters;let v10:=v7.learners;let v11:=errC n != (0:Int);True∧(SmallN n∧True)∧True∧True∧(v11=true→True∧False)∧(v11=false→(SmallN n∧True)∧(0:Int)=(0:Int)∧Node.id n=Node.id n∧Node.role n=Node.role n∧v1=v1∧v4=v4∧v6=v6∧v5=v5∧v9=v9∧v10=v10∧v8=v8∧Node.commit n=Node.commit n∧Node.lead n=Node.lead n∧Node.elapsed n=Node.elapsed n∧Node.round n=Node.round n∧v3=v3∧Node.yes n=Node.yes n∧Node.peers n=Node.peers n∧Node.reads n=Node.reads n∧True)) (by kernel_rfl) ?_
 simp only [imp_self,implies_true,true_and,and_true,pickB_f,pickB_t]
 refine ⟨hn,fun h=>?_,fun h=>?_⟩
 ·rw [errC,hr] at h;exact absurd h (by decide)
 exact hn
abbrev D11:List BE:=[.dead,.dead,.dead,.dead,.dead,.dead,.dead,.dead,.dead,.dead,.dead]
def endO (s:Step):SV:= .tup [.agg (s.n.svs [1,4]),.agg (s.o.svs [2,3]),.int .i64 0]
theorem end_fn (s:Step) (hn:SmallN s.n) (ho:SmallO s.o):FnG Tryz.prog 81 3 (wMi s) [.ptr 2 0] (endO s) D11:=by
 refine FnG.of_vc (fitsT tab_nil fun _=>none) Tryz.func81 rfl (by decide) rfl 300 (p:=fun (V:List PE→Prop)=>let v0:=Step.o s;let v1:=Step.n s;let v2:=v0.ready;let v3:=v0.records;let v4:=v1.reads;let v5:=v1.yes;let v6:=v1.id;let v7:=v0.messages;let v8:=v1.elapsed;let v9:=v1.peers;let v10:=v1.role;let v11:=v1.kept;let v12:=v1.lead;let v13:=v1.commit;let v14:=v0.lost;let v15:=v1.round;let v16:=v11.entries;let v17:=v11.snap;let v18:=v11.term;let v19:=v11.vote;let v20:=v17.index;let v21:=v17.config;let v22:=v17.data;let v23:=v17.term;let v24:=v21.voters;let v25:=v21.learners;True∧True∧v6=v6∧v10=v10∧v18=v18∧v19=v19∧v20=v20∧v23=v23∧v24=v24∧v25=v25∧v22=v22∧v16=v16∧List.length v16≤(17592186044416:Nat)∧v13=v13∧v12=v12∧v8=v8∧v5=v5∧List.length v5≤(17592186044416:Nat)∧v9=v9∧List.length v9≤(17592186044416:Nat)∧v15=v15∧v4=v4∧List.length v4≤(17592186044416:Nat)∧v3=v3∧List.length v3≤(17592186044416:Nat)∧v7=v7∧List.length v7≤(17592186044416:Nat)∧v2=v2∧List.length v2≤(17592186044416:Nat)∧v14=v14∧List.length v14≤(17592186044416:Nat)∧(0:Int)=(0:Int)∧True) (by kernel_rfl) ?_
 simp only [imp_self,implies_true,true_and,and_true,pickB_f,pickB_t]
 obtain ⟨b1,b2,b3,b4,b5⟩:=hn.ls
 obtain ⟨c1,c2,c3,c4⟩:=ho.ls
 exact ⟨b1,b2,b3,b4,c1,c2,c3,c4⟩
def eEnd:Ent:=entN0 81 3 mW vrW [1] glW fun s=>([SmallN s.n,SmallO s.o],endO s,D11)
theorem eEnd_ok:EntOk Tryz.prog eEnd:=entN0_ok (fnB Tryz.func81 (by decide) rfl) fun s h=>end_fn s (h _ (by simp)) (h _ (by simp))
def eBegN:Ent:=ent1 73 dNode fun n=>([SmallN n,rightC n=false],.tup [.any,.int .i64 1],D2)
theorem eBegN_ok:EntOk Tryz.prog eBegN:=ent1_ok (fnB Tryz.func73 (by decide) rfl) fun n h=>beginN_fn n (h _ (by simp)) (h _ (by simp))
def eBegY:Ent:=ent1 73 dNode fun n=>([SmallN n,rightC n=true],.tup [.ptr 2 0,.int .i64 0],beginMo n)
theorem eBegY_ok:EntOk Tryz.prog eBegY:=ent1_ok (fnB Tryz.func73 (by decide) rfl) fun n h=>beginY_fn n (h _ (by simp)) (h _ (by simp))
abbrev D3d:List BE:=[.dead,.dead,.dead]
def refO (n:Node) (o:Out) (e:Int):SV:= .tup [.agg (n.svs [1]),.agg (o.svs [2]),.int .i64 e]
theorem refused_fn (e:Int):FnC Tryz.prog 74 [dInt.can e] (refO zeroN outZ e) D3d:=by
 refine FnG.of_vc (fitsT tab_nil fun _=>none) Tryz.func74 rfl (by decide) rfl 300 (p:=fun (V:List PE→Prop)=>let v0:=Node.kept zeroN;let v1:=v0.snap;let v2:=v1.config;let v3:=(0:Int);True∧True∧v3=Node.id zeroN∧v3=Node.role zeroN∧v3=v0.term∧v3=v0.vote∧v3=v1.index∧v3=v1.term∧v2.voters=[]∧v2.learners=[]∧ByteArray.mk #[]=v1.data∧v0.entries=[]∧v3=Node.commit zeroN∧v3=Node.lead zeroN∧v3=Node.elapsed zeroN∧Node.yes zeroN=[]∧Node.peers zeroN=[]∧v3=Node.round zeroN∧Node.reads zeroN=[]∧Out.records outZ=[]∧Out.messages outZ=[]∧Out.ready outZ=[]∧Out.lost outZ=[]∧e=e∧True) (by kernel_rfl) ?_
 simp only [imp_self,implies_true,true_and,and_true,pickB_f,pickB_t]
 repeat' apply And.intro
 all_goals rfl
def eRefused:Ent:=ent1 74 dInt fun e=>([],refO zeroN outZ e,D3d)
theorem eRefused_ok:EntOk Tryz.prog eRefused:=ent1_ok (refused_fn 0).1 fun n h=>refused_fn n
def tabT0:List Ent:=[eBegN,eRefused]
theorem tabT0_ok:∀ e∈tabT0,EntOk Tryz.prog e:=tab_cons eBegN_ok (tab_cons eRefused_ok tab_nil)
theorem tickN_fn (n:Node) (hn:SmallN n) (hr:rightC n=false):FnC Tryz.prog 25 [dNode.can n] (refO zeroN outZ 1) D3d:=by
 refine FnG.of_vc (fitsT tabT0_ok fun _=>none) Tryz.func25 rfl (by decide) rfl 300 (p:=fun (V:List PE→Prop)=>let v0:=Node.commit zeroN;let v1:=Out.messages outZ;let v2:=Node.kept zeroN;let v3:=Node.elapsed zeroN;let v4:=v2.vote;let v5:=v2.entries;let v6:=v2.snap;let v7:=v2.term;let v8:=v6.term;let v9:=v6.data;let v10:=v6.config;let v11:=v6.index;let v12:=v10.voters;let v13:=v10.learners;let v14:=(1:Int) != (0:Int);True∧(SmallN n∧rightC n=false∧True)∧True∧True∧(v14=true→True∧Node.id zeroN=Node.id zeroN∧Node.role zeroN=Node.role zeroN∧v7=v7∧v4=v4∧v11=v11∧v8=v8∧v12=v12∧v13=v13∧v9=v9∧v5=v5∧v0=v0∧Node.lead zeroN=Node.lead zeroN∧v3=v3∧Node.yes zeroN=Node.yes zeroN∧Node.peers zeroN=Node.peers zeroN∧Node.round zeroN=Node.round zeroN∧Node.reads zeroN=Node.reads zeroN∧Out.records outZ=Out.records outZ∧v1=v1∧Out.ready outZ=Out.ready outZ∧Out.lost outZ=Out.lost outZ∧(1:Int)=(1:Int)∧True)∧(v14=false→False)) (by kernel_rfl) ?_
 simp only [imp_self,implies_true,true_and,and_true,pickB_f,pickB_t]
 exact ⟨⟨hn,hr⟩,fun h=>absurd h (by decide)⟩
noncomputable def tabT1:List Ent:=[eBegY,eRefused,eAllW,ePat,eConfN,eVoter,eRun,eStand,eAskW,eEnd]
theorem tabT1_ok:∀ e∈tabT1,EntOk Tryz.prog e:=tab_cons eBegY_ok (tab_cons eRefused_ok (tab_cons eAllW_ok (tab_cons ePat_ok (tab_cons eConfN_ok (tab_cons eVoter_ok (tab_cons eRun_ok (tab_cons eStand_ok (tab_cons eAskW_ok (tab_cons eEnd_ok tab_nil)))))))))
def elap (n:Node):Int:=if (1000:Int)<IntKind.i64.wrap (n.elapsed+1) then 1000 else IntKind.i64.wrap (n.elapsed+1)
def tick1 (n:Node):Step:=⟨{n with elapsed:=elap n},outZ⟩
def voterB (n:Node):Bool:=hasB (confC n).voters n.id&&mayC (confC n)
def probeM (n:Node):Message:=⟨1,0,0,IntKind.i64.wrap (n.kept.term+1),0,0,[],0,0,false,zSnap,0,0,zs⟩
def tickS (n:Node):Step:=
 if n.role=4 then (if 2≤elap n then allS ⟨{n with elapsed:=0},outZ⟩ else tick1 n)
 else if elap n<patI n∨voterB n=false then tick1 n
 else if enoughB (runS (tick1 n) 2).n then standS (runS (tick1 n) 2) else askS (runS (tick1 n) 2) (probeM n)
theorem Few.tick1 {B:Nat} {n:Node} (h:Few B (stepZ n)):Few B (tick1 n):=⟨h.entries,h.ec,h.sc,h.yes,h.peers,h.reads,h.records,h.messages,h.ready,h.lost⟩
theorem tickY_fn (n:Node) (hn:SmallN n) (hr:rightC n=true) (hf:Few 50000 (stepZ n)):FnC Tryz.prog 25 [dNode.can n] (refO (tickS n).n (tickS n).o 0) D3d:=by
 refine FnG.of_vc (fitsT tabT1_ok fun _=>none) Tryz.func25 rfl (by decide) rfl 300 (p:=fun (V:List PE→Prop)=>let v0:=Node.id n;let v1:=Node.kept zeroN;let v2:=Node.kept n;let v3:=Node.peers n;let v4:=Node.reads n;let v5:=Node.role n;let v6:=Node.commit n;let v7:=Node.lead n;let v8:=Node.round n;let v9:=Node.yes n;let v10:=v2.snap;let v11:=Step.n (tickS n);let v12:=v1.snap;let v13:=v2.entries;let v14:=Step.o (tickS n);let v15:=v11.reads;let v16:=v11.kept;let v17:=v14.lost;let v18:=v11.peers;let v19:=v11.elapsed;let v20:=v10.config;let v21:=v12.config;let v22:=v11.id;let v23:=v11.role;let v24:=v11.lead;let v25:=v11.round;let v26:=v11.yes;let v27:=v11.commit;let v28:=v14.ready;let v29:=List.length v3;let v30:=v14.messages;let v31:=v14.records;let v32:=v16.snap;let v33:=v16.vote;let v34:=(1000:Int);let v35:=v16.term;let v36:=(0:Int);let v37:=v16.entries;let v38:=v32.data;let v39:=v32.config;let v40:=v32.index;let v41:=v32.term;let v42:=v39.voters;let v43:=v39.learners;let v44:=Out.mk [] [] [] [];let v45:=v5==(4:Int);let v46:=v36 != v36;let v47:=IntKind.wrap IntKind.i64 (Node.elapsed n+(1:Int));let v48:=Node.mk v0 v5 v2 v6 v7 v36 v9 v3 v8 v4;let v49:=allS (Step.mk v48 v44);let v50:=v49.n;let v51:=v49.o;let v52:=v50.kept;let v53:=v52.snap;let v54:=v53.config;let v55:=if v34<v47 then v34 else v47;let v56:=Node.mk v0 v5 v2 v6 v7 v55 v9 v3 v8 v4;let v57:=confC v56;let v58:=patI v56;let v59:=runS (Step.mk v56 v44) (2:Int);let v60:=v59.n;let v61:=standS v59;let v62:=v59.o;let v63:=v61.n;let v64:=v61.o;let v65:=enoughB v60;let v66:=v63.kept;let v67:=v66.snap;let v68:=v67.config;let v69:=pickB v45 (decide (v55≥(2:Int))) false;let v70:=askS v59 (Message.mk (1:Int) v36 v36 (IntKind.wrap IntKind.i64 (Kept.term (v60.kept)+(1:Int))) v36 v36 [] v36 v36 false (Snap.mk v36 v36 (Config.mk [] []) (ByteArray.mk #[])) v36 v36 (ByteArray.mk #[]));let v71:=v70.n;let v72:=v70.o;let v73:=v71.kept;let v74:=v73.snap;let v75:=v74.config;let v76:=pickB v45 true (decide (v55<v58));let v77:=pickB v76 true !(hasB (v57.voters) v0&&mayC v57);True∧(SmallN n∧rightC n=true∧True)∧True∧True∧(v46=true→True∧Node.id zeroN=v22∧Node.role zeroN=v23∧v1.term=v35∧v1.vote=v33∧v12.index=v40∧v12.term=v41∧v21.voters=v42∧v21.learners=v43∧v12.data=v38∧v1.entries=v37∧Node.commit zeroN=v27∧Node.lead zeroN=v24∧Node.elapsed zeroN=v19∧Node.yes zeroN=v26∧Node.peers zeroN=v18∧Node.round zeroN=v25∧Node.reads zeroN=v15∧Out.records outZ=v31∧Out.messages outZ=v30∧Out.ready outZ=v28∧Out.lost outZ=v17∧v36=v36∧True)∧(v46=false→True∧((v45=true→v45=true)∧(v45=true→v45=true)∧(v45=true→v45=true)∧(v45=true→v45=true)∧(v45=true→v45=true)∧(v45=true→v45=true)∧True)∧True∧(v69=true→True∧(SmallN v48∧(0:Nat)+v29≤(1000000:Nat)∧True)∧(SmallN v50∧SmallO v51∧True)∧v50.id=v22∧v50.role=v23∧v52.term=v35∧v52.vote=v33∧v53.index=v40∧v53.term=v41∧v54.voters=v42∧v54.learners=v43∧v53.data=v38∧v52.entries=v37∧v50.commit=v27∧v50.lead=v24∧v50.elapsed=v19∧v50.yes=v26∧v50.peers=v18∧v50.round=v25∧v50.reads=v15∧v51.records=v31∧v51.messages=v30∧v51.ready=v28∧v51.lost=v17∧v36=v36∧True)∧(v69=false→(((!v45)=true→(!v45)=true)∧((!v45)=true→(!v45)=true)∧((!v45)=true→(!v45)=true)∧((!v45)=true→(!v45)=true)∧((!v45)=true→(!v45)=true)∧((!v45)=true→(!v45)=true)∧((!v45)=true→(!v45)=true)∧((!v45)=true→(!v45)=true)∧((!v45)=true→List.length v13≤(17592186044416:Nat))∧((!v45)=true→List.length v9≤(17592186044416:Nat))∧((!v45)=true→v29≤(17592186044416:Nat))∧((!v45)=true→List.length v4≤(17592186044416:Nat))∧((!v45)=true→(!v45)=true)∧((!v45)=true→(!v45)=true)∧(v45=false→(!v45)=true)∧((!v76)=true→(!v76)=true)∧((!v76)=true→(!v76)=true)∧((!v76)=true→(!v76)=true)∧((!v76)=true→(!v76)=true)∧((!v76)=true→List.length v13≤(17592186044416:Nat))∧((!v76)=true→List.length v9≤(17592186044416:Nat))∧((!v76)=true→v29≤(17592186044416:Nat))∧((!v76)=true→List.length v4≤(17592186044416:Nat))∧((!v76)=true→SmallN v56)∧((!v76)=true→(!v76)=true)∧((!v76)=true→(!v76)=true)∧((!v76)=true→(!v76)=true)∧((!v76)=true→(!v76)=true)∧((!v76)=true→(!v76)=true)∧((!v76)=true→(!v76)=true)∧((!v76)=true→SmallC v57)∧((!v76)=true→(!v76)=true)∧(v76=false→(!v76)=true)∧True)∧True∧(v77=true→(SmallN v56∧SmallO v44∧True)∧v0=v22∧v5=v23∧v2.term=v35∧v2.vote=v33∧v10.index=v40∧v10.term=v41∧v20.voters=v42∧v20.learners=v43∧v10.data=v38∧v13=v37∧v6=v27∧v7=v24∧v55=v19∧v9=v26∧v3=v18∧v8=v25∧v4=v15∧[]=v31∧[]=v30∧[]=v28∧[]=v17∧v36=v36∧True)∧(v77=false→(SmallN v56∧SmallO v44∧True)∧True∧(v65=true→(Few (70000:Nat) v59∧True)∧(SmallN v63∧SmallO v64∧True)∧v63.id=v22∧v63.role=v23∧v66.term=v35∧v66.vote=v33∧v67.index=v40∧v67.term=v41∧v68.voters=v42∧v68.learners=v43∧v67.data=v38∧v66.entries=v37∧v63.commit=v27∧v63.lead=v24∧v63.elapsed=v19∧v63.yes=v26∧v63.peers=v18∧v63.round=v25∧v63.reads=v15∧v64.records=v31∧v64.messages=v30∧v64.ready=v28∧v64.lost=v17∧v36=v36∧True)∧(v65=false→(SmallN v60∧SmallO v62∧List.length (v62.messages)≤(900000:Nat)∧List.length (Config.voters (confC v60))≤(4000:Nat)∧True)∧(SmallN v71∧SmallO v72∧True)∧v71.id=v22∧v71.role=v23∧v73.term=v35∧v73.vote=v33∧v74.index=v40∧v74.term=v41∧v75.voters=v42∧v75.learners=v43∧v74.data=v38∧v73.entries=v37∧v71.commit=v27∧v71.lead=v24∧v71.elapsed=v19∧v71.yes=v26∧v71.peers=v18∧v71.round=v25∧v71.reads=v15∧v72.records=v31∧v72.messages=v30∧v72.ready=v28∧v72.lost=v17∧v36=v36∧True))))) (by kernel_rfl) ?_
 simp only [imp_self,implies_true,true_and,and_true,pickB_f,pickB_t,notF]
 refine ⟨⟨hn,hr⟩,fun h=>absurd h (by decide),fun _=>?_⟩
 have k1:=hf.tick1
 obtain ⟨b1,b2,b3,b4,b5⟩:=hn.ls
 have hp:=hf.peers
 refine ⟨fun h=>?_,fun h=>?_⟩
 ·have h:n.role=4∧2≤elap n:=by
   simp only [Bool.and_eq_true,beq_iff_eq,decide_eq_true_eq] at h
   exact h
  have e:tickS n=allS ⟨{n with elapsed:=0},outZ⟩:=by rw [tickS,if_pos h.1,if_pos h.2]
  have k:Few 50000 ⟨{n with elapsed:=0},outZ⟩:=⟨hf.entries,hf.ec,hf.sc,hf.yes,hf.peers,hf.reads,hf.records,hf.messages,hf.ready,hf.lost⟩
  have k2:=k.all
  rw [e]
  refine ⟨⟨k.sn (by decide),by show 0+n.peers.length≤_;have:n.peers.length≤5000:=hp;omega⟩,⟨k2.sn (by decide),k2.so (by decide)⟩,?_⟩
  repeat' apply And.intro
  all_goals rfl
 ·have h0:¬ (n.role=4∧2≤elap n):=by
   simp only [Bool.and_eq_false_iff,beq_eq_false_iff_ne,decide_eq_false_iff_not] at h
   rintro ⟨q1,q2⟩
   exact h.elim (fun h=>h q1) (fun h=>h q2)
  refine ⟨⟨fun _=>b1,fun _=>b2,fun _=>b3,fun _=>b4,fun _=>b1,fun _=>b2,fun _=>b3,fun _=>b4,fun _=>k1.sn (by decide),fun _=>k1.cf.c⟩,fun h=>?_,fun h=>?_⟩
  ·have h:n.role=4∨elap n<patI n∨voterB n=false:=by
    simp only [Bool.or_eq_true,beq_iff_eq,decide_eq_true_eq,Bool.not_eq_true',or_assoc] at h
    exact h
   have e:tickS n=tick1 n:=by
    rw [tickS]
    by_cases hr:n.role=4
    ·rw [if_pos hr,if_neg fun h2=>h0 ⟨hr,h2⟩]
    ·rw [if_neg hr,if_pos (h.resolve_left hr)]
   rw [e]
   refine ⟨⟨k1.sn (by decide),k1.so (by decide)⟩,?_⟩
   repeat' apply And.intro
   all_goals rfl
  ·have h:¬ n.role=4∧¬ (elap n<patI n∨voterB n=false):=by
    simp only [Bool.or_eq_false_iff,beq_eq_false_iff_ne,decide_eq_false_iff_not,Bool.not_eq_false',and_assoc] at h
    refine ⟨h.1,fun h2=>h2.elim h.2.1 fun h3=>?_⟩
    have h4:voterB n=true:=h.2.2
    rw [h3] at h4;cases h4
   have k2:=k1.run 2 (by decide)
   refine ⟨⟨k1.sn (by decide),k1.so (by decide)⟩,fun g=>?_,fun g=>?_⟩
   ·have g:enoughB (runS (tick1 n) 2).n=true:=g
    have e:tickS n=standS (runS (tick1 n) 2):=by rw [tickS,if_neg h.1,if_neg h.2,if_pos g]
    have k3:=k2.stand
    rw [e]
    refine ⟨k2.mono (by decide),⟨k3.sn (by decide),k3.so (by decide)⟩,?_⟩
    repeat' apply And.intro
    all_goals rfl
   ·have g:enoughB (runS (tick1 n) 2).n=false:=g
    have e:tickS n=askS (runS (tick1 n) 2) (probeM n):=by rw [tickS,if_neg h.1,if_neg h.2,if_neg (by rw [g];decide)]
    have k3:=Few.ask (probeM n) k2
    rw [e]
    refine ⟨⟨k2.sn (by decide),k2.so (by decide),Nat.le_trans k2.messages (by decide),k2.cf.1⟩,⟨k3.sn (by decide),k3.so (by decide)⟩,?_⟩
    repeat' apply And.intro
    all_goals rfl
end Go.Proofs.YteabcgkjbnecaaaGreat
