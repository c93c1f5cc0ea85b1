/- Parts of the proof, joined: the symbolic walk and what it is told of each function. Condition: as each theorem says. -/
import Derived.SizedLaws
import Derived.Test.YteabcgkjbnecaaaGreatJx5
set_option linter.unusedVariables false
set_option linter.unusedSimpArgs false
set_option linter.unusedSectionVars false
namespace Go.Proofs.YteabcgkjbnecaaaGreat
open Go.RowKit Go.ChangeShapes Go.WideShapes Go.Deep
set_option maxRecDepth 100000
theorem notF8 (b:Bool):(b=false→(!b)=true)=True:=by cases b<;>simp
theorem pickB_or (a b:Bool):pickB a true b=(a||b):=by cases a<;>rfl
theorem wadd {x:Int} {k:Nat} (b:Nat) (hx:x=(k:Int)) (h:k+b≤1000000000000000):IntKind.i64.wrap (x+(b:Int))=((k+b:Nat):Int):=by
 subst hx
 rw [wrapI ⟨by omega,by omega⟩];omega
def cntE (e:Entry):Nat:=1+e.config.voters.length+e.config.learners.length
def cntL:List Entry→Nat
 | []=>0
 | e::l=>cntE e+cntL l
theorem cntL_app (a b:List Entry):cntL (a++b)=cntL a+cntL b:=by
 induction a with
 | nil=>simp [cntL]
 | cons x a ih=>simp only [List.cons_append,cntL,ih];omega
theorem cntL_take {l:List Entry} {j:Nat} (h:j<l.length):cntL (l.take (j+1))=cntL (l.take j)+cntE (l.getD j default):=by
 rw [take_snoc (d:=(default:Entry)) h,cntL_app];simp [cntL]
theorem cntL_le (l:List Entry) (j:Nat):cntL (l.take j)≤cntL l:=by
 have h:=cntL_app (l.take j) (l.drop j)
 rw [List.take_append_drop] at h;omega
def baseL (n:Node) (m:Message):Nat:=n.yes.length+n.peers.length+n.reads.length+n.kept.entries.length+m.entries.length+n.kept.snap.config.voters.length+n.kept.snap.config.learners.length+m.snap.config.voters.length+m.snap.config.learners.length
def largeN (n:Node) (m:Message):Bool:=decide (3000<baseL n m+cntL n.kept.entries+cntL m.entries)
theorem count_fn18 (e:Entry):FnC Tryz.prog 50 [dEntry.can e] (.int .i64 (cntE e:Nat)) D2:=by
 refine FnC.g1 dEntry e (fnB Tryz.func50 (by decide) rfl) fun he=>?_
 refine FnG.of_vc (fitsT tab_nil fun _=>none) Tryz.func50 rfl (by decide) rfl 300 (p:=fun (V:List PE→Prop)=>True∧True∧IntKind.wrap IntKind.i64 (IntKind.wrap IntKind.i64 ((1:Int)+(↑(List.length (Config.voters (Entry.config e))):Int))+(↑(List.length (Config.learners (Entry.config e))):Int))=(↑(cntE e):Int)∧True) (by kernel_rfl) ?_
 simp only [imp_self,implies_true,true_and,and_true,pickB_f,pickB_t]
 have h1:=he.config_voters.1
 have h2:=he.config_learners.1
 simp only [IntKind.wrap_i64,cntE]
 omega
def eCnt:Ent:=ent1 50 dEntry fun e=>([],.int .i64 (cntE e:Nat),D2)
theorem eCnt_ok:EntOk Tryz.prog eCnt:=ent1_ok (count_fn18 default).1 fun e _=>count_fn18 e
theorem large_fn (n:Node) (m:Message):FnC Tryz.prog 12 [dNode.can n,dMessage.can m] (.bool (largeN n m)) D2:=by
 refine FnC.g2 dNode dMessage n m (fnB Tryz.func12 (by decide) rfl) fun hn hm=>?_
 refine FnG.of_vc (fitsT (tab_cons eCnt_ok tab_nil) fun _=>none) Tryz.func12 rfl (by decide) rfl 300 (p:=fun (V:List PE→Prop)=>True∧True∧True∧True∧V []) (by kernel_rfl) ?_
 simp only [imp_self,implies_true,true_and,and_true,pickB_f,pickB_t]
 have h1:=hn.yes.1;have h2:=hn.peers.1;have h3:=hn.reads.1;have h4:=hn.kept_entries.1;have h5:=hm.entries.1
 have h6:=hn.kept_snap_config_voters.1;have h7:=hn.kept_snap_config_learners.1;have h8:=hm.snap_config_voters.1;have h9:=hm.snap_config_learners.1
 have hc:∀ e:Entry,e∈n.kept.entries∨e∈m.entries→cntE e≤35184372088833:=fun e he=>by
  have:=he.elim (hn.kept_entries.2 e) (hm.entries.2 e)
  have q1:=this.config_voters.1;have q2:=this.config_learners.1
  unfold cntE;omega
 obtain ⟨B,hB⟩:∃ B,baseL n m=B:=⟨_,rfl⟩
 have hB2:B≤200000000000000:=by rw [← hB];unfold baseL;omega
 refine LoopG.head (fitsT (tab_cons eCnt_ok tab_nil) fun _=>none) 0 (A:=Nat) (fun j=>j≤n.kept.entries.length∧(0<j→B+cntL (n.kept.entries.take (j - 1))≤3000)) (fun j=>[(7,.int .i64 j),(6,.int .i64 ((B+cntL (n.kept.entries.take j):Nat):Int))]) (fun _=>[]) (fun j=>n.kept.entries.length - j) 0 ⟨Nat.zero_le _,fun h=>absurd h (by omega)⟩ (p0:=let v0:=Message.entries m;let v1:=Message.snap m;let v2:=Message.logTerm m;let v3:=Node.kept n;let v4:=v3.term;let v5:=v1.data;let v6:=v1.term;let v7:=v1.index;let v8:=v3.vote;let v9:=v3.entries;let v10:=v1.config;let v11:=v3.snap;let v12:=v11.config;let v13:=v10.learners;let v14:=v11.data;let v15:=v11.index;let v16:=v10.voters;let v17:=v11.term;let v18:=v12.learners;let v19:=v12.voters;(0:Int)=(↑(0:Nat):Int)∧IntKind.wrap IntKind.i64 (IntKind.wrap IntKind.i64 (IntKind.wrap IntKind.i64 (IntKind.wrap IntKind.i64 (IntKind.wrap IntKind.i64 (IntKind.wrap IntKind.i64 (IntKind.wrap IntKind.i64 (IntKind.wrap IntKind.i64 ((↑(List.length (Node.yes n)):Int)+(↑(List.length (Node.peers n)):Int))+(↑(List.length (Node.reads n)):Int))+(↑(List.length v9):Int))+(↑(List.length v0):Int))+(↑(List.length v19):Int))+(↑(List.length v18):Int))+(↑(List.length v16):Int))+(↑(List.length v13):Int))=(↑(B+cntL (List.take (0:Nat) v9)):Int)∧false=false∧v4=v4∧v8=v8∧v15=v15∧v17=v17∧v19=v19∧v18=v18∧v14=v14∧v9=v9∧Message.kind m=Message.kind m∧Message.from_ m=Message.from_ m∧Message.to_ m=Message.to_ m∧Message.term m=Message.term m∧Message.index m=Message.index m∧v2=v2∧v0=v0∧Message.commit m=Message.commit m∧Message.round m=Message.round m∧Message.ok m=Message.ok m∧v7=v7∧v6=v6∧v16=v16∧v13=v13∧v5=v5∧Message.ask m=Message.ask m∧Message.seq m=Message.seq m∧Message.data m=Message.data m∧True) (by kernel_rfl) ?_ 300 (p:=fun (x:Nat) (V:List PE→Prop)=>let v0:=Kept.entries (Node.kept n);let v1:=(↑x:Int);let v2:=(↑(List.length v0):Int);let v3:=(↑(B+cntL (List.take x v0)):Int);let v4:=decide (v1<v2);let v5:=pickB v4 (decide (v3≤(3000:Int))) false;((v4=true→v4=true)∧(v4=true→v4=true)∧True)∧True∧(v5=true→((0:Int)≤v1∧v1<v2∧True)∧True∧V [PE.a])∧(v5=false→True∧V [PE.b])) (by intro x;kernel_rfl) ?_
 ·refine ⟨rfl,?_,?_⟩
  ·have e:=wadd m.snap.config.learners.length (wadd m.snap.config.voters.length (wadd n.kept.snap.config.learners.length (wadd n.kept.snap.config.voters.length (wadd m.entries.length (wadd n.kept.entries.length (wadd n.reads.length (wadd n.peers.length (k:=n.yes.length) rfl (by omega)) (by omega)) (by omega)) (by omega)) (by omega)) (by omega)) (by omega)) (by omega)
   rw [e,← hB]
   rfl
  ·repeat' apply And.intro
   all_goals first | trivial | rfl
 rintro j ⟨hj,h0⟩
 have hb0:B+cntL (n.kept.entries.take j)≤300000000000000:=by
  by_cases hp:0<j
  ·have h:=cntL_take (l:=n.kept.entries) (j:=j - 1) (by omega)
   rw [show j - 1+1=j by omega] at h
   have:=hc _ (.inl (getD_mem (d:=default) (show j - 1<n.kept.entries.length by omega)))
   have:=h0 hp
   omega
  ·obtain rfl:j=0:=by omega
   simp only [List.take_zero,cntL];omega
 have ep:pickB (decide ((j:Int)<(n.kept.entries.length:Int))) (decide (((B+cntL (n.kept.entries.take j):Nat):Int)≤3000)) false=decide (j<n.kept.entries.length∧B+cntL (n.kept.entries.take j)≤3000):=by
  by_cases g1:j<n.kept.entries.length<;>by_cases g2:B+cntL (n.kept.entries.take j)≤3000<;>simp [pickB,g1,g2]<;>omega
 simp only [imp_self,implies_true,true_and,and_true,ep,decide_eq_true_eq,decide_eq_false_iff_not]
 refine ⟨fun h6=>⟨by omega,?_⟩,fun h6=>?_⟩
 ·have hcl:=hc _ (.inl (getD_mem (d:=default) h6.1))
  refine Back.mk (j+1) ⟨by omega,fun _=>by rw [Nat.add_sub_cancel];exact h6.2⟩ (by omega) (p0:=let v0:=Message.entries m;let v1:=Message.snap m;let v2:=Message.logTerm m;let v3:=Node.kept n;let v4:=v3.term;let v5:=v1.data;let v6:=v1.term;let v7:=v1.index;let v8:=v3.vote;let v9:=v3.entries;let v10:=v1.config;let v11:=v3.snap;let v12:=v11.config;let v13:=v10.learners;let v14:=v11.data;let v15:=v11.index;let v16:=v10.voters;let v17:=v11.term;let v18:=v12.learners;let v19:=v12.voters;IntKind.wrap IntKind.i64 ((↑j:Int)+(1:Int))=(↑(j+(1:Nat)):Int)∧IntKind.wrap IntKind.i64 ((↑(B+cntL (List.take j v9)):Int)+(↑(cntE (List.getD v9 j default)):Int))=(↑(B+cntL (List.take (j+(1:Nat)) v9)):Int)∧false=false∧v4=v4∧v8=v8∧v15=v15∧v17=v17∧v19=v19∧v18=v18∧v14=v14∧v9=v9∧Message.kind m=Message.kind m∧Message.from_ m=Message.from_ m∧Message.to_ m=Message.to_ m∧Message.term m=Message.term m∧Message.index m=Message.index m∧v2=v2∧v0=v0∧Message.commit m=Message.commit m∧Message.round m=Message.round m∧Message.ok m=Message.ok m∧v7=v7∧v6=v6∧v16=v16∧v13=v13∧v5=v5∧Message.ask m=Message.ask m∧Message.seq m=Message.seq m∧Message.data m=Message.data m∧True) (by kernel_rfl) ?_
  have e1:=wadd (x:=(j:Int)) 1 rfl (by omega)
  have e2:=wadd (x:=((B+cntL (n.kept.entries.take j):Nat):Int)) (cntE (n.kept.entries.getD j default)) rfl (by omega)
  have e3:=cntL_take h6.1
  refine ⟨e1,e2.trans (by rw [e3,Nat.add_assoc]),?_⟩
  repeat' apply And.intro
  all_goals first | trivial | rfl
 obtain ⟨C,hC⟩:∃ C,B+cntL (n.kept.entries.take j)=C:=⟨_,rfl⟩
 rw [hC] at h6 hb0
 refine LoopG.head (fitsT (tab_cons eCnt_ok tab_nil) fun _=>none) 1 (A:=Nat) (fun i=>i≤m.entries.length∧(0<i→C+cntL (m.entries.take (i - 1))≤3000)) (fun i=>[(8,.int .i64 i),(6,.int .i64 ((C+cntL (m.entries.take i):Nat):Int))]) (fun _=>[]) (fun i=>m.entries.length - i) 0 ⟨Nat.zero_le _,fun h=>absurd h (by omega)⟩ (p0:=let v0:=Message.snap m;let v1:=Message.logTerm m;let v2:=Message.entries m;let v3:=v0.index;let v4:=v0.data;let v5:=v0.config;let v6:=v0.term;let v7:=v5.learners;let v8:=v5.voters;(0:Int)=(↑(0:Nat):Int)∧(↑(B+cntL (List.take j (Kept.entries (Node.kept n)))):Int)=(↑(C+cntL (List.take (0:Nat) v2)):Int)∧false=false∧Message.kind m=Message.kind m∧Message.from_ m=Message.from_ m∧Message.to_ m=Message.to_ m∧Message.term m=Message.term m∧Message.index m=Message.index m∧v1=v1∧v2=v2∧Message.commit m=Message.commit m∧Message.round m=Message.round m∧Message.ok m=Message.ok m∧v3=v3∧v6=v6∧v8=v8∧v7=v7∧v4=v4∧Message.ask m=Message.ask m∧Message.seq m=Message.seq m∧Message.data m=Message.data m∧True) (by kernel_rfl) ?_ 300 (p:=fun (x:Nat) (V:List PE→Prop)=>let v0:=Message.entries m;let v1:=(↑x:Int);let v2:=(3000:Int);let v3:=(↑(List.length v0):Int);let v4:=(↑(C+cntL (List.take x v0)):Int);let v5:=decide (v1<v3);let v6:=pickB v5 (decide (v4≤v2)) false;((v5=true→v5=true)∧(v5=true→v5=true)∧True)∧True∧(v6=true→((0:Int)≤v1∧v1<v3∧True)∧True∧V [PE.a])∧(v6=false→True∧decide (v4>v2)=largeN n m∧True)) (by intro x;kernel_rfl) ?_
 ·rw [hC]
  simp only [List.take_zero,cntL,Nat.add_zero,true_and,and_true]
  first | done | (repeat' apply And.intro)<;>rfl
 rintro i ⟨hi,h1⟩
 have hb1:C+cntL (m.entries.take i)≤400000000000000:=by
  by_cases hp:0<i
  ·have h:=cntL_take (l:=m.entries) (j:=i - 1) (by omega)
   rw [show i - 1+1=i by omega] at h
   have:=hc _ (.inr (getD_mem (d:=default) (show i - 1<m.entries.length by omega)))
   have:=h1 hp
   omega
  ·obtain rfl:i=0:=by omega
   simp only [List.take_zero,cntL];omega
 have ep2:pickB (decide ((i:Int)<(m.entries.length:Int))) (decide (((C+cntL (m.entries.take i):Nat):Int)≤3000)) false=decide (i<m.entries.length∧C+cntL (m.entries.take i)≤3000):=by
  by_cases g1:i<m.entries.length<;>by_cases g2:C+cntL (m.entries.take i)≤3000<;>simp [pickB,g1,g2]<;>omega
 simp only [imp_self,implies_true,true_and,and_true,ep2,decide_eq_true_eq,decide_eq_false_iff_not]
 refine ⟨fun h7=>⟨by omega,?_⟩,fun h7=>?_⟩
 ·have hcl:=hc _ (.inr (getD_mem (d:=default) h7.1))
  refine Back.mk (i+1) ⟨by omega,fun _=>by rw [Nat.add_sub_cancel];exact h7.2⟩ (by omega) (p0:=let v0:=Message.snap m;let v1:=Message.logTerm m;let v2:=Message.entries m;let v3:=v0.index;let v4:=v0.data;let v5:=v0.config;let v6:=v0.term;let v7:=v5.learners;let v8:=v5.voters;IntKind.wrap IntKind.i64 ((↑i:Int)+(1:Int))=(↑(i+(1:Nat)):Int)∧IntKind.wrap IntKind.i64 ((↑(C+cntL (List.take i v2)):Int)+(↑(cntE (List.getD v2 i default)):Int))=(↑(C+cntL (List.take (i+(1:Nat)) v2)):Int)∧false=false∧Message.kind m=Message.kind m∧Message.from_ m=Message.from_ m∧Message.to_ m=Message.to_ m∧Message.term m=Message.term m∧Message.index m=Message.index m∧v1=v1∧v2=v2∧Message.commit m=Message.commit m∧Message.round m=Message.round m∧Message.ok m=Message.ok m∧v3=v3∧v6=v6∧v8=v8∧v7=v7∧v4=v4∧Message.ask m=Message.ask m∧Message.seq m=Message.seq m∧Message.data m=Message.data m∧True) (by kernel_rfl) ?_
  have e1:=wadd (x:=(i:Int)) 1 rfl (by omega)
  have e2:=wadd (x:=((C+cntL (m.entries.take i):Nat):Int)) (cntE (m.entries.getD i default)) rfl (by omega)
  have e3:=cntL_take h7.1
  refine ⟨e1,e2.trans (by rw [e3,Nat.add_assoc]),?_⟩
  repeat' apply And.intro
  all_goals first | trivial | rfl
 ·have z1:=cntL_le n.kept.entries j
  have z2:=cntL_le m.entries i
  have z3:¬ j<n.kept.entries.length→cntL (n.kept.entries.take j)=cntL n.kept.entries:=fun h=>by rw [List.take_of_length_le (by omega)]
  have z4:¬ i<m.entries.length→cntL (m.entries.take i)=cntL m.entries:=fun h=>by rw [List.take_of_length_le (by omega)]
  have z5:i=0→cntL (m.entries.take i)=0:=fun h=>by rw [h];rfl
  rw [largeN,hB]
  rw [Bool.eq_iff_iff]
  simp only [decide_eq_true_eq]
  omega
theorem KInts_fn (a b:List Int):FnC Tryz.prog 54 [dInts.can a,dInts.can b] (.bool (decide (a=b))) D2:=by
 refine FnC.g2 dInts dInts a b (fnB Tryz.func54 (by decide) rfl) fun ha hb=>?_
 refine FnG.of_vc (fitsT tab_nil fun _=>none) Tryz.func54 rfl (by decide) rfl 300 (p:=fun (V:List PE→Prop)=>let v0:=(↑(List.length a):Int) != (↑(List.length b):Int);True∧True∧True∧(v0=true→True∧false=decide (a=b)∧True)∧(v0=false→True∧V [PE.b])) (by kernel_rfl) ?_
 simp only [true_and,and_true,imp_self]
 refine ⟨fun h=>?_,fun h=>?_⟩
 ·have:a≠b:=fun e=>by subst e;simp at h
  simp [this]
 have hab:a.length=b.length:=by simp at h;omega
 refine LoopG.head (fitsT tab_nil fun _=>none) 0 (A:=Nat) (fun j=>j≤a.length∧∀ i,i<j→a.getD i 0=b.getD i 0) (fun j=>[(5,.int .i64 j)]) (fun j=>[]) (fun j=>a.length - j) 0 ⟨Nat.zero_le _,fun i h=>absurd h (by omega)⟩ (p0:=(0:Int)=(↑(0:Nat):Int)∧a=a∧b=b∧True) (by kernel_rfl) ?_ 300 (p:=fun (x:Nat) (V:List PE→Prop)=>let v0:=(↑x:Int);let v1:=(↑(List.length a):Int);let v2:=List.getD a x (0:Int) != List.getD b x (0:Int);let v3:=decide (v0<v1);True∧True∧(v3=true→((0:Int)≤v0∧v0<v1∧(0:Int)≤v0∧v0<(↑(List.length b):Int)∧True)∧True∧(v2=true→True∧false=decide (a=b)∧True)∧(v2=false→True∧V [PE.a,PE.b]))∧(v3=false→True∧true=decide (a=b)∧True)) (by intro x;kernel_rfl) ?_
 ·simp
 ·rintro j ⟨hj,h0⟩
  have hkl:=ha.1
  simp only [imp_self,implies_true,true_and,and_true,decide_eq_true_eq,decide_eq_false_iff_not]
  refine ⟨fun h6=>⟨by omega,fun h7=>?_,fun h7=>?_⟩,fun h6=>?_⟩
  ·have:a≠b:=fun e=>by subst e;simp at h7
   simp [this]
  ·refine Back.mk (j+1) ⟨by omega,fun i hi=>?_⟩ (by omega) (p0:=IntKind.wrap IntKind.i64 ((↑j:Int)+(1:Int))=(↑(j+(1:Nat)):Int)∧a=a∧b=b∧True) (by kernel_rfl) ?_
   ·by_cases hij:i=j
    ·subst hij;simpa using h7
    ·exact h0 i (by omega)
   ·simp [wrapN (i:=j) (by omega)]
  ·have:a=b:=ext_getD hab fun i hi=>h0 i (by omega)
   simp [this]
def eKInts:Ent:=ent2 54 dInts dInts fun a b=>([],.bool (decide (a=b)),D2)
theorem eKInts_ok:EntOk Tryz.prog eKInts:=ent2_ok (KInts_fn [] []).1 fun a b _=>KInts_fn a b
theorem Message.eq_iff {a b:Message}:a=b↔a.kind=b.kind∧a.from_=b.from_∧a.to_=b.to_∧a.term=b.term∧a.index=b.index∧a.logTerm=b.logTerm∧a.entries=b.entries∧a.commit=b.commit∧a.round=b.round∧a.ok=b.ok∧a.snap=b.snap∧a.ask=b.ask∧a.seq=b.seq∧a.data=b.data:=by cases a;cases b;simp
def eRRows:Ent:=ent2 97 dEntrys dEntrys fun a b=>([],.bool (decide (a=b)),D2)
theorem eRRows_ok:EntOk Tryz.prog eRRows:=ent2_ok (rrows_fn [] []).1 fun a b _=>rrows_fn a b
def eRRecords:Ent:=ent2 147 dRecords dRecords fun a b=>([],.bool (decide (a=b)),D2)
theorem eRRecords_ok:EntOk Tryz.prog eRRecords:=ent2_ok (rrecords_fn [] []).1 fun a b _=>rrecords_fn a b
def eRSame:Ent:=ent2 23 dKept dKept fun a b=>([],.bool (decide (a=b)),D2)
theorem eRSame_ok:EntOk Tryz.prog eRSame:=ent2_ok (rsame_fn default default).1 fun a b _=>rsame_fn a b
theorem KMsg_fn (a b:Message):FnC Tryz.prog 32 [dMessage.can a,dMessage.can b] (.bool (decide (a=b))) D2:=by
 refine FnC.g2 dMessage dMessage a b (fnB Tryz.func32 (by decide) rfl) fun ha hb=>?_
 refine FnG.of_vc (fitsT (tab_cons eRRows_ok (tab_cons eRSnaps_ok tab_nil)) fun _=>none) Tryz.func32 rfl (by decide) rfl 300 (p:=fun (V:List PE→Prop)=>let v0:=Message.entries b;let v1:=Message.entries a;let v2:=Message.kind a != Message.kind b;let v3:=decide (v1=v0);let v4:=pickB v2 true (Message.from_ a != Message.from_ b);let v5:=pickB v4 true (Message.to_ a != Message.to_ b);let v6:=pickB v5 true (Message.term a != Message.term b);let v7:=pickB v6 true (Message.index a != Message.index b);let v8:=pickB v7 true (Message.logTerm a != Message.logTerm b);let v9:=pickB v8 true (Message.commit a != Message.commit b);let v10:=pickB v9 true (Message.round a != Message.round b);let v11:=pickB v10 true !Message.ok a==Message.ok b;let v12:=pickB v11 true (Message.ask a != Message.ask b);let v13:=pickB v12 true (Message.seq a != Message.seq b);let v14:=pickB v13 true !ByteArray.toList (Message.data a)==ByteArray.toList (Message.data b);True∧(((!v2)=true→(!v2)=true)∧((!v2)=true→(!v2)=true)∧((!v2)=true→(!v2)=true)∧((!v2)=true→(!v2)=true)∧(v2=false→(!v2)=true)∧((!v4)=true→(!v4)=true)∧((!v4)=true→(!v4)=true)∧((!v4)=true→(!v4)=true)∧((!v4)=true→(!v4)=true)∧(v4=false→(!v4)=true)∧((!v5)=true→(!v5)=true)∧((!v5)=true→(!v5)=true)∧((!v5)=true→(!v5)=true)∧((!v5)=true→(!v5)=true)∧(v5=false→(!v5)=true)∧((!v6)=true→(!v6)=true)∧((!v6)=true→(!v6)=true)∧((!v6)=true→(!v6)=true)∧((!v6)=true→(!v6)=true)∧(v6=false→(!v6)=true)∧((!v7)=true→(!v7)=true)∧((!v7)=true→(!v7)=true)∧((!v7)=true→(!v7)=true)∧((!v7)=true→(!v7)=true)∧(v7=false→(!v7)=true)∧((!v8)=true→(!v8)=true)∧((!v8)=true→(!v8)=true)∧((!v8)=true→(!v8)=true)∧((!v8)=true→(!v8)=true)∧(v8=false→(!v8)=true)∧((!v9)=true→(!v9)=true)∧((!v9)=true→(!v9)=true)∧((!v9)=true→(!v9)=true)∧((!v9)=true→(!v9)=true)∧(v9=false→(!v9)=true)∧((!v10)=true→(!v10)=true)∧((!v10)=true→(!v10)=true)∧((!v10)=true→(!v10)=true)∧((!v10)=true→(!v10)=true)∧(v10=false→(!v10)=true)∧((!v11)=true→(!v11)=true)∧((!v11)=true→(!v11)=true)∧((!v11)=true→(!v11)=true)∧((!v11)=true→(!v11)=true)∧(v11=false→(!v11)=true)∧((!v12)=true→(!v12)=true)∧((!v12)=true→(!v12)=true)∧((!v12)=true→(!v12)=true)∧((!v12)=true→(!v12)=true)∧(v12=false→(!v12)=true)∧((!v13)=true→(!v13)=true)∧((!v13)=true→(!v13)=true)∧((!v13)=true→(!v13)=true)∧((!v13)=true→(!v13)=true)∧(v13=false→(!v13)=true)∧True)∧True∧(v14=true→True∧false=decide (a=b)∧True)∧(v14=false→((v3=true→v3=true)∧(v3=true→v3=true)∧(v3=true→v3=true)∧(v3=true→v3=true)∧(v3=true→v3=true)∧True)∧pickB v3 (decide (Message.snap a=Message.snap b)) false=decide (a=b)∧True)) (by kernel_rfl) ?_
 simp only [imp_self,implies_true,true_and,and_true,pickB_f,pickB_t,bytes_eq,notF8,pickB_or]
 refine ⟨fun h=>?_,fun h=>?_⟩
 ·have:a≠b:=fun e=>by subst e;simp at h
  simp [this]
 ·simp only [Bool.or_eq_false_iff,bne_eq_false_iff_eq,Bool.not_eq_false',decide_eq_true_eq] at h
  have h9:a.ok=b.ok:=by have:=h.1.1.1.2;simpa using this
  rw [Bool.eq_iff_iff]
  simp [Message.eq_iff,h,h9,and_assoc,and_comm,and_left_comm]
def eKMsg:Ent:=ent2 32 dMessage dMessage fun a b=>([],.bool (decide (a=b)),D2)
theorem eKMsg_ok:EntOk Tryz.prog eKMsg:=ent2_ok (KMsg_fn default default).1 fun a b _=>KMsg_fn a b
theorem LMsgs_fn (a b:List Message):FnC Tryz.prog 148 [dMessages.can a,dMessages.can b] (.bool (decide (a=b))) D2:=by
 refine FnC.g2 dMessages dMessages a b (fnB Tryz.func148 (by decide) rfl) fun ha hb=>?_
 refine FnG.of_vc (fitsT (tab_cons eKMsg_ok tab_nil) fun _=>none) Tryz.func148 rfl (by decide) rfl 300 (p:=fun (V:List PE→Prop)=>let v0:=(↑(List.length a):Int) != (↑(List.length b):Int);True∧True∧True∧(v0=true→True∧false=decide (a=b)∧True)∧(v0=false→True∧V [PE.b])) (by kernel_rfl) ?_
 simp only [true_and,and_true,imp_self]
 refine ⟨fun h=>?_,fun h=>?_⟩
 ·have:a≠b:=fun e=>by subst e;simp at h
  simp [this]
 have hab:a.length=b.length:=by simp at h;omega
 refine LoopG.head (fitsT (tab_cons eKMsg_ok tab_nil) fun _=>none) 0 (A:=Nat) (fun j=>j≤a.length∧∀ i,i<j→a.getD i default=b.getD i default) (fun j=>[(5,.int .i64 j)]) (fun j=>[]) (fun j=>a.length - j) 0 ⟨Nat.zero_le _,fun i h=>absurd h (by omega)⟩ (p0:=(0:Int)=(↑(0:Nat):Int)∧a=a∧b=b∧True) (by kernel_rfl) ?_ 300 (p:=fun (x:Nat) (V:List PE→Prop)=>let v0:=(↑x:Int);let v1:=(↑(List.length a):Int);let v2:=List.getD b x default;let v3:=List.getD a x default;let v4:=decide (v0<v1);let v5:=!decide (v3=v2);True∧True∧(v4=true→((0:Int)≤v0∧v0<v1∧(0:Int)≤v0∧v0<(↑(List.length b):Int)∧True)∧True∧(v5=true→True∧false=decide (a=b)∧True)∧(v5=false→True∧V [PE.a,PE.b]))∧(v4=false→True∧true=decide (a=b)∧True)) (by intro x;kernel_rfl) ?_
 ·simp
 ·rintro j ⟨hj,h0⟩
  have hkl:=ha.1
  simp only [imp_self,implies_true,true_and,and_true,decide_eq_true_eq,decide_eq_false_iff_not]
  refine ⟨fun h6=>⟨by omega,fun h7=>?_,fun h7=>?_⟩,fun h6=>?_⟩
  ·have:a≠b:=fun e=>by subst e;simp at h7
   simp [this]
  ·refine Back.mk (j+1) ⟨by omega,fun i hi=>?_⟩ (by omega) (p0:=IntKind.wrap IntKind.i64 ((↑j:Int)+(1:Int))=(↑(j+(1:Nat)):Int)∧a=a∧b=b∧True) (by kernel_rfl) ?_
   ·by_cases hij:i=j
    ·subst hij;simpa using h7
    ·exact h0 i (by omega)
   ·simp [wrapN (i:=j) (by omega)]
  ·have:a=b:=ext_getD hab fun i hi=>h0 i (by omega)
   simp [this]
def eLMsgs:Ent:=ent2 148 dMessages dMessages fun a b=>([],.bool (decide (a=b)),D2)
theorem eLMsgs_ok:EntOk Tryz.prog eLMsgs:=ent2_ok (LMsgs_fn [] []).1 fun a b _=>LMsgs_fn a b
theorem eqRd (p q:Read):eqI [.int .i64 p.token,.int .i64 p.index,.int .i64 p.round] [.int .i64 q.token,.int .i64 q.index,.int .i64 q.round]=decide (p=q):=by
 obtain ⟨a1,a2,a3⟩:=p
 obtain ⟨b1,b2,b3⟩:=q
 simp only [eqI,Read.mk.injEq]
 by_cases h1:a1=b1<;>by_cases h2:a2=b2<;>by_cases h3:a3=b3<;>simp [h1,h2,h3]
theorem eqPr (p q:Peer):eqI [.int .i64 p.node,.int .i64 p.next,.int .i64 p.match_,.int .i64 p.round] [.int .i64 q.node,.int .i64 q.next,.int .i64 q.match_,.int .i64 q.round]=decide (p=q):=by
 obtain ⟨a1,a2,a3,a4⟩:=p
 obtain ⟨b1,b2,b3,b4⟩:=q
 simp only [eqI,Peer.mk.injEq]
 by_cases h1:a1=b1<;>by_cases h2:a2=b2<;>by_cases h3:a3=b3<;>by_cases h4:a4=b4<;>simp [h1,h2,h3,h4]
theorem Out.eq_iff {a b:Out}:a=b↔a.records=b.records∧a.messages=b.messages∧a.ready=b.ready∧a.lost=b.lost:=by cases a;cases b;simp
def tabDa:List Ent:=[eKInts,eRRecords,eLMsgs]
theorem tabDa_ok:∀ e∈tabDa,EntOk Tryz.prog e:=tab_cons eKInts_ok (tab_cons eRRecords_ok (tab_cons eLMsgs_ok tab_nil))
theorem LOuts_fn (a b:Out):FnC Tryz.prog 85 [dOut.can a,dOut.can b] (.bool (decide (a=b))) D2:=by
 refine FnC.g2 dOut dOut a b (fnB Tryz.func85 (by decide) rfl) fun ha hb=>?_
 refine FnG.of_vc (fitsT tabDa_ok fun _=>none) Tryz.func85 rfl (by decide) rfl 300 (p:=fun (V:List PE→Prop)=>let v0:=(↑(List.length (Out.ready a)):Int) != (↑(List.length (Out.ready b)):Int);let v1:=pickB v0 true !decide (Out.lost a=Out.lost b);let v2:=pickB v1 true !decide (Out.records a=Out.records b);let v3:=pickB v2 true !decide (Out.messages a=Out.messages b);True∧(((!v0)=true→(!v0)=true)∧((!v0)=true→(!v0)=true)∧((!v0)=true→(!v0)=true)∧((!v0)=true→(!v0)=true)∧((!v0)=true→(!v0)=true)∧(v0=false→(!v0)=true)∧((!v1)=true→(!v1)=true)∧((!v1)=true→(!v1)=true)∧((!v1)=true→(!v1)=true)∧((!v1)=true→(!v1)=true)∧((!v1)=true→(!v1)=true)∧(v1=false→(!v1)=true)∧((!v2)=true→(!v2)=true)∧((!v2)=true→(!v2)=true)∧((!v2)=true→(!v2)=true)∧((!v2)=true→(!v2)=true)∧((!v2)=true→(!v2)=true)∧(v2=false→(!v2)=true)∧True)∧True∧(v3=true→True∧false=decide (a=b)∧True)∧(v3=false→True∧V [PE.b])) (by kernel_rfl) ?_
 simp only [true_and,and_true,imp_self,implies_true,notF8,pickB_or]
 refine ⟨fun h=>?_,fun h=>?_⟩
 ·have:a≠b:=fun e=>by subst e;simp at h
  simp [this]
 simp only [Bool.or_eq_false_iff,bne_eq_false_iff_eq,Bool.not_eq_false',decide_eq_true_eq] at h
 obtain ⟨⟨⟨e1,e2⟩,e3⟩,e4⟩:=h
 have hab:a.ready.length=b.ready.length:=by omega
 refine LoopG.head (fitsT tabDa_ok fun _=>none) 0 (A:=Nat) (fun j=>j≤a.ready.length∧∀ i,i<j→a.ready.getD i default=b.ready.getD i default) (fun j=>[(5,.int .i64 j)]) (fun j=>[]) (fun j=>a.ready.length - j) 0 ⟨Nat.zero_le _,fun i h=>absurd h (by omega)⟩ (p0:=(0:Int)=(↑(0:Nat):Int)∧Out.records b=Out.records b∧Out.messages b=Out.messages b∧Out.ready b=Out.ready b∧Out.lost b=Out.lost b∧Out.records a=Out.records a∧Out.messages a=Out.messages a∧Out.ready a=Out.ready a∧Out.lost a=Out.lost a∧True) (by kernel_rfl) ?_ 300 (p:=fun (x:Nat) (V:List PE→Prop)=>let v0:=Tables.types (Program.toTables Tryz.prog);let v1:=(↑x:Int);let v2:=(↑(List.length (Out.ready a)):Int);let v3:=decide (v1<v2);let v4:=TypeInfo.size v0[(96:Nat)];let v5:=!eqI (List.take v4 (List.drop (0:Nat) (RL.elem [(0:Nat)] (RL.rRead (Out.ready a)) x))) (List.take v4 (List.drop (0:Nat) (RL.elem [(0:Nat)] (RL.rRead (Out.ready b)) x)));True∧True∧(v3=true→((0:Int)≤v1∧v1<v2∧(0:Int)≤v1∧v1<(↑(List.length (Out.ready b)):Int)∧True)∧True∧(v5=true→True∧false=decide (a=b)∧True)∧(v5=false→True∧V [PE.a,PE.b]))∧(v3=false→True∧true=decide (a=b)∧True)) (by intro x;kernel_rfl) ?_
 ·simp
 rintro j ⟨hj,h0⟩
 have hkl:=ha.ready.1
 simp only [imp_self,implies_true,true_and,and_true,decide_eq_true_eq,decide_eq_false_iff_not]
 have hsz:TypeInfo.size ((Tables.types (Program.toTables Tryz.prog))[96]'(Nat.le_of_ble_eq_true (by kernel_rfl)))=3:=by kernel_rfl
 have eq:eqI (List.take 3 (List.drop 0 (RL.elem [0] (RL.rRead a.ready) j))) (List.take 3 (List.drop 0 (RL.elem [0] (RL.rRead b.ready) j)))=decide (a.ready.getD j default=b.ready.getD j default):=eqRd _ _
 rw [hsz,eq]
 simp only [imp_self,implies_true,true_and,and_true,Bool.not_eq_true',Bool.not_eq_false',decide_eq_true_eq,decide_eq_false_iff_not]
 refine ⟨fun h6=>⟨by omega,fun h7=>?_,fun h7=>?_⟩,fun h6=>?_⟩
 ·have:a≠b:=fun e=>by subst e;simp at h7
  simp [this]
 ·refine Back.mk (j+1) ⟨by omega,fun i hi=>?_⟩ (by omega) (p0:=IntKind.wrap IntKind.i64 ((↑j:Int)+(1:Int))=(↑(j+(1:Nat)):Int)∧Out.records b=Out.records b∧Out.messages b=Out.messages b∧Out.ready b=Out.ready b∧Out.lost b=Out.lost b∧Out.records a=Out.records a∧Out.messages a=Out.messages a∧Out.ready a=Out.ready a∧Out.lost a=Out.lost a∧True) (by kernel_rfl) ?_
  ·by_cases hij:i=j
   ·subst hij;simpa using h7
   ·exact h0 i (by omega)
  ·simp [wrapN (i:=j) (by omega)]
 ·have:a=b:=Out.eq_iff.2 ⟨e3,e4,ext_getD hab fun i hi=>h0 i (by omega),e2⟩
  simp [this]
def eLOuts:Ent:=ent2 85 dOut dOut fun a b=>([],.bool (decide (a=b)),D2)
theorem eLOuts_ok:EntOk Tryz.prog eLOuts:=ent2_ok (LOuts_fn default default).1 fun a b _=>LOuts_fn a b
theorem Node.eq_iff {a b:Node}:a=b↔a.id=b.id∧a.role=b.role∧a.kept=b.kept∧a.commit=b.commit∧a.lead=b.lead∧a.elapsed=b.elapsed∧a.yes=b.yes∧a.peers=b.peers∧a.round=b.round∧a.reads=b.reads:=by cases a;cases b;simp
def tabDb:List Ent:=[eKInts,eRSame]
theorem tabDb_ok:∀ e∈tabDb,EntOk Tryz.prog e:=tab_cons eKInts_ok (tab_cons eRSame_ok tab_nil)
theorem KNodes_fn (a b:Node):FnC Tryz.prog 16 [dNode.can a,dNode.can b] (.bool (decide (a=b))) D2:=by
 refine FnC.g2 dNode dNode a b (fnB Tryz.func16 (by decide) rfl) fun ha hb=>?_
 refine FnG.of_vc (fitsT tabDb_ok fun _=>none) Tryz.func16 rfl (by decide) rfl 300 (p:=fun (V:List PE→Prop)=>let v0:=Node.id a != Node.id b;let v1:=pickB v0 true (Node.role a != Node.role b);let v2:=pickB v1 true (Node.commit a != Node.commit b);let v3:=pickB v2 true (Node.lead a != Node.lead b);let v4:=pickB v3 true (Node.elapsed a != Node.elapsed b);let v5:=pickB v4 true (Node.round a != Node.round b);let v6:=pickB v5 true !decide (Node.yes a=Node.yes b);let v7:=pickB v6 true ((↑(List.length (Node.peers a)):Int) != (↑(List.length (Node.peers b)):Int));let v8:=pickB v7 true ((↑(List.length (Node.reads a)):Int) != (↑(List.length (Node.reads b)):Int));let v9:=pickB v8 true !decide (Node.kept a=Node.kept b);True∧(((!v0)=true→(!v0)=true)∧((!v0)=true→(!v0)=true)∧((!v0)=true→(!v0)=true)∧((!v0)=true→(!v0)=true)∧(v0=false→(!v0)=true)∧((!v1)=true→(!v1)=true)∧((!v1)=true→(!v1)=true)∧((!v1)=true→(!v1)=true)∧((!v1)=true→(!v1)=true)∧(v1=false→(!v1)=true)∧((!v2)=true→(!v2)=true)∧((!v2)=true→(!v2)=true)∧((!v2)=true→(!v2)=true)∧((!v2)=true→(!v2)=true)∧(v2=false→(!v2)=true)∧((!v3)=true→(!v3)=true)∧((!v3)=true→(!v3)=true)∧((!v3)=true→(!v3)=true)∧((!v3)=true→(!v3)=true)∧(v3=false→(!v3)=true)∧((!v4)=true→(!v4)=true)∧((!v4)=true→(!v4)=true)∧((!v4)=true→(!v4)=true)∧((!v4)=true→(!v4)=true)∧(v4=false→(!v4)=true)∧((!v5)=true→(!v5)=true)∧((!v5)=true→(!v5)=true)∧((!v5)=true→(!v5)=true)∧((!v5)=true→(!v5)=true)∧((!v5)=true→(!v5)=true)∧(v5=false→(!v5)=true)∧((!v6)=true→(!v6)=true)∧((!v6)=true→(!v6)=true)∧((!v6)=true→(!v6)=true)∧((!v6)=true→(!v6)=true)∧((!v6)=true→(!v6)=true)∧((!v6)=true→(!v6)=true)∧(v6=false→(!v6)=true)∧((!v7)=true→(!v7)=true)∧((!v7)=true→(!v7)=true)∧((!v7)=true→(!v7)=true)∧((!v7)=true→(!v7)=true)∧((!v7)=true→(!v7)=true)∧((!v7)=true→(!v7)=true)∧(v7=false→(!v7)=true)∧((!v8)=true→(!v8)=true)∧((!v8)=true→(!v8)=true)∧((!v8)=true→(!v8)=true)∧((!v8)=true→(!v8)=true)∧((!v8)=true→(!v8)=true)∧(v8=false→(!v8)=true)∧True)∧True∧(v9=true→True∧false=decide (a=b)∧True)∧(v9=false→True∧V [PE.b])) (by kernel_rfl) ?_
 simp only [true_and,and_true,imp_self,implies_true,notF8,pickB_or]
 refine ⟨fun h=>?_,fun h=>?_⟩
 ·have:a≠b:=fun e=>by subst e;simp at h
  simp [this]
 simp only [Bool.or_eq_false_iff,bne_eq_false_iff_eq,Bool.not_eq_false',decide_eq_true_eq] at h
 obtain ⟨⟨⟨⟨⟨⟨⟨⟨⟨e1,e2⟩,e3⟩,e4⟩,e5⟩,e6⟩,e7⟩,e8⟩,e9⟩,e10⟩:=h
 have hab:a.peers.length=b.peers.length:=by omega
 have hac:a.reads.length=b.reads.length:=by omega
 refine LoopG.head (fitsT tabDb_ok fun _=>none) 0 (A:=Nat) (fun j=>j≤a.peers.length∧∀ i,i<j→a.peers.getD i default=b.peers.getD i default) (fun j=>[(5,.int .i64 j)]) (fun j=>[]) (fun j=>a.peers.length - j) 0 ⟨Nat.zero_le _,fun i h=>absurd h (by omega)⟩ (p0:=let v0:=Node.kept a;let v1:=Node.kept b;let v2:=v0.entries;let v3:=v0.vote;let v4:=v0.term;let v5:=v1.snap;let v6:=v1.vote;let v7:=v1.entries;let v8:=v0.snap;let v9:=v1.term;let v10:=v8.data;let v11:=v5.term;let v12:=v5.index;let v13:=v8.term;let v14:=v5.config;let v15:=v8.index;let v16:=v8.config;let v17:=v5.data;let v18:=v14.learners;let v19:=v16.voters;let v20:=v16.learners;let v21:=v14.voters;(0:Int)=(↑(0:Nat):Int)∧Node.id b=Node.id b∧Node.role b=Node.role b∧v9=v9∧v6=v6∧v12=v12∧v11=v11∧v21=v21∧v18=v18∧v17=v17∧v7=v7∧Node.commit b=Node.commit b∧Node.lead b=Node.lead b∧Node.elapsed b=Node.elapsed b∧Node.yes b=Node.yes b∧Node.peers b=Node.peers b∧Node.round b=Node.round b∧Node.reads b=Node.reads b∧Node.id a=Node.id a∧Node.role a=Node.role a∧v4=v4∧v3=v3∧v15=v15∧v13=v13∧v19=v19∧v20=v20∧v10=v10∧v2=v2∧Node.commit a=Node.commit a∧Node.lead a=Node.lead a∧Node.elapsed a=Node.elapsed a∧Node.yes a=Node.yes a∧Node.peers a=Node.peers a∧Node.round a=Node.round a∧Node.reads a=Node.reads a∧True) (by kernel_rfl) ?_ 300 (p:=fun (x:Nat) (V:List PE→Prop)=>let v0:=Tables.types (Program.toTables Tryz.prog);let v1:=(↑x:Int);let v2:=(↑(List.length (Node.peers a)):Int);let v3:=decide (v1<v2);let v4:=TypeInfo.size v0[(94:Nat)];let v5:=!eqI (List.take v4 (List.drop (0:Nat) (RL.elem [(0:Nat)] (RL.rPeer (Node.peers a)) x))) (List.take v4 (List.drop (0:Nat) (RL.elem [(0:Nat)] (RL.rPeer (Node.peers b)) x)));True∧True∧(v3=true→((0:Int)≤v1∧v1<v2∧(0:Int)≤v1∧v1<(↑(List.length (Node.peers b)):Int)∧True)∧True∧(v5=true→True∧false=decide (a=b)∧True)∧(v5=false→True∧V [PE.a,PE.b]))∧(v3=false→True∧V [PE.b])) (by intro x;kernel_rfl) ?_
 ·simp
 rintro j ⟨hj,h0⟩
 have hkl:=ha.peers.1
 have hkr:=ha.reads.1
 simp only [imp_self,implies_true,true_and,and_true,decide_eq_true_eq,decide_eq_false_iff_not]
 have hsz:TypeInfo.size ((Tables.types (Program.toTables Tryz.prog))[94]'(Nat.le_of_ble_eq_true (by kernel_rfl)))=4:=by kernel_rfl
 have eq:eqI (List.take 4 (List.drop 0 (RL.elem [0] (RL.rPeer a.peers) j))) (List.take 4 (List.drop 0 (RL.elem [0] (RL.rPeer b.peers) j)))=decide (a.peers.getD j default=b.peers.getD j default):=eqPr _ _
 rw [hsz,eq]
 simp only [imp_self,implies_true,true_and,and_true,Bool.not_eq_true',Bool.not_eq_false',decide_eq_true_eq,decide_eq_false_iff_not]
 refine ⟨fun h6=>⟨by omega,fun h7=>?_,fun h7=>?_⟩,fun h6=>?_⟩
 ·have:a≠b:=fun e=>by subst e;simp at h7
  simp [this]
 ·refine Back.mk (j+1) ⟨by omega,fun i hi=>?_⟩ (by omega) (p0:=let v0:=Node.kept a;let v1:=Node.kept b;let v2:=v0.entries;let v3:=v0.vote;let v4:=v0.term;let v5:=v1.snap;let v6:=v1.vote;let v7:=v1.entries;let v8:=v0.snap;let v9:=v1.term;let v10:=v8.data;let v11:=v5.term;let v12:=v5.index;let v13:=v8.term;let v14:=v5.config;let v15:=v8.index;let v16:=v8.config;let v17:=v5.data;let v18:=v14.learners;let v19:=v16.voters;let v20:=v16.learners;let v21:=v14.voters;IntKind.wrap IntKind.i64 ((↑j:Int)+(1:Int))=(↑(j+(1:Nat)):Int)∧Node.id b=Node.id b∧Node.role b=Node.role b∧v9=v9∧v6=v6∧v12=v12∧v11=v11∧v21=v21∧v18=v18∧v17=v17∧v7=v7∧Node.commit b=Node.commit b∧Node.lead b=Node.lead b∧Node.elapsed b=Node.elapsed b∧Node.yes b=Node.yes b∧Node.peers b=Node.peers b∧Node.round b=Node.round b∧Node.reads b=Node.reads b∧Node.id a=Node.id a∧Node.role a=Node.role a∧v4=v4∧v3=v3∧v15=v15∧v13=v13∧v19=v19∧v20=v20∧v10=v10∧v2=v2∧Node.commit a=Node.commit a∧Node.lead a=Node.lead a∧Node.elapsed a=Node.elapsed a∧Node.yes a=Node.yes a∧Node.peers a=Node.peers a∧Node.round a=Node.round a∧Node.reads a=Node.reads a∧True) (by kernel_rfl) ?_
  ·by_cases hij:i=j
   ·subst hij;simpa using h7
   ·exact h0 i (by omega)
  ·simp [wrapN (i:=j) (by omega)]
 have hpe:a.peers=b.peers:=ext_getD hab fun i hi=>h0 i (by omega)
 refine LoopG.head (fitsT tabDb_ok fun _=>none) 1 (A:=Nat) (fun j=>j≤a.reads.length∧∀ i,i<j→a.reads.getD i default=b.reads.getD i default) (fun j=>[(6,.int .i64 j)]) (fun j=>[]) (fun j=>a.reads.length - j) 0 ⟨Nat.zero_le _,fun i h=>absurd h (by omega)⟩ (p0:=let v0:=Node.kept a;let v1:=Node.kept b;let v2:=v0.entries;let v3:=v0.vote;let v4:=v0.term;let v5:=v1.snap;let v6:=v1.vote;let v7:=v1.entries;let v8:=v0.snap;let v9:=v1.term;let v10:=v8.data;let v11:=v5.term;let v12:=v5.index;let v13:=v8.term;let v14:=v5.config;let v15:=v8.index;let v16:=v8.config;let v17:=v5.data;let v18:=v14.learners;let v19:=v16.voters;let v20:=v16.learners;let v21:=v14.voters;(0:Int)=(↑(0:Nat):Int)∧Node.id b=Node.id b∧Node.role b=Node.role b∧v9=v9∧v6=v6∧v12=v12∧v11=v11∧v21=v21∧v18=v18∧v17=v17∧v7=v7∧Node.commit b=Node.commit b∧Node.lead b=Node.lead b∧Node.elapsed b=Node.elapsed b∧Node.yes b=Node.yes b∧Node.peers b=Node.peers b∧Node.round b=Node.round b∧Node.reads b=Node.reads b∧Node.id a=Node.id a∧Node.role a=Node.role a∧v4=v4∧v3=v3∧v15=v15∧v13=v13∧v19=v19∧v20=v20∧v10=v10∧v2=v2∧Node.commit a=Node.commit a∧Node.lead a=Node.lead a∧Node.elapsed a=Node.elapsed a∧Node.yes a=Node.yes a∧Node.peers a=Node.peers a∧Node.round a=Node.round a∧Node.reads a=Node.reads a∧True) (by kernel_rfl) ?_ 300 (p:=fun (x:Nat) (V:List PE→Prop)=>let v0:=Tables.types (Program.toTables Tryz.prog);let v1:=(↑x:Int);let v2:=(↑(List.length (Node.reads a)):Int);let v3:=decide (v1<v2);let v4:=TypeInfo.size v0[(96:Nat)];let v5:=!eqI (List.take v4 (List.drop (0:Nat) (RL.elem [(0:Nat)] (RL.rRead (Node.reads a)) x))) (List.take v4 (List.drop (0:Nat) (RL.elem [(0:Nat)] (RL.rRead (Node.reads b)) x)));True∧True∧(v3=true→((0:Int)≤v1∧v1<v2∧(0:Int)≤v1∧v1<(↑(List.length (Node.reads b)):Int)∧True)∧True∧(v5=true→True∧false=decide (a=b)∧True)∧(v5=false→True∧V [PE.a,PE.b]))∧(v3=false→True∧true=decide (a=b)∧True)) (by intro x;kernel_rfl) ?_
 ·simp
 clear eq h0 hj h6
 rintro j ⟨hj,h0⟩
 simp only [imp_self,implies_true,true_and,and_true,decide_eq_true_eq,decide_eq_false_iff_not]
 have hsz2:TypeInfo.size ((Tables.types (Program.toTables Tryz.prog))[96]'(Nat.le_of_ble_eq_true (by kernel_rfl)))=3:=by kernel_rfl
 have eq2:eqI (List.take 3 (List.drop 0 (RL.elem [0] (RL.rRead a.reads) j))) (List.take 3 (List.drop 0 (RL.elem [0] (RL.rRead b.reads) j)))=decide (a.reads.getD j default=b.reads.getD j default):=eqRd _ _
 rw [hsz2,eq2]
 simp only [imp_self,implies_true,true_and,and_true,Bool.not_eq_true',Bool.not_eq_false',decide_eq_true_eq,decide_eq_false_iff_not]
 refine ⟨fun h6=>⟨by omega,fun h7=>?_,fun h7=>?_⟩,fun h6=>?_⟩
 ·have:a≠b:=fun e=>by subst e;simp at h7
  simp [this]
 ·refine Back.mk (j+1) ⟨by omega,fun i hi=>?_⟩ (by omega) (p0:=let v0:=Node.kept a;let v1:=Node.kept b;let v2:=v0.entries;let v3:=v0.vote;let v4:=v0.term;let v5:=v1.snap;let v6:=v1.vote;let v7:=v1.entries;let v8:=v0.snap;let v9:=v1.term;let v10:=v8.data;let v11:=v5.term;let v12:=v5.index;let v13:=v8.term;let v14:=v5.config;let v15:=v8.index;let v16:=v8.config;let v17:=v5.data;let v18:=v14.learners;let v19:=v16.voters;let v20:=v16.learners;let v21:=v14.voters;IntKind.wrap IntKind.i64 ((↑j:Int)+(1:Int))=(↑(j+(1:Nat)):Int)∧Node.id b=Node.id b∧Node.role b=Node.role b∧v9=v9∧v6=v6∧v12=v12∧v11=v11∧v21=v21∧v18=v18∧v17=v17∧v7=v7∧Node.commit b=Node.commit b∧Node.lead b=Node.lead b∧Node.elapsed b=Node.elapsed b∧Node.yes b=Node.yes b∧Node.peers b=Node.peers b∧Node.round b=Node.round b∧Node.reads b=Node.reads b∧Node.id a=Node.id a∧Node.role a=Node.role a∧v4=v4∧v3=v3∧v15=v15∧v13=v13∧v19=v19∧v20=v20∧v10=v10∧v2=v2∧Node.commit a=Node.commit a∧Node.lead a=Node.lead a∧Node.elapsed a=Node.elapsed a∧Node.yes a=Node.yes a∧Node.peers a=Node.peers a∧Node.round a=Node.round a∧Node.reads a=Node.reads a∧True) (by kernel_rfl) ?_
  ·by_cases hij:i=j
   ·subst hij;simpa using h7
   ·exact h0 i (by omega)
  ·simp [wrapN (i:=j) (by omega)]
 ·have:a=b:=Node.eq_iff.2 ⟨e1,e2,e10,e3,e4,e5,e7,hpe,e6,ext_getD hac fun i hi=>h0 i (by omega)⟩
  simp [this]
def eKNodes:Ent:=ent2 16 dNode dNode fun a b=>([],.bool (decide (a=b)),D2)
theorem eKNodes_ok:EntOk Tryz.prog eKNodes:=ent2_ok (KNodes_fn default default).1 fun a b _=>KNodes_fn a b
def tickC (n:Node):Step×Int:=if rightC n then (tickS n,0) else (⟨zeroN,outZ⟩,1)
theorem tick_fn (n:Node) (hf:Few 50000 (stepZ n)):FnC Tryz.prog 25 [dNode.can n] (refO (tickC n).1.n (tickC n).1.o (tickC n).2) D3d:=by
 unfold tickC
 cases hr:rightC n
 ·exact tickN_fn n (hf.sn (by decide)) hr
 ·exact tickY_fn n (hf.sn (by decide)) hr hf
def eTick:Ent:=ent1 25 dNode fun n=>([Few 50000 (stepZ n)],refO (tickC n).1.n (tickC n).1.o (tickC n).2,D3d)
theorem eTick_ok:EntOk Tryz.prog eTick:=ent1_ok (fnB Tryz.func25 (by decide) rfl) fun n h=>tick_fn n (h _ (by simp))
def eNew:Ent:=ent2 14 dInt dKept fun id k=>([SmallK k],.tup [.agg ((newC id k).1.svs [1]),.int .i64 (newC id k).2],D2)
theorem eNew_ok:EntOk Tryz.prog eNew:=ent2_ok (fnB Tryz.func14 (by decide) rfl) fun id k h=>new_fn id k (h _ (by simp))
def startK:Kept:=⟨1,0,⟨1,1,⟨[1,2,3],[]⟩,zs⟩,[]⟩
def startN:Node:=newN 1 startK
theorem start_new:newC 1 startK=(startN,0):=by
 have h:rightC (newN 1 startK)=true:=by kernel_rfl
 rw [newC,h];rfl
theorem start_fn:FnC Tryz.prog 68 [] (.tup [.agg (startN.svs [1]),.int .i64 0]) D2:=by
 refine FnG.of_vc (fitsT (tab_cons eNew_ok tab_nil) fun _=>none) Tryz.func68 rfl (by decide) rfl 300 (p:=fun (V:List PE→Prop)=>let v0:=Node.kept startN;let v1:=v0.snap;let v2:=v1.config;let v3:=(1:Int);let v4:=[v3]++[(2:Int)]++[(3:Int)];let v5:=Kept.mk v3 (0:Int) (Snap.mk v3 v3 (Config.mk v4 []) (ByteArray.mk #[])) [];let v6:=newC v3 v5;let v7:=Prod.fst v6;let v8:=v7.kept;let v9:=v8.snap;let v10:=v9.config;True∧(List.length v4≤(17592186044416:Nat)∧SmallK v5∧True)∧v7.id=Node.id startN∧v7.role=Node.role startN∧v8.term=v0.term∧v8.vote=v0.vote∧v9.index=v1.index∧v9.term=v1.term∧v10.voters=v2.voters∧v10.learners=v2.learners∧v9.data=v1.data∧v8.entries=v0.entries∧v7.commit=Node.commit startN∧v7.lead=Node.lead startN∧v7.elapsed=Node.elapsed startN∧v7.yes=Node.yes startN∧v7.peers=Node.peers startN∧v7.round=Node.round startN∧v7.reads=Node.reads startN∧Prod.snd v6=(0:Int)∧True) (by kernel_rfl) ?_
 simp only [imp_self,implies_true,true_and,and_true,pickB_f,pickB_t]
 have e:=start_new
 simp only [startK,zs] at e
 simp only [List.cons_append,List.nil_append,e,and_true]
 exact ⟨by decide,⟨⟨by decide,fun x hx=>by cases hx⟩,⟨by decide,by decide⟩⟩⟩
def eStart:Ent:=ent0 68 ([],.tup [.agg (startN.svs [1]),.int .i64 0],D2)
theorem eStart_ok:EntOk Tryz.prog eStart:=ent0_ok (fnB Tryz.func68 (by decide) rfl) fun _=>start_fn
def tickIt:Nat→Step
 | 0=>⟨startN,outZ⟩
 | n+1=>tickS (tickIt n).n
theorem tickIt_right:∀ j,j<10→rightC (tickIt j).n=true:=by
 have h:(List.range 10).all (fun j=>rightC (tickIt j).n)=true:=by kernel_rfl
 exact fun j hj=>List.all_eq_true.1 h j (List.mem_range.2 hj)
def fewB (s:Step):Bool:=
 decide (s.n.kept.entries.length≤50)&&s.n.kept.entries.all (fun e=>decide (e.config.voters.length≤50)&&decide (e.config.learners.length≤50))&&decide (s.n.kept.snap.config.voters.length≤50)&&decide (s.n.kept.snap.config.learners.length≤50) &&
 decide (s.n.yes.length≤50)&&decide (s.n.peers.length≤50)&&decide (s.n.reads.length≤50)&&decide (s.o.records.length≤50)&&decide (s.o.messages.length≤50)&&decide (s.o.ready.length≤50)&&decide (s.o.lost.length≤50)
theorem fewB_ok {s:Step} (h:fewB s=true):Few 50000 s:=by
 unfold fewB at h
 simp only [Bool.and_eq_true,decide_eq_true_eq,List.all_eq_true] at h
 obtain ⟨⟨⟨⟨⟨⟨⟨⟨⟨⟨h1,h2⟩,h3⟩,h4⟩,h5⟩,h6⟩,h7⟩,h8⟩,h9⟩,h10⟩,h11⟩:=h
 exact ⟨by omega,fun e he=>by have:=h2 e he;exact ⟨by omega,by omega⟩,⟨by omega,by omega⟩,by omega,by omega,by omega,by omega,by omega,by omega,by omega⟩
theorem Few.z {B:Nat} {s:Step} (h:Few B s):Few B (stepZ s.n):=⟨h.entries,h.ec,h.sc,h.yes,h.peers,h.reads,Nat.zero_le _,Nat.zero_le _,Nat.zero_le _,Nat.zero_le _⟩
theorem tickIt_few:∀ j,j<11→Few 50000 (tickIt j):=by
 have h:(List.range 11).all (fun j=>fewB (tickIt j))=true:=by kernel_rfl
 exact fun j hj=>fewB_ok (List.all_eq_true.1 h j (List.mem_range.2 hj))
def rofMo (n:Node):List BE:=[.dead,.dead,.cells 125 (n.rsvs [1] 3 4 5++[.nil,.nil,.nil,.nil]),.row 3 [] (.rInts n.yes),.row 94 [] (.rPeer n.peers),.row 96 [] (.rRead n.reads)]
noncomputable def tabRd4:List Ent:=[eRRight,eROwnN]
theorem tabRd4_ok:∀ e∈tabRd4,EntOk Tryz.prog e:=tab_cons eRRight_ok (tab_cons eROwnN_ok tab_nil)
theorem ofN_fn (n:Node) (hn:SmallN n) (hr:rightC n=false):FnC Tryz.prog 82 [dNode.can n] (.tup [.any,.int .i64 1]) D2:=by
 refine FnG.of_vc (fitsT tabRd4_ok fun _=>none) Tryz.func82 rfl (by decide) rfl 300 (p:=fun (V:List PE→Prop)=>True∧(SmallN n∧True)∧True∧((!rightC n)=true→True∧(1:Int)=(1:Int)∧True)∧((!rightC n)=false→(SmallN n∧True)∧(0:Int)=(1:Int)∧True)) (by kernel_rfl) ?_
 simp only [imp_self,implies_true,true_and,and_true,pickB_f,pickB_t]
 refine ⟨hn,fun h=>?_⟩
 rw [hr] at h;exact absurd h (by decide)
theorem ofY_fn (n:Node) (hn:SmallN n) (hr:rightC n=true):FnC Tryz.prog 82 [dNode.can n] (.tup [.ptr 2 0,.int .i64 0]) (rofMo n):=by
 refine FnG.of_vc (fitsT tabRd4_ok fun _=>none) Tryz.func82 rfl (by decide) rfl 300 (p:=fun (V:List PE→Prop)=>let v0:=Node.kept n;let v1:=v0.term;let v2:=v0.snap;let v3:=v0.entries;let v4:=v0.vote;let v5:=v2.config;let v6:=v2.data;let v7:=v2.index;let v8:=v2.term;let v9:=v5.learners;let v10:=v5.voters;True∧(SmallN n∧True)∧True∧((!rightC n)=true→True∧False)∧((!rightC n)=false→(SmallN n∧True)∧(0:Int)=(0:Int)∧Node.id n=Node.id n∧Node.role n=Node.role n∧v1=v1∧v4=v4∧v7=v7∧v8=v8∧v10=v10∧v9=v9∧v6=v6∧v3=v3∧Node.commit n=Node.commit n∧Node.lead n=Node.lead n∧Node.elapsed n=Node.elapsed n∧Node.round n=Node.round n∧Node.yes n=Node.yes n∧Node.peers n=Node.peers n∧Node.reads n=Node.reads n∧True)) (by kernel_rfl) ?_
 simp only [imp_self,implies_true,true_and,and_true,pickB_f,pickB_t]
 refine ⟨hn,fun h=>?_,fun h=>hn⟩
 rw [hr] at h;exact absurd h (by decide)
def eROfN:Ent:=ent1 82 dNode fun n=>([SmallN n,rightC n=false],.tup [.any,.int .i64 1],D2)
theorem eROfN_ok:EntOk Tryz.prog eROfN:=ent1_ok (fnB Tryz.func82 (by decide) rfl) fun n h=>ofN_fn n (h _ (by simp)) (h _ (by simp))
def eROfY:Ent:=ent1 82 dNode fun n=>([SmallN n,rightC n=true],.tup [.ptr 2 0,.int .i64 0],rofMo n)
theorem eROfY_ok:EntOk Tryz.prog eROfY:=ent1_ok (fnB Tryz.func82 (by decide) rfl) fun n h=>ofY_fn n (h _ (by simp)) (h _ (by simp))
theorem rno_fn (e:Int):FnC Tryz.prog 83 [dInt.can e] (refO zeroN outZ e) D3d:=by
 refine FnG.of_vc (fitsT tab_nil fun _=>none) Tryz.func83 rfl (by decide) rfl 300 (p:=fun (V:List PE→Prop)=>let v0:=Node.kept zeroN;let v1:=v0.snap;let v2:=v1.config;let v3:=(0:Int);True∧True∧v3=Node.id zeroN∧v3=Node.role zeroN∧v3=v0.term∧v3=v0.vote∧v3=v1.index∧v3=v1.term∧v2.voters=[]∧v2.learners=[]∧ByteArray.mk #[]=v1.data∧v0.entries=[]∧v3=Node.commit zeroN∧v3=Node.lead zeroN∧v3=Node.elapsed zeroN∧Node.yes zeroN=[]∧Node.peers zeroN=[]∧v3=Node.round zeroN∧Node.reads zeroN=[]∧Out.records outZ=[]∧Out.messages outZ=[]∧Out.ready outZ=[]∧Out.lost outZ=[]∧e=e∧True) (by kernel_rfl) ?_
 simp only [imp_self,implies_true,true_and,and_true,pickB_f,pickB_t]
 repeat' apply And.intro
 all_goals rfl
def eRNo:Ent:=ent1 83 dInt fun e=>([],refO zeroN outZ e,D3d)
theorem eRNo_ok:EntOk Tryz.prog eRNo:=ent1_ok (rno_fn 0).1 fun n h=>rno_fn n
noncomputable def tabRu0:List Ent:=[eROfN,eRNo]
theorem tabRu0_ok:∀ e∈tabRu0,EntOk Tryz.prog e:=tab_cons eROfN_ok (tab_cons eRNo_ok tab_nil)
end Go.Proofs.YteabcgkjbnecaaaGreat
namespace Go.Proofs.YteabcgkjbnecaaaGreat
open Go.RowKit Go.ChangeShapes Go.WideShapes Go.Deep
def cxW (E:Env):Cx:=⟨fun b=>E.lab b,0,fun i b=>E.σ i b,fun t=>if t<2 then E.β t else none⟩
def SV.gnd:SV→Bool
 | .any=>true
 | .int _ _=>true
 | .bool _=>true
 | _=>false
theorem SV.gnd_den {r:SV} (h:r.gnd=true) {E E2:Env} {w w2:World} {v:Value} (hd:DenV E w r v):DenV E2 w2 r v:=by
 cases r<;>first | exact hd | (exfalso;exact Bool.noConfusion h)
def FnW (P:Program) (f:FuncId) (ins:List SV) (r:SV):Prop:=
 FnB P f∧∀ (w:World) (E:Env) (vals:List Value),MemOk w.heap.size (cxW E) w E (mOf D2) w→DenL E w ins vals→Calls P f vals.toArray w (fun e w'=>∃ v,e = .returned v∧(∀ E2 w2,DenV E2 w2 r v)∧BelowX w.heap.size E.lab w w')
structure WEnt where
 f:FuncId
 go:List SV→Option (List Prop×SV)
def WEntOk (P:Program) (e:WEnt):Prop:=FnB P e.f∧∀ ins n r,e.go ins=some (n,r)→(∀ p∈n,p)→FnW P e.f ins r
def findW:List WEnt→FuncId→Option WEnt
 | [],_=>none
 | e::r,f=>bif Nat.beq e.f f then some e else findW r f
theorem findW_mem : ∀ {tab : List WEnt} {f : FuncId} {e : WEnt}, findW tab f = some e → e ∈ tab ∧ e.f = f
  | [], _, _, h => by simp [findW] at h
  | a :: r, f, e, h => by
    simp only [findW] at h
    cases hb : Nat.beq a.f f
    · rw [hb] at h
      obtain ⟨h1, h2⟩ := findW_mem (tab := r) h
      exact ⟨List.mem_cons_of_mem _ h1, h2⟩
    · rw [hb] at h
      simp only [cond_true, Option.some.injEq] at h
      subst h
      exact ⟨List.mem_cons_self .., Nat.eq_of_beq_eq_true hb⟩
def clW (m:Nat→BE) (svs:List SV):Cl:=⟨⟨m,[]⟩,[],[],1,svs⟩
def orwT (tab : List WEnt) (f : FuncId) (st : St) (svs : List SV) : Option (List Prop × List Nat × SV) :=
  match findW tab f with
  | none => none
  | some e => if (clW st.m svs).ok && (clW st.m svs).OP.isEmpty then (match e.go (clW st.m svs).ins with
    | some (n, r) => some ((clW st.m svs).needs ++ n, (clW st.m svs).LP.map (·.2), r)
    | none => none) else none
theorem orwT_ok {P:Program} {tab:List WEnt} (ht:∀ e∈tab,WEntOk P e) (kd:TypeId→Option RL) (oc:Nat→FuncId→St→List SV→Option Upd):WOk P ⟨kd,oc,orwT tab⟩:=by
 intro f st svs n ls r h
 have h2:orwT tab f st svs=some (n,ls,r):=h
 clear h
 unfold orwT at h2
 split at h2
 case h_1=>simp at h2
 rename_i e he
 obtain ⟨hin,rfl⟩:=findW_mem he
 obtain ⟨hB,hE⟩:=ht e hin
 refine ⟨hB,fun base X w0 E w vals hm hd hn=>?_⟩
 split at h2
 case isFalse=>simp at h2
 rename_i hck
 simp only [Bool.and_eq_true] at hck
 obtain ⟨hok,hop⟩:=hck
 split at h2
 case h_2=>simp at h2
 rename_i n2 r2 hgo
 simp only [Option.some.injEq,Prod.mk.injEq] at h2
 obtain ⟨rfl,rfl,rfl⟩:=h2
 have hOP:(clW st.m svs).OP=[]:=List.isEmpty_iff.1 hop
 have hg:=Cl.good hok
 have hneed:∀ p∈(clW st.m svs).needs,p:=fun p hp=>hn p (List.mem_append_left _ hp)
 have hin2:=Cl.memIn (q:=clW st.m svs) (E:=E) hm hg hneed
 have hmi:(clW st.m svs).mi=D2:=rfl
 rw [hmi] at hin2
 have hmW:MemOk w.heap.size (cxW ((clW st.m svs).env E)) w ((clW st.m svs).env E) (mOf D2) w:=
  ⟨hin2.empty,hin2.cells,hin2.row,fun i b hb=>⟨(hin2.lab i b hb).1,fun _=> .inr ⟨i,hb⟩⟩,hin2.dis,fun i hi=>absurd hi (Nat.not_lt_zero i),fun t b hb=>absurd hb D2_no,fun i b hi=>absurd hi (Nat.not_lt_zero i),hin2.inj,hin2.keep,BelowX.refl _ _ _,Nat.le_refl _⟩
 have hda:DenL ((clW st.m svs).env E) w (clW st.m svs).ins vals:=Cl.denA (q:=clW st.m svs) hm svs [] vals (fun p hp=>List.mem_append_left _ hp) (fun p hp=>List.mem_append_left _ hp) hd (fun p hp=>hneed p (List.mem_append_left _ hp))
 refine Calls.mono ((hE _ _ _ hgo (fun p hp=>hn p (List.mem_append_right _ hp))).2 w _ vals hmW hda) ?_
 rintro e' w' ⟨v,rfl,hrr,hBl⟩
 refine ⟨v,rfl,hrr,hBl.os,hBl.tape,hBl.output,hBl.size,fun b hb hns=>hBl.block b hb (fun ⟨i,hi⟩=>hns ?_)⟩
 rcases hi with ⟨j,hj,hs⟩ | ⟨t,htt,_⟩
 ·exact ⟨j,List.mem_map.2 ⟨(i,j),hj,rfl⟩,hs⟩
 ·rw [hOP] at htt;cases htt
theorem wtab_nil {P:Program}:∀ e∈([]:List WEnt),WEntOk P e:=fun _ h=>by cases h
theorem wtab_cons {P:Program} {e:WEnt} {tab:List WEnt} (h:WEntOk P e) (ht:∀ e∈tab,WEntOk P e):∀ x∈e::tab,WEntOk P x:=by
 intro x hx
 rcases List.mem_cons.1 hx with rfl | hx
 ·exact h
 ·exact ht x hx
theorem fitsW {tab:List Ent} {wtab:List WEnt} (h:∀ e∈tab,EntOk Tryz.prog e) (hw:∀ e∈wtab,WEntOk Tryz.prog e) (kd:TypeId→Option RL):World.Fits Tryz.prog ⟨kd,orcT tab,orwT wtab⟩ (moreA Tryz.prog):=⟨by kernel_rfl,orcT_ok h kd _,orcT_loc tab kd _,moreA_ok _,moreA_loc _,orwT_ok hw kd _⟩
def goW2 {α β : Type} (a : Dec α) (b : Dec β) (r : α → β → List Prop × SV) (ins : List SV) : Option (List Prop × SV) := match ins with
  | [s, t] => match a.strict s, b.strict t with
    | some x, some y => some (r x y)
    | _, _ => none
  | _ => none
def went2 {α β:Type} (f:FuncId) (a:Dec α) (b:Dec β) (r:α→β→List Prop×SV):WEnt:=⟨f,goW2 a b r⟩
theorem went2_ok {P:Program} {α β:Type} {f:FuncId} {a:Dec α} {b:Dec β} {r:α→β→List Prop×SV} (hB:FnB P f) (h:∀ x y,(∀ p∈(r x y).1,p)→FnW P f [a.can x,b.can y] (r x y).2):WEntOk P (went2 f a b r):=by
 refine ⟨hB,fun ins n rr hg hn=>?_⟩
 change goW2 a b r ins=some (n,rr) at hg
 unfold goW2 at hg
 split at hg
 case h_2=>simp at hg
 rename_i s t
 split at hg
 case h_2=>simp at hg
 rename_i x y ex ey
 simp only [Option.some.injEq] at hg
 have h1:(r x y).1=n:=by rw [hg]
 have h2:(r x y).2=rr:=by rw [hg]
 subst h1;subst h2
 refine ⟨hB,fun w E vals hm hd=>(h x y hn).2 w E vals hm ?_⟩
 match vals,hd with
 | [v,u],hd=>exact ⟨a.strict_ok ex hd.1,b.strict_ok ey hd.2.1,trivial⟩
end Go.Proofs.YteabcgkjbnecaaaGreat
namespace Go.Proofs.YteabcgkjbnecaaaGreat
open Go.RowKit Go.ChangeShapes Go.WideShapes Go.Deep
set_option maxRecDepth 100000
structure Tch (L:Nat→Prop) (base:Nat) (w w':World):Prop where
 keep:∀ p v,w.cell? p=some v→∃ v',w'.cell? p=some v'∧((∃ a n c,v = .slice a n c)→v'=v)∧(w.frozen? p=false→w'.frozen? p=false)
 below:BelowX base L w w'
theorem Tch.refl (L:Nat→Prop) (base:Nat) (w:World):Tch L base w w:=⟨fun p v h=>⟨v,h,fun _=>rfl,fun h=>h⟩,BelowX.refl _ _ _⟩
theorem Tch.sl {L:Nat→Prop} {base:Nat} {w w':World} (h:Tch L base w w') {p:Addr} {a:Option Addr} {n c:Nat} (hp:w.cell? p=some (.slice a n c)):w'.cell? p=some (.slice a n c):=by
 obtain ⟨v',h1,h2,_⟩:=h.keep p _ hp
 rw [h1,h2 ⟨a,n,c,rfl⟩]
theorem Tch.cell {L:Nat→Prop} {base:Nat} {w w':World} (h:Tch L base w w') {p:Addr} {v:Value} (hp:w.cell? p=some v) (hf:w.frozen? p=false):(∃ v',w'.cell? p=some v')∧w'.frozen? p=false:=by
 obtain ⟨v',h1,_,h3⟩:=h.keep p _ hp
 exact ⟨⟨v',h1⟩,h3 hf⟩
theorem Tch.set {L:Nat→Prop} {base:Nat} {w w':World} (h:Tch L base w w') {q:Addr} {x:Value} (hq:w.cell? q=some x) (hx:¬ ∃ a n c,x = .slice a n c) (hL:L q.block) (u:Value):Tch L base w (w'.setCell q u):=by
 refine ⟨fun p v hp=>?_,h.below.os,h.below.tape,h.below.output,?_,fun b hb hn=>?_⟩
 ·by_cases e:p=q
  ·subst e
   rw [hq] at hp
   cases hp
   obtain ⟨v',h1,h2,h3⟩:=h.keep p x hq
   exact ⟨u,World.cell?_setCell_same' _ _ _ (by rw [h1];rfl),fun h=>absurd h hx,fun hf=>by have:=h3 hf;simpa using this⟩
  ·obtain ⟨v',h1,h2,h3⟩:=h.keep p v hp
   exact ⟨v',(World.cell?_setCell_other w' q p u (fun h=>e (by first | exact h | exact h.symm))).trans h1,h2,fun hf=>by have:=h3 hf;simpa using this⟩
 ·simpa [World.setCell] using h.below.size
 ·rw [Below.heap_setCell _ _ _ _ (fun e=>hn (by subst e;exact hL))]
  exact h.below.block b hb hn
theorem BelowX.trans' {base:Nat} {L:Nat→Prop} {w w1 w2:World} (h:BelowX base L w w1) (h2:BelowX base L w1 w2):BelowX base L w w2:=
 ⟨h2.os.trans h.os,h2.tape.trans h.tape,h2.output.trans h.output,Nat.le_trans h.size h2.size,fun b hb hn=>(h2.block b hb hn).trans (h.block b hb hn)⟩
theorem nsl_int {k:IntKind} {n:Int}:¬ ∃ a m c,Value.int k n = .slice a m c:=by rintro ⟨_,_,_,e⟩;cases e
theorem nsl_str {s:ByteArray}:¬ ∃ a m c,Value.string s = .slice a m c:=by rintro ⟨_,_,_,e⟩;cases e
set_option maxHeartbeats 4000000 in
theorem over_any (vs us : List Value) (n : Node) (o : Out) (w : World) (S : Nat → Prop) (hS : ∀ b, S b → b < w.heap.size) (h : RdL w S Node.ty vs n.enc) (h' : RdL w S Out.ty us o.enc) :
    Calls Tryz.prog 17 #[.agg vs.toArray, .agg us.toArray] w (fun e w' => ∃ v, e = .returned v ∧ BelowX w.heap.size S w w') := by
  obtain ⟨a6, c6, a7, c7, a9, c9, a13, c13, a14, c14, a16, c16, rfl, _, _, _, _, _, _, _, _, _, s9, _, _, _, s13, s14, _, s16⟩ := Node.opens h
  obtain ⟨e0, f0, e1, f1, e2, f2, e3, f3, rfl, _, t1, _, _⟩ := Out.opens h'
  obtain ⟨w1, hw1⟩ : ∃ w1, (w.alloc (.cells #[.int .i64 n.id, .int .i64 n.role, .int .i64 n.kept.term, .int .i64 n.kept.vote, .int .i64 n.kept.snap.index, .int .i64 n.kept.snap.term, .slice a6 n.kept.snap.config.voters.length c6, .slice a7 n.kept.snap.config.learners.length c7, .string n.kept.snap.data, .slice a9 n.kept.entries.length c9, .int .i64 n.commit, .int .i64 n.lead, .int .i64 n.elapsed, .slice a13 n.yes.length c13, .slice a14 n.peers.length c14, .int .i64 n.round, .slice a16 n.reads.length c16] 35)).alloc (.cells #[.slice e0 o.records.length f0, .slice e1 o.messages.length f1, .slice e2 o.ready.length f2, .slice e3 o.lost.length f3] 49) = w1 := ⟨_, rfl⟩
  have hB1 : Below w.heap.size w w1 := by rw [← hw1]; exact ((Below.refl _ w).alloc (Nat.le_refl _) _).alloc (by simp) _
  have q9 : w1.cell? ⟨w.heap.size, 9, none⟩ = some (.slice a9 n.kept.entries.length c9) := by rw [← hw1]; exact ((Blk.new w _ _).alloc _).cell 9
  have q13 : w1.cell? ⟨w.heap.size, 13, none⟩ = some (.slice a13 n.yes.length c13) := by rw [← hw1]; exact ((Blk.new w _ _).alloc _).cell 13
  have q14 : w1.cell? ⟨w.heap.size, 14, none⟩ = some (.slice a14 n.peers.length c14) := by rw [← hw1]; exact ((Blk.new w _ _).alloc _).cell 14
  have q1 : w1.cell? ⟨w.heap.size + 1, 1, none⟩ = some (.slice e1 o.messages.length f1) := by
    rw [← hw1]
    have hk := (Blk.new (w.alloc (.cells #[.int .i64 n.id, .int .i64 n.role, .int .i64 n.kept.term, .int .i64 n.kept.vote, .int .i64 n.kept.snap.index, .int .i64 n.kept.snap.term, .slice a6 n.kept.snap.config.voters.length c6, .slice a7 n.kept.snap.config.learners.length c7, .string n.kept.snap.data, .slice a9 n.kept.entries.length c9, .int .i64 n.commit, .int .i64 n.lead, .int .i64 n.elapsed, .slice a13 n.yes.length c13, .slice a14 n.peers.length c14, .int .i64 n.round, .slice a16 n.reads.length c16] 35)) 49 #[.slice e0 o.records.length f0, .slice e1 o.messages.length f1, .slice e2 o.ready.length f2, .slice e3 o.lost.length f3]).cell 1
    rw [show (w.alloc (.cells #[.int .i64 n.id, .int .i64 n.role, .int .i64 n.kept.term, .int .i64 n.kept.vote, .int .i64 n.kept.snap.index, .int .i64 n.kept.snap.term, .slice a6 n.kept.snap.config.voters.length c6, .slice a7 n.kept.snap.config.learners.length c7, .string n.kept.snap.data, .slice a9 n.kept.entries.length c9, .int .i64 n.commit, .int .i64 n.lead, .int .i64 n.elapsed, .slice a13 n.yes.length c13, .slice a14 n.peers.length c14, .int .i64 n.round, .slice a16 n.reads.length c16] 35)).heap.size = w.heap.size + 1 by simp] at hk
    exact hk
  have hB2 : BelowX w.heap.size S w w1 := ⟨hB1.os, hB1.tape, hB1.output, hB1.size, fun b hb _ => hB1.block b hb⟩
  have H9 := Lib.hid (s9.same (Same.below hB1))
  have H13 := Lib.hid (s13.same (Same.below hB1))
  have H14 := Lib.hid (s14.same (Same.below hB1))
  have HM := Lib.hid (t1.same (Same.below hB1))
  have n9 := s9.bd.2.2.1
  have n13 := s13.bd.2.2.1
  have n14 := s14.bd.2.2.1
  have nM := t1.bd.2.2.1
  have Q9 := Lib.hid q9
  have Q13 := Lib.hid q13
  have Q14 := Lib.hid q14
  have Q1 := Lib.hid q1
  have HX := Lib.hid hB2
  have HW := Lib.hid hw1
  clear h h' s9 s13 s14 s16 t1 q9 q13 q14 q1 hB1 hB2 hw1
  go_enter Tryz.func17, Tryz.ntmps17
  go_wp2_with fail
  rw [HW.out]
  go_loopw [4] (fun i wr => ∃ j : Nat, j ≤ n.kept.entries.length ∧ i = .int .i64 j ∧ Tch S w.heap.size w1 wr) (fun i _ => n.kept.entries.length - (intOf i).toNat)
  case atStart => exact ⟨0, Nat.zero_le _, rfl, Tch.refl _ _ _⟩
  case round =>
    obtain ⟨j, hj, rfl, hk⟩ := hrel
    have r9 := hk.sl Q9.out
    by_cases hlt : j < n.kept.entries.length
    · obtain ⟨b, off, rfl⟩ := H9.out.addr (by omega)
      obtain ⟨hS1, hb1, a3e, c3e, a4e, c4e, x0, x1, x2, x3, x4, x5, y0, y1, y2, y3, y4, y5⟩ := Entry.row H9.out hlt
      have t5 := H9.out.thaw (j := 5) hlt (by decide)
      rw [show Entry.ty.length = 6 from rfl] at t5
      generalize n.kept.entries.getD j default = e at *
      have k0 : (0 : Int) ≤ (j : Int) := by omega
      have k1 : (j : Int) < (n.kept.entries.length : Int) := by omega
      obtain ⟨⟨z5, p5⟩, t5'⟩ := hk.cell x5 t5
      have F3 := Lib.hid y3
      have HK := Lib.hid (hk.set x5 nsl_str hS1 (.string ⟨#[111, 118, 101, 114]⟩))
      have E3 := Lib.hid x3
      have n3 := y3.bd.2.2.1
      clear x0 x1 x2 x3 x4 x5 y0 y1 y2 y3 y4 y5 hk t5
      go_wp2_with fail
      go_loopw [5] (fun i wr2 => ∃ m : Nat, m ≤ e.config.voters.length ∧ i = .int .i64 m ∧ Tch S w.heap.size w1 wr2) (fun i _ => e.config.voters.length - (intOf i).toNat)
      case atStart => exact ⟨0, Nat.zero_le _, rfl, HK.out⟩
      case round =>
        obtain ⟨m, hm, rfl, hk2⟩ := hrel
        rename World => wr2
        have q3 := hk2.sl E3.out
        have r9b := hk2.sl Q9.out
        by_cases hlm : m < e.config.voters.length
        · obtain ⟨b3, off3, rfl⟩ := F3.out.addr (by omega)
          obtain ⟨hb3, c3, _⟩ := SlI.cell F3.out hlm
          have t3 := F3.out.thaw (j := 0) hlm (by decide)
          simp only [List.length_cons, List.length_nil, Nat.zero_add, Nat.mul_one, Nat.add_zero] at t3
          have hS3 : S b3 := by
            obtain ⟨b4, off4, e4, h4, _⟩ := F3.out.rowAt (by omega)
            cases e4; exact h4
          have m0 : (0 : Int) ≤ (m : Int) := by omega
          have m1 : (m : Int) < (e.config.voters.length : Int) := by omega
          obtain ⟨⟨z3, g3⟩, t3'⟩ := hk2.cell c3 t3
          have HK2 := Lib.hid (hk2.set c3 nsl_int hS3 (.int .i64 77))
          clear c3 t3 hk2
          go_wp2_with fail
          go_roundw
          case rel => exact ⟨m + 1, by omega, by go_num, HK2.out⟩
          case measure => simp [intOf]; omega
        · have hmn : m = e.config.voters.length := by omega
          subst hmn
          have HK2 := Lib.hid hk2
          have m1 : ¬ ((e.config.voters.length : Nat) : Int) < (e.config.voters.length : Int) := by omega
          clear hk2 hlm
          go_wp2_with fail
          go_roundw
          case rel => exact ⟨j + 1, by omega, by go_num, HK2.out⟩
          case measure => simp [intOf]; omega
    · have k1 : ¬ (j : Int) < (n.kept.entries.length : Int) := by omega
      have HK := Lib.hid hk
      clear hk r9
      have r9 := HK.out.sl Q9.out
      go_wp2_with fail
      go_loopw [6] (fun i wr => ∃ j : Nat, j ≤ n.peers.length ∧ i = .int .i64 j ∧ Tch S w.heap.size w1 wr) (fun i _ => n.peers.length - (intOf i).toNat)
      case atStart => exact ⟨0, Nat.zero_le _, rfl, HK.out⟩
      case round =>
        obtain ⟨j, hj, rfl, hk⟩ := hrel
        have r14 := hk.sl Q14.out
        by_cases hlt : j < n.peers.length
        · obtain ⟨b, off, rfl⟩ := H14.out.addr (by omega)
          obtain ⟨hS1, hb1, x0, _⟩ := Peer.row H14.out hlt
          have t5 := H14.out.thaw (j := 0) hlt (by decide)
          rw [show Peer.ty.length = 4 from rfl, Nat.add_zero] at t5
          have k0 : (0 : Int) ≤ (j : Int) := by omega
          have k1 : (j : Int) < (n.peers.length : Int) := by omega
          obtain ⟨⟨z5, p5⟩, t5'⟩ := hk.cell x0 t5
          have HK := Lib.hid (hk.set x0 nsl_int hS1 (.int .i64 77))
          clear x0 hk t5
          go_wp2_with fail
          go_roundw
          case rel => exact ⟨j + 1, by omega, by go_num, HK.out⟩
          case measure => simp [intOf]; omega
        · have k1 : ¬ (j : Int) < (n.peers.length : Int) := by omega
          have HK := Lib.hid hk
          clear hk r14
          have r14 := HK.out.sl Q14.out
          go_wp2_with fail
          go_loopw [7] (fun i wr => ∃ j : Nat, j ≤ n.yes.length ∧ i = .int .i64 j ∧ Tch S w.heap.size w1 wr) (fun i _ => n.yes.length - (intOf i).toNat)
          case atStart => exact ⟨0, Nat.zero_le _, rfl, HK.out⟩
          case round =>
            obtain ⟨j, hj, rfl, hk⟩ := hrel
            have r13 := hk.sl Q13.out
            by_cases hlt : j < n.yes.length
            · obtain ⟨b, off, rfl⟩ := H13.out.addr (by omega)
              obtain ⟨hb1, x0, _⟩ := SlI.cell H13.out hlt
              have t5 := H13.out.thaw (j := 0) hlt (by decide)
              simp only [List.length_cons, List.length_nil, Nat.zero_add, Nat.mul_one, Nat.add_zero] at t5
              have hS1 : S b := by
                obtain ⟨b4, off4, e4, h4, _⟩ := H13.out.rowAt (by omega)
                cases e4; exact h4
              have k0 : (0 : Int) ≤ (j : Int) := by omega
              have k1 : (j : Int) < (n.yes.length : Int) := by omega
              obtain ⟨⟨z5, p5⟩, t5'⟩ := hk.cell x0 t5
              have HK := Lib.hid (hk.set x0 nsl_int hS1 (.int .i64 77))
              clear x0 hk t5
              go_wp2_with fail
              go_roundw
              case rel => exact ⟨j + 1, by omega, by go_num, HK.out⟩
              case measure => simp [intOf]; omega
            · have k1 : ¬ (j : Int) < (n.yes.length : Int) := by omega
              have HK := Lib.hid hk
              clear hk r13
              have r13 := HK.out.sl Q13.out
              go_wp2_with fail
              go_loopw [8] (fun i wr => ∃ j : Nat, j ≤ o.messages.length ∧ i = .int .i64 j ∧ Tch S w.heap.size w1 wr) (fun i _ => o.messages.length - (intOf i).toNat)
              case atStart => exact ⟨0, Nat.zero_le _, rfl, HK.out⟩
              case round =>
                obtain ⟨j, hj, rfl, hk⟩ := hrel
                have r1 := hk.sl Q1.out
                by_cases hlt : j < o.messages.length
                · obtain ⟨b, off, rfl⟩ := HM.out.addr (by omega)
                  obtain ⟨hS1, hb1, g6, d6, g12, d12, g13, d13, x0, x1, x2, x3, x4, x5, x6, x7, x8, x9, x10, x11, x12, x13, x14, x15, x16, x17, y⟩ := Message.row HM.out hlt
                  have y6 := y.2.2.2.2.2.2.1
                  have y12 := y.2.2.2.2.2.2.2.2.2.2.2.1
                  generalize o.messages.getD j default = e at *
                  have k0 : (0 : Int) ≤ (j : Int) := by omega
                  have k1 : (j : Int) < (o.messages.length : Int) := by omega
                  have HK := Lib.hid hk
                  have F6 := Lib.hid y6
                  have F12 := Lib.hid y12
                  have E6 := Lib.hid x6
                  have E12 := Lib.hid x12
                  have n6 := y6.bd.2.2.1
                  have n12 := y12.bd.2.2.1
                  clear x0 x1 x2 x3 x4 x5 x6 x7 x8 x9 x10 x11 x12 x13 x14 x15 x16 x17 y y6 y12 hk
                  go_wp2_with fail
                  go_loopw [9] (fun i wr2 => ∃ m : Nat, m ≤ e.entries.length ∧ i = .int .i64 m ∧ Tch S w.heap.size w1 wr2) (fun i _ => e.entries.length - (intOf i).toNat)
                  case atStart => exact ⟨0, Nat.zero_le _, rfl, HK.out⟩
                  case round =>
                    obtain ⟨m, hm, rfl, hk2⟩ := hrel
                    rename World => wr2
                    have q6 := hk2.sl E6.out
                    have r1b := hk2.sl Q1.out
                    by_cases hlm : m < e.entries.length
                    · obtain ⟨b3, off3, rfl⟩ := F6.out.addr (by omega)
                      obtain ⟨hS3, hb3, _, _, _, _, z0, z1, z2, z3, z4, z5, _⟩ := Entry.row F6.out hlm
                      have t3 := F6.out.thaw (j := 5) hlm (by decide)
                      rw [show Entry.ty.length = 6 from rfl] at t3
                      have m0 : (0 : Int) ≤ (m : Int) := by omega
                      have m1 : (m : Int) < (e.entries.length : Int) := by omega
                      obtain ⟨⟨u3, g3⟩, t3'⟩ := hk2.cell z5 t3
                      have HK2 := Lib.hid (hk2.set z5 nsl_str hS3 (.string ⟨#[111, 118, 101, 114]⟩))
                      clear z0 z1 z2 z3 z4 z5 t3 hk2
                      go_wp2_with fail
                      go_roundw
                      case rel => exact ⟨m + 1, by omega, by go_num, HK2.out⟩
                      case measure => simp [intOf]; omega
                    · have m1 : ¬ (m : Int) < (e.entries.length : Int) := by omega
                      have HK2 := Lib.hid hk2
                      clear hk2 q6 r1b
                      have q6 := HK2.out.sl E6.out
                      have r1b := HK2.out.sl Q1.out
                      go_wp2_with fail
                      go_loopw [10] (fun i wr2 => ∃ m : Nat, m ≤ e.snap.config.voters.length ∧ i = .int .i64 m ∧ Tch S w.heap.size w1 wr2) (fun i _ => e.snap.config.voters.length - (intOf i).toNat)
                      case atStart => exact ⟨0, Nat.zero_le _, rfl, HK2.out⟩
                      case round =>
                        obtain ⟨m3, hm3, rfl, hk3⟩ := hrel
                        rename World => wr3
                        have q12 := hk3.sl E12.out
                        have r1c := hk3.sl Q1.out
                        by_cases hlm3 : m3 < e.snap.config.voters.length
                        · obtain ⟨b3, off3, rfl⟩ := F12.out.addr (by omega)
                          obtain ⟨hb3, c3, _⟩ := SlI.cell F12.out hlm3
                          have t3 := F12.out.thaw (j := 0) hlm3 (by decide)
                          simp only [List.length_cons, List.length_nil, Nat.zero_add, Nat.mul_one, Nat.add_zero] at t3
                          have hS3 : S b3 := by
                            obtain ⟨b4, off4, e4, h4, _⟩ := F12.out.rowAt (by omega)
                            cases e4; exact h4
                          have m0 : (0 : Int) ≤ (m3 : Int) := by omega
                          have m1 : (m3 : Int) < (e.snap.config.voters.length : Int) := by omega
                          obtain ⟨⟨z3, g3⟩, t3'⟩ := hk3.cell c3 t3
                          have HK3 := Lib.hid (hk3.set c3 nsl_int hS3 (.int .i64 77))
                          clear c3 t3 hk3
                          go_wp2_with fail
                          go_roundw
                          case rel => exact ⟨m3 + 1, by omega, by go_num, HK3.out⟩
                          case measure => simp [intOf]; omega
                        · have m1 : ¬ (m3 : Int) < (e.snap.config.voters.length : Int) := by omega
                          have HK3 := Lib.hid hk3
                          clear hk3
                          go_wp2_with fail
                          go_roundw
                          case rel => exact ⟨j + 1, by omega, by go_num, HK3.out⟩
                          case measure => simp [intOf]; omega
                · have k1 : ¬ (j : Int) < (o.messages.length : Int) := by omega
                  have HK := Lib.hid hk
                  clear hk r1
                  have r1 := HK.out.sl Q1.out
                  go_wp2_with fail
                  go_end0
                  exact ⟨⟨_, rfl⟩, BelowX.trans' HX.out HK.out.below⟩
theorem over_fn (n:Node) (o:Out):FnW Tryz.prog 17 [dNode.can n,dOut.can o] .any:=by
 refine ⟨fnB Tryz.func17 (by decide) rfl,fun w E vals hm hd=>?_⟩
 obtain ⟨v,u,rfl,⟨xs,rfl,hv⟩,⟨ys,rfl,hu⟩⟩:=two_arg hd
 refine (over_any xs ys n o w (E.set [0]) (fun b ⟨i,_,hs⟩=>(hm.lab i b hs).1) (Node.svs_rd hv) (Out.svs_rd hu)).mono ?_
 rintro e w' ⟨v,rfl,hb⟩
 exact ⟨v,rfl,fun _ _=>trivial,hb.os,hb.tape,hb.output,hb.size,fun b h1 h2=>hb.block b h1 fun h3=>h2 (Env.set_lab h3)⟩
def wOver:WEnt:=went2 17 dNode dOut fun n o=>([],.any)
theorem wOver_ok:WEntOk Tryz.prog wOver:=went2_ok (fnB Tryz.func17 (by decide) rfl) fun n o _=>over_fn n o
end Go.Proofs.YteabcgkjbnecaaaGreat
namespace Go.Proofs.YteabcgkjbnecaaaGreat
open Go.RowKit Go.ChangeShapes Go.WideShapes Go.Deep
abbrev D3t:List BE:=[.dead,.dead,.dead]
theorem mD3t (t:Nat):mOf D3t t=if t<3 then .dead else .empty:=by
 match t with
 | 0=>rfl
 | 1=>rfl
 | 2=>rfl
 | t+3=>rw [mOf_get,if_neg (by omega)];simp [List.getD]
def cxT (E:Env):Cx:=⟨fun b=>E.σ 1 b∨E.σ 2 b,1,fun i b=>E.σ i b,fun _=>none⟩
def FnT (P:Program) (f:FuncId) (ins:List SV) (r:SV):Prop:=
 FnB P f∧∀ (w:World) (E:Env) (vals:List Value),MemOk w.heap.size (cxT E) w E (mOf D3t) w→DenL E w ins vals→Calls P f vals.toArray w (fun e w'=>∃ v,e = .returned v∧(∀ E2 w2,DenV E2 w2 r v)∧BelowX w.heap.size (fun b=>E.σ 1 b∨E.σ 2 b) w w')
theorem FnT.of_vc {P : Program} {C : Cfg} {more : Nat → St → TypeId → Op → Option Upd} (hF : World.Fits P C more) {f : FuncId} {fn : Func} (hf : P.funcs[f]? = some fn) (hb : fn.body = some (bodyOf fn)) (hname : fn.name ≠ "runtime.NumGoroutine") {ins : List SV} (hins : Nat.ble ins.length fn.ntmps = true) (n : Nat) {r0 : SV}
  {p:(List PE→Prop)→Prop} (he:vc P ⟨fn,1,3,r0,D3t⟩ (fun _ _=>False) (exec P C more n (bodyOf fn) [] (st0 ins D3t fn.ntmps) ⟨[],[]⟩)=p (fun r=>vc P ⟨fn,1,3,r0,D3t⟩ (fun _ _=>False) ((exec P C more n (bodyOf fn) [] (st0 ins D3t fn.ntmps) ⟨[],[]⟩).at r)))
  (h0:p (fun r=>vc P ⟨fn,1,3,r0,D3t⟩ (fun _ _=>False) ((exec P C more n (bodyOf fn) [] (st0 ins D3t fn.ntmps) ⟨[],[]⟩).at r))):r0.gnd=true→FnT P f ins r0:=by
 intro hgnd
 have h:=h0
 rw [← he] at h
 clear he h0
 refine ⟨⟨fn,hf,hname,by rw [hb];rfl⟩,fun w E vals hm hd=>?_⟩
 have hX:Fit (cxT E) ⟨fn,1,3,r0,D3t⟩:=⟨rfl,fun t v hv=>by cases hv⟩
 have hden:=vc_den (base:=w.heap.size) (X:=cxT E) (w0:=w) hX (J:=fun _ _ _=>False) (fun _ _ h=>h.elim) _ h
 have hlen:vals.length=ins.length:=hd.len
 have hle:ins.length≤fn.ntmps:=Nat.le_of_ble_eq_true hins
 refine Calls.mono (calls_of_wp hf hb ((exec_ok hF.mixed hF.orc hF.loc hF.moreOk hF.moreLoc hF.wr n).1 (bodyOf fn) [] _ _ _ hden E _ w ⟨rfl,?_,fun i=>?_,hm⟩)) (fun e w' ⟨v,E',e1,hdv,hm'⟩=>⟨v,e1,fun _ _=>SV.gnd_den hgnd hdv,hm'.below⟩)
 ·simp [st0,hlen];omega
 ·have e:(vals.toArray++Array.replicate (fn.ntmps - vals.toArray.size) undef).getD i undef=(vals++List.replicate (fn.ntmps - ins.length) undef).getD i undef:=by
   simp only [Array.getD_eq_getD_getElem?,List.getD,← hlen]
   rw [← Array.getElem?_toList]
   simp
  rw [e]
  show DenV E w (lookA .any (asc 0 ins) i) _
  rw [asc_look,if_neg (by omega),Nat.sub_zero]
  by_cases hi:i<ins.length
  ·have:=hd.at i hi
   have e2:(vals++List.replicate (fn.ntmps - ins.length) undef).getD i undef=vals.getD i undef:=by
    simp only [List.getD]
    rw [List.getElem?_append_left (by omega)]
   rw [e2];exact this
  ·rw [show ins.getD i SV.any = .any by simp [List.getD,Nat.le_of_not_lt hi]];trivial
structure TEnt where
 f:FuncId
 al:List Nat
 go:List SV→Option (List Prop×SV)
def TEntOk (P:Program) (e:TEnt):Prop:=FnB P e.f∧∀ ins n r,e.go ins=some (n,r)→(∀ p∈n,p)→FnT P e.f ins r
def findT:List TEnt→FuncId→Option TEnt
 | [],_=>none
 | e::r,f=>bif Nat.beq e.f f then some e else findT r f
theorem findT_mem : ∀ {tab : List TEnt} {f : FuncId} {e : TEnt}, findT tab f = some e → e ∈ tab ∧ e.f = f
  | [], _, _, h => by simp [findT] at h
  | a :: r, f, e, h => by
    simp only [findT] at h
    cases hb : Nat.beq a.f f
    · rw [hb] at h
      obtain ⟨h1, h2⟩ := findT_mem (tab := r) h
      exact ⟨List.mem_cons_of_mem _ h1, h2⟩
    · rw [hb] at h
      simp only [cond_true, Option.some.injEq] at h
      subst h
      exact ⟨List.mem_cons_self .., Nat.eq_of_beq_eq_true hb⟩
def clT (m:Nat→BE) (al:List Nat) (svs:List SV):Cl:=⟨⟨m,[]⟩,al,[],3,svs⟩
def Cl.okT (q:Cl):Bool:=fnP q.LP&&q.LP.all (fun p=>Nat.blt p.1 3)&&q.OP.isEmpty
def orwU (wtab : List WEnt) (tab : List TEnt) (f : FuncId) (st : St) (svs : List SV) : Option (List Prop × List Nat × SV) :=
  match findT tab f with
  | none => orwT wtab f st svs
  | some e => if (clT st.m e.al svs).okT then (match e.go (clT st.m e.al svs).ins with
    | some (n, r) => some ((clT st.m e.al svs).needs ++ n, ((clT st.m e.al svs).LP.filter fun p => Nat.ble 1 p.1).map (·.2), r)
    | none => none) else none
theorem orwU_ok {P : Program} {wtab : List WEnt} {tab : List TEnt} (hw : ∀ e ∈ wtab, WEntOk P e) (ht : ∀ e ∈ tab, TEntOk P e) (kd : TypeId → Option RL) (oc : Nat → FuncId → St → List SV → Option Upd) : WOk P ⟨kd, oc, orwU wtab tab⟩ := by
  intro f st svs n ls r h
  have h2 : orwU wtab tab f st svs = some (n, ls, r) := h
  clear h
  unfold orwU at h2
  split at h2
  case h_1 => exact orwT_ok hw kd oc f st svs n ls r h2
  rename_i e he
  obtain ⟨hin, rfl⟩ := findT_mem he
  obtain ⟨hB, hE⟩ := ht e hin
  refine ⟨hB, fun base X w0 E w vals hm hd hn => ?_⟩
  split at h2
  case isFalse => simp at h2
  rename_i hck
  simp only [Cl.okT, Bool.and_eq_true] at hck
  obtain ⟨⟨hfn, hlt⟩, hop⟩ := hck
  split at h2
  case h_2 => simp at h2
  rename_i n2 r2 hgo
  simp only [Option.some.injEq, Prod.mk.injEq] at h2
  obtain ⟨rfl, rfl, rfl⟩ := h2
  obtain ⟨q, hq⟩ : ∃ q, clT st.m e.al svs = q := ⟨_, rfl⟩
  have hqm : q.V.m = st.m := by rw [← hq]; rfl
  have hqT : q.V.T = [] := by rw [← hq]; rfl
  have hqs : q.svs = svs := by rw [← hq]; rfl
  have hqa : q.al = e.al := by rw [← hq]; rfl
  rw [hq] at hfn hlt hop hgo hn
  have hOP : q.OP = [] := List.isEmpty_iff.1 hop
  have hm' : MemOk base X w0 E q.V.m w := by rw [hqm]; exact hm
  have hσ : ∀ i b, (q.env E).σ i b → ∃ j, (i, j) ∈ q.LP ∧ E.σ j b := fun i b hi => by
    rcases hi with h | ⟨t, ht, _⟩
    · exact h
    · rw [hOP] at ht; cases ht
  have hl3 : ∀ i b, (q.env E).σ i b → i < 3 := fun i b hi => by
    obtain ⟨j, hj, _⟩ := hσ i b hi
    have := List.all_eq_true.1 hlt _ hj
    simp [Nat.blt] at this; omega
  have hno : ∀ {E : Env} {t b : Nat}, ¬ Has E (mOf D3t) t b := fun {E t b} hh => by
    have := hh.1
    rw [mD3t] at this
    split at this <;> cases this
  have hl : ∀ t, (mOf D3t t).live = false := by intro t; rw [mD3t]; split <;> rfl
  have hmT : MemOk w.heap.size (cxT (q.env E)) w (q.env E) (mOf D3t) w := by
    refine ⟨fun t ht => ⟨?_, fun b hb => ?_⟩, fun t T vs ht => ?_, fun t T ls r ht => ?_, fun i b hb => ⟨?_, fun h1 => ?_⟩, fun i j b hi hj => ?_, fun i hi => ?_, fun t b hh => absurd hh hno, fun i b hi hb => hb, fun t u b h1 => absurd h1 hno, fun t v hv => (by cases hv), BelowX.refl _ _ _, Nat.le_refl _⟩
    · match t with
      | 0 => rfl
      | 1 => rfl
      | t + 2 =>
        show (match q.V.T[t]? with | some u => E.β u | none => none) = none
        rw [hqT]; rfl
    · have := hl3 t b hb
      rw [mD3t, if_pos this] at ht; cases ht
    · have := hl t; rw [ht] at this; cases this
    · have := hl t; rw [ht] at this; cases this
    · obtain ⟨j, _, hj⟩ := hσ i b hb
      exact (hm.lab j b hj).1
    · have h3 := hl3 i b hb
      have h12 : i = 1 ∨ i = 2 := by
        have : 1 ≤ i := h1
        omega
      exact .inr (by rcases h12 with rfl | rfl; exact .inl hb; exact .inr hb)
    · obtain ⟨i', hi1, hi2⟩ := hσ i b hi
      obtain ⟨j', hj1, hj2⟩ := hσ j b hj
      have := hm.dis _ _ b hi2 hj2
      subst this
      exact fnP_ok hfn hi1 hj1
    · have : i = 0 := by
        have : i < 1 := hi
        omega
      subst this
      rw [mD3t]; simp
  have hda : DenL (q.env E) w q.ins vals := by
    have := Cl.denA (q := q) hm' svs e.al vals (fun p hp => by rw [Cl.LP, hqs, hqa]; exact List.mem_append_left _ hp) (fun p hp => by rw [Cl.OP, hqs, hqa]; exact List.mem_append_left _ hp) hd (fun p hp => hn p (List.mem_append_left _ (List.mem_append_left _ (by rw [Cl.aV, hqs, hqa]; exact hp))))
    rw [Cl.ins, Cl.aV, hqs, hqa]; exact this
  refine Calls.mono ((hE _ _ _ hgo (fun p hp => hn p (List.mem_append_right _ hp))).2 w _ vals hmT hda) ?_
  rintro e' w' ⟨v, rfl, hrr, hBl⟩
  refine ⟨v, rfl, hrr, hBl.os, hBl.tape, hBl.output, hBl.size, fun b hb hns => hBl.block b hb (fun h => hns ?_)⟩
  rw [hq]
  rcases h with h | h
  all_goals
    obtain ⟨j, hj, hs⟩ := hσ _ _ h
    exact ⟨j, List.mem_map.2 ⟨_, List.mem_filter.2 ⟨hj, rfl⟩, rfl⟩, hs⟩
theorem ttab_nil {P:Program}:∀ e∈([]:List TEnt),TEntOk P e:=fun _ h=>by cases h
theorem ttab_cons {P:Program} {e:TEnt} {tab:List TEnt} (h:TEntOk P e) (ht:∀ e∈tab,TEntOk P e):∀ x∈e::tab,TEntOk P x:=by
 intro x hx
 rcases List.mem_cons.1 hx with rfl | hx
 ·exact h
 ·exact ht x hx
theorem fitsU {tab:List Ent} {wtab:List WEnt} {ttab:List TEnt} (h:∀ e∈tab,EntOk Tryz.prog e) (hw:∀ e∈wtab,WEntOk Tryz.prog e) (ht:∀ e∈ttab,TEntOk Tryz.prog e) (kd:TypeId→Option RL):World.Fits Tryz.prog ⟨kd,orcT tab,orwU wtab ttab⟩ (moreA Tryz.prog):=⟨by kernel_rfl,orcT_ok h kd _,orcT_loc tab kd _,moreA_ok _,moreA_loc _,orwU_ok hw ht kd _⟩
end Go.Proofs.YteabcgkjbnecaaaGreat
namespace Go.Proofs.YteabcgkjbnecaaaGreat
open Go.RowKit Go.ChangeShapes Go.WideShapes Go.Deep
set_option maxRecDepth 100000
def dNode1:DecL Node:=dNode.lab 1 (fun x=>x.svs [1]) fun x E w v ⟨xs,hv,hl⟩=>⟨xs,hv,Node.svs_of (RdL.mono (fun b _ hb=>Env.sh_set hb) (Node.svs_rd hl))⟩
def dOut2:DecL Out:=dOut.lab 2 (fun x=>x.svs [2]) fun x E w v ⟨xs,hv,hl⟩=>⟨xs,hv,Out.svs_of (RdL.mono (fun b _ hb=>Env.sh_set hb) (Out.svs_rd hl))⟩
def toldB (x:Node) (o:Out) (e:Int) (y:Node) (p:Out) (f:Int) (n m:Node):Bool:=e==f&&decide (x=y)&&decide (o=p)&&decide (n=m)
def tabOt:List Ent:=[eKNodes,eLOuts]
theorem tabOt_ok:∀ e∈tabOt,EntOk Tryz.prog e:=tab_cons eKNodes_ok (tab_cons eLOuts_ok tab_nil)
theorem told_fn (x:Node) (o:Out) (e:Int) (y:Node) (p:Out) (f:Int) (n m:Node):FnT Tryz.prog 27 [dNode1.can x,dOut2.can o,dInt.L.can e,dNode.L.can y,dOut.L.can p,dInt.L.can f,dNode.L.can n,dNode.L.can m] (.bool (toldB x o e y p f n m)):=by
 refine FnT.of_vc (fitsW tabOt_ok (wtab_cons wOver_ok wtab_nil) fun _=>none) Tryz.func27 rfl (by decide) rfl 300 (p:=fun (V:List PE→Prop)=>let v0:=pickB (e==f) (decide (x=y)) false;let v1:=pickB v0 (decide (o=p)) false;let v2:=pickB v1 (decide (o=p)) false;True∧True∧True∧True∧true=true∧True∧True∧true=true∧(((e==f)=true→(e==f)=true)∧(v0=true→v0=true)∧(v1=true→v1=true)∧(v2=true→v2=true)∧(v2=true→v2=true)∧(v2=true→v2=true)∧True)∧pickB v2 (decide (n=m)) false=toldB x o e y p f n m∧True) (by kernel_rfl) ?_ rfl
 simp only [imp_self,implies_true,true_and,and_true,pickB_f,pickB_t]
 unfold toldB
 by_cases h:o=p<;>simp [h]
def goT8 (ins : List SV) : Option (List Prop × SV) := match ins with
  | [a, b, c, d, e, f, g, h] => match dNode1.dec a, dOut2.dec b, dInt.L.dec c, dNode.L.dec d with
    | some x, some o, some e1, some y => match dOut.L.dec e, dInt.L.dec f, dNode.L.dec g, dNode.L.dec h with
      | some p, some f1, some n, some m => some ([], .bool (toldB x o e1 y p f1 n m))
      | _, _, _, _ => none
    | _, _, _, _ => none
  | _ => none
def tTold:TEnt:=⟨27,[1,2,0,0,0,0,0,0],goT8⟩
theorem tTold_ok : TEntOk Tryz.prog tTold := by
  refine ⟨fnB Tryz.func27 (by decide) rfl, fun ins n r hg hn => ?_⟩
  change goT8 ins = some (n, r) at hg
  unfold goT8 at hg
  split at hg
  case h_2 => simp at hg
  rename_i a b c d e f g h
  split at hg
  case h_2 => simp at hg
  rename_i x o e1 y q1 q2 q3 q4
  split at hg
  case h_2 => simp at hg
  rename_i p f1 n1 m q5 q6 q7 q8
  simp only [Option.some.injEq, Prod.mk.injEq] at hg
  obtain ⟨rfl, rfl⟩ := hg
  refine ⟨fnB Tryz.func27 (by decide) rfl, fun w E vals hm hd => ?_⟩
  match vals, hd with
  | [v1, v2, v3, v4, v5, v6, v7, v8], ⟨h1, h2, h3, h4, h5, h6, h7, h8, _⟩ =>
    exact (told_fn x o e1 y p f1 n1 m).2 w E _ hm ⟨dNode1.ok _ _ q1 _ _ _ h1, dOut2.ok _ _ q2 _ _ _ h2, dInt.L.ok _ _ q3 _ _ _ h3, dNode.L.ok _ _ q4 _ _ _ h4, dOut.L.ok _ _ q5 _ _ _ h5, dInt.L.ok _ _ q6 _ _ _ h6, dNode.L.ok _ _ q7 _ _ _ h7, dNode.L.ok _ _ q8 _ _ _ h8, trivial⟩
theorem cntE_le {e : Entry} : ∀ {l : List Entry}, e ∈ l → cntE e ≤ cntL l
  | x :: l, h => by
    rcases List.mem_cons.1 h with rfl | h
    · simp only [cntL]; omega
    · have := cntE_le (l := l) h
      simp only [cntL]; omega
theorem few_of {n:Node} {m:Message} (h:largeN n m=false):Few 5000 (stepZ n):=by
 unfold largeN baseL at h
 simp only [decide_eq_false_iff_not] at h
 refine ⟨by show n.kept.entries.length≤_;omega,fun e he=>?_,⟨by show n.kept.snap.config.voters.length≤_;omega,by show n.kept.snap.config.learners.length≤_;omega⟩,by show n.yes.length≤_;omega,by show n.peers.length≤_;omega,by show n.reads.length≤_;omega,Nat.zero_le _,Nat.zero_le _,Nat.zero_le _,Nat.zero_le _⟩
 have he:e∈n.kept.entries:=he
 have:=cntE_le he
 unfold cntE at this
 exact ⟨by omega,by omega⟩
def eLarge:Ent:=ent2 12 dNode dMessage fun n m=>([],.bool (largeN n m),D2)
theorem eLarge_ok:EntOk Tryz.prog eLarge:=ent2_ok (large_fn default default).1 fun n m _=>large_fn n m
theorem den_node {w:World} {vs:List Value} {x:Node} (h:RdL w (fun b=>b<w.heap.size) Node.ty vs x.enc):DenV (E0 fun b=>b<w.heap.size) w (.agg (x.svs [0])) (.agg vs.toArray):=
 ⟨vs,rfl,Node.svs_of (h.mono fun b _ hb=>E0_set hb)⟩
end Go.Proofs.YteabcgkjbnecaaaGreat
namespace Go.Proofs.YteabcgkjbnecaaaGreat
open Go.RowKit Go.ChangeShapes Go.WideShapes Go.Deep
def spX:Code→List Code
 | .seq a .ret=>[]
 | .seq a b=>a::spX b
 | _=>[]
def spT:Code→Code
 | .seq a .ret=> .seq a .ret
 | .seq a b=>spT b
 | c=>c
def spine:List Code→Code→Code
 | [],t=>t
 | x::xs,t=> .seq x (spine xs t)
def bindN:Tr→(St→Tr)→Tr
 | .nrm st _,f=>f st
 | .ret st,_=> .ret st
 | .need ps t,f=> .need ps (bindN t f)
 | .br b x y,f=> .br b (bindN x f) (bindN y f)
 | .brp p q x y,f=> .brp p q (bindN x f) (bindN y f)
 | .lab ls t,f=> .lab ls (bindN t f)
 | .hav r t,f=> .hav r fun q=>bindN (t q) f
 | .ext _ st,_=> .stuck 3 none st
 | .back _ st,_=> .stuck 4 none st
 | .loop _ _ st,_=> .stuck 5 none st
 | .stuck c o st,_=> .stuck c o st
section
variable {P : Program} {base : Nat} {X : Cx} {w0 : World} {J : Nat → Act → World → Prop} {Q Q' : Exit → Act → World → Prop}
theorem bindN_den {f:St→Tr} (hr:∀ a w,Q .ret a w→Q' .ret a w) (hf:∀ st,den P base X w0 J Q (f st)→∀ E a w,st.Ok base X w0 E a w→Q' .normal a w):∀ (t:Tr),den P base X w0 J Q (bindN t f)→den P base X w0 J Q' t
 | .nrm st _,h=>hf st h
 | .ret st,h=>fun E a w ho=>hr a w (h E a w ho)
 | .need ps t,h=>⟨h.1,bindN_den hr hf t h.2⟩
 | .br b x y,h=>⟨fun e=>bindN_den hr hf x (h.1 e),fun e=>bindN_den hr hf y (h.2 e)⟩
 | .brp p q x y,h=>⟨fun e=>bindN_den hr hf x (h.1 e),fun e=>bindN_den hr hf y (h.2 e)⟩
 | .lab ls t,h=>⟨h.1,bindN_den hr hf t h.2⟩
 | .hav r t,h=>RL.All_mono h fun q hq=>bindN_den hr hf (t q) hq
 | .ext _ st,h=>h.elim
 | .back _ st,h=>h.elim
 | .loop _ _ st,h=>h.elim
 | .stuck _ _ _,h=>h.elim
theorem qOf_codes {tail:Act→World→Prop}:∀ (xs:List Code) (e:Exit) (a:Act) (w:World),e ≠ .normal→qOf P J (xs.map .code) (Exit.then tail Q) e a w→Q e a w
 | [],e,a,w,hne,h=>by cases e<;>first | exact absurd rfl hne | exact h
 | x::xs,e,a,w,hne,h=>qOf_codes xs e a w hne (by cases e<;>first | exact absurd rfl hne | exact h)
theorem spine_wp {t : Code} : ∀ (xs : List Code) (x : Code) (a : Act) (w : World), x.wp P (qOf P J (xs.map .code) (Exit.then (t.wp P Q) Q)) a w → (spine (x :: xs) t).wp P Q a w
  | [], x, a, w, h => wp_seq h
  | y :: ys, x, a, w, h => by
    refine wp_seq (Code.wp_mono (fun e a2 w2 hq => ?_) h)
    have hne : e ≠ .normal → (Exit.then ((spine (y :: ys) t).wp P Q) Q) e a2 w2 := fun hne => by
      have := qOf_codes (y :: ys) e a2 w2 hne hq
      cases e <;> first | exact absurd rfl hne | exact this
    by_cases hn : e = .normal
    · subst hn
      exact spine_wp ys y a2 w2 hq
    · exact hne hn
end
def cutF (tf : FuncId) : List Oper → Option (List Oper × Oper × List Oper)
  | [] => none
  | o :: r => match o.op with
    | .call ⟨.value (.func f), _, _⟩ => bif Nat.beq f tf then some ([], o, r) else (match cutF tf r with
      | some (a, b, c) => some (o :: a, b, c)
      | none => none)
    | _ => match cutF tf r with
      | some (a, b, c) => some (o :: a, b, c)
      | none => none
theorem cutF_ok {tf : FuncId} : ∀ {l a : List Oper} {b : Oper} {c : List Oper}, cutF tf l = some (a, b, c) → l = a ++ b :: c
  | [], _, _, _, h => by cases h
  | o :: r, a, b, c, h => by
    have tl : ∀ {x : Option (List Oper × Oper × List Oper)}, x = cutF tf r → (match x with | some (a, b, c) => some (o :: a, b, c) | none => none) = some (a, b, c) → o :: r = a ++ b :: c := by
      intro x hx h
      split at h
      · rename_i a' b' c'
        simp only [Option.some.injEq, Prod.mk.injEq] at h
        obtain ⟨rfl, rfl, rfl⟩ := h
        rw [cutF_ok hx.symm]; rfl
      · cases h
    unfold cutF at h
    split at h
    · rename_i f xs ts hop
      cases hb : Nat.beq f tf
      · rw [hb] at h
        exact tl rfl h
      · rw [hb] at h
        simp only [cond_true, Option.some.injEq, Prod.mk.injEq] at h
        obtain ⟨rfl, rfl, rfl⟩ := h
        rfl
    · exact tl rfl h
def cWrG (C : Cfg) (ops : Array Oper) (st : St) (o : Oper) : Option (List Prop × List Nat × SV) :=
  match o.op, (match o.guard with | none => some true | some (j, pol) => guardB ops st j pol) with
  | .call ⟨.value (.func f), xs, ts⟩, some true => match C.orw f st ((evL st xs.toList).1.map fun s => (strip s).1) with
    | some (n, ls, r) => some ((evL st xs.toList).2 ++ (evL st xs.toList).1.flatMap (fun s => (strip s).2) ++ n, ls, r)
    | none => none
  | _, _ => none
theorem stripL_ok {E:Env} {w:World}:∀ (ss:List SV) (vs:List Value),(∀ p∈ss.flatMap (fun s=>(strip s).2),p)→DenL E w ss vs→DenL E w (ss.map fun s=>(strip s).1) vs
 | [],[],_,_=>trivial
 | s::ss,v::vs,hn,hd=>⟨strip_ok hd.1 (fun p hp=>hn p (List.mem_append_left _ hp)),stripL_ok ss vs (fun p hp=>hn p (List.mem_append_right _ hp)) hd.2⟩
 | [],_::_,_,hd=>hd.elim
 | _::_,[],_,hd=>hd.elim
section
variable {P : Program} {base : Nat} {X : Cx} {w0 : World} {E : Env} {a : Act} {w : World}
theorem cWrG_ok {C : Cfg} (hW : WOk P C) {st : St} {o : Oper} {ops : Array Oper} {ns : List Prop} {ls : List Nat} {r : SV} (h : cWrG C ops st o = some (ns, ls, r)) (hn : ∀ p ∈ ns, p) (hnl : ∀ i, i ∈ ls → X.nl ≤ i) {Q2 : Exit → Act → World → Prop} {rest : List Oper}
    (ho : st.Ok base X w0 E a w) (hk : ∀ a' w', (wrSt ls o.dst r st).Ok base X w0 E a' w' → wpList P ops Q2 rest a' w') : wpList P ops Q2 (o :: rest) a w := by
  unfold cWrG at h
  split at h
  case h_2 => simp at h
  rename_i f xs ts hop hgd
  split at h
  case h_2 => simp at h
  rename_i n ls2 r2 hc
  simp only [Option.some.injEq, Prod.mk.injEq] at h
  obtain ⟨rfl, rfl, rfl⟩ := h
  obtain ⟨hf, hcall⟩ := hW _ _ _ _ _ _ hc
  have hd := evL_ok ho xs.toList (fun p hp => hn p (List.mem_append_left _ (List.mem_append_left _ hp)))
  have hd2 := stripL_ok _ _ (fun p hp => hn p (List.mem_append_left _ (List.mem_append_right _ hp))) hd
  have hwant : Region.wanted o (yielded ops a.tmps) = true := by
    cases hg : o.guard with
    | none => simp only [Region.wanted, hg]
    | some jp =>
      obtain ⟨j, pol⟩ := jp
      rw [hg] at hgd
      exact guardB_ok ho hg hgd
  refine wpList_step fun K hK => ?_
  rw [if_pos hwant]
  have hrun : (execOp a.eval o).run P w = .ok (.enter f (xs.toList.map a.eval).toArray) w := by
    have e : xs.map a.eval = (xs.toList.map a.eval).toArray := by rw [← Array.toList_map]
    simp only [execOp, hop, resolve, Act.eval, Deferred.ofValue, Sem.run_bind, Sem.run_pure, Result.andThen, invoke, e]
    simp [run_callFunc hf]
  unfold Oper.wp
  rw [hrun]
  refine Calls.mono (hcall base X w0 E w _ ho.mem hd2 (fun p hp => hn p (List.mem_append_right _ hp))) ?_
  rintro e w' ⟨v, rfl, hr, hB⟩
  obtain ⟨k1, k2⟩ := ho.mem.wcut hnl hB
  refine hK _ _ (hk _ _ ?_)
  have hst : (St.mk (hvTm ls2 st.tm) st.nt (cutMm ls2 st.mm) st.nx).Ok base X w0 E a w' := by
    refine ⟨ho.defers, ho.size, fun i => ?_, ?_⟩
    · show DenV E _ (lookA .any (hvTm ls2 st.tm) i) _
      rw [hvTm_look]
      have hi := ho.tm i
      show DenV E _ (hvS ls2 (st.s i)) _
      unfold hvS
      cases hcl : SV.cl ls2 (st.s i)
      · trivial
      · exact k1 _ _ hcl hi
    · have e : (St.mk (hvTm ls2 st.tm) st.nt (cutMm ls2 st.mm) st.nx).m = fun t => cutE ls2 (st.m t) := by
        funext t; exact cutMm_look ls2 st.mm t
      rw [e]; exact k2
  exact hst.next (u := ⟨[], r2, []⟩) (Env.Le.refl E) Same.rfl' (v := v) (hr _ _) hst.mem
def tailT (P : Program) (C : Cfg) (more : Nat → St → TypeId → Op → Option Upd) (tf : FuncId) (t : Code) (st : St) : Tr :=
  match t with
  | .seq (.region id ops false) .ret => match cutF tf ops.toList with
    | some (l1, o1, l2) => match runU P C more ops st.nx l1 (st.grow (widS ops.toList)) with
      | .ok us rs st2 => match cWrG C ops st2 o1 with
        | some (ns, ls, r) => match runU P C more ops (st.nx + widS l1 + 24) l2 (wrSt ls o1.dst r st2) with
          | .ok us2 rs2 st3 => .need (us.flatMap (fun x => x.2.needs) ++ ns) (.lab ls (.need (us2.flatMap (fun x => x.2.needs)) (.ret st3)))
          | .bad c o s => .stuck c (some o) s
        | none => .stuck 6 (some o1.op) st2
      | .bad c o s => .stuck c (some o) s
    | none => .stuck 7 none st
  | _ => .stuck 8 none st
theorem tailT_ok {C:Cfg} {more:Nat→St→TypeId→Op→Option Upd} (hC:OrcOk P C) (hM:MoreOk P more) (hW:WOk P C) {J:Nat→Act→World→Prop} {Q:Exit→Act→World→Prop} {tf:FuncId} {t:Code} {st:St} (h:den P base X w0 J Q (tailT P C more tf t st)) (ho:st.Ok base X w0 E a w):t.wp P Q a w:=by
 unfold tailT at h
 split at h
 case h_2=>exact h.elim
 rename_i id ops
 split at h
 case h_2=>exact h.elim
 rename_i l1 o1 l2 hcut
 split at h
 case h_2=>exact h.elim
 rename_i us rs st2 hr1
 split at h
 case h_2=>exact h.elim
 rename_i ns ls r hcw
 split at h
 case h_2=>exact h.elim
 rename_i us2 rs2 st3 hr2
 obtain ⟨hn,hnl,hn2,hret⟩:=h
 refine wp_seq (wp_region_list ?_)
 rw [cutF_ok hcut]
 refine runOps_app hC hM _ _ _ _ _ (runU_ops _ _ _ _ _ _ hr1) (fun p hp=>hn p (List.mem_append_left _ hp)) (fun E' a' w' h'=>?_) E a w (ho.grow _)
 refine cWrG_ok hW hcw (fun p hp=>hn p (List.mem_append_right _ hp)) hnl h' (fun a2 w2 hOk=>?_)
 exact runOps_ok hC hM _ _ _ _ _ (runU_ops _ _ _ _ _ _ hr2) hn2 (fun E3 a3 w3 h3=>wp_ret (hret E3 a3 w3 h3)) _ _ _ hOk
end
def tailX (P:Program) (C:Cfg) (more:Nat→St→TypeId→Op→Option Upd) (n:Nat) (tf:FuncId) (c:Code) (st:St):Tr:=
 match spX c with
 | []=> .stuck 9 none st
 | x::xs=>bindN (exec P C more n x (xs.map .code) st ⟨[],[]⟩) (tailT P C more tf (spT c))
theorem FnG.of_vc_tail {P : Program} {C : Cfg} {more : Nat → St → TypeId → Op → Option Upd} (hF : World.Fits P C more) {f : FuncId} {fn : Func} (hf : P.funcs[f]? = some fn) (hb : fn.body = some (bodyOf fn)) (hname : fn.name ≠ "runtime.NumGoroutine") (hs : spine (spX (bodyOf fn)) (spT (bodyOf fn)) = bodyOf fn) {nl : Nat} {mi : List BE} {ins : List SV} {out : SV} {mo : List BE} (hins : Nat.ble ins.length fn.ntmps = true) (n : Nat) (tf : FuncId)
    {p : (List PE → Prop) → Prop} (he : vc P ⟨fn, nl, mi.length, out, mo⟩ (fun _ _ => False) (tailX P C more n tf (bodyOf fn) (st0 ins mi fn.ntmps)) = p (fun r => vc P ⟨fn, nl, mi.length, out, mo⟩ (fun _ _ => False) ((tailX P C more n tf (bodyOf fn) (st0 ins mi fn.ntmps)).at r)))
    (h0 : p (fun r => vc P ⟨fn, nl, mi.length, out, mo⟩ (fun _ _ => False) ((tailX P C more n tf (bodyOf fn) (st0 ins mi fn.ntmps)).at r))) : FnG P f nl mi ins out mo := by
  have h := h0
  rw [← he] at h
  clear he h0
  refine ⟨⟨fn, hf, hname, by rw [hb]; rfl⟩, fun w E vals hm hd => ?_⟩
  refine calls_of_wp hf hb ?_
  have hX : Fit (cxIn E mi nl) ⟨fn, nl, mi.length, out, mo⟩ := ⟨rfl, fun t v hv => by
    have hv : (if t < mi.length then E.β t else none) = some v := hv
    split at hv
    · assumption
    · cases hv⟩
  have hden := vc_den (base := w.heap.size) (X := cxIn E mi nl) (w0 := w) hX (J := fun _ _ _ => False) (fun _ _ h => h.elim) _ h
  have hlen : vals.length = ins.length := hd.len
  have hle : ins.length ≤ fn.ntmps := Nat.le_of_ble_eq_true hins
  rw [← hs]
  generalize hsx : spX (bodyOf fn) = sx
  generalize hst : spT (bodyOf fn) = stl
  unfold tailX at hden
  rw [hsx, hst] at hden
  cases sx with
  | nil => exact hden.elim
  | cons x xs =>
    obtain ⟨Q, hQ⟩ : ∃ Q, bodyPost P fn (RpO out mo w.heap.size (cxIn E mi nl) w) = Q := ⟨_, rfl⟩
    have hden2 : den P w.heap.size (cxIn E mi nl) w (fun _ _ _ => False) Q (bindN (exec P C more n x (xs.map .code) (st0 ins mi fn.ntmps) ⟨[], []⟩) (tailT P C more tf stl)) := by rw [← hQ]; exact hden
    have hd2 := bindN_den (Q := Q) (Q' := Exit.then (stl.wp P Q) Q) (fun a w h => h) (fun st h E a w ho => tailT_ok hF.orc hF.moreOk hF.wr h ho) _ hden2
    show (spine (x :: xs) stl).wp P (bodyPost P fn (RpO out mo w.heap.size (cxIn E mi nl) w)) _ w
    rw [hQ]
    refine spine_wp (J := fun _ _ _ => False) xs x _ _ ?_
    refine (exec_ok hF.mixed hF.orc hF.loc hF.moreOk hF.moreLoc hF.wr n).1 x (xs.map .code) _ _ _ hd2 E _ w ⟨rfl, ?_, fun i => ?_, hm⟩
    · simp [st0, hlen]; omega
    · have e : (vals.toArray ++ Array.replicate (fn.ntmps - vals.toArray.size) undef).getD i undef = (vals ++ List.replicate (fn.ntmps - ins.length) undef).getD i undef := by
        simp only [Array.getD_eq_getD_getElem?, List.getD, ← hlen]
        rw [← Array.getElem?_toList]
        simp
      rw [e]
      show DenV E w (lookA .any (asc 0 ins) i) _
      rw [asc_look, if_neg (by omega), Nat.sub_zero]
      by_cases hi : i < ins.length
      · have := hd.at i hi
        have e2 : (vals ++ List.replicate (fn.ntmps - ins.length) undef).getD i undef = vals.getD i undef := by
          simp only [List.getD]
          rw [List.getElem?_append_left (by omega)]
        rw [e2]; exact this
      · rw [show ins.getD i SV.any = .any by simp [List.getD, Nat.le_of_not_lt hi]]; trivial
attribute [irreducible] bindN tailT tailX
end Go.Proofs.YteabcgkjbnecaaaGreat
namespace Go.Proofs.YteabcgkjbnecaaaGreat
open Go.RowKit Go.ChangeShapes Go.WideShapes Go.Deep
set_option maxRecDepth 100000
theorem rownF_fn (n:Node) (hn:SmallN n):FnC Tryz.prog 24 [dNode.can n] (.agg (n.svs [1])) D2:=by
 refine FnG.of_vc (fitsT (tab_cons eROwn_ok tab_nil) fun _=>none) Tryz.func24 rfl (by decide) rfl 300 (p:=fun (V:List PE→Prop)=>let v0:=Node.yes n;let v1:=Node.reads n;let v2:=Node.peers n;let v3:=Node.kept n;let v4:=v3.snap;let v5:=v3.term;let v6:=v3.vote;let v7:=v3.entries;let v8:=v4.term;let v9:=v4.index;let v10:=v4.config;let v11:=List.length v1;let v12:=List.length v0;let v13:=v4.data;let v14:=List.length v2;let v15:=v10.voters;let v16:=v10.learners;True∧(SmallK v3∧True)∧True∧(((0:Nat)+v12)*(1024:Nat)≤(140737488355328:Nat)∧True)∧True∧True∧(((0:Nat)+v14)*(1024:Nat)≤(140737488355328:Nat)∧True)∧True∧True∧(((0:Nat)+v11)*(1024:Nat)≤(140737488355328:Nat)∧True)∧True∧True∧Node.id n=Node.id n∧Node.role n=Node.role n∧v5=v5∧v6=v6∧v9=v9∧v8=v8∧v15=v15∧v16=v16∧v13=v13∧v7=v7∧Node.commit n=Node.commit n∧Node.lead n=Node.lead n∧Node.elapsed n=Node.elapsed n∧v0=v0∧v12≤(17592186044416:Nat)∧v2=v2∧v14≤(17592186044416:Nat)∧Node.round n=Node.round n∧v1=v1∧v11≤(17592186044416:Nat)∧True) (by kernel_rfl) ?_
 simp only [imp_self,implies_true,true_and,and_true,pickB_f,pickB_t]
 obtain ⟨b1,b2,b3,b4,b5⟩:=hn.ls
 have h1:=hn.yes
 have h2:=hn.peers
 have h3:=hn.reads
 exact ⟨hn.k,by omega,by omega,by omega,by omega,by omega,by omega⟩
def eROwnF:Ent:=ent1 24 dNode fun n=>([SmallN n],.agg (n.svs [1]),D2)
theorem eROwnF_ok:EntOk Tryz.prog eROwnF:=ent1_ok (fnB Tryz.func24 (by decide) rfl) fun n h=>rownF_fn n (h _ (by simp))
def ttabD:List TEnt:=[tTold]
theorem ttabD_ok:∀ e∈ttabD,TEntOk Tryz.prog e:=ttab_cons tTold_ok ttab_nil
def okE (m:Message) (i:Nat):Bool:=okx m.index (m.entries.getD i default) i&&!((m.entries.getD i default).kind==2&&!mayC (m.entries.getD i default).config)
def entsB (m:Message):Bool:=decide (m.entries.length≤8)&&(List.range m.entries.length).all (okE m)
def headB (n:Node) (m:Message):Bool:=m.to_==n.id&&m.from_ != n.id&&wi 4 (IntKind.i64.wrap (m.from_ - 1))&&decide (1≤m.kind)&&decide (m.kind≤7)&&wi 899999999 (IntKind.i64.wrap (m.term - 1))
def bodyB (m:Message):Bool:=if m.kind=7 then wi 899999999 (IntKind.i64.wrap (m.snap.index - 1))&&mayC m.snap.config else if m.kind=5 then entsB m else true
def mayM (n:Node) (m:Message):Bool:=headB n m&&bodyB m
structure SmallM (m:Message):Prop where
 e:SmallL m.entries
 s:SmallC m.snap.config
def tabE1:List Ent:=[eWithin,eMCheck]
theorem tabE1_ok:∀ e∈tabE1,EntOk Tryz.prog e:=tab_cons eWithin_ok (tab_cons eMCheck_ok tab_nil)
theorem may_fn (s : Step) (m : Message) (hm : SmallM m) : FnC Tryz.prog 86 [(dRpS 115).can s, dMessage.can m] (.bool (mayM s.n m)) D2 := by
  refine FnG.of_vc (fitsT tabE1_ok fun _ => none) Tryz.func86 rfl (by decide) rfl 300 (p := fun (V : List PE → Prop) => let v0 := Message.kind m; let v1 := Snap.config (Message.snap m); let v2 := Node.id (Step.n s); let v3 := mayM (Step.n s) m; let v4 := (1 : Int); let v5 := Message.to_ m != v2; let v6 := v0 == (7 : Int); let v7 := v0 == (5 : Int); let v8 := [IntKind.wrap IntKind.i64 (Message.term m - v4)]; let v9 := [IntKind.wrap IntKind.i64 (Message.from_ m - v4)]; let v10 := [IntKind.wrap IntKind.i64 (Snap.index (Message.snap m) - v4)]; let v11 := pickB v5 true (Message.from_ m == v2); let v12 := !List.any v10 (offB (899999999 : Int)); let v13 := pickB v11 true !!List.any v9 (offB (4 : Int)); let v14 := pickB v13 true (decide (v0 < v4)); let v15 := pickB v14 true (decide (v0 > (7 : Int))); let v16 := pickB v15 true !!List.any v8 (offB (899999999 : Int)); True ∧ (((!v5) = true → (!v5) = true) ∧ ((!v5) = true → (!v5) = true) ∧ ((!v5) = true → (!v5) = true) ∧ ((!v5) = true → (!v5) = true) ∧ ((!v5) = true → (!v5) = true) ∧ ((!v5) = true → (!v5) = true) ∧ ((!v5) = true → (!v5) = true) ∧ (v5 = false → (!v5) = true) ∧ ((!v11) = true → (!v11) = true) ∧ ((!v11) = true → (!v11) = true) ∧ ((!v11) = true → List.length v9 ≤ 17592186044416) ∧ ((!v11) = true → (!v11) = true) ∧ ((!v11) = true → (!v11) = true) ∧ ((!v11) = true → (!v11) = true) ∧ (v11 = false → (!v11) = true) ∧ ((!v13) = true → (!v13) = true) ∧ ((!v13) = true → (!v13) = true) ∧ (v13 = false → (!v13) = true) ∧ ((!v14) = true → (!v14) = true) ∧ ((!v14) = true → (!v14) = true) ∧ (v14 = false → (!v14) = true) ∧ ((!v15) = true → (!v15) = true) ∧ ((!v15) = true → (!v15) = true) ∧ ((!v15) = true → List.length v8 ≤ 17592186044416) ∧ ((!v15) = true → (!v15) = true) ∧ ((!v15) = true → (!v15) = true) ∧ ((!v15) = true → (!v15) = true) ∧ (v15 = false → (!v15) = true) ∧ True) ∧ True ∧ (v16 = true → True ∧ false = v3 ∧ True) ∧ (v16 = false → True ∧ True ∧ True ∧ (v6 = true → (List.length v10 ≤ 17592186044416 ∧ (v12 = true → v12 = true) ∧ (v12 = true → v12 = true) ∧ (v12 = true → v12 = true) ∧ (v12 = true → SmallC v1) ∧ (v12 = true → v12 = true) ∧ (v12 = true → v12 = true) ∧ True) ∧ pickB v12 (errM (mayC v1) == (0 : Int)) false = v3 ∧ True) ∧ (v6 = false → True ∧ True ∧ (v7 = true → True ∧ V [PE.b, PE.b, PE.a]) ∧ (v7 = false → True ∧ true = v3 ∧ True)))) (by kernel_rfl) ?_
  simp only [imp_self, implies_true, true_and, and_true, pickB_f, pickB_t, notF]
  have hH : (m.to_ != s.n.id || m.from_ == s.n.id || !!List.any [IntKind.i64.wrap (m.from_ - 1)] (offB 4) || decide (m.kind < 1) || decide (m.kind > 7) || !!List.any [IntKind.i64.wrap (m.term - 1)] (offB 899999999)) = !headB s.n m := by
    have e1 : decide (m.kind < 1) = !decide (1 ≤ m.kind) := by rw [Bool.eq_iff_iff]; simp
    have e2 : decide (m.kind > 7) = !decide (m.kind ≤ 7) := by rw [Bool.eq_iff_iff]; simp
    simp only [headB, List.any_cons, List.any_nil, Bool.or_false, offB_wi, Bool.not_not, bne]
    rw [e1, e2]
    generalize decide (1 ≤ m.kind) = x1
    generalize decide (m.kind ≤ 7) = x2
    generalize (m.to_ == s.n.id) = x3
    generalize (m.from_ == s.n.id) = x4
    generalize wi 4 (IntKind.i64.wrap (m.from_ - 1)) = x5
    generalize wi 899999999 (IntKind.i64.wrap (m.term - 1)) = x6
    cases x1 <;> cases x2 <;> cases x3 <;> cases x4 <;> cases x5 <;> cases x6 <;> rfl
  refine ⟨⟨fun _ => by simp, fun _ => by simp⟩, fun h => ?_, fun h => ⟨fun h7 => ⟨⟨by simp, fun _ => hm.s⟩, ?_⟩, fun h7 => ⟨fun h5 => ?_, fun h5 => ?_⟩⟩⟩
  · rw [hH] at h
    have h : headB s.n m = false := by simpa using h
    rw [mayM, h]; rfl
  · rw [hH] at h
    have h : headB s.n m = true := by simpa using h
    have h7 : m.kind = 7 := by simpa using h7
    rw [mayM, h, bodyB, if_pos h7]
    simp only [List.any_cons, List.any_nil, Bool.or_false, offB_wi, Bool.not_not, errM]
    cases mayC m.snap.config <;> simp
  · rw [hH] at h
    have h : headB s.n m = true := by simpa using h
    have h7 : ¬ m.kind = 7 := by simpa using h7
    have h5 : m.kind = 5 := by simpa using h5
    have e : mayM s.n m = entsB m := by rw [mayM, h, bodyB, if_neg h7, if_pos h5]; rfl
    rw [e]
    have hml := hm.e.1
    refine LoopG.head (fitsT tabE1_ok fun _ => none) 0 (A := Nat) (fun i => i ≤ m.entries.length ∧ i ≤ 8 ∧ ∀ k, k < i → okE m k = true) (fun i => [(73, .int .i64 i), (72, .int .i64 (m.entries.length : Int)), (71, .sl [0] (.rEntry m.entries))]) (fun i => []) (fun i => m.entries.length - i) 0 ⟨Nat.zero_le _, by decide, fun k hk => absurd hk (by omega)⟩ (p0 := let v0 := Message.entries m; let v1 := Message.logTerm m; let v2 := Message.snap m; let v3 := Snap.data v2; let v4 := Snap.config v2; let v5 := Snap.term v2; let v6 := Snap.index v2; let v7 := Config.learners v4; let v8 := Config.voters v4; let v9 := (↑(List.length v0) : Int); (0 : Int) = (↑(0 : Nat) : Int) ∧ v9 = v9 ∧ v0 = v0 ∧ Message.kind m = Message.kind m ∧ Message.from_ m = Message.from_ m ∧ Message.to_ m = Message.to_ m ∧ Message.term m = Message.term m ∧ Message.index m = Message.index m ∧ v1 = v1 ∧ v0 = v0 ∧ Message.commit m = Message.commit m ∧ Message.round m = Message.round m ∧ Message.ok m = Message.ok m ∧ v6 = v6 ∧ v5 = v5 ∧ v8 = v8 ∧ v7 = v7 ∧ v3 = v3 ∧ Message.ask m = Message.ask m ∧ Message.seq m = Message.seq m ∧ Message.data m = Message.data m ∧ True) (by kernel_rfl) ?_ 300 (p := fun (x : Nat) (V : List PE → Prop) => let v0 := Message.entries m; let v1 := Message.index m; let v2 := (↑x : Int); let v3 := (↑(List.length v0) : Int); let v4 := List.getD v0 x default; let v5 := Entry.index v4; let v6 := Entry.config v4; let v7 := Entry.kind v4 == (2 : Int); let v8 := decide (v2 ≥ (8 : Int)); let v9 := decide (v2 < v3); let v10 := pickB v8 true (decide (v5 ≤ v1)); let v11 := pickB v10 true (IntKind.wrap IntKind.i64 (IntKind.wrap IntKind.i64 (v5 - (1 : Int)) - v2) != v1); let v12 := !v11; let v13 := pickB v11 true (pickB v7 (errM (mayC v6) != (0 : Int)) false); True ∧ True ∧ (v9 = true → ((0 : Int) ≤ v2 ∧ v2 < v3 ∧ True) ∧ (((!v8) = true → (!v8) = true) ∧ ((!v8) = true → (!v8) = true) ∧ ((!v8) = true → (!v8) = true) ∧ ((!v8) = true → (!v8) = true) ∧ (v8 = false → (!v8) = true) ∧ ((!v10) = true → (!v10) = true) ∧ ((!v10) = true → (!v10) = true) ∧ ((!v10) = true → (!v10) = true) ∧ ((!v10) = true → (!v10) = true) ∧ ((!v10) = true → (!v10) = true) ∧ ((!v10) = true → (!v10) = true) ∧ ((!v10) = true → (!v10) = true) ∧ (v10 = false → (!v10) = true) ∧ (v12 = true → v12 = true) ∧ (v12 = true → v12 = true) ∧ (v12 = true → v12 = true) ∧ ((v12 && v7) = true → (v12 && v7) = true) ∧ ((v12 && v7) = true → (v12 && v7) = true) ∧ ((v12 && v7) = true → SmallC v6) ∧ ((v12 && v7) = true → (v12 && v7) = true) ∧ (v12 = true → v12 = true) ∧ (v12 = true → v7 = true → (v12 && v7) = true) ∧ (v11 = false → v12 = true) ∧ True) ∧ True ∧ (v13 = true → True ∧ false = entsB m ∧ True) ∧ (v13 = false → True ∧ V [PE.a, PE.b])) ∧ (v9 = false → True ∧ true = entsB m ∧ True)) (by intro x; kernel_rfl) ?_
    · repeat' apply And.intro
      all_goals first | trivial | rfl
    rintro i ⟨hi, hi8, hk⟩
    simp only [imp_self, implies_true, true_and, and_true, decide_eq_true_eq, decide_eq_false_iff_not, notF]
    have hC : ∀ x : Entry, x = m.entries.getD i default → pickB (pickB (pickB (decide ((i : Int) ≥ 8)) true (decide (x.index ≤ m.index))) true (IntKind.i64.wrap (IntKind.i64.wrap (x.index - 1) - i) != m.index)) true (pickB (x.kind == 2) (errM (mayC x.config) != 0) false) = !(decide (i < 8) && okE m i) := by
      rintro x rfl
      have e1 : decide ((i : Int) ≥ 8) = !decide (i < 8) := by rw [Bool.eq_iff_iff]; simp; omega
      have e2 : ∀ b : Bool, (errM b != (0 : Int)) = !b := by intro b; cases b <;> rfl
      rw [e1, e2, okE, okx]
      generalize decide (i < 8) = x1
      generalize decide ((m.entries.getD i default).index ≤ m.index) = x2
      generalize (IntKind.i64.wrap (IntKind.i64.wrap ((m.entries.getD i default).index - 1) - i) != m.index) = x3
      generalize ((m.entries.getD i default).kind == 2) = x4
      generalize mayC (m.entries.getD i default).config = x5
      cases x1 <;> cases x2 <;> cases x3 <;> cases x4 <;> cases x5 <;> rfl
    rw [hC _ rfl]
    refine ⟨fun h6 => ⟨⟨by omega, h6⟩, ⟨fun h => by simp [h], fun _ => hm.e.2 _ (getD_mem (by omega)), fun h1 h2 => by rw [h1, h2]; rfl⟩, fun h8 => ?_, fun h8 => ?_⟩, fun h6 => ?_⟩
    · have h8 : ¬ (i < 8 ∧ okE m i = true) := by
        rintro ⟨g1, g2⟩
        rw [g2] at h8; simp [g1] at h8
      symm
      rw [entsB, Bool.and_eq_false_iff]
      by_cases g : i < 8
      · right
        rw [List.all_eq_false]
        exact ⟨i, List.mem_range.2 (by omega), fun g2 => h8 ⟨g, g2⟩⟩
      · left
        simp only [decide_eq_false_iff_not]; omega
    · have h8 : i < 8 ∧ okE m i = true := by simpa using h8
      refine Back.mk (i + 1) ⟨by omega, by omega, fun k hk2 => ?_⟩ (by omega) (p0 := let v0 := Message.entries m; let v1 := Message.logTerm m; let v2 := Message.snap m; let v3 := Snap.data v2; let v4 := Snap.config v2; let v5 := Snap.term v2; let v6 := Snap.index v2; let v7 := Config.learners v4; let v8 := Config.voters v4; let v9 := (↑(List.length v0) : Int); IntKind.wrap IntKind.i64 ((↑i : Int) + (1 : Int)) = (↑(i + (1 : Nat)) : Int) ∧ v9 = v9 ∧ v0 = v0 ∧ Message.kind m = Message.kind m ∧ Message.from_ m = Message.from_ m ∧ Message.to_ m = Message.to_ m ∧ Message.term m = Message.term m ∧ Message.index m = Message.index m ∧ v1 = v1 ∧ v0 = v0 ∧ Message.commit m = Message.commit m ∧ Message.round m = Message.round m ∧ Message.ok m = Message.ok m ∧ v6 = v6 ∧ v5 = v5 ∧ v8 = v8 ∧ v7 = v7 ∧ v3 = v3 ∧ Message.ask m = Message.ask m ∧ Message.seq m = Message.seq m ∧ Message.data m = Message.data m ∧ True) (by kernel_rfl) ?_
      · by_cases e : k = i
        · subst e; exact h8.2
        · exact hk k (by omega)
      · simp [wrapN (i := i) (by omega)]
    · obtain rfl : i = m.entries.length := by omega
      rw [entsB]
      have : (List.range m.entries.length).all (okE m) = true := List.all_eq_true.2 fun k hk2 => hk k (List.mem_range.1 hk2)
      rw [this]; simp [hi8]
  · rw [hH] at h
    have h : headB s.n m = true := by simpa using h
    have h7 : ¬ m.kind = 7 := by simpa using h7
    have h5 : ¬ m.kind = 5 := by simpa using h5
    rw [mayM, h, bodyB, if_neg h7, if_neg h5]; rfl
def eMayM:Ent:=ent2 86 (dRpS 115) dMessage fun s m=>([SmallM m],.bool (mayM s.n m),D2)
theorem eMayM_ok:EntOk Tryz.prog eMayM:=ent2_ok (fnB Tryz.func86 (by decide) rfl) fun s m h=>may_fn s m (h _ (by simp))
def fallB (n:Node) (m:Message):Bool:=decide (n.kept.term<m.term)&&m.kind != 1&&!(m.kind==2&&m.ok)
def hear0 (n:Node) (m:Message):Step:=if fallB n m then fallS (stepZ n) m.term else stepZ n
def hear24S (n:Node) (m:Message):Step:=if mayM n m then (if m.kind=2 then probedS (hear0 n m) m else votedS (hear0 n m) m) else stepZ n
def hear24C (n:Node) (m:Message):Step×Int:=if rightC n then (hear24S n m,0) else (⟨zeroN,outZ⟩,1)
theorem hear24N_fn (n:Node) (m:Message) (hn:SmallN n) (hr:rightC n=false):FnC Tryz.prog 29 [dNode.can n,dMessage.can m] (refO zeroN outZ 1) D3d:=by
 refine FnG.of_vc (fitsT tabT0_ok fun _=>none) Tryz.func29 rfl (by decide) rfl 300 (p:=fun (V:List PE→Prop)=>let v0:=Node.commit zeroN;let v1:=Out.messages outZ;let v2:=Node.kept zeroN;let v3:=Node.elapsed zeroN;let v4:=v2.vote;let v5:=v2.entries;let v6:=v2.snap;let v7:=v2.term;let v8:=v6.term;let v9:=v6.data;let v10:=v6.config;let v11:=v6.index;let v12:=v10.voters;let v13:=v10.learners;let v14:=(1:Int) != (0:Int);True∧(SmallN n∧rightC n=false∧True)∧True∧True∧(v14=true→True∧Node.id zeroN=Node.id zeroN∧Node.role zeroN=Node.role zeroN∧v7=v7∧v4=v4∧v11=v11∧v8=v8∧v12=v12∧v13=v13∧v9=v9∧v5=v5∧v0=v0∧Node.lead zeroN=Node.lead zeroN∧v3=v3∧Node.yes zeroN=Node.yes zeroN∧Node.peers zeroN=Node.peers zeroN∧Node.round zeroN=Node.round zeroN∧Node.reads zeroN=Node.reads zeroN∧Out.records outZ=Out.records outZ∧v1=v1∧Out.ready outZ=Out.ready outZ∧Out.lost outZ=Out.lost outZ∧(1:Int)=(1:Int)∧True)∧(v14=false→False)) (by kernel_rfl) ?_
 simp only [imp_self,implies_true,true_and,and_true,pickB_f,pickB_t]
 exact ⟨⟨hn,hr⟩,fun h=>absurd h (by decide)⟩
noncomputable def tabHr:List Ent:=[eBegY,eRefused,eMayM,eFall,eProbed,eVoted,eEnd]
theorem tabHr_ok:∀ e∈tabHr,EntOk Tryz.prog e:=tab_cons eBegY_ok (tab_cons eRefused_ok (tab_cons eMayM_ok (tab_cons eFall_ok (tab_cons eProbed_ok (tab_cons eVoted_ok (tab_cons eEnd_ok tab_nil))))))
theorem Few.pb {B:Nat} {s:Step} (m:Message) (h:Few B s) (hb:16≤B):Few (B+5002) (probedS s m):=by
 unfold probedS
 split
 ·exact (h.yr hb).stand
 ·exact (h.yr hb).mono (by omega)
theorem Few.vt {B:Nat} {s:Step} (m:Message) (h:Few B s) (hb:16≤B):Few (B+5002) (votedS s m):=by
 unfold votedS
 split
 ·exact (h.yr hb).rule.mono (by omega)
 ·exact (h.yr hb).mono (by omega)
theorem hear24Y_fn (n:Node) (m:Message) (hf:Few 40000 (stepZ n)) (hm:SmallM m) (hr:rightC n=true) (hk:m.kind=2∨m.kind=4):FnC Tryz.prog 29 [dNode.can n,dMessage.can m] (refO (hear24S n m).n (hear24S n m).o 0) D3d:=by
 refine FnG.of_vc (fitsT tabHr_ok fun _=>none) Tryz.func29 rfl (by decide) rfl 300 (p:=fun (V:List PE→Prop)=>let v0:=Message.kind m;let v1:=Node.kept n;let v2:=Node.kept zeroN;let v3:=Message.term m;let v4:=v2.snap;let v5:=v1.term;let v6:=v1.entries;let v7:=v1.snap;let v8:=v7.config;let v9:=v4.config;let v10:=Step.o (hear24S n m);let v11:=Step.n (hear24S n m);let v12:=v11.lead;let v13:=v11.commit;let v14:=(0:Int);let v15:=v11.kept;let v16:=v11.round;let v17:=v10.lost;let v18:=v11.id;let v19:=v11.reads;let v20:=v10.records;let v21:=v11.elapsed;let v22:=v11.role;let v23:=v11.peers;let v24:=v10.messages;let v25:=v11.yes;let v26:=v10.ready;let v27:=v15.snap;let v28:=v15.term;let v29:=v15.entries;let v30:=v15.vote;let v31:=v27.data;let v32:=v27.term;let v33:=v27.config;let v34:=v27.index;let v35:=v33.learners;let v36:=v33.voters;let v37:=Out.mk [] [] [] [];let v38:=Step.mk n v37;let v39:=v0==(1:Int);let v40:=v0==(2:Int);let v41:=v0==(5:Int);let v42:=v0==(6:Int);let v43:=v0==(4:Int);let v44:=v0==(3:Int);let v45:=v0==(7:Int);let v46:=votedS v38 m;let v47:=probedS v38 m;let v48:=v47.o;let v49:=v46.o;let v50:=v47.n;let v51:=fallS v38 v3;let v52:=v46.n;let v53:=v51.n;let v54:=v14 != v14;let v55:=v52.kept;let v56:=v51.o;let v57:=v50.kept;let v58:=decide (v3>v5);let v59:=v57.snap;let v60:=probedS v51 m;let v61:=votedS v51 m;let v62:=v53.kept;let v63:=v55.snap;let v64:=v63.config;let v65:=v61.n;let v66:=v59.config;let v67:=v60.n;let v68:=v60.o;let v69:=v61.o;let v70:=v62.snap;let v71:=v67.kept;let v72:=v65.kept;let v73:=v70.config;let v74:=v72.snap;let v75:=v71.snap;let v76:=v74.config;let v77:=v75.config;let v78:=pickB v58 (v0 != (1:Int)) false;let v79:=pickB v78 (!pickB v40 (Message.ok m) false) false;True∧(SmallN n∧rightC n=true∧True)∧True∧True∧(v54=true→True∧Node.id zeroN=v18∧Node.role zeroN=v22∧v2.term=v28∧v2.vote=v30∧v4.index=v34∧v4.term=v32∧v9.voters=v36∧v9.learners=v35∧v4.data=v31∧v2.entries=v29∧Node.commit zeroN=v13∧Node.lead zeroN=v12∧Node.elapsed zeroN=v21∧Node.yes zeroN=v25∧Node.peers zeroN=v23∧Node.round zeroN=v16∧Node.reads zeroN=v19∧Out.records outZ=v20∧Out.messages outZ=v24∧Out.ready outZ=v26∧Out.lost outZ=v17∧v14=v14∧True)∧(v54=false→(List.length v6≤(17592186044416:Nat)∧List.length (Node.yes n)≤(17592186044416:Nat)∧List.length (Node.peers n)≤(17592186044416:Nat)∧List.length (Node.reads n)≤(17592186044416:Nat)∧SmallM m∧True)∧True∧((!mayM n m)=true→(SmallN n∧SmallO v37∧True)∧Node.id n=v18∧Node.role n=v22∧v5=v28∧v1.vote=v30∧v7.index=v34∧v7.term=v32∧v8.voters=v36∧v8.learners=v35∧v7.data=v31∧v6=v29∧Node.commit n=v13∧Node.lead n=v12∧Node.elapsed n=v21∧Node.yes n=v25∧Node.peers n=v23∧Node.round n=v16∧Node.reads n=v19∧[]=v20∧[]=v24∧[]=v26∧[]=v17∧v14=v14∧True)∧((!mayM n m)=false→((v58=true→v58=true)∧(v58=true→v58=true)∧(v58=true→v58=true)∧(v78=true→v78=true)∧(v78=true→v78=true)∧(v78=true→v78=true)∧((v78&&v40)=true→(v78&&v40)=true)∧(v78=true→v78=true)∧(v78=true→v40=true→(v78&&v40)=true)∧(v78=true→v78=true)∧(v78=true→v78=true)∧True)∧True∧(v79=true→(Few (70000:Nat) v38∧True)∧True∧True∧True∧(v39=true→False)∧(v39=false→True∧True∧(v40=true→(Few (60000:Nat) v51∧True)∧(SmallN v67∧SmallO v68∧True)∧v67.id=v18∧v67.role=v22∧v71.term=v28∧v71.vote=v30∧v75.index=v34∧v75.term=v32∧v77.voters=v36∧v77.learners=v35∧v75.data=v31∧v71.entries=v29∧v67.commit=v13∧v67.lead=v12∧v67.elapsed=v21∧v67.yes=v25∧v67.peers=v23∧v67.round=v16∧v67.reads=v19∧v68.records=v20∧v68.messages=v24∧v68.ready=v26∧v68.lost=v17∧v14=v14∧True)∧(v40=false→True∧True∧(v44=true→False)∧(v44=false→True∧True∧(v43=true→(Few (60000:Nat) v51∧True)∧(SmallN v65∧SmallO v69∧True)∧v65.id=v18∧v65.role=v22∧v72.term=v28∧v72.vote=v30∧v74.index=v34∧v74.term=v32∧v76.voters=v36∧v76.learners=v35∧v74.data=v31∧v72.entries=v29∧v65.commit=v13∧v65.lead=v12∧v65.elapsed=v21∧v65.yes=v25∧v65.peers=v23∧v65.round=v16∧v65.reads=v19∧v69.records=v20∧v69.messages=v24∧v69.ready=v26∧v69.lost=v17∧v14=v14∧True)∧(v43=false→True∧True∧(v41=true→False)∧(v41=false→True∧True∧(v42=true→False)∧(v42=false→True∧True∧(v45=true→False)∧(v45=false→(SmallN v53∧SmallO v56∧True)∧v53.id=v18∧v53.role=v22∧v62.term=v28∧v62.vote=v30∧v70.index=v34∧v70.term=v32∧v73.voters=v36∧v73.learners=v35∧v70.data=v31∧v62.entries=v29∧v53.commit=v13∧v53.lead=v12∧v53.elapsed=v21∧v53.yes=v25∧v53.peers=v23∧v53.round=v16∧v53.reads=v19∧v56.records=v20∧v56.messages=v24∧v56.ready=v26∧v56.lost=v17∧v14=v14∧True))))))))∧(v79=false→True∧True∧True∧(v39=true→False)∧(v39=false→True∧True∧(v40=true→(Few (60000:Nat) v38∧True)∧(SmallN v50∧SmallO v48∧True)∧v50.id=v18∧v50.role=v22∧v57.term=v28∧v57.vote=v30∧v59.index=v34∧v59.term=v32∧v66.voters=v36∧v66.learners=v35∧v59.data=v31∧v57.entries=v29∧v50.commit=v13∧v50.lead=v12∧v50.elapsed=v21∧v50.yes=v25∧v50.peers=v23∧v50.round=v16∧v50.reads=v19∧v48.records=v20∧v48.messages=v24∧v48.ready=v26∧v48.lost=v17∧v14=v14∧True)∧(v40=false→True∧True∧(v44=true→False)∧(v44=false→True∧True∧(v43=true→(Few (60000:Nat) v38∧True)∧(SmallN v52∧SmallO v49∧True)∧v52.id=v18∧v52.role=v22∧v55.term=v28∧v55.vote=v30∧v63.index=v34∧v63.term=v32∧v64.voters=v36∧v64.learners=v35∧v63.data=v31∧v55.entries=v29∧v52.commit=v13∧v52.lead=v12∧v52.elapsed=v21∧v52.yes=v25∧v52.peers=v23∧v52.round=v16∧v52.reads=v19∧v49.records=v20∧v49.messages=v24∧v49.ready=v26∧v49.lost=v17∧v14=v14∧True)∧(v43=false→True∧True∧(v41=true→False)∧(v41=false→True∧True∧(v42=true→False)∧(v42=false→True∧True∧(v45=true→False)∧(v45=false→(SmallN n∧SmallO v37∧True)∧Node.id n=v18∧Node.role n=v22∧v5=v28∧v1.vote=v30∧v7.index=v34∧v7.term=v32∧v8.voters=v36∧v8.learners=v35∧v7.data=v31∧v6=v29∧Node.commit n=v13∧Node.lead n=v12∧Node.elapsed n=v21∧Node.yes n=v25∧Node.peers n=v23∧Node.round n=v16∧Node.reads n=v19∧[]=v20∧[]=v24∧[]=v26∧[]=v17∧v14=v14∧True))))))))))) (by kernel_rfl) ?_
 simp only [imp_self,implies_true,true_and,and_true,pickB_f,pickB_t,notF]
 have k0:Few 50000 (stepZ n):=hf.mono (by decide)
 have kf:=hf.fall m.term
 obtain ⟨b1,b2,b3,b4,b5⟩:=(hf.sn (by decide)).ls
 have hm0:mayM n m=mayM (stepZ n).n m:=rfl
 rcases hk with hk | hk
 ·have d1:(m.kind==1)=false:=by rw [hk];rfl
  have d2:(m.kind==2)=true:=by rw [hk];rfl
  simp only [d1,d2,Bool.true_eq_false,Bool.false_eq_true,false_implies,true_implies,forall_const,true_and,and_true,imp_self]
  refine ⟨⟨hf.sn (by decide),hr⟩,fun h=>absurd h (by decide),fun _=>⟨⟨b1,b2,b3,b4,hm⟩,fun h=>?_,fun h=>⟨fun g=>(by first | trivial | simpa using g),fun g=>?_,fun g=>?_⟩⟩⟩
  ·have h:mayM n m=false:=by simpa using h
   have e:hear24S n m=stepZ n:=by rw [hear24S,if_neg (by rw [h];decide)]
   rw [e]
   refine ⟨⟨k0.sn (by decide),k0.so (by decide)⟩,?_⟩
   repeat' apply And.intro
   all_goals rfl
  ·have h:mayM n m=true:=by simpa using h
   have hfb:fallB n m=true:=by rw [fallB,d2];exact g
   have e:hear24S n m=probedS (fallS (stepZ n) m.term) m:=by rw [hear24S,if_pos h,if_pos hk,hear0,if_pos hfb]
   have k1:=kf.pb m (by decide)
   rw [e]
   refine ⟨hf.mono (by decide),kf.mono (by decide),⟨k1.sn (by decide),k1.so (by decide)⟩,?_⟩
   repeat' apply And.intro
   all_goals rfl
  ·have h:mayM n m=true:=by simpa using h
   have hfb:fallB n m=false:=by rw [fallB,d2];exact g
   have e:hear24S n m=probedS (stepZ n) m:=by rw [hear24S,if_pos h,if_pos hk,hear0,if_neg (by rw [hfb];decide)]
   have k1:=k0.pb m (by decide)
   rw [e]
   refine ⟨k0.mono (by decide),⟨k1.sn (by decide),k1.so (by decide)⟩,?_⟩
   repeat' apply And.intro
   all_goals rfl
 ·have d1:(m.kind==1)=false:=by rw [hk];rfl
  have d2:(m.kind==2)=false:=by rw [hk];rfl
  have d3:(m.kind==3)=false:=by rw [hk];rfl
  have d4:(m.kind==4)=true:=by rw [hk];rfl
  simp only [d1,d2,d3,d4,Bool.true_eq_false,Bool.false_eq_true,false_implies,true_implies,forall_const,true_and,and_true,imp_self]
  refine ⟨⟨hf.sn (by decide),hr⟩,fun h=>absurd h (by decide),fun _=>⟨⟨b1,b2,b3,b4,hm⟩,fun h=>?_,fun h=>⟨fun g=>(by first | trivial | simpa using g),fun g=>?_,fun g=>?_⟩⟩⟩
  ·have h:mayM n m=false:=by simpa using h
   have e:hear24S n m=stepZ n:=by rw [hear24S,if_neg (by rw [h];decide)]
   rw [e]
   refine ⟨⟨k0.sn (by decide),k0.so (by decide)⟩,?_⟩
   repeat' apply And.intro
   all_goals rfl
  ·have h:mayM n m=true:=by simpa using h
   have hfb:fallB n m=true:=by rw [fallB,d2];exact g
   have e:hear24S n m=votedS (fallS (stepZ n) m.term) m:=by rw [hear24S,if_pos h,if_neg (by rw [hk];decide),hear0,if_pos hfb]
   have k1:=kf.vt m (by decide)
   rw [e]
   refine ⟨hf.mono (by decide),kf.mono (by decide),⟨k1.sn (by decide),k1.so (by decide)⟩,?_⟩
   repeat' apply And.intro
   all_goals rfl
  ·have h:mayM n m=true:=by simpa using h
   have hfb:fallB n m=false:=by rw [fallB,d2];exact g
   have e:hear24S n m=votedS (stepZ n) m:=by rw [hear24S,if_pos h,if_neg (by rw [hk];decide),hear0,if_neg (by rw [hfb];decide)]
   have k1:=k0.vt m (by decide)
   rw [e]
   refine ⟨k0.mono (by decide),⟨k1.sn (by decide),k1.so (by decide)⟩,?_⟩
   repeat' apply And.intro
   all_goals rfl
theorem hear24_fn (n:Node) (m:Message) (hf:Few 40000 (stepZ n)) (hm:SmallM m) (hk:m.kind=2∨m.kind=4):FnC Tryz.prog 29 [dNode.can n,dMessage.can m] (refO (hear24C n m).1.n (hear24C n m).1.o (hear24C n m).2) D3d:=by
 unfold hear24C
 cases hr:rightC n
 ·exact hear24N_fn n m (hf.sn (by decide)) hr
 ·exact hear24Y_fn n m hf hm hr hk
def eHear24:Ent:=ent2 29 dNode dMessage fun n m=>([Few 40000 (stepZ n),SmallM m,m.kind=2∨m.kind=4],refO (hear24C n m).1.n (hear24C n m).1.o (hear24C n m).2,D3d)
theorem eHear24_ok:EntOk Tryz.prog eHear24:=ent2_ok (fnB Tryz.func29 (by decide) rfl) fun n m h=>hear24_fn n m (h _ (by simp)) (h _ (by simp)) (h _ (by simp))
def leadE (n:Node):Int:=if rightC n then (if n.role=4 then 0 else 170) else 1
theorem leadsN_fn (n:Node) (hn:SmallN n) (he:leadE n≠0):FnC Tryz.prog 104 [dNode.can n] (.tup [.any,.int .i64 (leadE n)]) D2:=by
 by_cases hr:rightC n=true
 ·refine FnG.of_vc (fitsT (tab_cons eBegY_ok tab_nil) fun _=>none) Tryz.func104 rfl (by decide) rfl 300 (p:=fun (V:List PE→Prop)=>let v0:=(0:Int)==(0:Int);True∧(SmallN n∧rightC n=true∧True)∧((v0=true→v0=true)∧(v0=true→v0=true)∧(v0=true→v0=true)∧True)∧True∧True∧pickI (pickB v0 (Node.role n != (4:Int)) false) (170:Int) (0:Int)=leadE n∧True) (by kernel_rfl) ?_
  simp only [imp_self,implies_true,true_and,and_true,pickB_f,pickB_t]
  refine ⟨⟨hn,hr⟩,?_⟩
  by_cases h4:n.role=4<;>simp [leadE,hr,h4,pickI]
 ·have hr:rightC n=false:=by simpa using hr
  refine FnG.of_vc (fitsT (tab_cons eBegN_ok tab_nil) fun _=>none) Tryz.func104 rfl (by decide) rfl 300 (p:=fun (V:List PE→Prop)=>let v0:=(1:Int)==(0:Int);True∧(SmallN n∧rightC n=false∧True)∧((v0=true→v0=true)∧(v0=true→v0=true)∧(v0=true→v0=true)∧True)∧True∧True∧pickI (pickB v0 (Node.role n != (4:Int)) false) (170:Int) (1:Int)=leadE n∧True) (by kernel_rfl) ?_
  simp only [imp_self,implies_true,true_and,and_true,pickB_f,pickB_t]
  refine ⟨⟨hn,hr⟩,?_⟩
  simp [leadE,hr,pickI]
theorem leadsY_fn (n:Node) (hn:SmallN n) (hr:rightC n=true) (h4:n.role=4):FnC Tryz.prog 104 [dNode.can n] (.tup [.ptr 2 0,.int .i64 0]) (beginMo n):=by
 refine FnG.of_vc (fitsT (tab_cons eBegY_ok tab_nil) fun _=>none) Tryz.func104 rfl (by decide) rfl 300 (p:=fun (V:List PE→Prop)=>let v0:=Node.kept n;let v1:=Node.role n;let v2:=v0.entries;let v3:=v0.vote;let v4:=v0.term;let v5:=v0.snap;let v6:=v5.index;let v7:=v5.data;let v8:=v5.config;let v9:=v5.term;let v10:=v8.learners;let v11:=v8.voters;let v12:=(0:Int);let v13:=v12==v12;True∧(SmallN n∧rightC n=true∧True)∧((v13=true→v13=true)∧(v13=true→v13=true)∧(v13=true→v13=true)∧True)∧True∧True∧pickI (pickB v13 (v1 != (4:Int)) false) (170:Int) v12=v12∧Node.id n=Node.id n∧v1=v1∧v4=v4∧v3=v3∧v6=v6∧v9=v9∧v11=v11∧v10=v10∧v7=v7∧Node.commit n=Node.commit n∧Node.lead n=Node.lead n∧Node.elapsed n=Node.elapsed n∧Node.round n=Node.round n∧v2=v2∧Node.yes n=Node.yes n∧Node.peers n=Node.peers n∧Node.reads n=Node.reads n∧True) (by kernel_rfl) ?_
 simp only [imp_self,implies_true,true_and,and_true,pickB_f,pickB_t]
 exact ⟨⟨hn,hr⟩,by rw [h4];rfl⟩
def eLeadN:Ent:=ent1 104 dNode fun n=>([SmallN n,leadE n≠0],.tup [.any,.int .i64 (leadE n)],D2)
theorem eLeadN_ok:EntOk Tryz.prog eLeadN:=ent1_ok (fnB Tryz.func104 (by decide) rfl) fun n h=>leadsN_fn n (h _ (by simp)) (h _ (by simp))
def eLeadY:Ent:=ent1 104 dNode fun n=>([SmallN n,rightC n=true,n.role=4],.tup [.ptr 2 0,.int .i64 0],beginMo n)
theorem eLeadY_ok:EntOk Tryz.prog eLeadY:=ent1_ok (fnB Tryz.func104 (by decide) rfl) fun n h=>leadsY_fn n (h _ (by simp)) (h _ (by simp)) (h _ (by simp))
def elM1:Message:=⟨2,2,1,2,0,0,[],0,0,true,zSnap,0,0,zs⟩
def elM2:Message:=⟨4,3,1,2,0,0,[],0,0,true,zSnap,0,0,zs⟩
def el1:Step:=hear24S (tickIt 10).n elM1
def el2:Step:=hear24S el1.n elM2
theorem el_right:rightC (tickIt 10).n=true∧rightC el1.n=true:=⟨by kernel_rfl,by kernel_rfl⟩
theorem el_few:fewB (tickIt 10)=true∧fewB el1=true∧fewB el2=true:=⟨by kernel_rfl,by kernel_rfl,by kernel_rfl⟩
theorem fewB4_ok {s:Step} (h:fewB s=true):Few 40000 s:=by
 unfold fewB at h
 simp only [Bool.and_eq_true,decide_eq_true_eq,List.all_eq_true] at h
 obtain ⟨⟨⟨⟨⟨⟨⟨⟨⟨⟨h1,h2⟩,h3⟩,h4⟩,h5⟩,h6⟩,h7⟩,h8⟩,h9⟩,h10⟩,h11⟩:=h
 exact ⟨by omega,fun e he=>by have:=h2 e he;exact ⟨by omega,by omega⟩,⟨by omega,by omega⟩,by omega,by omega,by omega,by omega,by omega,by omega,by omega⟩
theorem smallM0 (a b c d e f g h:Int) (o:Bool) (x y:Int) (z:ByteArray):SmallM ⟨a,b,c,d,e,f,[],g,h,o,zSnap,x,y,z⟩:=⟨⟨by simp,fun x hx=>by cases hx⟩,⟨Nat.zero_le _,Nat.zero_le _⟩⟩
noncomputable def tabEl:List Ent:=[eStart,eTick,eHear24]
theorem tabEl_ok:∀ e∈tabEl,EntOk Tryz.prog e:=tab_cons eStart_ok (tab_cons eTick_ok (tab_cons eHear24_ok tab_nil))
theorem elected_fn:FnC Tryz.prog 96 [] (.tup [.agg (el2.n.svs [1]),.bool true]) D2:=by
 refine FnG.of_vc (fitsT tabEl_ok fun _=>none) Tryz.func96 rfl (by decide) rfl 300 (p:=fun (V:List PE→Prop)=>True∧True∧True∧V []) (by kernel_rfl) ?_
 simp only [imp_self,implies_true,true_and,and_true,pickB_f,pickB_t]
 refine LoopG.head (fitsT tabEl_ok fun _=>none) 0 (A:=Nat) (fun j=>j≤10) (fun j=>[(4,.int .i64 j),(3,.int .i64 0)]) (fun j=>[(31,.cells 35 ((tickIt j).n.svs [900])),(900,.dead)]) (fun j=>10 - j) 0 (Nat.zero_le _) (p0:=let v0:=Node.kept startN;let v1:=v0.snap;let v2:=v1.config;let v3:=Step.n (tickIt (0:Nat));let v4:=v3.kept;let v5:=v4.snap;let v6:=v5.config;(0:Int)=(↑(0:Nat):Int)∧(0:Int)=(0:Int)∧false=false∧Node.id startN=v3.id∧Node.role startN=v3.role∧v0.term=v4.term∧v0.vote=v4.vote∧v1.index=v5.index∧v1.term=v5.term∧v2.voters=v6.voters∧v2.learners=v6.learners∧v1.data=v5.data∧v0.entries=v4.entries∧Node.commit startN=v3.commit∧Node.lead startN=v3.lead∧Node.elapsed startN=v3.elapsed∧Node.yes startN=v3.yes∧Node.peers startN=v3.peers∧Node.round startN=v3.round∧Node.reads startN=v3.reads∧(0:Int)=(0:Int)∧(0:Int)=(0:Int)∧(0:Int)=(0:Int)∧(0:Int)=(0:Int)∧(0:Int)=(0:Int)∧(0:Int)=(0:Int)∧ByteArray.mk #[]=ByteArray.mk #[]∧(0:Int)=(0:Int)∧(0:Int)=(0:Int)∧(0:Int)=(0:Int)∧(0:Int)=(0:Int)∧True) (by kernel_rfl) ?_ 300 (p:=fun (x:Nat) (V:List PE→Prop)=>let v0:=Step.n el2;let v1:=v0.kept;let v2:=Step.n (tickIt x);let v3:=stepZ v2;let v4:=v1.snap;let v5:=(2:Int);let v6:=(4:Int);let v7:=v4.config;let v8:=(0:Int);let v9:=ByteArray.mk #[];let v10:=v8==v8;let v11:=Snap.mk v8 v8 (Config.mk [] []) v9;let v12:=decide ((↑x:Int)<(10:Int));let v13:=pickB v12 v10 false;let v14:=Message.mk v5 v5 (1:Int) v5 v8 v8 [] v8 v8 true v11 v8 v8 v9;let v15:=Message.mk v6 (3:Int) (1:Int) v5 v8 v8 [] v8 v8 true v11 v8 v8 v9;let v16:=hear24C v2 v14;let v17:=Step.n (Prod.fst v16);let v18:=pickB v10 (Prod.snd v16==v8) false;let v19:=hear24C v17 v15;let v20:=Prod.fst v19;let v21:=v20.o;let v22:=v20.n;let v23:=v21.messages;let v24:=v22.role;let v25:=v22.kept;let v26:=v25.snap;let v27:=v26.config;let v28:=(↑(List.length v23):Int);let v29:=pickB v18 (Prod.snd v19==v8) false;let v30:=pickB v29 (v24==v6) false;let v31:=pickB v30 (v28==v5) false;let v32:=pickB v31 ((↑(List.length (v21.records)):Int)==(1:Int)) false;((v12=true→v12=true)∧(v12=true→v12=true)∧True)∧True∧(v13=true→(Few (50000:Nat) v3∧True)∧True∧V [PE.a])∧(v13=false→(Few (40000:Nat) v3∧SmallM v14∧(v5=v5∨v5=v6)∧True)∧(Few (40000:Nat) (stepZ v17)∧SmallM v15∧(v6=v5∨v6=v6)∧True)∧((v10=true→v10=true)∧(v10=true→v10=true)∧(v18=true→v18=true)∧(v18=true→v18=true)∧(v29=true→v29=true)∧(v29=true→v29=true)∧(v29=true→v29=true)∧(v30=true→v30=true)∧(v30=true→v30=true)∧(v30=true→v30=true)∧(v30=true→v30=true)∧(v31=true→v31=true)∧(v31=true→v31=true)∧(v31=true→v31=true)∧(v31=true→v31=true)∧(v32=true→v32=true)∧(v32=true→v32=true)∧(v32=true→v8≤v8)∧(v32=true→v8<v28)∧(v32=true→v32=true)∧(v32=true→v32=true)∧(v32=true→v32=true)∧(v32=true→v32=true)∧True)∧v22.id=v0.id∧v24=v0.role∧v25.term=v1.term∧v25.vote=v1.vote∧v26.index=v4.index∧v26.term=v4.term∧v27.voters=v7.voters∧v27.learners=v7.learners∧v26.data=v4.data∧v25.entries=v1.entries∧v22.commit=v0.commit∧v22.lead=v0.lead∧v22.elapsed=v0.elapsed∧v22.yes=v0.yes∧v22.peers=v0.peers∧v22.round=v0.round∧v22.reads=v0.reads∧pickB v32 (Message.kind (List.getD v23 (Int.toNat v8) default)==(5:Int)) false=true∧True)) (by intro x;kernel_rfl) ?_
 ·repeat' apply And.intro
  all_goals first | trivial | rfl
 rintro j hj
 simp only [imp_self,implies_true,true_and,and_true,decide_eq_true_eq,decide_eq_false_iff_not]
 refine ⟨fun h=>?_,fun h=>?_⟩
 ·have hj2:j<10:=by
   by_cases g:(j:Int)<10
   ·omega
   ·simp [pickB,g] at h
  have ht:tickC (tickIt j).n=(tickIt (j+1),0):=by rw [tickC,if_pos (tickIt_right j hj2)];rfl
  refine ⟨(tickIt_few j (by omega)).z,?_⟩
  refine Back.mk (j+1) (by omega) (by omega) (p0:=let v0:=tickC (Step.n (tickIt j));let v1:=Step.n (Prod.fst v0);let v2:=v1.kept;let v3:=v2.snap;let v4:=v3.config;let v5:=Step.n (tickIt (j+(1:Nat)));let v6:=v5.kept;let v7:=v6.snap;let v8:=v7.config;IntKind.wrap IntKind.i64 ((↑j:Int)+(1:Int))=(↑(j+(1:Nat)):Int)∧Prod.snd v0=(0:Int)∧false=false∧v1.id=v5.id∧v1.role=v5.role∧v2.term=v6.term∧v2.vote=v6.vote∧v3.index=v7.index∧v3.term=v7.term∧v4.voters=v8.voters∧v4.learners=v8.learners∧v3.data=v7.data∧v2.entries=v6.entries∧v1.commit=v5.commit∧v1.lead=v5.lead∧v1.elapsed=v5.elapsed∧v1.yes=v5.yes∧v1.peers=v5.peers∧v1.round=v5.round∧v1.reads=v5.reads∧(0:Int)=(0:Int)∧(0:Int)=(0:Int)∧(0:Int)=(0:Int)∧(0:Int)=(0:Int)∧(0:Int)=(0:Int)∧(0:Int)=(0:Int)∧ByteArray.mk #[]=ByteArray.mk #[]∧(0:Int)=(0:Int)∧(0:Int)=(0:Int)∧(0:Int)=(0:Int)∧(0:Int)=(0:Int)∧True) (by kernel_rfl) ?_
  simp only [true_and,and_true]
  rw [ht]
  simp only [wrapN (i:=j) (by omega),true_and,and_true]
  first | done | omega | rfl
 ·have hj2:¬ j<10:=by
   intro g
   have:(j:Int)<10:=by omega
   simp [pickB,this] at h
  obtain rfl:j=10:=by omega
  have e1:hear24C (tickIt 10).n (Message.mk 2 2 1 2 0 0 [] 0 0 true (Snap.mk 0 0 (Config.mk [] []) (ByteArray.mk #[])) 0 0 (ByteArray.mk #[]))=(el1,0):=by
   rw [hear24C,if_pos el_right.1];rfl
  have e2:hear24C el1.n (Message.mk 4 3 1 2 0 0 [] 0 0 true (Snap.mk 0 0 (Config.mk [] []) (ByteArray.mk #[])) 0 0 (ByteArray.mk #[]))=(el2,0):=by
   rw [hear24C,if_pos el_right.2];rfl
  simp only [e1,e2]
  have hl:el2.o.messages.length=2:=by kernel_rfl
  have h0:(0:Int)<(el2.o.messages.length:Int):=by rw [hl];decide
  refine ⟨⟨(fewB4_ok el_few.1).z,smallM0 _ _ _ _ _ _ _ _ _ _ _ _,.inl trivial⟩,⟨(fewB4_ok el_few.2.1).z,smallM0 _ _ _ _ _ _ _ _ _ _ _ _,.inr trivial⟩,⟨fun _=>by decide,fun _=>h0⟩,?_⟩
  repeat' apply And.intro
  all_goals first | trivial | rfl | kernel_rfl
def eElected:Ent:=ent0 96 ([],.tup [.agg (el2.n.svs [1]),.bool true],D2)
theorem eElected_ok:EntOk Tryz.prog eElected:=ent0_ok elected_fn.1 fun _=>elected_fn
noncomputable def tabBi:List Ent:=[ePeer,eWLast,eCount,eTo,eAnswer]
theorem tabBi_ok:∀ e∈tabBi,EntOk Tryz.prog e:=tab_cons ePeer_ok (tab_cons eWLast_ok (tab_cons eCount_ok (tab_cons eTo_ok (tab_cons eAnswer_ok tab_nil))))
def atM (s:Step) (m:Message):Nat:=(peerI s.n.peers m.from_).toNat
def skipM (s:Step) (m:Message):Bool:=s.n.role != 4||m.term != s.n.kept.term||decide (peerI s.n.peers m.from_<0)
def setP (l:List Peer) (i:Nat) (f:Peer→Peer):List Peer:=l.set i (f (l.getD i default))
def peersR (s:Step) (m:Message):List Peer:=if decide (m.round≤s.n.round)=true then setP s.n.peers (atM s m) fun p=>⟨p.node,p.next,p.match_,if m.round>p.round then m.round else p.round⟩ else s.n.peers
def nextN (m:Message) (q:Peer):Int:=IntKind.i64.wrap ((if m.index<IntKind.i64.wrap (q.next - 1) then m.index else IntKind.i64.wrap (q.next - 1))+1)
def peersN (s:Step) (m:Message):List Peer:=setP (peersR s m) (atM s m) fun q=>⟨q.node,if nextN m q>IntKind.i64.wrap (q.match_+1) then nextN m q else IntKind.i64.wrap (q.match_+1),q.match_,q.round⟩
def peersM (s:Step) (m:Message):List Peer:=setP (peersR s m) (atM s m) fun q=>⟨q.node,q.next,if m.index>q.match_ then m.index else q.match_,q.round⟩
def peersO (s:Step) (m:Message):List Peer:=setP (peersM s m) (atM s m) fun r=>⟨r.node,if IntKind.i64.wrap (r.match_+1)>r.next then IntKind.i64.wrap (r.match_+1) else r.next,r.match_,r.round⟩
def withP (s:Step) (l:List Peer):Step:=⟨{s.n with peers:=l},s.o⟩
def countM (s:Step) (m:Message):Step:=countS (withP s (peersO s m))
def nowP (s:Step) (m:Message):Peer:=(countM s m).n.peers.getD (atM s m) default
def matchedS (s:Step) (m:Message):Step:=
 if skipM s m then s
 else if m.ok&&decide (m.index≤(lastC s.n.kept).1) then (if (nowP s m).next≤(lastC (countM s m).n.kept).1 then answerS (toS (countM s m) (nowP s m)) else answerS (countM s m))
 else if m.ok then answerS (withP s (peersR s m))
 else answerS (toS (withP s (peersN s m)) ((peersN s m).getD (atM s m) default))
theorem setP_len (l:List Peer) (i:Nat) (f:Peer→Peer):(setP l i f).length=l.length:=List.length_set ..
theorem peersR_len (s:Step) (m:Message):(peersR s m).length=s.n.peers.length:=by
 unfold peersR;split
 ·exact setP_len ..
 ·rfl
theorem peersN_len (s:Step) (m:Message):(peersN s m).length=s.n.peers.length:=by rw [peersN,setP_len,peersR_len]
theorem peersO_len (s:Step) (m:Message):(peersO s m).length=s.n.peers.length:=by rw [peersO,setP_len,peersM,setP_len,peersR_len]
theorem countM_len (s:Step) (m:Message):(countM s m).n.peers.length=s.n.peers.length:=by
 have:∀ x:Step,(countS x).n.peers=x.n.peers:=fun x=>by unfold countS;split<;>rfl
 rw [countM,this];exact peersO_len s m
theorem pickB_and2 (a b:Bool):pickB a b false=(a&&b):=by cases a<;>rfl
theorem pickB_or2 (a b:Bool):pickB a true b=(a||b):=by cases a<;>rfl
theorem skip_eq (s:Step) (m:Message):pickB (pickB (s.n.role != 4) true (m.term != s.n.kept.term)) true (decide (peerI s.n.peers m.from_<0))=skipM s m:=by rw [pickB_or2,pickB_or2];rfl
theorem countS_o (x:Step):(countS x).o=x.o:=by unfold countS;split<;>rfl
theorem matched_fn (s:Step) (m:Message) (hf:Few 30000 s) (hy:s.o.ready.length≤9000):FnG Tryz.prog 93 3 (wMi s) [.ptr 2 0,dMessage.L.can m] (.tup []) (wMo (matchedS s m)):=by
 obtain ⟨M,hM⟩:∃ M,matchedS s m=M:=⟨_,rfl⟩
 rw [hM]
 refine FnG.of_vc (fitsT tabBi_ok fun _=>none) Tryz.func93 rfl (by decide) rfl 300 (p:=fun (V:List PE→Prop)=>let v0:=Message.ok m;let v1:=Step.o M;let v2:=Message.index m;let v3:=Step.o s;let v4:=Step.n s;let v5:=Message.round m;let v6:=Step.n M;let v7:=v4.id;let v8:=v4.peers;let v9:=v6.kept;let v10:=default;let v11:=v6.peers;let v12:=v1.messages;let v13:=v1.ready;let v14:=v4.commit;let v15:=v4.elapsed;let v16:=v3.records;let v17:=v6.yes;let v18:=v1.records;let v19:=v4.role;let v20:=v6.reads;let v21:=v4.round;let v22:=v6.commit;let v23:=v4.reads;let v24:=v1.lost;let v25:=v4.lead;let v26:=v6.role;let v27:=v6.id;let v28:=v6.lead;let v29:=v4.yes;let v30:=v3.ready;let v31:=v3.messages;let v32:=v4.kept;let v33:=v6.elapsed;let v34:=v3.lost;let v35:=v6.round;let v36:=v32.term;let v37:=v9.entries;let v38:=v32.snap;let v39:=v32.entries;let v40:=v9.vote;let v41:=v9.snap;let v42:=v9.term;let v43:=List.length v30;let v44:=v38.config;let v45:=(1:Int);let v46:=List.length v31;let v47:=v41.index;let v48:=v41.term;let v49:=List.length v8;let v50:=v41.data;let v51:=List.length v23;let v52:=v41.config;let v53:=v52.learners;let v54:=v52.voters;let v55:=peerI v8 (Message.from_ m);let v56:=Int.toNat v55;let v57:=Prod.fst (lastC v32);let v58:=v19 != (4:Int);let v59:=decide (v5≤v21);let v60:=List.getD v8 v56 v10;let v61:=v60.round;let v62:=pickB v58 true (Message.term m != v36);let v63:=pickB v0 (decide (v2≤v57)) false;let v64:=pickB v62 true (decide (v55<(0:Int)));let v65:=if v59=true then List.set v8 v56 (Peer.mk (v60.node) (v60.next) (v60.match_) (if v5>v61 then v5 else v61)) else v8;let v66:=List.length v65;let v67:=List.getD v65 v56 v10;let v68:=v67.next;let v69:=v67.match_;let v70:=v67.round;let v71:=v67.node;let v72:=IntKind.wrap IntKind.i64 (v69+v45);let v73:=IntKind.wrap IntKind.i64 (v68 - v45);let v74:=Node.mk v7 v19 v32 v14 v25 v15 v29 v65 v21 v23;let v75:=answerS (Step.mk v74 v3);let v76:=v75.n;let v77:=v75.o;let v78:=v76.kept;let v79:=v78.snap;let v80:=v79.config;let v81:=IntKind.wrap IntKind.i64 ((if v2<v73 then v2 else v73)+v45);let v82:=List.set v65 v56 (Peer.mk v71 v68 (if v2>v69 then v2 else v69) v70);let v83:=List.getD v82 v56 v10;let v84:=v83.next;let v85:=v83.match_;let v86:=IntKind.wrap IntKind.i64 (v85+v45);let v87:=List.set v65 v56 (Peer.mk v71 (if v81>v72 then v81 else v72) v69 v70);let v88:=Node.mk v7 v19 v32 v14 v25 v15 v29 v87 v21 v23;let v89:=toS (Step.mk v88 v3) (List.getD v87 v56 v10);let v90:=v89.o;let v91:=answerS v89;let v92:=v89.n;let v93:=v91.n;let v94:=v91.o;let v95:=v93.kept;let v96:=v95.snap;let v97:=v96.config;let v98:=Node.mk v7 v19 v32 v14 v25 v15 v29 (List.set v82 v56 (Peer.mk (v83.node) (if v86>v84 then v86 else v84) v85 (v83.round))) v21 v23;let v99:=countS (Step.mk v98 v3);let v100:=v99.o;let v101:=v99.n;let v102:=answerS v99;let v103:=v101.kept;let v104:=v102.n;let v105:=v102.o;let v106:=v101.peers;let v107:=v104.kept;let v108:=List.length (v100.messages);let v109:=v107.snap;let v110:=List.length (v101.reads);let v111:=List.length v106;let v112:=List.length (v100.ready);let v113:=v109.config;let v114:=Prod.fst (lastC v103);let v115:=List.getD v106 v56 v10;let v116:=v115.next;let v117:=toS v99 v115;let v118:=answerS v117;let v119:=v117.o;let v120:=v117.n;let v121:=v118.o;let v122:=v118.n;let v123:=v122.kept;let v124:=v123.snap;let v125:=v124.config;let v126:=decide (v116≤v114);True∧(List.length v39≤(17592186044416:Nat)∧List.length v29≤(17592186044416:Nat)∧v49≤(17592186044416:Nat)∧v51≤(17592186044416:Nat)∧List.length v16≤(17592186044416:Nat)∧v46≤(17592186044416:Nat)∧v43≤(17592186044416:Nat)∧List.length v34≤(17592186044416:Nat)∧True)∧(((!v58)=true→(!v58)=true)∧((!v58)=true→(!v58)=true)∧((!v58)=true→(!v58)=true)∧((!v58)=true→(!v58)=true)∧((!v58)=true→(!v58)=true)∧((!v58)=true→(!v58)=true)∧((!v58)=true→(!v58)=true)∧((!v58)=true→(!v58)=true)∧(v58=false→(!v58)=true)∧((!v62)=true→(!v62)=true)∧(v62=false→(!v62)=true)∧True)∧True∧(v64=true→v7=v27∧v19=v26∧v36=v42∧v32.vote=v40∧v38.index=v47∧v38.term=v48∧v44.voters=v54∧v44.learners=v53∧v38.data=v50∧v14=v22∧v25=v28∧v15=v33∧v21=v35∧v39=v37∧v29=v17∧v8=v11∧v23=v20∧v16=v18∧v31=v12∧v30=v13∧v34=v24∧True)∧(v64=false→((0:Int)≤v55∧v55<(↑v49:Int)∧True)∧True∧((v59=true→v56<v49)∧(v59=true→v56<v49)∧True)∧((v0=true→v0=true)∧(v0=true→v0=true)∧(v0=true→List.length v39≤(17592186044416:Nat))∧(v0=true→List.length v29≤(17592186044416:Nat))∧(v0=true→v66≤(17592186044416:Nat))∧(v0=true→v51≤(17592186044416:Nat))∧(v0=true→List.length v16≤(17592186044416:Nat))∧(v0=true→v46≤(17592186044416:Nat))∧(v0=true→v43≤(17592186044416:Nat))∧(v0=true→List.length v34≤(17592186044416:Nat))∧(v0=true→v0=true)∧(v0=true→v0=true)∧(v0=true→v0=true)∧True)∧True∧(v63=true→(v56<v66∧v56<v66∧True)∧(v56<List.length v82∧v56<List.length v82∧v56<List.length v82∧True)∧(SmallN v98∧SmallO v3∧List.length (Config.voters (confC v98))≤(4000:Nat)∧True)∧(v56<v111∧List.length (v103.entries)≤(17592186044416:Nat)∧List.length (v101.yes)≤(17592186044416:Nat)∧v111≤(17592186044416:Nat)∧v110≤(17592186044416:Nat)∧List.length (v100.records)≤(17592186044416:Nat)∧v108≤(17592186044416:Nat)∧v112≤(17592186044416:Nat)∧List.length (v100.lost)≤(17592186044416:Nat)∧True)∧True∧(v126=true→(v56<v111∧SmallN v101∧v108≤(1000000:Nat)∧True)∧(SmallN v120∧SmallO v119∧List.length (v119.ready)≤(10000:Nat)∧List.length (v120.reads)≤(10000:Nat)∧List.length (v120.peers)≤(10000:Nat)∧True)∧v122.id=v27∧v122.role=v26∧v123.term=v42∧v123.vote=v40∧v124.index=v47∧v124.term=v48∧v125.voters=v54∧v125.learners=v53∧v124.data=v50∧v122.commit=v22∧v122.lead=v28∧v122.elapsed=v33∧v122.round=v35∧v123.entries=v37∧v122.yes=v17∧v122.peers=v11∧v122.reads=v20∧v121.records=v18∧v121.messages=v12∧v121.ready=v13∧v121.lost=v24∧True)∧(v126=false→(SmallN v101∧SmallO v100∧v112≤(10000:Nat)∧v110≤(10000:Nat)∧v111≤(10000:Nat)∧True)∧v104.id=v27∧v104.role=v26∧v107.term=v42∧v107.vote=v40∧v109.index=v47∧v109.term=v48∧v113.voters=v54∧v113.learners=v53∧v109.data=v50∧v104.commit=v22∧v104.lead=v28∧v104.elapsed=v33∧v104.round=v35∧v107.entries=v37∧v104.yes=v17∧v104.peers=v11∧v104.reads=v20∧v105.records=v18∧v105.messages=v12∧v105.ready=v13∧v105.lost=v24∧True))∧(v63=false→True∧True∧((!v0)=true→(v56<v66∧v56<v66∧v56<v66∧True)∧(v56<List.length v87∧SmallN v88∧v46≤(1000000:Nat)∧True)∧(SmallN v92∧SmallO v90∧List.length (v90.ready)≤(10000:Nat)∧List.length (v92.reads)≤(10000:Nat)∧List.length (v92.peers)≤(10000:Nat)∧True)∧v93.id=v27∧v93.role=v26∧v95.term=v42∧v95.vote=v40∧v96.index=v47∧v96.term=v48∧v97.voters=v54∧v97.learners=v53∧v96.data=v50∧v93.commit=v22∧v93.lead=v28∧v93.elapsed=v33∧v93.round=v35∧v95.entries=v37∧v93.yes=v17∧v93.peers=v11∧v93.reads=v20∧v94.records=v18∧v94.messages=v12∧v94.ready=v13∧v94.lost=v24∧True)∧((!v0)=false→(SmallN v74∧SmallO v3∧v43≤(10000:Nat)∧v51≤(10000:Nat)∧v66≤(10000:Nat)∧True)∧v76.id=v27∧v76.role=v26∧v78.term=v42∧v78.vote=v40∧v79.index=v47∧v79.term=v48∧v80.voters=v54∧v80.learners=v53∧v79.data=v50∧v76.commit=v22∧v76.lead=v28∧v76.elapsed=v33∧v76.round=v35∧v78.entries=v37∧v76.yes=v17∧v76.peers=v11∧v76.reads=v20∧v77.records=v18∧v77.messages=v12∧v77.ready=v13∧v77.lost=v24∧True)))) (by kernel_rfl) ?_
 obtain ⟨b1,b2,b3,b4,b5⟩:=(hf.sn (by decide)).ls
 obtain ⟨c1,c2,c3,c4⟩:=(hf.so (by decide)).ls
 have hy1:s.o.ready.length≤10000:=Nat.le_trans hy (by decide)
 have hy2:(countM s m).o.ready.length≤10000:=by rw [countM,countS_o];exact hy1
 intros
 refine ⟨trivial,⟨b1,b2,b3,b4,c1,c2,c3,c4,trivial⟩,?_,trivial,fun h=>?_,fun h=>?_⟩
 ·refine ⟨fun h=>h,fun h=>h,fun h=>h,fun h=>h,fun h=>h,fun h=>h,fun h=>h,fun h=>h,fun h=>(by rw [h];rfl),fun h=>h,fun h=>(by rw [h];rfl),trivial⟩
 ·have h:skipM s m=true:=(skip_eq s m).symm.trans h
  have e:M=s:=by rw [← hM,matchedS,if_pos h]
  subst e
  repeat' apply And.intro
  all_goals first | trivial | rfl
 ·have h:skipM s m=false:=(skip_eq s m).symm.trans h
  have hp:=peerI_lt s.n.peers m.from_
  have h0:0≤peerI s.n.peers m.from_:=by
   unfold skipM at h
   simp only [Bool.or_eq_false_iff,decide_eq_false_iff_not] at h
   omega
  have hat:atM s m<s.n.peers.length:=by unfold atM;omega
  have hlr:(peersR s m).length≤17592186044416:=by rw [peersR_len];exact b3
  refine ⟨⟨h0,hp,trivial⟩,trivial,⟨fun _=>hat,fun _=>hat,trivial⟩,?_,trivial,?_⟩
  ·refine ⟨fun h=>h,fun h=>h,fun _=>b1,fun _=>b2,fun _=>hlr,fun _=>b4,fun _=>c1,fun _=>c2,fun _=>c3,fun _=>c4,fun h=>h,fun h=>h,fun h=>h,trivial⟩
  ·refine ⟨fun h2=>?_,fun h2=>?_⟩
   ·have h2:(m.ok&&decide (m.index≤(lastC s.n.kept).1))=true:=(pickB_and2 _ _).symm.trans h2
    have k0:Few 30000 (withP s (peersO s m)):=⟨hf.entries,hf.ec,hf.sc,hf.yes,by show (peersO s m).length≤_;rw [peersO_len];exact hf.peers,hf.reads,hf.records,hf.messages,hf.ready,hf.lost⟩
    have k1:Few 30000 (countM s m):=k0.count
    have k2:Few 30001 (toS (countM s m) (nowP s m)):=k1.send _
    obtain ⟨d1,d2,d3,d4,d5⟩:=(k1.sn (by decide)).ls
    obtain ⟨f1,f2,f3,f4⟩:=(k1.so (by decide)).ls
    have g1:atM s m<(peersR s m).length:=by rw [peersR_len];exact hat
    have g2:atM s m<(peersM s m).length:=by rw [peersM,setP_len];exact g1
    have g3:atM s m<(countM s m).n.peers.length:=by rw [countM_len];exact hat
    refine ⟨⟨g1,g1,trivial⟩,⟨g2,g2,g2,trivial⟩,⟨k0.sn (by decide),k0.so (by decide),k0.cf.1,trivial⟩,⟨g3,d1,d2,d3,d4,f1,f2,f3,f4,trivial⟩,trivial,fun h3=>?_,fun h3=>?_⟩
    ·have h3:(nowP s m).next≤(lastC (countM s m).n.kept).1:=of_decide_eq_true h3
     have e:M=answerS (toS (countM s m) (nowP s m)):=by rw [← hM,matchedS,if_neg (by rw [h];decide),if_pos h2,if_pos h3]
     subst e
     refine ⟨⟨g3,k1.sn (by decide),Nat.le_trans k1.messages (by decide),trivial⟩,⟨k2.sn (by decide),k2.so (by decide),hy2,Nat.le_trans k2.reads (by decide),Nat.le_trans k2.peers (by decide),trivial⟩,?_⟩
     repeat' apply And.intro
     all_goals first | trivial | rfl
    ·have h3:¬ (nowP s m).next≤(lastC (countM s m).n.kept).1:=of_decide_eq_false h3
     have e:M=answerS (countM s m):=by rw [← hM,matchedS,if_neg (by rw [h];decide),if_pos h2,if_neg h3]
     subst e
     refine ⟨⟨k1.sn (by decide),k1.so (by decide),hy2,Nat.le_trans k1.reads (by decide),Nat.le_trans k1.peers (by decide),trivial⟩,?_⟩
     repeat' apply And.intro
     all_goals first | trivial | rfl
   ·have h2:(m.ok&&decide (m.index≤(lastC s.n.kept).1))=false:=(pickB_and2 _ _).symm.trans h2
    have g1:atM s m<(peersR s m).length:=by rw [peersR_len];exact hat
    refine ⟨trivial,trivial,fun h3=>?_,fun h3=>?_⟩
    ·have h3:m.ok=false:=by
      have h4:(!m.ok)=true:=h3
      cases hk:m.ok
      ·rfl
      ·rw [hk] at h4;cases h4
     have k0:Few 30000 (withP s (peersN s m)):=⟨hf.entries,hf.ec,hf.sc,hf.yes,by show (peersN s m).length≤_;rw [peersN_len];exact hf.peers,hf.reads,hf.records,hf.messages,hf.ready,hf.lost⟩
     have k2:Few 30001 (toS (withP s (peersN s m)) ((peersN s m).getD (atM s m) default)):=k0.send _
     have g2:atM s m<(peersN s m).length:=by rw [peersN_len];exact hat
     have e:M=answerS (toS (withP s (peersN s m)) ((peersN s m).getD (atM s m) default)):=by rw [← hM,matchedS,if_neg (by rw [h];decide),if_neg (by rw [h2];decide),if_neg (by rw [h3];decide)]
     subst e
     refine ⟨⟨g1,g1,g1,trivial⟩,⟨g2,k0.sn (by decide),Nat.le_trans k0.messages (by decide),trivial⟩,⟨k2.sn (by decide),k2.so (by decide),hy1,Nat.le_trans k2.reads (by decide),Nat.le_trans k2.peers (by decide),trivial⟩,?_⟩
     repeat' apply And.intro
     all_goals first | trivial | rfl
    ·have h3:m.ok=true:=by
      have h4:(!m.ok)=false:=h3
      cases hk:m.ok
      ·rw [hk] at h4;cases h4
      ·rfl
     have k0:Few 30000 (withP s (peersR s m)):=⟨hf.entries,hf.ec,hf.sc,hf.yes,by show (peersR s m).length≤_;rw [peersR_len];exact hf.peers,hf.reads,hf.records,hf.messages,hf.ready,hf.lost⟩
     have e:M=answerS (withP s (peersR s m)):=by rw [← hM,matchedS,if_neg (by rw [h];decide),if_neg (by rw [h2];decide),if_pos h3]
     subst e
     refine ⟨⟨k0.sn (by decide),k0.so (by decide),hy1,Nat.le_trans k0.reads (by decide),Nat.le_trans k0.peers (by decide),trivial⟩,?_⟩
     repeat' apply And.intro
     all_goals first | trivial | rfl
def eMatched:Ent:=entL1 93 3 mW dMessage.L vrW [1,0] glW fun s m=>([Few 30000 s,s.o.ready.length≤9000],.tup [],wMo (matchedS s m))
theorem eMatched_ok:EntOk Tryz.prog eMatched:=entL1_ok (fnB Tryz.func93 (by decide) rfl) fun s m h=>matched_fn s m (h _ (by simp)) (h _ (by simp))
theorem Few.answer {B:Nat} {s:Step} (h:Few B s):Few (B+5000) (answerS s):=by
 have h1:=h.ready
 have h2:=h.reads
 have g:=h.mono (show B≤B+5000 by omega)
 have h3:=List.length_filter_le (fun r=>!readyB s r) s.n.reads
 have h4:=List.length_filter_le (readyB s) s.n.reads
 exact ⟨g.entries,g.ec,g.sc,g.yes,g.peers,by show (List.filter _ _).length≤_;omega,g.records,g.messages,by show (_++_:List Read).length≤_;simp only [List.length_append];omega,g.lost⟩
theorem Few.withP {B:Nat} {s:Step} {l:List Peer} (h:Few B s) (hl:l.length≤5000):Few B (withP s l):=⟨h.entries,h.ec,h.sc,h.yes,hl,h.reads,h.records,h.messages,h.ready,h.lost⟩
theorem Few.matched {B:Nat} {s:Step} (m:Message) (h:Few B s):Few (B+5001) (matchedS s m):=by
 have k0:Few B (countM s m):=(h.withP (by rw [peersO_len];exact h.peers)).count
 unfold matchedS
 split
 ·exact h.mono (by omega)
 split
 ·split
  ·exact (Few.answer (k0.send _)).mono (by omega)
  ·exact k0.answer.mono (by omega)
 split
 ·exact (Few.answer (h.withP (by rw [peersR_len];exact h.peers))).mono (by omega)
 ·exact (Few.answer (Few.send _ (h.withP (by rw [peersN_len];exact h.peers)))).mono (by omega)
def hear6S (n:Node) (m:Message):Step:=if mayM n m then matchedS (hear0 n m) m else stepZ n
noncomputable def tabHm:List Ent:=[eBegY,eRefused,eMayM,eFall,eMatched,eEnd]
theorem tabHm_ok:∀ e∈tabHm,EntOk Tryz.prog e:=tab_cons eBegY_ok (tab_cons eRefused_ok (tab_cons eMayM_ok (tab_cons eFall_ok (tab_cons eMatched_ok (tab_cons eEnd_ok tab_nil)))))
theorem fallS_ready (n:Node) (t:Int):(fallS (stepZ n) t).o.ready=[]:=by
 unfold fallS fall1
 split<;>rfl
theorem hear6Y_fn (n:Node) (m:Message) (hf:Few 20000 (stepZ n)) (hm:SmallM m) (hr:rightC n=true) (hk:m.kind=6):FnC Tryz.prog 29 [dNode.can n,dMessage.can m] (refO (hear6S n m).n (hear6S n m).o 0) D3d:=by
 refine FnG.of_vc (fitsT tabHm_ok fun _=>none) Tryz.func29 rfl (by decide) rfl 300 (p:=fun (V:List PE→Prop)=>let v0:=Message.kind m;let v1:=Node.kept zeroN;let v2:=Message.term m;let v3:=Node.kept n;let v4:=v3.term;let v5:=v1.snap;let v6:=v3.entries;let v7:=v3.snap;let v8:=v5.config;let v9:=v7.config;let v10:=Step.n (hear6S n m);let v11:=Step.o (hear6S n m);let v12:=v11.messages;let v13:=v10.role;let v14:=v11.lost;let v15:=v11.ready;let v16:=v10.commit;let v17:=v10.yes;let v18:=v10.lead;let v19:=(0:Int);let v20:=v10.peers;let v21:=v10.kept;let v22:=v10.round;let v23:=v10.elapsed;let v24:=v10.id;let v25:=v11.records;let v26:=v10.reads;let v27:=v21.entries;let v28:=v21.snap;let v29:=v21.vote;let v30:=v21.term;let v31:=v28.config;let v32:=v28.data;let v33:=v28.term;let v34:=v28.index;let v35:=v31.learners;let v36:=v31.voters;let v37:=Out.mk [] [] [] [];let v38:=Step.mk n v37;let v39:=v0==(1:Int);let v40:=v0==(2:Int);let v41:=v0==(7:Int);let v42:=v0==(4:Int);let v43:=v0==(5:Int);let v44:=v0==(3:Int);let v45:=v0==(6:Int);let v46:=matchedS v38 m;let v47:=fallS v38 v2;let v48:=v46.o;let v49:=v46.n;let v50:=v47.o;let v51:=v49.kept;let v52:=v47.n;let v53:=v19 != v19;let v54:=decide (v2>v4);let v55:=v52.kept;let v56:=v50.ready;let v57:=v51.snap;let v58:=matchedS v47 m;let v59:=v58.n;let v60:=v55.snap;let v61:=v57.config;let v62:=v58.o;let v63:=v60.config;let v64:=v59.kept;let v65:=v64.snap;let v66:=v65.config;let v67:=pickB v54 (v0 != (1:Int)) false;let v68:=pickB v67 (!pickB v40 (Message.ok m) false) false;True∧(SmallN n∧rightC n=true∧True)∧True∧True∧(v53=true→True∧Node.id zeroN=v24∧Node.role zeroN=v13∧v1.term=v30∧v1.vote=v29∧v5.index=v34∧v5.term=v33∧v8.voters=v36∧v8.learners=v35∧v5.data=v32∧v1.entries=v27∧Node.commit zeroN=v16∧Node.lead zeroN=v18∧Node.elapsed zeroN=v23∧Node.yes zeroN=v17∧Node.peers zeroN=v20∧Node.round zeroN=v22∧Node.reads zeroN=v26∧Out.records outZ=v25∧Out.messages outZ=v12∧Out.ready outZ=v15∧Out.lost outZ=v14∧v19=v19∧True)∧(v53=false→(List.length v6≤(17592186044416:Nat)∧List.length (Node.yes n)≤(17592186044416:Nat)∧List.length (Node.peers n)≤(17592186044416:Nat)∧List.length (Node.reads n)≤(17592186044416:Nat)∧SmallM m∧True)∧True∧((!mayM n m)=true→(SmallN n∧SmallO v37∧True)∧Node.id n=v24∧Node.role n=v13∧v4=v30∧v3.vote=v29∧v7.index=v34∧v7.term=v33∧v9.voters=v36∧v9.learners=v35∧v7.data=v32∧v6=v27∧Node.commit n=v16∧Node.lead n=v18∧Node.elapsed n=v23∧Node.yes n=v17∧Node.peers n=v20∧Node.round n=v22∧Node.reads n=v26∧[]=v25∧[]=v12∧[]=v15∧[]=v14∧v19=v19∧True)∧((!mayM n m)=false→((v54=true→v54=true)∧(v54=true→v54=true)∧(v54=true→v54=true)∧(v67=true→v67=true)∧(v67=true→v67=true)∧(v67=true→v67=true)∧((v67&&v40)=true→(v67&&v40)=true)∧(v67=true→v67=true)∧(v67=true→v40=true→(v67&&v40)=true)∧(v67=true→v67=true)∧(v67=true→v67=true)∧True)∧True∧(v68=true→(Few (70000:Nat) v38∧True)∧True∧True∧True∧(v39=true→False)∧(v39=false→True∧True∧(v40=true→False)∧(v40=false→True∧True∧(v44=true→False)∧(v44=false→True∧True∧(v42=true→False)∧(v42=false→True∧True∧(v43=true→False)∧(v43=false→True∧True∧(v45=true→(Few (30000:Nat) v47∧List.length v56≤(9000:Nat)∧True)∧(SmallN v59∧SmallO v62∧True)∧v59.id=v24∧v59.role=v13∧v64.term=v30∧v64.vote=v29∧v65.index=v34∧v65.term=v33∧v66.voters=v36∧v66.learners=v35∧v65.data=v32∧v64.entries=v27∧v59.commit=v16∧v59.lead=v18∧v59.elapsed=v23∧v59.yes=v17∧v59.peers=v20∧v59.round=v22∧v59.reads=v26∧v62.records=v25∧v62.messages=v12∧v62.ready=v15∧v62.lost=v14∧v19=v19∧True)∧(v45=false→True∧True∧(v41=true→False)∧(v41=false→(SmallN v52∧SmallO v50∧True)∧v52.id=v24∧v52.role=v13∧v55.term=v30∧v55.vote=v29∧v60.index=v34∧v60.term=v33∧v63.voters=v36∧v63.learners=v35∧v60.data=v32∧v55.entries=v27∧v52.commit=v16∧v52.lead=v18∧v52.elapsed=v23∧v52.yes=v17∧v52.peers=v20∧v52.round=v22∧v52.reads=v26∧v50.records=v25∧v50.messages=v12∧v56=v15∧v50.lost=v14∧v19=v19∧True))))))))∧(v68=false→True∧True∧True∧(v39=true→False)∧(v39=false→True∧True∧(v40=true→False)∧(v40=false→True∧True∧(v44=true→False)∧(v44=false→True∧True∧(v42=true→False)∧(v42=false→True∧True∧(v43=true→False)∧(v43=false→True∧True∧(v45=true→(Few (30000:Nat) v38∧(0:Nat)≤(9000:Nat)∧True)∧(SmallN v49∧SmallO v48∧True)∧v49.id=v24∧v49.role=v13∧v51.term=v30∧v51.vote=v29∧v57.index=v34∧v57.term=v33∧v61.voters=v36∧v61.learners=v35∧v57.data=v32∧v51.entries=v27∧v49.commit=v16∧v49.lead=v18∧v49.elapsed=v23∧v49.yes=v17∧v49.peers=v20∧v49.round=v22∧v49.reads=v26∧v48.records=v25∧v48.messages=v12∧v48.ready=v15∧v48.lost=v14∧v19=v19∧True)∧(v45=false→True∧True∧(v41=true→False)∧(v41=false→(SmallN n∧SmallO v37∧True)∧Node.id n=v24∧Node.role n=v13∧v4=v30∧v3.vote=v29∧v7.index=v34∧v7.term=v33∧v9.voters=v36∧v9.learners=v35∧v7.data=v32∧v6=v27∧Node.commit n=v16∧Node.lead n=v18∧Node.elapsed n=v23∧Node.yes n=v17∧Node.peers n=v20∧Node.round n=v22∧Node.reads n=v26∧[]=v25∧[]=v12∧[]=v15∧[]=v14∧v19=v19∧True))))))))))) (by kernel_rfl) ?_
 simp only [imp_self,implies_true,true_and,and_true,pickB_f,pickB_t,notF]
 have k0:Few 20000 (stepZ n):=hf
 have kf:=hf.fall m.term
 obtain ⟨b1,b2,b3,b4,b5⟩:=(hf.sn (by decide)).ls
 have d1:(m.kind==1)=false:=by rw [hk];rfl
 have d2:(m.kind==2)=false:=by rw [hk];rfl
 have d3:(m.kind==3)=false:=by rw [hk];rfl
 have d4:(m.kind==4)=false:=by rw [hk];rfl
 have d5:(m.kind==5)=false:=by rw [hk];rfl
 have d6:(m.kind==6)=true:=by rw [hk];rfl
 simp only [d1,d2,d3,d4,d5,d6,Bool.true_eq_false,Bool.false_eq_true,false_implies,true_implies,forall_const,true_and,and_true,imp_self]
 refine ⟨⟨hf.sn (by decide),hr⟩,fun h=>absurd h (by decide),fun _=>⟨⟨b1,b2,b3,b4,hm⟩,fun h=>?_,fun h=>⟨fun g=>(by first | trivial | simpa using g),fun g=>?_,fun g=>?_⟩⟩⟩
 ·have h:mayM n m=false:=by simpa using h
  have e:hear6S n m=stepZ n:=by rw [hear6S,if_neg (by rw [h];decide)]
  rw [e]
  refine ⟨⟨k0.sn (by decide),k0.so (by decide)⟩,?_⟩
  repeat' apply And.intro
  all_goals rfl
 ·have h:mayM n m=true:=by simpa using h
  have hfb:fallB n m=true:=by rw [fallB,d2];exact g
  have e:hear6S n m=matchedS (fallS (stepZ n) m.term) m:=by rw [hear6S,if_pos h,hear0,if_pos hfb]
  have k1:=kf.matched m
  rw [e]
  refine ⟨hf.mono (by decide),⟨kf.mono (by decide),by show (fallS (stepZ n) m.term).o.ready.length≤_;rw [fallS_ready];decide⟩,⟨k1.sn (by decide),k1.so (by decide)⟩,?_⟩
  repeat' apply And.intro
  all_goals rfl
 ·have h:mayM n m=true:=by simpa using h
  have hfb:fallB n m=false:=by rw [fallB,d2];exact g
  have e:hear6S n m=matchedS (stepZ n) m:=by rw [hear6S,if_pos h,hear0,if_neg (by rw [hfb];decide)]
  have k1:=k0.matched m
  rw [e]
  refine ⟨⟨k0.mono (by decide),Nat.zero_le _⟩,⟨k1.sn (by decide),k1.so (by decide)⟩,?_⟩
  repeat' apply And.intro
  all_goals rfl
def hearAS (n:Node) (m:Message):Step:=if m.kind=6 then hear6S n m else hear24S n m
def hearAC (n:Node) (m:Message):Step×Int:=if rightC n then (hearAS n m,0) else (⟨zeroN,outZ⟩,1)
theorem hearA_fn (n:Node) (m:Message) (hf:Few 20000 (stepZ n)) (hm:SmallM m) (hk:m.kind=2∨m.kind=4∨m.kind=6):FnC Tryz.prog 29 [dNode.can n,dMessage.can m] (refO (hearAC n m).1.n (hearAC n m).1.o (hearAC n m).2) D3d:=by
 unfold hearAC
 cases hr:rightC n
 ·exact hear24N_fn n m (hf.sn (by decide)) hr
 ·rw [if_pos rfl,hearAS]
  by_cases h6:m.kind=6
  ·rw [if_pos h6];exact hear6Y_fn n m hf hm hr h6
  ·rw [if_neg h6];exact hear24Y_fn n m (hf.mono (by decide)) hm hr (by omega)
def eHearA:Ent:=ent2 29 dNode dMessage fun n m=>([Few 20000 (stepZ n),SmallM m,m.kind=2∨m.kind=4∨m.kind=6],refO (hearAC n m).1.n (hearAC n m).1.o (hearAC n m).2,D3d)
theorem eHearA_ok:EntOk Tryz.prog eHearA:=ent2_ok (fnB Tryz.func29 (by decide) rfl) fun n m h=>hearA_fn n m (h _ (by simp)) (h _ (by simp)) (h _ (by simp))
def elM3:Message:=⟨6,2,1,2,2,0,[],0,0,true,zSnap,0,0,zs⟩
def el3:Step:=hearAS el2.n elM3
theorem fewB2_ok {s:Step} (h:fewB s=true):Few 20000 s:=by
 unfold fewB at h
 simp only [Bool.and_eq_true,decide_eq_true_eq,List.all_eq_true] at h
 obtain ⟨⟨⟨⟨⟨⟨⟨⟨⟨⟨h1,h2⟩,h3⟩,h4⟩,h5⟩,h6⟩,h7⟩,h8⟩,h9⟩,h10⟩,h11⟩:=h
 exact ⟨by omega,fun e he=>by have:=h2 e he;exact ⟨by omega,by omega⟩,⟨by omega,by omega⟩,by omega,by omega,by omega,by omega,by omega,by omega,by omega⟩
theorem el3_facts:rightC el2.n=true∧fewB el3=true∧el3.n.commit=2:=⟨by kernel_rfl,by kernel_rfl,by kernel_rfl⟩
theorem el3_hear:hearAC el2.n (Message.mk 6 2 1 2 2 0 [] 0 0 true (Snap.mk 0 0 (Config.mk [] []) (ByteArray.mk #[])) 0 0 (ByteArray.mk #[]))=(el3,0):=by
 rw [hearAC,if_pos el3_facts.1];rfl
def setE (n:Node):Int:=if leadE n≠0 then leadE n else if (termC n.kept n.commit).1=n.kept.term then 0 else 171
theorem leadE_ok {n:Node} (he:leadE n=0):rightC n=true∧n.role=4:=by
 unfold leadE at he
 by_cases hr:rightC n=true
 ·rw [if_pos hr] at he
  by_cases h4:n.role=4
  ·exact ⟨hr,h4⟩
  ·rw [if_neg h4] at he;exact absurd he (by decide)
 ·rw [if_neg hr] at he;exact absurd he (by decide)
theorem setE_ok {n:Node} (he:setE n=0):leadE n=0∧(termC n.kept n.commit).1=n.kept.term:=by
 unfold setE at he
 split at he
 ·rename_i h;exact absurd he h
 ·rename_i h
  split at he
  ·rename_i h2;exact ⟨Classical.not_not.1 h,h2⟩
  ·exact absurd he (by decide)
noncomputable def tabSt:List Ent:=[eLeadY,eTermC]
theorem tabSt_ok:∀ e∈tabSt,EntOk Tryz.prog e:=tab_cons eLeadY_ok (tab_cons eTermC_ok tab_nil)
theorem settledN_fn (n:Node) (hn:SmallN n) (he:setE n≠0):FnC Tryz.prog 109 [dNode.can n] (.tup [.any,.int .i64 (setE n)]) D2:=by
 by_cases h0:leadE n=0
 ·have e:setE n=171:=by
   unfold setE at he ⊢
   rw [if_neg (Classical.not_not.2 h0)] at he ⊢
   split at he
   ·exact absurd rfl he
   ·rename_i h;rw [if_neg h]
  have hne:¬ (termC n.kept n.commit).1=n.kept.term:=fun h=>by
   rw [setE,if_neg (Classical.not_not.2 h0),if_pos h] at e;exact absurd e (by decide)
  obtain ⟨hr,h4⟩:=leadE_ok h0
  refine FnG.of_vc (fitsT tabSt_ok fun _=>none) Tryz.func109 rfl (by decide) rfl 300 (p:=fun (V:List PE→Prop)=>let v0:=(0:Int) != (0:Int);let v1:=Prod.fst (termC (Node.kept n) (Node.commit n)) != Kept.term (Node.kept n);True∧(SmallN n∧rightC n=true∧Node.role n=(4:Int)∧True)∧True∧True∧(v0=true→True∧(0:Int)=setE n∧True)∧(v0=false→True∧True∧True∧(v1=true→True∧(171:Int)=setE n∧True)∧(v1=false→True∧(0:Int)=setE n∧True))) (by kernel_rfl) ?_
  simp only [imp_self,implies_true,true_and,and_true,pickB_f,pickB_t]
  refine ⟨⟨hn,hr,h4⟩,fun h=>absurd h (by decide),fun _=>⟨fun _=>e.symm,fun h=>?_⟩⟩
  exact absurd (by simpa using h) hne
 ·have e:setE n=leadE n:=by rw [setE,if_pos h0]
  rw [e]
  refine FnG.of_vc (fitsT (tab_cons eLeadN_ok tab_nil) fun _=>none) Tryz.func109 rfl (by decide) rfl 300 (p:=fun (V:List PE→Prop)=>let v0:=leadE n != (0:Int);True∧(SmallN n∧leadE n≠(0:Int)∧True)∧True∧True∧(v0=true→True∧leadE n=leadE n∧True)∧(v0=false→False)) (by kernel_rfl) ?_
  simp only [imp_self,implies_true,true_and,and_true,pickB_f,pickB_t]
  refine ⟨⟨hn,h0⟩,fun h=>?_⟩
  exact absurd (by simpa using h) h0
theorem settledY_fn (n:Node) (hn:SmallN n) (he:setE n=0):FnC Tryz.prog 109 [dNode.can n] (.tup [.ptr 2 0,.int .i64 0]) (beginMo n):=by
 obtain ⟨h0,ht⟩:=setE_ok he
 obtain ⟨hr,h4⟩:=leadE_ok h0
 refine FnG.of_vc (fitsT tabSt_ok fun _=>none) Tryz.func109 rfl (by decide) rfl 300 (p:=fun (V:List PE→Prop)=>let v0:=Node.commit n;let v1:=Node.role n;let v2:=Node.kept n;let v3:=v2.vote;let v4:=v2.term;let v5:=v2.entries;let v6:=v2.snap;let v7:=v6.index;let v8:=v6.term;let v9:=v6.config;let v10:=v6.data;let v11:=v9.learners;let v12:=(0:Int);let v13:=v9.voters;let v14:=v12 != v12;let v15:=Prod.fst (termC v2 v0) != v4;True∧(SmallN n∧rightC n=true∧v1=(4:Int)∧True)∧True∧True∧(v14=true→True∧False)∧(v14=false→True∧True∧True∧(v15=true→True∧False)∧(v15=false→True∧v12=v12∧Node.id n=Node.id n∧v1=v1∧v4=v4∧v3=v3∧v7=v7∧v8=v8∧v13=v13∧v11=v11∧v10=v10∧v0=v0∧Node.lead n=Node.lead n∧Node.elapsed n=Node.elapsed n∧Node.round n=Node.round n∧v5=v5∧Node.yes n=Node.yes n∧Node.peers n=Node.peers n∧Node.reads n=Node.reads n∧True))) (by kernel_rfl) ?_
 simp only [imp_self,implies_true,true_and,and_true,pickB_f,pickB_t]
 refine ⟨⟨hn,hr,h4⟩,fun h=>absurd h (by decide),fun _ h=>?_⟩
 rw [ht] at h;simp at h
def eSetN:Ent:=ent1 109 dNode fun n=>([SmallN n,setE n≠0],.tup [.any,.int .i64 (setE n)],D2)
theorem eSetN_ok:EntOk Tryz.prog eSetN:=ent1_ok (fnB Tryz.func109 (by decide) rfl) fun n h=>settledN_fn n (h _ (by simp)) (h _ (by simp))
def eSetY:Ent:=ent1 109 dNode fun n=>([SmallN n,setE n=0],.tup [.ptr 2 0,.int .i64 0],beginMo n)
theorem eSetY_ok:EntOk Tryz.prog eSetY:=ent1_ok (fnB Tryz.func109 (by decide) rfl) fun n h=>settledY_fn n (h _ (by simp)) (h _ (by simp))
def earlyB (n:Node):Bool:=(termC n.kept n.commit).1 != n.kept.term
theorem rearly_fn (n:Node):FnC Tryz.prog 111 [dNode.can n] (.bool (earlyB n)) D2:=by
 refine FnG.of_vc (fitsT (tab_cons eRTermC_ok tab_nil) fun _=>none) Tryz.func111 rfl (by decide) rfl 300 (p:=fun (V:List PE→Prop)=>True∧True∧True∧(Prod.fst (termC (Node.kept n) (Node.commit n)) != Kept.term (Node.kept n))=earlyB n∧True) (by kernel_rfl) ?_
 simp only [imp_self,implies_true,true_and,and_true,pickB_f,pickB_t]
 first | rfl | exact ⟨trivial,rfl⟩
def eREarly:Ent:=ent1 111 dNode fun n=>([],.bool (earlyB n),D2)
theorem eREarly_ok:EntOk Tryz.prog eREarly:=ent1_ok (fnB Tryz.func111 (by decide) rfl) fun n h=>rearly_fn n
def kindB (c:Config) (k n:Int):Bool:=if k=1 then !hasB c.voters n&&!hasB c.learners n else if k=2 then hasB c.learners n else if k=3 then hasB c.learners n||(hasB c.voters n&&decide ((1:Int)<(c.voters.length:Int))) else false
def applyB (c:Config) (k n:Int):Bool:=(mayC c&&decide (1≤n)&&decide (n≤5))&&kindB c k n
def applyC (c:Config) (k n:Int):Config:=⟨if k=2 then putL (dropL c.voters n) n else dropL c.voters n,if k=1 then putL (dropL c.learners n) n else dropL c.learners n⟩
def applyH (c:Config) (k n:Int):Config:=if applyB c k n=true then applyC c k n else ⟨[],[]⟩
def applyE (c:Config) (k n:Int):Int:=if applyB c k n=true then 0 else 160
theorem dropL_mem {xs:List Int} {n x:Int}:x∈dropL xs n↔x∈xs∧x≠n:=by simp [dropL]
theorem dropL_asc {xs:List Int} {n:Int} (h:Asc xs):Asc (dropL xs n):=List.Pairwise.filter _ h
theorem dropL_len (xs:List Int) (n:Int):(dropL xs n).length≤xs.length:=List.length_filter_le _ _
theorem mayC_iff {c:Config}:mayC c=true↔(Asc c.voters∧Asc c.learners)∧(∀ x∈c.voters,1≤x∧x≤5)∧(∀ x∈c.learners,1≤x∧x≤5)∧c.voters≠[]∧(∀ x∈c.voters,x∉c.learners):=by
 have hb:∀ x,inN x=true↔1≤x∧x≤5:=fun x=>by simp [inN]
 have hm:∀ x:Int,(!hasB c.learners x)=true↔x∉c.learners:=fun x=>by
  rw [Bool.not_eq_true',← hasB_not]
 unfold mayC
 simp only [Bool.and_eq_true,decide_eq_true_eq,List.all_eq_true,hb,hm,isC_iff]
 constructor
 ·rintro ⟨⟨⟨⟨⟨a,_⟩,b⟩,⟨⟨d,_⟩,e⟩⟩,f⟩,g⟩
  exact ⟨⟨a,d⟩,b,e,f,g⟩
 ·rintro ⟨⟨a,d⟩,b,e,f,g⟩
  have l1:=asc_len _ 1 5 a b (by omega)
  have l2:=asc_len _ 1 5 d e (by omega)
  exact ⟨⟨⟨⟨⟨a,by omega⟩,b⟩,⟨⟨d,by omega⟩,e⟩⟩,f⟩,g⟩
theorem set_inC {xs:List Int} (a:Asc xs) (h:∀ x∈xs,1≤x∧x≤5):isC xs=true:=by
 have:=asc_len _ 1 5 a h (by omega)
 exact isC_iff.2 ⟨a,by omega⟩
theorem put_inC {xs:List Int} {n:Int} (a:Asc xs) (h:∀ x∈xs,1≤x∧x≤5) (h1:1≤n) (h2:n≤5):(∀ x∈putL xs n,1≤x∧x≤5)∧withC xs n=putL xs n:=by
 have hp:∀ x∈putL xs n,1≤x∧x≤5:=fun x hx=>by
  rcases putL_mem.1 hx with rfl | hx
  ·exact ⟨h1,h2⟩
  ·exact h x hx
 refine ⟨hp,?_⟩
 have hl:=asc_len _ 1 5 (putL_asc (v:=n) a) hp (by omega)
 rw [withC,if_pos (set_inC a h),if_pos (by omega)]
theorem drop_out {xs:List Int} {n:Int} (h:n∉xs):dropL xs n=xs:=by
 unfold dropL
 rw [List.filter_eq_self]
 intro x hx
 have:x≠n:=fun e=>h (e▸hx)
 simp [this]
theorem drop_one : ∀ {xs : List Int} {n : Int}, Asc xs → n ∈ xs → (dropL xs n).length + 1 = xs.length
  | [], n, _, h => by cases h
  | x :: xs, n, ha, h => by
    obtain ⟨hx, hl⟩ := List.pairwise_cons.1 ha
    by_cases e : x = n
    · subst e
      have hn : x ∉ xs := fun hm => by have := hx x hm; omega
      have : dropL (x :: xs) x = xs := by
        have h1 : dropL (x :: xs) x = dropL xs x := by simp [dropL]
        rw [h1, drop_out hn]
      rw [this]; rfl
    · have h1 : dropL (x :: xs) n = x :: dropL xs n := by simp [dropL, e]
      have hm : n ∈ xs := by rcases List.mem_cons.1 h with h | h; exact absurd h.symm e; exact h
      rw [h1, List.length_cons, List.length_cons, drop_one hl hm]
def kindP (c:Config) (k n:Int):Bool:=if k=1 then !(hasB c.voters n||hasB c.learners n) else if k=2 then hasB c.learners n&&decide ((0:Int)<((putL (dropL c.voters n) n).length:Int)) else if k=3 then (hasB c.voters n||hasB c.learners n)&&decide ((0:Int)<((dropL c.voters n).length:Int)) else false
theorem kind_same {c : Config} (k n : Int) (h : mayC c = true) : kindP c k n = kindB c k n := by
  obtain ⟨⟨a1, a2⟩, h1, h2, h3, h4⟩ := mayC_iff.1 h
  unfold kindP kindB
  by_cases c1 : k = 1
  · rw [if_pos c1, if_pos c1]; simp
  rw [if_neg c1, if_neg c1]
  by_cases c2 : k = 2
  · rw [if_pos c2, if_pos c2]
    have hm : n ∈ putL (dropL c.voters n) n := putL_mem.2 (.inl rfl)
    have : (0 : Int) < ((putL (dropL c.voters n) n).length : Int) := by
      have := List.length_pos_of_mem hm; omega
    rw [decide_eq_true this, Bool.and_true]
  rw [if_neg c2, if_neg c2]
  by_cases c3 : k = 3
  · rw [if_pos c3, if_pos c3]
    cases hv : hasB c.voters n
    · have hn := hasB_not.1 hv
      rw [drop_out hn]
      have : (0 : Int) < (c.voters.length : Int) := by
        have := List.length_pos_iff.2 h3; omega
      rw [decide_eq_true this]; simp
    · have hm := hasB_iff.1 hv
      have hl : hasB c.learners n = false := hasB_not.2 (h4 n hm)
      have hd := drop_one a1 hm
      rw [hl]
      simp only [Bool.true_or, Bool.true_and, Bool.false_or]
      rw [Bool.eq_iff_iff]
      simp only [decide_eq_true_eq]
      omega
  rw [if_neg c3, if_neg c3]
theorem apply_len {c:Config} {k n:Int} (h:applyB c k n=true):(dropL c.voters n).length≤1000∧(dropL c.learners n).length≤1000∧(putL (dropL c.voters n) n).length≤1000∧(putL (dropL c.learners n) n).length≤1000:=by
 unfold applyB at h
 simp only [Bool.and_eq_true,decide_eq_true_eq] at h
 obtain ⟨⟨⟨hm,h1⟩,h5⟩,_⟩:=h
 obtain ⟨⟨a1,a2⟩,m1,m2,_,_⟩:=mayC_iff.1 hm
 have d0:=dropL_asc (n:=n) a1
 have d1:=dropL_asc (n:=n) a2
 have p0:=put_inC (n:=n) d0 (fun x hx=>m1 x (dropL_mem.1 hx).1) (by omega) (by omega)
 have p1:=put_inC (n:=n) d1 (fun x hx=>m2 x (dropL_mem.1 hx).1) (by omega) (by omega)
 have q0:=asc_len _ 1 5 (putL_asc (v:=n) d0) p0.1 (by omega)
 have q1:=asc_len _ 1 5 (putL_asc (v:=n) d1) p1.1 (by omega)
 have r0:=asc_len _ 1 5 d0 (fun x hx=>m1 x (dropL_mem.1 hx).1) (by omega)
 have r1:=asc_len _ 1 5 d1 (fun x hx=>m2 x (dropL_mem.1 hx).1) (by omega)
 omega
theorem cond_r (c:Config) (k n:Int):pickB (k==1) (mayC c&&decide (n≥1)&&decide (n≤5)&&!hasB c.voters n&&!hasB c.learners n)
  (pickB (k==2) (mayC c&&decide (n≥1)&&decide (n≤5)&&hasB c.learners n) (k==3&&(mayC c&&decide (n≥1)&&decide (n≤5)&&(hasB c.learners n||hasB c.voters n&&decide ((c.voters.length:Int)>1)))))=applyB c k n:=by
 unfold applyB kindB pickB
 simp only [ge_iff_le,gt_iff_lt]
 generalize (mayC c&&decide (1≤n)&&decide (n≤5))=x
 by_cases h1:k=1
 ·subst h1;simp [Bool.and_assoc]
 ·by_cases h2:k=2
  ·subst h2;simp
  ·by_cases h3:k=3
   ·subst h3;simp
   ·simp [h1,h2,h3]
def tabAr:List Ent:=[eHas,eRHas,eDrop,ePutS,eRMay]
theorem tabAr_ok:∀ e∈tabAr,EntOk Tryz.prog e:=tab_cons eHas_ok (tab_cons eRHas_ok (tab_cons eDrop_ok (tab_cons ePutS_ok (tab_cons eRMay_ok tab_nil))))
theorem withC_le (l:List Int) (v:Int):(withC l v).length≤16:=by
 unfold withC
 split
 ·split
  ·assumption
  ·simp
 ·simp
theorem rapply_fn (c:Config) (ch:Change) (hs:SmallC c):FnC Tryz.prog 116 [dConfig.can c,dChange.can ch] (.tup [.agg ((applyH c ch.kind ch.node).svs [1]),.int .i64 (applyE c ch.kind ch.node)]) D2:=by
 refine FnG.of_vc (fitsT tabAr_ok fun _=>none) Tryz.func116 rfl (by decide) rfl 300 (p:=fun (V:List PE→Prop)=>let v0:=Config.learners c;let v1:=Config.voters c;let v2:=Change.node ch;let v3:=Change.kind ch;let v4:=List.length v1;let v5:=hasB v1 v2;let v6:=dropL v0 v2;let v7:=hasB v0 v2;let v8:=(1:Int);let v9:=dropL v1 v2;let v10:=!v7;let v11:=applyE c v3 v2;let v12:=applyH c v3 v2;let v13:=v12.voters;let v14:=(↑v4:Int);let v15:=v12.learners;let v16:=putL v6 v2;let v17:=putL v9 v2;let v18:=v3==v8;let v19:=v3==(3:Int);let v20:=v3==(2:Int);let v21:=pickB (mayC c) (decide (v2≥v8)) false;let v22:=pickB v21 (decide (v2≤(5:Int))) false;let v23:=v22&&v10;let v24:=pickB v22 (!v5) false;let v25:=!pickB v18 (pickB v24 v10 false) (pickB v20 (pickB v22 v7 false) (pickB v19 (pickB v22 (pickB v7 true (pickB v5 (decide (v14>v8)) false)) false) false));True∧True∧True∧True∧((mayC c=true→mayC c=true)∧(mayC c=true→mayC c=true)∧(v21=true→v21=true)∧(v21=true→v21=true)∧True)∧True∧True∧((v18=true→v22=true→v22=true)∧(v18=true→v22=true→v22=true)∧(v18=true→v24=true→v24=true)∧(v18=true→v24=true→v24=true)∧(v18=false→v20=true→v22=true→v22=true)∧(v18=false→v20=false→v19=true→v22=true→v22=true)∧(v18=false→v20=false→v19=true→v23=true→v23=true)∧(v18=false→v20=false→v19=true→(v23&&v5)=true→(v23&&v5)=true)∧(v18=false→v20=false→v19=true→(v23&&v5)=true→(v23&&v5)=true)∧(v18=false→v20=false→v19=true→(v23&&v5)=true→(v23&&v5)=true)∧(v18=false→v20=false→v19=true→v23=true→v23=true)∧(v18=false→v20=false→v19=true→v23=true→v5=true→(v23&&v5)=true)∧(v18=false→v20=false→v19=true→v22=true→v22=true)∧(v18=false→v20=false→v19=true→v22=true→v7=false→v23=true)∧(v18=false→v20=false→v19=true→v22=true→v22=true)∧True)∧True∧True∧(v25=true→True∧v13=[]∧v15=[]∧(160:Int)=v11∧True)∧(v25=false→(v4≤(1000000:Nat)∧List.length v0≤(1000000:Nat)∧True)∧True∧True∧True∧(v18=true→(List.length v6≤(1000000:Nat)∧True)∧True∧v9=v13∧v16=v15∧List.length v16≤(17592186044416:Nat)∧(0:Int)=v11∧True)∧(v18=false→True∧True∧(v20=true→(List.length v9≤(1000000:Nat)∧True)∧True∧v17=v13∧List.length v17≤(17592186044416:Nat)∧v6=v15∧(0:Int)=v11∧True)∧(v20=false→True∧v9=v13∧v6=v15∧(0:Int)=v11∧True)))) (by kernel_rfl) ?_
 simp only [imp_self,implies_true,true_and,and_true,pickB_f,pickB_t]
 rw [cond_r]
 generalize ch.kind=k
 generalize ch.node=n
 refine ⟨⟨?_,?_⟩,?_,?_⟩
 ·intros;simp_all
 ·intros;simp_all
 ·intro h
  have h:applyB c k n=false:=by simpa using h
  unfold applyH applyE
  simp [h]
 ·intro h
  have h:applyB c k n=true:=by simpa using h
  have hl:=apply_len h
  unfold applyH applyE applyC
  obtain ⟨hs1,hs2⟩:=hs
  simp only [h,if_true,true_and,and_true]
  refine ⟨⟨hs1,hs2⟩,fun h1=>?_,fun h1=>⟨fun h2=>?_,fun h2=>?_⟩⟩
  ·have e:k=1:=by simpa using h1
   subst e
   simp;omega
  ·have e:k=2:=by simpa using h2
   subst e
   simp;omega
  ·have e1:¬ k=1:=by simpa using h1
   have e2:¬ k=2:=by simpa using h2
   simp [e1,e2]
noncomputable def tabAm:List Ent:=[eMay,eAsk,eMHas,eWith,eWithout]
theorem tabAm_ok:∀ e∈tabAm,EntOk Tryz.prog e:=tab_cons eMay_ok (tab_cons eAsk_ok (tab_cons eMHas_ok (tab_cons eWith_ok (tab_cons eWithout_ok tab_nil))))
theorem mapply_fn (c:Config) (ch:Change) (hs:SmallC c):FnC Tryz.prog 114 [dConfig.can c,dChange.can ch] (.tup [.agg ((applyH c ch.kind ch.node).svs [1]),.int .i64 (applyE c ch.kind ch.node)]) D2:=by
 refine FnG.of_vc (fitsT tabAm_ok fun _=>none) Tryz.func114 rfl (by decide) rfl 300 (p:=fun (V:List PE→Prop)=>let v0:=Change.node ch;let v1:=Config.learners c;let v2:=Change.kind ch;let v3:=Config.voters c;let v4:=withoutC v3 v0;let v5:=(0:Int);let v6:=withoutC v1 v0;let v7:=hasB v1 v0;let v8:=hasB v3 v0;let v9:=applyH c v2 v0;let v10:=applyE c v2 v0;let v11:=v9.learners;let v12:=List.length v4;let v13:=v9.voters;let v14:=withC v6 v0;let v15:=withC v4 v0;let v16:=List.length v15;let v17:=(↑v12:Int);let v18:=v2==(1:Int);let v19:=v2==(2:Int);let v20:=v2==(3:Int);let v21:=pickB v8 true v7;let v22:=(↑v16:Int);let v23:=!!v21;let v24:=pickB (!mayC c) true (decide (v0<(1:Int)));let v25:=pickB v24 true (decide (v0>(5:Int)));let v26:=!pickB v7 (decide (v22>v5)) false;let v27:=!pickB v21 (decide (v17>v5)) false;True∧True∧True∧(SmallC c∧((!!mayC c)=true→(!!mayC c)=true)∧((!!mayC c)=true→(!!mayC c)=true)∧((!mayC c)=false→(!!mayC c)=true)∧((!v24)=true→(!v24)=true)∧((!v24)=true→(!v24)=true)∧(v24=false→(!v24)=true)∧True)∧True∧(v25=true→True∧v13=[]∧v11=[]∧(160:Int)=v10∧True)∧(v25=false→True∧(List.length v3≤(1000000:Nat)∧True)∧(List.length v1≤(1000000:Nat)∧True)∧((v8=false→(!v8)=true)∧True)∧True∧True∧True∧(v18=true→True∧(List.length v6≤(1000000:Nat)∧True)∧True∧True∧(v23=true→True∧v13=[]∧v11=[]∧(160:Int)=v10∧True)∧(v23=false→True∧v4=v13∧v14=v11∧List.length v14≤(17592186044416:Nat)∧v5=v10∧True))∧(v18=false→True∧True∧(v19=true→True∧(v12≤(1000000:Nat)∧True)∧((v7=true→v7=true)∧(v7=true→v7=true)∧(v7=true→v7=true)∧(v7=true→v7=true)∧True)∧True∧True∧(v26=true→True∧v13=[]∧v11=[]∧(160:Int)=v10∧True)∧(v26=false→True∧v15=v13∧v16≤(17592186044416:Nat)∧v6=v11∧v5=v10∧True))∧(v19=false→True∧True∧(v20=true→((v21=true→v21=true)∧(v21=true→v21=true)∧(v21=true→v21=true)∧(v21=true→v21=true)∧True)∧True∧True∧(v27=true→True∧v13=[]∧v11=[]∧(160:Int)=v10∧True)∧(v27=false→True∧v4=v13∧v6=v11∧v5=v10∧True))∧(v20=false→True∧True∧True∧((!false)=true→True∧v13=[]∧v11=[]∧(160:Int)=v10∧True)∧((!false)=false→True∧v4=v13∧v6=v11∧v5=v10∧True)))))) (by kernel_rfl) ?_
 simp only [imp_self,implies_true,true_and,and_true,pickB_f,pickB_t]
 generalize ch.kind=k
 generalize ch.node=n
 have hs':=hs
 obtain ⟨hs1,hs2⟩:=hs
 by_cases hg:mayC c=true∧1≤n∧n≤5
 ·obtain ⟨hm,h1,h5⟩:=hg
  obtain ⟨⟨a1,a2⟩,m1,m2,m3,m4⟩:=mayC_iff.1 hm
  have d0:=dropL_asc (n:=n) a1
  have d1:=dropL_asc (n:=n) a2
  have p0:=(put_inC (n:=n) d0 (fun x hx=>m1 x (dropL_mem.1 hx).1) h1 h5).2
  have p1:=(put_inC (n:=n) d1 (fun x hx=>m2 x (dropL_mem.1 hx).1) h1 h5).2
  have w0:withoutC c.voters n=dropL c.voters n:=by unfold withoutC;rw [if_pos (set_inC a1 m1)]
  have w1:withoutC c.learners n=dropL c.learners n:=by unfold withoutC;rw [if_pos (set_inC a2 m2)]
  have hd0:=dropL_len c.voters n
  have hd1:=dropL_len c.learners n
  have hB:applyB c k n=kindP c k n:=by unfold applyB;rw [kind_same k n hm];simp [hm,h1,h5]
  have hw0:=withC_le (dropL c.voters n) n
  have hw1:=withC_le (dropL c.learners n) n
  rw [p0] at hw0
  rw [p1] at hw1
  have g1:decide (n<1)=false:=by simp;omega
  have g2:decide (n>5)=false:=by simp;omega
  simp only [w0,w1,p0,p1,hm,g1,g2]
  refine ⟨⟨hs',by simp,by simp⟩,fun h=>by simp at h,fun _=>⟨hs1,hs2,(by cases hasB c.voters n<;>simp),fun e1=>?_,fun n1=>⟨fun e2=>?_,fun n2=>⟨fun e3=>?_,fun n3=>?_⟩⟩⟩⟩
  ·have e1:k=1:=by simpa using e1
   subst e1
   refine ⟨by omega,fun h=>?_,fun h=>?_⟩
   ·have h:applyB c 1 n=false:=by rw [hB,kindP,if_pos rfl];revert h;cases hasB c.voters n<;>cases hasB c.learners n<;>simp
    simp [applyE,applyH,h]
   ·have h:applyB c 1 n=true:=by rw [hB,kindP,if_pos rfl];revert h;cases hasB c.voters n<;>cases hasB c.learners n<;>simp
    simp [applyE,applyH,applyC,h];omega
  ·have e2:k=2:=by simpa using e2
   subst e2
   refine ⟨by omega,fun h=>?_,fun h=>?_⟩
   ·have h:applyB c 2 n=false:=by rw [hB,kindP,if_neg (by decide),if_pos rfl];simpa only [Bool.not_eq_true',Bool.not_eq_false',GT.gt] using h
    simp [applyE,applyH,h]
   ·have h:applyB c 2 n=true:=by rw [hB,kindP,if_neg (by decide),if_pos rfl];simpa only [Bool.not_eq_true',Bool.not_eq_false',GT.gt] using h
    simp [applyE,applyH,applyC,h];omega
  ·have e3:k=3:=by simpa using e3
   subst e3
   refine ⟨fun h=>?_,fun h=>?_⟩
   ·have h:applyB c 3 n=false:=by rw [hB,kindP,if_neg (by decide),if_neg (by decide),if_pos rfl];simpa only [Bool.not_eq_true',Bool.not_eq_false',GT.gt] using h
    simp [applyE,applyH,h]
   ·have h:applyB c 3 n=true:=by rw [hB,kindP,if_neg (by decide),if_neg (by decide),if_pos rfl];simpa only [Bool.not_eq_true',Bool.not_eq_false',GT.gt] using h
    simp [applyE,applyH,applyC,h]
  ·have m1:¬ k=1:=by simpa using n1
   have m2:¬ k=2:=by simpa using n2
   have m3:¬ k=3:=by simpa using n3
   have h:applyB c k n=false:=by rw [hB,kindP,if_neg m1,if_neg m2,if_neg m3]
   simp [applyE,applyH,h]
 ·have h:applyB c k n=false:=by
   unfold applyB
   cases hm:mayC c
   ·simp
   ·simp only [Bool.true_and]
    by_cases h1:1≤n
    ·have:¬ n≤5:=fun h5=>hg ⟨hm,h1,h5⟩
     simp [this]
    ·simp [h1]
  have hx:(!mayC c||decide (n<1)||decide (n>5))=true:=by
   cases hm:mayC c
   ·simp
   ·by_cases h1:1≤n
    ·have:¬ n≤5:=fun h5=>hg ⟨hm,h1,h5⟩
     simp;omega
    ·simp;omega
  refine ⟨⟨hs',fun h=>by rw [h];rfl,fun h=>by rw [h];rfl⟩,fun _=>by simp [applyE,applyH,h],fun h2=>by rw [hx] at h2;cases h2⟩
noncomputable def eMApply:Ent:=ent2 114 dConfig dChange fun c ch=>([SmallC c],.tup [.agg ((applyH c ch.kind ch.node).svs [1]),.int .i64 (applyE c ch.kind ch.node)],D2)
theorem eMApply_ok:EntOk Tryz.prog eMApply:=ent2_ok (fnB Tryz.func114 (by decide) rfl) fun c ch h=>mapply_fn c ch (h _ (by simp))
noncomputable def eRApply:Ent:=ent2 116 dConfig dChange fun c ch=>([SmallC c],.tup [.agg ((applyH c ch.kind ch.node).svs [1]),.int .i64 (applyE c ch.kind ch.node)],D2)
theorem eRApply_ok:EntOk Tryz.prog eRApply:=ent2_ok (fnB Tryz.func116 (by decide) rfl) fun c ch h=>rapply_fn c ch (h _ (by simp))
def cfE18 (c:Config):Entry:=⟨0,0,2,c,zs⟩
def chgNext (n:Node) (ch:Change):Config:=applyH (confC n) ch.kind ch.node
def chgAt (n:Node):Int:=(configC n.kept (lastC n.kept).1).2.1
def chgP (n:Node) (ch:Change):Int:=peerI n.peers ch.node
def chgE (n:Node) (ch:Change):Int:=
 if n.commit<chgAt n then 161
 else if applyE (confC n) ch.kind ch.node≠0∨(ch.kind=3∧ch.node=n.id) then 160
 else if ch.kind=2∧0≤chgP n ch∧(n.peers.getD (chgP n ch).toNat default).match_<n.commit then 161
 else if 9000≤(n.kept.entries.length:Int) then 2 else 0
def chg1 (n:Node) (ch:Change):Step:=layS (stepZ n) (cfE18 (chgNext n ch))
def newPeer (s:Step) (o:Int):Peer:=if 0≤peerI s.n.peers o then s.n.peers.getD (peerI s.n.peers o).toNat default else ⟨o,(lastC s.n.kept).1,0,0⟩
def chg2 (n:Node) (ch:Change):Step:=withP (chg1 n ch) ((othersC (chg1 n ch).n).map (newPeer (chg1 n ch)))
def chgS (n:Node) (ch:Change):Step:=allS (countS (chg2 n ch))
def chgC (n:Node) (ch:Change):Step×Int:=
 if setE n≠0 then (⟨zeroN,outZ⟩,setE n)
 else if chgE n ch≠0 then (⟨zeroN,outZ⟩,chgE n ch)
 else (chgS n ch,0)
theorem applyH_small (c:Config) (k n:Int):SmallD (applyH c k n):=by
 unfold applyH
 split
 ·rename_i h
  have:=apply_len h
  unfold applyC
  refine ⟨?_,?_⟩
  ·show (if k=2 then _ else _:List Int).length≤_;split<;>omega
  ·show (if k=1 then _ else _:List Int).length≤_;split<;>omega
 ·exact smallD0
theorem others_le (n:Node):(othersC n).length≤16:=Nat.le_trans (List.length_filter_le _ _) (allC_asc (confC n)).2
theorem Few.chg1 {B:Nat} {n:Node} {ch:Change} (h:Few B (stepZ n)):Few (B+1) (chg1 n ch):=Few.lay h (applyH_small _ _ _)
theorem Few.chg2 {B:Nat} {n:Node} {ch:Change} (h:Few B (stepZ n)):Few (B+1) (chg2 n ch):=h.chg1.withP (by rw [List.length_map];have:=others_le (Go.Proofs.YteabcgkjbnecaaaGreat.chg1 n ch).n;omega)
theorem and_tt {a b:Bool} (h:a=true) (g:b=true):(a&&b)=true:=by rw [h,g];rfl
theorem not_tt {a:Bool} (h:a=false):(!a)=true:=by rw [h];rfl
theorem of_pick {k x:Int} (h:pickB (k==2) (decide (x≥0)) false=true):k=2∧0≤x:=by
 rw [pickB_f,Bool.and_eq_true,beq_iff_eq,decide_eq_true_eq] at h;exact h
theorem cond160_eq (e k a i:Int):(pickB (e != 0) true (pickB (k==3) (a==i) false)=true)=(e≠0∨(k=3∧a=i)):=by
 rw [pickB_t,pickB_f];simp
theorem cond160 {e k a i:Int} (h:pickB (e != 0) true (pickB (k==3) (a==i) false)=true):e≠0∨(k=3∧a=i):=cond160_eq e k a i▸h
theorem cond160f {e k a i:Int} (h:pickB (e != 0) true (pickB (k==3) (a==i) false)=false):¬ (e≠0∨(k=3∧a=i)):=fun g=>by
 rw [← cond160_eq] at g;rw [g] at h;cases h
theorem cond161_eq (k x m c:Int):(pickB (pickB (k==2) (decide (x≥0)) false) (decide (m<c)) false=true)=(k=2∧0≤x∧m<c):=by
 rw [pickB_f,pickB_f];simp [and_assoc]
theorem cond161 {k x m c:Int} (h:pickB (pickB (k==2) (decide (x≥0)) false) (decide (m<c)) false=true):k=2∧0≤x∧m<c:=cond161_eq k x m c▸h
theorem cond161f {k x m c:Int} (h:pickB (pickB (k==2) (decide (x≥0)) false) (decide (m<c)) false=false):¬ (k=2∧0≤x∧m<c):=fun g=>by
 rw [← cond161_eq] at g;rw [g] at h;cases h
noncomputable def tabCh0:List Ent:=[eSetN,eRefused]
theorem tabCh0_ok:∀ e∈tabCh0,EntOk Tryz.prog e:=tab_cons eSetN_ok (tab_cons eRefused_ok tab_nil)
noncomputable def tabCh1:List Ent:=[eSetY,eRefused,eWLast,eConf,eMApply,ePeer,eLay,eOth,eCount,eAllW,eEnd]
theorem tabCh1_ok:∀ e∈tabCh1,EntOk Tryz.prog e:=tab_cons eSetY_ok (tab_cons eRefused_ok (tab_cons eWLast_ok (tab_cons eConf_ok (tab_cons eMApply_ok (tab_cons ePeer_ok (tab_cons eLay_ok (tab_cons eOth_ok (tab_cons eCount_ok (tab_cons eAllW_ok (tab_cons eEnd_ok tab_nil))))))))))
theorem changeN_fn (n:Node) (ch:Change) (hn:SmallN n) (he:setE n≠0):FnC Tryz.prog 42 [dNode.can n,dChange.can ch] (refO zeroN outZ (setE n)) D3d:=by
 refine FnG.of_vc (fitsT tabCh0_ok fun _=>none) Tryz.func42 rfl (by decide) rfl 300 (p:=fun (V:List PE→Prop)=>let v0:=Node.commit zeroN;let v1:=Out.messages outZ;let v2:=Node.kept zeroN;let v3:=Node.elapsed zeroN;let v4:=v2.vote;let v5:=v2.snap;let v6:=v2.term;let v7:=v2.entries;let v8:=v5.config;let v9:=v5.data;let v10:=v5.term;let v11:=v5.index;let v12:=v8.voters;let v13:=v8.learners;let v14:=setE n != (0:Int);True∧(SmallN n∧setE n≠(0:Int)∧True)∧True∧True∧(v14=true→True∧Node.id zeroN=Node.id zeroN∧Node.role zeroN=Node.role zeroN∧v6=v6∧v4=v4∧v11=v11∧v10=v10∧v12=v12∧v13=v13∧v9=v9∧v7=v7∧v0=v0∧Node.lead zeroN=Node.lead zeroN∧v3=v3∧Node.yes zeroN=Node.yes zeroN∧Node.peers zeroN=Node.peers zeroN∧Node.round zeroN=Node.round zeroN∧Node.reads zeroN=Node.reads zeroN∧Out.records outZ=Out.records outZ∧v1=v1∧Out.ready outZ=Out.ready outZ∧Out.lost outZ=Out.lost outZ∧setE n=setE n∧True)∧(v14=false→False)) (by kernel_rfl) ?_
 simp only [imp_self,implies_true,true_and,and_true,pickB_f,pickB_t]
 refine ⟨⟨hn,he⟩,fun h=>?_⟩
 exact absurd (by simpa using h) he
theorem changeY_fn (n:Node) (ch:Change) (hf:Few 50000 (stepZ n)) (he:setE n=0):FnC Tryz.prog 42 [dNode.can n,dChange.can ch] (refO (chgC n ch).1.n (chgC n ch).1.o (chgC n ch).2) D3d:=by
 obtain ⟨M,hM⟩:∃ M,chgC n ch=M:=⟨_,rfl⟩
 rw [hM]
 refine FnG.of_vc (fitsT tabCh1_ok fun _=>none) Tryz.func42 rfl (by decide) rfl 300 (p:=fun (V:List PE→Prop)=>let v0:=Change.node ch;let v1:=Node.kept n;let v2:=Node.commit n;let v3:=Change.kind ch;let v4:=Node.kept zeroN;let v5:=Node.peers n;let v6:=v4.snap;let v7:=v6.config;let v8:=Prod.snd M;let v9:=List.length v5;let v10:=peerI v5 v0;let v11:=Step.o (Prod.fst M);let v12:=List.length (v1.entries);let v13:=Step.n (Prod.fst M);let v14:=(0:Int);let v15:=v13.kept;let v16:=Int.toNat v10;let v17:=v15.snap;let v18:=v17.config;let v19:=(↑v12:Int);let v20:=Out.mk [] [] [] [];let v21:=configC v1 (Prod.fst (lastC v1));let v22:=v3==(2:Int);let v23:=v3==(3:Int);let v24:=Peer.match_ (List.getD v5 v16 default);let v25:=Prod.fst v21;let v26:=v14 != v14;let v27:=Prod.fst (Prod.snd v21);let v28:=applyE v25 v3 v0 != v14;let v29:=!v28;let v30:=decide (v19≥(9000:Int));let v31:=pickB v22 (decide (v10≥v14)) false;let v32:=Entry.mk v14 v14 (2:Int) (applyH v25 v3 v0) (ByteArray.mk #[]);let v33:=decide (v27>v2);let v34:=Step.n (layS (Step.mk n v20) v32);let v35:=pickB v28 true (pickB v23 (v0==Node.id n) false);let v36:=pickB v31 (decide (v24<v2)) false;True∧(SmallN n∧setE n=v14∧True)∧True∧True∧(v26=true→True∧Node.id zeroN=v13.id∧Node.role zeroN=v13.role∧v4.term=v15.term∧v4.vote=v15.vote∧v6.index=v17.index∧v6.term=v17.term∧v7.voters=v18.voters∧v7.learners=v18.learners∧v6.data=v17.data∧v4.entries=v15.entries∧Node.commit zeroN=v13.commit∧Node.lead zeroN=v13.lead∧Node.elapsed zeroN=v13.elapsed∧Node.yes zeroN=v13.yes∧Node.peers zeroN=v13.peers∧Node.round zeroN=v13.round∧Node.reads zeroN=v13.reads∧Out.records outZ=v11.records∧Out.messages outZ=v11.messages∧Out.ready outZ=v11.ready∧Out.lost outZ=v11.lost∧v14=v8∧True)∧(v26=false→(v12≤(17592186044416:Nat)∧List.length (Node.yes n)≤(17592186044416:Nat)∧v9≤(17592186044416:Nat)∧List.length (Node.reads n)≤(17592186044416:Nat)∧v12≤(17592186044416:Nat)∧SmallK v1∧True)∧(SmallC v25∧True)∧(v12≤(17592186044416:Nat)∧List.length (Node.yes n)≤(17592186044416:Nat)∧v9≤(17592186044416:Nat)∧List.length (Node.reads n)≤(17592186044416:Nat)∧True)∧True∧True∧(v33=true→True∧Node.id zeroN=v13.id∧Node.role zeroN=v13.role∧v4.term=v15.term∧v4.vote=v15.vote∧v6.index=v17.index∧v6.term=v17.term∧v7.voters=v18.voters∧v7.learners=v18.learners∧v6.data=v17.data∧v4.entries=v15.entries∧Node.commit zeroN=v13.commit∧Node.lead zeroN=v13.lead∧Node.elapsed zeroN=v13.elapsed∧Node.yes zeroN=v13.yes∧Node.peers zeroN=v13.peers∧Node.round zeroN=v13.round∧Node.reads zeroN=v13.reads∧Out.records outZ=v11.records∧Out.messages outZ=v11.messages∧Out.ready outZ=v11.ready∧Out.lost outZ=v11.lost∧(161:Int)=v8∧True)∧(v33=false→((v29=true→v29=true)∧(v29=true→v29=true)∧(v29=true→v29=true)∧((v29&&v23)=true→(v29&&v23)=true)∧((v29&&v23)=true→(v29&&v23)=true)∧((v29&&v23)=true→(v29&&v23)=true)∧((v29&&v23)=true→(v29&&v23)=true)∧((v29&&v23)=true→(v29&&v23)=true)∧((v29&&v23)=true→(v29&&v23)=true)∧((v29&&v23)=true→(v29&&v23)=true)∧(v29=true→v29=true)∧(v29=true→v23=true→(v29&&v23)=true)∧(v28=false→v29=true)∧True)∧True∧(v35=true→True∧Node.id zeroN=v13.id∧Node.role zeroN=v13.role∧v4.term=v15.term∧v4.vote=v15.vote∧v6.index=v17.index∧v6.term=v17.term∧v7.voters=v18.voters∧v7.learners=v18.learners∧v6.data=v17.data∧v4.entries=v15.entries∧Node.commit zeroN=v13.commit∧Node.lead zeroN=v13.lead∧Node.elapsed zeroN=v13.elapsed∧Node.yes zeroN=v13.yes∧Node.peers zeroN=v13.peers∧Node.round zeroN=v13.round∧Node.reads zeroN=v13.reads∧Out.records outZ=v11.records∧Out.messages outZ=v11.messages∧Out.ready outZ=v11.ready∧Out.lost outZ=v11.lost∧(160:Int)=v8∧True)∧(v35=false→((v22=true→v22=true)∧(v22=true→v22=true)∧(v31=true→v31=true)∧(v31=true→v31=true)∧(v31=true→v31=true)∧(v31=true→v31=true)∧(v31=true→v31=true)∧(v31=true→v31=true)∧(v31=true→v14≤v10)∧(v31=true→v10<(↑v9:Int))∧(v31=true→v31=true)∧(v31=true→v31=true)∧(v31=true→v16<v9)∧(v31=true→v31=true)∧(v31=true→v31=true)∧(v31=true→v31=true)∧(v31=true→v31=true)∧(v31=true→v31=true)∧(v31=true→v31=true)∧(v31=true→v31=true)∧True)∧True∧(v36=true→True∧Node.id zeroN=v13.id∧Node.role zeroN=v13.role∧v4.term=v15.term∧v4.vote=v15.vote∧v6.index=v17.index∧v6.term=v17.term∧v7.voters=v18.voters∧v7.learners=v18.learners∧v6.data=v17.data∧v4.entries=v15.entries∧Node.commit zeroN=v13.commit∧Node.lead zeroN=v13.lead∧Node.elapsed zeroN=v13.elapsed∧Node.yes zeroN=v13.yes∧Node.peers zeroN=v13.peers∧Node.round zeroN=v13.round∧Node.reads zeroN=v13.reads∧Out.records outZ=v11.records∧Out.messages outZ=v11.messages∧Out.ready outZ=v11.ready∧Out.lost outZ=v11.lost∧(161:Int)=v8∧True)∧(v36=false→True∧True∧(v30=true→True∧Node.id zeroN=v13.id∧Node.role zeroN=v13.role∧v4.term=v15.term∧v4.vote=v15.vote∧v6.index=v17.index∧v6.term=v17.term∧v7.voters=v18.voters∧v7.learners=v18.learners∧v6.data=v17.data∧v4.entries=v15.entries∧Node.commit zeroN=v13.commit∧Node.lead zeroN=v13.lead∧Node.elapsed zeroN=v13.elapsed∧Node.yes zeroN=v13.yes∧Node.peers zeroN=v13.peers∧Node.round zeroN=v13.round∧Node.reads zeroN=v13.reads∧Out.records outZ=v11.records∧Out.messages outZ=v11.messages∧Out.ready outZ=v11.ready∧Out.lost outZ=v11.lost∧(2:Int)=v8∧True)∧(v30=false→(SmallN n∧SmallO v20∧SmallE v32∧True)∧True∧(List.length (Kept.entries (v34.kept))≤(17592186044416:Nat)∧List.length (v34.yes)≤(17592186044416:Nat)∧List.length (v34.peers)≤(17592186044416:Nat)∧List.length (v34.reads)≤(17592186044416:Nat)∧SmallN v34∧True)∧V [PE.b,PE.b,PE.b,PE.b,PE.b])))))) (by kernel_rfl) ?_
 obtain ⟨b1,b2,b3,b4,b5⟩:=(hf.sn (by decide)).ls
 have hsn:=hf.sn (by decide)
 have hp:=peerI_lt n.peers ch.node
 have k1:=hf.chg1 (ch:=ch)
 obtain ⟨d1,d2,d3,d4,d5⟩:=(k1.sn (by decide)).ls
 have k2:=hf.chg2 (ch:=ch)
 intros
 refine ⟨trivial,⟨hsn,he,trivial⟩,trivial,trivial,fun h=>absurd h (by decide),fun _=>⟨⟨b1,b2,b3,b4,b1,hsn.k,trivial⟩,⟨confC_small hsn,trivial⟩,⟨b1,b2,b3,b4,trivial⟩,trivial,trivial,fun h1=>⟨trivial,?_⟩,fun h1=>⟨?_,trivial,fun h2=>⟨trivial,?_⟩,fun h2=>⟨?_,trivial,fun h3=>⟨trivial,?_⟩,fun h3=>⟨trivial,trivial,fun h4=>⟨trivial,?_⟩,fun h4=>⟨⟨hsn,hf.so (by decide),(applyH_small _ _ _).c,trivial⟩,trivial,⟨d1,d2,d3,d4,k1.sn (by decide),trivial⟩,?_⟩⟩⟩⟩⟩⟩
 ·have h1:n.commit<chgAt n:=of_decide_eq_true h1
  have e:M=(⟨zeroN,outZ⟩,161):=by rw [← hM,chgC,if_neg (Classical.not_not.2 he),chgE,if_pos h1,if_pos (by decide)]
  subst e
  repeat' apply And.intro
  all_goals first | trivial | rfl
 ·refine ⟨fun h=>h,fun h=>h,fun h=>h,fun h=>h,fun h=>h,fun h=>h,fun h=>h,fun h=>h,fun h=>h,fun h=>h,fun h=>h,fun h g=>and_tt h g,fun h=>not_tt h,trivial⟩
 ·have h1:¬ n.commit<chgAt n:=of_decide_eq_false h1
  have h2:applyE (confC n) ch.kind ch.node≠0∨(ch.kind=3∧ch.node=n.id):=cond160 h2
  have e:M=(⟨zeroN,outZ⟩,160):=by rw [← hM,chgC,if_neg (Classical.not_not.2 he),chgE,if_neg h1,if_pos h2,if_pos (by decide)]
  subst e
  repeat' apply And.intro
  all_goals first | trivial | rfl
 ·refine ⟨fun h=>h,fun h=>h,fun h=>h,fun h=>h,fun h=>h,fun h=>h,fun h=>h,fun h=>h,fun h=>(of_pick h).2,fun h=>hp,fun h=>h,fun h=>h,fun h=>?_,fun h=>h,fun h=>h,fun h=>h,fun h=>h,fun h=>h,fun h=>h,fun h=>h,trivial⟩
  have h0:0≤peerI n.peers ch.node:=(of_pick h).2
  show (peerI n.peers ch.node).toNat<n.peers.length
  omega
 ·have h1:¬ n.commit<chgAt n:=of_decide_eq_false h1
  have h2:¬ (applyE (confC n) ch.kind ch.node≠0∨(ch.kind=3∧ch.node=n.id)):=cond160f h2
  have h3:ch.kind=2∧0≤chgP n ch∧(n.peers.getD (chgP n ch).toNat default).match_<n.commit:=cond161 h3
  have e:M=(⟨zeroN,outZ⟩,161):=by rw [← hM,chgC,if_neg (Classical.not_not.2 he),chgE,if_neg h1,if_neg h2,if_pos h3,if_pos (by decide)]
  subst e
  repeat' apply And.intro
  all_goals first | trivial | rfl
 ·have h1:¬ n.commit<chgAt n:=of_decide_eq_false h1
  have h2:¬ (applyE (confC n) ch.kind ch.node≠0∨(ch.kind=3∧ch.node=n.id)):=cond160f h2
  have h3:¬ (ch.kind=2∧0≤chgP n ch∧(n.peers.getD (chgP n ch).toNat default).match_<n.commit):=cond161f h3
  have h4:9000≤(n.kept.entries.length:Int):=of_decide_eq_true h4
  have e:M=(⟨zeroN,outZ⟩,2):=by rw [← hM,chgC,if_neg (Classical.not_not.2 he),chgE,if_neg h1,if_neg h2,if_neg h3,if_pos h4,if_pos (by decide)]
  subst e
  repeat' apply And.intro
  all_goals first | trivial | rfl
 ·have h1:¬ n.commit<chgAt n:=of_decide_eq_false h1
  have h2:¬ (applyE (confC n) ch.kind ch.node≠0∨(ch.kind=3∧ch.node=n.id)):=cond160f h2
  have h3:¬ (ch.kind=2∧0≤chgP n ch∧(n.peers.getD (chgP n ch).toNat default).match_<n.commit):=cond161f h3
  have h4:¬ 9000≤(n.kept.entries.length:Int):=of_decide_eq_false h4
  have e:M=(chgS n ch,0):=by rw [← hM,chgC,if_neg (Classical.not_not.2 he),chgE,if_neg h1,if_neg h2,if_neg h3,if_neg h4,if_neg (by decide)]
  obtain ⟨L,hL⟩:∃ L,othersC (chg1 n ch).n=L:=⟨_,rfl⟩
  have hol:L.length≤16:=by rw [← hL];exact others_le _
  refine LoopG.head (fitsT tabCh1_ok fun _=>none) 0 (A:=Nat) (fun j=>j≤L.length) (fun j=>[(138,.int .i64 j),(137,.int .i64 (L.length:Int)),(136,.sl [900] (.rInts L)),(14,.own 901)]) (fun j=>[(901,.row 94 [] (.rPeer ((L.take j).map (newPeer (chg1 n ch))))),(900,.dead)]) (fun j=>L.length - j) 0 (Nat.zero_le _) (p0:=let v0:=(0:Int);let v1:=ByteArray.mk #[];let v2:=layS (Step.mk n (Out.mk [] [] [] [])) (Entry.mk v0 v0 (2:Int) (applyH (Prod.fst (configC (Node.kept n) (Prod.fst (lastC (Node.kept n))))) (Change.kind ch) (Change.node ch)) v1);let v3:=v2.n;let v4:=v2.o;let v5:=v3.yes;let v6:=v3.lead;let v7:=v4.ready;let v8:=v4.messages;let v9:=v3.elapsed;let v10:=v3.kept;let v11:=v4.records;let v12:=v3.reads;let v13:=v3.commit;let v14:=v3.id;let v15:=v3.peers;let v16:=v4.lost;let v17:=v3.round;let v18:=v3.role;let v19:=othersC v3;let v20:=v10.snap;let v21:=v10.term;let v22:=v10.vote;let v23:=v10.entries;let v24:=v20.index;let v25:=v20.data;let v26:=v20.config;let v27:=v20.term;let v28:=v26.learners;let v29:=v26.voters;v0=(↑(0:Nat):Int)∧(↑(List.length v19):Int)=(↑(List.length L):Int)∧v19=L∧v0=v0∧List.map (newPeer (chg1 n ch)) (List.take (0:Nat) L)=[]∧v14=v14∧v18=v18∧v21=v21∧v22=v22∧v24=v24∧v27=v27∧v29=v29∧v28=v28∧v25=v25∧v13=v13∧v6=v6∧v9=v9∧v17=v17∧v23=v23∧v5=v5∧v15=v15∧v12=v12∧v11=v11∧v8=v8∧v7=v7∧v16=v16∧v0=v0∧v0=v0∧v0=v0∧v0=v0∧v0=v0∧v0=v0∧v1=v1∧v0=v0∧v0=v0∧v0=v0∧v0=v0∧True) (by kernel_rfl) ?_ 300 (p:=fun (x:Nat) (V:List PE→Prop)=>let v0:=(↑x:Int);let v1:=Step.n (Prod.fst M);let v2:=Step.o (Prod.fst M);let v3:=(0:Int);let v4:=(↑(List.length L):Int);let v5:=v1.kept;let v6:=v5.snap;let v7:=v6.config;let v8:=List.getD L x v3;let v9:=List.map (newPeer (chg1 n ch)) (List.take x L);let v10:=List.length v9;let v11:=decide (v0<v4);let v12:=layS (Step.mk n (Out.mk [] [] [] [])) (Entry.mk v3 v3 (2:Int) (applyH (Prod.fst (configC (Node.kept n) (Prod.fst (lastC (Node.kept n))))) (Change.kind ch) (Change.node ch)) (ByteArray.mk #[]));let v13:=v12.o;let v14:=v12.n;let v15:=v14.kept;let v16:=v14.yes;let v17:=v14.peers;let v18:=v14.reads;let v19:=List.length v17;let v20:=peerI v17 v8;let v21:=Int.toNat v20;let v22:=decide (v20≥v3);let v23:=Node.mk (v14.id) (v14.role) v15 (v14.commit) (v14.lead) (v14.elapsed) v16 v9 (v14.round) v18;let v24:=countS (Step.mk v23 v13);let v25:=v24.n;let v26:=allS v24;let v27:=v26.o;let v28:=v26.n;let v29:=v28.kept;let v30:=v29.snap;let v31:=v30.config;True∧True∧(v11=true→(v3≤v0∧v0<v4∧True)∧(List.length (v15.entries)≤(17592186044416:Nat)∧List.length v16≤(17592186044416:Nat)∧v19≤(17592186044416:Nat)∧List.length v18≤(17592186044416:Nat)∧List.length (v13.records)≤(17592186044416:Nat)∧List.length (v13.messages)≤(17592186044416:Nat)∧List.length (v13.ready)≤(17592186044416:Nat)∧List.length (v13.lost)≤(17592186044416:Nat)∧True)∧True∧True∧(v22=true→(v3≤v20∧v20<(↑v19:Int)∧v21<v19∧(v10+List.length [List.getD v17 v21 default])*(1024:Nat)≤(140737488355328:Nat)∧True)∧True∧V [PE.a,PE.a])∧(v22=false→(List.length (v15.entries)≤(17592186044416:Nat)∧List.length v16≤(17592186044416:Nat)∧v19≤(17592186044416:Nat)∧List.length v18≤(17592186044416:Nat)∧List.length (v13.records)≤(17592186044416:Nat)∧List.length (v13.messages)≤(17592186044416:Nat)∧List.length (v13.ready)≤(17592186044416:Nat)∧List.length (v13.lost)≤(17592186044416:Nat)∧(v10+List.length [Peer.mk v8 (Prod.fst (lastC v15)) v3 v3])*(1024:Nat)≤(140737488355328:Nat)∧True)∧True∧V [PE.a,PE.b]))∧(v11=false→True∧(SmallN v23∧SmallO v13∧List.length (Config.voters (confC v23))≤(4000:Nat)∧True)∧(SmallN v25∧List.length (Out.messages (v24.o))+List.length (v25.peers)≤(1000000:Nat)∧True)∧(SmallN v28∧SmallO v27∧True)∧v28.id=v1.id∧v28.role=v1.role∧v29.term=v5.term∧v29.vote=v5.vote∧v30.index=v6.index∧v30.term=v6.term∧v31.voters=v7.voters∧v31.learners=v7.learners∧v30.data=v6.data∧v29.entries=v5.entries∧v28.commit=v1.commit∧v28.lead=v1.lead∧v28.elapsed=v1.elapsed∧v28.yes=v1.yes∧v28.peers=v1.peers∧v28.round=v1.round∧v28.reads=v1.reads∧v27.records=v2.records∧v27.messages=v2.messages∧v27.ready=v2.ready∧v27.lost=v2.lost∧v3=Prod.snd M∧True)) (by intro x;kernel_rfl) ?_
  ·have eL:(↑(othersC (chg1 n ch).n).length:Int)=(↑L.length:Int):=by rw [hL]
   intros
   repeat' apply And.intro
   all_goals first | trivial | rfl | exact eL | exact hL
  rintro j hj
  have hk1:=peerI_lt (chg1 n ch).n.peers
  have c0:=(k1.so (by decide)).ls
  have hml:((L.take j).map (newPeer (chg1 n ch))).length≤16:=by simp only [List.length_map,List.length_take];omega
  have hml2:∀ x:Peer,(((L.take j).map (newPeer (chg1 n ch))).length+[x].length)*1024≤140737488355328:=fun x=>by simp only [List.length_cons,List.length_nil];omega
  have hb:∀ {b:Bool},decide ((j:Int)<(L.length:Int))=b→decide ((j:Int)<(L.length:Int))=b:=fun h=>h
  intros
  refine ⟨trivial,trivial,fun h6=>?_,fun h6=>?_⟩
  ·have h6:j<L.length:=by have h7:=of_decide_eq_true (hb h6);omega
   have eJ:IntKind.i64.wrap ((j:Int)+1)=((j+1:Nat):Int):=wrapN (by omega)
   have eS:(L.take (j+1)).map (newPeer (chg1 n ch))=(L.take j).map (newPeer (chg1 n ch))++[newPeer (chg1 n ch) (L.getD j 0)]:=by
    rw [take_snoc (d:=(0:Int)) h6,List.map_append];rfl
   refine ⟨⟨Int.natCast_nonneg _,Int.ofNat_lt.2 h6,trivial⟩,⟨d1,d2,d3,d4,c0.1,c0.2.1,c0.2.2.1,c0.2.2.2,trivial⟩,trivial,trivial,fun h7=>⟨⟨?_,hk1 _,?_,hml2 _,trivial⟩,trivial,?_⟩,fun h7=>⟨⟨d1,d2,d3,d4,c0.1,c0.2.1,c0.2.2.1,c0.2.2.2,hml2 _,trivial⟩,trivial,?_⟩⟩
   ·exact of_decide_eq_true h7
   ·have h8:0≤peerI (chg1 n ch).n.peers (L.getD j 0):=of_decide_eq_true h7
    have h9:=hk1 (L.getD j 0)
    show (peerI (chg1 n ch).n.peers (L.getD j 0)).toNat<(chg1 n ch).n.peers.length
    omega
   ·have h8:0≤peerI (chg1 n ch).n.peers (L.getD j 0):=of_decide_eq_true h7
    have eP:newPeer (chg1 n ch) (L.getD j 0)=(chg1 n ch).n.peers.getD (peerI (chg1 n ch).n.peers (L.getD j 0)).toNat default:=by rw [newPeer,if_pos h8]
    rw [eP] at eS
    refine Back.mk (j+1) (by show j+1≤_;omega) (by show _ - (j+1)<_ - j;omega) (p0:=let v0:=(0:Int);let v1:=ByteArray.mk #[];let v2:=(↑(List.length L):Int);let v3:=layS (Step.mk n (Out.mk [] [] [] [])) (Entry.mk v0 v0 (2:Int) (applyH (Prod.fst (configC (Node.kept n) (Prod.fst (lastC (Node.kept n))))) (Change.kind ch) (Change.node ch)) v1);let v4:=v3.n;let v5:=v3.o;let v6:=v4.yes;let v7:=v4.kept;let v8:=v4.commit;let v9:=v5.messages;let v10:=v4.elapsed;let v11:=v4.lead;let v12:=v5.records;let v13:=v4.reads;let v14:=v4.id;let v15:=v4.peers;let v16:=v5.lost;let v17:=v4.round;let v18:=v4.role;let v19:=v5.ready;let v20:=v7.snap;let v21:=v7.vote;let v22:=v7.term;let v23:=v7.entries;let v24:=v20.index;let v25:=v20.data;let v26:=v20.term;let v27:=v20.config;let v28:=v27.learners;let v29:=v27.voters;IntKind.wrap IntKind.i64 ((↑j:Int)+(1:Int))=(↑(j+(1:Nat)):Int)∧v2=v2∧L=L∧v0=v0∧List.map (newPeer (chg1 n ch)) (List.take j L)++[List.getD v15 (Int.toNat (peerI v15 (List.getD L j v0))) default]=List.map (newPeer (chg1 n ch)) (List.take (j+(1:Nat)) L)∧v14=v14∧v18=v18∧v22=v22∧v21=v21∧v24=v24∧v26=v26∧v29=v29∧v28=v28∧v25=v25∧v8=v8∧v11=v11∧v10=v10∧v17=v17∧v23=v23∧v6=v6∧v15=v15∧v13=v13∧v12=v12∧v9=v9∧v19=v19∧v16=v16∧v0=v0∧v0=v0∧v0=v0∧v0=v0∧v0=v0∧v0=v0∧v1=v1∧v0=v0∧v0=v0∧v0=v0∧v0=v0∧True) (by kernel_rfl) ?_
    intros
    repeat' apply And.intro
    all_goals first | trivial | rfl | exact eJ | exact eS | exact eS.symm
   ·have h8:¬ 0≤peerI (chg1 n ch).n.peers (L.getD j 0):=of_decide_eq_false h7
    have eP:newPeer (chg1 n ch) (L.getD j 0)=⟨L.getD j 0,(lastC (chg1 n ch).n.kept).1,0,0⟩:=by rw [newPeer,if_neg h8]
    rw [eP] at eS
    refine Back.mk (j+1) (by show j+1≤_;omega) (by show _ - (j+1)<_ - j;omega) (p0:=let v0:=(0:Int);let v1:=ByteArray.mk #[];let v2:=(↑(List.length L):Int);let v3:=layS (Step.mk n (Out.mk [] [] [] [])) (Entry.mk v0 v0 (2:Int) (applyH (Prod.fst (configC (Node.kept n) (Prod.fst (lastC (Node.kept n))))) (Change.kind ch) (Change.node ch)) v1);let v4:=v3.n;let v5:=v3.o;let v6:=v4.yes;let v7:=v4.kept;let v8:=v4.commit;let v9:=v5.messages;let v10:=v4.elapsed;let v11:=v4.lead;let v12:=v5.records;let v13:=v4.reads;let v14:=v4.id;let v15:=v4.peers;let v16:=v5.lost;let v17:=v4.round;let v18:=v4.role;let v19:=v5.ready;let v20:=v7.snap;let v21:=v7.vote;let v22:=v7.term;let v23:=v7.entries;let v24:=v20.index;let v25:=v20.data;let v26:=v20.term;let v27:=v20.config;let v28:=v27.learners;let v29:=v27.voters;IntKind.wrap IntKind.i64 ((↑j:Int)+(1:Int))=(↑(j+(1:Nat)):Int)∧v2=v2∧L=L∧v0=v0∧List.map (newPeer (chg1 n ch)) (List.take j L)++[Peer.mk (List.getD L j v0) (Prod.fst (lastC v7)) v0 v0]=List.map (newPeer (chg1 n ch)) (List.take (j+(1:Nat)) L)∧v14=v14∧v18=v18∧v22=v22∧v21=v21∧v24=v24∧v26=v26∧v29=v29∧v28=v28∧v25=v25∧v8=v8∧v11=v11∧v10=v10∧v17=v17∧v23=v23∧v6=v6∧v15=v15∧v13=v13∧v12=v12∧v9=v9∧v19=v19∧v16=v16∧v0=v0∧v0=v0∧v0=v0∧v0=v0∧v0=v0∧v0=v0∧v1=v1∧v0=v0∧v0=v0∧v0=v0∧v0=v0∧True) (by kernel_rfl) ?_
    intros
    repeat' apply And.intro
    all_goals first | trivial | rfl | exact eJ | exact eS | exact eS.symm
  ·have h6:j=L.length:=by have h7:=of_decide_eq_false (hb h6);omega
   subst h6
   have eT:(L.take L.length).map (newPeer (chg1 n ch))=(othersC (chg1 n ch).n).map (newPeer (chg1 n ch)):=by rw [List.take_length,hL]
   have k3:=k2.count
   have k4:=k3.all
   have hcl:(chg2 n ch)=withP (chg1 n ch) ((L.take L.length).map (newPeer (chg1 n ch))):=by rw [chg2,eT]
   have e2:M=(allS (countS (withP (chg1 n ch) ((L.take L.length).map (newPeer (chg1 n ch))))),0):=by rw [e,chgS,hcl]
   rw [hcl] at k2 k3 k4
   subst e2
   refine ⟨trivial,⟨k2.sn (by decide),k2.so (by decide),k2.cf.1,trivial⟩,⟨k3.sn (by decide),Nat.le_trans (Nat.add_le_add k3.messages k3.peers) (by decide),trivial⟩,⟨k4.sn (by decide),k4.so (by decide),trivial⟩,?_⟩
   repeat' apply And.intro
   all_goals first | trivial | rfl
theorem change_fn (n:Node) (ch:Change) (hf:Few 50000 (stepZ n)):FnC Tryz.prog 42 [dNode.can n,dChange.can ch] (refO (chgC n ch).1.n (chgC n ch).1.o (chgC n ch).2) D3d:=by
 by_cases he:setE n=0
 ·exact changeY_fn n ch hf he
 ·rw [chgC,if_pos he]
  exact changeN_fn n ch (hf.sn (by decide)) he
end Go.Proofs.YteabcgkjbnecaaaGreat
namespace Go.Proofs.YteabcgkjbnecaaaGreat
open Go.RowKit Go.ChangeShapes Go.WideShapes Go.Deep
end Go.Proofs.YteabcgkjbnecaaaGreat
namespace Go.Proofs.YteabcgkjbnecaaaGreat
open Go.RowKit Go.ChangeShapes Go.WideShapes Go.Deep
noncomputable def f0 (k:Kept) (l:List Entry):Nat:=(firstF k l).toNat
section
variable {k : Kept} {index term : Int} {l : List Entry}
end
end Go.Proofs.YteabcgkjbnecaaaGreat
namespace Go.Proofs.YteabcgkjbnecaaaGreat
open Go.RowKit Go.ChangeShapes Go.WideShapes Go.Deep
section
variable {k : Kept} {index term : Int} {l : List Entry}
end
end Go.Proofs.YteabcgkjbnecaaaGreat
namespace Go.Proofs.YteabcgkjbnecaaaGreat
open Go.RowKit Go.ChangeShapes Go.WideShapes Go.Deep
theorem onC_app {k:Kept} {e:Entry} (ho:onC k=true) (he:e.index=k.snap.index+k.entries.length+1) (hl:k.entries.length<10000):onC {k with entries:=k.entries++[e]}=true:=by
 have h:=onC_iff.1 ho
 refine onC_iff.2 ⟨h.1,by show (k.entries++[e]).length≤_;simp only [List.length_append,List.length_cons,List.length_nil];omega,fun i hi=>?_⟩
 have hi:i<(k.entries++[e]).length:=hi
 simp only [List.length_append,List.length_cons,List.length_nil] at hi
 by_cases h1:i<k.entries.length
 ·have h2:=h.2.2 i h1
  have e1:(k.entries++[e]).getD i default=k.entries.getD i default:=by rw [List.getD_eq_getElem?_getD,List.getD_eq_getElem?_getD,List.getElem?_append_left h1]
  unfold okAt Kept.en at h2 ⊢
  show 1≤((k.entries++[e]).getD i default).index∧((k.entries++[e]).getD i default).index - 1 - (i:Int)=k.snap.index
  rw [e1];exact h2
 ·have e0:i=k.entries.length:=by omega
  subst e0
  have e1:(k.entries++[e]).getD k.entries.length default=e:=by simp [List.getD]
  have h0:=h.1
  unfold okAt Kept.en
  show 1≤((k.entries++[e]).getD k.entries.length default).index∧((k.entries++[e]).getD k.entries.length default).index - 1 - (k.entries.length:Int)=k.snap.index
  rw [e1,he]
  omega
end Go.Proofs.YteabcgkjbnecaaaGreat
namespace Go.Proofs.YteabcgkjbnecaaaGreat
open Go.RowKit Go.ChangeShapes Go.WideShapes Go.Deep
set_option maxRecDepth 100000
def zeroP:Peer:=⟨0,0,0,0⟩
def findC (l:List Peer) (v:Int):Peer:=if 0≤peerI l v then l.getD (peerI l v).toNat default else zeroP
theorem find_fn (l:List Peer) (v:Int):FnC Tryz.prog 117 [dPeers.can l,dInt.can v] (.tup [.agg ((findC l v).svs []),.bool (decide (0≤peerI l v))]) D2:=by
 refine FnC.g2 dPeers dInt l v (fnB Tryz.func117 (by decide) rfl) fun hl _=>?_
 refine FnG.of_vc (fitsT tab_nil fun _=>none) Tryz.func117 rfl (by decide) rfl 300 (p:=fun (V:List PE→Prop)=>True∧True∧V []) (by kernel_rfl) ?_
 simp only [true_and,and_true]
 refine LoopG.head (fitsT tab_nil fun _=>none) 0 (A:=Nat) (fun j=>j≤l.length∧∀ i,i<j→isV v (l.getD i default).node=false) (fun j=>[(6,.int .i64 j)]) (fun _=>[]) (fun j=>l.length - j) 0 ⟨Nat.zero_le _,fun i h=>absurd h (by omega)⟩ (p0:=(0:Int)=(↑(0:Nat):Int)∧l=l∧v=v∧(0:Int)=(0:Int)∧(0:Int)=(0:Int)∧(0:Int)=(0:Int)∧(0:Int)=(0:Int)∧True) (by kernel_rfl) ?_ 300 (p:=fun (x:Nat) (V:List PE→Prop)=>let v0:=findC l v;let v1:=v0.round;let v2:=(↑x:Int);let v3:=v0.match_;let v4:=v0.node;let v5:=v0.next;let v6:=(0:Int);let v7:=(↑(List.length l):Int);let v8:=List.getD l x default;let v9:=v8.node;let v10:=v9==v;let v11:=decide (v6≤peerI l v);let v12:=decide (v2<v7);True∧True∧(v12=true→(v6≤v2∧v2<v7∧True)∧True∧(v10=true→(v6≤v2∧v2<v7∧True)∧v9=v4∧v8.next=v5∧v8.match_=v3∧v8.round=v1∧true=v11∧True)∧(v10=false→True∧V [PE.a,PE.b]))∧(v12=false→True∧v6=v4∧v6=v5∧v6=v3∧v6=v1∧false=v11∧True)) (by intro x;kernel_rfl) ?_
 ·trivial
 ·rintro j ⟨hj,h0⟩
  have hl44:=hl.1
  simp only [true_and,and_true,decide_eq_true_eq,decide_eq_false_iff_not]
  refine ⟨fun h1=>⟨⟨by omega,by omega⟩,fun h2=>?_,fun h2=>?_⟩,fun h1=>?_⟩
  ·have e:peerI l v=j:=firstI_hit (by simp only [List.length_map];omega) (fun i hi=>by rw [getD_node];exact h0 i hi) (by rw [getD_node];exact h2)
   have e2:findC l v=l.getD j default:=by
    rw [findC,e,if_pos (Int.natCast_nonneg _)];rfl
   rw [e2,e]
   refine ⟨⟨by omega,by omega⟩,rfl,rfl,rfl,rfl,?_⟩
   rw [decide_eq_true (Int.natCast_nonneg _)]
  ·refine Back.mk (j+1) ⟨by omega,fun i hi=>?_⟩ (by omega) (p0:=IntKind.wrap IntKind.i64 ((↑j:Int)+(1:Int))=(↑(j+(1:Nat)):Int)∧l=l∧v=v∧(0:Int)=(0:Int)∧(0:Int)=(0:Int)∧(0:Int)=(0:Int)∧(0:Int)=(0:Int)∧True) (by kernel_rfl) ?_
   ·by_cases h:i=j
    ·subst h;exact h2
    ·exact h0 i (by omega)
   ·exact ⟨wrapN (i:=j) (by omega),rfl,rfl,rfl,rfl,rfl,rfl,trivial⟩
  ·have e:peerI l v = -1:=firstI_miss fun i hi=>by rw [getD_node];exact h0 i (by simp only [List.length_map] at hi;omega)
   have e2:findC l v=zeroP:=by rw [findC,e,if_neg (by decide)]
   rw [e2,e]
   refine ⟨rfl,rfl,rfl,rfl,rfl⟩
def eRFind:Ent:=ent2 117 dPeers dInt fun l v=>([],.tup [.agg ((findC l v).svs []),.bool (decide (0≤peerI l v))],D2)
theorem eRFind_ok:EntOk Tryz.prog eRFind:=ent2_ok (find_fn [] 0).1 fun l m _=>find_fn l m
noncomputable def tabCk1:List Ent:=[eROfY,eRNo,eREarly,eRLastC,eRConf,eRApply,eRFind,eRLay,eROth,eRCount,eRAll18]
theorem tabCk1_ok:∀ e∈tabCk1,EntOk Tryz.prog e:=tab_cons eROfY_ok (tab_cons eRNo_ok (tab_cons eREarly_ok (tab_cons eRLastC_ok (tab_cons eRConf_ok (tab_cons eRApply_ok (tab_cons eRFind_ok (tab_cons eRLay_ok (tab_cons eROth_ok (tab_cons eRCount_ok (tab_cons eRAll18_ok tab_nil))))))))))
theorem peer_in {n:Node} (hr:rightC n=true) (h4:n.role=4) (v:Int):0≤peerI n.peers v↔v∈allC (confC n)∧v≠n.id:=by
 have g:=(right_iff.1 hr).rest
 rw [if_pos h4,peersB] at g
 simp only [Bool.and_eq_true,decide_eq_true_eq] at g
 rw [peerI,(firstI_any _).1,g.1.1,List.any_eq_true,othersC]
 constructor
 ·rintro ⟨x,hx,e⟩
  have e:x=v:=by simpa [isV] using e
  subst e
  exact dropL_mem.1 hx
 ·intro h
  exact ⟨v,dropL_mem.2 h,by simp [isV]⟩
theorem apply_in {c:Config} {v:Int} (h:applyE c 2 v=0):v∈allC c:=by
 have hb:applyB c 2 v=true:=by
  unfold applyE at h
  cases hb:applyB c 2 v
  ·rw [hb] at h;exact absurd h (by decide)
  ·rfl
 unfold applyB kindB at hb
 simp only [Bool.and_eq_true] at hb
 have hm:=hb.1.1.1
 have hl:hasB c.learners v=true:=hb.2
 rw [allC,if_pos hm]
 exact putAll_mem.2 (.inr (hasB_iff.1 hl))
theorem voter_eq {n:Node} {ch:Change} (hr:rightC n=true) (h4:n.role=4) (he:¬ (applyE (confC n) ch.kind ch.node≠0∨(ch.kind=3∧ch.node=n.id))) :
  (pickB (pickB (ch.kind==2) (ch.node != n.id) false) (decide ((findC n.peers ch.node).match_<n.commit)) false=true)=(ch.kind=2∧0≤chgP n ch∧(n.peers.getD (chgP n ch).toNat default).match_<n.commit):=by
 rw [pickB_f,pickB_f]
 simp only [Bool.and_eq_true,beq_iff_eq,bne_iff_ne,decide_eq_true_eq]
 apply propext
 have he0:applyE (confC n) ch.kind ch.node=0:=Classical.byContradiction fun h=>he (.inl h)
 constructor
 ·rintro ⟨⟨h1,h2⟩,h3⟩
  rw [h1] at he0
  have h5:0≤peerI n.peers ch.node:=(peer_in hr h4 _).2 ⟨apply_in he0,h2⟩
  rw [findC,if_pos h5] at h3
  exact ⟨h1,h5,h3⟩
 ·rintro ⟨h1,h5,h3⟩
  have h5:0≤peerI n.peers ch.node:=h5
  refine ⟨⟨h1,((peer_in hr h4 _).1 h5).2⟩,?_⟩
  rw [findC,if_pos h5]
  exact h3
theorem bne_f {a b:Int} (h:(a != b)=false):a=b:=by
 by_cases e:a=b
 ·exact e
 ·rw [bne_iff_ne.2 e] at h;cases h
theorem firstI_at {p : Int → Bool} : ∀ (l : List Int), 0 ≤ firstI p l → p (l.getD (firstI p l).toNat 0) = true
  | [], h => absurd h (by simp [firstI])
  | x :: l, h => by
    unfold firstI at h ⊢
    by_cases hx : p x = true
    · rw [if_pos hx]; exact hx
    · rw [if_neg hx] at h ⊢
      by_cases hm : firstI p l = -1
      · rw [if_pos hm] at h; exact absurd h (by decide)
      · rw [if_neg hm] at h ⊢
        have h0 : 0 ≤ firstI p l := by have := (firstI_lt (p := p) l).1; omega
        have e : (firstI p l + 1).toNat = (firstI p l).toNat + 1 := by omega
        rw [e, List.getD_cons_succ]
        exact firstI_at l h0
def n_at (s:Step) (o:Int):Peer:=s.n.peers.getD (peerI s.n.peers o).toNat default
theorem newPeer_node (s:Step) (o:Int):(newPeer s o).node=o:=by
 unfold newPeer
 split
 ·rename_i h
  have g:=firstI_at (p:=isV o) _ h
  rw [getD_node] at g
  have g2:((n_at s o).node==o)=true:=g
  exact beq_iff_eq.1 g2
 ·rfl
theorem newPeers_node (s:Step) (L:List Int):(L.map (newPeer s)).map (·.node)=L:=by
 rw [List.map_map,show ((fun p:Peer=>p.node)∘newPeer s)=id from funext fun o=>newPeer_node s o,List.map_id]
theorem laid_last {n:Node} {e:Entry} (ho:onC n.kept=true) (hl:n.kept.entries.length≤9000) (hi:n.kept.snap.index+n.kept.entries.length≤900000000):(lastC (layS (stepZ n) e).n.kept).1=IntKind.i64.wrap ((lastC n.kept).1+1):=by
 have hb:=(on_bd ho).1
 have e1:IntKind.i64.wrap ((lastC n.kept).1+1)=n.kept.snap.index+n.kept.entries.length+1:=by
  rw [lastC_index ho,wrapI ⟨by omega,by omega⟩]
 have ho2:=onC_app (k:=n.kept) (e:=⟨IntKind.i64.wrap ((lastC n.kept).1+1),n.kept.term,e.kind,e.config,e.data⟩) ho e1 (by omega)
 show (lastC (⟨n.kept.term,n.kept.vote,n.kept.snap,n.kept.entries++[⟨IntKind.i64.wrap ((lastC n.kept).1+1),n.kept.term,e.kind,e.config,e.data⟩]⟩:Kept)).1=_
 rw [lastC_index ho2,e1]
 show n.kept.snap.index+((n.kept.entries++[_]:List Entry).length:Int)=_
 simp only [List.length_append,List.length_cons,List.length_nil];omega
theorem newPeer_pick (n:Node) (ch:Change) (o:Int) (hl:(lastC (chg1 n ch).n.kept).1=IntKind.i64.wrap ((lastC n.kept).1+1)) :
  (⟨pickI (!decide (0≤peerI n.peers o)) o (findC n.peers o).node,pickI (!decide (0≤peerI n.peers o)) (IntKind.i64.wrap ((lastC n.kept).1+1)) (findC n.peers o).next,pickI (!decide (0≤peerI n.peers o)) 0 (findC n.peers o).match_,pickI (!decide (0≤peerI n.peers o)) 0 (findC n.peers o).round⟩:Peer)=newPeer (chg1 n ch) o:=by
 have ep:(chg1 n ch).n.peers=n.peers:=rfl
 unfold newPeer
 rw [ep,hl]
 by_cases h:0≤peerI n.peers o
 ·rw [if_pos h,decide_eq_true h,findC,if_pos h];rfl
 ·rw [if_neg h,decide_eq_false h];rfl
theorem rchangeN_fn (n:Node) (ch:Change) (hn:SmallN n) (hr:rightC n=false):FnC Tryz.prog 43 [dNode.can n,dChange.can ch] (refO zeroN outZ 1) D3d:=by
 refine FnG.of_vc (fitsT tabRu0_ok fun _=>none) Tryz.func43 rfl (by decide) rfl 300 (p:=fun (V:List PE→Prop)=>let v0:=Node.commit zeroN;let v1:=Node.elapsed zeroN;let v2:=Node.kept zeroN;let v3:=Out.messages outZ;let v4:=v2.term;let v5:=v2.vote;let v6:=v2.entries;let v7:=v2.snap;let v8:=v7.index;let v9:=v7.term;let v10:=v7.data;let v11:=v7.config;let v12:=(1:Int);let v13:=v11.voters;let v14:=v11.learners;let v15:=Node.role n != (4:Int);let v16:=v12 != (0:Int);True∧(SmallN n∧rightC n=false∧True)∧True∧True∧(v16=true→True∧Node.id zeroN=Node.id zeroN∧Node.role zeroN=Node.role zeroN∧v4=v4∧v5=v5∧v8=v8∧v9=v9∧v13=v13∧v14=v14∧v10=v10∧v6=v6∧v0=v0∧Node.lead zeroN=Node.lead zeroN∧v1=v1∧Node.yes zeroN=Node.yes zeroN∧Node.peers zeroN=Node.peers zeroN∧Node.round zeroN=Node.round zeroN∧Node.reads zeroN=Node.reads zeroN∧Out.records outZ=Out.records outZ∧v3=v3∧Out.ready outZ=Out.ready outZ∧Out.lost outZ=Out.lost outZ∧v12=v12∧True)∧(v16=false→True∧True∧(v15=true→True∧Node.id zeroN=Node.id zeroN∧Node.role zeroN=Node.role zeroN∧v4=v4∧v5=v5∧v8=v8∧v9=v9∧v13=v13∧v14=v14∧v10=v10∧v6=v6∧v0=v0∧Node.lead zeroN=Node.lead zeroN∧v1=v1∧Node.yes zeroN=Node.yes zeroN∧Node.peers zeroN=Node.peers zeroN∧Node.round zeroN=Node.round zeroN∧Node.reads zeroN=Node.reads zeroN∧Out.records outZ=Out.records outZ∧v3=v3∧Out.ready outZ=Out.ready outZ∧Out.lost outZ=Out.lost outZ∧(170:Int)=v12∧True)∧(v15=false→False))) (by kernel_rfl) ?_
 simp only [imp_self,implies_true,true_and,and_true,pickB_f,pickB_t]
 exact ⟨⟨hn,hr⟩,fun h=>absurd h (by decide)⟩
theorem rchangeY_fn (n:Node) (ch:Change) (hf:Few 50000 (stepZ n)) (hr:rightC n=true):FnC Tryz.prog 43 [dNode.can n,dChange.can ch] (refO (chgC n ch).1.n (chgC n ch).1.o (chgC n ch).2) D3d:=by
 obtain ⟨M,hM⟩:∃ M,chgC n ch=M:=⟨_,rfl⟩
 rw [hM]
 refine FnG.of_vc (fitsT tabCk1_ok fun _=>none) Tryz.func43 rfl (by decide) rfl 300 (p:=fun (V:List PE→Prop)=>let v0:=Change.kind ch;let v1:=Node.kept zeroN;let v2:=Change.node ch;let v3:=Node.kept n;let v4:=Node.commit n;let v5:=v1.snap;let v6:=Prod.snd M;let v7:=v5.config;let v8:=List.length (v3.entries);let v9:=Step.n (Prod.fst M);let v10:=(0:Int);let v11:=Step.o (Prod.fst M);let v12:=v9.kept;let v13:=Peer.match_ (findC (Node.peers n) v2);let v14:=v12.snap;let v15:=(↑v8:Int);let v16:=v14.config;let v17:=configC v3 (Prod.fst (lastC v3));let v18:=Out.mk [] [] [] [];let v19:=v0==(2:Int);let v20:=Node.role n != (4:Int);let v21:=v0==(3:Int);let v22:=Prod.fst v17;let v23:=v10 != v10;let v24:=Prod.fst (Prod.snd v17);let v25:=pickB v19 (v2 != Node.id n) false;let v26:=applyE v22 v0 v2 != v10;let v27:=!v26;let v28:=decide (v15≥(9000:Int));let v29:=Entry.mk v10 v10 (2:Int) (applyH v22 v0 v2) (ByteArray.mk #[]);let v30:=decide (v24>v4);let v31:=pickB v25 (decide (v13<v4)) false;let v32:=Step.n (layS (Step.mk n v18) v29);let v33:=pickB v26 true (pickB v21 (v2==Node.id n) false);True∧(SmallN n∧rightC n=true∧True)∧True∧True∧(v23=true→True∧Node.id zeroN=v9.id∧Node.role zeroN=v9.role∧v1.term=v12.term∧v1.vote=v12.vote∧v5.index=v14.index∧v5.term=v14.term∧v7.voters=v16.voters∧v7.learners=v16.learners∧v5.data=v14.data∧v1.entries=v12.entries∧Node.commit zeroN=v9.commit∧Node.lead zeroN=v9.lead∧Node.elapsed zeroN=v9.elapsed∧Node.yes zeroN=v9.yes∧Node.peers zeroN=v9.peers∧Node.round zeroN=v9.round∧Node.reads zeroN=v9.reads∧Out.records outZ=v11.records∧Out.messages outZ=v11.messages∧Out.ready outZ=v11.ready∧Out.lost outZ=v11.lost∧v10=v6∧True)∧(v23=false→True∧True∧(v20=true→True∧Node.id zeroN=v9.id∧Node.role zeroN=v9.role∧v1.term=v12.term∧v1.vote=v12.vote∧v5.index=v14.index∧v5.term=v14.term∧v7.voters=v16.voters∧v7.learners=v16.learners∧v5.data=v14.data∧v1.entries=v12.entries∧Node.commit zeroN=v9.commit∧Node.lead zeroN=v9.lead∧Node.elapsed zeroN=v9.elapsed∧Node.yes zeroN=v9.yes∧Node.peers zeroN=v9.peers∧Node.round zeroN=v9.round∧Node.reads zeroN=v9.reads∧Out.records outZ=v11.records∧Out.messages outZ=v11.messages∧Out.ready outZ=v11.ready∧Out.lost outZ=v11.lost∧(170:Int)=v6∧True)∧(v20=false→True∧True∧(earlyB n=true→True∧Node.id zeroN=v9.id∧Node.role zeroN=v9.role∧v1.term=v12.term∧v1.vote=v12.vote∧v5.index=v14.index∧v5.term=v14.term∧v7.voters=v16.voters∧v7.learners=v16.learners∧v5.data=v14.data∧v1.entries=v12.entries∧Node.commit zeroN=v9.commit∧Node.lead zeroN=v9.lead∧Node.elapsed zeroN=v9.elapsed∧Node.yes zeroN=v9.yes∧Node.peers zeroN=v9.peers∧Node.round zeroN=v9.round∧Node.reads zeroN=v9.reads∧Out.records outZ=v11.records∧Out.messages outZ=v11.messages∧Out.ready outZ=v11.ready∧Out.lost outZ=v11.lost∧(171:Int)=v6∧True)∧(earlyB n=false→True∧(SmallK v3∧True)∧(SmallC v22∧True)∧True∧True∧True∧(v30=true→True∧Node.id zeroN=v9.id∧Node.role zeroN=v9.role∧v1.term=v12.term∧v1.vote=v12.vote∧v5.index=v14.index∧v5.term=v14.term∧v7.voters=v16.voters∧v7.learners=v16.learners∧v5.data=v14.data∧v1.entries=v12.entries∧Node.commit zeroN=v9.commit∧Node.lead zeroN=v9.lead∧Node.elapsed zeroN=v9.elapsed∧Node.yes zeroN=v9.yes∧Node.peers zeroN=v9.peers∧Node.round zeroN=v9.round∧Node.reads zeroN=v9.reads∧Out.records outZ=v11.records∧Out.messages outZ=v11.messages∧Out.ready outZ=v11.ready∧Out.lost outZ=v11.lost∧(161:Int)=v6∧True)∧(v30=false→((v27=true→v27=true)∧(v27=true→v27=true)∧(v27=true→v27=true)∧((v27&&v21)=true→(v27&&v21)=true)∧((v27&&v21)=true→(v27&&v21)=true)∧((v27&&v21)=true→(v27&&v21)=true)∧((v27&&v21)=true→(v27&&v21)=true)∧(v27=true→v27=true)∧(v27=true→v21=true→(v27&&v21)=true)∧(v26=false→v27=true)∧True)∧True∧(v33=true→True∧Node.id zeroN=v9.id∧Node.role zeroN=v9.role∧v1.term=v12.term∧v1.vote=v12.vote∧v5.index=v14.index∧v5.term=v14.term∧v7.voters=v16.voters∧v7.learners=v16.learners∧v5.data=v14.data∧v1.entries=v12.entries∧Node.commit zeroN=v9.commit∧Node.lead zeroN=v9.lead∧Node.elapsed zeroN=v9.elapsed∧Node.yes zeroN=v9.yes∧Node.peers zeroN=v9.peers∧Node.round zeroN=v9.round∧Node.reads zeroN=v9.reads∧Out.records outZ=v11.records∧Out.messages outZ=v11.messages∧Out.ready outZ=v11.ready∧Out.lost outZ=v11.lost∧(160:Int)=v6∧True)∧(v33=false→((v19=true→v19=true)∧(v19=true→v19=true)∧(v19=true→v19=true)∧(v19=true→v19=true)∧(v19=true→v19=true)∧(v25=true→v25=true)∧(v25=true→v25=true)∧(v25=true→v25=true)∧(v25=true→v25=true)∧(v25=true→v25=true)∧True)∧True∧(v31=true→True∧Node.id zeroN=v9.id∧Node.role zeroN=v9.role∧v1.term=v12.term∧v1.vote=v12.vote∧v5.index=v14.index∧v5.term=v14.term∧v7.voters=v16.voters∧v7.learners=v16.learners∧v5.data=v14.data∧v1.entries=v12.entries∧Node.commit zeroN=v9.commit∧Node.lead zeroN=v9.lead∧Node.elapsed zeroN=v9.elapsed∧Node.yes zeroN=v9.yes∧Node.peers zeroN=v9.peers∧Node.round zeroN=v9.round∧Node.reads zeroN=v9.reads∧Out.records outZ=v11.records∧Out.messages outZ=v11.messages∧Out.ready outZ=v11.ready∧Out.lost outZ=v11.lost∧(161:Int)=v6∧True)∧(v31=false→True∧True∧(v28=true→True∧Node.id zeroN=v9.id∧Node.role zeroN=v9.role∧v1.term=v12.term∧v1.vote=v12.vote∧v5.index=v14.index∧v5.term=v14.term∧v7.voters=v16.voters∧v7.learners=v16.learners∧v5.data=v14.data∧v1.entries=v12.entries∧Node.commit zeroN=v9.commit∧Node.lead zeroN=v9.lead∧Node.elapsed zeroN=v9.elapsed∧Node.yes zeroN=v9.yes∧Node.peers zeroN=v9.peers∧Node.round zeroN=v9.round∧Node.reads zeroN=v9.reads∧Out.records outZ=v11.records∧Out.messages outZ=v11.messages∧Out.ready outZ=v11.ready∧Out.lost outZ=v11.lost∧(2:Int)=v6∧True)∧(v28=false→(SmallN n∧SmallO v18∧SmallE v29∧(onC v3=true∧Snap.index (v3.snap)+v15≤(900001000:Int)∧v8<(10000:Nat))∧True)∧(List.length (v32.yes)≤(17592186044416:Nat)∧List.length (v32.peers)≤(17592186044416:Nat)∧List.length (v32.reads)≤(17592186044416:Nat)∧SmallN v32∧True)∧True∧True∧V [PE.b,PE.b,PE.b,PE.b,PE.b,PE.b,PE.b])))))))) (by kernel_rfl) ?_
 obtain ⟨b1,b2,b3,b4,b5⟩:=(hf.sn (by decide)).ls
 have hsn:=hf.sn (by decide)
 have k1:=hf.chg1 (ch:=ch)
 obtain ⟨d1,d2,d3,d4,d5⟩:=(k1.sn (by decide)).ls
 have k2:=hf.chg2 (ch:=ch)
 have hR:=right_iff.1 hr
 have hlast:=hR.last
 rw [lastC_index hR.on] at hlast
 intros
 refine ⟨trivial,⟨hsn,hr,trivial⟩,trivial,trivial,fun h=>absurd h (by decide),fun _=>⟨trivial,trivial,fun h=>⟨trivial,?_⟩,fun h4=>⟨trivial,trivial,fun he=>⟨trivial,?_⟩,fun he=>⟨trivial,⟨hsn.k,trivial⟩,⟨confC_small hsn,trivial⟩,trivial,trivial,trivial,fun h1=>⟨trivial,?_⟩,fun h1=>⟨?_,trivial,fun h2=>⟨trivial,?_⟩,fun h2=>⟨?_,trivial,fun h3=>⟨trivial,?_⟩,fun h3=>⟨trivial,trivial,fun h5=>⟨trivial,?_⟩,fun h5=>⟨⟨hsn,hf.so (by decide),(applyH_small _ _ _).c,⟨hR.on,by have h9:n.kept.snap.index+(n.kept.entries.length:Int)≤900000000:=hlast;show n.kept.snap.index+(n.kept.entries.length:Int)≤900001000;omega,by have h9:=hR.len;show n.kept.entries.length<10000;omega⟩,trivial⟩,⟨d2,d3,d4,k1.sn (by decide),trivial⟩,trivial,trivial,?_⟩⟩⟩⟩⟩⟩⟩⟩
 ·have h:¬ n.role=4:=bne_iff_ne.1 h
  have e:M=(⟨zeroN,outZ⟩,170):=by
   have he:leadE n=170:=by rw [leadE,if_pos hr,if_neg h]
   have hs:setE n=170:=by rw [setE,he,if_pos (by decide)]
   rw [← hM,chgC,if_pos (by rw [hs];decide),hs]
  subst e
  repeat' apply And.intro
  all_goals first | trivial | rfl
 ·have h4:n.role=4:=bne_f h4
  have hl:leadE n=0:=by rw [leadE,if_pos hr,if_pos h4]
  have he:¬ (termC n.kept n.commit).1=n.kept.term:=bne_iff_ne.1 he
  have e:M=(⟨zeroN,outZ⟩,171):=by
   have hs:setE n=171:=by rw [setE,hl,if_neg (by decide),if_neg he]
   rw [← hM,chgC,if_pos (by rw [hs];decide),hs]
  subst e
  repeat' apply And.intro
  all_goals first | trivial | rfl
 ·have h4:n.role=4:=bne_f h4
  have hl:leadE n=0:=by rw [leadE,if_pos hr,if_pos h4]
  have he:(termC n.kept n.commit).1=n.kept.term:=bne_f he
  have hs:¬ setE n≠0:=Classical.not_not.2 (by rw [setE,hl,if_neg (by decide),if_pos he])
  have h1:n.commit<chgAt n:=of_decide_eq_true h1
  have e:M=(⟨zeroN,outZ⟩,161):=by rw [← hM,chgC,if_neg hs,chgE,if_pos h1,if_pos (by decide)]
  subst e
  repeat' apply And.intro
  all_goals first | trivial | rfl
 ·refine ⟨fun h=>h,fun h=>h,fun h=>h,fun h=>h,fun h=>h,fun h=>h,fun h=>h,fun h=>h,fun h g=>and_tt h g,fun h=>not_tt h,trivial⟩
 ·have h4:n.role=4:=bne_f h4
  have hl:leadE n=0:=by rw [leadE,if_pos hr,if_pos h4]
  have he:(termC n.kept n.commit).1=n.kept.term:=bne_f he
  have hs:¬ setE n≠0:=Classical.not_not.2 (by rw [setE,hl,if_neg (by decide),if_pos he])
  have h1:¬ n.commit<chgAt n:=of_decide_eq_false h1
  have h2:applyE (confC n) ch.kind ch.node≠0∨(ch.kind=3∧ch.node=n.id):=cond160 h2
  have e:M=(⟨zeroN,outZ⟩,160):=by rw [← hM,chgC,if_neg hs,chgE,if_neg h1,if_pos h2,if_pos (by decide)]
  subst e
  repeat' apply And.intro
  all_goals first | trivial | rfl
 ·refine ⟨fun h=>h,fun h=>h,fun h=>h,fun h=>h,fun h=>h,fun h=>h,fun h=>h,fun h=>h,fun h=>h,fun h=>h,trivial⟩
 ·have h4:n.role=4:=bne_f h4
  have hl:leadE n=0:=by rw [leadE,if_pos hr,if_pos h4]
  have he:(termC n.kept n.commit).1=n.kept.term:=bne_f he
  have hs:¬ setE n≠0:=Classical.not_not.2 (by rw [setE,hl,if_neg (by decide),if_pos he])
  have h1:¬ n.commit<chgAt n:=of_decide_eq_false h1
  have h2:¬ (applyE (confC n) ch.kind ch.node≠0∨(ch.kind=3∧ch.node=n.id)):=cond160f h2
  have h3:ch.kind=2∧0≤chgP n ch∧(n.peers.getD (chgP n ch).toNat default).match_<n.commit:=(voter_eq hr h4 h2).mp h3
  have e:M=(⟨zeroN,outZ⟩,161):=by rw [← hM,chgC,if_neg hs,chgE,if_neg h1,if_neg h2,if_pos h3,if_pos (by decide)]
  subst e
  repeat' apply And.intro
  all_goals first | trivial | rfl
 ·have h4:n.role=4:=bne_f h4
  have hl:leadE n=0:=by rw [leadE,if_pos hr,if_pos h4]
  have he:(termC n.kept n.commit).1=n.kept.term:=bne_f he
  have hs:¬ setE n≠0:=Classical.not_not.2 (by rw [setE,hl,if_neg (by decide),if_pos he])
  have h1:¬ n.commit<chgAt n:=of_decide_eq_false h1
  have h2:¬ (applyE (confC n) ch.kind ch.node≠0∨(ch.kind=3∧ch.node=n.id)):=cond160f h2
  have h3:¬ (ch.kind=2∧0≤chgP n ch∧(n.peers.getD (chgP n ch).toNat default).match_<n.commit):=fun g=>by
   rw [← voter_eq hr h4 h2] at g;exact absurd (h3.symm.trans g) (by decide)
  have h5:9000≤(n.kept.entries.length:Int):=of_decide_eq_true h5
  have e:M=(⟨zeroN,outZ⟩,2):=by rw [← hM,chgC,if_neg hs,chgE,if_neg h1,if_neg h2,if_neg h3,if_pos h5,if_pos (by decide)]
  subst e
  repeat' apply And.intro
  all_goals first | trivial | rfl
 ·have h4:n.role=4:=bne_f h4
  have hl:leadE n=0:=by rw [leadE,if_pos hr,if_pos h4]
  have he:(termC n.kept n.commit).1=n.kept.term:=bne_f he
  have hs:¬ setE n≠0:=Classical.not_not.2 (by rw [setE,hl,if_neg (by decide),if_pos he])
  have h1:¬ n.commit<chgAt n:=of_decide_eq_false h1
  have h2:¬ (applyE (confC n) ch.kind ch.node≠0∨(ch.kind=3∧ch.node=n.id)):=cond160f h2
  have h3:¬ (ch.kind=2∧0≤chgP n ch∧(n.peers.getD (chgP n ch).toNat default).match_<n.commit):=fun g=>by
   rw [← voter_eq hr h4 h2] at g;exact absurd (h3.symm.trans g) (by decide)
  have h5:¬ 9000≤(n.kept.entries.length:Int):=of_decide_eq_false h5
  have e:M=(chgS n ch,0):=by rw [← hM,chgC,if_neg hs,chgE,if_neg h1,if_neg h2,if_neg h3,if_neg h5,if_neg (by decide)]
  obtain ⟨L,hL⟩:∃ L,othersC (chg1 n ch).n=L:=⟨_,rfl⟩
  have hol:L.length≤16:=by rw [← hL];exact others_le _
  refine LoopG.head (fitsT tabCk1_ok fun _=>none) 0 (A:=Nat) (fun j=>j≤L.length) (fun j=>[(20,.int .i64 j),(18,.sl [900] (.rInts L)),(19,.own 901)]) (fun j=>[(901,.row 94 [] (.rPeer ((L.take j).map (newPeer (chg1 n ch))))),(900,.dead)]) (fun j=>L.length - j) 0 (Nat.zero_le _) (p0:=let v0:=Node.kept n;let v1:=v0.snap;let v2:=v0.term;let v3:=v0.entries;let v4:=v0.vote;let v5:=v1.data;let v6:=v1.term;let v7:=v1.config;let v8:=v1.index;let v9:=ByteArray.mk #[];let v10:=v7.learners;let v11:=(0:Int);let v12:=v7.voters;let v13:=Prod.fst (lastC v0);let v14:=layS (Step.mk n (Out.mk [] [] [] [])) (Entry.mk v11 v11 (2:Int) (applyH (Prod.fst (configC v0 v13)) (Change.kind ch) (Change.node ch)) v9);let v15:=v14.o;let v16:=v14.n;let v17:=v16.id;let v18:=v15.messages;let v19:=v16.peers;let v20:=v16.yes;let v21:=v16.commit;let v22:=v15.ready;let v23:=v16.reads;let v24:=v16.role;let v25:=v15.lost;let v26:=v16.lead;let v27:=v16.kept;let v28:=v15.records;let v29:=v16.elapsed;let v30:=v16.round;let v31:=v27.vote;let v32:=v27.term;let v33:=v27.entries;let v34:=v27.snap;let v35:=v34.term;let v36:=v34.data;let v37:=v34.config;let v38:=v34.index;let v39:=v37.voters;let v40:=v37.learners;v11=(↑(0:Nat):Int)∧othersC v16=L∧v13=v13∧v11=v11∧List.map (newPeer (chg1 n ch)) (List.take (0:Nat) L)=[]∧v17=v17∧v24=v24∧v32=v32∧v31=v31∧v38=v38∧v35=v35∧v39=v39∧v40=v40∧v36=v36∧v33=v33∧v21=v21∧v26=v26∧v29=v29∧v30=v30∧v20=v20∧v19=v19∧v23=v23∧v28=v28∧v18=v18∧v22=v22∧v25=v25∧v11=v11∧v11=v11∧v11=v11∧v11=v11∧v11=v11∧v11=v11∧v9=v9∧v11=v11∧v11=v11∧v11=v11∧v11=v11∧Node.id n=Node.id n∧Node.role n=Node.role n∧v2=v2∧v4=v4∧v8=v8∧v6=v6∧v12=v12∧v10=v10∧v5=v5∧v3=v3∧Node.commit n=Node.commit n∧Node.lead n=Node.lead n∧Node.elapsed n=Node.elapsed n∧Node.yes n=Node.yes n∧Node.peers n=Node.peers n∧Node.round n=Node.round n∧Node.reads n=Node.reads n∧True) (by kernel_rfl) ?_ 300 (p:=fun (x:Nat) (V:List PE→Prop)=>let v0:=(↑x:Int);let v1:=(0:Int);let v2:=Step.o (Prod.fst M);let v3:=Step.n (Prod.fst M);let v4:=Prod.fst (lastC (Node.kept n));let v5:=v3.kept;let v6:=(↑(List.length L):Int);let v7:=v5.snap;let v8:=v7.config;let v9:=List.getD L x v1;let v10:=List.map (newPeer (chg1 n ch)) (List.take x L);let v11:=findC (Node.peers n) v9;let v12:=peerI (Node.peers n) v9;let v13:=decide (v0<v6);let v14:=!decide (v1≤v12);let v15:=layS (Step.mk n (Out.mk [] [] [] [])) (Entry.mk v1 v1 (2:Int) (applyH (Prod.fst (configC (Node.kept n) v4)) (Change.kind ch) (Change.node ch)) (ByteArray.mk #[]));let v16:=v15.n;let v17:=v15.o;let v18:=Node.mk (v16.id) (v16.role) (v16.kept) (v16.commit) (v16.lead) (v16.elapsed) (v16.yes) v10 (v16.round) (v16.reads);let v19:=countS (Step.mk v18 v17);let v20:=allS v19;let v21:=v19.n;let v22:=v20.n;let v23:=v20.o;let v24:=v22.yes;let v25:=v23.lost;let v26:=v23.records;let v27:=v22.reads;let v28:=v22.kept;let v29:=v23.messages;let v30:=v22.peers;let v31:=v23.ready;let v32:=v28.snap;let v33:=v32.config;True∧True∧(v13=true→(v1≤v0∧v0<v6∧True)∧True∧((v14=true→v1≤v0)∧(v14=true→v0<v6)∧True)∧((List.length v10+List.length [Peer.mk (pickI v14 v9 (v11.node)) (pickI v14 (IntKind.wrap IntKind.i64 (v4+(1:Int))) (v11.next)) (pickI v14 v1 (v11.match_)) (pickI v14 v1 (v11.round))])*(1024:Nat)≤(140737488355328:Nat)∧True)∧True∧V [PE.a])∧(v13=false→True∧(SmallN v18∧SmallO v17∧List.length (Config.voters (confC v18))≤(4000:Nat)∧List.Nodup (List.map (fun (x:Peer)=>Peer.node x) v10)∧True)∧(SmallN v21∧List.length (Out.messages (v19.o))+List.length (v21.peers)≤(1000000:Nat)∧True)∧True∧v22.id=v3.id∧v22.role=v3.role∧v28.term=v5.term∧v28.vote=v5.vote∧v32.index=v7.index∧v32.term=v7.term∧v33.voters=v8.voters∧v33.learners=v8.learners∧v32.data=v7.data∧v28.entries=v5.entries∧v22.commit=v3.commit∧v22.lead=v3.lead∧v22.elapsed=v3.elapsed∧v24=v3.yes∧List.length v24≤(17592186044416:Nat)∧v30=v3.peers∧List.length v30≤(17592186044416:Nat)∧v22.round=v3.round∧v27=v3.reads∧List.length v27≤(17592186044416:Nat)∧v26=v2.records∧List.length v26≤(17592186044416:Nat)∧v29=v2.messages∧List.length v29≤(17592186044416:Nat)∧v31=v2.ready∧List.length v31≤(17592186044416:Nat)∧v25=v2.lost∧List.length v25≤(17592186044416:Nat)∧v1=Prod.snd M∧True)) (by intro x;kernel_rfl) ?_
  ·intros
   repeat' apply And.intro
   all_goals first | trivial | rfl | exact hL
  rintro j hj
  have hlp:(lastC (chg1 n ch).n.kept).1=IntKind.i64.wrap ((lastC n.kept).1+1):=laid_last hR.on hR.len hlast
  have hml:((L.take j).map (newPeer (chg1 n ch))).length≤16:=by simp only [List.length_map,List.length_take];omega
  have hml2:∀ x:Peer,(((L.take j).map (newPeer (chg1 n ch))).length+[x].length)*1024≤140737488355328:=fun x=>by simp only [List.length_cons,List.length_nil];omega
  have hb:∀ {b:Bool},decide ((j:Int)<(L.length:Int))=b→decide ((j:Int)<(L.length:Int))=b:=fun h=>h
  intros
  refine ⟨trivial,trivial,fun h6=>?_,fun h6=>?_⟩
  ·have h6:j<L.length:=by have h7:=of_decide_eq_true (hb h6);omega
   have eJ:IntKind.i64.wrap ((j:Int)+1)=((j+1:Nat):Int):=wrapN (by omega)
   have eS:(L.take (j+1)).map (newPeer (chg1 n ch))=(L.take j).map (newPeer (chg1 n ch))++[newPeer (chg1 n ch) (L.getD j 0)]:=by
    rw [take_snoc (d:=(0:Int)) h6,List.map_append];rfl
   rw [← newPeer_pick n ch _ hlp] at eS
   refine ⟨⟨Int.natCast_nonneg _,Int.ofNat_lt.2 h6,trivial⟩,trivial,⟨fun _=>Int.natCast_nonneg _,fun _=>Int.ofNat_lt.2 h6,trivial⟩,⟨hml2 _,trivial⟩,trivial,?_⟩
   refine Back.mk (j+1) (by show j+1≤_;omega) (by show _ - (j+1)<_ - j;omega) (p0:=let v0:=Node.peers n;let v1:=Node.kept n;let v2:=v1.vote;let v3:=v1.term;let v4:=v1.snap;let v5:=v1.entries;let v6:=v4.index;let v7:=v4.data;let v8:=v4.term;let v9:=v4.config;let v10:=v9.voters;let v11:=v9.learners;let v12:=ByteArray.mk #[];let v13:=(0:Int);let v14:=Prod.fst (lastC v1);let v15:=List.getD L j v13;let v16:=peerI v0 v15;let v17:=findC v0 v15;let v18:=!decide (v13≤v16);let v19:=layS (Step.mk n (Out.mk [] [] [] [])) (Entry.mk v13 v13 (2:Int) (applyH (Prod.fst (configC v1 v14)) (Change.kind ch) (Change.node ch)) v12);let v20:=v19.n;let v21:=v19.o;let v22:=v20.commit;let v23:=v20.role;let v24:=v21.lost;let v25:=v20.round;let v26:=v20.yes;let v27:=v20.kept;let v28:=v20.elapsed;let v29:=v20.id;let v30:=v21.messages;let v31:=v20.lead;let v32:=v20.reads;let v33:=v21.ready;let v34:=v20.peers;let v35:=v21.records;let v36:=v27.entries;let v37:=v27.term;let v38:=v27.snap;let v39:=v27.vote;let v40:=v38.data;let v41:=v38.index;let v42:=v38.config;let v43:=v38.term;let v44:=v42.learners;let v45:=v42.voters;IntKind.wrap IntKind.i64 ((↑j:Int)+(1:Int))=(↑(j+(1:Nat)):Int)∧L=L∧v14=v14∧v13=v13∧List.map (newPeer (chg1 n ch)) (List.take j L)++[Peer.mk (pickI v18 v15 (v17.node)) (pickI v18 (IntKind.wrap IntKind.i64 (v14+(1:Int))) (v17.next)) (pickI v18 v13 (v17.match_)) (pickI v18 v13 (v17.round))]=List.map (newPeer (chg1 n ch)) (List.take (j+(1:Nat)) L)∧v29=v29∧v23=v23∧v37=v37∧v39=v39∧v41=v41∧v43=v43∧v45=v45∧v44=v44∧v40=v40∧v36=v36∧v22=v22∧v31=v31∧v28=v28∧v25=v25∧v26=v26∧v34=v34∧v32=v32∧v35=v35∧v30=v30∧v33=v33∧v24=v24∧v13=v13∧v13=v13∧v13=v13∧v13=v13∧v13=v13∧v13=v13∧v12=v12∧v13=v13∧v13=v13∧v13=v13∧v13=v13∧Node.id n=Node.id n∧Node.role n=Node.role n∧v3=v3∧v2=v2∧v6=v6∧v8=v8∧v10=v10∧v11=v11∧v7=v7∧v5=v5∧Node.commit n=Node.commit n∧Node.lead n=Node.lead n∧Node.elapsed n=Node.elapsed n∧Node.yes n=Node.yes n∧v0=v0∧Node.round n=Node.round n∧Node.reads n=Node.reads n∧True) (by kernel_rfl) ?_
   intros
   repeat' apply And.intro
   all_goals first | trivial | rfl | exact eJ | exact eS | exact eS.symm
  ·have h6:j=L.length:=by have h7:=of_decide_eq_false (hb h6);omega
   subst h6
   have eT:(L.take L.length).map (newPeer (chg1 n ch))=(othersC (chg1 n ch).n).map (newPeer (chg1 n ch)):=by rw [List.take_length,hL]
   have k3:=k2.count
   have k4:=k3.all
   have hcl:(chg2 n ch)=withP (chg1 n ch) ((L.take L.length).map (newPeer (chg1 n ch))):=by rw [chg2,eT]
   have e2:M=(allS (countS (withP (chg1 n ch) ((L.take L.length).map (newPeer (chg1 n ch))))),0):=by rw [e,chgS,hcl]
   have hnd:(((L.take L.length).map (newPeer (chg1 n ch))).map (·.node)).Nodup:=by
    rw [List.take_length,newPeers_node,← hL];exact others_nodup _
   rw [hcl] at k2 k3 k4
   obtain ⟨y1,y2,y3,y4,y5⟩:=(k4.sn (by decide)).ls
   obtain ⟨z1,z2,z3,z4⟩:=(k4.so (by decide)).ls
   subst e2
   refine ⟨trivial,⟨k2.sn (by decide),k2.so (by decide),k2.cf.1,hnd,trivial⟩,⟨k3.sn (by decide),Nat.le_trans (Nat.add_le_add k3.messages k3.peers) (by decide),trivial⟩,trivial,?_⟩
   repeat' apply And.intro
   all_goals first | trivial | rfl | assumption
theorem rchange_fn (n:Node) (ch:Change) (hf:Few 50000 (stepZ n)):FnC Tryz.prog 43 [dNode.can n,dChange.can ch] (refO (chgC n ch).1.n (chgC n ch).1.o (chgC n ch).2) D3d:=by
 cases hr:rightC n
 ·have hl:leadE n=1:=by rw [leadE,hr];rfl
  have hs:setE n=1:=by rw [setE,hl,if_pos (by decide)]
  rw [chgC,if_pos (by rw [hs];decide),hs]
  exact rchangeN_fn n ch (hf.sn (by decide)) hr
 ·exact rchangeY_fn n ch hf hr
def eChg18:Ent:=ent2 42 dNode dChange fun n t=>([Few 50000 (stepZ n)],refO (chgC n t).1.n (chgC n t).1.o (chgC n t).2,D3d)
theorem eChg18_ok:EntOk Tryz.prog eChg18:=ent2_ok (fnB Tryz.func42 (by decide) rfl) fun n t h=>change_fn n t (h _ (by simp))
def eRChg18:Ent:=ent2 43 dNode dChange fun n t=>([Few 50000 (stepZ n)],refO (chgC n t).1.n (chgC n t).1.o (chgC n t).2,D3d)
theorem eRChg18_ok:EntOk Tryz.prog eRChg18:=ent2_ok (fnB Tryz.func43 (by decide) rfl) fun n t h=>rchange_fn n t (h _ (by simp))
def chA:Change:=⟨1,4⟩
theorem chg_early:(chgC el2.n chA).2=171:=by kernel_rfl
theorem chg_done:(chgC el3.n chA).2=0:=by kernel_rfl
theorem chg_peers:(chgC el3.n chA).1.n.peers.length=3:=by kernel_rfl
noncomputable def tabCy:List Ent:=[eElected,eHearA,eChg18]
theorem tabCy_ok:∀ e∈tabCy,EntOk Tryz.prog e:=tab_cons eElected_ok (tab_cons eHearA_ok (tab_cons eChg18_ok tab_nil))
theorem changes_fn:FnC Tryz.prog 44 [] (.bool true) D2:=by
 refine FnG.of_vc (fitsT tabCy_ok fun _=>none) Tryz.func44 rfl (by decide) rfl 300 (p:=fun (V:List PE→Prop)=>let v0:=Step.n el2;let v1:=stepZ v0;let v2:=(2:Int);let v3:=(0:Int);let v4:=(6:Int);let v5:=Change.mk (1:Int) (4:Int);let v6:=pickB true (Prod.snd (chgC v0 v5)==(171:Int)) false;let v7:=Message.mk v4 v2 (1:Int) v2 v2 v3 [] v3 v3 true (Snap.mk v3 v3 (Config.mk [] []) (ByteArray.mk #[])) v3 v3 (ByteArray.mk #[]);let v8:=hearAC v0 v7;let v9:=Step.n (Prod.fst v8);let v10:=chgC v9 v5;let v11:=pickB v6 (Prod.snd v8==v3) false;let v12:=pickB v11 (Prod.snd v10==v3) false;True∧True∧(Few (50000:Nat) v1∧True)∧(Few (20000:Nat) v1∧SmallM v7∧(v4=v2∨v4=(4:Int)∨v4=v4)∧True)∧(Few (50000:Nat) (stepZ v9)∧True)∧((true=true→true=true)∧(true=true→true=true)∧(v6=true→v6=true)∧(v6=true→v6=true)∧(v11=true→v11=true)∧(v11=true→v11=true)∧(v12=true→v12=true)∧(v12=true→v12=true)∧(v12=true→v12=true)∧(v12=true→v12=true)∧True)∧pickB v12 ((↑(List.length (Node.peers (Step.n (Prod.fst v10)))):Int)==(3:Int)) false=true∧True) (by kernel_rfl) ?_
 simp only [imp_self,implies_true,true_and,and_true,pickB_f,pickB_t]
 rw [el3_hear]
 dsimp only
 refine ⟨(fewB_ok el_few.2.2).z,⟨(fewB2_ok el_few.2.2).z,smallM0 _ _ _ _ _ _ _ _ _ _ _ _,.inr (.inr trivial)⟩,(fewB_ok el3_facts.2.1).z,?_⟩
 show (true&&(chgC el2.n chA).2==(171:Int)&&(0:Int)==(0:Int)&&(chgC el3.n chA).2==(0:Int)&&((chgC el3.n chA).1.n.peers.length:Int)==(3:Int))=true
 rw [chg_early,chg_done,chg_peers]
 rfl
def eChanges:Ent:=ent0 44 ([],.bool true,D2)
theorem eChanges_ok:EntOk Tryz.prog eChanges:=ent0_ok changes_fn.1 fun _=>changes_fn
noncomputable def tabDy:List Ent:=[eLarge,eROwnF,eChg18,eRChg18,eChanges]
theorem tabDy_ok:∀ e∈tabDy,EntOk Tryz.prog e:=tab_cons eLarge_ok (tab_cons eROwnF_ok (tab_cons eChg18_ok (tab_cons eRChg18_ok (tab_cons eChanges_ok tab_nil))))
theorem raftChanges_fn (n:Node) (c:Change):FnC Tryz.prog 9 [dNode.can n,dChange.can c] (.bool true) D2:=by
 refine FnG.of_vc_tail (fitsU tabDy_ok wtab_nil ttabD_ok fun _=>none) Tryz.func9 rfl (by decide) (by kernel_rfl) rfl 300 27 (p:=fun (V:List PE→Prop)=>let v0:=(0:Int);let v1:=Prod.fst (chgC n c);let v2:=Prod.snd (chgC n c);let v3:=v1.o;let v4:=v1.n;let v5:=largeN n (Message.mk v0 v0 v0 v0 v0 v0 [] v0 v0 false (Snap.mk v0 v0 (Config.mk [] []) (ByteArray.mk #[])) v0 v0 (ByteArray.mk #[]));True∧True∧True∧(v5=true→True∧true=true∧True)∧(v5=false→(SmallN n∧True)∧(Few (50000:Nat) (stepZ n)∧True)∧(Few (50000:Nat) (stepZ n)∧True)∧(true=true∧true=true∧true=true∧true=true∧true=true∧true=true∧true=true∧true=true∧True)∧true=true∧True∧pickB true (toldB v4 v3 v2 v4 v3 v2 n n) false=true∧True)) (by kernel_rfl) ?_
 simp only [imp_self,implies_true,true_and,and_true,pickB_f,pickB_t]
 intro h
 have hf:=(few_of h).mono (show 5000≤50000 by decide)
 refine ⟨hf.sn (by decide),hf,hf,?_⟩
 simp [toldB]
theorem den_change {w:World} {vs:List Value} {x:Change} (h:RdL w (fun b=>b<w.heap.size) Change.ty vs x.enc):DenV (E0 fun b=>b<w.heap.size) w (.agg (x.svs [0])) (.agg vs.toArray):=
 ⟨vs,rfl,Change.svs_of (h.mono fun b _ hb=>E0_set hb)⟩
theorem law_raftChanges (vs:List Value) (n:Node) (us:List Value) (c:Change) (w:World) (h:RdL w (fun b=>b<w.heap.size) Node.ty vs n.enc) (hc:RdL w (fun b=>b<w.heap.size) Change.ty us c.enc) :
  Calls Tryz.prog 9 #[.agg vs.toArray,.agg us.toArray] w fun e w'=>e = .returned (.bool true)∧Below w.heap.size w w' :=
 law_of_fn (raftChanges_fn n c) w (fun b=>b<w.heap.size) (fun _ hb=>hb) [.agg vs.toArray,.agg us.toArray] ⟨den_node h,den_change hc,trivial⟩
end Go.Proofs.YteabcgkjbnecaaaGreat
namespace Go.Proofs.YteabcgkjbnecaaaGreat
open Go.RowKit Go.ChangeShapes Go.WideShapes Go.Deep
def tiles (P:Program) (ts:List Ty) (ok:TypeId→List Ty→Bool):Nat→List Field→Bool
 | o,[]=>o==ts.length
 | o,f::fs=>f.offset==o&&ok f.type ((ts.drop o).take (P.cellsOf f.type))&&decide (o+P.cellsOf f.type≤ts.length)&&tiles P ts ok (o+P.cellsOf f.type) fs
def okTy (P : Program) : Nat → TypeId → List Ty → Bool
  | 0, _, _ => false
  | n + 1, t, ts => match P.underlying t with
    | some (.int k) => match ts with | [.int k'] => decide (k = k') | _ => false
    | some .bool => match ts with | [.bool] => true | _ => false
    | some .string => match ts with | [.str] => true | _ => false
    | some (.slice e) => match ts with | [.sl fs] => okTy P n e fs && P.cellsOf e == fs.length && decide (8 ≤ P.bytesOf e) && decide (0 < fs.length) | _ => false
    | some (.struct fs) => P.cellsOf t == ts.length && tiles P ts (okTy P n) 0 fs.toList
    | _ => false
theorem RdL.append {w:World} {S:Nat→Prop}:∀ {ts us:List Ty} {vs xs:List Value} {ds es:List D},RdL w S ts vs ds→RdL w S us xs es→RdL w S (ts++us) (vs++xs) (ds++es)
 | [],_,[],_,[],_,_,h=>h
 | _::ts,_,_::vs,_,_::ds,_,h,k=>⟨h.1,RdL.append (ts:=ts) (vs:=vs) (ds:=ds) h.2 k⟩
 | _::_,_,[],_,_,_,h,_=>h.elim
 | _::_,_,_::_,_,[],_,h,_=>h.elim
 | [],_,_::_,_,_,_,h,_=>h.elim
 | [],_,[],_,_::_,_,h,_=>h.elim
section
variable {H : Type} {enc : TypeId × Value → H} {P : Program} {w : World} {base : Nat} {spare : Nat → Bool} {held : Bool}
def Light (P:Program) (t:TypeId) (d:DataW H):Prop:=∀ n∈d.weights P t,n≤reachBytes
theorem tiles_rd (ok : TypeId → List Ty → Bool) (ts : List Ty) (cs : List Value) (hcl : cs.length = ts.length) : ∀ (fs : List Field) (o : Nat), o ≤ ts.length → tiles P ts ok o fs = true →
    (∀ f ∈ fs, ∀ us, ok f.type us = true → ∃ ds, RdL w (fun b => b < w.heap.size) us ((cs.drop f.offset).take (P.cellsOf f.type)) ds) →
    ∃ ds, RdL w (fun b => b < w.heap.size) (ts.drop o) (cs.drop o) ds
  | [], o, ho, h, _ => by
    simp only [tiles, beq_iff_eq] at h
    subst h
    rw [List.drop_length, List.drop_eq_nil_of_le (by omega)]
    exact ⟨[], trivial⟩
  | f :: fs, o, ho, h, hf => by
    simp only [tiles, Bool.and_eq_true, beq_iff_eq, decide_eq_true_eq] at h
    obtain ⟨⟨⟨rfl, h2⟩, h3⟩, h4⟩ := h
    obtain ⟨d1, k1⟩ := hf f (List.mem_cons_self ..) _ h2
    obtain ⟨d2, k2⟩ := tiles_rd ok ts cs hcl fs _ h3 h4 (fun g hg => hf g (List.mem_cons_of_mem _ hg))
    refine ⟨d1 ++ d2, ?_⟩
    have e1 : ts.drop f.offset = (ts.drop f.offset).take (P.cellsOf f.type) ++ ts.drop (f.offset + P.cellsOf f.type) := by
      rw [← List.drop_drop, List.take_append_drop]
    have e2 : cs.drop f.offset = (cs.drop f.offset).take (P.cellsOf f.type) ++ cs.drop (f.offset + P.cellsOf f.type) := by
      rw [← List.drop_drop, List.take_append_drop]
    rw [e1, e2]
    exact RdL.append k1 k2
theorem weights_all {e : TypeId} : ∀ {l : List (DataW H)} {d : DataW H}, d ∈ l → ∀ n ∈ d.weights P e, n ∈ DataW.weightsAll P e l
  | x :: l, d, hd, n, hn => by
    simp only [DataW.weightsAll, List.mem_append]
    rcases List.mem_cons.1 hd with h | h
    · subst h; exact .inl hn
    · exact .inr (weights_all h n hn)
theorem rd_of_trod : ∀ (n : Nat) (t : TypeId) (ts : List Ty) (fuel : Nat) (cs : List Value) (x : DataW H × List MemPlace), okTy P n t ts = true → DataW.trod enc P w base spare held fuel t cs = some x → Light P t x.1 → w.noneFrozen x.2 →
    ∃ ds, RdL w (fun b => b < w.heap.size) ts cs ds
  | 0, _, _, _, _, _, h, _, _, _ => by simp [okTy] at h
  | n + 1, t, ts, fuel, cs, x, h, ht, hw, hz => by
    unfold okTy at h
    split at h
    · rename_i k hu
      split at h
      · rename_i k'
        have hk : k = k' := of_decide_eq_true h
        subst hk
        obtain ⟨m, rfl, _, hm⟩ := DataW.trod_int hu ht
        exact ⟨[.int m], .int hm, trivial⟩
      · cases h
    · rename_i hu
      split at h
      · obtain ⟨b, rfl, _⟩ := DataW.trod_bool hu ht
        exact ⟨[.bool b], .bool, trivial⟩
      · cases h
    · rename_i hu
      split at h
      · obtain ⟨s, rfl, rfl, _⟩ := DataW.trod_string hu ht
        have := hw s.data.toList.length (by simp [DataW.weights])
        refine ⟨[.str s], .str ?_, trivial⟩
        have e : s.data.toList.length = s.size := by rw [Array.length_toList]; rfl
        rw [e] at this
        unfold reachBytes at this
        omega
      · cases h
    · rename_i e hu
      split at h
      · rename_i fs
        simp only [Bool.and_eq_true, beq_iff_eq, decide_eq_true_eq] at h
        obtain ⟨⟨⟨h1, h2⟩, h3⟩, h4⟩ := h
        rcases open_slice hu ht with ⟨rfl, _⟩ | ⟨a, len, cap, m, n', Dd, Pl, rfl, hb, hl, hm, hmm, hx, hi⟩
        · exact ⟨[.sl []], .emp (fun _ => rfl) (by simp [maxLen]), trivial⟩
        · have hlm : len ≤ m := by rw [hmm]; split <;> omega
          have hx1 : x.1 = .slice ((List.range len).map Dd) ((List.range (m - len)).map fun j => Dd (len + j)) := by rw [hx]
          have hbd : len * 8 ≤ reachBytes := by
            have := hw ((((List.range len).map Dd).length + ((List.range (m - len)).map fun j => Dd (len + j)).length) * P.bytesOf e) (by rw [hx1]; simp [DataW.weights, hu])
            simp only [List.length_map, List.length_range] at this
            exact Nat.le_trans (Nat.mul_le_mul (by omega) h3) this
          have each : ∀ i, i < len → ∃ cs' ds, w.cells? base (a.add (i * P.cellsOf e)) (P.cellsOf e) = some cs' ∧ RdL w (fun b => b < w.heap.size) fs cs' ds := by
            intro i hi'
            obtain ⟨cs', hc, htt⟩ := hi i (by omega)
            obtain ⟨ds, hd⟩ := rd_of_trod n e fs n' cs' _ h1 htt (fun q hq => hw q (by
              rw [hx1]
              simp only [DataW.weights, hu, List.mem_cons, List.mem_append]
              exact .inr (.inl (weights_all (List.mem_map.2 ⟨i, List.mem_range.2 hi', rfl⟩) q hq)))) (fun b off hp => hz b off (by
              rw [hx]
              exact List.mem_append.2 (.inr (List.mem_flatMap.2 ⟨i, List.mem_range.2 (by omega), hp⟩))))
            exact ⟨cs', ds, hc, hd⟩
          by_cases hp : 0 < len
          · let C : Nat → List Value := fun i => if hh : i < len then Classical.choose (each i hh) else []
            let DD : Nat → List D := fun i => if hh : i < len then Classical.choose (Classical.choose_spec (each i hh)) else []
            have hC : ∀ i, i < len → w.cells? base (a.add (i * P.cellsOf e)) (P.cellsOf e) = some (C i) ∧ RdL w (fun b => b < w.heap.size) fs (C i) (DD i) := by
              intro i hh
              simp only [C, DD, hh, dif_pos]
              exact Classical.choose_spec (Classical.choose_spec (each i hh))
            have hcell : ∀ i j, i < len → j < fs.length → w.cell? ((a.add (i * fs.length)).add j) = some ((C i).getD j undef) := by
              intro i j hi' hj
              obtain ⟨c1, c2⟩ := hC i hi'
              rw [h2] at c1
              obtain ⟨_, hcl, hat⟩ := World.cells?_some c1
              rw [hat j hj]
              simp [List.getD, List.getElem?_eq_getElem (show j < (C i).length by omega)]
            have h00 := hcell 0 0 hp h4
            obtain ⟨b, off, spot⟩ := a
            have hspot : spot = none := by simpa [Addr.add] using World.cell?_spot h00
            subst hspot
            have hblk : b < w.heap.size := by
              have := World.block_lt_of_cell? _ _ h00
              simpa [Addr.add] using this
            refine ⟨[.sl ((List.range len).map DD)], .row (fun i j => (C i).getD j undef) hp (by simp) hl hm (by unfold reachBytes at hbd; omega) hblk hblk (fun i j hi' hj => ?_) (fun i hi' => ?_) (fun i j hi' hj => ?_) (fun i j hi' hj => ?_), trivial⟩
            · have := hcell i j hi' hj
              rwa [WideShapes.add_plain, WideShapes.add_plain] at this
            · have := (hC i hi').2.lens.2
              simpa [List.getD, hi'] using this
            · have := (hC i hi').2.at j hj
              simpa [List.getD, hi'] using this
            · refine hz b _ ?_
              rw [hx]
              refine List.mem_append.2 (.inl ?_)
              unfold MemPlace.row
              refine List.mem_map.2 ⟨i * fs.length + j, List.mem_range.2 ?_, by rw [Nat.add_assoc]⟩
              rw [h2]
              have h5 : (i + 1) * fs.length ≤ m * fs.length := Nat.mul_le_mul_right _ (by omega)
              rw [Nat.add_mul] at h5; omega
          · have h0 : len = 0 := by omega
            subst h0
            exact ⟨[.sl []], .emp (fun hh => by cases hh) hm, trivial⟩
      · cases h
    · rename_i fs hu
      simp only [Bool.and_eq_true, beq_iff_eq] at h
      obtain ⟨h1, h2⟩ := h
      obtain ⟨xs, n', _, hx, hcl, hxl, hall⟩ := DataW.trod_struct hu ht
      have := tiles_rd (P := P) (w := w) (okTy P n) ts cs (by omega) fs.toList 0 (Nat.zero_le _) h2 (fun f hf us hus => by
        obtain ⟨i, hi⟩ := List.getElem?_of_mem hf
        rw [Array.getElem?_toList] at hi
        have hilt : i < fs.size := (Array.getElem?_eq_some_iff.1 hi).1
        have h3 := hall i f hi
        rw [List.getElem?_eq_getElem (show i < xs.length by omega)] at h3
        refine rd_of_trod n f.type us n' _ _ hus h3 (fun q hq => hw q ?_) (fun b off hp => hz b off (by
          rw [hx]
          exact List.mem_flatMap.2 ⟨_, List.getElem_mem (show i < xs.length by omega), hp⟩))
        rw [hx]
        simp only [DataW.weights, hu]
        refine DataW.weights_mem_each (j := i) (t := f.type) (d := xs[i].1) ?_ ?_ q hq
        · rw [List.getElem?_map, Array.getElem?_toList, hi]; rfl
        · rw [List.getElem?_map, List.getElem?_eq_getElem (show i < xs.length by omega)]; rfl)
      simpa using this
    · cases h
theorem rd_arg {t:TypeId} {ts:List Ty} {v:Value} {d:DataW H} {p:List MemPlace} (n:Nat) (hok:okTy P n t ts=true) (h:DataW.Trod enc P w base spare held t v d p) (hw:Light P t d) (hz:w.noneFrozen p):∃ ds,RdL w (fun b=>b<w.heap.size) ts v.cells.toList ds:=by
 obtain ⟨fuel,hf⟩:=h
 exact rd_of_trod n t ts fuel _ _ hok hf hw hz
theorem light_of {tys:List TypeId} {ds:List (DataW H)} (h:(DataW.weightsEach P tys ds).all (· ≤ reachBytes)=true) {j:Nat} {t:TypeId} {d:DataW H} (ht:tys[j]? = some t) (hd:ds[j]? = some d):Light P t d:=fun n hn=>by
 simpa using List.all_eq_true.1 h n (DataW.weights_mem_each ht hd n hn)
theorem agg_of {t:TypeId} {fs:Array Field} {v:Value} {r:Reach} {b0:Nat} (hs:P.underlying t=some (.struct fs)) (hv:Value.okWide P w r b0 t v):v = .agg v.cells.toList.toArray:=by
 obtain ⟨cs,rfl,_⟩:=okWide_struct hs hv
 rfl
end
end Go.Proofs.YteabcgkjbnecaaaGreat
