/- Parts of the proof, joined: the symbolic walk and what it is told of each function. Condition: as each theorem says. -/
import Derived.Test.YteabcgkjbnecaaaGreatRows
import Derived.WalkKit
import Derived.ProofKit
import Derived.OpenShut
import Derived.Lib.Hide
import Derived.Deep.QuietTactic
import Derived.BigQuiet
import Derived.Laws.CopyOwn
import Derived.WalkSpells
import Derived.Lib.SliceRun
import Derived.Shelf.Abstract
import Derived.Lib.AppendZeros
import Derived.Shelf.Sort.Plain
import Derived.Shelf.Slices.CompactI
import Derived.Shelf.Slices.In.SortNone
import Derived.Ground.SlsfProg
import Derived.Shelf.SlSortCmp.Whole1
import Derived.Shelf.SlSortCmp.NoneTotal
import Derived.Test.YteabcgkjbnecaaaGreatProg
import Derived.Sort.OwnSortedInts
import Derived.Lib.OwnBridge
import Derived.Laws.EntriesVeiled
import Derived.Stop.RegionWithIn
import Derived.Test.YteabcgkjbnecaaaGreatJy3
set_option linter.unusedVariables false
set_option linter.unusedSimpArgs false
set_option linter.unusedSectionVars false
namespace Go.Proofs.YteabcgkjbnecaaaGreat
open Go.RowKit Go.ChangeShapes Go.WideShapes Go.Deep
set_option maxRecDepth 100000
def zaw (c:Config):Prop:=c.voters.length≤1000000∧c.learners.length≤1000000
theorem zgV (c:Config) (hc:zaw c):FnC Tryz.prog 122 [dConfig.can c] (.agg (c.svs [1])) D2:=by
 refine FnG.of_vc (zah zc4 fun _=>none) Tryz.func122 rfl (by decide) rfl 300 (p:=fun (V:List PE→Prop)=>let v0:=c.learners;let v1:=c.voters;True∧True∧(((0:Nat)+v1.length)*(1024:Nat)≤140737488355328∧True)∧(((0:Nat)+v0.length)*(1024:Nat)≤140737488355328∧True)∧True∧v1=v1∧v1.length≤17592186044416∧v0=v0∧v0.length≤17592186044416∧True) (by kernel_rfl) ?_
 obtain ⟨h1,h2⟩:=hc
 simp
 omega
def zm9:Ent:=ent1 122 dConfig fun c=>([c.voters.length≤1000000,c.learners.length≤1000000],.agg (c.svs [1]),D2)
theorem zdJ:zae Tryz.prog zm9:=zan (zgV default (by unfold zaw;decide)).1 fun c h=>zgV c ⟨h _ (by simp),h _ (by simp)⟩
theorem zjf (x:Entry) (hc:zbA x):FnC Tryz.prog 52 [dEntry.can x] (.agg (x.svs [1])) D2:=by
 refine FnG.of_vc (zah (zaa zdJ zad) fun _=>none) Tryz.func52 rfl (by decide) rfl 300 (p:=fun (V:List PE→Prop)=>let v0:=x.config.learners;let v1:=x.config.voters;True∧(v1.length≤1000000∧v0.length≤1000000∧True)∧True∧x.index=x.index∧x.term=x.term∧x.kind=x.kind∧v1=v1∧v0=v0∧x.data=x.data∧True) (by kernel_rfl) ?_
 obtain ⟨h1,h2⟩:=hc
 simp
 omega
theorem zlP (x:Snap) (hc:zaw x.config):FnC Tryz.prog 51 [dSnap.can x] (.agg (x.svs [1])) D2:=by
 refine FnG.of_vc (zah (zaa zdJ zad) fun _=>none) Tryz.func51 rfl (by decide) rfl 300 (p:=fun (V:List PE→Prop)=>let v0:=x.config.learners;let v1:=x.config.voters;True∧(v1.length≤1000000∧v0.length≤1000000∧True)∧True∧x.index=x.index∧x.term=x.term∧v1=v1∧v0=v0∧x.data=x.data∧True) (by kernel_rfl) ?_
 obtain ⟨h1,h2⟩:=hc
 simp
 omega
def zir:Ent:=ent1 52 dEntry fun x=>([x.config.voters.length≤1000000,x.config.learners.length≤1000000],.agg (x.svs [1]),D2)
theorem zeH:zae Tryz.prog zir:=zan (zjf default (by unfold zbA;decide)).1 fun x h=>zjf x ⟨h _ (by simp),h _ (by simp)⟩
def zgl:Ent:=ent1 51 dSnap fun x=>([x.config.voters.length≤1000000,x.config.learners.length≤1000000],.agg (x.svs [1]),D2)
theorem zc3:zae Tryz.prog zgl:=zan (zlP default (by unfold zaw;decide)).1 fun x h=>zlP x ⟨h _ (by simp),h _ (by simp)⟩
def zaC (k:Kept):Prop:=zbS k.entries∧zaw k.snap.config
noncomputable def tabD:List Ent:=zir::zgl::zm9::tabC
theorem zcP:∀ e∈tabD,zae Tryz.prog e:=zaa zeH (zaa zc3 (zaa zdJ zfA))
theorem zoH (k:Kept) (hk:zaC k):FnC Tryz.prog 13 [dKept.can k] (.agg (k.svs [1])) D2:=by
 refine FnC.g1 dKept k (fnB Tryz.func13 (by decide) rfl) fun hkk=>?_
 refine FnG.of_vc (zah zcP fun _=>none) Tryz.func13 rfl (by decide) rfl 300 (p:=fun (V:List PE→Prop)=>let v0:=k.snap.config;True∧(v0.voters.length≤1000000∧v0.learners.length≤1000000∧True)∧True∧V []) (by kernel_rfl) ?_
 simp only [true_and,and_true]
 obtain ⟨⟨hk1,hk2⟩,hk3⟩:=hk
 refine ⟨hk3,?_⟩
 refine LoopG.head (zah zcP fun _=>none) 0 (A:=Nat) (fun j=>j≤k.entries.length) (fun j=>[(4,.int .i64 j)]) (fun j=>[(35,.cells 30 [.int .i64 k.term,.int .i64 k.vote,.int .i64 k.snap.index,.int .i64 k.snap.term,.sl [18] (.rInts k.snap.config.voters),.sl [18] (.rInts k.snap.config.learners),.str k.snap.data,.own 19]),(19,.row 89 [20] (.rEntry (k.entries.take j))),(20,.dead)]) (fun j=>k.entries.length-j) 0 (Nat.zero_le _) (p0:=let v0:=k.snap;let v1:=k.entries;let v2:=v0.data;let v4:=v0.term;let v5:=v0.index;let v6:=v0.config.voters;let v7:=v0.config.learners;(0:Int)=(↑(0:Nat):Int)∧k.term=k.term∧k.vote=k.vote∧v5=v5∧v4=v4∧v6=v6∧v7=v7∧v2=v2∧List.take (0:Nat) v1=[]∧(0:Int)=0∧(0:Int)=0∧(0:Int)=0∧(0:Int)=0∧ByteArray.mk #[]=ByteArray.mk #[]∧k.term=k.term∧k.vote=k.vote∧v5=v5∧v4=v4∧v6=v6∧v7=v7∧v2=v2∧v1=v1∧True) (by kernel_rfl) ?_ 300 (p:=fun (x:Nat) (V:List PE→Prop)=>let v0:=k.entries;let v1:=k.snap;let v3:=v1.config;let v8:=(↑x:Int);let v9:=List.take x v0;let v10:=(↑(v0.length):Int);let v12:=List.getD v0 x default;let v14:=decide (v8<v10);True∧True∧(v14=true→((0:Int)≤v8∧v8<v10∧v12.config.voters.length≤1000000∧v12.config.learners.length≤1000000∧(v9.length+List.length [v12])*(1024:Nat)≤140737488355328∧True)∧True∧V [PE.a])∧(v14=false→True∧k.term=k.term∧k.vote=k.vote∧v1.index=v1.index∧v1.term=v1.term∧v3.voters=v3.voters∧v3.learners=v3.learners∧v1.data=v1.data∧v9=v0∧v9.length≤17592186044416∧True)) (by intro x;kernel_rfl) ?_
 ·simp
 ·rintro j hj
  have hkl:=hkk.entries.1
  simp only [imp_self,implies_true,true_and,and_true,decide_eq_true_eq,decide_eq_false_iff_not]
  refine ⟨fun h6=>?_,fun h6=>?_⟩
  ·have hse:zbA (k.entries.getD j default):=hk2 _ (za4 (by omega))
   refine ⟨⟨by omega,by omega,hse.1,hse.2,by simp;omega⟩,?_⟩
   refine Back.mk (j+1) (by omega) (by omega) (p0:=let v0:=k.snap;let v1:=k.entries;let v2:=v0.data;let v4:=v0.term;let v5:=v0.index;let v6:=v0.config.voters;let v7:=v0.config.learners;IntKind.wrap IntKind.i64 ((↑j:Int)+(1:Int))=(↑(j+(1:Nat)):Int)∧k.term=k.term∧k.vote=k.vote∧v5=v5∧v4=v4∧v6=v6∧v7=v7∧v2=v2∧List.take j v1++[List.getD v1 j default]=List.take (j+(1:Nat)) v1∧(0:Int)=0∧(0:Int)=0∧(0:Int)=0∧(0:Int)=0∧ByteArray.mk #[]=ByteArray.mk #[]∧k.term=k.term∧k.vote=k.vote∧v5=v5∧v4=v4∧v6=v6∧v7=v7∧v2=v2∧v1=v1∧True) (by kernel_rfl) ?_
   simp only [true_and,and_true,za8 (i:=j) (by omega)]
   refine ⟨by omega,?_⟩
   rw [zam (d:=default) (by omega)]
  ·obtain rfl:j=k.entries.length:=by omega
   simp;omega
theorem zb7 {α:Type} {d:α} {a b:List α} (hl:a.length=b.length) (h:∀ i,i<a.length→a.getD i d=b.getD i d):a=b:=by
 apply List.ext_getElem hl
 intro i h1 h2
 have:=h i h1
 rwa [zbi h1,zbi h2] at this
theorem zlQ (a b:List Int):FnC Tryz.prog 187 [dInts.can a,dInts.can b] (.bool (decide (a=b))) D2:=by
 refine FnC.g2 dInts dInts a b (fnB Tryz.func187 (by decide) rfl) fun ha hb=>?_
 refine FnG.of_vc (zah zc4 fun _=>none) Tryz.func187 rfl (by decide) rfl 300 (p:=fun (V:List PE→Prop)=>let v0:=(↑(a.length):Int) != (↑(b.length):Int);True∧True∧True∧(v0=true→True∧false=decide (a=b)∧True)∧(v0=false→True∧V [PE.b])) (by kernel_rfl) ?_
 simp only [true_and,and_true,imp_self]
 refine ⟨fun h=>?_,fun h=>?_⟩
 ·have:a≠b:=fun e=>by subst e;simp at h
  simp [this]
 have hab:a.length=b.length:=by simp at h;omega
 refine LoopG.head (zah zc4 fun _=>none) 0 (A:=Nat) (fun j=>j≤a.length∧∀ i,i<j→a.getD i 0=b.getD i 0) (fun j=>[(5,.int .i64 j)]) (fun j=>[]) (fun j=>a.length-j) 0 ⟨Nat.zero_le _,fun i h=>absurd h (by omega)⟩ (p0:=(0:Int)=(↑(0:Nat):Int)∧a=a∧b=b∧True) (by kernel_rfl) ?_ 300 (p:=fun (x:Nat) (V:List PE→Prop)=>let v0:=(↑x:Int);let v1:=(↑(a.length):Int);let v2:=List.getD a x (0:Int) != List.getD b x (0:Int);let v3:=decide (v0<v1);True∧True∧(v3=true→((0:Int)≤v0∧v0<v1∧(0:Int)≤v0∧v0<(↑(b.length):Int)∧True)∧True∧(v2=true→True∧false=decide (a=b)∧True)∧(v2=false→True∧V [PE.a,PE.b]))∧(v3=false→True∧true=decide (a=b)∧True)) (by intro x;kernel_rfl) ?_
 ·simp
 ·rintro j ⟨hj,h0⟩
  have hkl:=ha.1
  simp only [imp_self,implies_true,true_and,and_true,decide_eq_true_eq,decide_eq_false_iff_not]
  refine ⟨fun h6=>⟨by omega,fun h7=>?_,fun h7=>?_⟩,fun h6=>?_⟩
  ·have:a≠b:=fun e=>by subst e;simp at h7
   simp [this]
  ·refine Back.mk (j+1) ⟨by omega,fun i hi=>?_⟩ (by omega) (p0:=IntKind.wrap IntKind.i64 ((↑j:Int)+(1:Int))=(↑(j+(1:Nat)):Int)∧a=a∧b=b∧True) (by kernel_rfl) ?_
   ·by_cases hij:i=j
    ·subst hij;simpa using h7
    ·exact h0 i (by omega)
   ·simp [za8 (i:=j) (by omega)]
  ·have:a=b:=zb7 hab fun i hi=>h0 i (by omega)
   simp [this]
def zu4:Ent:=ent2 187 dInts dInts fun a b=>([],.bool (decide (a=b)),D2)
theorem zq2:zae Tryz.prog zu4:=zar (zlQ [] []).1 fun a b _=>zlQ a b
def tabS1:List Ent:=[zu4]
theorem zrZ:∀ e∈tabS1,zae Tryz.prog e:=zaa zq2 zad
theorem Config.eq_iff {a b:Config}:a=b↔a.voters=b.voters∧a.learners=b.learners:=by cases a;cases b;simp
theorem Entry.eq_iff {a b:Entry}:a=b↔a.index=b.index∧a.term=b.term∧a.kind=b.kind∧a.config=b.config∧a.data=b.data:=by cases a;cases b;simp
theorem Snap.eq_iff {a b:Snap}:a=b↔a.index=b.index∧a.term=b.term∧a.config=b.config∧a.data=b.data:=by cases a;cases b;simp
theorem Kept.eq_iff {a b:Kept}:a=b↔a.term=b.term∧a.vote=b.vote∧a.snap=b.snap∧a.entries=b.entries:=by cases a;cases b;simp
theorem Record.eq_iff {a b:Record}:a=b↔a.kind=b.kind∧a.term=b.term∧a.vote=b.vote∧a.entry=b.entry∧a.index=b.index∧a.snap=b.snap:=by cases a;cases b;simp
theorem zep {a b:ByteArray}:(a.toList==b.toList)=decide (a=b):=by
 by_cases h:a=b
 ·subst h;simp
 ·have:a.toList≠b.toList:=fun e=>h (WideShapes.bytes_inj (by rw [← ByteArray.toList_eq,← ByteArray.toList_eq];exact e))
  simp [h,this]
theorem zfK (a:Config) (b:Config):FnC Tryz.prog 136 [dConfig.can a,dConfig.can b] (.bool (decide (a=b))) D2:=by
 refine FnC.g2 dConfig dConfig a b (fnB Tryz.func136 (by decide) rfl) fun ha hb=>?_
 refine FnG.of_vc (zah zrZ fun _=>none) Tryz.func136 rfl (by decide) rfl 300 (p:=fun (V:List PE→Prop)=>let v2:=decide (a.voters=b.voters);True∧((v2=true→v2=true)∧(v2=true→v2=true)∧(v2=true→v2=true)∧(v2=true→v2=true)∧(v2=true→v2=true)∧True)∧zac v2 (decide (a.learners=b.learners)) false=decide (a=b)∧True) (by kernel_rfl) ?_
 simp only [imp_self,implies_true,true_and,and_true,zaf,zag,zep]
 first
  | (rw [Bool.eq_iff_iff];simp [Config.eq_iff,Entry.eq_iff,Snap.eq_iff,Record.eq_iff,and_assoc,and_comm,and_left_comm])
  | (refine ⟨by simp,?_⟩;rw [Bool.eq_iff_iff];simp [Config.eq_iff,Entry.eq_iff,Snap.eq_iff,Record.eq_iff,and_assoc,and_comm,and_left_comm])
def zkc:Ent:=ent2 136 dConfig dConfig fun a b=>([],.bool (decide (a=b)),D2)
theorem zkb:zae Tryz.prog zkc:=zar (zfK default default).1 fun a b _=>zfK a b
def tabS2:List Ent:=[zkc]
theorem zl5:∀ e∈tabS2,zae Tryz.prog e:=zaa zkb zad
theorem zfI (a:Entry) (b:Entry):FnC Tryz.prog 72 [dEntry.can a,dEntry.can b] (.bool (decide (a=b))) D2:=by
 refine FnC.g2 dEntry dEntry a b (fnB Tryz.func72 (by decide) rfl) fun ha hb=>?_
 refine FnG.of_vc (zah zl5 fun _=>none) Tryz.func72 rfl (by decide) rfl 300 (p:=fun (V:List PE→Prop)=>let v0:=a.index==b.index;let v1:=zac v0 (a.term==b.term) false;let v2:=zac v1 (a.kind==b.kind) false;let v3:=zac v2 (ByteArray.toList a.data==ByteArray.toList b.data) false;True∧((v0=true→v0=true)∧(v0=true→v0=true)∧(v0=true→v0=true)∧(v0=true→v0=true)∧(v0=true→v0=true)∧(v1=true→v1=true)∧(v1=true→v1=true)∧(v1=true→v1=true)∧(v1=true→v1=true)∧(v1=true→v1=true)∧(v2=true→v2=true)∧(v2=true→v2=true)∧(v2=true→v2=true)∧(v2=true→v2=true)∧(v2=true→v2=true)∧(v3=true→v3=true)∧(v3=true→v3=true)∧(v3=true→v3=true)∧(v3=true→v3=true)∧(v3=true→v3=true)∧True)∧zac v3 (decide (a.config=b.config)) false=decide (a=b)∧True) (by kernel_rfl) ?_
 simp only [imp_self,implies_true,true_and,and_true,zaf,zag,zep]
 first
  | (rw [Bool.eq_iff_iff];simp [Config.eq_iff,Entry.eq_iff,Snap.eq_iff,Record.eq_iff,and_assoc,and_comm,and_left_comm])
  | (refine ⟨by simp,?_⟩;rw [Bool.eq_iff_iff];simp [Config.eq_iff,Entry.eq_iff,Snap.eq_iff,Record.eq_iff,and_assoc,and_comm,and_left_comm])
def zgn:Ent:=ent2 72 dEntry dEntry fun a b=>([],.bool (decide (a=b)),D2)
theorem zeX:zae Tryz.prog zgn:=zar (zfI default default).1 fun a b _=>zfI a b
theorem ziR (a:Snap) (b:Snap):FnC Tryz.prog 71 [dSnap.can a,dSnap.can b] (.bool (decide (a=b))) D2:=by
 refine FnC.g2 dSnap dSnap a b (fnB Tryz.func71 (by decide) rfl) fun ha hb=>?_
 refine FnG.of_vc (zah zl5 fun _=>none) Tryz.func71 rfl (by decide) rfl 300 (p:=fun (V:List PE→Prop)=>let v0:=a.index==b.index;let v1:=zac v0 (a.term==b.term) false;let v2:=zac v1 (ByteArray.toList a.data==ByteArray.toList b.data) false;True∧((v0=true→v0=true)∧(v0=true→v0=true)∧(v0=true→v0=true)∧(v0=true→v0=true)∧(v0=true→v0=true)∧(v1=true→v1=true)∧(v1=true→v1=true)∧(v1=true→v1=true)∧(v1=true→v1=true)∧(v1=true→v1=true)∧(v2=true→v2=true)∧(v2=true→v2=true)∧(v2=true→v2=true)∧(v2=true→v2=true)∧(v2=true→v2=true)∧True)∧zac v2 (decide (a.config=b.config)) false=decide (a=b)∧True) (by kernel_rfl) ?_
 simp only [imp_self,implies_true,true_and,and_true,zaf,zag,zep]
 first
  | (rw [Bool.eq_iff_iff];simp [Config.eq_iff,Entry.eq_iff,Snap.eq_iff,Record.eq_iff,and_assoc,and_comm,and_left_comm])
  | (refine ⟨by simp,?_⟩;rw [Bool.eq_iff_iff];simp [Config.eq_iff,Entry.eq_iff,Snap.eq_iff,Record.eq_iff,and_assoc,and_comm,and_left_comm])
def zq0:Ent:=ent2 71 dSnap dSnap fun a b=>([],.bool (decide (a=b)),D2)
theorem zhk:zae Tryz.prog zq0:=zar (ziR default default).1 fun a b _=>ziR a b
def tabS3:List Ent:=[zgn,zq0]
theorem zhA:∀ e∈tabS3,zae Tryz.prog e:=zaa zeX (zaa zhk zad)
theorem zlS (a:Kept) (b:Kept):FnC Tryz.prog 23 [dKept.can a,dKept.can b] (.bool (decide (a=b))) D2:=by
 refine FnC.g2 dKept dKept a b (fnB Tryz.func23 (by decide) rfl) fun ha hb=>?_
 refine FnG.of_vc (zah zhA fun _=>none) Tryz.func23 rfl (by decide) rfl 300 (p:=fun (V:List PE→Prop)=>let v0:=a.term != b.term;let v1:=zac v0 true (a.vote != b.vote);let v2:=zac v1 true !decide (a.snap=b.snap);let v3:=zac v2 true ((↑(a.entries.length):Int) != (↑(b.entries.length):Int));True∧(((!v0)=true→(!v0)=true)∧((!v0)=true→(!v0)=true)∧((!v0)=true→(!v0)=true)∧((!v0)=true→(!v0)=true)∧(v0=false→(!v0)=true)∧((!v1)=true→(!v1)=true)∧((!v1)=true→(!v1)=true)∧((!v1)=true→(!v1)=true)∧((!v1)=true→(!v1)=true)∧((!v1)=true→(!v1)=true)∧(v1=false→(!v1)=true)∧((!v2)=true→(!v2)=true)∧((!v2)=true→(!v2)=true)∧((!v2)=true→(!v2)=true)∧((!v2)=true→(!v2)=true)∧((!v2)=true→(!v2)=true)∧((!v2)=true→(!v2)=true)∧(v2=false→(!v2)=true)∧True)∧True∧(v3=true→True∧false=decide (a=b)∧True)∧(v3=false→True∧V [PE.b])) (by kernel_rfl) ?_
 simp only [imp_self,implies_true,true_and,and_true,zaf,zag]
 refine ⟨by simp,fun h=>?_,fun h=>?_⟩
 ·have:a≠b:=fun e=>by subst e;simp at h
  simp [this]
 have hh:((a.term=b.term∧a.vote=b.vote)∧a.snap=b.snap)∧(a.entries.length:Int)=b.entries.length:=by simpa using h
 obtain ⟨⟨⟨e1,e2⟩,e3⟩,e4⟩:=hh
 have hab:a.entries.length=b.entries.length:=by omega
 refine LoopG.head (zah zhA fun _=>none) 0 (A:=Nat) (fun j=>j≤a.entries.length∧∀ i,i<j→a.entries.getD i default=b.entries.getD i default) (fun j=>[(5,.int .i64 j)]) (fun j=>[]) (fun j=>a.entries.length-j) 0 ⟨Nat.zero_le _,fun i h=>absurd h (by omega)⟩ (p0:=let v0:=b.snap;let v1:=a.snap;let v3:=v0.config;let v9:=v1.config;(0:Int)=(↑(0:Nat):Int)∧b.term=b.term∧b.vote=b.vote∧v0.index=v0.index∧v0.term=v0.term∧v3.voters=v3.voters∧v3.learners=v3.learners∧v0.data=v0.data∧b.entries=b.entries∧a.term=a.term∧a.vote=a.vote∧v1.index=v1.index∧v1.term=v1.term∧v9.voters=v9.voters∧v9.learners=v9.learners∧v1.data=v1.data∧a.entries=a.entries∧True) (by kernel_rfl) ?_ 300 (p:=fun (x:Nat) (V:List PE→Prop)=>let v0:=(↑x:Int);let v1:=(↑(a.entries.length):Int);let v4:=decide (v0<v1);let v5:=!decide ((List.getD a.entries x default)=(List.getD b.entries x default));True∧True∧(v4=true→((0:Int)≤v0∧v0<v1∧(0:Int)≤v0∧v0<(↑(b.entries.length):Int)∧True)∧True∧(v5=true→True∧false=decide (a=b)∧True)∧(v5=false→True∧V [PE.a,PE.b]))∧(v4=false→True∧true=decide (a=b)∧True)) (by intro x;kernel_rfl) ?_
 ·simp
 ·rintro j ⟨hj,h0⟩
  have hkl:=ha.entries.1
  simp only [imp_self,implies_true,true_and,and_true,decide_eq_true_eq,decide_eq_false_iff_not]
  refine ⟨fun h6=>⟨by omega,fun h7=>?_,fun h7=>?_⟩,fun h6=>?_⟩
  ·have:a≠b:=fun e=>by subst e;simp at h7
   simp [this]
  ·refine Back.mk (j+1) ⟨by omega,fun i hi=>?_⟩ (by omega) (p0:=let v0:=b.snap;let v1:=a.snap;let v3:=v0.config;let v9:=v1.config;IntKind.wrap IntKind.i64 ((↑j:Int)+(1:Int))=(↑(j+(1:Nat)):Int)∧b.term=b.term∧b.vote=b.vote∧v0.index=v0.index∧v0.term=v0.term∧v3.voters=v3.voters∧v3.learners=v3.learners∧v0.data=v0.data∧b.entries=b.entries∧a.term=a.term∧a.vote=a.vote∧v1.index=v1.index∧v1.term=v1.term∧v9.voters=v9.voters∧v9.learners=v9.learners∧v1.data=v1.data∧a.entries=a.entries∧True) (by kernel_rfl) ?_
   ·by_cases hij:i=j
    ·subst hij;simpa using h7
    ·exact h0 i (by omega)
   ·simp [za8 (i:=j) (by omega)]
  ·have:a=b:=Kept.eq_iff.2 ⟨e1,e2,e3,zb7 hab fun i hi=>h0 i (by omega)⟩
   simp [this]
theorem zgL (a:Record) (b:Record):FnC Tryz.prog 193 [dRecord.can a,dRecord.can b] (.bool (decide (a=b))) D2:=by
 refine FnC.g2 dRecord dRecord a b (fnB Tryz.func193 (by decide) rfl) fun ha hb=>?_
 refine FnG.of_vc (zah zhA fun _=>none) Tryz.func193 rfl (by decide) rfl 300 (p:=fun (V:List PE→Prop)=>let v0:=a.kind==b.kind;let v1:=zac v0 (a.term==b.term) false;let v2:=zac v1 (a.vote==b.vote) false;let v3:=zac v2 (a.index==b.index) false;let v4:=zac v3 (decide (Record.entry a=Record.entry b)) false;True∧((v0=true→v0=true)∧(v0=true→v0=true)∧(v0=true→v0=true)∧(v0=true→v0=true)∧(v0=true→v0=true)∧(v1=true→v1=true)∧(v1=true→v1=true)∧(v1=true→v1=true)∧(v1=true→v1=true)∧(v1=true→v1=true)∧(v2=true→v2=true)∧(v2=true→v2=true)∧(v2=true→v2=true)∧(v2=true→v2=true)∧(v2=true→v2=true)∧(v3=true→v3=true)∧(v3=true→v3=true)∧(v3=true→v3=true)∧(v3=true→v3=true)∧(v3=true→v3=true)∧(v4=true→v4=true)∧(v4=true→v4=true)∧(v4=true→v4=true)∧(v4=true→v4=true)∧(v4=true→v4=true)∧True)∧zac v4 (decide (a.snap=b.snap)) false=decide (a=b)∧True) (by kernel_rfl) ?_
 simp only [imp_self,implies_true,true_and,and_true,zaf,zag,zep]
 first
  | (rw [Bool.eq_iff_iff];simp [Config.eq_iff,Entry.eq_iff,Snap.eq_iff,Record.eq_iff,and_assoc,and_comm,and_left_comm])
  | (refine ⟨by simp,?_⟩;rw [Bool.eq_iff_iff];simp [Config.eq_iff,Entry.eq_iff,Snap.eq_iff,Record.eq_iff,and_assoc,and_comm,and_left_comm])
def zm6:Ent:=ent2 193 dRecord dRecord fun a b=>([],.bool (decide (a=b)),D2)
theorem zkS:zae Tryz.prog zm6:=zar (zgL default default).1 fun a b _=>zgL a b
def tabS4:List Ent:=[zm6,zgn]
theorem zfi:∀ e∈tabS4,zae Tryz.prog e:=zaa zkS (zaa zeX zad)
theorem zfG (a:List Record) (b:List Record):FnC Tryz.prog 147 [dRecords.can a,dRecords.can b] (.bool (decide (a=b))) D2:=by
 refine FnC.g2 dRecords dRecords a b (fnB Tryz.func147 (by decide) rfl) fun ha hb=>?_
 refine FnG.of_vc (zah zfi fun _=>none) Tryz.func147 rfl (by decide) rfl 300 (p:=fun (V:List PE→Prop)=>let v0:=(↑(a.length):Int) != (↑(b.length):Int);True∧True∧True∧(v0=true→True∧false=decide (a=b)∧True)∧(v0=false→True∧V [PE.b])) (by kernel_rfl) ?_
 simp only [true_and,and_true,imp_self]
 refine ⟨fun h=>?_,fun h=>?_⟩
 ·have:a≠b:=fun e=>by subst e;simp at h
  simp [this]
 have hab:a.length=b.length:=by simp at h;omega
 refine LoopG.head (zah zfi fun _=>none) 0 (A:=Nat) (fun j=>j≤a.length∧∀ i,i<j→a.getD i default=b.getD i default) (fun j=>[(5,.int .i64 j)]) (fun j=>[]) (fun j=>a.length-j) 0 ⟨Nat.zero_le _,fun i h=>absurd h (by omega)⟩ (p0:=(0:Int)=(↑(0:Nat):Int)∧a=a∧b=b∧True) (by kernel_rfl) ?_ 300 (p:=fun (x:Nat) (V:List PE→Prop)=>let v0:=(↑x:Int);let v1:=(↑(a.length):Int);let v4:=decide (v0<v1);let v5:=!decide ((List.getD a x default)=(List.getD b x default));True∧True∧(v4=true→((0:Int)≤v0∧v0<v1∧(0:Int)≤v0∧v0<(↑(b.length):Int)∧True)∧True∧(v5=true→True∧false=decide (a=b)∧True)∧(v5=false→True∧V [PE.a,PE.b]))∧(v4=false→True∧true=decide (a=b)∧True)) (by intro x;kernel_rfl) ?_
 ·simp
 ·rintro j ⟨hj,h0⟩
  have hkl:=ha.1
  simp only [imp_self,implies_true,true_and,and_true,decide_eq_true_eq,decide_eq_false_iff_not]
  refine ⟨fun h6=>⟨by omega,fun h7=>?_,fun h7=>?_⟩,fun h6=>?_⟩
  ·have:a≠b:=fun e=>by subst e;simp at h7
   simp [this]
  ·refine Back.mk (j+1) ⟨by omega,fun i hi=>?_⟩ (by omega) (p0:=IntKind.wrap IntKind.i64 ((↑j:Int)+(1:Int))=(↑(j+(1:Nat)):Int)∧a=a∧b=b∧True) (by kernel_rfl) ?_
   ·by_cases hij:i=j
    ·subst hij;simpa using h7
    ·exact h0 i (by omega)
   ·simp [za8 (i:=j) (by omega)]
  ·have:a=b:=zb7 hab fun i hi=>h0 i (by omega)
   simp [this]
theorem zlT (a:List Entry) (b:List Entry):FnC Tryz.prog 97 [dEntrys.can a,dEntrys.can b] (.bool (decide (a=b))) D2:=by
 refine FnC.g2 dEntrys dEntrys a b (fnB Tryz.func97 (by decide) rfl) fun ha hb=>?_
 refine FnG.of_vc (zah zfi fun _=>none) Tryz.func97 rfl (by decide) rfl 300 (p:=fun (V:List PE→Prop)=>let v0:=(↑(a.length):Int) != (↑(b.length):Int);True∧True∧True∧(v0=true→True∧false=decide (a=b)∧True)∧(v0=false→True∧V [PE.b])) (by kernel_rfl) ?_
 simp only [true_and,and_true,imp_self]
 refine ⟨fun h=>?_,fun h=>?_⟩
 ·have:a≠b:=fun e=>by subst e;simp at h
  simp [this]
 have hab:a.length=b.length:=by simp at h;omega
 refine LoopG.head (zah zfi fun _=>none) 0 (A:=Nat) (fun j=>j≤a.length∧∀ i,i<j→a.getD i default=b.getD i default) (fun j=>[(5,.int .i64 j)]) (fun j=>[]) (fun j=>a.length-j) 0 ⟨Nat.zero_le _,fun i h=>absurd h (by omega)⟩ (p0:=(0:Int)=(↑(0:Nat):Int)∧a=a∧b=b∧True) (by kernel_rfl) ?_ 300 (p:=fun (x:Nat) (V:List PE→Prop)=>let v0:=(↑x:Int);let v1:=(↑(a.length):Int);let v4:=decide (v0<v1);let v5:=!decide ((List.getD a x default)=(List.getD b x default));True∧True∧(v4=true→((0:Int)≤v0∧v0<v1∧(0:Int)≤v0∧v0<(↑(b.length):Int)∧True)∧True∧(v5=true→True∧false=decide (a=b)∧True)∧(v5=false→True∧V [PE.a,PE.b]))∧(v4=false→True∧true=decide (a=b)∧True)) (by intro x;kernel_rfl) ?_
 ·simp
 ·rintro j ⟨hj,h0⟩
  have hkl:=ha.1
  simp only [imp_self,implies_true,true_and,and_true,decide_eq_true_eq,decide_eq_false_iff_not]
  refine ⟨fun h6=>⟨by omega,fun h7=>?_,fun h7=>?_⟩,fun h6=>?_⟩
  ·have:a≠b:=fun e=>by subst e;simp at h7
   simp [this]
  ·refine Back.mk (j+1) ⟨by omega,fun i hi=>?_⟩ (by omega) (p0:=IntKind.wrap IntKind.i64 ((↑j:Int)+(1:Int))=(↑(j+(1:Nat)):Int)∧a=a∧b=b∧True) (by kernel_rfl) ?_
   ·by_cases hij:i=j
    ·subst hij;simpa using h7
    ·exact h0 i (by omega)
   ·simp [za8 (i:=j) (by omega)]
  ·have:a=b:=zb7 hab fun i hi=>h0 i (by omega)
   simp [this]
end Go.Proofs.YteabcgkjbnecaaaGreat
namespace Go.Proofs.YteabcgkjbnecaaaGreat
open Go.RowKit
def el (xs:List Int) (i:Nat):Int:=xs.getD i 0
structure IntSl (w:World) (a:Option Addr) (n:Nat) (xs:List Int):Prop where
 len:xs.length=n
 mx:n≤9223372036854775807
 row:0<n→∃ b off,a=some ⟨b,off,none⟩∧b<w.heap.size∧∀ i,i<n→w.cell? ⟨b,off+i,none⟩=some (.int .i64 (el xs i))
 lo:∀ i,-9223372036854775808≤el xs i
 hi:∀ i,el xs i≤9223372036854775807
theorem IntSl.drewN {w:World} {a:Option Addr} {n:Nat} {xs:List Int} (h:IntSl w a n xs) (k:Nat):IntSl (w.drewN k) a n xs:=⟨h.len,h.mx,h.row,h.lo,h.hi⟩
theorem IntSl.below {w w':World} {a:Option Addr} {n:Nat} {xs:List Int} (h:IntSl w a n xs) (hb:Below w.heap.size w w'):IntSl w' a n xs:=
 ⟨h.len,h.mx,fun hp=>by
  obtain ⟨b,off,e,hlt,hc⟩:=h.row hp
  exact ⟨b,off,e,Nat.lt_of_lt_of_le hlt hb.size,fun i hi=>by rw [hb.cell (p:=⟨b,off+i,none⟩) hlt];exact hc i hi⟩,h.lo,h.hi⟩
theorem IntSl.alloc {w:World} {a:Option Addr} {n:Nat} {xs:List Int} (h:IntSl w a n xs) (o:Obj):IntSl (w.alloc o) a n xs:=
 h.below ((Below.refl _ _).alloc (Nat.le_refl _) o)
theorem IntSl.nil (w:World):IntSl w none 0 []:=
 ⟨rfl,by omega,fun h=>absurd h (by omega),fun i=>by simp [el],fun i=>by simp [el]⟩
theorem IntSl.lit (w:World) (xs:List Int) (t:TypeId) (hm:xs.length≤9223372036854775807) (h:∀ x∈xs,-9223372036854775808≤x∧x≤9223372036854775807) :
  IntSl (w.alloc (.cells (xs.map (Value.int .i64)).toArray t)) (some ⟨w.heap.size,0,none⟩) xs.length xs:=by
 have hr:∀ i,-9223372036854775808≤el xs i∧el xs i≤9223372036854775807:=by
  intro i
  by_cases hi:i<xs.length
  ·have:el xs i=xs[i]:=by simp [el,hi]
   rw [this];exact h _ (List.getElem_mem hi)
  ·have:el xs i=0:=by simp [el,List.getElem?_eq_none (Nat.not_lt.1 hi)]
   rw [this];omega
 refine ⟨rfl,hm,fun _=>⟨w.heap.size,0,rfl,by simp,fun i hi=>?_⟩,fun i=>(hr i).1,fun i=>(hr i).2⟩
 have e:el xs i=xs[i]:=by simp [el,hi]
 rw [e,Nat.zero_add,World.cell?_alloc_at _ _ _ _ rfl]
 simp [hi]
def Dr (w w':World):Prop:=∃ q,w'=w.drewN q
theorem Dr.refl (w:World):Dr w w:=⟨0,rfl⟩
theorem Dr.drewN {w w':World} (h:Dr w w') (n:Nat):Dr w (w'.drewN n):=by
 obtain ⟨q,rfl⟩:=h;exact ⟨q+n,by simp [World.drewN,Nat.add_assoc]⟩
theorem Dr.nn (w:World) (a b:Nat):Dr w ((w.drewN a).drewN b):=Dr.drewN ⟨a,rfl⟩ b
theorem Dr.below {w w':World} (h:Dr w w') (B:Nat):Below B w w':=by
 obtain ⟨q,rfl⟩:=h;exact ⟨rfl,rfl,rfl,Nat.le_refl _,fun _ _=>rfl⟩
theorem zqj (zs:List Int) (i:Nat):el zs i∈zs∨el zs i=0:=by
 by_cases h:i<zs.length
 ·left;simp [el,h]
 ·right;simp [el,List.getElem?_eq_none (Nat.not_lt.1 h)]
def zhH (xs:List Int) (k:Nat):Prop:=∀ i,i+1<k→el xs i<el xs (i+1)
noncomputable def isB (xs:List Int):Bool:=by classical exact decide (zhH xs xs.length∧xs.length≤16)
theorem zkH {xs:List Int}:isB xs=true↔zhH xs xs.length∧xs.length≤16:=by simp [isB]
theorem zus {xs:List Int} {k:Nat} (hk:k+1<xs.length) (h:el xs (k+1)≤el xs k):isB xs=false:=by
 rw [← Bool.not_eq_true,zkH];intro h';have:=h'.1 k hk;omega
theorem zkG {xs:List Int} {n k:Nat} (hn:xs.length=n) (h:zhH xs k) (hk:n≤k):isB xs=decide ((n:Int)≤16):=by
 rw [Bool.eq_iff_iff,zkH,decide_eq_true_eq]
 constructor
 ·intro h';omega
 ·intro h';exact ⟨fun i hi=>h i (by omega),by omega⟩
theorem zgQ {xs:List Int} {k:Nat} (h:zhH xs (k+1)) (hv:el xs k<el xs (k+1)):zhH xs (k+2):=by
 intro i hi
 by_cases e:i=k
 ·subst e;exact hv
 ·exact h i (by omega)
theorem zc0 (a:Option Addr) (n c:Nat) (xs:List Int) (w:World) (ha:IntSl w a n xs) :
  Calls Tryz.prog 58 #[.slice a n c] w fun e w'=>e = .returned (.bool (isB xs))∧Dr w w':=by
 have hm:=ha.mx
 by_cases h0:n≤1
 ·have hr:=zkG ha.len (k:=n) (fun i hi=>by omega) (Nat.le_refl _)
  have ht:decide ((n:Int)≤16)=true:=by simp;omega
  have HR:=Lib.hid (hr.trans ht)
  clear hr ht
  rcases (show n=0∨n=1 by omega) with rfl | rfl
  all_goals
   go_enter Tryz.func58,Tryz.ntmps58
   go_wp2
   refine wp_loop_rounds 1 ?_
   rw [rounds_succ]
   go_wp2
   go_ret
   exact ⟨by rw [HR.out];rfl,Dr.refl _⟩
 ·have h1:(2:Int)≤(n:Int):=by omega
  go_enter Tryz.func58,Tryz.ntmps58
  go_wp2
  go_loopw [8] (fun i wr=>∃ k:Nat,k≤n-1∧i = .int .i64 k∧zhH xs (k+1)∧Dr w wr) (fun i _=>n-1-(intOf i).toNat)
  case atStart=>exact ⟨0,Nat.zero_le _,rfl,fun i h=>absurd h (by omega),Dr.refl _⟩
  case round=>
   obtain ⟨k,hk,rfl,hq,q,rfl⟩:=hrel
   by_cases hlt:k<n-1
   ·obtain ⟨ba,oa,rfl,_,hca⟩:=ha.row (by omega)
    have ca:=hca k (by omega)
    have cb:=hca (k+1) (by omega)
    have k0:(0:Int)≤(k:Int):=by omega
    have k1:(k:Int)<(n:Int)-1:=by omega
    have k2:(k:Int)+1<(n:Int):=by omega
    have l1:=ha.lo k
    have l2:=ha.hi k
    clear hca
    by_cases hv:el xs k<el xs (k+1)
    ·have hv':=Lib.hid hv
     have t:¬ el xs (k+1)≤el xs k:=by omega
     go_wp2
     go_quiet (fail)
     go_wp2
     go_roundw
     case rel=>exact ⟨k+1,by omega,by go_num,zgQ hq hv'.out,⟨_,rfl⟩⟩
     case measure=>simp [intOf];omega
    ·have hr:=Lib.hid (zus (xs:=xs) (k:=k) (by rw [ha.len];omega) (by omega))
     have t:el xs (k+1)≤el xs k:=by omega
     go_wp2
     go_quiet (fail)
     go_wp2
     go_ret
     exact ⟨by rw [hr.out];rfl,by first | exact ⟨_,rfl⟩ | exact Dr.nn _ _ _⟩
   ·have hr:=Lib.hid (zkG ha.len hq (by omega))
    have k1:¬ (k:Int)<(n:Int)-1:=by omega
    go_wp2
    all_goals
     go_ret
     refine ⟨?_,by first | exact ⟨_,rfl⟩ | exact Dr.nn _ _ _⟩
     rw [hr.out]
     rfl
theorem zhI (a:Option Addr) (n c:Nat) (xs:List Int) (w:World) (ha:IntSl w a n xs) :
  Calls Tryz.prog 65 #[.slice a n c] w fun e w'=>e = .returned (.bool (isB xs))∧Dr w w':=by
 have hm:=ha.mx
 go_enter Tryz.func65,Tryz.ntmps65
 go_wp2
 go_loopw [3] (fun i wr=>∃ k:Nat,k≤n∧i = .int .i64 ((k:Int)+1)∧zhH xs (k+1)∧Dr w wr) (fun i _=>n+1-(intOf i).toNat)
 case atStart=>exact ⟨0,Nat.zero_le _,rfl,fun i h=>absurd h (by omega),Dr.refl _⟩
 case round=>
  obtain ⟨k,hk,rfl,hq,q,rfl⟩:=hrel
  by_cases hlt:k+1<n
  ·obtain ⟨ba,oa,rfl,_,hca⟩:=ha.row (by omega)
   have ca:=hca k (by omega)
   have cb:=hca (k+1) (by omega)
   have k0:(0:Int)≤(k:Int):=by omega
   have k1:(k:Int)<(n:Int)-1:=by omega
   have k2:(k:Int)+1<(n:Int):=by omega
   have k3:(k:Int)<(n:Int):=by omega
   clear hca
   by_cases hv:el xs k<el xs (k+1)
   ·have hv':=Lib.hid hv
    have t:¬ el xs (k+1)≤el xs k:=by omega
    go_wp2
    go_quiet (fail)
    go_wp2
    go_roundw
    case rel=>exact ⟨k+1,by omega,by go_num,zgQ hq hv'.out,⟨_,rfl⟩⟩
    case measure=>simp [intOf];omega
   ·have hr:=Lib.hid (zus (xs:=xs) (k:=k) (by rw [ha.len];omega) (by omega))
    have t:el xs (k+1)≤el xs k:=by omega
    go_wp2
    go_quiet (fail)
    go_wp2
    go_ret
    exact ⟨by rw [hr.out];rfl,by first | exact ⟨_,rfl⟩ | exact Dr.nn _ _ _⟩
  ·have hr:=Lib.hid (zkG ha.len hq (by omega))
   have k1:¬ (k:Int)+1<(n:Int):=by omega
   go_wp2
   all_goals
    go_ret
    refine ⟨?_,by first | exact ⟨_,rfl⟩ | exact Dr.nn _ _ _⟩
    rw [hr.out]
    rfl
def hasB (xs:List Int) (v:Int):Bool:=decide (v∈xs)
theorem zmv {xs:List Int} {v:Int} {k:Nat} (hk:k<xs.length) (h:el xs k=v):hasB xs v=true:=by
 simp only [hasB,decide_eq_true_eq]
 have:el xs k=xs[k]:=by simp [el,hk]
 rw [← h,this];exact List.getElem_mem hk
theorem zpR {xs:List Int} {v:Int} {n:Nat} (hn:xs.length=n) (h:∀ i,i<n→el xs i≠v):hasB xs v=false:=by
 simp only [hasB,decide_eq_false_iff_not]
 intro hm
 obtain ⟨i,hi,e⟩:=List.mem_iff_getElem.1 hm
 exact h i (by omega) (by rw [← e];simp [el,hi])
theorem zhJ (a:Option Addr) (n c:Nat) (xs:List Int) (v:Int) (w:World) (ha:IntSl w a n xs) :
  Calls Tryz.prog 172 #[.slice a n c,.int .i64 v] w fun e w'=>e = .returned (.bool (hasB xs v))∧w=w':=by
 have hm:=ha.mx
 go_enter Tryz.func172,Tryz.ntmps172
 go_wp2
 go_loop [5] (fun i=>∃ k:Nat,k≤n∧i = .int .i64 k∧∀ i,i<k→el xs i≠v) (fun i=>n-(intOf i).toNat)
 case atStart=>exact ⟨0,Nat.zero_le _,rfl,fun i h=>absurd h (by omega)⟩
 case round=>
  obtain ⟨k,hk,rfl,hq⟩:=hrel
  have hq':=Lib.hid hq
  clear hq
  by_cases hlt:k<n
  ·obtain ⟨ba,oa,rfl,_,hca⟩:=ha.row (by omega)
   have ca:=hca k (by omega)
   have k0:(0:Int)≤(k:Int):=by omega
   have k1:(k:Int)<(n:Int):=by omega
   clear hca
   by_cases hv:el xs k=v
   ·have t:(el xs k==v)=true:=by simp [hv]
    have hr:=Lib.hid (zmv (by rw [ha.len];exact hlt) hv)
    clear hv
    go_wp2
    go_ret
    exact ⟨by rw [hr.out];rfl,rfl⟩
   ·have t:(el xs k==v)=false:=by simp [hv]
    have hv':=Lib.hid hv
    clear hv
    go_wp2
    go_round
    case rel=>exact ⟨k+1,by omega,by go_num,fun i hi=>if e:i=k then by subst e;exact hv'.out else hq'.out i (by omega)⟩
    case measure=>simp [intOf];omega
  ·have hr:=Lib.hid (zpR ha.len (fun i hi=>hq'.out i (by omega)))
   have k1:¬ (k:Int)<(n:Int):=by omega
   go_wp2
   go_ret
   exact ⟨by rw [hr.out];rfl,rfl⟩
def idxI (xs:List Int) (v:Int):Int:=if hasB xs v then (xs.findIdx (fun x=>x==v):Nat) else -1
theorem zvF (xs:List Int) (v:Int):decide (0≤idxI xs v)=hasB xs v:=by
 unfold idxI
 cases hasB xs v<;>simp
theorem zvG {xs:List Int} {v:Int} {k:Nat} (hk:k<xs.length) (h:el xs k=v) (hq:∀ i,i<k→el xs i≠v):idxI xs v=k:=by
 have e:xs.findIdx (fun x=>x==v)=k:=by
  rw [List.findIdx_eq hk]
  refine ⟨?_,fun j hj=>?_⟩
  ·rw [← h];simp [el,hk]
  ·have:=hq j hj
   have hj':j<xs.length:=by omega
   simpa [el,hj'] using this
 simp [idxI,zmv hk h,e]
theorem zpJ {xs:List Int} {v:Int} {n:Nat} (hn:xs.length=n) (h:∀ i,i<n→el xs i≠v):idxI xs v = -1:=by
 simp [idxI,zpR hn h]
theorem zpF (a:Option Addr) (n c:Nat) (xs:List Int) (v:Int) (w:World) (ha:IntSl w a n xs) :
  Calls Tryz.prog 222 #[.slice a n c,.int .i64 v] w fun e w'=>e = .returned (.int .i64 (idxI xs v))∧w=w':=by
 have hm:=ha.mx
 go_enter Tryz.func222,Tryz.ntmps222
 go_wp2
 go_loop [8] (fun i=>∃ k:Nat,k≤n∧i = .int .i64 k∧∀ i,i<k→el xs i≠v) (fun i=>n-(intOf i).toNat)
 case atStart=>exact ⟨0,Nat.zero_le _,rfl,fun i h=>absurd h (by omega)⟩
 case round=>
  obtain ⟨k,hk,rfl,hq⟩:=hrel
  have hq':=Lib.hid hq
  clear hq
  by_cases hlt:k<n
  ·obtain ⟨ba,oa,rfl,_,hca⟩:=ha.row (by omega)
   have ca:=hca k (by omega)
   have k0:(0:Int)≤(k:Int):=by omega
   have k1:(k:Int)<(n:Int):=by omega
   clear hca
   by_cases hv:el xs k=v
   ·have t:(v==el xs k)=true:=by simp [hv]
    have hr:=Lib.hid (zvG (by rw [ha.len];exact hlt) hv hq'.out)
    clear hv
    go_wp2
    go_ret
    exact ⟨by rw [hr.out];rfl,rfl⟩
   ·have t:(v==el xs k)=false:=by simp;exact fun e=>hv e.symm
    have hv':=Lib.hid hv
    clear hv
    go_wp2
    go_round
    case rel=>exact ⟨k+1,by omega,by go_num,fun i hi=>if e:i=k then by subst e;exact hv'.out else hq'.out i (by omega)⟩
    case measure=>simp [intOf];omega
  ·have hr:=Lib.hid (zpJ ha.len (fun i hi=>hq'.out i (by omega)))
   have k1:¬ (k:Int)<(n:Int):=by omega
   go_wp2
   go_ret
   exact ⟨by rw [hr.out];rfl,rfl⟩
theorem zkl (a:Option Addr) (n c:Nat) (xs:List Int) (v:Int) (w:World) (ha:IntSl w a n xs) :
  Calls Tryz.prog 213 #[.slice a n c,.int .i64 v] w fun e w'=>e = .returned (.bool (hasB xs v))∧w=w':=by
 rw [← zvF]
 go_enter Tryz.func213,Tryz.ntmps213
 go_wp2_with fail
 refine (zpF _ _ _ _ _ _ ha).mono ?_
 rintro e w' ⟨rfl,rfl⟩
 go_wp2
 go_ret
 exact ⟨rfl,rfl⟩
theorem zpP (a:Option Addr) (n c:Nat) (xs:List Int) (v:Int) (w:World) (ha:IntSl w a n xs) :
  Calls Tryz.prog 189 #[.slice a n c,.int .i64 v] w fun e w'=>e = .returned (.bool (hasB xs v))∧w=w':=by
 go_enter Tryz.func189,Tryz.ntmps189
 go_wp2_with fail
 refine (zkl _ _ _ _ _ _ ha).mono ?_
 rintro e w' ⟨rfl,rfl⟩
 go_wp2
 go_ret
 exact ⟨rfl,rfl⟩
theorem zhZ:(Tryz.prog.info? 3).map (fun i=>(i.zero,i.size,i.bytes))=some (some (.int .i64 0),1,8):=by kernel_rfl
theorem zvw (xs:List Int):∀ v∈xs.map (Value.int .i64),v.oneCell'=true:=by
 intro v hv;obtain ⟨x,_,rfl⟩:=List.mem_map.1 hv;rfl
theorem zsw {w:World} {b off n:Nat} {xs:List Int} (hl:xs.length=n) (h:∀ i,i<n→w.cell? ⟨b,off+i,none⟩=some (.int .i64 (el xs i))) :
  ∀ j v,(xs.map (Value.int .i64))[j]? = some v→w.cell? ((⟨b,off,none⟩:Addr).add j)=some v:=by
 intro j v hj
 rw [List.getElem?_map] at hj
 by_cases h2:j<xs.length
 ·rw [List.getElem?_eq_getElem h2] at hj
  simp only [Option.map_some,Option.some.injEq] at hj
  rw [WideShapes.add_plain,h j (by omega),← hj]
  simp [el,h2]
 ·rw [List.getElem?_eq_none (by omega)] at hj;simp at hj
theorem zhG {w:World} {g:Nat} {t:TypeId} {l:List Value} (h:w.heap[g]? = some (.cells l.toArray t (0,0))) {i:Nat} {v:Value} (hv:l[i]? = some v):w.cell? ⟨g,i,none⟩=some v:=by
 simp [World.cell?,h,hv]
theorem zgM {w:World} {g:Nat} {t:TypeId} {l:List Value} (h:w.heap[g]? = some (.cells l.toArray t (0,0))) (i:Nat):w.frozen? ⟨g,i,none⟩=false:=by
 simp [World.frozen?,h]
theorem zoI {w:World} {g:Nat} {t:TypeId} {l:List Value} (h:w.heap[g]? = some (.cells l.toArray t (0,0))) (i:Nat) (v:Value):(w.setCell ⟨g,i,none⟩ v).heap[g]? = some (.cells (l.set i v).toArray t (0,0)):=by
 simp [World.setCell,Array.getElem?_modify,h]
theorem IntSl.bd {w:World} {a:Option Addr} {n:Nat} {xs:List Int} (h:IntSl w a n xs):∀ x∈xs,-9223372036854775808≤x∧x≤9223372036854775807:=by
 intro x hx
 obtain ⟨i,hi,e⟩:=List.mem_iff_getElem.1 hx
 have h1:=h.lo i
 have h2:=h.hi i
 have:el xs i=x:=by rw [← e];simp [el,hi]
 rw [this] at h1 h2
 exact ⟨h1,h2⟩
theorem zgd {w w':World} {g:Nat} (h:w.grownBy w' (some g)) (i:Nat) (v:Value):w.grownBy (w'.setCell ⟨g,i,none⟩ v) (some g):=
 ⟨h.os,h.tape,h.output,by have:=h.size;simpa [World.setCell] using this,fun k hk hne=>by
  rw [Below.heap_setCell _ _ _ _ (fun e=>hne (by rw [e]))];exact h.block k hk hne⟩
theorem zsQ {w w':World} (h:w.grownBy w' none):Below w.heap.size w w':=(Below.refl _ _).grown h (Nat.le_refl _) (fun k h=>by cases h)
def OwnI (base:Nat) (w:World) (v:Value) (xs:List Int):Prop:=w.ownsRow base 3 1 v xs.length (xs.map (Value.int .i64))
theorem OwnI.nil (base:Nat) (w:World):OwnI base w (.slice none 0 0) []:=World.ownsRow_nil w base _ _
theorem OwnI.below {base B:Nat} {w w':World} {v:Value} {xs:List Int} (h:OwnI base w v xs) (hb:Below B w w') (hB:w.heap.size≤B):OwnI base w' v xs:=by
 refine ⟨h.1,?_⟩
 rcases h.2 with h2 | ⟨g,cap,cur,hv,hg,hh,r⟩
 ·exact Or.inl h2
 ·exact Or.inr ⟨g,cap,cur,hv,hg,by rw [hb.block g (by have:=(Array.getElem?_eq_some_iff.1 hh).1;omega)];exact hh,r⟩
theorem OwnI.mono {base B:Nat} {w:World} {v:Value} {xs:List Int} (h:OwnI base w v xs) (hB:B≤base):OwnI B w v xs:=by
 refine ⟨h.1,?_⟩
 rcases h.2 with h2 | ⟨g,cap,cur,hv,hg,hh,r⟩
 ·exact Or.inl h2
 ·exact Or.inr ⟨g,cap,cur,hv,by omega,hh,r⟩
theorem OwnI.sl {base:Nat} {w:World} {v:Value} {xs:List Int} (h:OwnI base w v xs) (hb:∀ x∈xs,-9223372036854775808≤x∧x≤9223372036854775807) :
  ∃ a c,v = .slice a xs.length c∧IntSl w a xs.length xs:=by
 obtain ⟨h1,⟨rfl,hn⟩ | ⟨g,cap,cur,rfl,hg,hh,hl,hm,hs,ht⟩⟩:=h
 ·have hx:xs=[]:=List.eq_nil_of_length_eq_zero hn
  subst hx
  exact ⟨none,0,rfl,IntSl.nil w⟩
 ·have hr:∀ i,-9223372036854775808≤el xs i∧el xs i≤9223372036854775807:=by
   intro i
   rcases zqj xs i with hm | h0
   ·exact hb _ hm
   ·rw [h0];omega
  refine ⟨some ⟨g,0,none⟩,cap,rfl,rfl,by unfold maxLen at hm;omega,fun hp=>⟨g,0,rfl,(Array.getElem?_eq_some_iff.1 hh).1,fun i hi=>?_⟩,fun i=>(hr i).1,fun i=>(hr i).2⟩
  rw [Nat.zero_add]
  have e:(cur.toList.take (xs.length*1))[i]? = (xs.map (Value.int .i64))[i]? := by rw [ht]
  rw [List.getElem?_take,if_pos (by omega)] at e
  simp only [World.cell?,hh]
  rw [← Array.getElem?_toList,e]
  simp [el,hi]
theorem zvv (w:World) (x:Value) (t:TypeId):∀ j u,[x][j]? = some u→(w.alloc (.cells #[x] t)).cell? ((⟨w.heap.size,0,none⟩:Addr).add j)=some u:=by
 intro j u hj
 match j,hj with
 | 0,hj=>
  simp only [List.getElem?_cons_zero,Option.some.injEq] at hj
  subst hj
  rw [WideShapes.add_plain,World.cell?_alloc_at _ _ _ _ rfl];rfl
theorem zbD {ops:Array Oper} {rest:List Oper} {o:Oper} {a:Act} {Q:Exit→Act→World→Prop} {wr:World} (hgd:o.guard=none) (s x:Operand) (t:TypeId)
  (ho:o.op = .call {callee:= .builtin .append,args:= #[s,x],argTypes:= #[t,t]}) (ht:Tryz.prog.underlying t=some (.slice 3))
  (base:Nat) (v:Value) (xs:List Int) (hs:a.eval s=v) (hown:OwnI base wr v xs) (y:Int) (T:TypeId) (ad:Addr) (had:ad=⟨wr.heap.size,0,none⟩) (hx:a.eval x = .slice (some ad) 1 1)
  (hn:xs.length<8796093022208) (hbase:base≤wr.heap.size)
  (h:∀ v' w',OwnI base w' v' (xs++[y])→wr.grownBy w' v.ownBlock→wpList Tryz.prog ops Q rest (a.put o.dst v') w'):wpList Tryz.prog ops Q (o::rest) a (wr.alloc (.cells #[.int .i64 y] T)):=by
 obtain ⟨i0,hi,hz0,hz1,hz2⟩:=info_parts zhZ
 subst had
 refine wpList_append_own _ hgd s x t ho base 3 i0 (.int .i64 0) 1 8 ht hi hz0 hz1 hz2 rfl (by decide) v xs.length (xs.map (Value.int .i64)) hs (World.ownsRow.alloc hown _) ⟨wr.heap.size,0,none⟩ 1 1 [.int .i64 y] hx rfl (zvv _ _ _) (by simp [Value.oneCell']) (by unfold maxLen;omega) (by omega) (by simp;omega) ?_
 intro v' w' ho' hg' _
 refine h v' w' ?_ ?_
 ·show World.ownsRow _ _ _ _ _ _ _
  have e1:(xs++[y]).length=xs.length+1:=by simp
  have e2:(xs++[y]).map (Value.int .i64)=xs.map (Value.int .i64)++[.int .i64 y]:=by simp
  rw [e1,e2];exact ho'
 ·exact ⟨hg'.os,hg'.tape,hg'.output,by have:=hg'.size;simp at this;omega,fun k hk hne=>by rw [hg'.block k (by simp;omega) hne,Below.heap_alloc _ _ _ hk]⟩
theorem OwnI.bel {base:Nat} {w0 wr w':World} {v:Value} {xs:List Int} (h:OwnI base wr v xs) (hb:Below base w0 wr) (hg:wr.grownBy w' v.ownBlock) (hbase:base≤wr.heap.size):Below base w0 w' :=
 hb.grown hg hbase (fun k hk=>(World.ownsRow.lt h k hk).1)
theorem zd8 {ops:Array Oper} {rest:List Oper} {o:Oper} {a:Act} {Q:Exit→Act→World→Prop} {wr:World} (hgd:o.guard=none) (s x:Operand) (t:TypeId)
  (ho:o.op = .call {callee:= .builtin .append,args:= #[s,x],argTypes:= #[t,t]}) (ht:Tryz.prog.underlying t=some (.slice 3))
  (base:Nat) (v:Value) (xs:List Int) (hs:a.eval s=v) (hown:OwnI base wr v xs) (ad:Addr) (m c:Nat) (ys:List Int) (hsl:IntSl wr (some ad) m ys) (hx:a.eval x = .slice (some ad) m c)
  (hn:xs.length+m<8796093022208) (hbase:base≤wr.heap.size)
  (h:∀ v' w',OwnI base w' v' (xs++ys)→wr.grownBy w' v.ownBlock→wpList Tryz.prog ops Q rest (a.put o.dst v') w'):wpList Tryz.prog ops Q (o::rest) a wr:=by
 obtain ⟨i0,hi,hz0,hz1,hz2⟩:=info_parts zhZ
 refine wpList_append_own _ hgd s x t ho base 3 i0 (.int .i64 0) 1 8 ht hi hz0 hz1 hz2 rfl (by decide) v xs.length (xs.map (Value.int .i64)) hs hown ad m c (ys.map (Value.int .i64)) hx (by simp [hsl.len]) ?_ (zvw ys) (by unfold maxLen;omega) (by omega) hbase ?_
 ·by_cases hp:0<m
  ·obtain ⟨b,off,e,hlt,hc⟩:=hsl.row hp
   obtain rfl:ad=⟨b,off,none⟩:=by simpa using e
   exact zsw hsl.len hc
  ·intro j u hj
   have:ys=[]:=List.eq_nil_of_length_eq_zero (by rw [hsl.len];omega)
   subst this;simp at hj
 intro v' w' ho' hg' _
 refine h v' w' ?_ hg'
 show World.ownsRow _ _ _ _ _ _ _
 have e1:(xs++ys).length=xs.length+m:=by simp [hsl.len]
 have e2:(xs++ys).map (Value.int .i64)=xs.map (Value.int .i64)++ys.map (Value.int .i64):=by simp
 rw [e1,e2];exact ho'
def zdL (w:World) (l:List Int) (e:Ending) (w':World):Prop:=∃ v,e = .returned v∧OwnI w.heap.size w' v l∧Below w.heap.size w w'
theorem IntSl.none {w:World} {n:Nat} {xs:List Int} (h:IntSl w none n xs):n=0∧xs=[]:=by
 by_cases hp:0<n
 ·obtain ⟨b,off,e,_⟩:=h.row hp;cases e
 ·have:n=0:=by omega
  subst this
  exact ⟨rfl,List.eq_nil_of_length_eq_zero h.len⟩
theorem OwnI.empty (w:World) (t:TypeId) (ht:t=3):OwnI w.heap.size (w.alloc (.cells #[] t)) (.slice (some ⟨w.heap.size,0,Option.none⟩) 0 0) []:=by
 subst ht;exact World.ownsRow_made w #[] 0 (Nat.le_refl _) (by unfold maxLen;omega) rfl
theorem zrw (a:Option Addr) (n c:Nat) (xs:List Int) (w:World) (ha:IntSl w a n xs) (hn:n≤1099511627776) :
  Calls Tryz.prog 125 #[.slice a n c] w (zdL w xs):=by
 cases a with
 | none=>
  obtain ⟨rfl,rfl⟩:=ha.none
  have k1:=fun (w:World) (n c:Nat)=>Lib.run_eql_slice_nil (P:=Tryz.prog) w 23 3 none n c 0 0 Tryz.underlying23
  go_enter Tryz.func125,Tryz.ntmps125
  go_wp2
  go_ret
  exact ⟨_,rfl,OwnI.nil _ _,Below.refl _ _⟩
 | some ad=>
  have k1:=fun (w:World) (n c:Nat)=>Lib.run_eql_slice_nil (P:=Tryz.prog) w 23 3 (some ad) n c 0 0 Tryz.underlying23
  go_enter Tryz.func125,Tryz.ntmps125
  go_wp2_with (at_builtin;refine zd8 rfl (.tmp 5) (.tmp 6) 23 rfl Tryz.underlying23 w.heap.size _ [] rfl (OwnI.empty w _ rfl) ad n c xs (ha.alloc _) rfl (by simp;omega) (by simp) ?_;intro v1 w1 ho1 hg1;have HO1:=Lib.hid ho1;have HB1:=Lib.hid ((OwnI.empty w _ rfl).bel ((Below.refl _ _).alloc (Nat.le_refl _) _) hg1 (by simp));clear ho1 hg1)
  go_ret
  exact ⟨_,rfl,HO1.out,HB1.out⟩
theorem znW (a:Option Addr) (n c:Nat) (xs:List Int) (w:World) (ha:IntSl w a n xs) (hn:n≤1099511627776) :
  Calls Tryz.prog 203 #[.slice a n c] w (zdL w xs):=by
 cases a with
 | none=>
  obtain ⟨rfl,rfl⟩:=ha.none
  have k1:=fun (w:World) (n c:Nat)=>Lib.run_eql_slice_nil (P:=Tryz.prog) w 22 3 none n c 0 0 Tryz.underlying22
  go_enter Tryz.func203,Tryz.ntmps203
  go_wp2
  go_ret
  exact ⟨_,rfl,OwnI.nil _ _,Below.refl _ _⟩
 | some ad=>
  have k1:=fun (w:World) (n c:Nat)=>Lib.run_eql_slice_nil (P:=Tryz.prog) w 22 3 (some ad) n c 0 0 Tryz.underlying22
  go_enter Tryz.func203,Tryz.ntmps203
  go_wp2_with (at_builtin;refine zd8 rfl (.tmp 5) (.tmp 6) 22 rfl Tryz.underlying22 w.heap.size _ [] rfl (OwnI.empty w _ rfl) ad n c xs (ha.alloc _) rfl (by simp;omega) (by simp) ?_;intro v1 w1 ho1 hg1;have HO1:=Lib.hid ho1;have HB1:=Lib.hid ((OwnI.empty w _ rfl).bel ((Below.refl _ _).alloc (Nat.le_refl _) _) hg1 (by simp));clear ho1 hg1)
  go_ret
  exact ⟨_,rfl,HO1.out,HB1.out⟩
theorem zfq {w w1 w2:World} {r:Option Nat} (h:w.grownBy w1 r) (k:w1.grownBy w2 r):w.grownBy w2 r:=
 ⟨k.os.trans h.os,k.tape.trans h.tape,k.output.trans h.output,Nat.le_trans h.size k.size,fun i hi hne=>(k.block i (Nat.lt_of_lt_of_le hi h.size) hne).trans (h.block i hi hne)⟩
theorem zcC {w w':World} {r:Option Nat} (h:Below w.heap.size w w'):w.grownBy w' r:=⟨h.os,h.tape,h.output,h.size,fun i hi _=>h.block i hi⟩
theorem zx9 {w w':World} {r:Option Nat} (h:w.grownBy w' none):w.grownBy w' r:=zcC (zsQ h)
def zrH (g:Nat) (cv:Value) (p:Int→Bool) (I:World→Prop):Prop:=
 ∀ (x:Int) (w:World),I w→Calls Tryz.prog g #[.int .i64 x,cv] w fun e w'=>e = .returned (.bool (p x))∧Below w.heap.size w w'
def idxP (p:Int→Bool) (xs:List Int) (n:Nat):Int:=if xs.findIdx p<n then (xs.findIdx p:Nat) else -1
theorem zbP {xs:List Int} {i:Nat} (h:i<xs.length):el xs i=xs[i]:=by simp [el,h]
theorem zpH {p:Int→Bool} {xs:List Int} {n k:Nat} (hn:xs.length=n) (hk:k<n) (h:p (el xs k)=true) (hq:∀ i,i<k→p (el xs i)=false):idxP p xs n=k:=by
 have e:xs.findIdx p=k:=by
  rw [List.findIdx_eq (by omega)]
  refine ⟨by rw [zbP (by omega)] at h;exact h,fun j hj=>?_⟩
  have:=hq j hj
  rwa [zbP (by omega)] at this
 simp [idxP,e,hk]
theorem zjA {p:Int→Bool} {xs:List Int} {n:Nat} (hn:xs.length=n) (hq:∀ i,i<n→p (el xs i)=false):idxP p xs n = -1:=by
 have:¬ xs.findIdx p<n:=by
  intro h
  have h1:xs.findIdx p<xs.length:=by omega
  have h2:=List.findIdx_getElem (w:=h1)
  have h3:=hq _ h
  rw [zbP h1,h2] at h3
  cases h3
 simp [idxP,this]
theorem zib (g:Nat) (cv:Value) (p:Int→Bool) (I:World→Prop) (hp:zrH g cv p I) (eg:∀ args w,(callFunc g args).run Tryz.prog w = .ok (.enter g args) w)
  (a:Option Addr) (n c:Nat) (xs:List Int) (w:World) (hI:∀ w',w.grownBy w' none→I w') (ha:IntSl w a n xs) :
  Calls Tryz.prog 212 #[.slice a n c,.func (.func g) #[] #[cv]] w fun e w'=>e = .returned (.int .i64 (idxP p xs n))∧Below w.heap.size w w':=by
 have hm:=ha.mx
 have HI:=Lib.hid hI
 clear hI
 go_enter Tryz.func212,Tryz.ntmps212
 go_wp2
 go_loopw [8] (fun i wr=>∃ k:Nat,k≤n∧i = .int .i64 k∧(∀ i,i<k→p (el xs i)=false)∧Below w.heap.size w wr) (fun i _=>n-(intOf i).toNat)
 case atStart=>exact ⟨0,Nat.zero_le _,rfl,fun i h=>absurd h (by omega),Below.refl _ _⟩
 case round=>
  obtain ⟨k,hk,rfl,hq,hbel⟩:=hrel
  have HQ:=Lib.hid hq
  clear hq
  by_cases hlt:k<n
  ·have k0:(0:Int)≤(k:Int):=by omega
   have k1:(k:Int)<(n:Int):=by omega
   obtain ⟨ba,oa,rfl,hba,hca⟩:=(ha.below hbel).row (by omega)
   have ca:=hca k hlt
   clear hca
   cases hv:p (el xs k)
   case true=>
    have hr:=Lib.hid (zpH ha.len hlt hv HQ.out)
    have HV:=Lib.hid hv
    clear hv
    go_wp2_with fail
    refine (hp _ _ (HI.out _ (zcC hbel))).mono ?_
    rw [HV.out]
    rintro e w1 ⟨rfl,hb1⟩
    go_wp2_with fail
    go_ret
    exact ⟨by rw [hr.out];rfl,hbel.trans (hb1.mono hbel.size)⟩
   case false=>
    have HV:=Lib.hid hv
    clear hv
    go_wp2_with fail
    refine (hp _ _ (HI.out _ (zcC hbel))).mono ?_
    rw [HV.out]
    rintro e w1 ⟨rfl,hb1⟩
    go_wp2_with fail
    go_roundw
    case rel=>exact ⟨k+1,by omega,by go_num,fun i hi=>if e:i=k then by subst e;exact HV.out else HQ.out i (by omega),hbel.trans (hb1.mono hbel.size)⟩
    case measure=>simp [intOf];omega
  ·have hr:=Lib.hid (zjA ha.len (fun i hi=>HQ.out i (by omega)))
   have k1:¬ (k:Int)<(n:Int):=by omega
   go_wp2
   go_ret
   exact ⟨by rw [hr.out];rfl,hbel⟩
structure DelSt (p:Int→Bool) (xs:List Int) (n:Nat) (cur:List Value) (i j:Nat):Prop where
 hi:i=((xs.take j).filter (fun x=>!p x)).length
 ij:i<j
 hd:cur.take i=((xs.take j).filter (fun x=>!p x)).map (Value.int .i64)
 tl:∀ t,j≤t→t<n→cur[t]? = some (.int .i64 (el xs t))
theorem zbK {xs:List Int} {j:Nat} (h:j<xs.length):xs.take (j+1)=xs.take j++[el xs j]:=by
 rw [List.take_succ_eq_append_getElem h,zbP h]
theorem DelSt.keep {p:Int→Bool} {xs:List Int} {n:Nat} {cur:List Value} {i j:Nat} (h:DelSt p xs n cur i j) (hx:xs.length=n) (hc:n≤cur.length) (hj:j<n) (hv:p (el xs j)=false):DelSt p xs n (cur.set i (.int .i64 (el xs j))) (i+1) (j+1):=by
 have e:(xs.take (j+1)).filter (fun x=>!p x)=(xs.take j).filter (fun x=>!p x)++[el xs j]:=by
  rw [zbK (by omega),List.filter_append];simp [hv]
 have hij:=h.ij
 refine ⟨by rw [e,h.hi];simp,by omega,?_,fun t h1 h2=>?_⟩
 ·rw [e,List.map_append,← h.hd,List.take_succ_eq_append_getElem (by simp;omega)]
  rw [List.take_set_of_le (Nat.le_refl _)]
  simp
 ·rw [List.getElem?_set_ne (by omega)];exact h.tl t (by omega) h2
theorem DelSt.drop {p:Int→Bool} {xs:List Int} {n:Nat} {cur:List Value} {i j:Nat} (h:DelSt p xs n cur i j) (hx:xs.length=n) (hj:j<n) (hv:p (el xs j)=true):DelSt p xs n cur i (j+1):=by
 have e:(xs.take (j+1)).filter (fun x=>!p x)=(xs.take j).filter (fun x=>!p x):=by
  rw [zbK (by omega),List.filter_append];simp [hv]
 have hij:=h.ij
 exact ⟨by rw [e,h.hi],by omega,by rw [e];exact h.hd,fun t h1 h2=>h.tl t (by omega) h2⟩
theorem DelSt.first {p:Int→Bool} {xs:List Int} {n k:Nat} {cur:List Value} (hx:xs.length=n) (hk:k<n) (hcur:cur.take n=xs.map (Value.int .i64)) (hv:p (el xs k)=true) (hq:∀ i,i<k→p (el xs i)=false):DelSt p xs n cur k (k+1):=by
 have e0:(xs.take k).filter (fun x=>!p x)=xs.take k:=by
  rw [List.filter_eq_self]
  intro x hm
  obtain ⟨i,hi,e⟩:=List.mem_iff_getElem.1 hm
  simp only [List.length_take] at hi
  have:=hq i (by omega)
  rw [zbP (by omega)] at this
  rw [← e];simp [this]
 have e:(xs.take (k+1)).filter (fun x=>!p x)=xs.take k:=by
  rw [zbK (by omega),List.filter_append,e0];simp [hv]
 refine ⟨by rw [e];simp;omega,by omega,?_,fun t h1 h2=>?_⟩
 ·rw [e,List.map_take,← hcur,List.take_take,Nat.min_eq_left (by omega)]
 ·have:(cur.take n)[t]? = (xs.map (Value.int .i64))[t]? := by rw [hcur]
  rw [List.getElem?_take,if_pos h2] at this
  rw [this,zbP (by omega)];simp [show t<xs.length by omega]
structure RowIs (w:World) (g:Nat) (cur:List Value) (c:Nat):Prop where
 row:w.heap[g]? = some (.cells cur.toArray 3 (0,0))
 len:cur.length=c
theorem OwnI.rowIs {base:Nat} {w:World} {ad:Addr} {n c:Nat} {xs:List Int} (h:OwnI base w (.slice (some ad) n c) xs) :
  ∃ g cur,ad=⟨g,0,Option.none⟩∧base≤g∧n=xs.length∧n≤c∧c≤maxLen∧RowIs w g cur c∧cur.take n=xs.map (Value.int .i64):=by
 obtain ⟨h1,⟨hh,_⟩ | ⟨g,cap,cur,hv,hg,hh,hl,hm,hs,ht⟩⟩:=h
 ·simp at hh
 ·simp only [Value.slice.injEq,Option.some.injEq] at hv
  obtain ⟨rfl,rfl,rfl⟩:=hv
  exact ⟨g,cur.toList,rfl,hg,rfl,hl,hm,⟨by simpa using hh,by simpa using hs⟩,by simpa using ht⟩
theorem RowIs.owns {w:World} {g c i:Nat} {cur:List Value} {l:List Int} {base:Nat} (h:RowIs w g cur c) (hb:base≤g) (hi:l.length=i) (hl:i≤c) (hm:c≤maxLen) (ht:cur.take i=l.map (Value.int .i64)):OwnI base w (.slice (some ⟨g,0,Option.none⟩) i c) l:=by
 subst hi
 exact ⟨by simp,.inr ⟨g,c,cur.toArray,rfl,hb,h.row,hl,hm,by simp [h.len],by simpa using ht⟩⟩
theorem ziQ {w:World} {g c:Nat} {cur:List Value} (h:RowIs w g cur c) (o:Nat) (l:List Value):∃ cur',RowIs (w.setCells g o l) g cur' c∧cur'.take o=cur.take o∧w.grownBy (w.setCells g o l) (some g):=by
 induction l generalizing w cur o with
 | nil=>exact ⟨cur,h,rfl,World.grownBy.refl _ _⟩
 | cons v l ih=>
  have h1:RowIs (w.setCell ⟨g,o,none⟩ v) g (cur.set o v) c:=⟨zoI h.row o v,by simpa using h.len⟩
  obtain ⟨c2,h2,h3,h4⟩:=ih h1 (o+1)
  refine ⟨c2,h2,?_,zfq (zgd (World.grownBy.refl _ _) o v) h4⟩
  have e:(c2.take (o+1)).take o=((cur.set o v).take (o+1)).take o:=by rw [h3]
  rw [List.take_take,List.take_take,Nat.min_eq_left (by omega),List.take_set_of_le (Nat.le_refl _)] at e
  exact e
theorem zuU:∀ w,(zeroValue 3).run Tryz.prog w = .ok (.int .i64 0) w:=fun w=>by kernel_rfl
def zwK (base:Nat) (w:World) (row:Option Nat) (l:List Int) (e:Ending) (w':World):Prop:=∃ v,e = .returned v∧OwnI base w' v l∧w.grownBy w' row
theorem zkK {p:Int→Bool} {xs:List Int} {n:Nat} (hn:xs.length=n) (hq:∀ i,i<n→p (el xs i)=false):xs.filter (fun x=>!p x)=xs:=by
 rw [List.filter_eq_self]
 intro x hm
 obtain ⟨i,hi,e⟩:=List.mem_iff_getElem.1 hm
 have:=hq i (by omega)
 rw [zbP hi,e] at this
 simp [this]
set_option maxRecDepth 100000 in
set_option maxHeartbeats 1000000 in
theorem zg5 (g:Nat) (cv:Value) (p:Int→Bool) (I:World→Prop) (hp:zrH g cv p I) (eg:∀ args w,(callFunc g args).run Tryz.prog w = .ok (.enter g args) w)
  (base:Nat) (a:Option Addr) (n c:Nat) (xs:List Int) (w:World) (hI:∀ w',w.grownBy w' (Value.ownBlock (.slice a n c))→I w') (ho:OwnI base w (.slice a n c) xs) (hb:∀ x∈xs,-9223372036854775808≤x∧x≤9223372036854775807) (hbase:base≤w.heap.size) :
  Calls Tryz.prog 184 #[.slice a n c,.func (.func g) #[] #[cv]] w (zwK base w (Value.ownBlock (.slice a n c)) (xs.filter (fun x=>!p x))):=by
 obtain ⟨a',c',e,hsl⟩:=ho.sl hb
 obtain ⟨rfl,rfl,rfl⟩:a=a'∧n=xs.length∧c=c':=by simpa using e
 clear e
 have hm:=hsl.mx
 have hIF:=zib g cv p I hp eg a xs.length c xs w (fun w' h=>hI w' (zx9 h)) hsl
 generalize hn:xs.length=n at *
 by_cases hnone:∀ i,i<n→p (el xs i)=false
 case pos=>
  have e1:=Lib.hid (zjA hn hnone)
  have e2:=Lib.hid (zkK hn hnone)
  have HN:=Lib.hid hn
  have HO:=Lib.hid ho
  have HNO:=Lib.hid hnone
  clear hn ho hnone hI
  go_enter Tryz.func184,Tryz.ntmps184
  go_wp2_with fail
  refine hIF.mono ?_
  rw [e1.out]
  rintro e w1 ⟨rfl,hb1⟩
  go_wp2_with fail
  go_ret
  rw [e2.out]
  exact ⟨_,rfl,HO.out.below hb1 (Nat.le_refl _),zcC hb1⟩
 case neg=>
  obtain ⟨k,hk,hkp,hkq⟩:∃ k,k<n∧p (el xs k)=true∧∀ i,i<k→p (el xs i)=false:=by
   have hlt:xs.findIdx p<xs.length:=by
    apply Classical.byContradiction
    intro h
    apply hnone
    intro i hi
    have h3:xs.findIdx p=xs.length:=by have:=List.findIdx_le_length (xs:=xs) (p:=p);omega
    have h4:=(List.findIdx_eq_length.1 h3) xs[i] (List.getElem_mem _)
    rw [zbP (by omega)];simpa using h4
   refine ⟨xs.findIdx p,by omega,?_,fun i hi=>?_⟩
   ·rw [zbP hlt];exact List.findIdx_getElem (w:=hlt)
   ·rw [zbP (by omega)]
    have:=List.not_of_lt_findIdx hi
    simpa using this
  obtain ⟨ba,oa,rfl,_,_⟩:=hsl.row (by omega)
  obtain ⟨gr,cur0,had,hbg,hnl,hnc,hcm,hrow0,hcur0⟩:=ho.rowIs
  obtain ⟨rfl,rfl⟩:ba=gr∧oa=0:=by simpa using had
  have e1:=Lib.hid (zpH hn hk hkp hkq)
  have HST:=Lib.hid (DelSt.first hn hk hcur0 hkp hkq)
  have HN:=Lib.hid hn
  have HI:=Lib.hid hI
  have HR0:=Lib.hid hrow0
  have hgl:ba<w.heap.size:=(Array.getElem?_eq_some_iff.1 hrow0.row).1
  have hcm':=hcm
  unfold maxLen at hcm'
  clear hn ho hnone hI hrow0 hcur0 hkp hkq had hnl
  go_enter Tryz.func184,Tryz.ntmps184
  go_wp2_with fail
  refine hIF.mono ?_
  rw [e1.out]
  rintro e w1 ⟨rfl,hb1⟩
  have hk1:((k:Int) == -1)=false:=by simp
  go_wp2_with fail
  go_loopw [5,6] (fun ti tj wr=>∃ i j:Nat,∃ cur,i<j∧j≤n∧ti = .int .i64 i∧tj = .int .i64 j∧DelSt p xs n cur i j∧RowIs wr ba cur c∧w.grownBy wr (some ba)) (fun _ tj _=>n-(intOf tj).toNat)
  case atStart=>
   refine ⟨k,k+1,cur0,by omega,by omega,rfl,by go_num,HST.out,⟨?_,HR0.out.len⟩,zcC hb1⟩
   rw [hb1.block _ hgl];exact HR0.out.row
  case round=>
   obtain ⟨i,j,cur,hij,hj,rfl,rfl,hst,hrow,hgrow⟩:=hrel
   have hcl:=hrow.len
   by_cases hlt:j<n
   ·have k0:(0:Int)≤(j:Int):=by omega
    have k1:(j:Int)<(n:Int):=by omega
    have k2:(i:Int)<(n:Int):=by omega
    have cj:wr.cell? ⟨ba,j,none⟩=some (.int .i64 (el xs j)):=zhG hrow.row (hst.tl j (Nat.le_refl _) hlt)
    have HS:=Lib.hid hst
    have HR:=Lib.hid hrow
    have HG:=Lib.hid hgrow
    have HCL:=Lib.hid hcl
    clear hst hrow hgrow hcl
    cases hv:p (el xs j)
    case true=>
     have HV:=Lib.hid hv
     clear hv
     go_wp2_with fail
     refine (hp _ _ (HI.out _ HG.out)).mono ?_
     rw [HV.out]
     rintro e w2 ⟨rfl,hb2⟩
     go_wp2_with fail
     go_roundw
     case rel=>exact ⟨i,j+1,cur,by omega,by omega,rfl,by go_num,HS.out.drop HN.out hlt HV.out,⟨by rw [hb2.block _ (Array.getElem?_eq_some_iff.1 HR.out.row).1];exact HR.out.row,HR.out.len⟩,zfq HG.out (zcC hb2)⟩
     case measure=>simp [intOf];omega
    case false=>
     have HV:=Lib.hid hv
     clear hv
     go_wp2_with fail
     refine (hp _ _ (HI.out _ HG.out)).mono ?_
     rw [HV.out]
     rintro e w2 ⟨rfl,hb2⟩
     have HR2:Hid (RowIs w2 ba cur c):=⟨by rw [hb2.block _ (Array.getElem?_eq_some_iff.1 HR.out.row).1];exact HR.out.row,HR.out.len⟩
     have ci:w2.cell? ⟨ba,i,none⟩=some (cur[i]'(by rw [HCL.out];omega)):=zhG HR2.out.row (by simp)
     have fi:=zgM HR2.out.row i
     go_wp2_with fail
     go_roundw
     case rel=>exact ⟨i+1,j+1,_,by omega,by omega,by go_num,by go_num,HS.out.keep HN.out (by rw [HCL.out];exact hnc) hlt HV.out,⟨zoI HR2.out.row i _,by simpa using HCL.out⟩,zgd (zfq HG.out (zcC hb2)) _ _⟩
     case measure=>simp [intOf];omega
   ·have k1:¬ (j:Int)<(n:Int):=by omega
    obtain rfl:j=n:=by omega
    have k2:(i:Int)≤(j:Int):=by omega
    have k3:(i:Int)≤(c:Int):=by omega
    have HS:=Lib.hid hst
    have HR:=Lib.hid hrow
    have HG:=Lib.hid hgrow
    have hclr:=Lib.run_clear_slice (P:=Tryz.prog) wr 23 3 0 (.int .i64 0) Tryz.underlying23 zuU rfl rfl ba i (j-i) (c-i) (by omega)
     (fun t ht=>by rw [zhG hrow.row (v:=cur[i+t]'(by omega)) (by simp)];rfl) (fun t ht=>zgM hrow.row _)
    obtain ⟨w3,cur3,hw3,hrow3,htk3,hgrow3⟩:∃ w3 cur3,wr.setCells ba i (List.replicate (j-i) (.int .i64 0))=w3∧RowIs w3 ba cur3 c∧cur3.take i=cur.take i∧wr.grownBy w3 (some ba):=by
     obtain ⟨c3,h1,h2,h3⟩:=ziQ hrow i (List.replicate (j-i) (.int .i64 0))
     exact ⟨_,c3,rfl,h1,h2,h3⟩
    rw [hw3] at hclr
    have HR3:=Lib.hid hrow3
    have HT3:=Lib.hid htk3
    have HG3:=Lib.hid hgrow3
    clear hst hrow hgrow hcl hw3 hrow3 htk3 hgrow3
    have k4:(i:Int)≤(j:Int):=by omega
    go_wp2
    go_ret
    have hfx:(xs.take j)=xs:=List.take_of_length_le (by rw [HN.out];exact Nat.le_refl _)
    refine ⟨_,rfl,HR3.out.owns hbg ?_ (by omega) hcm ?_,zfq HG.out HG3.out⟩
    ·have:=HS.out.hi;rw [hfx] at this;exact this.symm
    ·rw [HT3.out];have:=HS.out.hd;rw [hfx] at this;exact this
def zb5 (v:Int) (s:List Int×Bool) (x:Int):List Int×Bool:=if s.2=false∧v<x then (s.1++[v]++[x],true) else (s.1++[x],s.2)
def zdB (xs:List Int) (v:Int):Nat→List Int×Bool
 | 0=>([],hasB xs v)
 | k+1=>zb5 v (zdB xs v k) (el xs k)
def putL (xs:List Int) (v:Int):List Int:=if (zdB xs v xs.length).2 then (zdB xs v xs.length).1 else (zdB xs v xs.length).1++[v]
theorem zpb (xs:List Int) (v:Int) (k:Nat):(zdB xs v k).1.length≤2*k:=by
 induction k with
 | zero=>simp [zdB]
 | succ k ih=>
  unfold zdB zb5
  split<;>simp<;>omega
def zwI (w:World) (l:List Int) (e:Ending) (w':World):Prop:=∃ v,e = .returned v∧OwnI w.heap.size w' v l∧Below w.heap.size w w'
set_option maxRecDepth 100000 in
theorem zvn (a:Option Addr) (n c:Nat) (xs:List Int) (v:Int) (w:World) (ha:IntSl w a n xs) (hn:n≤1099511627776) :
  Calls Tryz.prog 174 #[.slice a n c,.int .i64 v] w (zwI w (putL xs v)):=by
 have hm:=ha.mx
 go_enter Tryz.func174,Tryz.ntmps174
 go_wp2_with fail
 refine (zhJ _ _ _ xs _ _ ha).mono ?_
 rintro e w' ⟨rfl,rfl⟩
 go_wp2_with fail
 go_loopw [5,6,7] (fun t b i wr=>∃ k:Nat,∃ o:List Int,∃ bb:Bool,k≤n∧i = .int .i64 k∧b = .bool bb∧zdB xs v k=(o,bb)∧OwnI w.heap.size wr t o∧Below w.heap.size w wr) (fun _ _ i _=>n-(intOf i).toNat)
 case atStart=>exact ⟨0,[],_,Nat.zero_le _,rfl,rfl,rfl,OwnI.nil _ _,Below.refl _ _⟩
 case round=>
  obtain ⟨k,o,bb,hk,rfl,rfl,hst,hown,hbel⟩:=hrel
  have hlen:=zpb xs v k
  rw [hst] at hlen
  simp only at hlen
  by_cases hlt:k<n
  ·have k0:(0:Int)≤(k:Int):=by omega
   have k1:(k:Int)<(n:Int):=by omega
   obtain ⟨ba,oa,rfl,hba,hca⟩:=ha.row (by omega)
   have ca:wr.cell? ⟨ba,oa+k,none⟩=some (.int .i64 (el xs k)):=by rw [hbel.cell (p:=⟨ba,oa+k,none⟩) hba];exact hca k hlt
   have CA:=Lib.hid (hca k hlt)
   clear hca
   have hsz:=hbel.size
   have H5:=Lib.hid hown
   have HB:=Lib.hid hbel
   have HS:=Lib.hid hst
   clear hown hbel hst
   by_cases hc:bb=false∧v<el xs k
   ·obtain ⟨rfl,hvx⟩:=hc
    have hnx:=Lib.hid (show zdB xs v (k+1)=(o++[v]++[el xs k],true) by simp [zdB,HS.out,zb5,hvx])
    go_wp2_with (first | (at_builtin;refine zbD rfl (.tmp 27) (.tmp 29) 23 rfl Tryz.underlying23 w.heap.size _ o rfl H5.out v 3 _ rfl rfl (by omega) hsz ?_;intro v1 w1 ho1 hg1;have HO1:=Lib.hid ho1;have HB1:=Lib.hid (H5.out.bel HB.out hg1 hsz);clear ho1 hg1;have hsz1:=HB1.out.size;have ca1:=(HB1.out.cell (p:=⟨ba,oa+k,none⟩) hba).trans CA.out) | (at_builtin;refine zbD rfl (.tmp 31) (.tmp 36) 23 rfl Tryz.underlying23 w.heap.size _ (o++[v]) rfl HO1.out (el xs k) 3 _ rfl rfl ?len hsz1 ?_;rotate_right;intro v2 w2 ho2 hg2;have HO2:=Lib.hid ho2;have HB2:=Lib.hid (HO1.out.bel HB1.out hg2 hsz1);clear ho2 hg2))
    case len=>simp;omega
    go_roundw
    case rel=>exact ⟨k+1,_,_,by omega,by go_num,rfl,hnx.out,HO2.out,HB2.out⟩
    case measure=>simp [intOf];omega
   ·have hnx:=Lib.hid (show zdB xs v (k+1)=(o++[el xs k],bb) by simp [zdB,HS.out,zb5,hc])
    cases bb
    case true=>
     go_wp2_with (at_builtin;refine zbD rfl (.tmp 31) (.tmp 36) 23 rfl Tryz.underlying23 w.heap.size _ o rfl H5.out (el xs k) 3 _ rfl rfl (by omega) hsz ?_;intro v2 w2 ho2 hg2;have HO2:=Lib.hid ho2;have HB2:=Lib.hid (H5.out.bel HB.out hg2 hsz);clear ho2 hg2)
     go_roundw
     case rel=>exact ⟨k+1,_,_,by omega,by go_num,rfl,hnx.out,HO2.out,HB2.out⟩
     case measure=>simp [intOf];omega
    case false=>
     have hvx:¬ v<el xs k:=fun h=>hc ⟨rfl,h⟩
     clear hc
     go_wp2_with (at_builtin;refine zbD rfl (.tmp 31) (.tmp 36) 23 rfl Tryz.underlying23 w.heap.size _ o rfl H5.out (el xs k) 3 _ rfl rfl (by omega) hsz ?_;intro v2 w2 ho2 hg2;have HO2:=Lib.hid ho2;have HB2:=Lib.hid (H5.out.bel HB.out hg2 hsz);clear ho2 hg2)
     go_roundw
     case rel=>exact ⟨k+1,_,_,by omega,by go_num,rfl,hnx.out,HO2.out,HB2.out⟩
     case measure=>simp [intOf];omega
  ·have k1:¬ (k:Int)<(n:Int):=by omega
   obtain rfl:k=n:=by omega
   have hlx:=ha.len
   have hpl:putL xs v=if bb then o else o++[v]:=by simp [putL,hlx,hst]
   have HPL:=Lib.hid hpl
   have hsz:=hbel.size
   have H5:=Lib.hid hown
   have HB:=Lib.hid hbel
   clear hown hbel hst hlx hpl hlt hk
   cases bb
   case true=>
    go_wp2
    go_ret
    exact ⟨_,rfl,by rw [HPL.out];exact H5.out,HB.out⟩
   case false=>
    go_wp2_with (at_builtin;refine zbD rfl (.tmp 40) (.tmp 42) 23 rfl Tryz.underlying23 w.heap.size _ o rfl H5.out v 3 _ rfl rfl (by omega) hsz ?_;intro v2 w2 ho2 hg2;have HO2:=Lib.hid ho2;have HB2:=Lib.hid (H5.out.bel HB.out hg2 hsz);clear ho2 hg2)
    go_ret
    exact ⟨_,rfl,by rw [HPL.out];exact HO2.out,HB2.out⟩
def zbU (w:World) (code:Int) (l:List Int) (e:Ending) (w':World):Prop:=∃ v,e = .returned (.tuple #[v,.int .i64 code])∧OwnI w.heap.size w' v l∧Below w.heap.size w w'
def zbh (xs:List Int) (v:Int):List Int:=xs.filter (fun x=>!(x==v))
theorem zi9 (x v:Int) (bx:Nat) (w:World) (hc:w.cell? ⟨bx,0,none⟩=some (.int .i64 v)) :
  Calls Tryz.prog 185 #[.int .i64 x,.pointer (some ⟨bx,0,none⟩)] w fun e w'=>e = .returned (.bool (x==v))∧Below w.heap.size w w':=by
 generalize hr:(x==v)=r
 go_enter Tryz.func185,Tryz.ntmps185
 go_wp2
 go_ret
 exact ⟨rfl,Below.refl _ _⟩
theorem znc (a:Option Addr) (n c:Nat) (xs:List Int) (v:Int) (w:World) (ha:IntSl w a n xs) (hn:n≤1099511627776) (hi:isB xs=false) :
  Calls Tryz.prog 133 #[.slice a n c,.int .i64 v] w (zbU w 1 []):=by
 have HI:=Lib.hid hi
 clear hi
 go_enter Tryz.func133,Tryz.ntmps133
 go_wp2_with fail
 refine (zc0 _ _ _ xs _ (ha.alloc _)).mono ?_
 rw [HI.out]
 rintro e w1 ⟨rfl,q,rfl⟩
 go_wp2_with fail
 go_ret2
 exact ⟨_,rfl,OwnI.nil _ _,zb9 ((Below.refl _ _).alloc (Nat.le_refl _) _) _⟩
theorem zkw (a:Option Addr) (n c:Nat) (xs:List Int) (v:Int) (w:World) (ha:IntSl w a n xs) (hn:n≤1099511627776) (hi:isB xs=true) :
  Calls Tryz.prog 133 #[.slice a n c,.int .i64 v] w (zbU w 0 (zbh xs v)):=by
 have HI:=Lib.hid hi
 have hbd:=ha.bd
 have eg:∀ args w,(callFunc 185 args).run Tryz.prog w = .ok (.enter 185 args) w:=enters_of Tryz.func185 (by kernel_rfl) rfl
 have HEG:=Lib.hid eg
 clear hi eg
 go_enter Tryz.func133,Tryz.ntmps133
 go_wp2_with fail
 refine (zc0 _ _ _ xs _ (ha.alloc _)).mono ?_
 rw [HI.out]
 rintro e w1 ⟨rfl,q,rfl⟩
 go_wp2_with fail
 refine (zrw _ _ _ xs _ ((ha.alloc _).drewN _) hn).mono ?_
 rintro e w2 ⟨cv,rfl,hown,hb2⟩
 have hs2:=hb2.size
 simp at hs2
 have HO:=Lib.hid (hown.mono (B:=w.heap.size+1) (by simp))
 have B2:Below w.heap.size w w2:=(zb9 ((Below.refl _ _).alloc (Nat.le_refl _) _) q).trans (hb2.mono (by simp))
 have HB2:=Lib.hid B2
 obtain ⟨ca,cc,rfl,hsl⟩:=hown.sl hbd
 have hbox:w2.cell? ⟨w.heap.size,0,none⟩=some (.int .i64 v):=by
  rw [hb2.cell (p:=⟨w.heap.size,0,none⟩) (by simp)]
  simp
 have hpred:zrH 185 (.pointer (some ⟨w.heap.size,0,none⟩)) (fun x=>x==v) (fun w'=>w'.cell? ⟨w.heap.size,0,none⟩=some (.int .i64 v)):=fun x w' h=>zi9 x v _ w' h
 have hdel:=zg5 _ _ _ _ hpred HEG.out (w.heap.size+1) ca xs.length cc xs w2 (fun w' hg=>?_) HO.out hbd (by omega)
 rotate_left
 ·refine hg.cell hbox ?_
  intro e
  have:=World.ownsRow.lt HO.out _ e.symm
  dsimp only at this
  omega
 have HD:=Lib.hid hdel
 clear hown hb2 B2 hbox hdel hpred
 go_wp2_with fail
 refine HD.out.mono ?_
 rintro e w3 ⟨dv,rfl,ho3,hg3⟩
 go_wp2_with fail
 go_ret2
 refine ⟨_,rfl,ho3.mono (by omega),HB2.out.grown hg3 HB2.out.size (fun k hk=>?_)⟩
 have:=World.ownsRow.lt HO.out _ hk
 omega
theorem zt5 (a:Option Addr) (n c:Nat) (xs:List Int) (v:Int) (w:World) (ha:IntSl w a n xs) (hn:n≤1099511627776) :
  Calls Tryz.prog 173 #[.slice a n c,.int .i64 v] w (zdL w (zbh xs v)):=by
 have hm:=ha.mx
 go_enter Tryz.func173,Tryz.ntmps173
 go_wp2
 go_loopw [5,6] (fun t i wr=>∃ k:Nat,k≤n∧i = .int .i64 k∧OwnI w.heap.size wr t (zbh (xs.take k) v)∧Below w.heap.size w wr) (fun _ i _=>n-(intOf i).toNat)
 case atStart=>exact ⟨0,Nat.zero_le _,rfl,OwnI.nil _ _,Below.refl _ _⟩
 case round=>
  obtain ⟨k,hk,rfl,hown,hbel⟩:=hrel
  by_cases hlt:k<n
  ·have k0:(0:Int)≤(k:Int):=by omega
   have k1:(k:Int)<(n:Int):=by omega
   obtain ⟨ba,oa,rfl,hba,hca⟩:=(ha.below hbel).row (by omega)
   have ca:=hca k hlt
   have hlen:(zbh (xs.take k) v).length≤k:=by
    have h1:=List.length_filter_le (fun x=>!(x==v)) (xs.take k)
    have h2:(xs.take k).length≤k:=List.length_take_le _ _
    unfold zbh;omega
   have hts:=zbK (xs:=xs) (j:=k) (by rw [ha.len];exact hlt)
   have hsz:=hbel.size
   clear hca
   by_cases hv:el xs k=v
   ·have hd:zbh (xs.take (k+1)) v=zbh (xs.take k) v:=by rw [hts];simp [zbh,hv]
    have HD:=Lib.hid hd
    have tt:(el xs k != v)=false:=by simp [hv]
    have HO:=Lib.hid hown
    have HB:=Lib.hid hbel
    clear hv hd hts hown hbel hlen
    go_wp2
    go_roundw
    case rel=>exact ⟨k+1,by omega,by go_num,by rw [HD.out];exact HO.out,HB.out⟩
    case measure=>simp [intOf];omega
   ·have hd:zbh (xs.take (k+1)) v=zbh (xs.take k) v++[el xs k]:=by rw [hts];simp [zbh,hv]
    have HD:=Lib.hid hd
    have tt:(el xs k != v)=true:=by simp [hv]
    have HO:=Lib.hid hown
    have HB:=Lib.hid hbel
    generalize hg:zbh (xs.take k) v=o at *
    clear hv hd hts hown hbel hg
    go_wp2_with (at_builtin;refine zbD rfl (.tmp 19) (.tmp 24) 23 rfl Tryz.underlying23 w.heap.size _ o rfl HO.out (el xs k) 3 _ rfl rfl (by omega) hsz ?_;intro v2 w2 ho2 hg2;have HO2:=Lib.hid ho2;have HB2:=Lib.hid (HO.out.bel HB.out hg2 hsz);clear ho2 hg2)
    go_roundw
    case rel=>exact ⟨k+1,by omega,by go_num,by rw [HD.out];exact HO2.out,HB2.out⟩
    case measure=>simp [intOf];omega
  ·have k1:¬ (k:Int)<(n:Int):=by omega
   obtain rfl:k=n:=by omega
   rw [List.take_of_length_le (by rw [ha.len];exact Nat.le_refl _)] at hown
   go_wp2
   go_ret
   exact ⟨_,rfl,hown,hbel⟩
theorem zdM {ops:Array Oper} {rest:List Oper} {o:Oper} {a:Act} {Q:Exit→Act→World→Prop} {wr:World} (hgd:o.guard=none) (s x:Operand) (t:TypeId)
  (ho:o.op = .call {callee:= .builtin .append,args:= #[s,x],argTypes:= #[t,t]}) (ht:Tryz.prog.underlying t=some (.slice 3))
  (base:Nat) (v:Value) (xs:List Int) (hs:a.eval s=v) (hown:OwnI base wr v xs) (ao:Option Addr) (m c:Nat) (ys:List Int) (hsl:IntSl wr ao m ys) (hnil:ao=none→c=0) (hx:a.eval x = .slice ao m c)
  (hn:xs.length+m<8796093022208) (hbase:base≤wr.heap.size)
  (h:∀ v' w',OwnI base w' v' (xs++ys)→wr.grownBy w' v.ownBlock→wpList Tryz.prog ops Q rest (a.put o.dst v') w'):wpList Tryz.prog ops Q (o::rest) a wr:=by
 cases ao with
 | some ad=>exact zd8 hgd s x t ho ht base v xs hs hown ad m c ys hsl hx hn hbase h
 | none=>
  obtain ⟨rfl,rfl⟩:=hsl.none
  obtain rfl:c=0:=hnil rfl
  obtain ⟨i0,hi,hz0,hz1,hz2⟩:=info_parts zhZ
  refine Lib.wpList_append_run _ hgd s x t t ho v _ hs hx v wr (run_append_owned_none wr base t o.type 3 i0 1 ht hi v xs.length _ hown) ?_
  exact h v wr (by rw [List.append_nil];exact hown) (World.grownBy.refl _ _)
theorem zg1 (n:Nat):(Builtin.zeroCells #[Value.int .i64 0] n).size=n:=by simp [Builtin.zeroCells]
set_option maxRecDepth 100000 in
theorem zta (n:Nat) (N:Int) (w:World) (hN:N=n) (hn:n≤2199023255552) :
  Calls Tryz.prog 233 #[.slice none 0 0,.int .i64 N] w (zdL w []):=by
 subst hN
 obtain ⟨i0,hi,hz0,hz1,hz2⟩:=info_parts zhZ
 by_cases h0:n=0
 ·subst h0
  go_enter Tryz.func233,Tryz.ntmps233
  go_wp2
  go_ret
  exact ⟨_,rfl,OwnI.nil _ _,Below.refl _ _⟩
 ·have t1:¬ (n:Int)<0:=by omega
  have t2:(0:Int)<(n:Int):=by omega
  have hr:=fun ty=>Lib.run_append_nil_zeros (P:=Tryz.prog) w 22 3 ty 3 i0 (.int .i64 0) .i64 .i64 Tryz.underlying22 Tryz.underlying3 hi hz0 n (by omega) (by omega) (by omega) (by rw [hz2];omega)
  have HR:=Lib.hid hr
  have hcap:=grownCap_ge w n 0 3
  have hcap2:=grownCap_le_maxLen w n 0 3 (by unfold maxLen;omega)
  clear hr
  go_enter Tryz.func233,Tryz.ntmps233
  go_wp2_with (at_builtin;refine Lib.wpList_append_run _ rfl (.tmp 20) (.tmp 21) 22 3 rfl _ _ rfl rfl _ _ (HR.out _) ?_)
  go_ret
  refine ⟨_,rfl,?_,((Below.refl _ _).alloc (Nat.le_refl _) _).drew⟩
  refine World.ownsRow_made w _ _ (Nat.le_refl _) hcap2 ?_
  simp only [Array.size_append,zg1];omega
theorem zlg (gr:Nat) (a:Option Addr) (n ca:Nat) (xs:List Int) (b:Option Addr) (m cb:Nat) (ys:List Int) (w:World)
  (h0:w.cell? ⟨gr,0,none⟩=some (.slice a n ca)) (h1:w.cell? ⟨gr,1,none⟩=some (.slice b m cb)) (hgr:gr<w.heap.size) (ha:IntSl w a n xs) (hb:IntSl w b m ys) (hna:a=none→ca=0) (hnb:b=none→cb=0) (hn:n≤1099511627776) (hm:m≤1099511627776) :
  Calls Tryz.prog 219 #[.slice (some ⟨gr,0,none⟩) 2 2] w (zdL w (xs++ys)):=by
 have q1:(0:Int)≤(n:Int):=by omega
 have q2:(0:Int)≤(n:Int)+(m:Int):=by omega
 have H0:=Lib.hid h0
 have H1:=Lib.hid h1
 have hla:=ha.len
 have hlx:=Lib.hid (show ([]++xs).length+m<8796093022208 by simp;omega)
 clear hla
 go_enter Tryz.func219,Tryz.ntmps219
 go_wp2
 refine wp_loop_rounds 3 ?_
 rw [rounds_succ]
 go_wp2
 rw [rounds_succ]
 go_wp2
 rw [rounds_succ]
 go_wp2_with fail
 refine (zta (n+m) _ _ (by omega) (by omega)).mono ?_
 rintro e w1 ⟨v1,rfl,ho1,hb1⟩
 have g0:w1.cell? ⟨gr,0,none⟩=some (.slice a n ca):=by rw [hb1.cell (p:=⟨gr,0,none⟩) hgr];exact H0.out
 have z1:=hb1.size
 clear h0 h1
 have HO1:=Lib.hid ho1
 have HB1:=Lib.hid hb1
 have ha1:=Lib.hid (ha.below hb1)
 clear ho1 hb1
 go_wp2_with fail
 refine wp_loop_rounds 3 ?_
 rw [rounds_succ]
 go_wp2_with (at_builtin;refine zdM rfl (.tmp 31) (.tmp 32) 22 rfl Tryz.underlying22 w.heap.size _ [] rfl HO1.out a n ca xs ha1.out hna rfl (by simp;omega) z1 ?_;intro v2 w2 ho2 hg2;have HO2:=Lib.hid ho2;have HB2:=Lib.hid (HO1.out.bel HB1.out hg2 z1);clear ho2 hg2;have g1:w2.cell? ⟨gr,1,none⟩=some (.slice b m cb):=(HB2.out.cell (p:=⟨gr,1,none⟩) hgr).trans H1.out;have hb2:=Lib.hid (hb.below HB2.out);have z2:=HB2.out.size)
 rw [rounds_succ]
 go_wp2_with (at_builtin;refine zdM rfl (.tmp 31) (.tmp 32) 22 rfl Tryz.underlying22 w.heap.size _ ([]++xs) rfl HO2.out b m cb ys hb2.out hnb rfl hlx.out z2 ?_;intro v3 w3 ho3 hg3;have HO3:=Lib.hid ho3;have HB3:=Lib.hid (HO2.out.bel HB2.out hg3 z2);clear ho3 hg3)
 rw [rounds_succ]
 go_wp2
 go_ret
 exact ⟨_,rfl,by have:=HO3.out;rwa [List.nil_append] at this,HB3.out⟩
end Go.Proofs.YteabcgkjbnecaaaGreat
namespace Go.Proofs
open Go.Shelf
def Tryz.lays189_ren:Go.Shelf.Ren:=⟨fun | 189=>220 | 125=>215 | 257=>234 | 128=>231 | 129=>232 | 294=>240 | 295=>241 | 296=>242 | 297=>243 | 298=>244 | 299=>245 | 216=>246 | 300=>247 | 301=>248 | 328=>250 | 329=>236 | 330=>237 | 331=>251 | 332=>252 | 215=>253 | 343=>254 | n=>n,fun | 28=>22 | 3=>3 | 46=>215 | 0=>0 | 51=>231 | 53=>233 | 4=>4 | 183=>224 | 182=>223 | 131=>228 | 5=>5 | 9=>9 | 218=>236 | 222=>240 | 228=>247 | 229=>97 | n=>n,fun | n=>n⟩
theorem Tryz.lays189:Go.Proofs.Lays.n189 Tryz.prog Tryz.lays189_ren:={
 mixed:=by kernel_rfl
 f125:=Tryz.func215.trans (congrArg some (by kernel_rfl))
 f128:=Tryz.func231.trans (congrArg some (by kernel_rfl))
 f129:=Tryz.func232.trans (congrArg some (by kernel_rfl))
 f189:=Tryz.func220.trans (congrArg some (by kernel_rfl))
 f215:=Tryz.func253.trans (congrArg some (by kernel_rfl))
 f216:=Tryz.func246.trans (congrArg some (by kernel_rfl))
 f257:=Tryz.func234.trans (congrArg some (by kernel_rfl))
 f294:=Tryz.func240.trans (congrArg some (by kernel_rfl))
 f295:=Tryz.func241.trans (congrArg some (by kernel_rfl))
 f296:=Tryz.func242.trans (congrArg some (by kernel_rfl))
 f297:=Tryz.func243.trans (congrArg some (by kernel_rfl))
 f298:=Tryz.func244.trans (congrArg some (by kernel_rfl))
 f299:=Tryz.func245.trans (congrArg some (by kernel_rfl))
 f300:=Tryz.func247.trans (congrArg some (by kernel_rfl))
 f301:=Tryz.func248.trans (congrArg some (by kernel_rfl))
 f328:=Tryz.func250.trans (congrArg some (by kernel_rfl))
 f329:=Tryz.func236.trans (congrArg some (by kernel_rfl))
 f330:=Tryz.func237.trans (congrArg some (by kernel_rfl))
 f331:=Tryz.func251.trans (congrArg some (by kernel_rfl))
 f332:=Tryz.func252.trans (congrArg some (by kernel_rfl))
 f343:=Tryz.func254.trans (congrArg some (by kernel_rfl))
 t0:=Tryz.underlying0
 a0:=Tryz.isAgg0
 z0:=Tryz.sizeOf0
 v0:=Tryz.zeroValue0
 t3:=Tryz.underlying3
 a3:=Tryz.isAgg3
 z3:=Tryz.sizeOf3
 v3:=Tryz.zeroValue3
 t4:=Tryz.underlying4
 a4:=Tryz.isAgg4
 z4:=Tryz.sizeOf4
 v4:=Tryz.zeroValue4
 t5:=Tryz.underlying5
 a5:=Tryz.isAgg5
 z5:=Tryz.sizeOf5
 v5:=Tryz.zeroValue5
 t9:=Tryz.underlying9
 a9:=Tryz.isAgg9
 z9:=Tryz.sizeOf9
 v9:=Tryz.zeroValue9
 t28:=Tryz.underlying22
 a28:=Tryz.isAgg22
 z28:=Tryz.sizeOf22
 v28:=Tryz.zeroValue22
 t46:=Tryz.underlying215
 a46:=Tryz.isAgg215
 z46:=Tryz.sizeOf215
 v46:=Tryz.zeroValue215
 t51:=Tryz.underlying231
 a51:=Tryz.isAgg231
 z51:=Tryz.sizeOf231
 v51:=Tryz.zeroValue231
 t53:=Tryz.underlying233
 a53:=Tryz.isAgg233
 z53:=Tryz.sizeOf233
 v53:=Tryz.zeroValue233
 t131:=Tryz.underlying228
 a131:=Tryz.isAgg228
 z131:=Tryz.sizeOf228
 v131:=Tryz.zeroValue228
 t182:=Tryz.underlying223
 a182:=Tryz.isAgg223
 z182:=Tryz.sizeOf223
 v182:=Tryz.zeroValue223
 t183:=Tryz.underlying224
 a183:=Tryz.isAgg224
 z183:=Tryz.sizeOf224
 v183:=Tryz.zeroValue224
 t218:=Tryz.underlying236
 a218:=Tryz.isAgg236
 z218:=Tryz.sizeOf236
 v218:=Tryz.zeroValue236
 t222:=Tryz.underlying240
 a222:=Tryz.isAgg240
 z222:=Tryz.sizeOf240
 v222:=Tryz.zeroValue240
 t228:=Tryz.underlying247
 a228:=Tryz.isAgg247
 z228:=Tryz.sizeOf247
 v228:=Tryz.zeroValue247
 t229:=Tryz.underlying97
 a229:=Tryz.isAgg97
 z229:=Tryz.sizeOf97
 v229:=Tryz.zeroValue97}
open Go.Sort Go.RowKit in
theorem Tryz.slices_Sort_int (blk off cap:Nat) (zs:List Int) (w:World) (hH:Holds (Value.int .i64) w blk off zs.toArray) (hblk:blk<w.heap.size) (hsz:zs.length<4611686018427387904) :
  Calls Tryz.prog 220 #[.slice (some ⟨blk,off,none⟩) zs.length cap] w fun e w' =>
   e = .returned (.tuple #[])∧∃ n os,w'=grow (putRow (Value.int .i64) (Sort.ahead w n) blk off (zs.mergeSort fun x y=>decide (x≤y)).toArray) os:=Any.slices_Sort_int Tryz.lays189 blk off cap zs w hH hblk hsz
def Tryz.laysNm220_ren:Go.Shelf.Ren:=⟨fun | 20=>221 | n=>n,fun | 22=>22 | 3=>3 | 4=>4 | 0=>0 | n=>n,fun | n=>n⟩
theorem Tryz.laysNm220:Go.Proofs.Lays2.n20 Tryz.prog Tryz.laysNm220_ren:={
 mixed:=by kernel_rfl
 f20:=Tryz.func221.trans (congrArg some (by kernel_rfl))
 t0:=Tryz.underlying0
 a0:=Tryz.isAgg0
 z0:=Tryz.sizeOf0
 v0:=Tryz.zeroValue0
 t3:=Tryz.underlying3
 a3:=Tryz.isAgg3
 z3:=Tryz.sizeOf3
 v3:=Tryz.zeroValue3
 t4:=Tryz.underlying4
 a4:=Tryz.isAgg4
 z4:=Tryz.sizeOf4
 v4:=Tryz.zeroValue4
 t22:=Tryz.underlying22
 a22:=Tryz.isAgg22
 z22:=Tryz.sizeOf22
 v22:=Tryz.zeroValue22
 i3:=by kernel_rfl}
open Go.RowKit Go.Lib Go.Sort in
theorem Tryz.slices_Compact_int (blk off cap:Nat) (zs:List Int) (w:World) (hH:Holds (Value.int .i64) w blk off zs.toArray) (hsz:zs.length≤9223372036854775807) (hcap:zs.length≤cap) :
  Calls Tryz.prog 221 #[.slice (some ⟨blk,off,none⟩) zs.length cap] w fun e w'=>e = .returned (.slice (some ⟨blk,off,none⟩) (Lib.compact zs).length cap)∧∃ q,w'=putRow (Value.int .i64) (Sort.ahead w q) blk off (Lib.compact zs++List.replicate (zs.length-(Lib.compact zs).length) 0).toArray:=Any.slices_Compact_int Tryz.laysNm220 blk off cap zs w hH hsz hcap
open Go.RowKit Go.Lib Go.Sort in
theorem Tryz.slices_Compact_int_empty (a:Option Addr) (cap:Nat) (w:World) :
  Calls Tryz.prog 221 #[.slice a 0 cap] w fun e w'=>e = .returned (.slice a 0 cap)∧w'=w:=Any.slices_Compact_int_empty Tryz.laysNm220 a cap w
open Go.RowKit Go.Sort in
theorem Tryz.slices_Sort_int_none (p:Option Addr) (cap:Nat) (w:World) :
  Calls Tryz.prog 220 #[.slice p 0 cap] w fun e w'=>e = .returned (.tuple #[])∧w'=w:=Any.slices_Sort_int_none Tryz.lays189 p cap w
def Tryz.laysSortF_ren:Go.Shelf.Ren:=⟨fun | 6=>204 | 15=>215 | 14=>214 | 28=>231 | 29=>232 | 20=>223 | 21=>224 | 22=>225 | 23=>226 | 24=>227 | 25=>228 | 26=>229 | 27=>230 | 46=>235 | 47=>236 | 48=>237 | 49=>238 | 50=>239 | 57=>249 | n=>n,fun | 22=>22 | 24=>3 | 25=>207 | 3=>3 | 39=>215 | 0=>0 | 53=>231 | 55=>233 | 4=>4 | 46=>224 | 45=>223 | 50=>228 | 5=>5 | 9=>9 | 66=>236 | 70=>240 | 76=>247 | 77=>97 | n=>n,fun | n=>n⟩
theorem Tryz.laysSortF:Go.Proofs.SlLaysF.n6 Tryz.prog Tryz.laysSortF_ren:={
 mixed:=by kernel_rfl
 f6:=⟨Tryz.f204.name,by decide,Tryz.func204.trans (congrArg some (by kernel_rfl))⟩
 f14:=⟨Tryz.f214.name,by decide,Tryz.func214.trans (congrArg some (by kernel_rfl))⟩
 f15:=Tryz.func215.trans (congrArg some (by kernel_rfl))
 f20:=⟨Tryz.f223.name,by decide,Tryz.func223.trans (congrArg some (by kernel_rfl))⟩
 f21:=⟨Tryz.f224.name,by decide,Tryz.func224.trans (congrArg some (by kernel_rfl))⟩
 f22:=⟨Tryz.f225.name,by decide,Tryz.func225.trans (congrArg some (by kernel_rfl))⟩
 f23:=⟨Tryz.f226.name,by decide,Tryz.func226.trans (congrArg some (by kernel_rfl))⟩
 f24:=⟨Tryz.f227.name,by decide,Tryz.func227.trans (congrArg some (by kernel_rfl))⟩
 f25:=⟨Tryz.f228.name,by decide,Tryz.func228.trans (congrArg some (by kernel_rfl))⟩
 f26:=⟨Tryz.f229.name,by decide,Tryz.func229.trans (congrArg some (by kernel_rfl))⟩
 f27:=⟨Tryz.f230.name,by decide,Tryz.func230.trans (congrArg some (by kernel_rfl))⟩
 f28:=Tryz.func231.trans (congrArg some (by kernel_rfl))
 f29:=Tryz.func232.trans (congrArg some (by kernel_rfl))
 f46:=⟨Tryz.f235.name,by decide,Tryz.func235.trans (congrArg some (by kernel_rfl))⟩
 f47:=Tryz.func236.trans (congrArg some (by kernel_rfl))
 f48:=Tryz.func237.trans (congrArg some (by kernel_rfl))
 f49:=⟨Tryz.f238.name,by decide,Tryz.func238.trans (congrArg some (by kernel_rfl))⟩
 f50:=⟨Tryz.f239.name,by decide,Tryz.func239.trans (congrArg some (by kernel_rfl))⟩
 f57:=⟨Tryz.f249.name,by decide,Tryz.func249.trans (congrArg some (by kernel_rfl))⟩
 t0:=Tryz.underlying0
 a0:=Tryz.isAgg0
 z0:=Tryz.sizeOf0
 v0:=Tryz.zeroValue0
 t3:=Tryz.underlying3
 a3:=Tryz.isAgg3
 z3:=Tryz.sizeOf3
 v3:=Tryz.zeroValue3
 t4:=Tryz.underlying4
 a4:=Tryz.isAgg4
 z4:=Tryz.sizeOf4
 v4:=Tryz.zeroValue4
 t5:=Tryz.underlying5
 a5:=Tryz.isAgg5
 z5:=Tryz.sizeOf5
 v5:=Tryz.zeroValue5
 t9:=Tryz.underlying9
 a9:=Tryz.isAgg9
 z9:=Tryz.sizeOf9
 v9:=Tryz.zeroValue9
 t22:=Tryz.underlying22
 a22:=Tryz.isAgg22
 z22:=Tryz.sizeOf22
 v22:=Tryz.zeroValue22
 a24:=Tryz.isAgg3
 z24:=Tryz.sizeOf3
 t25:=Tryz.underlying207
 a25:=Tryz.isAgg207
 z25:=Tryz.sizeOf207
 v25:=Tryz.zeroValue207
 t39:=Tryz.underlying215
 a39:=Tryz.isAgg215
 z39:=Tryz.sizeOf215
 v39:=Tryz.zeroValue215
 t45:=Tryz.underlying223
 a45:=Tryz.isAgg223
 z45:=Tryz.sizeOf223
 v45:=Tryz.zeroValue223
 t46:=Tryz.underlying224
 a46:=Tryz.isAgg224
 z46:=Tryz.sizeOf224
 v46:=Tryz.zeroValue224
 t50:=Tryz.underlying228
 a50:=Tryz.isAgg228
 z50:=Tryz.sizeOf228
 v50:=Tryz.zeroValue228
 t53:=Tryz.underlying231
 a53:=Tryz.isAgg231
 z53:=Tryz.sizeOf231
 v53:=Tryz.zeroValue231
 t55:=Tryz.underlying233
 a55:=Tryz.isAgg233
 z55:=Tryz.sizeOf233
 v55:=Tryz.zeroValue233
 t66:=Tryz.underlying236
 a66:=Tryz.isAgg236
 z66:=Tryz.sizeOf236
 v66:=Tryz.zeroValue236
 t70:=Tryz.underlying240
 a70:=Tryz.isAgg240
 z70:=Tryz.sizeOf240
 v70:=Tryz.zeroValue240
 t76:=Tryz.underlying247
 a76:=Tryz.isAgg247
 z76:=Tryz.sizeOf247
 v76:=Tryz.zeroValue247
 t77:=Tryz.underlying97
 a77:=Tryz.isAgg97
 z77:=Tryz.sizeOf97
 v77:=Tryz.zeroValue97}
end Go.Proofs
namespace Go.Proofs.YteabcgkjbnecaaaGreat
open Go.RowKit
def zez (xs:List Int):List Int:=xs.mergeSort fun x y=>decide (x≤y)
def zmW (base:Nat) (w:World) (v:Value) (l:List Int) (e:Ending) (w':World):Prop:=e = .returned (.tuple #[])∧OwnI base w' v l∧w.grownBy w' v.ownBlock
theorem zsy (base:Nat) (a:Option Addr) (n c:Nat) (xs:List Int) (w:World) (ho:OwnI base w (.slice a n c) xs) (hl:n<4611686018427387904) :
    Calls Tryz.prog 220 #[.slice a n c] w (zmW base w (.slice a n c) (zez xs)):=by
  by_cases h0:xs=[]
  · subst h0
    have hn:n=0:=by
      obtain ⟨h1,⟨hh,h2⟩ | ⟨g,cap,cur,hv,hg,hh,r⟩⟩:=ho
      · simp at hh;omega
      · simp at hv;omega
    subst hn
    refine (Tryz.slices_Sort_int_none a c w).mono ?_
    rintro e w' ⟨rfl,rfl⟩
    exact ⟨rfl,by simpa [zez] using ho,World.grownBy.refl _ _⟩
  · cases a with
    | none => exfalso
              obtain ⟨h1,⟨hh,h2⟩ | ⟨g,cap,cur,hv,_⟩⟩:=ho
              · exact h0 (List.eq_nil_of_length_eq_zero h2)
              · simp at hv
    | some ad=>
      have ho':=ho
      obtain ⟨h1,⟨hh,h2⟩ | ⟨g,cap,cur,hv,hg,hh,hle,hm,hs,ht⟩⟩:=ho
      · simp at hh
      · simp only [Value.slice.injEq,Option.some.injEq] at hv
        obtain ⟨rfl,rfl,rfl⟩:=hv
        rw [Nat.mul_one] at ht
        have hH:=holds_of_blockI hh ht
        refine (Tryz.slices_Sort_int g 0 c xs w hH (Array.getElem?_eq_some_iff.1 hh).1 hl).mono ?_
        rintro e w' ⟨rfl,n,os,rfl⟩
        refine ⟨rfl,?_,grownBy_sortedI _⟩
        have e1:(zez xs).length=xs.length:=by simp [zez]
        have:=ownsRow_sortedI (n:=n) (os:=os) (ss:=xs) (ts:=zez xs) e1 hg hh hle hm hs
        show World.ownsRow _ _ _ _ _ _ _
        rw [e1];exact this
def zwL (base:Nat) (w:World) (v:Value) (l:List Int) (e:Ending) (w':World):Prop:=∃ v',e = .returned v'∧OwnI base w' v' l∧w.grownBy w' v.ownBlock
theorem zlh (base:Nat) (a:Option Addr) (n c:Nat) (xs:List Int) (w:World) (ho:OwnI base w (.slice a n c) xs) (hl:n≤9223372036854775807) :
    Calls Tryz.prog 221 #[.slice a n c] w (zwL base w (.slice a n c) (Lib.compact xs)):=by
  by_cases h0:xs=[]
  · subst h0
    have hn:n=0:=by
      obtain ⟨h1,⟨hh,h2⟩ | ⟨g,cap,cur,hv,hg,hh,r⟩⟩:=ho
      · simp at hh;omega
      · simp at hv;omega
    subst hn
    refine (Tryz.slices_Compact_int_empty a c w).mono ?_
    rintro e w' ⟨rfl,rfl⟩
    exact ⟨_,rfl,ho,World.grownBy.refl _ _⟩
  · cases a with
    | none => exfalso
              obtain ⟨h1,⟨hh,h2⟩ | ⟨g,cap,cur,hv,_⟩⟩:=ho
              · exact h0 (List.eq_nil_of_length_eq_zero h2)
              · simp at hv
    | some ad=>
      have ho':=ho
      obtain ⟨h1,⟨hh,h2⟩ | ⟨g,cap,cur,hv,hg,hh,hle,hm,hs,ht⟩⟩:=ho
      · simp at hh
      · simp only [Value.slice.injEq,Option.some.injEq] at hv
        obtain ⟨rfl,rfl,rfl⟩:=hv
        rw [Nat.mul_one] at ht
        have hH:=holds_of_blockI hh ht
        refine (Tryz.slices_Compact_int g 0 c xs w hH hl hle).mono ?_
        rintro e w' ⟨rfl,q,rfl⟩
        have hcl:=Lib.compact_length_le xs
        have hlen:(Lib.compact xs++List.replicate (xs.length-(Lib.compact xs).length) 0).length=xs.length:=by simp;omega
        refine ⟨_,rfl,?_,grownBy_sortedI (n:=q) (os:= #[]) _⟩
        have:=Lib.ownsRow_putRow (q:=q) ho' hlen hcl
        rw [List.take_left] at this
        exact this
def zaV (xs:List Int):List Int:=Lib.compact (zez xs)
theorem zsz {xs:List Int} (h:∀ x∈xs,-9223372036854775808≤x∧x≤9223372036854775807):∀ x∈zez xs,-9223372036854775808≤x∧x≤9223372036854775807:=
 fun x hx=>h x ((List.mergeSort_perm xs _).mem_iff.1 hx)
theorem zgv {xs:List Int} {x:Int} (h:x∈Lib.compact xs):x∈xs:=by
 unfold Lib.compact Lib.compactUpTo at h
 obtain ⟨i,hi,e⟩:=List.mem_map.1 h
 have h2:=(List.mem_filter.1 hi).1
 rw [List.mem_range] at h2
 rw [← e,getElem!_pos _ _ (by simpa using h2)]
 simp
theorem zha (gr:Nat) (a:Option Addr) (n ca:Nat) (xs:List Int) (b:Option Addr) (m cb:Nat) (ys:List Int) (w:World)
  (h0:w.cell? ⟨gr,0,none⟩=some (.slice a n ca)) (h1:w.cell? ⟨gr,1,none⟩=some (.slice b m cb)) (hgr:gr<w.heap.size) (ha:IntSl w a n xs) (hb:IntSl w b m ys) (hna:a=none→ca=0) (hnb:b=none→cb=0) (hn:n≤1099511627776) (hm:m≤1099511627776) (code:Int) (l:List Int)
  (hcl:((zaV (xs++ys)).length≤16∧code=0∧l=zaV (xs++ys))∨(16<(zaV (xs++ys)).length∧code=2∧l=[])) :
  Calls Tryz.prog 210 #[.slice (some ⟨gr,0,none⟩) 2 2] w (zbU w code l):=by
 have hbd:∀ x∈xs++ys,-9223372036854775808≤x∧x≤9223372036854775807:=by
  intro x hx
  rcases List.mem_append.1 hx with h | h
  ·exact ha.bd x h
  ·exact hb.bd x h
 have hlx:(xs++ys).length=n+m:=by simp [ha.len,hb.len]
 have hls:(zez (xs++ys)).length=n+m:=by simp [zez,ha.len,hb.len]
 have HLX:=Lib.hid hlx
 have HLS:=Lib.hid hls
 have hbs:=zsz hbd
 have hcc:=zlg gr a n ca xs b m cb ys w h0 h1 hgr ha hb hna hnb hn hm
 generalize hz:xs++ys=zs at *
 have hbc:(zaV zs).length≤n+m:=by have:=Lib.compact_length_le (zez zs);unfold zaV;omega
 have hbm:∀ x∈zaV zs,-9223372036854775808≤x∧x≤9223372036854775807:=fun x hx=>hbs x (zgv hx)
 have HCL:=Lib.hid hcl
 clear hlx hls hz h0 h1 hcl
 go_enter Tryz.func210,Tryz.ntmps210
 go_wp2_with fail
 refine hcc.mono ?_
 rintro e w1 ⟨v1,rfl,ho1,hb1⟩
 obtain ⟨a1,c1,rfl,hs1⟩:=ho1.sl hbd
 have z1:=hb1.size
 have HO1:=Lib.hid ho1
 have HB1:=Lib.hid hb1
 have hz63:zs.length<4611686018427387904:=by have:=HLX.out;omega
 clear hs1 ho1 hb1
 go_wp2_with fail
 refine (zsy w.heap.size _ _ _ zs _ HO1.out hz63).mono ?_
 rintro e w2 ⟨rfl,ho2,hg2⟩
 have HB2:=Lib.hid (HO1.out.bel HB1.out hg2 z1)
 have z2:=HB2.out.size
 have HO2:=Lib.hid ho2
 clear ho2 hg2
 have hz64:zs.length≤9223372036854775807:=by omega
 go_wp2_with fail
 refine (zlh w.heap.size _ _ _ (zez zs) _ HO2.out hz64).mono ?_
 rintro e w3 ⟨v3,rfl,ho3,hg3⟩
 have HB3:=Lib.hid (HO2.out.bel HB2.out hg3 z2)
 obtain ⟨a3,c3,rfl,hs3⟩:=OwnI.sl (xs:=zaV zs) ho3 hbm
 have HO3:Hid (OwnI w.heap.size w3 (.slice a3 (zaV zs).length c3) (zaV zs)):=ho3
 have hl3:(Lib.compact (zez zs)).length=(zaV zs).length:=rfl
 clear ho3 hg3 hs3 hl3
 rcases HCL.out with ⟨h16,rfl,rfl⟩ | ⟨h16,rfl,rfl⟩
 ·have t1:¬ (16:Int)<((zaV zs).length:Int):=by omega
  generalize hml:(zaV zs).length=ml at *
  clear hml
  go_wp2_with fail
  go_ret2
  exact ⟨_,rfl,HO3.out,HB3.out⟩
 ·have t1:(16:Int)<((zaV zs).length:Int):=by omega
  generalize hml:(zaV zs).length=ml at *
  clear hml
  go_wp2_with fail
  go_ret2
  exact ⟨_,rfl,OwnI.nil _ _,HB3.out⟩
theorem zuo (n:Int) (w:World) (h:1≤n) (h2:n≤9223372036854775807) :
  Calls Tryz.prog 206 #[.int .i64 n] w fun e w'=>e = .returned (.int .i64 (n / 2+1))∧w=w':=by
 have h':¬ n<1:=by omega
 go_enter Tryz.func206,Tryz.ntmps206
 go_wp2
 go_ret
 exact ⟨rfl,rfl⟩
theorem zc1 (k n:Int) (b:Bool) (w:World) (h:0≤k) (h2:k≤n) (h3:n≤9223372036854775807) (hb:decide (n-k<k)=b) :
  Calls Tryz.prog 211 #[.int .i64 k,.int .i64 n] w fun e w'=>e = .returned (.bool b)∧w=w':=by
 subst hb
 go_enter Tryz.func211,Tryz.ntmps211
 go_wp2
 go_ret
 exact ⟨rfl,rfl⟩
def zcH (xs ys:List Int):Nat→Nat
 | 0=>0
 | k+1=>zcH xs ys k+(hasB ys (el xs k)).toNat
theorem zfw (xs ys:List Int) (k:Nat):zcH xs ys k≤k:=by
 induction k with
 | zero=>exact Nat.le_refl _
 | succ k ih=>unfold zcH;cases hasB ys (el xs k)<;>simp<;>omega
theorem zkr (b:Option Addr) (m cb:Nat) (ys:List Int) (v:Int) (w:World) (hb:IntSl w b m ys) :
  Calls Tryz.prog 218 #[.agg #[.slice b m cb],.int .i64 v] w fun e w'=>e = .returned (.bool (hasB ys v))∧Below w.heap.size w w':=by
 go_enter Tryz.func218,Tryz.ntmps218
 go_wp2_with fail
 refine (zpP _ _ _ ys _ _ (by repeat (first | assumption | apply IntSl.drewN | apply IntSl.alloc))).mono ?_
 rintro e w' ⟨rfl,rfl⟩
 go_wp2_with fail
 go_ret
 exact ⟨rfl,by repeat (first | exact Below.refl _ _ | refine zb9 ?_ _ | refine Below.alloc ?_ (by simp<;>omega) _)⟩
theorem zrs (a:Option Addr) (n ca:Nat) (xs:List Int) (b:Option Addr) (m cb:Nat) (ys:List Int) (w:World) (ha:IntSl w a n xs) (hb:IntSl w b m ys) :
  Calls Tryz.prog 217 #[.slice a n ca,.func (.func 218) #[.agg #[.slice b m cb]] #[]] w fun e w'=>e = .returned (.int .i64 (zcH xs ys n))∧Below w.heap.size w w':=by
 have hm:=ha.mx
 go_enter Tryz.func217,Tryz.ntmps217
 go_wp2
 go_loopw [5,10] (fun t i wr=>∃ k:Nat,k≤n∧i = .int .i64 k∧t = .int .i64 (zcH xs ys k)∧Below w.heap.size w wr) (fun _ i _=>n-(intOf i).toNat)
 case atStart=>exact ⟨0,Nat.zero_le _,rfl,rfl,Below.refl _ _⟩
 case round=>
  obtain ⟨k,hk,rfl,rfl,hbel⟩:=hrel
  by_cases hlt:k<n
  ·have k0:(0:Int)≤(k:Int):=by omega
   have k1:(k:Int)<(n:Int):=by omega
   have hbw:=hb.below hbel
   obtain ⟨ba,oa,rfl,_,hca⟩:=(ha.below hbel).row (by omega)
   have ca:=hca k (by omega)
   have hle:=zfw xs ys k
   have hsc:(zcH xs ys (k+1):Int)=zcH xs ys k+((hasB ys (el xs k)).toNat:Int):=by simp [zcH]
   have HSC:=Lib.hid hsc
   clear hca hsc
   cases hbool:hasB ys (el xs k)
   all_goals
    have HB:=Lib.hid hbool
    clear hbool
    go_wp2_with fail
    refine (zkr _ _ _ ys _ _ hbw).mono ?_
    rw [HB.out]
    rintro e w' ⟨rfl,hb2⟩
    go_wp2_with fail
    go_roundw
    case rel=>exact ⟨k+1,by omega,by go_num,by rw [HSC.out,HB.out];simp,hbel.trans (hb2.mono hbel.size)⟩
    case measure=>simp [intOf];omega
  ·have k1:¬ (k:Int)<(n:Int):=by omega
   obtain rfl:k=n:=by omega
   go_wp2
   go_ret
   exact ⟨rfl,hbel⟩
noncomputable def zcS (xs ys:List Int):Bool:=isB xs&&decide ((0:Int)<(xs.length:Int))&&decide ((xs.length:Int)-(zcH xs ys xs.length:Int)<(zcH xs ys xs.length:Int))
theorem zjh {xs ys:List Int} (h:isB xs=false):zcS xs ys=false:=by simp [zcS,h]
theorem zgU {xs ys:List Int} {n:Nat} (hn:xs.length=n) (h:n=0):zcS xs ys=false:=by
 have:¬ (0:Int)<(xs.length:Int):=by omega
 simp only [zcS,this,decide_false,Bool.and_false,Bool.false_and]
theorem zgT {xs ys:List Int} {n:Nat} (hn:xs.length=n) (hp:0<n) (h:isB xs=true):zcS xs ys=decide ((n:Int)-(zcH xs ys n:Int)<(zcH xs ys n:Int)):=by
 subst hn
 have:(0:Int)<(xs.length:Int):=by omega
 simp only [zcS,h,this,decide_true,Bool.true_and]
set_option maxRecDepth 100000 in
theorem zk5 (a:Option Addr) (n ca:Nat) (xs:List Int) (b:Option Addr) (m cb:Nat) (ys:List Int) (w:World) (ha:IntSl w a n xs) (hb:IntSl w b m ys) :
  Calls Tryz.prog 208 #[.slice a n ca,.slice b m cb] w fun e w'=>e = .returned (.bool (zcS xs ys))∧Below w.heap.size w w':=by
 have hm:=ha.mx
 cases his:isB xs
 case false=>
  have HR:=Lib.hid (zjh (ys:=ys) his)
  have HI:=Lib.hid his
  clear his
  go_enter Tryz.func208,Tryz.ntmps208
  go_wp2_with fail
  refine (zc0 _ _ _ xs _ ha).mono ?_
  rw [HI.out]
  rintro e w' ⟨rfl,q,rfl⟩
  go_wp2_with fail
  go_ret
  exact ⟨by rw [HR.out];rfl,by repeat (first | exact Below.refl _ _ | refine zb9 ?_ _ | refine Below.alloc ?_ (by simp<;>omega) _)⟩
 case true=>
  by_cases h0:n=0
  ·have HR:=Lib.hid (zgU (ys:=ys) ha.len h0)
   have HI:=Lib.hid his
   clear his
   subst h0
   go_enter Tryz.func208,Tryz.ntmps208
   go_wp2_with fail
   refine (zc0 _ _ _ xs _ ha).mono ?_
   rw [HI.out]
   rintro e w' ⟨rfl,q,rfl⟩
   go_wp2_with fail
   go_ret
   exact ⟨by rw [HR.out];rfl,by repeat (first | exact Below.refl _ _ | refine zb9 ?_ _ | refine Below.alloc ?_ (by simp<;>omega) _)⟩
  ·have hry:=zgT (ys:=ys) ha.len (by omega) his
   have hle:=zfw xs ys n
   have HR:Hid (zcS xs ys=decide ((n:Int) / 2+1≤(zcH xs ys n:Int))):=by
    show _=_
    rw [hry];congr 1;simp only [eq_iff_iff];omega
   have HI:=Lib.hid his
   clear his hry
   have h0':(0:Int)<(n:Int):=by omega
   go_enter Tryz.func208,Tryz.ntmps208
   go_wp2_with fail
   refine (zc0 _ _ _ xs _ ha).mono ?_
   rw [HI.out]
   rintro e w' ⟨rfl,q,rfl⟩
   go_wp2_with fail
   refine (zrs _ _ _ xs _ _ _ ys _ (by repeat (first | assumption | apply IntSl.drewN | apply IntSl.alloc)) (by repeat (first | assumption | apply IntSl.drewN | apply IntSl.alloc))).mono ?_
   rintro e w1 ⟨rfl,hbel⟩
   go_wp2_with fail
   refine (zuo _ _ (by omega) (by omega)).mono ?_
   rintro e w2 ⟨rfl,rfl⟩
   go_wp2_with fail
   go_ret
   exact ⟨by rw [HR.out];rfl,(zb9 (Below.refl _ _) _).trans hbel⟩
set_option maxRecDepth 100000 in
theorem ziV (a:Option Addr) (n ca:Nat) (xs:List Int) (b:Option Addr) (m cb:Nat) (ys:List Int) (w:World) (ha:IntSl w a n xs) (hb:IntSl w b m ys) :
  Calls Tryz.prog 209 #[.slice a n ca,.slice b m cb] w fun e w'=>e = .returned (.bool (zcS xs ys))∧Dr w w':=by
 have hm:=ha.mx
 go_enter Tryz.func209,Tryz.ntmps209
 go_wp2
 go_loop [5,6] (fun t i=>∃ k:Nat,k≤n∧i = .int .i64 k∧t = .int .i64 (zcH xs ys k)) (fun _ i=>n-(intOf i).toNat)
 case atStart=>exact ⟨0,Nat.zero_le _,rfl,rfl⟩
 case round=>
  obtain ⟨k,hk,rfl,rfl⟩:=hrel
  by_cases hlt:k<n
  ·have k0:(0:Int)≤(k:Int):=by omega
   have k1:(k:Int)<(n:Int):=by omega
   obtain ⟨ba,oa,rfl,_,hca⟩:=ha.row (by omega)
   have ca:=hca k (by omega)
   have hle:=zfw xs ys k
   have hsc:(zcH xs ys (k+1):Int)=zcH xs ys k+((hasB ys (el xs k)).toNat:Int):=by simp [zcH]
   have HSC:=Lib.hid hsc
   clear hca hsc
   cases hbool:hasB ys (el xs k)
   all_goals
    have HB:=Lib.hid hbool
    clear hbool
    go_wp2_with fail
    refine (zhJ _ _ _ ys _ _ hb).mono ?_
    rw [HB.out]
    rintro e w' ⟨rfl,rfl⟩
    go_wp2_with fail
    go_round
    case rel=>exact ⟨k+1,by omega,by go_num,by rw [HSC.out,HB.out];simp⟩
    case measure=>simp [intOf];omega
  ·have k1:¬ (k:Int)<(n:Int):=by omega
   obtain rfl:k=n:=by omega
   clear hk hlt
   cases his:isB xs
   case false=>
    have HR:=Lib.hid (zjh (ys:=ys) his)
    have HI:=Lib.hid his
    clear his
    go_wp2_with fail
    refine (zhI _ _ _ xs _ ha).mono ?_
    rw [HI.out]
    rintro e w' ⟨rfl,q,rfl⟩
    go_wp2_with fail
    go_ret
    exact ⟨by rw [HR.out];rfl,⟨_,rfl⟩⟩
   case true=>
    by_cases h0:k=0
    ·have HR:=Lib.hid (zgU (ys:=ys) ha.len h0)
     have HI:=Lib.hid his
     clear his
     subst h0
     go_wp2_with fail
     refine (zhI _ _ _ xs _ ha).mono ?_
     rw [HI.out]
     rintro e w' ⟨rfl,q,rfl⟩
     go_wp2_with fail
     go_ret
     exact ⟨by rw [HR.out];rfl,⟨_,rfl⟩⟩
    ·have hry:=zgT (ys:=ys) ha.len (by omega) his
     have hle:=zfw xs ys k
     have HR:=Lib.hid hry
     have HI:=Lib.hid his
     clear his hry
     have h0':(0:Int)<(k:Int):=by omega
     go_wp2_with fail
     refine (zhI _ _ _ xs _ ha).mono ?_
     rw [HI.out]
     rintro e w' ⟨rfl,q,rfl⟩
     go_wp2_with fail
     refine (zc1 _ _ _ _ (by omega) (by omega) (by omega) rfl).mono ?_
     rintro e w2 ⟨rfl,rfl⟩
     go_wp2_with fail
     go_ret
     exact ⟨by rw [HR.out];rfl,⟨_,rfl⟩⟩
theorem zgW (xs:List Int) (v:Int) (k:Nat) (hk:k≤xs.length):zdB xs v k=(xs.take k).foldl (zb5 v) ([],hasB xs v):=by
 induction k with
 | zero=>simp [zdB]
 | succ k ih=>
  have e:el xs k=xs[k]'(by omega):=by simp [el,show k<xs.length by omega]
  rw [zdB,ih (by omega),List.take_succ_eq_append_getElem (by omega),List.foldl_append,e];rfl
theorem zjF (v:Int) (l o:List Int):l.foldl (zb5 v) (o,true)=(o++l,true):=by
 induction l generalizing o with
 | nil=>simp
 | cons x l ih=>rw [List.foldl_cons];simp only [zb5,reduceCtorEq,false_and,if_false];rw [ih];simp
def ins (v:Int):List Int→List Int
 | []=>[v]
 | x::l=>if v<x then v::x::l else x::ins v l
theorem zn1 (v:Int) (l o:List Int):(if (l.foldl (zb5 v) (o,false)).2 then (l.foldl (zb5 v) (o,false)).1 else (l.foldl (zb5 v) (o,false)).1++[v])=o++ins v l:=by
 induction l generalizing o with
 | nil=>simp [ins]
 | cons x l ih=>
  rw [List.foldl_cons]
  by_cases h:v<x
  ·have e:zb5 v (o,false) x=(o++[v]++[x],true):=by simp [zb5,h]
   rw [e,zjF];simp [ins,h]
  ·have e:zb5 v (o,false) x=(o++[x],false):=by simp [zb5,h]
   rw [e,ih];simp [ins,h]
theorem zhK {xs:List Int} {v:Int} (h:hasB xs v=true):putL xs v=xs:=by
 unfold putL
 rw [zgW _ _ _ (Nat.le_refl _),h,List.take_length,zjF];simp
theorem zfn {xs:List Int} {v:Int} (h:hasB xs v=false):putL xs v=ins v xs:=by
 unfold putL
 rw [zgW _ _ _ (Nat.le_refl _),h,List.take_length,zn1];simp
theorem zpE (v:Int) (l:List Int):(ins v l).length=l.length+1:=by
 induction l with
 | nil=>rfl
 | cons x l ih=>unfold ins;split<;>simp [ih]
def Asc (l:List Int):Prop:=l.Pairwise (· < ·)
theorem zlp:∀ {a b:List Int},Asc a→Asc b→(∀ x,x∈a↔x∈b)→a=b
 | [],[],_,_,_=>rfl
 | [],y::b,_,_,h=>absurd ((h y).2 (by simp)) (by simp)
 | x::a,[],_,_,h=>absurd ((h x).1 (by simp)) (by simp)
 | x::a,y::b,ha,hb,h=>by
  have ha':=List.pairwise_cons.1 ha
  have hb':=List.pairwise_cons.1 hb
  have hxy:x=y:=by
   have h1:=(h x).1 (by simp)
   have h2:=(h y).2 (by simp)
   rcases List.mem_cons.1 h1 with e | h1
   ·exact e
   ·rcases List.mem_cons.1 h2 with e | h2
    ·exact e.symm
    ·have:=hb'.1 x h1;have:=ha'.1 y h2;omega
  subst hxy
  congr 1
  refine zlp ha'.2 hb'.2 fun z=>?_
  constructor
  ·intro hz
   have h1:=(h z).1 (List.mem_cons_of_mem _ hz)
   rcases List.mem_cons.1 h1 with e | h1
   ·subst e;exact absurd (ha'.1 z hz) (by omega)
   ·exact h1
  ·intro hz
   have h1:=(h z).2 (List.mem_cons_of_mem _ hz)
   rcases List.mem_cons.1 h1 with e | h1
   ·subst e;exact absurd (hb'.1 z hz) (by omega)
   ·exact h1
theorem zoM {xs:List Int} (h:zhH xs xs.length):Asc xs:=by
 unfold Asc
 rw [List.pairwise_iff_getElem]
 intro i j hi hj hij
 induction j with
 | zero=>omega
 | succ j ih=>
  have h1:=h j (by omega)
  rw [zbP (by omega),zbP (by omega)] at h1
  by_cases e:i=j
  ·subst e;exact h1
  ·have:=ih (by omega) (by omega);omega
theorem zrD {xs:List Int} (h:Asc xs):zhH xs xs.length:=by
 intro i hi
 rw [zbP (by omega),zbP hi]
 exact (List.pairwise_iff_getElem.1 h) i (i+1) (by omega) hi (by omega)
theorem isB_asc {xs:List Int}:isB xs=true↔Asc xs∧xs.length≤16:=by
 rw [zkH];exact ⟨fun h=>⟨zoM h.1,h.2⟩,fun h=>⟨zrD h.1,h.2⟩⟩
theorem keeps_iff {d:Array Int} {i:Nat}:Lib.keeps d i=true↔i=0∨d[i]! ≠ d[i-1]! := by simp [Lib.keeps]
theorem zli {xs:List Int} (h:xs.Pairwise (· ≤ ·)):Asc (Lib.compact xs):=by
 unfold Asc Lib.compact Lib.compactUpTo
 rw [List.pairwise_map]
 have h1:((List.range xs.length).filter (Lib.keeps xs.toArray)).Pairwise (· < ·):=List.pairwise_lt_range.filter _
 refine h1.imp_of_mem fun {i j} hi hj hij=>?_
 have hi':=List.mem_filter.1 hi
 have hj':=List.mem_filter.1 hj
 have hil:=List.mem_range.1 hi'.1
 have hjl:=List.mem_range.1 hj'.1
 rcases keeps_iff.1 hj'.2 with e | e
 ·omega
 ·rw [getElem!_pos _ _ (by simpa using hjl),getElem!_pos _ _ (by simp;omega)] at e
  rw [getElem!_pos _ _ (by simpa using hil),getElem!_pos _ _ (by simpa using hjl)]
  simp only [List.getElem_toArray] at *
  have hp:=List.pairwise_iff_getElem.1 h
  have q1:xs[j-1]≤xs[j]:=hp (j-1) j (by omega) hjl (by omega)
  have q2:xs[i]≤xs[j-1]:=by
   by_cases e2:i=j-1
   ·subst e2;exact Int.le_refl _
   ·exact hp i (j-1) hil (by omega) (by omega)
  omega
theorem zgu {xs:List Int} {x:Int}:x∈Lib.compact xs↔x∈xs:=by
 refine ⟨zgv,fun h=>?_⟩
 have hlt:xs.findIdx (fun y=>y==x)<xs.length:=List.findIdx_lt_length_of_exists ⟨x,h,by simp⟩
 have hx:xs[xs.findIdx (fun y=>y==x)]=x:=by
  have:=List.findIdx_getElem (w:=hlt);simpa using this
 unfold Lib.compact Lib.compactUpTo
 refine List.mem_map.2 ⟨xs.findIdx (fun y=>y==x),List.mem_filter.2 ⟨List.mem_range.2 hlt,?_⟩,?_⟩
 ·rw [keeps_iff]
  by_cases h0:xs.findIdx (fun y=>y==x)=0
  ·exact .inl h0
  ·right
   rw [getElem!_pos _ _ (by simpa using hlt),getElem!_pos _ _ (by simp;omega)]
   simp only [List.getElem_toArray]
   rw [hx]
   have:=List.not_of_lt_findIdx (p:=fun y=>y==x) (xs:=xs) (i:=xs.findIdx (fun y=>y==x)-1) (by omega)
   simp at this
   exact fun e=>this e.symm
 ·rw [getElem!_pos _ _ (by simpa using hlt)];simpa using hx
theorem ziN (xs:List Int):(zez xs).Pairwise (· ≤ ·):=by
 have:=List.pairwise_mergeSort (le:=fun x y:Int=>decide (x≤y)) (fun a b c=>by simp;omega) (fun a b=>by simp;omega) xs
 exact this.imp (by simp)
theorem zhb (xs:List Int):Asc (zaV xs):=zli (ziN xs)
theorem mergeL_mem {xs:List Int} {x:Int}:x∈zaV xs↔x∈xs:=by
 unfold zaV;rw [zgu];exact (List.mergeSort_perm xs _).mem_iff
theorem ins_mem {v x:Int} {l:List Int}:x∈ins v l↔x=v∨x∈l:=by
 induction l with
 | nil=>simp [ins]
 | cons y l ih=>
  unfold ins
  split
  ·simp
  ·simp [ih,or_left_comm]
theorem zvD {v:Int} {l:List Int} (h:Asc l) (hv:v∉l):Asc (ins v l):=by
 induction l with
 | nil=>simp [ins,Asc]
 | cons y l ih=>
  have h':=List.pairwise_cons.1 h
  unfold ins
  split
  ·rename_i hlt
   refine List.pairwise_cons.2 ⟨fun z hz=>?_,h⟩
   rcases List.mem_cons.1 hz with rfl | hz
   ·exact hlt
   ·have:=h'.1 z hz;omega
  ·rename_i hlt
   refine List.pairwise_cons.2 ⟨fun z hz=>?_,ih h'.2 (fun hm=>hv (List.mem_cons_of_mem _ hm))⟩
   rcases ins_mem.1 hz with rfl | hz
   ·have:z≠y:=fun e=>hv (by simp [e]);omega
   ·exact h'.1 z hz
theorem hasB_iff {xs:List Int} {v:Int}:hasB xs v=true↔v∈xs:=by simp [hasB]
theorem hasB_not {xs:List Int} {v:Int}:hasB xs v=false↔v∉xs:=by simp [hasB]
theorem putL_mem {xs:List Int} {v x:Int}:x∈putL xs v↔x=v∨x∈xs:=by
 cases h:hasB xs v
 ·rw [zfn h,ins_mem]
 ·rw [zhK h]
  have:=hasB_iff.1 h
  exact ⟨.inr,fun e=>e.elim (fun e=>e▸this) id⟩
theorem zhL {xs:List Int} {v:Int} (h:Asc xs):Asc (putL xs v):=by
 cases hb:hasB xs v
 ·rw [zfn hb];exact zvD h (hasB_not.1 hb)
 ·rw [zhK hb];exact h
theorem znt {xs:List Int} {v:Int} (h:Asc xs):zaV (xs++[v])=putL xs v:=
 zlp (zhb _) (zhL h) fun x=>by rw [mergeL_mem,putL_mem];simp [or_comm]
def zaR (xs:List Int) (ys:List Int):List Int:=ys.foldl putL xs
theorem zgX {xs ys:List Int} {x:Int}:x∈zaR xs ys↔x∈xs∨x∈ys:=by
 induction ys generalizing xs with
 | nil=>simp [zaR]
 | cons y ys ih=>
  show x∈zaR (putL xs y) ys↔_
  rw [ih,putL_mem]
  simp [or_assoc,or_left_comm]
theorem ze2 {xs ys:List Int} (h:Asc xs):Asc (zaR xs ys):=by
 induction ys generalizing xs with
 | nil=>exact h
 | cons y ys ih=>exact ih (zhL h)
theorem zhT {xs ys:List Int} (h:Asc xs):zaV (xs++ys)=zaR xs ys:=
 zlp (zhb _) (ze2 h) fun x=>by rw [mergeL_mem,zgX];simp
noncomputable def zck (xs:List Int) (v:Int):Int×List Int:=if isB xs then (0,zbh xs v) else (1,[])
noncomputable def cutR (l:List Int):Int×List Int:=if l.length≤16 then (0,l) else (2,[])
noncomputable def ziB (xs:List Int) (v:Int):Int×List Int:=if isB xs then cutR (putL xs v) else (1,[])
noncomputable def zko (xs ys:List Int):Int×List Int:=if isB xs=true∧isB ys=true then cutR (zaV (xs++ys)) else (1,[])
theorem zgs (l:List Int):(l.length≤16∧(cutR l).1=0∧(cutR l).2=l)∨(16<l.length∧(cutR l).1=2∧(cutR l).2=[]):=by
 unfold cutR
 by_cases h:l.length≤16
 ·left;simp [h]
 ·right;simp [h];omega
theorem zob (a:Option Addr) (n c:Nat) (xs:List Int) (v:Int) (w:World) (ha:IntSl w a n xs) (hn:n≤1099511627776) :
  Calls Tryz.prog 133 #[.slice a n c,.int .i64 v] w (zbU w (zck xs v).1 (zck xs v).2):=by
 unfold zck
 cases hi:isB xs
 ·exact znc a n c xs v w ha hn hi
 ·exact zkw a n c xs v w ha hn hi
theorem zuV (a:Option Addr) (n c:Nat) (xs:List Int) (v:Int) (w:World) (ha:IntSl w a n xs) (hi:isB xs=false) :
  Calls Tryz.prog 169 #[.slice a n c,.int .i64 v] w (zbU w 1 []):=by
 have HI:=Lib.hid hi
 clear hi
 go_enter Tryz.func169,Tryz.ntmps169
 go_wp2_with fail
 refine (zc0 _ _ _ xs _ ha).mono ?_
 rw [HI.out]
 rintro e w1 ⟨rfl,q,rfl⟩
 go_wp2_with fail
 go_ret2
 exact ⟨_,rfl,OwnI.nil _ _,zb9 (Below.refl _ _) _⟩
theorem zrK (a:Option Addr) (n c:Nat) (xs:List Int) (v:Int) (w:World) (ha:IntSl w a n xs) (hna:a=none→c=0) (hn:n≤1099511627776) (hv : -9223372036854775808≤v∧v≤9223372036854775807) (hi:isB xs=true) (code:Int) (l:List Int)
  (hcl:((zaV (xs++[v])).length≤16∧code=0∧l=zaV (xs++[v]))∨(16<(zaV (xs++[v])).length∧code=2∧l=[])) :
  Calls Tryz.prog 169 #[.slice a n c,.int .i64 v] w (zbU w code l):=by
 have HI:=Lib.hid hi
 have HC:=Lib.hid hcl
 have HV:=Lib.hid hv
 clear hi hcl hv
 go_enter Tryz.func169,Tryz.ntmps169
 go_wp2_with fail
 refine (zc0 _ _ _ xs _ ha).mono ?_
 rw [HI.out]
 rintro e w1 ⟨rfl,q,rfl⟩
 go_wp2_with fail
 refine (zha (w.heap.size+1) a n c xs (some ⟨w.heap.size,0,none⟩) 1 1 [v] _ ?_ ?_ ?_ ?_ ?_ hna ?_ hn ?_ code l HC.out).mono ?_
 ·exact World.cell?_alloc_at _ _ _ _ (by simp)
 ·exact World.cell?_alloc_at _ _ _ _ (by simp)
 ·simp
 ·repeat (first | assumption | apply IntSl.drewN | apply IntSl.alloc)
 ·have h1:=IntSl.lit w [v] 3 (by simp) (by simpa using HV.out)
  exact (h1.alloc _).drewN _
 ·simp
 ·omega
 rintro e w2 ⟨v2,rfl,ho2,hb2⟩
 go_wp2_with fail
 go_ret2
 have hs:=hb2.size
 simp at hs
 exact ⟨_,rfl,ho2.mono (by simp;omega),(by repeat (first | exact Below.refl _ _ | refine zb9 ?_ _ | refine Below.alloc ?_ (by simp<;>omega) _):Below w.heap.size w _).trans (hb2.mono (by simp;omega))⟩
theorem zwO (a:Option Addr) (n c:Nat) (xs:List Int) (v:Int) (w:World) (ha:IntSl w a n xs) (hna:a=none→c=0) (hn:n≤1099511627776) (hv : -9223372036854775808≤v∧v≤9223372036854775807) :
  Calls Tryz.prog 169 #[.slice a n c,.int .i64 v] w (zbU w (ziB xs v).1 (ziB xs v).2):=by
 unfold ziB
 cases hi:isB xs
 ·exact zuV a n c xs v w ha hi
 ·have e:=znt (v:=v) (isB_asc.1 hi).1
  rw [if_pos rfl]
  exact zrK a n c xs v w ha hna hn hv hi _ _ (by rw [e];exact zgs _)
theorem zx4 (xs ys:List Int) (h:¬ (isB xs=true∧isB ys=true)):isB xs=false∨(isB xs=true∧isB ys=false):=by
 cases h1:isB xs
 ·exact .inl rfl
 ·cases h2:isB ys
  ·exact .inr ⟨rfl,rfl⟩
  ·exact absurd ⟨h1,h2⟩ h
theorem zwD (a:Option Addr) (n ca:Nat) (xs:List Int) (b:Option Addr) (m cb:Nat) (ys:List Int) (w:World) (ha:IntSl w a n xs) (hb:IntSl w b m ys) (h:¬ (isB xs=true∧isB ys=true)) :
  Calls Tryz.prog 181 #[.slice a n ca,.slice b m cb] w (zbU w 1 []):=by
 rcases zx4 xs ys h with h1 | ⟨h1,h2⟩
 ·have H1:=Lib.hid h1
  clear h h1
  go_enter Tryz.func181,Tryz.ntmps181
  go_wp2_with fail
  refine (zc0 _ _ _ xs _ ha).mono ?_
  rw [H1.out]
  rintro e w1 ⟨rfl,q,rfl⟩
  go_wp2_with fail
  go_ret2
  exact ⟨_,rfl,OwnI.nil _ _,zb9 (Below.refl _ _) _⟩
 ·have H1:=Lib.hid h1
  have H2:=Lib.hid h2
  clear h h1 h2
  go_enter Tryz.func181,Tryz.ntmps181
  go_wp2_with fail
  refine (zc0 _ _ _ xs _ ha).mono ?_
  rw [H1.out]
  rintro e w1 ⟨rfl,q,rfl⟩
  go_wp2_with fail
  refine (zc0 _ _ _ ys _ (hb.drewN _)).mono ?_
  rw [H2.out]
  rintro e w2 ⟨rfl,q2,rfl⟩
  go_wp2_with fail
  go_ret2
  exact ⟨_,rfl,OwnI.nil _ _,by repeat (first | exact Below.refl _ _ | refine zb9 ?_ _)⟩
theorem ztS (a:Option Addr) (n ca:Nat) (xs:List Int) (b:Option Addr) (m cb:Nat) (ys:List Int) (w:World) (ha:IntSl w a n xs) (hb:IntSl w b m ys) (hna:a=none→ca=0) (hnb:b=none→cb=0) (hn:n≤1099511627776) (hm:m≤1099511627776) (h1:isB xs=true) (h2:isB ys=true) (code:Int) (l:List Int)
  (hcl:((zaV (xs++ys)).length≤16∧code=0∧l=zaV (xs++ys))∨(16<(zaV (xs++ys)).length∧code=2∧l=[])) :
  Calls Tryz.prog 181 #[.slice a n ca,.slice b m cb] w (zbU w code l):=by
 have H1:=Lib.hid h1
 have H2:=Lib.hid h2
 have HC:=Lib.hid hcl
 clear h1 h2 hcl
 go_enter Tryz.func181,Tryz.ntmps181
 go_wp2_with fail
 refine (zc0 _ _ _ xs _ ha).mono ?_
 rw [H1.out]
 rintro e w1 ⟨rfl,q,rfl⟩
 go_wp2_with fail
 refine (zc0 _ _ _ ys _ (hb.drewN _)).mono ?_
 rw [H2.out]
 rintro e w2 ⟨rfl,q2,rfl⟩
 go_wp2_with fail
 refine (zha w.heap.size a n ca xs b m cb ys _ ?_ ?_ ?_ ?_ ?_ hna hnb hn hm code l HC.out).mono ?_
 ·exact World.cell?_alloc_at _ _ _ _ (by simp)
 ·exact World.cell?_alloc_at _ _ _ _ (by simp)
 ·simp
 ·repeat (first | assumption | apply IntSl.drewN | apply IntSl.alloc)
 ·repeat (first | assumption | apply IntSl.drewN | apply IntSl.alloc)
 rintro e w3 ⟨v2,rfl,ho2,hb2⟩
 go_wp2_with fail
 go_ret2
 have hs:=hb2.size
 simp at hs
 exact ⟨_,rfl,ho2.mono (by simp),(by repeat (first | exact Below.refl _ _ | refine zb9 ?_ _ | refine Below.alloc ?_ (by simp<;>omega) _):Below w.heap.size w _).trans (hb2.mono (by simp))⟩
theorem zyo (a:Option Addr) (n ca:Nat) (xs:List Int) (b:Option Addr) (m cb:Nat) (ys:List Int) (w:World) (ha:IntSl w a n xs) (hb:IntSl w b m ys) (hna:a=none→ca=0) (hnb:b=none→cb=0) (hn:n≤1099511627776) (hm:m≤1099511627776) :
  Calls Tryz.prog 181 #[.slice a n ca,.slice b m cb] w (zbU w (zko xs ys).1 (zko xs ys).2):=by
 unfold zko
 by_cases h:isB xs=true∧isB ys=true
 ·rw [if_pos h];exact ztS a n ca xs b m cb ys w ha hb hna hnb hn hm h.1 h.2 _ _ (zgs _)
 ·rw [if_neg h];exact zwD a n ca xs b m cb ys w ha hb h
theorem zfo (xs:List Int) (v:Int):(putL xs v).length≤xs.length+1:=by
 cases h:hasB xs v
 ·rw [zfn h,zpE];exact Nat.le_refl _
 ·rw [zhK h];omega
theorem ze1 (xs ys:List Int):(zaR xs ys).length≤xs.length+ys.length:=by
 induction ys generalizing xs with
 | nil=>simp [zaR]
 | cons y ys ih=>
  have h1:=ih (putL xs y)
  have h2:=zfo xs y
  show (zaR (putL xs y) ys).length≤_
  simp only [List.length_cons];omega
theorem ztT {xs ys:List Int} (hx:∀ x∈xs,-9223372036854775808≤x∧x≤9223372036854775807) (hy:∀ x∈ys,-9223372036854775808≤x∧x≤9223372036854775807):∀ x∈(zko xs ys).2,-9223372036854775808≤x∧x≤9223372036854775807:=by
 unfold zko
 split
 ·rcases zgs (zaV (xs++ys)) with ⟨_,_,e⟩ | ⟨_,_,e⟩
  ·rw [e]
   intro x h
   rcases List.mem_append.1 (mergeL_mem.1 h) with h | h
   ·exact hx x h
   ·exact hy x h
  ·rw [e];simp
 ·simp
end Go.Proofs.YteabcgkjbnecaaaGreat
namespace Go.Proofs.YteabcgkjbnecaaaGreat
open Go.RowKit Go.Sort
def cmpD (x y:Int):Int:=if y<x then -1 else if x<y then 1 else 0
theorem ltD (x y:Int):ltOf cmpD x y=decide (y<x):=by
 unfold ltOf cmpD
 by_cases h1:y<x
 ·simp [h1]
 ·by_cases h2:x<y<;>simp [h1,h2]
theorem swoD:SWO (ltOf cmpD) where
 irrefl x:=by rw [ltD];simp
 trans x y z h1 h2:=by rw [ltD] at *;simp at *;omega
 ntrans x y z h1 h2:=by rw [ltD] at *;simp at *;omega
theorem zn6 (x y:Int) (w:World) :
  Calls Tryz.prog 216 #[.int .i64 x,.int .i64 y] w fun e w'=>e = .returned (.int .i64 (cmpD x y))∧w=w':=by
 unfold cmpD
 by_cases h1:y<x
 ·rw [if_pos h1]
  go_enter Tryz.func216,Tryz.ntmps216
  go_wp2
  go_ret
  exact ⟨rfl,rfl⟩
 ·rw [if_neg h1]
  by_cases h2:x<y
  ·rw [if_pos h2]
   go_enter Tryz.func216,Tryz.ntmps216
   go_wp2
   go_ret
   exact ⟨rfl,rfl⟩
  ·rw [if_neg h2]
   go_enter Tryz.func216,Tryz.ntmps216
   go_wp2
   go_ret
   exact ⟨rfl,rfl⟩
def zcj (xs:List Int):List Int:=xs.mergeSort fun x y=>!(ltOf cmpD) y x
theorem ziO (base:Nat) (a:Option Addr) (n c:Nat) (xs:List Int) (w:World) (ho:OwnI base w (.slice a n c) xs) (hl:n<4611686018427387904) :
    Calls Tryz.prog 204 #[.slice a n c,.func (.func 216) #[] #[]] w (zmW base w (.slice a n c) (zcj xs)):=by
  have eg:∀ args w,(callFunc 216 args).run Tryz.prog w = .ok (.enter 216 args) w:=enters_of Tryz.func216 (by kernel_rfl) rfl
  by_cases h0:xs=[]
  · subst h0
    have hn:n=0:=by
      obtain ⟨h1,⟨hh,h2⟩ | ⟨g,cap,cur,hv,hg,hh,r⟩⟩:=ho
      · simp at hh;omega
      · simp at hv;omega
    subst hn
    have hcon:=AnyF.slices_SortFunc_none {Tryz.laysSortF with} a c (.func (.func 216) #[] #[]) w
    change Calls Tryz.prog 204 _ _ _ at hcon
    refine hcon.mono ?_
    rintro e w' ⟨rfl,rfl⟩
    exact ⟨rfl,by simpa [zcj] using ho,World.grownBy.refl _ _⟩
  · cases a with
    | none => exfalso
              obtain ⟨h1,⟨hh,h2⟩ | ⟨g,cap,cur,hv,_⟩⟩:=ho
              · exact h0 (List.eq_nil_of_length_eq_zero h2)
              · simp at hv
    | some ad=>
      obtain ⟨h1,⟨hh,h2⟩ | ⟨g,cap,cur,hv,hg,hh,hle,hm,hs,ht⟩⟩:=ho
      · simp at hh
      · simp only [Value.slice.injEq,Option.some.injEq] at hv
        obtain ⟨rfl,rfl,rfl⟩:=hv
        rw [Nat.mul_one] at ht
        have hH:=holds_of_blockI hh ht
        have hcmp:CmpReads Tryz.prog 216 #[] (Value.int .i64) cmpD g 0 xs.toArray.size w:=fun m os dk _ x y=>(zn6 x y _).mono fun e w' ⟨he,hw⟩=>⟨he,0,by rw [← hw];rfl⟩
        have hcon:=Any.slices_SortFunc_total Tryz.laysSortF (Value.int .i64) (fun _=>rfl) cmpD swoD 216 #[] g 0 c xs.toArray w eg hcmp.lays hH (Array.getElem?_eq_some_iff.1 hh).1 (by simpa using hl) (fun x y h1 h2=>by rw [ltD] at *;simp at *;omega)
        change Calls Tryz.prog 204 _ _ _ at hcon
        rw [List.size_toArray] at hcon
        refine hcon.mono ?_
        rintro e w' ⟨rfl,n,os,rfl⟩
        have e1:(zcj xs).length=xs.length:=by simp [zcj]
        have:=ownsRow_sortedI (n:=n) (os:=os) (ss:=xs) (ts:=zcj xs) e1 hg hh hle hm hs
        refine ⟨rfl,?_,?_⟩
        · show World.ownsRow _ _ _ _ _ _ _
          rw [e1];exact this
        · exact grownBy_sortedI (n:=n) (os:=os) (zcj xs).toArray
theorem zqc (w:World) :
  Calls Tryz.prog 205 #[] w fun e w'=>e = .returned (.agg #[.func (.func 216) #[] #[]])∧Below w.heap.size w w':=by
 go_enter Tryz.func205,Tryz.ntmps205
 go_wp2
 refine bodyPost_ret (v:= .agg #[.func (.func 216) #[] #[]]) (by simp [results,Tryz.results205,go_sem]) rfl ⟨rfl,?_⟩
 exact (Below.refl _ _).alloc (Nat.le_refl _) _
def zdy (xs:List Int):Int:=el (zcj xs) (xs.length / 2)
theorem zsr (a:Option Addr) (c:Nat) (w:World):Calls Tryz.prog 165 #[.slice a 0 c] w fun e w'=>e = .returned (.tuple #[.int .i64 0,.int .i64 1])∧w=w':=by
 go_enter Tryz.func165,Tryz.ntmps165
 go_wp2
 go_ret2
 exact ⟨rfl,rfl⟩
theorem zt6 {xs:List Int} (h:∀ x∈xs,-9223372036854775808≤x∧x≤9223372036854775807):∀ x∈zcj xs,-9223372036854775808≤x∧x≤9223372036854775807:=
 fun x hx=>h x ((List.mergeSort_perm xs _).mem_iff.1 hx)
theorem zst (a:Option Addr) (n c:Nat) (xs:List Int) (w:World) (ha:IntSl w a n xs) (hn:n≤1099511627776) (hp:0<n) :
  Calls Tryz.prog 165 #[.slice a n c] w fun e w'=>e = .returned (.tuple #[.int .i64 (zdy xs),.int .i64 0])∧Below w.heap.size w w':=by
 have hm:=ha.mx
 have hbd:=Lib.hid ha.bd
 have hlen:=Lib.hid ha.len
 have hdl:=Lib.hid (show (zcj xs).length=n by simp [zcj,ha.len])
 have t1:((n:Int)==0)=false:=by simp;omega
 have hsu:=Lib.hid (show el (zcj xs) (n / 2)=zdy xs by unfold zdy;rw [ha.len])
 go_enter Tryz.func165,Tryz.ntmps165
 go_wp2_with fail
 refine (znW _ _ _ xs _ ha hn).mono ?_
 rintro e w1 ⟨v1,rfl,ho1,B1⟩
 obtain ⟨a1,c1,rfl,hs1⟩:=ho1.sl hbd.out
 rw [hlen.out] at ho1
 have HO1:=Lib.hid ho1
 have z1:=B1.size
 clear ho1 hs1
 have hl2:xs.length=n:=hlen.out
 clear hl2
 rw [hlen.out]
 go_wp2_with fail
 have hfld:∀ w,(Instr.field 209 (.agg #[.func (.func 216) #[] #[]]) 0).run Tryz.prog w = .ok (.func (.func 216) #[] #[]) w:=fun _=>by kernel_rfl
 refine (zqc _).mono ?_
 rintro e w2 ⟨rfl,B2'⟩
 have B2:=B1.trans (B2'.mono B1.size)
 have HO2:=Lib.hid (HO1.out.below B2' (Nat.le_refl _))
 go_wp2_with fail
 refine (ziO w.heap.size _ _ _ xs _ HO2.out (by omega)).mono ?_
 rintro e w3 ⟨rfl,ho3,hg3⟩
 have B3:=HO2.out.bel B2 hg3 B2.size
 obtain ⟨a3,c3,ev,hs3⟩:=ho3.sl (zt6 hbd.out)
 rw [hdl.out] at ev hs3
 obtain ⟨rfl,rfl⟩:a1=a3∧c1=c3:=by simpa using ev
 clear ev ho3 hg3
 obtain ⟨ba,oa,rfl,hba,hca⟩:=hs3.row hp
 have hcell:w3.cell? ⟨ba,oa+n / 2,none⟩=some (.int .i64 (zdy xs)):=by rw [← hsu.out];exact hca (n / 2) (by omega)
 clear hca
 go_wp2_with fail
 refine (zuo _ _ (by omega) (by omega)).mono ?_
 rintro e w4 ⟨rfl,rfl⟩
 have q1:(0:Int)≤(n:Int) / 2:=by omega
 have q2:(n:Int) / 2<(n:Int):=by omega
 go_wp2_with fail
 go_ret2
 exact ⟨rfl,B3⟩
def zbT (xs:List Int) (x:Int):Nat:=xs.countP fun y=>decide (x≤y)
theorem zx7 {x:Int}:∀ {d:List Int},d.Pairwise (fun a b=>b≤a)→∀ {j:Nat} (hj:j<d.length),x≤d[j]↔j<zbT d x
 | y::l,h,j,hj=>by
  have h':=List.pairwise_cons.1 h
  have hz:¬ x≤y→zbT l x=0:=by
   intro hxy
   unfold zbT
   rw [List.countP_eq_zero]
   intro z hz
   have:=h'.1 z hz
   simp;omega
  by_cases hxy:x≤y
  ·have e:zbT (y::l) x=zbT l x+1:=by simp [zbT,hxy]
   rw [e]
   cases j with
   | zero=>simp [hxy]
   | succ j=>
    have:=zx7 (x:=x) h'.2 (j:=j) (by simpa using hj)
    simp only [List.getElem_cons_succ]
    rw [this];omega
  ·have e:zbT (y::l) x=0:=by
    have:zbT (y::l) x=zbT l x:=by simp [zbT,hxy]
    rw [this,hz hxy]
   rw [e]
   cases j with
   | zero=>simp [hxy]
   | succ j=>
    have hjl:j<l.length:=by simpa using hj
    have:=h'.1 l[j] (List.getElem_mem _)
    simp only [List.getElem_cons_succ]
    omega
theorem zkk (xs:List Int):(zcj xs).Pairwise (fun a b=>b≤a):=by
 have:=List.pairwise_mergeSort (le:=fun x y:Int=>!(ltOf cmpD) y x) (fun a b c=>by simp only [ltD];simp;omega) (fun a b=>by simp only [ltD];simp;omega) xs
 exact this.imp (fun {a b} h=>by simp only [ltD] at h;simpa using h)
theorem zn0 (xs:List Int) (x:Int):zbT (zcj xs) x=zbT xs x:=(List.mergeSort_perm xs _).countP_eq _
theorem zv9 {xs:List Int} {n:Nat} (hn:xs.length=n) (hp:0<n) (x:Int):x≤zdy xs↔n<2*zbT xs x:=by
 have hl:(zcj xs).length=n:=by simp [zcj,hn]
 have hj:n / 2<(zcj xs).length:=by omega
 unfold zdy
 rw [hn,zbP hj,zx7 (zkk xs) hj,zn0]
 omega
theorem zss {xs:List Int} {n:Nat} (hn:xs.length=n) (hp:0<n):∃ i,i<n∧el xs i=zdy xs:=by
 have hl:(zcj xs).length=n:=by simp [zcj,hn]
 have hj:n / 2<(zcj xs).length:=by omega
 have hm:zdy xs∈xs:=by
  unfold zdy
  rw [hn,zbP hj]
  exact (List.mergeSort_perm xs _).mem_iff.1 (List.getElem_mem hj)
 obtain ⟨i,hi,e⟩:=List.mem_iff_getElem.1 hm
 exact ⟨i,by omega,by rw [zbP hi,e]⟩
theorem zpS {xs:List Int} {x:Int} {j:Nat} (hj:j<xs.length):zbT (xs.take (j+1)) x=zbT (xs.take j) x+(decide (x≤el xs j)).toNat:=by
 rw [zbK hj]
 unfold zbT
 rw [List.countP_append]
 by_cases h:x≤el xs j<;>simp [h]
theorem zvJ (xs:List Int) (x:Int) (j:Nat):zbT (xs.take j) x≤j:=by
 unfold zbT
 have h1:=List.countP_le_length (p:=fun y=>decide (x≤y)) (l:=xs.take j)
 have h2:(xs.take j).length≤j:=List.length_take_le _ _
 omega
structure BestTo (xs:List Int) (s:Int) (i:Nat) (best:Int) (found:Bool):Prop where
 yes:found=true→best≤s∧∀ j,j<i→el xs j≤s→el xs j≤best
 no:found=false→∀ j,j<i→s<el xs j
theorem BestTo.pass {xs:List Int} {s:Int} {i:Nat} {best:Int} {found:Bool} (h:BestTo xs s i best found) (hs:s<el xs i):BestTo xs s (i+1) best found:=
 ⟨fun e=>⟨(h.yes e).1,fun j hj hle=>by
  by_cases k:j=i
  ·subst k;omega
  ·exact (h.yes e).2 j (by omega) hle⟩,fun e j hj=>by
  by_cases k:j=i
  ·subst k;exact hs
  ·exact h.no e j (by omega)⟩
theorem BestTo.low {xs:List Int} {s:Int} {i:Nat} {best:Int} (h:BestTo xs s i best true) (hs:el xs i≤best):BestTo xs s (i+1) best true:=
 ⟨fun e=>⟨(h.yes e).1,fun j hj hle=>by
  by_cases k:j=i
  ·subst k;exact hs
  ·exact (h.yes e).2 j (by omega) hle⟩,fun e=>by cases e⟩
theorem BestTo.new {xs:List Int} {s:Int} {i:Nat} {best:Int} {found:Bool} (h:BestTo xs s i best found) (hs:el xs i≤s) (hn:found=false∨best<el xs i):BestTo xs s (i+1) (el xs i) true:=
 ⟨fun e=>⟨hs,fun j hj hle=>by
  by_cases k:j=i
  ·subst k;exact Int.le_refl _
  ·cases found with
   | false=>have:=h.no rfl j (by omega);omega
   | true=>have:=(h.yes rfl).2 j (by omega) hle;have:=hn.resolve_left (by simp);omega⟩,fun e=>by cases e⟩
theorem BestTo.last {xs:List Int} {n:Nat} {best:Int} {found:Bool} (hn:xs.length=n) (hp:0<n) (h:BestTo xs (zdy xs) n best found):best=zdy xs:=by
 obtain ⟨i,hi,e⟩:=zss hn hp
 cases found with
 | false=>have:=h.no rfl i hi;omega
 | true=>have h1:=h.yes rfl;have:=h1.2 i hi (by omega);omega
set_option maxRecDepth 100000 in
set_option maxHeartbeats 1000000 in
theorem zoC (a:Option Addr) (n c:Nat) (xs:List Int) (w:World) (ha:IntSl w a n xs) (hn:n≤1099511627776) (hp:0<n) :
  Calls Tryz.prog 176 #[.slice a n c] w fun e w'=>e = .returned (.tuple #[.int .i64 (zdy xs),.int .i64 0])∧Below w.heap.size w w':=by
 have hm:=ha.mx
 have hlen:=Lib.hid ha.len
 have t1:((n:Int)==0)=false:=by simp;omega
 have HLE:=Lib.hid (zv9 ha.len hp)
 have HLast:=Lib.hid (fun best found=>BestTo.last (best:=best) (found:=found) ha.len hp)
 go_enter Tryz.func176,Tryz.ntmps176
 go_wp2_with fail
 go_loopw [4,5,6] (fun b f i wr=>∃ k:Nat,∃ best:Int,∃ fd:Bool,k≤n∧i = .int .i64 k∧b = .int .i64 best∧f = .bool fd ∧ -9223372036854775808≤best∧best≤9223372036854775807∧BestTo xs (zdy xs) k best fd∧Dr w wr) (fun _ _ i _=>n-(intOf i).toNat)
 case atStart=>exact ⟨0,0,false,Nat.zero_le _,rfl,rfl,rfl,by omega,by omega,⟨fun h=>(by cases h),fun _ j h=>absurd h (by omega)⟩,Dr.refl _⟩
 case round=>
  obtain ⟨k,best,fd,hk,rfl,rfl,rfl,hb1,hb2,hbt,q,rfl⟩:=hrel
  have HBT:=Lib.hid hbt
  clear hbt
  by_cases hlt:k<n
  ·have k0:(0:Int)≤(k:Int):=by omega
   have k1:(k:Int)<(n:Int):=by omega
   obtain ⟨ba,oa,rfl,hba,hca⟩:=ha.row (by omega)
   have ck:=hca k hlt
   have r1:=ha.lo k
   have r2:=ha.hi k
   have HCA:=Lib.hid hca
   clear hca
   go_wp2_with fail
   go_loopw [7,8] (fun t j wr=>∃ m:Nat,m≤n∧j = .int .i64 m∧t = .int .i64 (zbT (xs.take m) (el xs k))∧Dr w wr) (fun _ j _=>n-(intOf j).toNat)
   case atStart=>exact ⟨0,Nat.zero_le _,rfl,by simp [zbT],⟨_,rfl⟩⟩
   case round=>
    obtain ⟨m,hmk,rfl,rfl,q2,rfl⟩:=hrel
    have hle:=zvJ xs (el xs k) m
    by_cases hlt2:m<n
    ·have m0:(0:Int)≤(m:Int):=by omega
     have m1:(m:Int)<(n:Int):=by omega
     have cm:=HCA.out m hlt2
     have hsc:=zpS (xs:=xs) (x:=el xs k) (j:=m) (by rw [hlen.out];exact hlt2)
     by_cases hv:el xs k≤el xs m
     ·have hsc':(zbT (xs.take (m+1)) (el xs k):Int)=zbT (xs.take m) (el xs k)+1:=by rw [hsc];simp [hv]
      have HSC:=Lib.hid hsc'
      clear hsc hsc'
      go_wp2
      go_quiet (fail)
      go_wp2
      go_roundw
      case rel=>exact ⟨m+1,by omega,by go_num,by rw [HSC.out],by first | exact ⟨_,rfl⟩ | exact Dr.nn _ _ _⟩
      case measure=>simp [intOf];omega
     ·have hsc':(zbT (xs.take (m+1)) (el xs k):Int)=zbT (xs.take m) (el xs k):=by rw [hsc];simp [hv]
      have HSC:=Lib.hid hsc'
      have hv':¬ el xs k≤el xs m:=hv
      clear hsc hsc'
      go_wp2
      go_quiet (fail)
      go_wp2
      go_roundw
      case rel=>exact ⟨m+1,by omega,by go_num,by rw [HSC.out],by first | exact ⟨_,rfl⟩ | exact Dr.nn _ _ _⟩
      case measure=>simp [intOf];omega
    ·have m1:¬ (m:Int)<(n:Int):=by omega
     obtain rfl:m=n:=by omega
     have htk:xs.take m=xs:=List.take_of_length_le (by rw [hlen.out];exact Nat.le_refl _)
     rw [htk] at hle ⊢
     have HL:=HLE.out (el xs k)
     clear htk hlt2 hmk
     generalize hgc:zbT xs (el xs k)=gc at *
     clear hgc
     by_cases hgt:m<2*gc
     ·have hse:=HL.2 hgt
      have hen:decide ((m:Int)-(gc:Int)<(gc:Int))=true:=by simp;omega
      have HEN:=Lib.hid hen
      clear hen HL
      cases fd with
      | false=>
       have hnew:=Lib.hid (HBT.out.new hse (.inl rfl))
       clear hse
       go_wp2_with fail
       refine (zc1 _ _ true _ (by omega) (by omega) (by omega) HEN.out).mono ?_
       rintro e w2 ⟨rfl,rfl⟩
       go_wp2_with fail
       go_roundw
       case rel=>exact ⟨k+1,_,true,by omega,by go_num,rfl,rfl,r1,r2,hnew.out,by first | exact ⟨_,rfl⟩ | exact Dr.nn _ _ _⟩
       case measure=>simp [intOf];omega
      | true=>
       by_cases hbe:best<el xs k
       ·have hnew:=Lib.hid (HBT.out.new hse (.inr hbe))
        clear hse
        go_wp2_with fail
        refine (zc1 _ _ true _ (by omega) (by omega) (by omega) HEN.out).mono ?_
        rintro e w2 ⟨rfl,rfl⟩
        go_wp2_with fail
        go_roundw
        case rel=>exact ⟨k+1,_,true,by omega,by go_num,rfl,rfl,r1,r2,hnew.out,by first | exact ⟨_,rfl⟩ | exact Dr.nn _ _ _⟩
        case measure=>simp [intOf];omega
       ·have hnew:=Lib.hid (HBT.out.low (by omega))
        clear hse
        go_wp2_with fail
        refine (zc1 _ _ true _ (by omega) (by omega) (by omega) HEN.out).mono ?_
        rintro e w2 ⟨rfl,rfl⟩
        go_wp2_with fail
        go_roundw
        case rel=>exact ⟨k+1,_,true,by omega,by go_num,rfl,rfl,hb1,hb2,hnew.out,by first | exact ⟨_,rfl⟩ | exact Dr.nn _ _ _⟩
        case measure=>simp [intOf];omega
     ·have hse:zdy xs<el xs k:=by have:=mt HL.1 hgt;omega
      have hnew:=Lib.hid (HBT.out.pass hse)
      have hen:decide ((m:Int)-(gc:Int)<(gc:Int))=false:=by simp;omega
      have HEN:=Lib.hid hen
      clear hen HL hse
      go_wp2_with fail
      refine (zc1 _ _ false _ (by omega) (by omega) (by omega) HEN.out).mono ?_
      rintro e w2 ⟨rfl,rfl⟩
      go_wp2_with fail
      go_roundw
      case rel=>exact ⟨k+1,_,fd,by omega,by go_num,rfl,rfl,hb1,hb2,hnew.out,by first | exact ⟨_,rfl⟩ | exact Dr.nn _ _ _⟩
      case measure=>simp [intOf];omega
  ·have k1:¬ (k:Int)<(n:Int):=by omega
   obtain rfl:k=n:=by omega
   have hl:=Lib.hid (HLast.out _ _ HBT.out)
   go_wp2
   go_ret2
   exact ⟨by rw [hl.out];rfl,Dr.below ⟨_,rfl⟩ _⟩
theorem zoB (a:Option Addr) (c:Nat) (w:World):Calls Tryz.prog 176 #[.slice a 0 c] w fun e w'=>e = .returned (.tuple #[.int .i64 0,.int .i64 1])∧w=w':=by
 go_enter Tryz.func176,Tryz.ntmps176
 go_wp2
 go_ret2
 exact ⟨rfl,rfl⟩
end Go.Proofs.YteabcgkjbnecaaaGreat
namespace Go.Proofs.YteabcgkjbnecaaaGreat
open Go.RowKit Go.ChangeShapes Go.WideShapes Go.Deep
theorem IntSl.ofSl {w:World} {S:Nat→Prop} {a:Option Addr} {n c:Nat} {xs:List Int} (h:SlI w S a n c xs):IntSl w a n xs:=by
 have hl:=h.len
 rw [zau] at hl
 have hb:=h.bd
 have hx:=SlI.i64 h
 have hi:∀ i,I64 (el xs i):=fun i=>by
  by_cases hi:i<xs.length
  ·have e:el xs i=xs[i]:=by simp [el,hi]
   rw [e];exact hx _ (List.getElem_mem hi)
  ·have e:el xs i=0:=by simp [el,List.getElem?_eq_none (Nat.not_lt.1 hi)]
   rw [e];exact ⟨by decide,by decide⟩
 refine ⟨hl,by omega,fun hp=>?_,fun i=>(hi i).1,fun i=>(hi i).2⟩
 obtain ⟨b,off,rfl⟩:=h.addr hp
 obtain ⟨hlt,_⟩:=SlI.cell h hp
 exact ⟨b,off,rfl,hlt,fun i hi=>(SlI.cell h hi).2.1⟩
theorem zk8 {w:World} {S:Nat→Prop} {a:Option Addr} {n c:Nat} {xs:List Int} (h:SlI w S a n c xs):a=none→c=0:=fun e=>(h.bd.2.2.2 e).2
theorem OwnI.toR {base:Nat} {w:World} {v:Value} {xs:List Int} (h:OwnI base w v xs) (hx:∀ x∈xs,I64 x) (S:Nat→Prop):OwnR base w 3 S [.int .i64] v (ints xs):=by
 refine ⟨xs.map (Value.int .i64),by rw [zau];exact h,fun i hi=>?_⟩
 rw [zau] at hi
 have e1:(((xs.map (Value.int .i64)).drop (i*1)).take 1)=[.int .i64 (xs[i])]:=by
  rw [Nat.mul_one,List.drop_eq_getElem_cons (by simpa using hi)];simp
 have e2:(ints xs).getD i []=[.int xs[i]]:=by simp [ints,List.getD,hi]
 show RdL _ _ [.int .i64] (((xs.map (Value.int .i64)).drop (i*1)).take 1) _
 rw [e1,e2]
 exact ⟨.ofI64 (hx _ (List.getElem_mem hi)),trivial⟩
theorem zmd {w w':World} {v:Value} {l:List Int} (ho:OwnI w.heap.size w' v l) (hx:∀ x∈l,I64 x) (hl:l.length≤17592186044416) {E':Env} (hs:∀ b,w.heap.size≤b→b<w'.heap.size→E'.σ 1 b):DenV E' w' (.sl [1] (.rInts l)) v:=by
 have ho2:=ho.toR hx (fun _=>False)
 obtain ⟨a,c,e,hr⟩:=ho2.slO (E'.set [1]) (fun b h=>h.elim) (fun b h1 h2=>⟨1,by simp,hs b h1 (ho2.lt b h2).2⟩) (by rw [zau];exact hl)
 rw [e];exact hr
theorem FnC.of_ownS {P:Program} {f:FuncId} {ins:List SV} {l:List Int} (hB:FnB P f) (h:∀ (w:World) (E:Env) (vals:List Value),DenL E w ins vals→((∀ x∈l,I64 x)∧l.length≤17592186044416)∧Calls P f vals.toArray w (zdL w l)):FnC P f ins (.sl [1] (.rInts l)) D2:=
 FnC.of_below hB fun w E vals hd=>(h w E vals hd).2.mono (by
  rintro e w' ⟨v,rfl,ho,hb⟩
  exact ⟨v,rfl,hb,fun E' _ hs=>zmd ho (h w E vals hd).1.1 (h w E vals hd).1.2 hs⟩)
theorem FnC.of_setS {P:Program} {f:FuncId} {ins:List SV} {l:List Int} {n:Int} (hB:FnB P f) (hn:(Lit.int .i64 n).wf=true) (h:∀ (w:World) (E:Env) (vals:List Value),DenL E w ins vals→((∀ x∈l,I64 x)∧l.length≤17592186044416)∧Calls P f vals.toArray w (zbU w n l)):FnC P f ins (.tup [.sl [1] (.rInts l),.int .i64 n]) D2:=
 FnC.of_below hB fun w E vals hd=>(h w E vals hd).2.mono (by
  rintro e w' ⟨v,rfl,ho,hb⟩
  exact ⟨_,rfl,hb,fun E' _ hs=>⟨[v,.int .i64 n],rfl,zmd ho (h w E vals hd).1.1 (h w E vals hd).1.2 hs,⟨rfl,hn⟩,trivial⟩⟩)
abbrev D3i (l:List Int):List BE:=[.dead,.dead,.row 3 [] (.rInts l)]
theorem zpz {E:Env} {w w':World} {v:Value} {l:List Int} (hm:MemOk w.heap.size (cxIn E D2 1) w E (mOf D2) w) (hb:Below w.heap.size w w') (ho:OwnI w.heap.size w' v l) (hx:∀ x∈l,I64 x) :
  ∃ E',E'.β 2=some v∧v.oneCell'=true∧MemOk w.heap.size (cxIn E D2 1) w E' (mOf (D3i l)) w':=by
 have ho2:=ho.toR hx (fun _=>False)
 obtain ⟨a,c,ef⟩:=ho2.form
 have hl:∀ t,(mOf D2 t).live=false:=by intro t;rw [mD2];split<;>rfl
 have hlab:∀ i b,E.σ i b→b<w.heap.size:=fun i b h=>(hm.lab i b h).1
 have h1:MemOk w.heap.size (cxIn E D2 1) w E (mOf D2) w':=by
  refine ⟨hm.empty,fun t T vs ht=>?_,fun t T ls r ht=>?_,fun i b hb'=>⟨Nat.lt_of_lt_of_le (hlab i b hb') hb.size,(hm.lab i b hb').2⟩,hm.dis,hm.low,fun t b hh=>absurd hh zet,hm.old,fun t u b h1=>absurd h1 zet,hm.keep,⟨hb.os,hb.tape,hb.output,hb.size,fun b h1 _=>hb.block b h1⟩,hb.size⟩
  ·have:=hl t;rw [ht] at this;cases this
  ·have:=hl t;rw [ht] at this;cases this
 have hE2:mOf D2 2 = .empty:=by rw [mD2];rfl
 have h2:=h1.take (w':=w') hE2 v (.row 3 [] (.rInts l)) (by simp) (Nat.le_refl _) (fun _ _=>rfl) (BelowX.refl _ _ _) (fun b hv=>?_) ?_
 ·refine ⟨E.setβ 2 v,(by show (if 2=2 then some v else E.β 2)=some v;rw [if_pos rfl]),by rw [ef];rfl,?_⟩
  have e:upd (mOf D2) 2 (.row 3 [] (.rInts l))=mOf (D3i l):=by
   funext t
   match t with
   | 0=>rfl
   | 1=>rfl
   | 2=>rfl
   | t+3=>rw [zbw _ _ (by omega),mD2,if_neg (by omega),zdE];simp [List.getD]
  rw [← e];exact h2
 ·have hb2:=ho2.lt b (by rw [zaG ⟨a,_,c,ef⟩];exact hv)
  exact ⟨fun ⟨i,hi⟩=>by have:=hlab i b hi;omega,fun t=>zet,.inl hb2.1⟩
 ·exact ho2.mono (Nat.zero_le _) (fun b h=>h.elim)
theorem FnC.of_ownR {P:Program} {f:FuncId} {ins:List SV} {l:List Int} (hB:FnB P f) (h:∀ (w:World) (E:Env) (vals:List Value),DenL E w ins vals→(∀ x∈l,I64 x)∧Calls P f vals.toArray w (zdL w l)):FnC P f ins (.own 2) (D3i l):=by
 refine ⟨hB,fun w E vals hm hd=>(h w E vals hd).2.mono ?_⟩
 rintro e w' ⟨v,rfl,ho,hb⟩
 obtain ⟨E',h1,h2,h3⟩:=zpz hm hb ho (h w E vals hd).1
 exact ⟨v,E',rfl,⟨h1,h2⟩,h3⟩
theorem FnC.of_setR {P:Program} {f:FuncId} {ins:List SV} {l:List Int} {n:Int} (hB:FnB P f) (hn:(Lit.int .i64 n).wf=true) (h:∀ (w:World) (E:Env) (vals:List Value),DenL E w ins vals→(∀ x∈l,I64 x)∧Calls P f vals.toArray w (zbU w n l)):FnC P f ins (.tup [.own 2,.int .i64 n]) (D3i l):=by
 refine ⟨hB,fun w E vals hm hd=>(h w E vals hd).2.mono ?_⟩
 rintro e w' ⟨v,rfl,ho,hb⟩
 obtain ⟨E',h1,h2,h3⟩:=zpz hm hb ho (h w E vals hd).1
 exact ⟨_,E',rfl,⟨[v,.int .i64 n],rfl,⟨h1,h2⟩,⟨rfl,hn⟩,trivial⟩,h3⟩
theorem zaY {E:Env} {w:World} {l:List Int} {v:Value} (h:DenV E w (dInts.can l) v):∃ a c,v = .slice a l.length c∧SlI w (E.set [0]) a l.length c l:=by
 have h:Rd w (E.set [0]) (.sl [.int .i64]) v (.sl (ints l)):=h
 obtain ⟨a,c,rfl,hs⟩:=h.sl'
 rw [zau] at hs
 exact ⟨a,c,by rw [zau],hs⟩
theorem zpD {E:Env} {w:World} {n:Int} {v:Value} (h:DenV E w (dInt.can n) v):v = .int .i64 n∧I64 n:=⟨h.1,zp6 h.2⟩
def isC (l:List Int):Bool:=decide (l.Pairwise (· < ·))&&decide (l.length≤16)
theorem zda (l:List Int):isB l=isC l:=by
 rw [Bool.eq_iff_iff,isB_asc,isC,Bool.and_eq_true,decide_eq_true_eq,decide_eq_true_eq];rfl
theorem isC_iff {l:List Int}:isC l=true↔Asc l∧l.length≤16:=by rw [← zda,isB_asc]
def zbC (xs ys:List Int):Bool:=isC xs&&decide ((0:Int)<(xs.length:Int))&&decide ((xs.length:Int)-(zcH xs ys xs.length:Int)<(zcH xs ys xs.length:Int))
theorem zlY (xs ys:List Int):zcS xs ys=zbC xs ys:=by rw [zcS,zbC,zda]
def zcu (xs:List Int) (v:Int):List Int:=if isC xs then (if (putL xs v).length≤16 then putL xs v else []) else []
theorem zuW (xs:List Int) (v:Int):(ziB xs v).2=zcu xs v:=by
 rw [ziB,zcu,zda]
 split
 ·rw [cutR];split<;>rfl
 ·rfl
def zcl (xs:List Int) (v:Int):List Int:=if isC xs then zbh xs v else []
theorem znd (xs:List Int) (v:Int):(zck xs v).2=zcl xs v:=by
 rw [zck,zcl,zda];split<;>rfl
def zcM (xs ys:List Int):Int×List Int:=if isC xs&&isC ys then (if (zaR xs ys).length≤16 then (0,zaR xs ys) else (2,[])) else (1,[])
theorem zr5 (xs ys:List Int):zko xs ys=zcM xs ys:=by
 rw [zko,zcM,zda,zda]
 by_cases h:isC xs=true∧isC ys=true
 ·have e:=zhT (ys:=ys) (isC_iff.1 h.1).1
  rw [if_pos h,cutR,e,h.1,h.2];rfl
 ·rw [if_neg h,if_neg (by simpa using h)]
def insD (x:Int):List Int→List Int
 | []=>[x]
 | y::l=>if y≤x then x::y::l else y::insD x l
def zkx:List Int→List Int
 | []=>[]
 | x::l=>insD x (zkx l)
theorem zfZ (x:Int):∀ (l:List Int),(insD x l).Perm (x::l)
 | []=>List.Perm.refl _
 | y::l=>by
  rw [insD];split
  ·exact List.Perm.refl _
  ·exact ((zfZ x l).cons y).trans (List.Perm.swap x y l)
theorem zdk:∀ (l:List Int),(zkx l).Perm l
 | []=>List.Perm.refl _
 | x::l=>(zfZ x (zkx l)).trans ((zdk l).cons x)
theorem zj5 (x:Int):∀ {l:List Int},l.Pairwise (fun a b=>b≤a)→(insD x l).Pairwise (fun a b=>b≤a)
 | [],_=>by simp [insD]
 | y::l,h=>by
  obtain ⟨h1,h2⟩:=List.pairwise_cons.1 h
  rw [insD];split
  ·rename_i hy
   exact List.pairwise_cons.2 ⟨fun z hz=>(List.mem_cons.1 hz).elim (fun e=>e▸hy) (fun e=>Int.le_trans (h1 z e) hy),h⟩
  ·rename_i hy
   refine List.pairwise_cons.2 ⟨fun z hz=>?_,zj5 x h2⟩
   rcases List.mem_cons.1 ((zfZ x l).mem_iff.1 hz) with rfl | hz
   ·omega
   ·exact h1 z hz
theorem zgF:∀ (l:List Int),(zkx l).Pairwise (fun a b=>b≤a)
 | []=>List.Pairwise.nil
 | x::l=>zj5 x (zgF l)
theorem zle (xs:List Int):zcj xs=zkx xs:=by
 have h1:(zcj xs).Pairwise (fun a b=>b≤a):=by
  have:=List.pairwise_mergeSort (le:=fun x y=>!(ltOf cmpD) y x) (fun a b c=>by simp only [ltD,Bool.not_eq_true',decide_eq_false_iff_not];omega) (fun a b=>by simp only [ltD,Bool.or_eq_true,Bool.not_eq_true',decide_eq_false_iff_not];omega) xs
  exact this.imp fun {a b} h=>by simpa [ltD] using h
 have h2:=zgF xs
 have hp:(zcj xs).Perm (zkx xs):=(List.mergeSort_perm xs _).trans (zdk xs).symm
 exact hp.eq_of_pairwise (fun a b _ _ h k=>by omega) h1 h2
def zcK (xs:List Int):Int:=el (zkx xs) (xs.length / 2)
theorem zoy (xs:List Int):zdy xs=zcK xs:=by rw [zdy,zcK,zle]
def ziK (xs:List Int):Int:=if xs=[] then 1 else 0
theorem zuu (l:List Int) (n:Int):FnC Tryz.prog 189 [dInts.can l,dInt.can n] (.bool (hasB l n)) D2:=FnC.of_bool (fnB Tryz.func189 (by decide) rfl) fun w E vals hd=>by
 obtain ⟨v,u,rfl,h1,h3⟩:=zb4 hd
 obtain ⟨a,c,rfl,h2⟩:=zaY h1
 obtain ⟨rfl,_⟩:=h3
 exact (zpP a _ c l n w (IntSl.ofSl h2)).mono (by rintro e w' ⟨rfl,rfl⟩;exact ⟨rfl,Below.refl _ _⟩)
theorem zoN (l:List Int) (n:Int):FnC Tryz.prog 172 [dInts.can l,dInt.can n] (.bool (hasB l n)) D2:=FnC.of_bool (fnB Tryz.func172 (by decide) rfl) fun w E vals hd=>by
 obtain ⟨v,u,rfl,h1,h3⟩:=zb4 hd
 obtain ⟨a,c,rfl,h2⟩:=zaY h1
 obtain ⟨rfl,_⟩:=h3
 exact (zhJ a _ c l n w (IntSl.ofSl h2)).mono (by rintro e w' ⟨rfl,rfl⟩;exact ⟨rfl,Below.refl _ _⟩)
theorem zx3 (l:List Int):FnC Tryz.prog 58 [dInts.can l] (.bool (isC l)) D2:=FnC.of_bool (fnB Tryz.func58 (by decide) rfl) fun w E vals hd=>by
 obtain ⟨v,rfl,h1⟩:=zcs hd
 obtain ⟨a,c,rfl,h2⟩:=zaY h1
 exact (zc0 a _ c l w (IntSl.ofSl h2)).mono (by rintro e w' ⟨rfl,q,rfl⟩;exact ⟨by rw [zda],zb9 (Below.refl _ _) _⟩)
theorem zue (l:List Int):FnC Tryz.prog 65 [dInts.can l] (.bool (isC l)) D2:=FnC.of_bool (fnB Tryz.func65 (by decide) rfl) fun w E vals hd=>by
 obtain ⟨v,rfl,h1⟩:=zcs hd
 obtain ⟨a,c,rfl,h2⟩:=zaY h1
 exact (zhI a _ c l w (IntSl.ofSl h2)).mono (by rintro e w' ⟨rfl,q,rfl⟩;exact ⟨by rw [zda],zb9 (Below.refl _ _) _⟩)
theorem zgS (l k:List Int):FnC Tryz.prog 208 [dInts.can l,dInts.can k] (.bool (zbC l k)) D2:=FnC.of_bool (fnB Tryz.func208 (by decide) rfl) fun w E vals hd=>by
 obtain ⟨v,u,rfl,h1,h3⟩:=zb4 hd
 obtain ⟨a,c,rfl,h2⟩:=zaY h1
 obtain ⟨b,d,rfl,h4⟩:=zaY h3
 exact (zk5 a _ c l b _ d k w (IntSl.ofSl h2) (IntSl.ofSl h4)).mono (by rintro e w' ⟨rfl,hb⟩;exact ⟨by rw [zlY],hb⟩)
theorem zfH (l k:List Int):FnC Tryz.prog 209 [dInts.can l,dInts.can k] (.bool (zbC l k)) D2:=FnC.of_bool (fnB Tryz.func209 (by decide) rfl) fun w E vals hd=>by
 obtain ⟨v,u,rfl,h1,h3⟩:=zb4 hd
 obtain ⟨a,c,rfl,h2⟩:=zaY h1
 obtain ⟨b,d,rfl,h4⟩:=zaY h3
 exact (ziV a _ c l b _ d k w (IntSl.ofSl h2) (IntSl.ofSl h4)).mono (by rintro e w' ⟨rfl,hb⟩;exact ⟨by rw [zlY],by first | exact hb | (obtain ⟨q,rfl⟩:=hb;exact zb9 (Below.refl _ _) _)⟩)
theorem zro (l:List Int) (n:Int) (hl:l.length≤1000000):FnC Tryz.prog 173 [dInts.can l,dInt.can n] (.sl [1] (.rInts (zbh l n))) D2:=FnC.of_ownS (fnB Tryz.func173 (by decide) rfl) fun w E vals hd=>by
 obtain ⟨v,u,rfl,h1,h3⟩:=zb4 hd
 obtain ⟨a,c,rfl,h2⟩:=zaY h1
 obtain ⟨rfl,_⟩:=h3
 have hle:(zbh l n).length≤l.length:=List.length_filter_le _ _
 exact ⟨⟨fun x hx=>h2.i64 x ((List.mem_filter.1 hx).1),by omega⟩,zt5 a _ c l n w (IntSl.ofSl h2) (by omega)⟩
theorem zpa (l:List Int) (n:Int) (hl:l.length≤1000000):FnC Tryz.prog 174 [dInts.can l,dInt.can n] (.own 2) (D3i (putL l n)):=FnC.of_ownR (fnB Tryz.func174 (by decide) rfl) fun w E vals hd=>by
 obtain ⟨v,u,rfl,h1,h3⟩:=zb4 hd
 obtain ⟨a,c,rfl,h2⟩:=zaY h1
 obtain ⟨rfl,h4⟩:=zpD h3
 have hle:=zfo l n
 exact ⟨fun x hx=>(putL_mem.1 hx).elim (fun e=>e▸h4) (h2.i64 x),zvn a _ c l n w (IntSl.ofSl h2) (by omega)⟩
theorem zg7 (l:List Int) (n:Int) (hl:l.length≤1000000):FnC Tryz.prog 133 [dInts.can l,dInt.can n] (.tup [.sl [1] (.rInts (zcl l n)),.int .i64 (zck l n).1]) D2:=FnC.of_setS (fnB Tryz.func133 (by decide) rfl) (by unfold zck;split<;>rfl) fun w E vals hd=>by
 obtain ⟨v,u,rfl,h1,h3⟩:=zb4 hd
 obtain ⟨a,c,rfl,h2⟩:=zaY h1
 obtain ⟨rfl,_⟩:=h3
 have hle:(zbh l n).length≤l.length:=List.length_filter_le _ _
 refine ⟨⟨fun x hx=>?_,?_⟩,by rw [← znd];exact zob a _ c l n w (IntSl.ofSl h2) (by omega)⟩
 ·unfold zcl at hx;split at hx
  ·exact h2.i64 x ((List.mem_filter.1 hx).1)
  ·cases hx
 ·unfold zcl;split
  ·omega
  ·simp
theorem zoc (l:List Int) (n:Int) (hl:l.length≤1000000):FnC Tryz.prog 169 [dInts.can l,dInt.can n] (.tup [.own 2,.int .i64 (ziB l n).1]) (D3i (zcu l n)):=FnC.of_setR (fnB Tryz.func169 (by decide) rfl) (by
  unfold ziB;split
  ·rcases zgs (putL l n) with ⟨_,e,_⟩ | ⟨_,e,_⟩<;>rw [e]<;>decide
  ·decide) fun w E vals hd=>by
 obtain ⟨v,u,rfl,h1,h3⟩:=zb4 hd
 obtain ⟨a,c,rfl,h2⟩:=zaY h1
 obtain ⟨rfl,h4⟩:=zpD h3
 have hle:=zfo l n
 refine ⟨fun x hx=>?_,by rw [← zuW];exact zwO a _ c l n w (IntSl.ofSl h2) (zk8 h2) (by omega) h4⟩
 unfold zcu at hx;split at hx
 ·split at hx
  ·exact (putL_mem.1 hx).elim (fun e=>e▸h4) (h2.i64 x)
  ·cases hx
 ·cases hx
theorem zr4 (l k:List Int) (hl:l.length≤1000000∧k.length≤1000000):FnC Tryz.prog 181 [dInts.can l,dInts.can k] (.tup [.sl [1] (.rInts (zcM l k).2),.int .i64 (zcM l k).1]) D2:=by
 rw [← zr5]
 refine FnC.of_setS (fnB Tryz.func181 (by decide) rfl) (by
  unfold zko;split
  ·rcases zgs (zaV (l++k)) with ⟨_,e,_⟩ | ⟨_,e,_⟩<;>rw [e]<;>decide
  ·decide) fun w E vals hd=>?_
 obtain ⟨v,u,rfl,h1,h3⟩:=zb4 hd
 obtain ⟨a,c,rfl,h2⟩:=zaY h1
 obtain ⟨b,d,rfl,h4⟩:=zaY h3
 refine ⟨⟨ztT h2.i64 h4.i64,?_⟩,zyo a _ c l b _ d k w (IntSl.ofSl h2) (IntSl.ofSl h4) (zk8 h2) (zk8 h4) (by omega) (by omega)⟩
 rw [zr5,zcM]
 have:=ze1 l k
 split
 ·split
  ·show (zaR l k).length≤_;omega
  ·simp
 ·simp
theorem zuv {l:List Int} (h:∀ x∈l,I64 x) (i:Nat):I64 (el l i):=by
 by_cases hi:i<l.length
 ·have e:el l i=l[i]:=by simp [el,hi]
  rw [e];exact h _ (List.getElem_mem hi)
 ·have e:el l i=0:=by simp [el,List.getElem?_eq_none (Nat.not_lt.1 hi)]
  rw [e];exact ⟨by decide,by decide⟩
theorem zox (l:List Int) (hl:l.length≤1000000):FnC Tryz.prog 165 [dInts.can l] (.tup [.int .i64 (zcK l),.int .i64 (ziK l)]) D2:=FnC.of_i2 (fnB Tryz.func165 (by decide) rfl) fun w E vals hd=>by
 obtain ⟨v,rfl,h1⟩:=zcs hd
 obtain ⟨a,c,rfl,h2⟩:=zaY h1
 have hi:I64 (zcK l):=zuv (fun x hx=>h2.i64 x ((zdk l).mem_iff.1 hx)) _
 refine ⟨⟨hi,by unfold ziK;split<;>decide⟩,?_⟩
 by_cases h0:l=[]
 ·subst h0;exact (zsr a c w).mono (by rintro e w' ⟨rfl,rfl⟩;exact ⟨rfl,Below.refl _ _⟩)
 ·rw [← zoy,ziK,if_neg h0]
  exact (zst a _ c l w (IntSl.ofSl h2) (by omega) (List.length_pos_iff.2 h0)).mono (by rintro e w' ⟨rfl,hb⟩;exact ⟨rfl,hb⟩)
theorem zlO (l:List Int) (hl:l.length≤1000000):FnC Tryz.prog 176 [dInts.can l] (.tup [.int .i64 (zcK l),.int .i64 (ziK l)]) D2:=FnC.of_i2 (fnB Tryz.func176 (by decide) rfl) fun w E vals hd=>by
 obtain ⟨v,rfl,h1⟩:=zcs hd
 obtain ⟨a,c,rfl,h2⟩:=zaY h1
 have hi:I64 (zcK l):=zuv (fun x hx=>h2.i64 x ((zdk l).mem_iff.1 hx)) _
 refine ⟨⟨hi,by unfold ziK;split<;>decide⟩,?_⟩
 by_cases h0:l=[]
 ·subst h0;exact (zoB a c w).mono (by rintro e w' ⟨rfl,rfl⟩;exact ⟨rfl,Below.refl _ _⟩)
 ·rw [← zoy,ziK,if_neg h0]
  exact (zoC a _ c l w (IntSl.ofSl h2) (by omega) (List.length_pos_iff.2 h0)).mono (by rintro e w' ⟨rfl,hb⟩;exact ⟨rfl,hb⟩)
def eHas:Ent:=ent2 189 dInts dInt fun l n=>([],.bool (hasB l n),D2)
theorem zwh:zae Tryz.prog eHas:=zar (zuu [] 0).1 fun l n _=>zuu l n
def zvY:Ent:=ent2 172 dInts dInt fun l n=>([],.bool (hasB l n),D2)
theorem zm8:zae Tryz.prog zvY:=zar (zoN [] 0).1 fun l n _=>zoN l n
def eIs:Ent:=ent1 58 dInts fun l=>([],.bool (isC l),D2)
theorem zxZ:zae Tryz.prog eIs:=zan (zx3 []).1 fun l _=>zx3 l
def eRIs:Ent:=ent1 65 dInts fun l=>([],.bool (isC l),D2)
theorem zio:zae Tryz.prog eRIs:=zan (zue []).1 fun l _=>zue l
def zu1:Ent:=ent2 208 dInts dInts fun l k=>([],.bool (zbC l k),D2)
theorem zqv:zae Tryz.prog zu1:=zar (zgS [] []).1 fun l k _=>zgS l k
def zkT:Ent:=ent2 209 dInts dInts fun l k=>([],.bool (zbC l k),D2)
theorem zhm:zae Tryz.prog zkT:=zar (zfH [] []).1 fun l k _=>zfH l k
def zyb:Ent:=ent2 173 dInts dInt fun l n=>([l.length≤1000000],.sl [1] (.rInts (zbh l n)),D2)
theorem ziz:zae Tryz.prog zyb:=zar (zro [] 0 (by decide)).1 fun l n h=>zro l n (h _ (by simp))
def ztt:Ent:=ent2 174 dInts dInt fun l n=>([l.length≤1000000],.own 2,D3i (putL l n))
theorem ziu:zae Tryz.prog ztt:=zar (zpa [] 0 (by decide)).1 fun l n h=>zpa l n (h _ (by simp))
noncomputable def zij:Ent:=ent2 133 dInts dInt fun l n=>([l.length≤1000000],.tup [.sl [1] (.rInts (zcl l n)),.int .i64 (zck l n).1],D2)
theorem zgi:zae Tryz.prog zij:=zar (zg7 [] 0 (by decide)).1 fun l n h=>zg7 l n (h _ (by simp))
noncomputable def zxD:Ent:=ent2 169 dInts dInt fun l n=>([l.length≤1000000],.tup [.own 2,.int .i64 (ziB l n).1],D3i (zcu l n))
theorem zm1:zae Tryz.prog zxD:=zar (zoc [] 0 (by decide)).1 fun l n h=>zoc l n (h _ (by simp))
def zwl:Ent:=ent2 181 dInts dInts fun l k=>([l.length≤1000000∧k.length≤1000000],.tup [.sl [1] (.rInts (zcM l k).2),.int .i64 (zcM l k).1],D2)
theorem zmH:zae Tryz.prog zwl:=zar (zr4 [] [] (by decide)).1 fun l k h=>zr4 l k (h _ (by simp))
def zxH:Ent:=ent1 165 dInts fun l=>([l.length≤1000000],.tup [.int .i64 (zcK l),.int .i64 (ziK l)],D2)
theorem ztm:zae Tryz.prog zxH:=zan (zox [] (by decide)).1 fun l h=>zox l (h _ (by simp))
def zu3:Ent:=ent1 176 dInts fun l=>([l.length≤1000000],.tup [.int .i64 (zcK l),.int .i64 (ziK l)],D2)
theorem zqy:zae Tryz.prog zu3:=zan (zlO [] (by decide)).1 fun l h=>zlO l (h _ (by simp))
end Go.Proofs.YteabcgkjbnecaaaGreat
namespace Go.Proofs.YteabcgkjbnecaaaGreat
open Go.RowKit Go.ChangeShapes Go.WideShapes Go.Deep
set_option maxRecDepth 100000
def dFn (f:Nat):Dec Unit where
 dec:=fun s=>match s with | .fn g=>if g=f then some () else none | _=>none
 can:=fun _=> .fn f
 Okp:=fun _=>True
 okp:=fun _ _ _ _ _=>trivial
 ok:=by
  intro s x h E w v _ hd
  split at h
  ·split at h
   ·rename_i e;subst e;exact hd
   ·cases h
  ·cases h
def inN (x:Int):Bool:=decide (1≤x)&&decide (x≤5)
def outN (x:Int):Bool:=decide (x<1)||decide (5<x)
theorem zfp (x:Int):outN x=!inN x:=by
 unfold outN inN
 by_cases h1:1≤x<;>by_cases h2:x≤5<;>simp [h1,h2]<;>omega
def zaB (p:Int→Bool):List Int→Int
 | []=> -1
 | x::l=>if p x then 0 else (if zaB p l = -1 then -1 else zaB p l+1)
theorem zds {p:Int→Bool}:∀ {l:List Int} {j:Nat},j<l.length→(∀ i,i<j→p (l.getD i 0)=false)→p (l.getD j 0)=true→zaB p l=j
 | x::l,0,_,_,h=>by simp only [List.getD_cons_zero] at h;simp [zaB,h]
 | x::l,j+1,hj,h0,h=>by
  have hx:=h0 0 (by omega)
  simp only [List.getD_cons_zero] at hx
  have:=zds (l:=l) (j:=j) (by simpa using hj) (fun i hi=>by simpa using h0 (i+1) (by omega)) (by simpa using h)
  simp only [zaB,hx,this]
  split
  ·simp at *
  ·split<;>omega
theorem zcD {p:Int→Bool}:∀ {l:List Int},(∀ i,i<l.length→p (l.getD i 0)=false)→zaB p l = -1
 | [],_=>rfl
 | x::l,h=>by
  have hx:=h 0 (by simp)
  simp only [List.getD_cons_zero] at hx
  have:=zcD (l:=l) (fun i hi=>by simpa using h (i+1) (by simpa using hi))
  simp [zaB,hx,this]
theorem zdt {p:Int→Bool}:∀ (l:List Int),(0≤zaB p l↔l.any p=true) ∧ -1≤zaB p l
 | []=>by simp [zaB]
 | x::l=>by
  obtain ⟨h1,h2⟩:=zdt (p:=p) l
  simp only [zaB,List.any_cons,Bool.or_eq_true,← h1]
  split
  ·rename_i hx;simp [hx]
  ·rename_i hx
   split
   ·rename_i h;simp [h,hx]
   ·rename_i h;simp only [hx,false_or];omega
theorem zjH {p:Int→Bool} (l:List Int):decide (zaB p l≥0)=l.any p:=by rw [Bool.eq_iff_iff,decide_eq_true_eq];exact (zdt l).1
theorem zp3 (x:Int):FnC Tryz.prog 183 [dInt.can x] (.bool (outN x)) D2:=by
 refine FnG.of_vc (zah zad fun _=>none) Tryz.func183 rfl (by decide) rfl 300 (p:=fun (V:List PE→Prop)=>let v0:=decide (x<1);True∧(((!v0)=true→(!v0)=true)∧(v0=false→(!v0)=true)∧True)∧zac v0 true (decide (x>5))=outN x∧True) (by kernel_rfl) ?_
 simp only [imp_self,implies_true,true_and,and_true,zaf,zag,outN,GT.gt]
 rcases Bool.eq_false_or_eq_true (decide (x<1)) with h | h<;>rw [h]<;>simp [zac]
def eMay1:Ent:=ent1 183 dInt fun x=>([],.bool (outN x),D2)
theorem zmE:zae Tryz.prog eMay1:=zan (zp3 0).1 fun x _=>zp3 x
theorem zj7 (l:List Int):FnC Tryz.prog 212 [dInts.can l,(dFn 183).can ()] (.int .i64 (zaB outN l)) D2:=by
 refine FnC.g2 dInts (dFn 183) l () (fnB Tryz.func212 (by decide) rfl) fun hl _=>?_
 refine FnG.of_vc (zah (zaa zmE zad) fun _=>none) Tryz.func212 rfl (by decide) rfl 300 (p:=fun (V:List PE→Prop)=>True∧True∧V []) (by kernel_rfl) ?_
 simp only [true_and,and_true]
 refine LoopG.head (zah (zaa zmE zad) fun _=>none) 0 (A:=Nat) (fun j=>j≤l.length∧∀ i,i<j→outN (l.getD i 0)=false) (fun j=>[(8,.int .i64 j)]) (fun _=>[]) (fun j=>l.length-j) 0 ⟨Nat.zero_le _,fun i h=>absurd h (by omega)⟩ (p0:=let v0:=(↑(l.length):Int);(0:Int)=(↑(0:Nat):Int)∧v0=v0∧l=l∧True) (by kernel_rfl) ?_ 300 (p:=fun (x:Nat) (V:List PE→Prop)=>let v0:=(↑x:Int);let v1:=(↑(l.length):Int);let v2:=outN (List.getD l x (0:Int));let v3:=decide (v0<v1);True∧True∧(v3=true→True∧((0:Int)≤v0∧v0<v1∧True)∧True∧(v2=true→True∧v0=zaB outN l∧True)∧(v2=false→True∧V [PE.a,PE.b]))∧(v3=false→True∧(-1:Int)=zaB outN l∧True)) (by intro x;kernel_rfl) ?_
 ·simp
 ·rintro j ⟨hj,h0⟩
  have hl44:=hl.1
  simp only [true_and,and_true,decide_eq_true_eq,decide_eq_false_iff_not]
  refine ⟨fun h1=>⟨by omega,fun h2=>?_,fun h2=>?_⟩,fun h1=>?_⟩
  ·exact (zds (by omega) h0 h2).symm
  ·refine Back.mk (j+1) ⟨by omega,fun i hi=>?_⟩ (by omega) (p0:=let v0:=(↑(l.length):Int);IntKind.wrap IntKind.i64 ((↑j:Int)+(1:Int))=(↑(j+(1:Nat)):Int)∧v0=v0∧l=l∧True) (by kernel_rfl) ?_
   ·by_cases h:i=j
    ·subst h;exact h2
    ·exact h0 i (by omega)
   ·simp [za8 (i:=j) (by omega)]
  ·exact (zcD fun i hi=>h0 i (by omega)).symm
def zwg:Ent:=ent2 212 dInts (dFn 183) fun l _=>([],.int .i64 (zaB outN l),D2)
theorem znL:zae Tryz.prog zwg:=zar (zj7 []).1 fun l _ _=>zj7 l
theorem zeY (l:List Int):FnC Tryz.prog 182 [dInts.can l,(dFn 183).can ()] (.bool (l.any outN)) D2:=by
 refine FnG.of_vc (zah (zaa znL zad) fun _=>none) Tryz.func182 rfl (by decide) rfl 300 (p:=fun (V:List PE→Prop)=>True∧True∧decide (zaB outN l≥0)=List.any l outN∧True) (by kernel_rfl) ?_
 simp only [true_and,and_true]
 exact zjH l
def zht:Ent:=ent2 182 dInts (dFn 183) fun l _=>([],.bool (l.any outN),D2)
theorem zi0:zae Tryz.prog zht:=zar (zeY []).1 fun l _ _=>zeY l
def mayC (c:Config):Bool:=(isC c.voters&&c.voters.all inN)&&(isC c.learners&&c.learners.all inN)&&decide (c.voters≠[])&&c.voters.all (fun x=>!hasB c.learners x)
theorem zeM:∀ (l:List Int) (a b:Int),Asc l→(∀ x∈l,a≤x∧x≤b)→a≤b+1→(l.length:Int)≤b-a+1
 | [],a,b,_,_,h=>by simp;omega
 | x::l,a,b,hs,hb,h=>by
  obtain ⟨hx,hl⟩:=List.pairwise_cons.1 hs
  have h1:=hb x (List.mem_cons_self ..)
  have:=zeM l (x+1) b hl (fun y hy=>⟨by have:=hx y hy;omega,(hb y (List.mem_cons_of_mem _ hy)).2⟩) (by omega)
  rw [List.length_cons];omega
theorem zfN:∀ (ys acc:List Int),ys.Pairwise (· ≠ ·)→((zaR acc ys).length=acc.length+ys.length↔∀ y∈ys,y∉acc)
 | [],acc,_=>by simp [zaR]
 | y::ys,acc,h=>by
  obtain ⟨hy,hys⟩:=List.pairwise_cons.1 h
  have e:zaR acc (y::ys)=zaR (putL acc y) ys:=rfl
  rw [e]
  have hle:=ze1 (putL acc y) ys
  cases hb:hasB acc y
  ·have h1:=zfn hb
   have h2:(putL acc y).length=acc.length+1:=by rw [h1,zpE]
   have hn:y∉acc:=hasB_not.1 hb
   have ih:=zfN ys (putL acc y) hys
   rw [List.length_cons]
   constructor
   ·intro hh
    have h3:=ih.1 (by omega)
    intro z hz
    rcases List.mem_cons.1 hz with rfl | hz
    ·exact hn
    ·exact fun hm=>h3 z hz (putL_mem.2 (.inr hm))
   ·intro hh
    have h3:=ih.2 (fun z hz hm=>by
     rcases putL_mem.1 hm with rfl | hm
     ·exact hy z hz rfl
     ·exact hh z (List.mem_cons_of_mem _ hz) hm)
    omega
  ·have h1:=zhK hb
   have hm:y∈acc:=hasB_iff.1 hb
   rw [h1] at hle ⊢
   rw [List.length_cons]
   constructor
   ·intro hh;omega
   ·intro hh;exact absurd hm (hh y (List.mem_cons_self ..))
theorem zyp {l:List Int} (h:Asc l):l.Pairwise (· ≠ ·):=List.Pairwise.imp (fun {a b} (hab:a<b)=>by omega) h
theorem zmm (c:Config):mayC c=(((zcM c.voters c.learners).1==0)&&!((zcM c.voters c.learners).2.any outN)&&decide ((0:Int)<(c.voters.length:Int))&&(((zcM c.voters c.learners).2.length:Int)==(c.voters.length:Int)+(c.learners.length:Int))):=by
 rw [Bool.eq_iff_iff]
 by_cases hi:isC c.voters=true∧isC c.learners=true
 ·obtain ⟨h1,h2⟩:=hi
  have a2:=(isC_iff.1 h2).1
  have a1:=(isC_iff.1 h1).1
  have hmem:∀ x,x∈zaR c.voters c.learners↔x∈c.voters∨x∈c.learners:=fun x=>zgX
  have hfull:=zfN c.learners c.voters (zyp a2)
  have hany:((zaR c.voters c.learners).any outN=false)↔(c.voters.all inN=true∧c.learners.all inN=true):=by
   rw [List.any_eq_false,List.all_eq_true,List.all_eq_true]
   constructor
   ·intro h
    exact ⟨fun x hx=>by have:=h x ((hmem x).2 (.inl hx));rw [zfp] at this;simpa using this,fun x hx=>by have:=h x ((hmem x).2 (.inr hx));rw [zfp] at this;simpa using this⟩
   ·rintro ⟨k1,k2⟩ x hx
    rw [zfp]
    rcases (hmem x).1 hx with h | h
    ·simp [k1 x h]
    ·simp [k2 x h]
  have hdis:(c.voters.all (fun x=>!hasB c.learners x)=true)↔∀ y∈c.learners,y∉c.voters:=by
   rw [List.all_eq_true]
   constructor
   ·intro h y hy hv
    have:=h y hv
    simp [hasB_iff.2 hy] at this
   ·intro h x hx
    cases hb:hasB c.learners x
    ·rfl
    ·exact absurd hx (h x (hasB_iff.1 hb))
  have hne:(c.voters≠[])↔(0:Int)<(c.voters.length:Int):=by
   cases c.voters<;>simp<;>omega
  unfold mayC zcM
  rw [h1,h2]
  simp only [Bool.and_eq_true,decide_eq_true_eq,true_and,hdis,Bool.and_self,if_true]
  by_cases hlen:(zaR c.voters c.learners).length≤16
  ·rw [if_pos hlen]
   constructor
   ·rintro ⟨⟨⟨v1,l1⟩,ne⟩,d⟩
    refine ⟨⟨⟨by simp,?_⟩,hne.1 ne⟩,?_⟩
    ·rw [hany.2 ⟨v1,l1⟩];rfl
    ·rw [beq_iff_eq];have:=hfull.2 d;simp only;omega
   ·rintro ⟨⟨⟨_,an⟩,ne⟩,d⟩
    rw [beq_iff_eq] at d
    have h3:=hany.1 (by simpa using an)
    exact ⟨⟨⟨h3.1,h3.2⟩,hne.2 ne⟩,hfull.1 (by simp only at d;omega)⟩
  ·rw [if_neg hlen]
   constructor
   ·rintro ⟨⟨⟨v1,l1⟩,ne⟩,d⟩
    exfalso
    have hl:=zeM _ 1 5 (ze2 (ys:=c.learners) a1) (fun x hx=>by
     have:inN x=true:=by
      rcases (hmem x).1 hx with h | h
      ·exact List.all_eq_true.1 v1 x h
      ·exact List.all_eq_true.1 l1 x h
     simpa [inN] using this) (by omega)
    omega
   ·rintro ⟨⟨⟨h,_⟩,_⟩,_⟩
    simp at h
 ·have ebr:zcM c.voters c.learners=(1,[]):=by rw [zcM,if_neg (by simpa using hi)]
  rw [ebr]
  constructor
  ·intro h
   unfold mayC at h
   simp only [Bool.and_eq_true] at h
   exact absurd ⟨h.1.1.1.1,h.1.1.2.1⟩ hi
  ·intro h
   simp at h
theorem zv4 {c:Config} (h:mayC c=true):c.voters.length≤16∧c.learners.length≤16:=by
 unfold mayC at h
 simp only [Bool.and_eq_true] at h
 exact ⟨(isC_iff.1 h.1.1.1.1).2,(isC_iff.1 h.1.1.2.1).2⟩
def zxi:List Ent:=[zwl,zht]
theorem zou:∀ e∈zxi,zae Tryz.prog e:=zaa zmH (zaa zi0 zad)
theorem zp2 (c:Config) (hc:zaw c):FnC Tryz.prog 132 [dConfig.can c] (.bool (mayC c)) D2:=by
 refine FnG.of_vc (zah zou fun _=>none) Tryz.func132 rfl (by decide) rfl 300 (p:=fun (V:List PE→Prop)=>let v0:=c.learners;let v1:=c.voters.length;let v3:=zcM c.voters v0;let v4:=(↑v1:Int);let v6:=Prod.fst v3==0;let v7:=zac v6 (!List.any (Prod.snd v3) outN) false;let v8:=zac v7 (decide (v4>0)) false;True∧((v1≤1000000∧v0.length≤1000000)∧True)∧((v6=true→v6=true)∧(v6=true→v6=true)∧(v6=true→v6=true)∧True)∧((v7=true→v7=true)∧(v7=true→v7=true)∧(v7=true→v7=true)∧(v7=true→v7=true)∧(v8=true→v8=true)∧(v8=true→v8=true)∧(v8=true→v8=true)∧(v8=true→v8=true)∧(v8=true→v8=true)∧(v8=true→v8=true)∧(v8=true→v8=true)∧(v8=true→v8=true)∧(v8=true→v8=true)∧(v8=true→v8=true)∧True)∧zac v8 ((↑(List.length (Prod.snd v3)):Int)==IntKind.wrap IntKind.i64 (v4+(↑(v0.length):Int))) false=mayC c∧True) (by kernel_rfl) ?_
 simp only [imp_self,implies_true,true_and,and_true,zaf,zag]
 refine ⟨hc,?_⟩
 rw [zmm,zb3 (by unfold zaw at hc;constructor<;>omega)]
def eMay:Ent:=ent1 132 dConfig fun c=>([zaw c],.bool (mayC c),D2)
theorem zwe:zae Tryz.prog eMay:=zan (zp2 default (by unfold zaw;decide)).1 fun c h=>zp2 c (h _ (by simp))
theorem zuQ (c:Config):FnC Tryz.prog 131 [dConfig.can c] (.agg (c.svs [0])) D2:=by
 refine FnG.of_vc (zah zad fun _=>none) Tryz.func131 rfl (by decide) rfl 300 (p:=fun (V:List PE→Prop)=>True∧True∧c.voters=c.voters∧c.learners=c.learners∧True) (by kernel_rfl) ?_
 simp
def eAsk:Ent:=ent1 131 dConfig fun c=>([],.agg (c.svs [0]),D2)
theorem zwm:zae Tryz.prog eAsk:=zan (zuQ default).1 fun c h=>zuQ c
theorem zpy (c:Config) (n:Int):FnC Tryz.prog 138 [dConfig.can c,dInt.can n] (.tup [.bool (hasB c.voters n),.bool (hasB c.learners n)]) D2:=by
 refine FnG.of_vc (zah (zaa zwh zad) fun _=>none) Tryz.func138 rfl (by decide) rfl 300 (p:=fun (V:List PE→Prop)=>let v0:=hasB c.learners n;let v1:=hasB c.voters n;True∧True∧v1=v1∧v0=v0∧True) (by kernel_rfl) ?_
 simp
def zxW:Ent:=ent2 138 dConfig dInt fun c n=>([],.tup [.bool (hasB c.voters n),.bool (hasB c.learners n)],D2)
theorem ztw:zae Tryz.prog zxW:=zar (zpy default 0).1 fun c n h=>zpy c n
noncomputable def zxh:List Ent:=[eMay,eAsk,zxW,zwl,zu1,zxD,zij]
theorem zdO:∀ e∈zxh,zae Tryz.prog e:=zaa zwe (zaa zwm (zaa ztw (zaa zmH (zaa zqv (zaa zm1 (zaa zgi zad))))))
def errM (b:Bool):Int:=if b then 0 else 160
theorem zjx (c:Config) (hc:zaw c):FnC Tryz.prog 59 [dConfig.can c] (.int .i64 (errM (mayC c))) D2:=by
 refine FnG.of_vc (zah zdO fun _=>none) Tryz.func59 rfl (by decide) rfl 300 (p:=fun (V:List PE→Prop)=>True∧(zaw c∧True)∧True∧((!mayC c)=true→True∧(160:Int)=errM (mayC c)∧True)∧((!mayC c)=false→True∧(0:Int)=errM (mayC c)∧True)) (by kernel_rfl) ?_
 simp only [imp_self,implies_true,true_and,and_true,zaf,zag]
 refine ⟨hc,fun h=>?_,fun h=>?_⟩
 ·have:mayC c=false:=by simpa using h
  rw [this];rfl
 ·have:mayC c=true:=by simpa using h
  rw [this];rfl
def allC (c:Config):List Int:=if mayC c then zaR c.voters c.learners else []
theorem zmn {c:Config} (h:mayC c=true):zcM c.voters c.learners=(0,zaR c.voters c.learners):=by
 rw [zmm] at h
 simp only [Bool.and_eq_true] at h
 unfold zcM at h ⊢
 split at h
 ·rename_i hi
  rw [if_pos hi]
  split at h
  ·rename_i hl;rw [if_pos hl]
  ·simp at h
 ·simp at h
theorem zp5 (c:Config) (hc:zaw c):FnC Tryz.prog 134 [dConfig.can c] (.sl [1] (.rInts (allC c))) D2:=by
 refine FnG.of_vc (zah zdO fun _=>none) Tryz.func134 rfl (by decide) rfl 300 (p:=fun (V:List PE→Prop)=>True∧(zaw c∧True)∧True∧((!mayC c)=true→True∧allC c=[]∧True)∧((!mayC c)=false→((c.voters.length≤1000000∧c.learners.length≤1000000)∧True)∧True∧Prod.snd (zcM c.voters c.learners)=allC c∧True)) (by kernel_rfl) ?_
 simp only [imp_self,implies_true,true_and,and_true,zaf,zag]
 refine ⟨hc,fun h=>?_,fun h=>⟨hc,?_⟩⟩
 ·simp at h;simp [allC,h]
 ·simp at h;rw [zmn h];simp [allC,h]
theorem zju (c:Config) (n:Int) (hc:zaw c):FnC Tryz.prog 76 [dConfig.can c,dInt.can n] (.bool (hasB c.voters n&&mayC c)) D2:=by
 refine FnG.of_vc (zah zdO fun _=>none) Tryz.func76 rfl (by decide) rfl 300 (p:=fun (V:List PE→Prop)=>let v0:=hasB c.voters n;True∧True∧((v0=true→v0=true)∧(v0=true→v0=true)∧(v0=true→v0=true)∧(v0=true→zaw c)∧(v0=true→v0=true)∧True)∧zac v0 (mayC c) false=(v0&&mayC c)∧True) (by kernel_rfl) ?_
 simp only [imp_self,implies_true,true_and,and_true,zaf,zag]
 exact fun _=>hc
theorem zfV (c:Config) (l:List Int) (hc:zaw c):FnC Tryz.prog 167 [dConfig.can c,dInts.can l] (.bool (mayC c&&zbC c.voters l)) D2:=by
 refine FnG.of_vc (zah zdO fun _=>none) Tryz.func167 rfl (by decide) rfl 300 (p:=fun (V:List PE→Prop)=>let v0:=zbC c.voters l;True∧(zaw c∧(mayC c=true→mayC c=true)∧(mayC c=true→mayC c=true)∧(mayC c=true→mayC c=true)∧(mayC c=true→mayC c=true)∧True)∧zac (mayC c) v0 false=(mayC c&&v0)∧True) (by kernel_rfl) ?_
 simp only [imp_self,implies_true,true_and,and_true,zaf,zag]
 exact hc
def zkY:Ent:=ent1 59 dConfig fun c=>([zaw c],.int .i64 (errM (mayC c)),D2)
theorem zhr:zae Tryz.prog zkY:=zan (zjx default (by unfold zaw;decide)).1 fun c h=>zjx c (h _ (by simp))
def eAll:Ent:=ent1 134 dConfig fun c=>([zaw c],.sl [1] (.rInts (allC c)),D2)
theorem zwp:zae Tryz.prog eAll:=zan (zp5 default (by unfold zaw;decide)).1 fun c h=>zp5 c (h _ (by simp))
def zuw:Ent:=ent2 76 dConfig dInt fun c n=>([zaw c],.bool (hasB c.voters n&&mayC c),D2)
theorem zql:zae Tryz.prog zuw:=zar (zju default 0 (by unfold zaw;decide)).1 fun c n h=>zju c n (h _ (by simp))
def zik:Ent:=ent2 167 dConfig dInts fun c l=>([zaw c],.bool (mayC c&&zbC c.voters l),D2)
theorem zgj:zae Tryz.prog zik:=zar (zfV default [] (by unfold zaw;decide)).1 fun c l h=>zfV c l (h _ (by simp))
def zbM (l:List Int):Bool:=isC l&&l.all inN
theorem zmj (l:List Int):FnC Tryz.prog 186 [dInts.can l] (.bool (zbM l)) D2:=by
 refine FnC.g1 dInts l (fnB Tryz.func186 (by decide) rfl) fun hl=>?_
 refine FnG.of_vc (zah (zaa zio zad) fun _=>none) Tryz.func186 rfl (by decide) rfl 300 (p:=fun (V:List PE→Prop)=>True∧True∧True∧((!isC l)=true→True∧false=zbM l∧True)∧((!isC l)=false→True∧V [PE.b])) (by kernel_rfl) ?_
 simp only [imp_self,implies_true,true_and,and_true,zaf,zag]
 refine ⟨fun h=>by simp at h;simp [zbM,h],fun h=>?_⟩
 have hi:isC l=true:=by simpa using h
 refine LoopG.head (zah (zaa zio zad) fun _=>none) 0 (A:=Nat) (fun j=>j≤l.length∧∀ i,i<j→inN (l.getD i 0)=true) (fun j=>[(3,.int .i64 j)]) (fun _=>[]) (fun j=>l.length-j) 0 ⟨Nat.zero_le _,fun i h=>absurd h (by omega)⟩ (p0:=(0:Int)=(↑(0:Nat):Int)∧l=l∧True) (by kernel_rfl) ?_ 300 (p:=fun (x:Nat) (V:List PE→Prop)=>let v0:=(↑x:Int);let v1:=(↑(l.length):Int);let v2:=List.getD l x (0:Int);let v3:=decide (v0<v1);let v4:=decide (v2<1);let v5:=zac v4 true (decide (v2>5));True∧True∧(v3=true→((0:Int)≤v0∧v0<v1∧((!v4)=true→(!v4)=true)∧((!v4)=true→(!v4)=true)∧((!v4)=true→(0:Int)≤v0)∧((!v4)=true→v0<v1)∧((!v4)=true→(!v4)=true)∧((!v4)=true→(!v4)=true)∧(v4=false→(!v4)=true)∧True)∧True∧(v5=true→True∧false=zbM l∧True)∧(v5=false→True∧V [PE.a,PE.b]))∧(v3=false→True∧true=zbM l∧True)) (by intro x;kernel_rfl) ?_
 ·simp
 ·rintro j ⟨hj,h0⟩
  have hl44:=hl.1
  simp only [imp_self,implies_true,true_and,and_true,decide_eq_true_eq,decide_eq_false_iff_not]
  have key:zac (decide (l.getD j 0<1)) true (decide (l.getD j 0>5))=!inN (l.getD j 0):=by
   generalize l.getD j 0=x
   rw [← zfp];unfold zac outN
   by_cases h1:x<1<;>simp [h1]
  rw [key]
  refine ⟨fun h6=>⟨⟨by omega,h6,by intros;omega,by intros;omega,by simp⟩,fun h7=>?_,fun h7=>?_⟩,fun h6=>?_⟩
  ·have hj2:j<l.length:=by omega
   have:l.all inN=false:=by
    rw [List.all_eq_false]
    exact ⟨l.getD j 0,za4 hj2,by simpa using h7⟩
   simp [zbM,this]
  ·refine Back.mk (j+1) ⟨by omega,fun i hi2=>?_⟩ (by omega) (p0:=IntKind.wrap IntKind.i64 ((↑j:Int)+(1:Int))=(↑(j+(1:Nat)):Int)∧l=l∧True) (by kernel_rfl) ?_
   ·by_cases h:i=j
    ·subst h;simpa using h7
    ·exact h0 i (by omega)
   ·simp [za8 (i:=j) (by omega)]
  ·have:l.all inN=true:=by
    rw [List.all_eq_true]
    intro x hx
    obtain ⟨i,hi2,rfl⟩:=List.mem_iff_getElem.1 hx
    have:=h0 i (by omega)
    rwa [zbi hi2] at this
   simp [zbM,this,hi]
def zuE:Ent:=ent1 186 dInts fun l=>([],.bool (zbM l),D2)
theorem zqS:zae Tryz.prog zuE:=zan (zmj []).1 fun l _=>zmj l
def zxg:List Ent:=[zuE,zvY,ztt,zkT]
theorem ziJ:∀ e∈zxg,zae Tryz.prog e:=zaa zqS (zaa zm8 (zaa ziu (zaa zhm zad)))
theorem zoL (c:Config):FnC Tryz.prog 135 [dConfig.can c] (.bool (mayC c)) D2:=by
 refine FnC.g1 dConfig c (fnB Tryz.func135 (by decide) rfl) fun hk=>?_
 refine FnG.of_vc (zah ziJ fun _=>none) Tryz.func135 rfl (by decide) rfl 300 (p:=fun (V:List PE→Prop)=>let v0:=!zbM c.voters;let v1:=zac v0 true !zbM c.learners;let v2:=zac v1 true ((↑(c.voters.length):Int)==0);True∧(((!v0)=true→(!v0)=true)∧((!v0)=true→(!v0)=true)∧((!v0)=true→(!v0)=true)∧(v0=false→(!v0)=true)∧((!v1)=true→(!v1)=true)∧((!v1)=true→(!v1)=true)∧((!v1)=true→(!v1)=true)∧(v1=false→(!v1)=true)∧True)∧True∧(v2=true→True∧false=mayC c∧True)∧(v2=false→True∧V [PE.b])) (by kernel_rfl) ?_
 simp only [imp_self,implies_true,true_and,and_true,zaf,zag]
 have hd:mayC c=((zbM c.voters&&zbM c.learners&&!((c.voters.length:Int)==0))&&c.voters.all (fun x=>!hasB c.learners x)):=by
  unfold mayC zbM
  have:decide (c.voters≠[])=!((c.voters.length:Int)==0):=by cases c.voters<;>simp<;>omega
  rw [this]
 refine ⟨⟨fun h=>by simpa using h,fun h=>by rw [h];rfl⟩,fun h=>?_,fun h=>?_⟩
 ·rw [hd]
  revert h;cases zbM c.voters<;>cases zbM c.learners<;>cases ((c.voters.length:Int)==0)<;>simp
 ·have hd2:mayC c=c.voters.all (fun x=>!hasB c.learners x):=by
   rw [hd]
   revert h;cases zbM c.voters<;>cases zbM c.learners<;>cases ((c.voters.length:Int)==0)<;>simp
  rw [hd2]
  refine LoopG.head (zah ziJ fun _=>none) 0 (A:=Nat) (fun j=>j≤c.voters.length∧∀ i,i<j→hasB c.learners (c.voters.getD i 0)=false) (fun j=>[(3,.int .i64 j)]) (fun _=>[]) (fun j=>c.voters.length-j) 0 ⟨Nat.zero_le _,fun i h=>absurd h (by omega)⟩ (p0:=(0:Int)=(↑(0:Nat):Int)∧c.voters=c.voters∧c.learners=c.learners∧True) (by kernel_rfl) ?_ 300 (p:=fun (x:Nat) (V:List PE→Prop)=>let v1:=c.voters;let v2:=(↑x:Int);let v3:=(↑(v1.length):Int);let v4:=List.all v1 fun (x:Int)=>!hasB c.learners x;let v5:=hasB c.learners (List.getD v1 x (0:Int));let v6:=decide (v2<v3);True∧True∧(v6=true→((0:Int)≤v2∧v2<v3∧True)∧True∧(v5=true→True∧false=v4∧True)∧(v5=false→True∧V [PE.a,PE.b]))∧(v6=false→True∧true=v4∧True)) (by intro x;kernel_rfl) ?_
  ·simp
  ·rintro j ⟨hj,h0⟩
   have hl44:=hk.voters.1
   simp only [imp_self,implies_true,true_and,and_true,decide_eq_true_eq,decide_eq_false_iff_not]
   refine ⟨fun h6=>⟨by omega,fun h7=>?_,fun h7=>?_⟩,fun h6=>?_⟩
   ·have:c.voters.all (fun x=>!hasB c.learners x)=false:=by
     rw [List.all_eq_false]
     exact ⟨c.voters.getD j 0,za4 (by omega),by rw [h7];simp⟩
    exact this.symm
   ·refine Back.mk (j+1) ⟨by omega,fun i hi2=>?_⟩ (by omega) (p0:=IntKind.wrap IntKind.i64 ((↑j:Int)+(1:Int))=(↑(j+(1:Nat)):Int)∧c.voters=c.voters∧c.learners=c.learners∧True) (by kernel_rfl) ?_
    ·by_cases h:i=j
     ·subst h;exact h7
     ·exact h0 i (by omega)
    ·simp [za8 (i:=j) (by omega)]
   ·have:c.voters.all (fun x=>!hasB c.learners x)=true:=by
     rw [List.all_eq_true]
     intro x hx
     obtain ⟨i,hi2,rfl⟩:=List.mem_iff_getElem.1 hx
     have:=h0 i (by omega)
     rw [zbi hi2] at this
     simp [this]
    exact this.symm
def zvX:Ent:=ent1 135 dConfig fun c=>([],.bool (mayC c),D2)
theorem zft:zae Tryz.prog zvX:=zan (zoL default).1 fun c _=>zoL c
def zxf:List Ent:=[zvX,zvY,ztt,zkT]
theorem zf9:∀ e∈zxf,zae Tryz.prog e:=zaa zft (zaa zm8 (zaa ziu (zaa zhm zad)))
theorem zoW (c:Config) (hc:zaw c):FnC Tryz.prog 175 [dConfig.can c] (.sl [1] (.rInts (allC c))) D2:=by
 refine FnC.g1 dConfig c (fnB Tryz.func175 (by decide) rfl) fun hk=>?_
 refine FnG.of_vc (zah zf9 fun _=>none) Tryz.func175 rfl (by decide) rfl 300 (p:=fun (V:List PE→Prop)=>True∧True∧True∧((!mayC c)=true→True∧allC c=[]∧True)∧((!mayC c)=false→True∧(((0:Nat)+c.voters.length)*(1024:Nat)≤140737488355328∧True)∧True∧V [PE.b])) (by kernel_rfl) ?_
 simp only [imp_self,implies_true,true_and,and_true,zaf,zag]
 refine ⟨fun h=>by simp at h;simp [allC,h],fun h=>?_⟩
 have hm:mayC c=true:=by simpa using h
 have hsn:∀ j,j<c.learners.length→zaR c.voters (c.learners.take (j+1))=putL (zaR c.voters (c.learners.take j)) (c.learners.getD j 0):=by
  intro j hj
  rw [zam (d:=0) hj];simp [zaR]
 refine ⟨by have:=hc.1;simp;omega,?_⟩
 refine LoopG.head (zah zf9 fun _=>none) 0 (A:=Nat) (fun j=>j≤c.learners.length) (fun j=>[(4,.int .i64 j),(3,.sl [13] (.rInts (zaR c.voters (c.learners.take j))))]) (fun _=>[]) (fun j=>c.learners.length-j) 0 (Nat.zero_le _) (p0:=let v0:=c.voters;let v1:=c.learners;(0:Int)=(↑(0:Nat):Int)∧v0=zaR v0 (List.take (0:Nat) v1)∧v0.length≤17592186044416∧v0=v0∧v1=v1∧True) (by kernel_rfl) ?_ 300 (p:=fun (x:Nat) (V:List PE→Prop)=>let v1:=(↑x:Int);let v2:=(↑(c.learners.length):Int);let v3:=zaR c.voters (List.take x c.learners);let v4:=decide (v1<v2);True∧True∧(v4=true→((0:Int)≤v1∧v1<v2∧v3.length≤1000000∧True)∧True∧V [PE.a])∧(v4=false→True∧v3=allC c∧True)) (by intro x;kernel_rfl) ?_
 ·simp [zaR];have:=hc.1;omega
 ·rintro j hj
  have hl44:=hk.voters.1
  have hl45:=hk.learners.1
  have hpl:=ze1 c.voters (c.learners.take j)
  simp only [imp_self,implies_true,true_and,and_true,decide_eq_true_eq,decide_eq_false_iff_not]
  have hlen:=zv4 hm
  have htl:(c.learners.take j).length≤c.learners.length:=by simp;omega
  refine ⟨fun h6=>⟨⟨by omega,h6,by omega⟩,?_⟩,fun h6=>?_⟩
  ·refine Back.mk (j+1) (by omega) (by omega) (p0:=let v0:=c.learners;let v1:=c.voters;let v2:=putL (zaR v1 (List.take j v0)) (List.getD v0 j (0:Int));IntKind.wrap IntKind.i64 ((↑j:Int)+(1:Int))=(↑(j+(1:Nat)):Int)∧v2=zaR v1 (List.take (j+(1:Nat)) v0)∧v2.length≤17592186044416∧v1=v1∧v0=v0∧True) (by kernel_rfl) ?_
   simp only [true_and,and_true,za8 (i:=j) (by omega)]
   have hpl2:=zfo (zaR c.voters (c.learners.take j)) (c.learners.getD j 0)
   exact ⟨by omega,(hsn j (by omega)).symm,by omega⟩
  ·obtain rfl:j=c.learners.length:=by omega
   simp [allC,hm]
theorem zeO (c:Config) (l:List Int):FnC Tryz.prog 168 [dConfig.can c,dInts.can l] (.bool (mayC c&&zbC c.voters l)) D2:=by
 refine FnG.of_vc (zah zf9 fun _=>none) Tryz.func168 rfl (by decide) rfl 300 (p:=fun (V:List PE→Prop)=>let v0:=zbC c.voters l;True∧((mayC c=true→mayC c=true)∧(mayC c=true→mayC c=true)∧(mayC c=true→mayC c=true)∧(mayC c=true→mayC c=true)∧True)∧zac (mayC c) v0 false=(mayC c&&v0)∧True) (by kernel_rfl) ?_
 cases h:mayC c<;>simp [zac]
def zxP:Ent:=ent1 175 dConfig fun c=>([zaw c],.sl [1] (.rInts (allC c)),D2)
theorem ztr:zae Tryz.prog zxP:=zan (zoW default (by unfold zaw;decide)).1 fun c h=>zoW c (h _ (by simp))
def zjW:Ent:=ent2 168 dConfig dInts fun c l=>([],.bool (mayC c&&zbC c.voters l),D2)
theorem zeW:zae Tryz.prog zjW:=zar (zeO default []).1 fun c l h=>zeO c l
def seqC:Int→List Entry→Bool
 | _,[]=>true
 | s,e::l=>(e.index==s+1)&&seqC (s+1) l
theorem seqC_iff:∀ {l:List Entry} {s:Int},seqC s l=true↔∀ i,i<l.length→(l.getD i default).index=s+1+i
 | [],s=>by simp [seqC]
 | e::l,s=>by
  simp only [seqC,Bool.and_eq_true,beq_iff_eq,seqC_iff (l:=l)]
  constructor
  ·rintro ⟨h1,h2⟩ i hi
   cases i with
   | zero=>simp only [List.getD_cons_zero];omega
   | succ i=>
    have:=h2 i (by simpa using hi)
    simp only [List.getD_cons_succ];omega
  ·intro h
   refine ⟨by have:=h 0 (by simp);simp only [List.getD_cons_zero] at this;omega,fun i hi=>?_⟩
   have:=h (i+1) (by simpa using hi)
   simp only [List.getD_cons_succ] at this;omega
def onC (k:Kept):Bool:=decide (0≤k.snap.index)&&decide (k.entries.length≤10000)&&seqC k.snap.index k.entries
theorem zvx {k:Kept}:onC k=true↔onP k:=by
 unfold onC onP okAt Kept.en
 simp only [Bool.and_eq_true,decide_eq_true_eq,seqC_iff,and_assoc]
 constructor
 ·rintro ⟨h1,h2,h3⟩
  exact ⟨h1,h2,fun i hi=>by have:=h3 i hi;omega⟩
 ·rintro ⟨h1,h2,h3⟩
  exact ⟨h1,h2,fun i hi=>by have:=h3 i hi;omega⟩
theorem zjs (k:Kept):onB k=onC k:=by rw [Bool.eq_iff_iff,onB_iff,zvx]
theorem zsK {k:Kept} (h:onC k=true) {i:Nat} (hi:i<k.entries.length):(k.entries.getD i default).index=k.snap.index+1+i:=by
 unfold onC at h
 simp only [Bool.and_eq_true] at h
 exact seqC_iff.1 h.2 i hi
theorem zjr {k:Kept} (h:onC k=true):0≤k.snap.index∧k.entries.length≤10000:=by
 unfold onC at h
 simp only [Bool.and_eq_true,decide_eq_true_eq] at h
 exact h.1
def zaq (k:Kept):Int×Int:=if onC k then zj3 k else (0,0)
theorem zkE (k:Kept):zaO k=zaq k:=by rw [zhX,zaq,zjs]
theorem zbe {k:Kept} (h:onC k=true):(zaq k).1=k.snap.index+k.entries.length:=by
 rw [zaq,if_pos h,zj3]
 split
 ·rename_i h0;rw [h0];simp [zhF]
 ·rename_i h0
  show (k.entries.getD _ default).index=_
  rw [zsK h (by omega)];omega
def zaI (k:Kept) (i:Int):Int×Int:=
 if onC k then (if i=k.snap.index then (k.snap.term,0) else if k.snap.index<i∧i≤k.snap.index+k.entries.length then ((k.entries.getD (i-k.snap.index-1).toNat default).term,0) else (0,150)) else (0,1)
theorem zf5 (k:Kept) (i:Int):zaA k i=zaI k i:=by
 unfold zaI
 by_cases h:onC k=true
 ·have hb:onB k=true:=by rw [zjs];exact h
  rw [if_pos h]
  split
  ·rename_i e;subst e;exact zgC hb
  ·rename_i h0
   split
   ·rename_i h1
    have hj:(i-k.snap.index-1).toNat<k.entries.length:=by omega
    have:=zh8 hb hj
    have e:(k.en (i-k.snap.index-1).toNat).index=i:=by
     show (k.entries.getD _ default).index=i
     rw [zsK h hj];omega
    rw [e] at this;exact this
   ·rename_i h1
    refine zex hb h0 fun j hj e=>h1 ?_
    have:(k.en j).index=_:=zsK h hj
    omega
 ·have h2:onC k=false:=by simpa using h
  rw [if_neg h];exact ziF (by rw [zjs];exact h2) i
def zcI (k:Kept) (i t:Int):Bool:=zpt (onC k) (zaq k) i t
theorem zml (k:Kept) (i t:Int):zeT k i t=zcI k i t:=by rw [zeT,zcI,zjs,zkE]
def zgH (k:Kept) (a m:Int):List Entry:=(k.entries.drop (a-1-k.snap.index).toNat).take m.toNat
def zc6 (k:Kept) (a:Int):Bool:=onC k&&(decide (k.snap.index<a)&&decide (a-1≤k.snap.index+k.entries.length))
def zaN (k:Kept) (a m:Int):List Entry×Int:=if onC k then (if zc6 k a then (zgH k a m,0) else ([],150)) else ([],1)
def cfgB (i:Int) (e:Entry):Bool:=decide (e.index≤i)&&e.kind==2
def cfgR (k:Kept) (i:Int):Config×Int:=match k.entries.reverse.find? (cfgB i) with
 | some e=>(e.config,e.index)
 | none=>(k.snap.config,k.snap.index)
def za9 (k:Kept) (i:Int):Config×Int×Int:=if (zaI k i).2=0 then ((cfgR k i).1,(cfgR k i).2,0) else (default,0,(zaI k i).2)
def zlb:Ent:=ent1 57 dKept fun k=>([],.int .i64 (err (onC k)),D2)
theorem zhv:zae Tryz.prog zlb:=zan (zfx default).1 fun k _=>by rw [← zjs];exact zfx k
def eOnC:Ent:=ent1 63 dKept fun k=>([],.bool (onC k),D2)
theorem zkW:zae Tryz.prog eOnC:=zan (zsJ default).1 fun k _=>by rw [← zjs];exact zsJ k
def zkg:Ent:=ent1 55 dKept fun k=>([],.tup [.int .i64 (zaq k).1,.int .i64 (zaq k).2],D2)
theorem zej:zae Tryz.prog zkg:=zan (zhW default).1 fun k _=>by rw [← zkE];exact zhW k
def zcF:Ent:=ent1 64 dKept fun k=>([],.tup [.int .i64 (zaq k).1,.int .i64 (zaq k).2],D2)
theorem zbc:zae Tryz.prog zcF:=zan (zfm default).1 fun k _=>by rw [← zkE];exact zfm k
def zjR:Ent:=ent2 98 dKept dInt fun k i=>([],.tup [.int .i64 (zaI k i).1,.int .i64 (zaI k i).2],D2)
theorem zeh:zae Tryz.prog zjR:=zar (zh6 default 0).1 fun k i _=>by rw [← zf5];exact zh6 k i
def zim:Ent:=ent2 101 dKept dInt fun k i=>([],.tup [.int .i64 (zaI k i).1,.int .i64 (zaI k i).2],D2)
theorem zeG:zae Tryz.prog zim:=zar (zfl default 0).1 fun k i _=>by rw [← zf5];exact zfl k i
theorem ziE {E:Env} {w:World} {s t u:SV} {vals:List Value} (h:DenL E w [s,t,u] vals):∃ v x y,vals=[v,x,y]∧DenV E w s v∧DenV E w t x∧DenV E w u y:=by
 match vals,h with
 | [v,x,y],h=>exact ⟨v,x,y,rfl,h.1,h.2.1,h.2.2.1⟩
theorem zmk (k:Kept) (i t:Int):FnC Tryz.prog 149 [dKept.can k,dInt.can i,dInt.can t] (.bool (zcI k i t)) D2:=FnC.of_bool (fnB Tryz.func149 (by decide) rfl) fun w E vals hd=>by
 obtain ⟨v,u,y,rfl,⟨xs,rfl,hl⟩,⟨rfl,_⟩,⟨rfl,_⟩⟩:=ziE hd
 rw [← zml];exact zps xs k i t w _ (Kept.svs_rd hl)
theorem zjd (k:Kept) (i t:Int):FnC Tryz.prog 197 [dKept.can k,dInt.can i,dInt.can t] (.bool (zcI k i t)) D2:=FnC.of_bool (fnB Tryz.func197 (by decide) rfl) fun w E vals hd=>by
 obtain ⟨v,u,y,rfl,⟨xs,rfl,hl⟩,⟨rfl,_⟩,⟨rfl,_⟩⟩:=ziE hd
 rw [← zml];exact znl xs k i t w _ (Kept.svs_rd hl)
def zxV:Ent:=ent3 149 dKept dInt dInt fun k i t=>([],.bool (zcI k i t),D2)
theorem zkf:zae Tryz.prog zxV:=zii (zmk default 0 0).1 fun k i t _=>zmk k i t
def zvW:Ent:=ent3 197 dKept dInt dInt fun k i t=>([],.bool (zcI k i t),D2)
theorem zhn:zae Tryz.prog zvW:=zii (zjd default 0 0).1 fun k i t _=>zjd k i t
def tabK:List Ent:=[zlb,eOnC,zkg,zcF,zjR,zim,zwc,zir,zgl]
theorem zey:∀ e∈tabK,zae Tryz.prog e:=zaa zhv (zaa zkW (zaa zej (zaa zbc (zaa zeh (zaa zeG (zaa zmC (zaa zeH (zaa zc3 zad))))))))
theorem zgG {k:Kept} {a:Int} (ho:onC k=true) (ha:I64 a):(decide (a≤k.snap.index)||decide (IntKind.i64.wrap (a-1)>(zaq k).1))=!zc6 k a:=by
 have hb:=zjr ho
 rw [zbe ho,zc6,ho]
 by_cases h:a≤k.snap.index
 ·simp [h,Int.not_lt.2 h]
 ·rw [zb3 ⟨by omega,by have:=ha.2;omega⟩]
  by_cases h2:a-1≤k.snap.index+k.entries.length
  ·have:¬ a-1>k.snap.index+k.entries.length:=by omega
   simp [h,h2,this];omega
  ·have:a-1>k.snap.index+k.entries.length:=by omega
   simp [h,h2,this]
theorem zlJ {k:Kept} {a:Int} (h:zc6 k a=true):k.snap.index<a∧a-1≤k.snap.index+k.entries.length:=by
 unfold zc6 at h
 simp only [Bool.and_eq_true,decide_eq_true_eq] at h
 exact h.2
theorem ztf {b:Bool}:(err b != (0:Int))=!b:=by cases b<;>rfl
theorem zlK (k:Kept) (a m:Int) (hs:zaC k) (hm0:0≤m):FnC Tryz.prog 188 [dKept.can k,dInt.can a,dInt.can m] (.tup [.sl [1] (.rEntry (zaN k a m).1),.int .i64 (zaN k a m).2]) D2:=by
 refine FnC.g3 dKept dInt dInt k a m (fnB Tryz.func188 (by decide) rfl) fun hk ha hm=>?_
 refine FnG.of_vc (zah zey fun _=>none) Tryz.func188 rfl (by decide) rfl 300 (p:=fun (V:List PE→Prop)=>let v0:=k.snap.index;let v2:=(↑(k.entries.length):Int);let v3:=Prod.snd (zaN k a m);let v4:=err (onC k) != 0;let v5:=decide (a≤v0);let v6:=IntKind.wrap IntKind.i64 (a-(1:Int));let v7:=IntKind.wrap IntKind.i64 (v6-v0);let v8:=zac v5 true (decide (v6>(Prod.fst (zaq k))));True∧True∧True∧True∧(v4=true→True∧Prod.fst (zaN k a m)=[]∧err (onC k)=v3∧True)∧(v4=false→True∧(((!v5)=true→(!v5)=true)∧((!v5)=true→(!v5)=true)∧((!v5)=true→(!v5)=true)∧(v5=false→(!v5)=true)∧True)∧True∧(v8=true→True∧Prod.fst (zaN k a m)=[]∧(150:Int)=v3∧True)∧(v8=false→True∧((0:Int)≤v7∧v7≤v2∧v2≤v2∧True)∧V [PE.b,PE.b]))) (by kernel_rfl) ?_
 simp only [imp_self,implies_true,true_and,and_true,zaf,zag,ztf,List.take_length]
 have hkl:=hk.entries.1
 refine ⟨fun h=>?_,fun h=>?_⟩
 ·have h:onC k=false:=by simpa using h
  simp [zaN,h,err]
 have h:onC k=true:=by simpa using h
 rw [zgG h ha]
 have hb:=zjr h
 refine ⟨fun h2=>by rw [h2];rfl,fun h2=>?_,fun h2=>?_⟩
 ·have h2:zc6 k a=false:=by simpa using h2
  simp [zaN,h,h2]
 have h2:zc6 k a=true:=by simpa using h2
 obtain ⟨h3,h4⟩:=zlJ h2
 have hw:IntKind.i64.wrap (IntKind.i64.wrap (a-1)-k.snap.index)=a-1-k.snap.index:=by
  have ha2:a≤9223372036854775807:=ha.2
  rw [zb3 (n:=a-1) ⟨by omega,by omega⟩,zb3 ⟨by omega,by omega⟩]
 refine ⟨by rw [hw];omega,?_⟩
 have he:zaN k a m=(zgH k a m,0):=by rw [zaN,if_pos h,if_pos h2]
 generalize hX:k.entries.drop (a-1-k.snap.index).toNat=X at *
 have hXl:X.length≤k.entries.length:=by rw [← hX,List.length_drop];omega
 have hXs:∀ j,j<X.length→zbA (X.getD j default):=fun j hj=>hs.1.2 _ (by rw [← hX] at hj ⊢;exact List.mem_of_mem_drop (za4 hj))
 refine LoopG.head (zah zey fun _=>none) 0 (A:=Nat) (fun j=>j≤X.length∧j≤m.toNat) (fun j=>[(45,.int .i64 j),(44,.int .i64 (X.length:Int)),(43,.sl [0] (.rEntry X)),(11,.own 11)]) (fun j=>[(11,.row 89 [12] (.rEntry (X.take j))),(12,.dead)]) (fun j=>X.length-j) 0 ⟨Nat.zero_le _,Nat.zero_le _⟩ (p0:=let v0:=List.drop (Int.toNat (IntKind.wrap IntKind.i64 (IntKind.wrap IntKind.i64 (a-(1:Int))-k.snap.index))) (List.take k.entries.length k.entries);(0:Int)=(↑(0:Nat):Int)∧(↑(v0.length):Int)=(↑(List.length X):Int)∧v0=X∧(0:Int)=0∧m=m∧List.take (0:Nat) X=[]∧True) (by kernel_rfl) ?_ 300 (p:=fun (x:Nat) (V:List PE→Prop)=>let v0:=(↑x:Int);let v1:=(↑(List.length X):Int);let v2:=List.length (List.take x X);let v3:=List.getD X x default;let v6:=decide (v0<v1);let v7:=decide ((↑v2:Int)≥m);True∧True∧(v6=true→((0:Int)≤v0∧v0<v1∧True)∧True∧True∧(v7=true→True∧List.take x X=Prod.fst (zaN k a m)∧v2≤17592186044416∧(0:Int)=Prod.snd (zaN k a m)∧True)∧(v7=false→(v3.config.voters.length≤1000000∧v3.config.learners.length≤1000000∧(v2+List.length [v3])*(1024:Nat)≤140737488355328∧True)∧True∧V [PE.a,PE.b]))∧(v6=false→True∧List.take x X=Prod.fst (zaN k a m)∧v2≤17592186044416∧(0:Int)=Prod.snd (zaN k a m)∧True)) (by intro x;kernel_rfl) ?_
 ·simp only [List.take_length];rw [hw,hX];simp
 ·rintro j ⟨hj,hjm⟩
  simp only [imp_self,implies_true,true_and,and_true,decide_eq_true_eq,decide_eq_false_iff_not,List.length_take,Nat.min_eq_left hj]
  refine ⟨fun h6=>⟨by omega,fun h7=>?_,fun h7=>⟨?_,?_⟩⟩,fun h6=>?_⟩
  ·have:j=m.toNat:=by omega
   subst this
   rw [he,zgH,hX];simp;omega
  ·have:=hXs j (by omega)
   exact ⟨this.1,this.2,by simp only [List.length_cons,List.length_nil];omega⟩
  ·refine Back.mk (j+1) ⟨by omega,by omega⟩ (by omega) (p0:=let v0:=(↑(List.length X):Int);IntKind.wrap IntKind.i64 ((↑j:Int)+(1:Int))=(↑(j+(1:Nat)):Int)∧v0=v0∧X=X∧(0:Int)=0∧m=m∧List.take j X++[List.getD X j default]=List.take (j+(1:Nat)) X∧True) (by kernel_rfl) ?_
   simp only [true_and,and_true,za8 (i:=j) (by omega)]
   exact ⟨by omega,by rw [zam (d:=default) (by omega)]⟩
  ·have:j=X.length:=by omega
   subst this
   rw [he,zgH,hX,List.take_of_length_le hjm];simp;omega
theorem zt8 {α:Type} {d:α} {l:List α} {j s M:Nat} (hj:j<l.length):((l.take (j+1)).drop s).take M=if s≤j∧j-s<M then ((l.take j).drop s).take M++[l.getD j d] else ((l.take j).drop s).take M:=by
 have e1:(l.take j).length=j:=by simp;omega
 rw [zam (d:=d) hj,List.drop_append,e1]
 by_cases h1:s≤j
 ·rw [show s-j=0 by omega,List.drop_zero,List.take_append,List.length_drop,e1]
  by_cases h2:j-s<M
  ·rw [if_pos ⟨h1,h2⟩,List.take_of_length_le (l:=[l.getD j d]) (by simp;omega)]
  ·rw [if_neg (fun h=>h2 h.2),show M-(j-s)=0 by omega];simp
 ·rw [if_neg (fun h=>h1 h.1),List.drop_of_length_le (l:=[l.getD j d]) (by simp;omega)];simp
theorem ziS (k:Kept) (a m:Int) (hs:zaC k) (hm0:0≤m):FnC Tryz.prog 207 [dKept.can k,dInt.can a,dInt.can m] (.tup [.sl [1] (.rEntry (zaN k a m).1),.int .i64 (zaN k a m).2]) D2:=by
 refine FnC.g3 dKept dInt dInt k a m (fnB Tryz.func207 (by decide) rfl) fun hk ha hm=>?_
 refine FnG.of_vc (zah zey fun _=>none) Tryz.func207 rfl (by decide) rfl 300 (p:=fun (V:List PE→Prop)=>let v2:=Prod.snd (zaN k a m);let v3:=decide (a≤k.snap.index);let v5:=zac v3 true (decide ((IntKind.wrap IntKind.i64 (a-(1:Int)))>(Prod.fst (zaq k))));True∧True∧True∧((!onC k)=true→True∧Prod.fst (zaN k a m)=[]∧(1:Int)=v2∧True)∧((!onC k)=false→True∧(((!v3)=true→(!v3)=true)∧((!v3)=true→(!v3)=true)∧((!v3)=true→(!v3)=true)∧(v3=false→(!v3)=true)∧True)∧True∧(v5=true→True∧Prod.fst (zaN k a m)=[]∧(150:Int)=v2∧True)∧(v5=false→True∧True∧V [PE.b,PE.b]))) (by kernel_rfl) ?_
 simp only [imp_self,implies_true,true_and,and_true,zaf,zag]
 have hkl:=hk.entries.1
 refine ⟨fun h=>?_,fun h=>?_⟩
 ·have h:onC k=false:=by simpa using h
  simp [zaN,h]
 have h:onC k=true:=by simpa using h
 rw [zgG h ha]
 have hb:=zjr h
 refine ⟨fun h2=>by rw [h2];rfl,fun h2=>?_,fun h2=>?_⟩
 ·have h2:zc6 k a=false:=by simpa using h2
  simp [zaN,h,h2]
 have h2:zc6 k a=true:=by simpa using h2
 obtain ⟨h3,h4⟩:=zlJ h2
 have he:zaN k a m=(zgH k a m,0):=by rw [zaN,if_pos h,if_pos h2]
 obtain ⟨s,hs0⟩:∃ s:Nat,(a-1-k.snap.index).toNat=s:=⟨_,rfl⟩
 refine LoopG.head (zah zey fun _=>none) 0 (A:=Nat) (fun j=>j≤k.entries.length) (fun j=>[(11,.int .i64 j),(10,.own 11)]) (fun j=>[(11,.row 89 [12] (.rEntry (((k.entries.take j).drop s).take m.toNat))),(12,.dead)]) (fun j=>k.entries.length-j) 0 (Nat.zero_le _) (p0:=let v0:=k.entries;let v1:=k.snap;let v3:=v1.config;(0:Int)=(↑(0:Nat):Int)∧(0:Int)=0∧a=a∧m=m∧List.take (Int.toNat m) (List.drop s (List.take (0:Nat) v0))=[]∧k.term=k.term∧k.vote=k.vote∧v1.index=v1.index∧v1.term=v1.term∧v3.voters=v3.voters∧v3.learners=v3.learners∧v1.data=v1.data∧v0=v0∧True) (by kernel_rfl) ?_ 300 (p:=fun (x:Nat) (V:List PE→Prop)=>let v0:=k.entries;let v1:=(↑x:Int);let v2:=(↑(v0.length):Int);let v3:=List.getD v0 x default;let v6:=List.take (Int.toNat m) (List.drop s (List.take x v0));let v7:=v6.length;let v9:=decide (v3.index≥a);let v10:=decide (v1<v2);let v11:=zac v9 (decide ((↑v7:Int)<m)) false;True∧True∧(v10=true→((0:Int)≤v1∧v1<v2∧(v9=true→v9=true)∧(v9=true→v9=true)∧(v9=true→v9=true)∧(v9=true→v9=true)∧True)∧True∧(v11=true→((0:Int)≤v1∧v1<v2∧v3.config.voters.length≤1000000∧v3.config.learners.length≤1000000∧(v7+List.length [v3])*(1024:Nat)≤140737488355328∧True)∧True∧V [PE.a,PE.a])∧(v11=false→True∧V [PE.a,PE.b]))∧(v10=false→True∧v6=Prod.fst (zaN k a m)∧v7≤17592186044416∧(0:Int)=Prod.snd (zaN k a m)∧True)) (by intro x;kernel_rfl) ?_
 ·simp
 ·rintro j hj
  simp only [imp_self,implies_true,true_and,and_true,decide_eq_true_eq,decide_eq_false_iff_not]
  have hse:=hs.1.2
  have hix:j<k.entries.length→(k.entries.getD j default).index=k.snap.index+1+j:=fun hj=>zsK h hj
  have hlen:(((k.entries.take j).drop s).take m.toNat).length=min m.toNat (j-s):=by simp;omega
  have hm2:m≤9223372036854775807:=hm.2
  refine ⟨fun h6=>?_,fun h6=>?_⟩
  ·have h7:=hix (by omega)
   have hsn:=zt8 (d:=(default:Entry)) (s:=s) (M:=m.toNat) (show j<k.entries.length by omega)
   rw [h7,hlen]
   have hc:zac (decide (k.snap.index+1+(j:Int)≥a)) (decide (((min m.toNat (j-s):Nat):Int)<m)) false=decide (s≤j∧j-s<m.toNat):=by
    by_cases g:k.snap.index+1+(j:Int)≥a
    ·have g2:s≤j:=by omega
     simp only [g,zac,decide_true,if_true,g2,true_and]
     rw [Bool.eq_iff_iff,decide_eq_true_eq,decide_eq_true_eq];omega
    ·have g2:¬ s≤j:=by omega
     simp [g,zac,g2]
   rw [hc]
   refine ⟨by omega,fun h8=>⟨⟨by omega,h6,(hse _ (za4 (by omega))).1,(hse _ (za4 (by omega))).2,by simp only [List.length_cons,List.length_nil];omega⟩,?_⟩,fun h8=>?_⟩
   ·refine Back.mk (j+1) (by omega) (by omega) (p0:=let v0:=k.entries;let v1:=k.snap;let v5:=v1.config;IntKind.wrap IntKind.i64 ((↑j:Int)+(1:Int))=(↑(j+(1:Nat)):Int)∧(0:Int)=0∧a=a∧m=m∧List.take (Int.toNat m) (List.drop s (List.take j v0))++[List.getD v0 j default]=List.take (Int.toNat m) (List.drop s (List.take (j+(1:Nat)) v0))∧k.term=k.term∧k.vote=k.vote∧v1.index=v1.index∧v1.term=v1.term∧v5.voters=v5.voters∧v5.learners=v5.learners∧v1.data=v1.data∧v0=v0∧True) (by kernel_rfl) ?_
    simp only [true_and,and_true,za8 (i:=j) (by omega)]
    exact ⟨by omega,by rw [hsn,if_pos (by simpa using h8)]⟩
   ·refine Back.mk (j+1) (by omega) (by omega) (p0:=let v0:=k.entries;let v1:=k.snap;let v3:=v1.config;IntKind.wrap IntKind.i64 ((↑j:Int)+(1:Int))=(↑(j+(1:Nat)):Int)∧(0:Int)=0∧a=a∧m=m∧List.take (Int.toNat m) (List.drop s (List.take j v0))=List.take (Int.toNat m) (List.drop s (List.take (j+(1:Nat)) v0))∧k.term=k.term∧k.vote=k.vote∧v1.index=v1.index∧v1.term=v1.term∧v3.voters=v3.voters∧v3.learners=v3.learners∧v1.data=v1.data∧v0=v0∧True) (by kernel_rfl) ?_
    simp only [true_and,and_true,za8 (i:=j) (by omega)]
    exact ⟨by omega,by rw [hsn,if_neg (by simpa using h8)]⟩
  ·have:j=k.entries.length:=by omega
   subst this
   rw [he,List.take_length,zgH,hs0]
   exact ⟨rfl,by simp;omega,rfl⟩
theorem zeP (k:Kept) (i:Int) (hs:zaC k):FnC Tryz.prog 102 [dKept.can k,dInt.can i] (.tup [.agg ((za9 k i).1.svs [1]),.int .i64 (za9 k i).2.1,.int .i64 (za9 k i).2.2]) D2:=by
 refine FnC.g2 dKept dInt k i (fnB Tryz.func102 (by decide) rfl) fun hk ha=>?_
 refine FnG.of_vc (zah zey fun _=>none) Tryz.func102 rfl (by decide) rfl 300 (p:=fun (V:List PE→Prop)=>let v0:=k.snap.config;let v3:=Prod.snd (za9 k i);let v4:=Prod.fst (za9 k i);let v6:=decide (i<k.snap.index);let v7:=zac v6 true (decide (i>(Prod.fst (zaq k))));True∧True∧True∧((!onC k)=true→True∧v4.voters=[]∧v4.learners=[]∧(0:Int)=Prod.fst v3∧(1:Int)=(Prod.snd v3)∧True)∧((!onC k)=false→True∧(((!v6)=true→(!v6)=true)∧((!v6)=true→(!v6)=true)∧(v6=false→(!v6)=true)∧True)∧True∧(v7=true→True∧v4.voters=[]∧v4.learners=[]∧(0:Int)=Prod.fst v3∧(150:Int)=(Prod.snd v3)∧True)∧(v7=false→(v0.voters.length≤1000000∧v0.learners.length≤1000000∧True)∧True∧True∧V [PE.b,PE.b]))) (by kernel_rfl) ?_
 simp only [imp_self,implies_true,true_and,and_true,zaf,zag]
 have hkl:=hk.entries.1
 refine ⟨fun h=>?_,fun h=>?_⟩
 ·have h:onC k=false:=by simpa using h
  simp [za9,zaI,h];decide
 have h:onC k=true:=by simpa using h
 have hb:=zjr h
 rw [zbe h]
 have hcond:(decide (i<k.snap.index)||decide (i>k.snap.index+k.entries.length))=!((zaI k i).2==0):=by
  unfold zaI
  rw [if_pos h]
  by_cases h1:i=k.snap.index
  ·subst h1;simp;omega
  ·rw [if_neg h1]
   by_cases h2:k.snap.index<i∧i≤k.snap.index+k.entries.length
   ·rw [if_pos h2];simp;omega
   ·rw [if_neg h2];simp;omega
 rw [hcond]
 refine ⟨fun h2=>by rw [h2];rfl,fun h2=>?_,fun h2=>⟨hs.2,?_⟩⟩
 ·have h2:¬ (zaI k i).2=0:=by simpa using h2
  have h3:(zaI k i).2=150:=by
   revert h2;unfold zaI;rw [if_pos h]
   split
   ·simp
   ·split<;>simp
  rw [za9,if_neg h2,h3];exact ⟨rfl,rfl,rfl,rfl⟩
 have h2:(zaI k i).2=0:=by simpa using h2
 have he:za9 k i=((cfgR k i).1,(cfgR k i).2,0):=by rw [za9,if_pos h2]
 rw [he]
 refine LoopG.head (zah zey fun _=>none) 0 (A:=Nat) (fun j=>j≤k.entries.length) (fun j=>[(11,.int .i64 j),(10,.int .i64 (cfgR ⟨k.term,k.vote,k.snap,k.entries.take j⟩ i).2)]) (fun j=>[(99,.cells 25 ((cfgR ⟨k.term,k.vote,k.snap,k.entries.take j⟩ i).1.svs [82]))]) (fun j=>k.entries.length-j) 0 (Nat.zero_le _) (p0:=let v1:=k.entries;let v2:=k.snap;let v7:=v2.index;let v8:=v2.config.voters;let v9:=v2.config.learners;let v10:=cfgR (Kept.mk k.term k.vote v2 (List.take (0:Nat) v1)) i;(0:Int)=(↑(0:Nat):Int)∧v7=Prod.snd v10∧(0:Int)=0∧(0:Int)=0∧i=i∧v8=Config.voters (Prod.fst v10)∧v9=Config.learners (Prod.fst v10)∧k.term=k.term∧k.vote=k.vote∧v7=v7∧v2.term=v2.term∧v8=v8∧v9=v9∧v2.data=v2.data∧v1=v1∧True) (by kernel_rfl) ?_ 300 (p:=fun (x:Nat) (V:List PE→Prop)=>let v0:=k.entries;let v1:=(↑x:Int);let v2:=Prod.fst (cfgR k i);let v3:=(↑(v0.length):Int);let v4:=List.getD v0 x default;let v7:=cfgR (Kept.mk k.term k.vote k.snap (List.take x v0)) i;let v9:=v4.kind==2;let v10:=decide (v1<v3);True∧True∧(v10=true→((0:Int)≤v1∧v1<v3∧True)∧((v9=true→v9=true)∧(v9=true→v9=true)∧(v9=true→v9=true)∧(v9=true→v9=true)∧True)∧((zac v9 (decide (v4.index≤i)) false=true→v4.config.voters.length≤1000000)∧(zac v9 (decide (v4.index≤i)) false=true→v4.config.learners.length≤1000000)∧True)∧True∧V [PE.a])∧(v10=false→True∧Config.voters (Prod.fst v7)=v2.voters∧Config.learners (Prod.fst v7)=v2.learners∧Prod.snd v7=Prod.snd (cfgR k i)∧(0:Int)=0∧True)) (by intro x;kernel_rfl) ?_
 ·simp [cfgR]
 ·rintro j hj
  simp only [imp_self,implies_true,true_and,and_true,decide_eq_true_eq,decide_eq_false_iff_not]
  have hsn:j<k.entries.length→cfgR ⟨k.term,k.vote,k.snap,k.entries.take (j+1)⟩ i=if cfgB i (k.entries.getD j default) then ((k.entries.getD j default).config,(k.entries.getD j default).index) else cfgR ⟨k.term,k.vote,k.snap,k.entries.take j⟩ i:=by
   intro hj
   unfold cfgR
   simp only
   rw [zam (d:=default) hj,List.reverse_append]
   simp only [List.reverse_cons,List.reverse_nil,List.nil_append,List.singleton_append,List.find?_cons]
   cases cfgB i (k.entries.getD j default)<;>rfl
  have hkb:zac ((k.entries.getD j default).kind==2) (decide ((k.entries.getD j default).index≤i)) false=cfgB i (k.entries.getD j default):=by
   unfold cfgB zac;cases ((k.entries.getD j default).kind==2)<;>simp
  rw [hkb]
  refine ⟨fun h6=>?_,fun h6=>?_⟩
  ·have hse:=hs.1.2 _ (za4 (d:=(default:Entry)) (show j<k.entries.length by omega))
   refine ⟨by omega,⟨fun _=>hse.1,fun _=>hse.2⟩,?_⟩
   refine Back.mk (j+1) (by omega) (by omega) (p0:=let v0:=k.vote;let v1:=k.snap;let v2:=k.entries;let v3:=k.term;let v5:=v1.config;let v10:=List.getD v2 j default;let v13:=cfgR (Kept.mk v3 v0 v1 (List.take j v2)) i;let v15:=cfgR (Kept.mk v3 v0 v1 (List.take (j+(1:Nat)) v2)) i;let v17:=zac (v10.kind==2) (decide (v10.index≤i)) false;IntKind.wrap IntKind.i64 ((↑j:Int)+(1:Int))=(↑(j+(1:Nat)):Int)∧zai v17 v10.index (Prod.snd v13)=Prod.snd v15∧(0:Int)=0∧(0:Int)=0∧i=i∧(if v17=true then v10.config.voters else Config.voters (Prod.fst v13))=Config.voters (Prod.fst v15)∧(if v17=true then v10.config.learners else Config.learners (Prod.fst v13))=Config.learners (Prod.fst v15)∧v3=v3∧v0=v0∧v1.index=v1.index∧v1.term=v1.term∧v5.voters=v5.voters∧v5.learners=v5.learners∧v1.data=v1.data∧v2=v2∧True) (by kernel_rfl) ?_
   simp only [true_and,and_true,za8 (i:=j) (by omega),hkb]
   rw [hsn (by omega)]
   cases cfgB i (k.entries.getD j default)
   ·exact ⟨by omega,rfl,rfl,rfl⟩
   ·exact ⟨by omega,rfl,rfl,rfl⟩
  ·have:j=k.entries.length:=by omega
   subst this
   rw [List.take_length];exact ⟨rfl,rfl,rfl⟩
def zu0:Ent:=ent3 188 dKept dInt dInt fun k a m=>([zaC k,0≤m],.tup [.sl [1] (.rEntry (zaN k a m).1),.int .i64 (zaN k a m).2],D2)
theorem zdA:zaC default:=⟨⟨by decide,fun x h=>by cases h⟩,by unfold zaw;decide⟩
theorem zqs:zae Tryz.prog zu0:=zii (zlK default 0 0 zdA (by decide)).1 fun k a m h=>zlK k a m (h _ (by simp)) (h _ (by simp))
def zq1:Ent:=ent3 207 dKept dInt dInt fun k a m=>([zaC k,0≤m],.tup [.sl [1] (.rEntry (zaN k a m).1),.int .i64 (zaN k a m).2],D2)
theorem zn9:zae Tryz.prog zq1:=zii (ziS default 0 0 zdA (by decide)).1 fun k a m h=>ziS k a m (h _ (by simp)) (h _ (by simp))
def zuB:Ent:=ent2 102 dKept dInt fun k i=>([zaC k],.tup [.agg ((za9 k i).1.svs [1]),.int .i64 (za9 k i).2.1,.int .i64 (za9 k i).2.2],D2)
theorem zqK:zae Tryz.prog zuB:=zar (zeP default 0 zdA).1 fun k i h=>zeP k i (h _ (by simp))
end Go.Proofs.YteabcgkjbnecaaaGreat
namespace Go.Proofs.YteabcgkjbnecaaaGreat
open Go.RowKit Go.ChangeShapes Go.WideShapes Go.Deep
def E0 (S:Nat→Prop):Env:=⟨fun _=>none,fun i b=>i=0∧S b⟩
theorem mem0 {w:World} {S:Nat→Prop} (hS:∀ b,S b→b<w.heap.size):MemOk w.heap.size (cxIn (E0 S) D2 1) w (E0 S) (mOf D2) w:=by
 have hl:∀ t,(mOf D2 t).live=false:=by intro t;rw [mD2];split<;>rfl
 refine ⟨fun t ht=>⟨rfl,fun b hb=>?_⟩,fun t T vs ht=>?_,fun t T ls r ht=>?_,fun i b hb=>⟨hS b hb.2,fun h=>?_⟩,fun i j b hi hj=>hi.1.trans hj.1.symm,fun i hi he=>?_,fun t b hh=>absurd hh zet,fun i b _ hb=>hb,fun t u b h1=>absurd h1 zet,fun t v h=>?_,BelowX.refl _ _ _,Nat.le_refl _⟩
 ·have:=hb.1;subst this;rw [mD2] at ht;simp at ht
 ·have:=hl t;rw [ht] at this;cases this
 ·have:=hl t;rw [ht] at this;cases this
 ·have:=hb.1;simp [cxIn] at h;omega
 ·rw [mD2] at he
  simp [cxIn] at hi;subst hi;simp at he
 ·simp only [cxIn] at h
  split at h
  ·exact h
  ·cases h
theorem zpA {f:FuncId} {ins:List SV} (h:FnC Tryz.prog f ins (.bool true) D2) (w:World) (S:Nat→Prop) (hS:∀ b,S b→b<w.heap.size) (vals:List Value) (hd:DenL (E0 S) w ins vals):Calls Tryz.prog f vals.toArray w fun e w'=>e = .returned (.bool true)∧Below w.heap.size w w' :=
 (h.2 w (E0 S) vals (mem0 hS) hd).mono (by
  rintro e w' ⟨v,E',rfl,hv,hm⟩
  refine ⟨by rw [show v = .bool true from hv],hm.below.os,hm.below.tape,hm.below.output,hm.below.size,fun b hb=>hm.below.block b hb (fun ⟨t,ht⟩=>zet ht)⟩)
theorem zku {S:Nat→Prop} {b:Nat} (h:S b):(E0 S).set [0] b:=⟨0,by simp,rfl,h⟩
theorem zuS {w w':World} {S:Nat→Prop} {E':Env} (hm:MemOk w.heap.size (cxIn (E0 S) D2 1) w E' (mOf D2) w') {i b:Nat} (hi:1≤i) (h:E'.σ i b):w.heap.size≤b:=
 ((hm.lab i b h).2 hi).resolve_right (fun ⟨t,ht⟩=>zet ht)
theorem znb {w w':World} {S:Nat→Prop} {E':Env} (hm:MemOk w.heap.size (cxIn (E0 S) D2 1) w E' (mOf D2) w'):Below w.heap.size w w' :=
 ⟨hm.below.os,hm.below.tape,hm.below.output,hm.below.size,fun b hb=>hm.below.block b hb (fun ⟨t,ht⟩=>zet ht)⟩
end Go.Proofs.YteabcgkjbnecaaaGreat
namespace Go.Proofs.YteabcgkjbnecaaaGreat
open Go.RowKit Go.Shelf
attribute [local go_sem] Oper.semAt_some
def zys (w:World) (c:Config) (at_ er:Int) (e:Ending) (w':World):Prop:=∃ vs:List Value,e = .returned (.tuple #[.agg vs.toArray,.int .i64 at_,.int .i64 er])∧RdL w' (fun b=>w.heap.size≤b) Config.ty vs c.enc∧Below w.heap.size w w'
theorem zme (vs:List Value) (c:Config) (w:World) (S:Nat→Prop) (h:RdL w S Config.ty vs c.enc) (hc:c.voters.length≤1000000∧c.learners.length≤1000000) :
  Calls Tryz.prog 163 #[.agg vs.toArray] w (fun e w'=>∃ us:List Value,e = .returned (.agg us.toArray)∧RdL w' (fun b=>w.heap.size≤b) Config.ty us c.enc∧Below w.heap.size w w'):=
 ((zcV c hc).2 w (E0 fun b=>b<w.heap.size) [.agg vs.toArray] (mem0 fun _ hb=>hb) ⟨⟨vs,rfl,Config.svs_of (h.mono fun b hb _=>zku hb)⟩,trivial⟩).mono (by
  rintro e w' ⟨v,E',rfl,⟨us,rfl,hl⟩,hm⟩
  exact ⟨us,rfl,RdL.mono (fun b _ ⟨i,hi,hs⟩=>zuS hm (by simp at hi;omega) hs) (Config.svs_rd hl),znb hm⟩)
theorem Rd.ints_own {w w':World} {S:Nat→Prop} {v:Value} {d:D} (h:Rd w S (.sl [.int .i64]) v d) (hz:w.heap.size≤w'.heap.size)
  (hs:∀ b o,S b→w.heap[b]? = some o→o.isCells=true→w'.heap[b]? = w.heap[b]?):Rd w' S (.sl [.int .i64]) v d:=by
 cases h with
 | emp h h'=>exact .emp h h'
 | @row _ b off n c rows vals h1 h2 h3 h4 h5 h6 h7 h8 h9 h10 h11=>
  have hb:w'.heap[b]? = w.heap[b]? := by
   have h0:=h8 0 0 h1 (by decide)
   cases ho:w.heap[b]? with
   | none=>rw [Array.getElem?_eq_none_iff] at ho;omega
   | some o=>
    rw [← ho]
    refine hs b o h6 ho ?_
    unfold World.cell? at h0
    cases o<;>simp_all [Obj.isCells]
  have hS:Same (fun x=>x=b) w w':=⟨hz,fun x hx _=>by rw [hx];exact hb⟩
  refine .row vals h1 h2 h3 h4 h5 h6 (by omega) (fun i j hi hj=>by rw [hS.cell rfl h7];exact h8 i j hi hj) h9 (fun i j hi hj=>?_) (fun i j hi hj=>by rw [hS.frozen rfl h7];exact h11 i j hi hj)
  have:=h10 i j hi hj
  have e:([Ty.int .i64]:List Ty).getD j default = .int .i64:=by
   have:j=0:=by simp at hj;omega
   subst this;rfl
  rw [e] at this ⊢
  generalize vals i j=u at this
  generalize (rows.getD i []).getD j default=dd at this
  cases this with
  | int h=>exact .int h
theorem zdC {β:Type} {B n:Nat} {vs:List Value} {c:Config}:OwnFrom B (fun (_:β) W=>RdL W (fun b=>n≤b) Config.ty vs c.enc):=fun s A C row hs hg hr=>by
 match vs,hs with
 | [v0,v1],hs=>
  have hb:∀ b o,n≤b→A.heap[b]? = some o→o.isCells=true→C.heap[b]? = A.heap[b]? := fun b o _ ho hc=>by
   refine hg.block b (Array.getElem?_eq_some_iff.1 ho).1 fun e=>?_
   obtain ⟨_,o',ho',hc'⟩:=hr b e.symm
   rw [ho] at ho';cases ho';rw [hc] at hc';cases hc'
  exact ⟨hs.1.ints_own hg.size hb,hs.2.1.ints_own hg.size hb,trivial⟩
def cfB (i:Int) (e:Entry):Bool:=decide (e.index≤i)&&e.kind==2
def cfF (k:Kept) (i:Int):Config×Int:=match k.entries.reverse.find? (cfB i) with
 | some e=>(e.config,e.index)
 | none=>(k.snap.config,k.snap.index)
theorem zp4 (k:Kept):∀ n,n≤k.entries.length→(dn k.entries.length n).map k.en=k.entries.reverse.take n
 | 0,_=>by simp [dn]
 | n+1,h=>by
  rw [zlc,List.map_append,zp4 k n (by omega),List.take_add_one]
  congr 1
  rw [List.getElem?_reverse (by omega)]
  simp [Kept.en,List.getD,show k.entries.length-1-n<k.entries.length by omega]
theorem zww {k:Kept} {i:Int} {ini:List Nat} {x n:Nat} (hn:n≤k.entries.length) (h:ini++[x]=dn k.entries.length n) (h0:∀ y∈ini,cfB i (k.en y)=false) (h1:cfB i (k.en x)=true):cfF k i=((k.en x).config,(k.en x).index):=by
 have e:k.entries.reverse=(ini++[x]).map k.en++k.entries.reverse.drop n:=by rw [h,zp4 k n hn,List.take_append_drop]
 have:k.entries.reverse.find? (cfB i)=some (k.en x):=by
  rw [e,List.map_append,List.append_assoc,List.find?_append]
  have:(ini.map k.en).find? (cfB i)=none:=by
   rw [List.find?_eq_none];intro p hp
   obtain ⟨y,hy,rfl⟩:=List.mem_map.1 hp
   simp [h0 y hy]
  simp [this,h1]
 rw [cfF,this]
theorem ztB {k:Kept} {i:Int} (h0:∀ y∈dn k.entries.length k.entries.length,cfB i (k.en y)=false):cfF k i=(k.snap.config,k.snap.index):=by
 have:k.entries.reverse.find? (cfB i)=none:=by
  rw [← List.take_of_length_le (l:=k.entries.reverse) (i:=k.entries.length) (by simp),← zp4 k _ (Nat.le_refl _),List.find?_eq_none]
  intro p hp
  obtain ⟨y,hy,rfl⟩:=List.mem_map.1 hp
  simp [h0 y hy]
 rw [cfF,this]
def zev:Nat→Value
 | 0=> .int .i64 0
 | 1=> .int .i64 0
 | 2=> .int .i64 0
 | 3=> .slice none 0 0
 | 4=> .slice none 0 0
 | _=> .string (default:Entry).data
theorem zqi {k:Kept} {x:Nat} (h:¬ x<k.entries.length):k.en x=default:=by
 unfold Kept.en;rw [List.getD_eq_getElem?_getD,List.getElem?_eq_none (by omega)];rfl
theorem zqf {w:World} {S:Nat→Prop} {a:Option Addr} {c:Nat} {k:Kept} (h:Sl w S Entry.ty a k.entries.length c (k.entries.map Entry.enc)) :
  ∃ ev:Nat→Nat→Value,(∀ x,EvOk (k.en x) (ev x))∧(∀ x,RdL w S Config.ty [ev x 3,ev x 4] (k.en x).config.enc) ∧
   (0<k.entries.length→∃ b off,a=some ⟨b,off,none⟩∧b<w.heap.size∧∀ i j,i<k.entries.length→j<6→w.cell? ⟨b,off+i*6+j,none⟩=some (ev i j)):=by
 have z1:∀ x,¬ x<k.entries.length→EvOk (k.en x) zev:=fun x hx=>by rw [zqi hx];exact ⟨none,0,none,0,rfl,rfl,rfl,rfl,rfl,rfl⟩
 have z2:∀ x,¬ x<k.entries.length→RdL w S Config.ty [zev 3,zev 4] (k.en x).config.enc:=fun x hx=>by
  rw [zqi hx];exact ⟨.emp (fun _=>rfl) (Nat.zero_le _),.emp (fun _=>rfl) (Nat.zero_le _),trivial⟩
 by_cases hp:0<k.entries.length
 ·obtain ⟨b,off,e,_,hb,vals,hc,hr⟩:=h.rowAt hp
  refine ⟨fun i=>if i<k.entries.length then vals i else zev,fun x=>?_,fun x=>?_,fun _=>⟨b,off,e,hb,fun i j hi hj=>?_⟩⟩
  ·by_cases hx:x<k.entries.length
   ·obtain ⟨h1,h2⟩:=hr x hx
    have he:(k.entries.map Entry.enc).getD x []=(k.en x).enc:=by simp [Kept.en,List.getD,hx]
    rw [he] at h2
    simp only [if_pos hx]
    obtain ⟨a3,c3,q3,_⟩:=Rd.sl' (h2 3 (by decide))
    obtain ⟨a4,c4,q4,_⟩:=Rd.sl' (h2 4 (by decide))
    rw [zau] at q3 q4
    exact ⟨a3,c3,a4,c4,(Rd.i64 (h2 0 (by decide))).1,(Rd.i64 (h2 1 (by decide))).1,(Rd.i64 (h2 2 (by decide))).1,q3,q4,(Rd.str' (h2 5 (by decide))).1⟩
   ·simp only [if_neg hx]
    exact z1 x hx
  ·by_cases hx:x<k.entries.length
   ·obtain ⟨h1,h2⟩:=hr x hx
    have he:(k.entries.map Entry.enc).getD x []=(k.en x).enc:=by simp [Kept.en,List.getD,hx]
    rw [he] at h2
    simp only [if_pos hx]
    exact ⟨h2 3 (by decide),h2 4 (by decide),trivial⟩
   ·simp only [if_neg hx]
    exact z2 x hx
  ·show _=some ((if i<k.entries.length then vals i else _) j)
   rw [if_pos hi]
   exact hc i j hi hj
 ·exact ⟨fun _=>zev,fun x=>z1 x (by omega),fun x=>z2 x (by omega),fun h=>absurd h hp⟩
theorem zrx {w Wi W':World} {c:Config} {N g2 g3 g4:Nat} {t2 t3 t4:TypeId} {p0 p1:Option Addr} {n0 d0 n1 d1:Nat} {idx:Int} (hR:RdL W' (fun b=>Wi.heap.size≤b) Config.ty [.slice p0 n0 d0,.slice p1 n1 d1] c.enc) (hB:Below w.heap.size w Wi) (hBW:Below Wi.heap.size Wi.drew W')
  (k2:Blk Wi g2 t2 #[.slice none 0 0,.slice none 0 0]) (k3:Blk Wi g3 t3 #[.int .i64 0]) (k4:Blk Wi g4 t4 #[.int .i64 0]) (h2:w.heap.size≤g2) (h23:g2<g3) (h34:g3<g4) (hN:g4<N) :
  ∀ W'',W''=(((W'.setCell ⟨g2,0,none⟩ (.slice p0 n0 d0)).setCell ⟨g2,1,none⟩ (.slice p1 n1 d1)).setCell ⟨g3,0,none⟩ (.int .i64 idx)).setCell ⟨g4,0,none⟩ (.int .i64 0) →
   KeepsFrom N Wi W''∧RdL W'' (fun b=>w.heap.size≤b) Config.ty [.slice p0 n0 d0,.slice p1 n1 d1] c.enc∧Blk W'' g2 t2 #[.slice p0 n0 d0,.slice p1 n1 d1]∧Blk W'' g3 t3 #[.int .i64 idx]∧Blk W'' g4 t4 #[.int .i64 0]∧Below w.heap.size w W'':=by
 rintro W'' rfl
 have l2:=k2.lt
 have l3:=k3.lt
 have l4:=k4.lt
 have m2:=k2.drew.below hBW l2
 have m3:=k3.drew.below hBW l3
 have m4:=k4.drew.below hBW l4
 have hBx:Below w.heap.size w W':=Below.trans (b:=Wi.drew) ⟨hB.os,hB.tape,hB.output,hB.size,hB.block⟩ (hBW.mono hB.size)
 have sm:∀ M,g4<M→Same (fun b=>M≤b) W' ((((W'.setCell ⟨g2,0,none⟩ (.slice p0 n0 d0)).setCell ⟨g2,1,none⟩ (.slice p1 n1 d1)).setCell ⟨g3,0,none⟩ (.int .i64 idx)).setCell ⟨g4,0,none⟩ (.int .i64 0)):=fun M hM=>
  (((Same.setCell (by show ¬ M≤g2;omega) _).trans (Same.setCell (by show ¬ M≤g2;omega) _)).trans (Same.setCell (by show ¬ M≤g3;omega) _)).trans (Same.setCell (by show ¬ M≤g4;omega) _)
 have s0:Same (fun b=>N≤b) Wi W':=⟨hBW.size,fun b _ hl=>hBW.block b hl⟩
 refine ⟨(s0.trans (sm N hN)).keeps,RdL.mono (fun b _ hb=>Nat.le_trans hB.size hb) (RdL.same (sm Wi.heap.size l4) hR),?_,?_,?_,?_⟩
 ·exact (((m2.set 0 _).set 1 _).far (by show g2≠g3;omega) _).far (by show g2≠g4;omega) _
 ·exact (((m3.far (by show g3≠g2;omega) _).far (by show g3≠g2;omega) _).set 0 _).far (by show g3≠g4;omega) _
 ·exact (((m4.far (by show g4≠g2;omega) _).far (by show g4≠g2;omega) _).far (by show g4≠g3;omega) _).set 0 _
 ·exact (((hBx.setCell h2 _).setCell h2 _).setCell (by show w.heap.size≤g3;omega) _).setCell (by show w.heap.size≤g4;omega) _
def zo0 (Q:Exit→Act→World→Prop):Exit→Act→World→Prop
 | .normal,a,w=>Q .normal a w
 | _,_,_=>False
theorem zkv {F:Fence} {n:Nat} {P:Program} {c:Code} {Q:Exit→Act→World→Prop} {a:Act} {w:World} (h:c.wpIn F n P (zo0 Q) a w):c.wpIn F n P Q a w:=
 Code.wpIn_mono (fun e a w h=>by cases e<;>first | exact h | exact h.elim) h
theorem zoz {Q:Exit→Act→World→Prop} {a:Act} {w:World} (h:Q .normal a w):zo0 Q .normal a w:=h
set_option maxRecDepth 100000 in
set_option maxHeartbeats 4000000 in
theorem znV (vs:List Value) (k:Kept) (index:Int) (w:World) (S:Nat→Prop) (h:RdL w S Kept.ty vs k.enc)
  (hk:(k.snap.config.voters.length≤1000000∧k.snap.config.learners.length≤1000000)∧∀ x,(k.en x).config.voters.length≤1000000∧(k.en x).config.learners.length≤1000000) (ht:(zaA k index).2=0) :
  Calls Tryz.prog 99 #[.agg vs.toArray,.int .i64 index] w (zys w (cfF k index).1 (cfF k index).2 0):=by
 have hcall:=fun w' (hb:Below w.heap.size w w')=>zh7 vs k index w' S (RdL.same (Same.below hb) h)
 obtain ⟨a4,c4,a5,c5,a7,c7,rfl,b0,b1,b2,b3,s4,s5,b6,s7⟩:=Kept.opens h
 have HC:=Lib.hid hcall
 have H7:=Lib.hid s7
 have H4:=Lib.hid s4
 have H5:=Lib.hid s5
 have HT:=Lib.hid ht
 have HK:=Lib.hid hk
 clear h s4 s5 s7 hcall ht hk
 refine callsIn_wide.1 (callsIn_of_wp_marks (n:=20) Tryz.func99 rfl trivial ?_ rfl)
 simp only [Tryz.ntmps99,List.size_toArray,List.length_cons,List.length_nil,Nat.reduceAdd,Nat.reduceSub,Array.replicate_succ,Array.replicate_zero,List.push_toArray,List.append_toArray,List.nil_append,List.cons_append]
 gi_wp2_with fail
 refine ⟨trivial,?_⟩
 refine (callsIn_wide.2 (HC.out _ ((((((Below.refl _ _).alloc (Nat.le_refl _) _).alloc (by simp) _).alloc (by simp<;>omega) _).alloc (by simp<;>omega) _).alloc (by simp<;>omega) _))).mono ?_
 obtain ⟨W0,hW0⟩:∃ W0,((((w.alloc (.cells #[.int .i64 k.term,.int .i64 k.vote,.int .i64 k.snap.index,.int .i64 k.snap.term,.slice a4 (k.snap.config.voters).length c4,.slice a5 (k.snap.config.learners).length c5,.string k.snap.data,.slice a7 (k.entries).length c7] 30)).alloc (.cells #[.int .i64 index] 3)).alloc (.cells #[.slice none 0 0,.slice none 0 0] 25)).alloc (.cells #[.int .i64 0] 3)).alloc (.cells #[.int .i64 0] 41)=W0:=⟨_,rfl⟩
 rintro e w1 ⟨rfl,B1⟩
 have hz0:W0.heap.size=w.heap.size+5:=by rw [← hW0];simp
 have hB0:Below w.heap.size w W0:=by rw [← hW0];exact ((((((Below.refl _ _).alloc (Nat.le_refl _) _).alloc (by simp) _).alloc (by simp<;>omega) _).alloc (by simp<;>omega) _).alloc (by simp<;>omega) _)
 rw [HT.out]
 rw [hW0] at B1
 have kb:=(show Blk W0 w.heap.size 30 #[.int .i64 k.term,.int .i64 k.vote,.int .i64 k.snap.index,.int .i64 k.snap.term,.slice a4 (k.snap.config.voters).length c4,.slice a5 (k.snap.config.learners).length c5,.string k.snap.data,.slice a7 (k.entries).length c7] by rw [← hW0];exact ((((Blk.newAt w w.heap.size 30 #[.int .i64 k.term,.int .i64 k.vote,.int .i64 k.snap.index,.int .i64 k.snap.term,.slice a4 (k.snap.config.voters).length c4,.slice a5 (k.snap.config.learners).length c5,.string k.snap.data,.slice a7 (k.entries).length c7] rfl).alloc _).alloc _).alloc _).alloc _).below B1 (by omega)
 have k1:=(show Blk W0 (w.heap.size+1) 3 #[.int .i64 index] by rw [← hW0];exact (((Blk.newAt _ (w.heap.size+1) 3 #[.int .i64 index] (by simp)).alloc _).alloc _).alloc _).below B1 (by omega)
 have k2:=(show Blk W0 (w.heap.size+1+1) 25 #[.slice none 0 0,.slice none 0 0] by rw [← hW0];exact ((Blk.newAt _ (w.heap.size+1+1) 25 #[.slice none 0 0,.slice none 0 0] (by simp)).alloc _).alloc _).below B1 (by omega)
 have k3:=(show Blk W0 (w.heap.size+1+1+1) 3 #[.int .i64 0] by rw [← hW0];exact (Blk.newAt _ (w.heap.size+1+1+1) 3 #[.int .i64 0] (by simp)).alloc _).below B1 (by omega)
 have k4:=(show Blk W0 (w.heap.size+1+1+1+1) 41 #[.int .i64 0] by rw [← hW0];exact Blk.newAt _ (w.heap.size+1+1+1+1) 41 #[.int .i64 0] (by simp)).below B1 (by omega)
 have B2:Below w.heap.size w w1:=hB0.trans (B1.mono (by omega))
 have hz:=B1.size
 clear hW0 B1 hB0
 obtain ⟨q0,q1,q2,q3,q4,q5,q6,q7⟩:=box8 kb
 gi_wp2_with fail
 refine ⟨trivial,?_⟩
 refine (zrC _ _ _ _ _).mono ?_
 rintro e w2 ⟨rfl,hw2⟩
 have B3:Below w1.heap.size w1 w2:=by rw [← hw2];exact (Below.refl _ _).alloc (Nat.le_refl _) _
 have z2:w2.heap.size=w1.heap.size+1:=by rw [← hw2];simp
 have hsb:w2.cell? ⟨w1.heap.size,0,none⟩=some (.slice a7 k.entries.length c7):=by
  rw [← hw2,World.cell?_alloc_at _ _ _ _ (by simp)];rfl
 have kb':=kb.below B3 kb.lt
 have k1':=k1.below B3 k1.lt
 have k2':=k2.below B3 k2.lt
 have k3':=k3.below B3 k3.lt
 have k4':=k4.below B3 k4.lt
 have s7:Sl w2 S Entry.ty a7 k.entries.length c7 (k.entries.map Entry.enc):=(H7.out.same (Same.below B2)).same (Same.below B3)
 have s4:SlI w2 S a4 k.snap.config.voters.length c4 k.snap.config.voters:=(H4.out.same (Same.below B2)).same (Same.below B3)
 have s5:SlI w2 S a5 k.snap.config.learners.length c5 k.snap.config.learners:=(H5.out.same (Same.below B2)).same (Same.below B3)
 have B4:Below w.heap.size w w2:=B2.trans (B3.mono (by omega))
 have hlen:=s7.bd.2.2.1
 obtain ⟨ev,hev,hcf,hcells⟩:=zqf H7.out
 have hzw:w.heap.size+5≤w1.heap.size:=by omega
 have HEV:=Lib.hid hev
 have HCF:=Lib.hid hcf
 have HCE:=Lib.hid hcells
 have HS4:=Lib.hid s4
 have HS5:=Lib.hid s5
 have HLE:=Lib.hid hlen
 have HSB:=Lib.hid hsb
 clear hw2 q0 q1 q2 q3 q4 q5 q6 q7 kb k1 k2 k3 k4 B3 s7 s4 s5 hev hcf hcells hlen hsb
 gi_wp2_with fail
 refine wpIn_rangeFunc_ownH rfl (by omega) (gf:=200) (lb:= #[.pointer (some ⟨w1.heap.size,0,none⟩)]) rfl trivial (enters_of Tryz.func200 (by kernel_rfl) rfl)
  (zh1 (20-1) w1.heap.size w.heap.size a7 k.entries.length c7 ev HLE.out w2 (by omega) (by omega) (by omega) HSB.out ?hcc) KpB.t (KpB.b (by omega)) (Below.refl _ _) (fun _=>rfl)
  (fun pre Wi=>(∀ y∈pre,cfB index (k.en y)=false)∧Blk Wi w.heap.size 30 #[.int .i64 k.term,.int .i64 k.vote,.int .i64 k.snap.index,.int .i64 k.snap.term,.slice a4 (k.snap.config.voters).length c4,.slice a5 (k.snap.config.learners).length c5,.string k.snap.data,.slice a7 (k.entries).length c7]∧Blk Wi (w.heap.size+1) 3 #[.int .i64 index]∧Blk Wi (w.heap.size+1+1) 25 #[.slice none 0 0,.slice none 0 0]∧Blk Wi (w.heap.size+1+1+1) 3 #[.int .i64 0]∧Blk Wi (w.heap.size+1+1+1+1) 41 #[.int .i64 0]∧Below w.heap.size w Wi)
  (fun c pre Wi=>(c = .ret∧∃ ini x,pre=ini++[x]∧(∀ y∈ini,cfB index (k.en y)=false)∧cfB index (k.en x)=true∧∃ u0 u1,RdL Wi (fun b=>w.heap.size≤b) Config.ty [u0,u1] (k.en x).config.enc∧Blk Wi (w.heap.size+1+1) 25 #[u0,u1]∧Blk Wi (w.heap.size+1+1+1) 3 #[.int .i64 (k.en x).index]∧Blk Wi (w.heap.size+1+1+1+1) 41 #[.int .i64 0])∧Below w.heap.size w Wi)
  ?own ?ownx ⟨fun p hp=>absurd hp (by simp),kb',k1',k2',k3',k4',B4⟩
  (fun x a' Wi=>∃ Bx,w.heap.size+5≤Bx∧Blk Wi Bx 89 #[ev x 0,ev x 1,ev x 2,ev x 3,ev x 4,ev x 5]∧a'={tmps:= #[.agg #[.int .i64 k.term,.int .i64 k.vote,.int .i64 k.snap.index,.int .i64 k.snap.term,.slice a4 (k.snap.config.voters).length c4,.slice a5 (k.snap.config.learners).length c5,.string k.snap.data,.slice a7 (k.entries).length c7],.int .i64 index,.pointer (some ⟨w.heap.size,0,none⟩),.pointer (some ⟨w.heap.size+1,0,none⟩),.pointer (some ⟨w.heap.size+1+1,0,none⟩),.pointer (some ⟨w.heap.size+1+1+1,0,none⟩),.pointer (some ⟨w.heap.size+1+1+1+1,0,none⟩),.int .i64 (zaA k index).1,.int .i64 0,undef,.pointer (some ⟨Bx,0,none⟩),.tuple #[.int .i64 (zaA k index).1,.int .i64 0],.agg #[.int .i64 k.term,.int .i64 k.vote,.int .i64 k.snap.index,.int .i64 k.snap.term,.slice a4 (k.snap.config.voters).length c4,.slice a5 (k.snap.config.learners).length c5,.string k.snap.data,.slice a7 (k.entries).length c7],.int .i64 index,.tuple #[.int .i64 (zaA k index).1,.int .i64 0],.int .i64 (zaA k index).1,.int .i64 0,.int .i64 0,.bool false,undef,undef,.pointer (some ⟨w.heap.size,7,none⟩),.slice a7 k.entries.length c7,.func (.func 200) #[] #[.pointer (some ⟨w1.heap.size,0,none⟩)],.int .i64 (x:Int),.agg #[ev x 0,ev x 1,ev x 2,ev x 3,ev x 4,ev x 5],undef,undef,undef,undef,undef,undef,undef,undef,undef,undef,undef,undef,undef,undef,undef,undef,undef,undef,undef,undef,undef],defers:=[]})
  (fun x a' s A C row hs hg hr=>by obtain ⟨Bx,h0,h2,h3⟩:=hs;exact ⟨Bx,h0,zaz (β:=Unit) () A C row h2 hg hr,h3⟩)
  ?assign ?body ?done ?stop
 case hcc=>
  intro hp
  obtain ⟨b,off,e,hb,hc⟩:=HCE.out hp
  exact ⟨b,off,e,hb,fun i j hi hj=>(B4.cell (p:=⟨b,off+i*6+j,none⟩) hb).trans (hc i j hi hj)⟩
 case own=>exact OwnFrom.and (ownFrom_pure _ _) (OwnFrom.and zaz (OwnFrom.and zaz (OwnFrom.and zaz (OwnFrom.and zaz (OwnFrom.and zaz (ownFrom_below (Nat.le_refl _) (by omega)))))))
 case ownx=>
  rintro c pre A C row ⟨⟨rfl,ini,x,rfl,h0,h1,u0,u1,h2,h3,h4,h5⟩,h6⟩ hg hr
  exact ⟨⟨rfl,ini,x,rfl,h0,h1,u0,u1,zdC (β:=Unit) () A C row h2 hg hr,zaz (β:=Unit) () A C row h3 hg hr,zaz (β:=Unit) () A C row h4 hg hr,zaz (β:=Unit) () A C row h5 hg hr⟩,ownFrom_below (β:=Unit) (Nat.le_refl _) (by omega) () A C row h6 hg hr⟩
 case assign=>
  rintro l2 pre x Wi K ⟨h0,hy,h1,h2,h3,h4,hB⟩ hK
  obtain ⟨a3,c3,a4,c4,e0,e1,e2,e3,e4,e5⟩:=HEV.out x
  unfold zjN
  rw [e0,e1,e2,e3,e4,e5] at hK ⊢
  gi_wp2
  exact hK _ _ ((KeepsOthers.alloc _ _).from _) ⟨(Below.refl _ Wi).alloc hB.size _,fun hc=>(World.cell?_alloc_lt Wi _ _ (World.block_lt_of_cell? _ _ hc)).trans hc⟩ ⟨h0,hy.alloc _,h1.alloc _,h2.alloc _,h3.alloc _,h4.alloc _,hB.alloc hB.size _⟩ ⟨Wi.heap.size,by have:=h4.lt;omega,Blk.new Wi _ _,rfl⟩
 case body=>
  rintro l2 pre x a' Wi hl2 ⟨r,hr⟩ ⟨h0,hy,h1,h2,h3,h4,hB⟩ ⟨Bx,hbz,hbx,rfl⟩ hlt
  obtain ⟨a3,c3,a4,c4,e0,e1,e2,e3,e4,e5⟩:=HEV.out x
  have HBX:=Lib.hid hbx
  have z2:Bx≠w.heap.size+1+1:=by omega
  have z3:Bx≠w.heap.size+1+1+1:=by omega
  have z4:Bx≠w.heap.size+1+1+1+1:=by omega
  rw [e0,e1,e2,e3,e4,e5] at hbx ⊢
  have q0:Wi.cell? ⟨Bx,0,none⟩=some (.int .i64 (k.en x).index):=hbx.cell 0
  have q2:Wi.cell? ⟨Bx,2,none⟩=some (.int .i64 (k.en x).kind):=hbx.cell 2
  have q1:Wi.cell? ⟨w.heap.size+1,0,none⟩=some (.int .i64 index):=h1.cell 0
  have q3:Wi.cell? ⟨Bx,3,none⟩=some (.slice a3 (k.en x).config.voters.length c3):=hbx.cell 3
  have q4:Wi.cell? ⟨Bx,4,none⟩=some (.slice a4 (k.en x).config.learners.length c4):=hbx.cell 4
  have H0:=Lib.hid h0
  clear h0
  have HOC:=Lib.hid (show CallsIn (Fence.wide.inRound l2) 17 Tryz.prog 163 #[.agg #[.slice a3 (k.en x).config.voters.length c3,.slice a4 (k.en x).config.learners.length c4]] Wi.drew (fun e W'=>∃ (p0 p1:Option Addr) (n0 d0 n1 d1:Nat),e = .returned (.agg #[.slice p0 n0 d0,.slice p1 n1 d1])∧RdL W' (fun b=>Wi.heap.size≤b) Config.ty [.slice p0 n0 d0,.slice p1 n1 d1] (k.en x).config.enc∧Below Wi.heap.size Wi.drew W') from ?ownc)
  ·gi_wp2_with fail
   ·gi_region_with (refine ⟨trivial,?_⟩;refine HOC.out.mono ?_;rintro e W' ⟨p0,p1,n0,d0,n1,d1,rfl,hR,hBW⟩;have HR:=Lib.hid hR;have m0:W'.cell? ⟨Bx,0,none⟩=some (.int .i64 (k.en x).index):=(hBW.cell (p:=⟨Bx,0,none⟩) hbx.lt).trans q0;have n2:Blk W' (w.heap.size+1+1) 25 #[.slice none 0 0,.slice none 0 0]:=h2.drew.below hBW h2.lt;have n3:Blk W' (w.heap.size+1+1+1) 3 #[.int .i64 0]:=h3.drew.below hBW h3.lt;have n4:Blk W' (w.heap.size+1+1+1+1) 41 #[.int .i64 0]:=h4.drew.below hBW h4.lt;have f2:W'.frozen? ⟨w.heap.size+1+1,0,none⟩=false:=n2.frozen 0;have f21:W'.frozen? ⟨w.heap.size+1+1,1,none⟩=false:=n2.frozen 1;have f3:W'.frozen? ⟨w.heap.size+1+1+1,0,none⟩=false:=n3.frozen 0;have f4:W'.frozen? ⟨w.heap.size+1+1+1+1,0,none⟩=false:=n4.frozen 0;have r2:W'.cell? ⟨w.heap.size+1+1,0,none⟩=some (.slice none 0 0):=n2.cell 0;have r21:W'.cell? ⟨w.heap.size+1+1,1,none⟩=some (.slice none 0 0):=n2.cell 1;have r3:W'.cell? ⟨w.heap.size+1+1+1,0,none⟩=some (.int .i64 0):=n3.cell 0;have r4:W'.cell? ⟨w.heap.size+1+1+1+1,0,none⟩=some (.int .i64 0):=n4.cell 0;clear hR)
    all_goals gi_wp2
    all_goals
     obtain ⟨f1,f2,f3,f4,f5,f6⟩:=zrx (N:=w2.heap.size) (idx:=(k.en x).index) HR.out hB hBW h2 h3 h4 (by omega) (by omega) (by omega) (by omega) _ rfl
     exact ⟨f1,⟨rfl,pre,x,rfl,H0.out,by simp_all [cfB],_,_,f2,f3,f4,f5⟩,f6⟩
   ·rename_i g1 g2
    exact ⟨(Same.refl _ _).keeps,⟨Below.refl _ _,fun h=>h⟩,(fun y hy=>by
     rcases List.mem_append.1 hy with h | h
     ·exact H0.out y h
     ·simp only [List.mem_singleton] at h;rw [h];unfold cfB;rw [g2,Bool.and_false]),hy,h1,h2,h3,h4,hB⟩
   ·rename_i g1 g2
    exact ⟨(Same.refl _ _).keeps,⟨Below.refl _ _,fun h=>h⟩,(fun y hy=>by
     rcases List.mem_append.1 hy with h | h
     ·exact H0.out y h
     ·simp only [List.mem_singleton] at h;rw [h];unfold cfB;rw [decide_eq_false (by omega)];rfl),hy,h1,h2,h3,h4,hB⟩
  case ownc=>
   refine CallsIn.inRound l2 (callsIn_wide.2 ((zme [.slice a3 (k.en x).config.voters.length c3,.slice a4 (k.en x).config.learners.length c4] (k.en x).config Wi.drew S ?_ ?_).mono ?_))
   ·have:=HCF.out x
    rw [e3,e4] at this
    exact RdL.same (w:=w) (w':=Wi.drew) ⟨hB.size,fun b _ hl=>hB.block b hl⟩ this
   ·exact HK.out.2 x
   ·rintro e W' ⟨us,rfl,hR,hBW⟩
    match us,hR with
    | [u0,u1],hR=>
     obtain ⟨p0,d0,rfl,_⟩:=Rd.sl' hR.1
     obtain ⟨p1,d1,rfl,_⟩:=Rd.sl' hR.2.1
     exact ⟨p0,p1,_,d0,_,d1,rfl,hR,hBW⟩
 case done=>
  rintro D ys Wi hD rfl ⟨h0,hy,h1,h2,h3,h4,hB⟩ hK
  have HX:=Lib.hid (ztB h0)
  have q2:Wi.cell? ⟨w.heap.size,2,none⟩=some (.int .i64 k.snap.index):=hy.cell 2
  have q4:Wi.cell? ⟨w.heap.size,4,none⟩=some (.slice a4 k.snap.config.voters.length c4):=hy.cell 4
  have q5:Wi.cell? ⟨w.heap.size,5,none⟩=some (.slice a5 k.snap.config.learners.length c5):=hy.cell 5
  have HOC:=Lib.hid (show ∀ n,CallsIn Fence.wide n Tryz.prog 163 #[.agg #[.slice a4 k.snap.config.voters.length c4,.slice a5 k.snap.config.learners.length c5]] Wi.drew (fun e W'=>∃ (p0 p1:Option Addr) (n0 d0 n1 d1:Nat),e = .returned (.agg #[.slice p0 n0 d0,.slice p1 n1 d1])∧RdL W' (fun b=>Wi.heap.size≤b) Config.ty [.slice p0 n0 d0,.slice p1 n1 d1] k.snap.config.enc∧Below Wi.heap.size Wi.drew W') from ?ownc)
  ·clear h0
   gi_wp2_with fail
   ·refine zkv ?_
    gi_region_with (refine ⟨trivial,?_⟩;refine (HOC.out _).mono ?_;rintro e W' ⟨p0,p1,n0,d0,n1,d1,rfl,hR,hBW⟩;have HR:=Lib.hid hR;have m0:W'.cell? ⟨w.heap.size,2,none⟩=some (.int .i64 k.snap.index):=(hBW.cell (p:=⟨w.heap.size,2,none⟩) hy.lt).trans q2;have n2:Blk W' (w.heap.size+1+1) 25 #[.slice none 0 0,.slice none 0 0]:=h2.drew.below hBW h2.lt;have n3:Blk W' (w.heap.size+1+1+1) 3 #[.int .i64 0]:=h3.drew.below hBW h3.lt;have n4:Blk W' (w.heap.size+1+1+1+1) 41 #[.int .i64 0]:=h4.drew.below hBW h4.lt;have f2:W'.frozen? ⟨w.heap.size+1+1,0,none⟩=false:=n2.frozen 0;have f21:W'.frozen? ⟨w.heap.size+1+1,1,none⟩=false:=n2.frozen 1;have f3:W'.frozen? ⟨w.heap.size+1+1+1,0,none⟩=false:=n3.frozen 0;have f4:W'.frozen? ⟨w.heap.size+1+1+1+1,0,none⟩=false:=n4.frozen 0;have r2:W'.cell? ⟨w.heap.size+1+1,0,none⟩=some (.slice none 0 0):=n2.cell 0;have r21:W'.cell? ⟨w.heap.size+1+1,1,none⟩=some (.slice none 0 0):=n2.cell 1;have r3:W'.cell? ⟨w.heap.size+1+1+1,0,none⟩=some (.int .i64 0):=n3.cell 0;have r4:W'.cell? ⟨w.heap.size+1+1+1+1,0,none⟩=some (.int .i64 0):=n4.cell 0;clear hR)
    all_goals
     refine zoz ?_
     obtain ⟨f1,f2,f3,f4,f5,f6⟩:=zrx (N:=w2.heap.size) (idx:=k.snap.index) HR.out hB hBW h2 h3 h4 (by omega) (by omega) (by omega) (by omega) _ rfl
     gi_wp2
     refine ⟨by simp,.inl ⟨_,_,rfl,run_takeDeferred (f1.same D _ hD hK rfl),?_⟩⟩
     have g2:=(f3.grown (grownBy_putObj' _ D (.deferred none)) (fun e=>by cases e;omega))
     have g3:=(f4.grown (grownBy_putObj' _ D (.deferred none)) (fun e=>by cases e;omega))
     have g4:=(f5.grown (grownBy_putObj' _ D (.deferred none)) (fun e=>by cases e;omega))
     have e2:(((((W'.setCell ⟨w.heap.size+1+1,0,none⟩ (.slice p0 n0 d0)).setCell ⟨w.heap.size+1+1,1,none⟩ (.slice p1 n1 d1)).setCell ⟨w.heap.size+1+1+1,0,none⟩ (.int .i64 k.snap.index)).setCell ⟨w.heap.size+1+1+1+1,0,none⟩ (.int .i64 0)).putObj D (.deferred none)).cell? ⟨w.heap.size+1+1,0,none⟩=some (.slice p0 n0 d0):=g2.cell 0
     have e21:(((((W'.setCell ⟨w.heap.size+1+1,0,none⟩ (.slice p0 n0 d0)).setCell ⟨w.heap.size+1+1,1,none⟩ (.slice p1 n1 d1)).setCell ⟨w.heap.size+1+1+1,0,none⟩ (.int .i64 k.snap.index)).setCell ⟨w.heap.size+1+1+1+1,0,none⟩ (.int .i64 0)).putObj D (.deferred none)).cell? ⟨w.heap.size+1+1,1,none⟩=some (.slice p1 n1 d1):=g2.cell 1
     have e3:(((((W'.setCell ⟨w.heap.size+1+1,0,none⟩ (.slice p0 n0 d0)).setCell ⟨w.heap.size+1+1,1,none⟩ (.slice p1 n1 d1)).setCell ⟨w.heap.size+1+1+1,0,none⟩ (.int .i64 k.snap.index)).setCell ⟨w.heap.size+1+1+1+1,0,none⟩ (.int .i64 0)).putObj D (.deferred none)).cell? ⟨w.heap.size+1+1+1,0,none⟩=some (.int .i64 k.snap.index):=g3.cell 0
     have e4:(((((W'.setCell ⟨w.heap.size+1+1,0,none⟩ (.slice p0 n0 d0)).setCell ⟨w.heap.size+1+1,1,none⟩ (.slice p1 n1 d1)).setCell ⟨w.heap.size+1+1+1,0,none⟩ (.int .i64 k.snap.index)).setCell ⟨w.heap.size+1+1+1+1,0,none⟩ (.int .i64 0)).putObj D (.deferred none)).cell? ⟨w.heap.size+1+1+1+1,0,none⟩=some (.int .i64 0):=g4.cell 0
     refine ⟨.tuple #[.agg #[.slice p0 n0 d0,.slice p1 n1 d1],.int .i64 k.snap.index,.int .i64 0],by simp [results,Tryz.results99,go_sem,e2,e21,e3,e4],[.slice p0 n0 d0,.slice p1 n1 d1],by rw [HX.out],?_,?_⟩
     ·rw [HX.out];exact zdC (β:=Unit) (B:=0) () _ _ (some D) f2 (grownBy_putObj' _ D (.deferred none)) (fun r e=>by cases e;exact ⟨Nat.zero_le _,_,f1.same D _ hD hK rfl,rfl⟩)
     ·exact f6.grown (grownBy_putObj' _ D (.deferred none)) f6.size (fun e he=>by cases he;omega)
  case ownc=>
   refine fun n=>callsIn_wide.2 ((zme [.slice a4 k.snap.config.voters.length c4,.slice a5 k.snap.config.learners.length c5] k.snap.config Wi.drew S ?_ HK.out.1).mono ?_)
   ·exact RdL.same (w:=w) (w':=Wi.drew) ⟨hB.size,fun b _ hl=>hB.block b hl⟩ ⟨H4.out,H5.out,trivial⟩
   ·rintro e W' ⟨us,rfl,hR,hBW⟩
    match us,hR with
    | [u0,u1],hR=>
     obtain ⟨p0,d0,rfl,_⟩:=Rd.sl' hR.1
     obtain ⟨p1,d1,rfl,_⟩:=Rd.sl' hR.2.1
     exact ⟨p0,p1,_,d0,_,d1,rfl,hR,hBW⟩
 case stop=>
  rintro D c pre Wi hD ⟨j,hj,hp⟩ ⟨⟨rfl,ini,x,rfl,h0,hx,u0,u1,hR,h2,h3,h4⟩,hB⟩ hK
  have HX:=Lib.hid (zww hj hp h0 hx)
  clear h0 hx hp
  gi_wp2
  refine ⟨by simp,.inl ⟨_,_,rfl,run_takeDeferred hK,?_⟩⟩
  have g2:=(h2.grown (grownBy_putObj' _ D (.deferred none)) (fun e=>by cases e;omega))
  have g3:=(h3.grown (grownBy_putObj' _ D (.deferred none)) (fun e=>by cases e;omega))
  have g4:=(h4.grown (grownBy_putObj' _ D (.deferred none)) (fun e=>by cases e;omega))
  have e2:(Wi.putObj D (.deferred none)).cell? ⟨w.heap.size+1+1,0,none⟩=some (u0):=g2.cell 0
  have e21:(Wi.putObj D (.deferred none)).cell? ⟨w.heap.size+1+1,1,none⟩=some (u1):=g2.cell 1
  have e3:(Wi.putObj D (.deferred none)).cell? ⟨w.heap.size+1+1+1,0,none⟩=some (.int .i64 (k.en x).index):=g3.cell 0
  have e4:(Wi.putObj D (.deferred none)).cell? ⟨w.heap.size+1+1+1+1,0,none⟩=some (.int .i64 0):=g4.cell 0
  refine ⟨.tuple #[.agg #[u0,u1],.int .i64 (k.en x).index,.int .i64 0],by simp [results,Tryz.results99,go_sem,e2,e21,e3,e4],[u0,u1],by rw [HX.out],?_,?_⟩
  ·rw [HX.out];exact zdC (β:=Unit) (B:=0) () _ _ (some D) hR (grownBy_putObj' _ D (.deferred none)) (fun r e=>by cases e;exact ⟨Nat.zero_le _,_,hK,rfl⟩)
  ·exact hB.grown (grownBy_putObj' _ D (.deferred none)) hB.size (fun e he=>by cases he;omega)
set_option maxRecDepth 100000 in
set_option maxHeartbeats 4000000 in
theorem zrt (vs:List Value) (k:Kept) (index:Int) (w:World) (S:Nat→Prop) (h:RdL w S Kept.ty vs k.enc) (ht:(zaA k index).2≠0) :
  Calls Tryz.prog 99 #[.agg vs.toArray,.int .i64 index] w (zys w ⟨[],[]⟩ 0 (zaA k index).2):=by
 have hcall:=fun w' (hb:Below w.heap.size w w')=>zh7 vs k index w' S (RdL.same (Same.below hb) h)
 obtain ⟨a4,c4,a5,c5,a7,c7,rfl,b0,b1,b2,b3,s4,s5,b6,s7⟩:=Kept.opens h
 have HC:=Lib.hid hcall
 have hne:((zaA k index).2 != 0)=true:=by simpa using ht
 clear h s4 s5 s7 hcall ht
 obtain ⟨z,hz⟩:∃ z,(zaA k index).2=z:=⟨_,rfl⟩
 rw [hz] at hne ⊢
 go_enter Tryz.func99,Tryz.ntmps99
 go_wp2_with fail
 refine (HC.out _ ((((((Below.refl _ _).alloc (Nat.le_refl _) _).alloc (by simp) _).alloc (by simp<;>omega) _).alloc (by simp<;>omega) _).alloc (by simp<;>omega) _)).mono ?_
 obtain ⟨W0,hW0⟩:∃ W0,((((w.alloc (.cells #[.int .i64 k.term,.int .i64 k.vote,.int .i64 k.snap.index,.int .i64 k.snap.term,.slice a4 (k.snap.config.voters).length c4,.slice a5 (k.snap.config.learners).length c5,.string k.snap.data,.slice a7 (k.entries).length c7] 30)).alloc (.cells #[.int .i64 index] 3)).alloc (.cells #[.slice none 0 0,.slice none 0 0] 25)).alloc (.cells #[.int .i64 0] 3)).alloc (.cells #[.int .i64 0] 41)=W0:=⟨_,rfl⟩
 rw [hz]
 rintro e w1 ⟨rfl,B1⟩
 have hz0:W0.heap.size=w.heap.size+5:=by rw [← hW0];simp
 have hB0:Below w.heap.size w W0:=by rw [← hW0];exact ((((((Below.refl _ _).alloc (Nat.le_refl _) _).alloc (by simp) _).alloc (by simp<;>omega) _).alloc (by simp<;>omega) _).alloc (by simp<;>omega) _)
 rw [hW0] at B1
 have k2:=(show Blk W0 (w.heap.size+1+1) 25 #[.slice none 0 0,.slice none 0 0] by rw [← hW0];exact ((Blk.newAt _ (w.heap.size+1+1) 25 #[.slice none 0 0,.slice none 0 0] (by simp)).alloc _).alloc _).below B1 (by omega)
 have k3:=(show Blk W0 (w.heap.size+1+1+1) 3 #[.int .i64 0] by rw [← hW0];exact (Blk.newAt _ (w.heap.size+1+1+1) 3 #[.int .i64 0] (by simp)).alloc _).below B1 (by omega)
 have k4:=(show Blk W0 (w.heap.size+1+1+1+1) 41 #[.int .i64 0] by rw [← hW0];exact Blk.newAt _ (w.heap.size+1+1+1+1) 41 #[.int .i64 0] (by simp)).below B1 (by omega)
 have B2:=Lib.hid (hB0.trans (B1.mono (by omega)))
 clear hW0 B1 hB0
 have f2:w1.frozen? ⟨w.heap.size+1+1,0,none⟩=false:=k2.frozen 0
 have f21:w1.frozen? ⟨w.heap.size+1+1,1,none⟩=false:=k2.frozen 1
 have f3:w1.frozen? ⟨w.heap.size+1+1+1,0,none⟩=false:=k3.frozen 0
 have f4:w1.frozen? ⟨w.heap.size+1+1+1+1,0,none⟩=false:=k4.frozen 0
 have r2:w1.cell? ⟨w.heap.size+1+1,0,none⟩=some (.slice none 0 0):=k2.cell 0
 have r21:w1.cell? ⟨w.heap.size+1+1,1,none⟩=some (.slice none 0 0):=k2.cell 1
 have r3:w1.cell? ⟨w.heap.size+1+1+1,0,none⟩=some (.int .i64 0):=k3.cell 0
 have r4:w1.cell? ⟨w.heap.size+1+1+1+1,0,none⟩=some (.int .i64 0):=k4.cell 0
 clear k2 k3 k4
 go_wp2_with fail
 refine bodyPost_ret (v:= .tuple #[.agg #[.slice none 0 0,.slice none 0 0],.int .i64 0,.int .i64 z]) (by simp [results,Tryz.results99,go_sem,r2,r21,r3,r4]) rfl ⟨[.slice none 0 0,.slice none 0 0],rfl,⟨.emp (fun _=>rfl) (Nat.zero_le _),.emp (fun _=>rfl) (Nat.zero_le _),trivial⟩,?_⟩
 exact (((B2.out.setCell (by simp<;>omega) _).setCell (by simp<;>omega) _).setCell (by simp<;>omega) _).setCell (by simp<;>omega) _
end Go.Proofs.YteabcgkjbnecaaaGreat
namespace Go.Proofs.YteabcgkjbnecaaaGreat
open Go.RowKit Go.ChangeShapes Go.WideShapes Go.Deep
theorem ztA {k:Kept} (h:dKept.Okp k) (i:Int):I64 (cfgR k i).2:=by
 unfold cfgR
 split
 ·rename_i e he
  have hm:e∈k.entries:=by have:=List.mem_of_find?_eq_some he;simpa using this
  exact (h.entries.2 e hm).index
 ·exact h.snap_index
theorem zsW:I64 0:=⟨by decide,by decide⟩
theorem i64_1:I64 1:=⟨by decide,by decide⟩
theorem zvH:I64 150:=⟨by decide,by decide⟩
theorem zok (k:Kept) (i:Int):I64 (zaI k i).2:=by
 unfold zaI
 split
 ·split
  ·exact zsW
  ·split
   ·exact zsW
   ·exact zvH
 ·exact i64_1
theorem zgt (k:Kept) (i:Int) (hs:zaC k):FnC Tryz.prog 99 [dKept.can k,dInt.can i] (.tup [.agg ((za9 k i).1.svs [1]),.int .i64 (za9 k i).2.1,.int .i64 (za9 k i).2.2]) D2:=by
 refine FnC.g2 dKept dInt k i (fnB Tryz.func99 (by decide) rfl) fun hk hi=>?_
 refine FnC.of_below (fnB Tryz.func99 (by decide) rfl) fun w E vals hd=>?_
 obtain ⟨v,u,rfl,⟨xs,rfl,hl⟩,⟨rfl,_⟩⟩:=zb4 hd
 by_cases ht:(zaI k i).2=0
 ·refine (znV xs k i w _ (Kept.svs_rd hl) ⟨hs.2,fun x=>?_⟩ (by rw [zf5];exact ht)).mono ?_
  ·by_cases hx:x<k.entries.length
   ·exact hs.1.2 _ (za4 hx)
   ·rw [zqi hx];exact ⟨by decide,by decide⟩
  ·rintro e w' ⟨us,rfl,hr,hb⟩
   refine ⟨_,rfl,hb,fun E' _ h1=>⟨[_,_,_],rfl,⟨us,rfl,?_⟩,⟨?_,?_⟩,⟨?_,?_⟩,trivial⟩⟩
   ·rw [za9,if_pos ht]
    exact Config.svs_of (hr.mono fun b hb' hge=>⟨1,by simp,h1 b hge hb'⟩)
   ·rw [za9,if_pos ht];rfl
   ·rw [za9,if_pos ht];exact zcJ (ztA hk i)
   ·rw [za9,if_pos ht]
   ·rw [za9,if_pos ht];exact zcJ zsW
 ·refine (zrt xs k i w _ (Kept.svs_rd hl) (by rw [zf5];exact ht)).mono ?_
  rintro e w' ⟨us,rfl,hr,hb⟩
  refine ⟨_,rfl,hb,fun E' _ h1=>⟨[_,_,_],rfl,⟨us,rfl,?_⟩,⟨?_,?_⟩,⟨?_,?_⟩,trivial⟩⟩
  ·rw [za9,if_neg ht]
   exact Config.svs_of (x:=⟨[],[]⟩) (hr.mono fun b hb' hge=>⟨1,by simp,h1 b hge hb'⟩)
  ·rw [za9,if_neg ht]
  ·rw [za9,if_neg ht];exact zcJ zsW
  ·rw [za9,if_neg ht,zf5]
  ·rw [za9,if_neg ht];exact zcJ (zok k i)
def zye:Ent:=ent2 99 dKept dInt fun k i=>([zaC k],.tup [.agg ((za9 k i).1.svs [1]),.int .i64 (za9 k i).2.1,.int .i64 (za9 k i).2.2],D2)
theorem zt2:zae Tryz.prog zye:=zar (zgt default 0 zdA).1 fun k i h=>zgt k i (h _ (by simp))
end Go.Proofs.YteabcgkjbnecaaaGreat
namespace Go.Proofs.YteabcgkjbnecaaaGreat
open Go.RowKit Go.ChangeShapes Go.WideShapes Go.Deep
set_option maxRecDepth 100000
theorem zgw (l:List Int) (hl:l.length≤1000000):FnC Tryz.prog 125 [dInts.can l] (.own 2) (D3i l):=by
 refine FnG.of_vc (zah zad fun _=>none) Tryz.func125 rfl (by decide) rfl 300 (p:=fun (V:List PE→Prop)=>True∧True∧True∧(l=[]→True∧l=[]∧True)∧(True→(((0:Nat)+l.length)*(1024:Nat)≤140737488355328∧True)∧l=l∧True)) (by kernel_rfl) ?_
 simp;omega
def zuM:Ent:=ent1 125 dInts fun l=>([l.length≤1000000],.own 2,D3i l)
theorem zkj:zae Tryz.prog zuM:=zan (zgw [] (by decide)).1 fun l h=>zgw l (h _ (by simp))
theorem zfa (l:List Peer) (hl:l.length≤1000000):FnC Tryz.prog 126 [dPeers.can l] (.own 2) [.dead,.dead,.row 94 [] (.rPeer l)]:=by
 refine FnG.of_vc (zah zad fun _=>none) Tryz.func126 rfl (by decide) rfl 300 (p:=fun (V:List PE→Prop)=>True∧True∧True∧(l=[]→True∧l=[]∧True)∧(True→(((0:Nat)+l.length)*(1024:Nat)≤140737488355328∧True)∧l=l∧True)) (by kernel_rfl) ?_
 simp;omega
def zrk:Ent:=ent1 126 dPeers fun l=>([l.length≤1000000],.own 2,[.dead,.dead,.row 94 [] (.rPeer l)])
theorem znQ:zae Tryz.prog zrk:=zan (zfa [] (by decide)).1 fun l h=>zfa l (h _ (by simp))
theorem zeZ (l:List Read) (hl:l.length≤1000000):FnC Tryz.prog 127 [dReads.can l] (.own 2) [.dead,.dead,.row 96 [] (.rRead l)]:=by
 refine FnG.of_vc (zah zad fun _=>none) Tryz.func127 rfl (by decide) rfl 300 (p:=fun (V:List PE→Prop)=>True∧True∧True∧(l=[]→True∧l=[]∧True)∧(True→(((0:Nat)+l.length)*(1024:Nat)≤140737488355328∧True)∧l=l∧True)) (by kernel_rfl) ?_
 simp;omega
def zrj:Ent:=ent1 127 dReads fun l=>([l.length≤1000000],.own 2,[.dead,.dead,.row 96 [] (.rRead l)])
theorem znP:zae Tryz.prog zrj:=zan (zeZ [] (by decide)).1 fun l h=>zeZ l (h _ (by simp))
theorem zc9 (c:Config) (hc:zaw c):FnC Tryz.prog 177 [dConfig.can c] (.agg (c.svs [1])) D2:=by
 refine FnG.of_vc (zah (zaa zkj zad) fun _=>none) Tryz.func177 rfl (by decide) rfl 300 (p:=fun (V:List PE→Prop)=>let v0:=c.voters;let v1:=c.learners;True∧(v0.length≤1000000∧v1.length≤1000000∧True)∧v0=v0∧v0.length≤17592186044416∧v1=v1∧v1.length≤17592186044416∧True) (by kernel_rfl) ?_
 simp [hc.1,hc.2]
 exact ⟨Nat.le_trans hc.1 (by decide),Nat.le_trans hc.2 (by decide)⟩
def zxS:Ent:=ent1 177 dConfig fun c=>([zaw c],.agg (c.svs [1]),D2)
theorem zqQ:zae Tryz.prog zxS:=zan (zc9 default (by unfold zaw;decide)).1 fun c h=>zc9 c (h _ (by simp))
theorem zfR (x:Snap) (hc:zaw x.config):FnC Tryz.prog 123 [dSnap.can x] (.agg (x.svs [1])) D2:=by
 refine FnG.of_vc (zah (zaa zqQ zad) fun _=>none) Tryz.func123 rfl (by decide) rfl 300 (p:=fun (V:List PE→Prop)=>let v0:=x.config;True∧(zaw v0∧True)∧True∧x.index=x.index∧x.term=x.term∧v0.voters=v0.voters∧v0.learners=v0.learners∧x.data=x.data∧True) (by kernel_rfl) ?_
 simp [hc]
def zhq:Ent:=ent1 123 dSnap fun c=>([zaw c.config],.agg (c.svs [1]),D2)
theorem zdh:zae Tryz.prog zhq:=zan (zfR default (by unfold zaw;decide)).1 fun c h=>zfR c (h _ (by simp))
theorem zlk (l:List Entry) (hl:l.length≤1000000):FnC Tryz.prog 178 [dEntrys.can l] (.own 2) [.dead,.dead,.row 89 [0] (.rEntry l)]:=by
 refine FnG.of_vc (zah zad fun _=>none) Tryz.func178 rfl (by decide) rfl 300 (p:=fun (V:List PE→Prop)=>True∧True∧True∧(l=[]→True∧l=[]∧True)∧(True→(((0:Nat)+l.length)*(1024:Nat)≤140737488355328∧True)∧l=l∧True)) (by kernel_rfl) ?_
 simp;omega
abbrev En:=89
theorem zkn (v:Value) (l:List Entry) (w:World) (S:Nat→Prop) (hS:∀ b,S b→b<w.heap.size) (h:Rd w S (.sl Entry.ty) v (.sl (l.map Entry.enc))) (hl:l.length≤1000000) :
  Calls Tryz.prog 178 #[v] w (fun e w'=>∃ u,e = .returned u∧OwnR w.heap.size w' En S Entry.ty u (l.map Entry.enc)∧Below w.heap.size w w'):=
 ((zlk l hl).2 w (E0 S) [v] (mem0 hS) ⟨h.mono (fun b _ hb=>zku hb),trivial⟩).mono (by
  rintro e w' ⟨u,E',rfl,hv,hm⟩
  obtain ⟨v',h1,h2⟩:=hm.row 2 _ _ _ rfl
  have hu:E'.β 2=some u:=hv.1
  rw [hu] at h1;cases h1
  have hX:∀ b,¬ (cxIn (E0 S) D2 1).X b:=fun b ⟨t,ht⟩=>zet ht
  refine ⟨u,rfl,?_,hm.below.os,hm.below.tape,hm.below.output,hm.below.size,fun b hb=>hm.below.block b hb (hX b)⟩
  obtain ⟨cells,ho,hr⟩:=h2
  have hlt:∀ b,u.ownBlock=some b→w.heap.size≤b:=fun b hb=>by
   refine (hm.sep 2 b ⟨rfl,u,hu,?_⟩).2.resolve_right (hX b)
   obtain ⟨a,c,e⟩:=OwnR.form (h:=⟨cells,ho,hr⟩)
   rw [← zaG ⟨a,_,c,e⟩];exact hb
  refine ⟨cells,⟨ho.1,?_⟩,fun i hi=>(hr i hi).mono fun b _ hb=>⟨?_,hb.2⟩⟩
  ·rcases ho.2 with h3 | ⟨g,cap,cur,e1,_,r⟩
   ·exact .inl h3
   ·exact .inr ⟨g,cap,cur,e1,hlt g (by rw [e1];rfl),r⟩
  ·obtain ⟨i,hi,hs⟩:=hb.1
   simp only [List.mem_singleton] at hi;subst hi
   exact (hm.old 0 b (by show 0<1;decide) hs).2)
theorem zpi (vs:List Value) (c:Config) (w:World) (S:Nat→Prop) (hS:∀ b,S b→b<w.heap.size) (h:RdL w S Config.ty vs c.enc) (hc:zaw c) :
  Calls Tryz.prog 177 #[.agg vs.toArray] w (fun e w'=>∃ us:List Value,e = .returned (.agg us.toArray)∧RdL w' (fun b=>w.heap.size≤b) Config.ty us c.enc∧Below w.heap.size w w'):=
 ((zc9 c hc).2 w (E0 S) [.agg vs.toArray] (mem0 hS) ⟨⟨vs,rfl,Config.svs_of (h.mono fun b _ hb=>zku hb)⟩,trivial⟩).mono (by
  rintro e w' ⟨v,E',rfl,⟨us,rfl,hl⟩,hm⟩
  exact ⟨us,rfl,RdL.mono (fun b _ ⟨i,hi,hs⟩=>zuS hm (by simp at hi;omega) hs) (Config.svs_rd hl),znb hm⟩)
def Mid (wr:World) (base:Nat) (S:Nat→Prop) (g cap j:Nat) (l:List Entry):Prop:=
 ∃ cur:Array Value,Blk wr g En cur∧cur.size=cap*6∧∀ i,i<l.length→RdL wr (fun b=>(if i<j then base≤b else S b)∧b≠g) Entry.ty ((cur.toList.drop (i*6)).take 6) (l.getD i default).enc
theorem Mid.next {wr wr':World} {base:Nat} {S:Nat→Prop} {g cap j:Nat} {l:List Entry} (h:Mid wr base S g cap j l) (hb:Below wr.heap.size wr wr'):Mid wr' base S g cap j l:=by
 obtain ⟨cur,h1,h2,h3⟩:=h
 exact ⟨cur,h1.next hb,h2,fun i hi=>RdL.same (Same.below hb) (h3 i hi)⟩
theorem Mid.at {wr:World} {base:Nat} {S:Nat→Prop} {g cap j:Nat} {l:List Entry} (h:Mid wr base S g cap j l) (hj:j<l.length) (hc:l.length≤cap) :
  ∃ a3 c3 a4 c4,wr.cell? ⟨g,j*6+3,none⟩=some (.slice a3 (l.getD j default).config.voters.length c3)∧wr.cell? ⟨g,j*6+4,none⟩=some (.slice a4 (l.getD j default).config.learners.length c4) ∧
   wr.frozen? ⟨g,j*6+3,none⟩=false∧wr.frozen? ⟨g,j*6+4,none⟩=false∧RdL wr (fun b=>S b∧b≠g) Config.ty [.slice a3 (l.getD j default).config.voters.length c3,.slice a4 (l.getD j default).config.learners.length c4] (l.getD j default).config.enc:=by
 obtain ⟨cur,h1,h2,h3⟩:=h
 have h4:=h3 j hj
 simp only [Nat.lt_irrefl,if_false] at h4
 generalize hx:(cur.toList.drop (j*6)).take 6=xs at h4
 have hget:∀ m,m<6→cur[j*6+m]? = xs[m]? := fun m hm=>by
  rw [← hx,List.getElem?_take,if_pos hm,List.getElem?_drop,Array.getElem?_toList]
 match xs,h4 with
 | [v0,v1,v2,v3,v4,v5],h4=>
  obtain ⟨r0,r1,r2,r3,r4,r5,_⟩:=h4
  obtain ⟨a3,c3,e3,_⟩:=Rd.sl' r3
  obtain ⟨a4,c4,e4,_⟩:=Rd.sl' r4
  rw [zau] at e3 e4
  have q3:=hget 3 (by decide)
  have q4:=hget 4 (by decide)
  simp only [List.getElem?_cons_succ,List.getElem?_cons_zero] at q3 q4
  subst e3;subst e4
  exact ⟨a3,c3,a4,c4,(h1.cell _).trans q3,(h1.cell _).trans q4,h1.frozen _,h1.frozen _,r3,r4,trivial⟩
theorem Mid.step {wr:World} {base:Nat} {S:Nat→Prop} {g cap j:Nat} {l:List Entry} (h:Mid wr base S g cap j l) (hj:j<l.length) (hc:l.length≤cap) {u u':Value} (hu:RdL wr (fun b=>base≤b∧b≠g) Config.ty [u,u'] (l.getD j default).config.enc) :
  Mid ((wr.setCell ⟨g,j*6+3,none⟩ u).setCell ⟨g,j*6+4,none⟩ u') base S g cap (j+1) l:=by
 obtain ⟨cur,h1,h2,h3⟩:=h
 have hS:Same (fun b=>b≠g) wr ((wr.setCell ⟨g,j*6+3,none⟩ u).setCell ⟨g,j*6+4,none⟩ u'):=(Same.setCell (by simp) _).trans (Same.setCell (by simp) _)
 have hsz:j*6+5<cur.size:=by rw [h2];omega
 have hat:∀ i m,i<l.length→m<6→((((cur.setIfInBounds (j*6+3) u).setIfInBounds (j*6+4) u').toList.drop (i*6)).take 6)[m]? = if i=j∧m=3 then some u else if i=j∧m=4 then some u' else ((cur.toList.drop (i*6)).take 6)[m]? := fun i m hi hm=>by
  simp only [Array.toList_setIfInBounds,List.getElem?_take,if_pos hm,List.getElem?_drop,List.getElem?_set,List.length_set,Array.length_toList]
  by_cases hij:i=j
  ·subst hij
   by_cases h5:m=3
   ·subst h5
    rw [if_neg (by omega),if_pos rfl,if_pos (by omega),if_pos ⟨rfl,rfl⟩]
   ·by_cases h6:m=4
    ·subst h6
     rw [if_pos rfl,if_pos (by omega),if_neg (by omega),if_pos ⟨rfl,rfl⟩]
    ·rw [if_neg (by omega),if_neg (by omega),if_neg (by omega),if_neg (by omega)]
  ·rw [if_neg (by omega),if_neg (by omega),if_neg (by omega),if_neg (by omega)]
 have hout:∀ (c:Array Value) i m,¬ m<6→((c.toList.drop (i*6)).take 6)[m]? = none:=fun c i m hm=>by rw [List.getElem?_take,if_neg hm]
 refine ⟨(cur.setIfInBounds (j*6+3) u).setIfInBounds (j*6+4) u',(h1.set _ _).set _ _,by simp [h2],fun i hi=>?_⟩
 by_cases hij:i=j
 ·subst hij
  have h4:=h3 i hi
  simp only [Nat.lt_irrefl,if_false] at h4
  simp only [Nat.lt_add_one,if_true]
  have hat2:=hat i
  generalize hx:(cur.toList.drop (i*6)).take 6=xs at h4
  rw [hx] at hat2
  match xs,h4,hat2 with
  | [v0,v1,v2,v3,v4,v5],h4,hat2=>
   obtain ⟨r0,r1,r2,r3,r4,r5,_⟩:=h4
   have e:(((cur.setIfInBounds (i*6+3) u).setIfInBounds (i*6+4) u').toList.drop (i*6)).take 6=[v0,v1,v2,u,u',v5]:=by
    apply List.ext_getElem?
    intro m
    by_cases hm:m<6
    ·rw [hat2 m hi hm]
     match m,hm with
     | 0,_=>simp
     | 1,_=>simp
     | 2,_=>simp
     | 3,_=>simp
     | 4,_=>simp
     | 5,_=>simp
    ·rw [hout _ _ _ hm,List.getElem?_eq_none (by simp;omega)]
   rw [e]
   have f0:∀ {T:Ty} {v:Value} {d:D},T.flat=true→Rd wr (fun b=>S b∧b≠g) T v d→Rd ((wr.setCell ⟨g,i*6+3,none⟩ u).setCell ⟨g,i*6+4,none⟩ u') (fun b=>base≤b∧b≠g) T v d:=by
    intro T v d hT hr
    cases hr with
    | int h=>exact .int h
    | bool=>exact .bool
    | str h=>exact .str h
    | emp h h'=>exact .emp h h'
    | row=>cases hT
   exact ⟨f0 rfl r0,f0 rfl r1,f0 rfl r2,Rd.same hu.1 (hS.mono fun b hb=>hb.2),Rd.same hu.2.1 (hS.mono fun b hb=>hb.2),f0 rfl r5,trivial⟩
 ·have e:(((cur.setIfInBounds (j*6+3) u).setIfInBounds (j*6+4) u').toList.drop (i*6)).take 6=(cur.toList.drop (i*6)).take 6:=by
   apply List.ext_getElem?
   intro m
   by_cases hm:m<6
   ·rw [hat i m hi hm,if_neg (by omega),if_neg (by omega)]
   ·rw [hout _ _ _ hm,hout _ _ _ hm]
  rw [e]
  have h4:=h3 i hi
  have e2:(i<j+1)=(i<j):=by rw [eq_iff_iff];omega
  simp only [e2]
  exact RdL.same (hS.mono fun b hb=>hb.2) h4
theorem Mid.of {w:World} {base:Nat} {S:Nat→Prop} {g n c:Nat} {l:List Entry} (h:OwnR base w En S Entry.ty (.slice (some ⟨g,0,none⟩) n c) (l.map Entry.enc)):Mid w base S g c 0 l∧base≤g∧l.length≤c∧c≤maxLen∧n=l.length:=by
 obtain ⟨cells,ho,hr⟩:=h
 rcases ho.2 with ⟨e,_⟩ | ⟨g2,cap,cur,e,hg,hh,hnc,hcm,hcs,htake⟩
 ·simp at e
 simp only [Value.slice.injEq,Option.some.injEq,Addr.mk.injEq,and_true] at e
 obtain ⟨rfl,rfl,rfl⟩:=e
 rw [List.length_map] at hnc htake
 refine ⟨⟨cur,hh,hcs,fun i hi=>?_⟩,hg,hnc,hcm,by rw [List.length_map]⟩
 have h1:=hr i (by rw [List.length_map];exact hi)
 have e1:(l.map Entry.enc).getD i []=(l.getD i default).enc:=by simp [List.getD,hi]
 rw [e1] at h1
 have e2:(cells.drop (i*Entry.ty.length)).take Entry.ty.length=(cur.toList.drop (i*6)).take 6:=by
  rw [← htake]
  apply List.ext_getElem?
  intro m
  show ((List.drop (i*6) (List.take (l.length*6) cur.toList)).take 6)[m]? = _
  simp only [List.getElem?_take,List.getElem?_drop]
  by_cases hm:m<6
  ·rw [if_pos hm,if_pos hm,if_pos (by omega)]
  ·rw [if_neg hm,if_neg hm]
 rw [e2] at h1
 refine h1.mono fun b _ hb=>⟨?_,fun e=>hb.2 (by rw [e];rfl)⟩
 rw [if_neg (by omega)];exact hb.1
theorem Mid.to {w:World} {base:Nat} {S:Nat→Prop} {g c:Nat} {l:List Entry} (h:Mid w base S g c l.length l) (hg:base≤g) (hc:l.length≤c) (hm:c≤maxLen):OwnR base w En (fun b=>base≤b) Entry.ty (.slice (some ⟨g,0,none⟩) l.length c) (l.map Entry.enc):=by
 obtain ⟨cur,h1,h2,h3⟩:=h
 refine ⟨cur.toList.take (l.length*6),⟨?_,.inr ⟨g,c,cur,by rw [List.length_map],hg,h1,by rw [List.length_map];exact hc,hm,h2,by rw [List.length_map];rfl⟩⟩,fun i hi=>?_⟩
 ·have e0:cur.toList.length=c*6:=by rw [Array.length_toList];exact h2
  have e1:(cur.toList.take (l.length*6)).length=l.length*6:=by rw [List.length_take,e0];omega
  rw [e1,List.length_map];rfl
 ·rw [List.length_map] at hi
  have e1:(l.map Entry.enc).getD i []=(l.getD i default).enc:=by simp [List.getD,hi]
  rw [e1]
  have e2:((cur.toList.take (l.length*6)).drop (i*Entry.ty.length)).take Entry.ty.length=(cur.toList.drop (i*6)).take 6:=by
   apply List.ext_getElem?
   intro m
   show ((List.drop (i*6) (List.take (l.length*6) cur.toList)).take 6)[m]? = _
   simp only [List.getElem?_take,List.getElem?_drop]
   by_cases hm:m<6
   ·rw [if_pos hm,if_pos hm,if_pos (by omega)]
   ·rw [if_neg hm,if_neg hm]
  rw [e2]
  refine (h3 i hi).mono fun b _ hb=>⟨?_,fun e=>hb.2 (by simp only [Value.ownBlock,Option.some.injEq] at e;exact e.symm)⟩
  have:=hb.1
  rw [if_pos hi] at this;exact this
theorem zvr (v:Value) (l:List Entry) (w:World) (S:Nat→Prop) (hS:∀ b,S b→b<w.heap.size) (h:Rd w S (.sl Entry.ty) v (.sl (l.map Entry.enc))) (hl:zbS l) :
  Calls Tryz.prog 124 #[v] w (fun e w'=>∃ u,e = .returned u∧OwnR w.heap.size w' En (fun b=>w.heap.size≤b) Entry.ty u (l.map Entry.enc)∧Below w.heap.size w w'):=by
 have HC:=Lib.hid (zkn v l w S hS h hl.1)
 go_enter Tryz.func124,Tryz.ntmps124
 go_wp2_with fail
 refine HC.out.mono ?_
 rintro e w1 ⟨u,rfl,hO,hB⟩
 have hN:l.length≤1000000:=hl.1
 have hOR:=Lib.hid hO
 rcases (show (∃ cells:List Value,_) from hO) with ⟨cells,ho,hr⟩
 rcases ho.2 with ⟨e,he⟩ | ⟨g,cap,cur,e,hg,hh,hnc,hcm,hcs,htake⟩
 ·subst e
  rw [List.length_map] at he
  obtain rfl:l=[]:=List.length_eq_zero_iff.1 he
  have HB:=Lib.hid hB
  clear hB ho hO hr
  go_wp2_with fail
  go_loopw [8] (fun i wr=>i = .int .i64 0∧Below w.heap.size w wr) (fun i _=>0)
  case atStart=>exact ⟨rfl,HB.out⟩
  case round=>
   obtain ⟨rfl,hb⟩:=hrel
   have HBB:=Lib.hid hb
   have k1:¬ (0:Int)<(([]:List Entry).length:Int):=by simp
   clear hb
   go_wp2_with fail
   go_ret
   exact ⟨_,rfl,OwnR.nil _ _ _ _ _,HBB.out⟩
 subst e
 clear hr
 obtain ⟨hM,hg2,hc2,hcm2,hn2⟩:=Mid.of hOR.out
 rw [List.length_map] at *
 have HM:=Lib.hid hM
 have HB:=Lib.hid hB
 clear hM hB ho hO hh htake
 go_wp2_with fail
 go_loopw [8] (fun i wr=>∃ j:Nat,j≤l.length∧i = .int .i64 j∧Mid wr w.heap.size S g cap j l∧Below w.heap.size w wr) (fun i _=>l.length-(intOf i).toNat)
 case atStart=>exact ⟨0,Nat.zero_le _,rfl,HM.out,HB.out⟩
 case round=>
  obtain ⟨j,hj,rfl,hm,hb⟩:=hrel
  by_cases hlt:j<l.length
  ·have k0:(0:Int)≤(j:Int):=by omega
   have k1:(j:Int)<(l.length:Int):=by omega
   obtain ⟨x,hx⟩:∃ x,l.getD j default=x:=⟨_,rfl⟩
   have hsx:zaw x.config:=(hl.2 x (by rw [← hx];exact za4 hlt))
   obtain ⟨a3,c3,a4,c4,q3,q4,f3,f4,hcfg⟩:=hm.at hlt hc2
   rw [hx] at q3 q4 hcfg
   have hC:=zpi _ x.config wr (fun b=>S b∧b≠g) (fun b hb'=>Nat.lt_of_lt_of_le (hS b hb'.1) hb.size) hcfg hsx
   have HCF:=Lib.hid hC
   have HMM:=Lib.hid hm
   have HBB:=Lib.hid hb
   have HX:=Lib.hid hx
   have hgl:g<wr.heap.size:=by obtain ⟨cur,k1,_⟩:=hm;exact k1.lt
   clear hcfg hm hb hC hx
   go_wp2_with fail
   refine HCF.out.mono ?_
   rintro e w2 ⟨us,rfl,hu,hB2⟩
   match us,hu with
   | [u,u'],hu=>
   obtain ⟨a5,c5,e5,_⟩:=Rd.sl' hu.1
   obtain ⟨a6,c6,e6,_⟩:=Rd.sl' hu.2.1
   subst e5;subst e6
   obtain ⟨b3,d3,b4,d4,r3,r4,g3,g4,_⟩:=(HMM.out.next hB2).at hlt hc2
   have HU:=Lib.hid hu
   have HB2:=Lib.hid hB2
   clear hu hB2 q3 q4 f3 f4
   go_wp2_with fail
   go_roundw
   case rel=>exact ⟨j+1,by omega,by go_num,((HMM.out.next HB2.out).step hlt hc2 (by rw [HX.out];exact RdL.mono (fun b _ hb=>⟨Nat.le_trans HBB.out.size hb,by show b≠g;omega⟩) HU.out)),((HBB.out.trans (HB2.out.mono HBB.out.size)).setCell hg2 _).setCell hg2 _⟩
   case measure=>simp [intOf];omega
  ·have k1:¬ (j:Int)<(l.length:Int):=by omega
   obtain rfl:j=l.length:=by omega
   have HMM:=Lib.hid hm
   have HBB:=Lib.hid hb
   clear hm hb
   go_wp2_with fail
   go_ret
   exact ⟨_,rfl,HMM.out.to hg2 hc2 hcm2,HBB.out⟩
theorem zsP {E:Env} {w w':World} {v:Value} {l:List Entry} (hm:MemOk w.heap.size (cxIn E D2 1) w E (mOf D2) w) (hb:Below w.heap.size w w') (ho:OwnR w.heap.size w' En (fun b=>w.heap.size≤b) Entry.ty v (l.map Entry.enc)) :
  ∃ E',E'.β 2=some v∧v.oneCell'=true∧MemOk w.heap.size (cxIn E D2 1) w E' (mOf [.dead,.dead,.row En [1] (.rEntry l)]) w':=by
 obtain ⟨a,c,ef⟩:=ho.form
 have hl:∀ t,(mOf D2 t).live=false:=by intro t;rw [mD2];split<;>rfl
 have hno:∀ {E:Env} {t b:Nat},¬ Has E (mOf D2) t b:=zet
 obtain ⟨E1,hE1⟩:∃ E1:Env,E1=⟨E.β,fun i b=>E.σ i b∨(i=1∧w.heap.size≤b∧b<w'.heap.size∧v.ownBlock≠some b)⟩:=⟨_,rfl⟩
 have h1:MemOk w.heap.size (cxIn E D2 1) w E1 (mOf D2) w':=by
  subst hE1
  refine ⟨fun t ht=>⟨(hm.empty t ht).1,fun b hb'=>?_⟩,fun t T vs ht=>?_,fun t T ls r ht=>?_,fun i b hb'=>?_,fun i j b hi hj=>?_,hm.low,fun t b hh=>absurd hh hno,fun i b hi hb'=>?_,fun t u b h1=>absurd h1 hno,hm.keep,⟨hb.os,hb.tape,hb.output,hb.size,fun b h1 _=>hb.block b h1⟩,hb.size⟩
  ·rcases hb' with h | ⟨rfl,_⟩
   ·exact (hm.empty t ht).2 b h
   ·rw [mD2] at ht;simp at ht
  ·have:=hl t;rw [ht] at this;cases this
  ·have:=hl t;rw [ht] at this;cases this
  ·rcases hb' with h | ⟨rfl,h1,h2,_⟩
   ·exact ⟨Nat.lt_of_lt_of_le (hm.lab i b h).1 hb.size,(hm.lab i b h).2⟩
   ·exact ⟨h2,fun _=> .inl h1⟩
  ·rcases hi with hi | ⟨rfl,h1,h2,_⟩<;>rcases hj with hj | ⟨rfl,h3,h4,_⟩
   ·exact hm.dis i j b hi hj
   ·have:=(hm.lab i b hi).1;omega
   ·have:=(hm.lab j b hj).1;omega
   ·rfl
  ·rcases hb' with h | ⟨rfl,_⟩
   ·exact h
   ·simp [cxIn] at hi
 have hE2:mOf D2 2 = .empty:=by rw [mD2];rfl
 have h2:=h1.take (w':=w') hE2 v (.row En [1] (.rEntry l)) (by simp) (Nat.le_refl _) (fun _ _=>rfl) (BelowX.refl _ _ _) (fun b hv=>?_) ?_
 ·refine ⟨E1.setβ 2 v,(by show (if 2=2 then some v else E1.β 2)=some v;rw [if_pos rfl]),by rw [ef];rfl,?_⟩
  have e:upd (mOf D2) 2 (.row En [1] (.rEntry l))=mOf [.dead,.dead,.row En [1] (.rEntry l)]:=by
   funext t
   match t with
   | 0=>rfl
   | 1=>rfl
   | 2=>rfl
   | t+3=>rw [zbw _ _ (by omega),mD2,if_neg (by omega),zdE];simp [List.getD]
  rw [← e];exact h2
 ·have hv2:v.ownBlock=some b:=by rw [zaG ⟨a,_,c,ef⟩];exact hv
  have hb2:=ho.lt b hv2
  refine ⟨fun ⟨i,hi⟩=>?_,fun t=>zet,.inl hb2.1⟩
  subst hE1
  rcases hi with hi | ⟨_,_,_,h3⟩
  ·have:=(hm.lab i b hi).1;omega
  ·exact h3 hv2
 ·obtain ⟨cells,hc,hr⟩:=ho.mono (Nat.zero_le _) (fun b hb=>hb)
  refine ⟨cells,hc,fun i hi=>(hr i hi).mono fun b hb' hs=>⟨⟨1,by simp,?_⟩,hs.2⟩⟩
  show E1.σ 1 b
  rw [hE1]
  exact .inr ⟨rfl,hs.1,hb',hs.2⟩
theorem zn7 {E:Env} {w:World} {l:List Entry} {v:Value} (h:DenV E w (dEntrys.can l) v):Rd w (E.set [0]) (.sl Entry.ty) v (.sl (l.map Entry.enc)):=h
theorem zdU (l:List Entry) (hl:zbS l):FnC Tryz.prog 124 [dEntrys.can l] (.own 2) [.dead,.dead,.row 89 [1] (.rEntry l)]:=by
 refine ⟨fnB Tryz.func124 (by decide) rfl,fun w E vals hm hd=>?_⟩
 obtain ⟨v,rfl,hv⟩:=zcs hd
 refine (zvr v l w (E.set [0]) (fun b ⟨i,_,hs⟩=>(hm.lab i b hs).1) (zn7 hv) hl).mono ?_
 rintro e w' ⟨u,rfl,ho,hb⟩
 obtain ⟨E',h1,h2,h3⟩:=zsP hm hb ho
 exact ⟨u,E',rfl,⟨h1,h2⟩,h3⟩
def zqP:Ent:=ent1 124 dEntrys fun l=>([zbS l],.own 2,[.dead,.dead,.row 89 [1] (.rEntry l)])
theorem zvf:zbS []:=⟨by decide,fun x h=>by cases h⟩
theorem zke:zae Tryz.prog zqP:=zan (zdU [] zvf).1 fun l h=>zdU l (h _ (by simp))
structure SmallN (n:Node):Prop where
 k:zaC n.kept
 yes:n.yes.length≤1000000
 peers:n.peers.length≤1000000
 reads:n.reads.length≤1000000
def Node.osvs (n:Node) (ls:List Nat) (e y p r:Nat):List SV:=
 [.int .i64 n.id,.int .i64 n.role,.int .i64 n.kept.term,.int .i64 n.kept.vote,.int .i64 n.kept.snap.index,.int .i64 n.kept.snap.term,.sl ls (.rInts n.kept.snap.config.voters),.sl ls (.rInts n.kept.snap.config.learners),.str n.kept.snap.data,.own e,.int .i64 n.commit,.int .i64 n.lead,.int .i64 n.elapsed,.own y,.own p,.int .i64 n.round,.own r]
def zxr (n:Node):List BE:=[.dead,.dead,.row 89 [1] (.rEntry n.kept.entries),.row 3 [] (.rInts n.yes),.row 94 [] (.rPeer n.peers),.row 96 [] (.rRead n.reads)]
def tabN1:List Ent:=[zuM,zrk,zrj,zhq,zqP]
theorem zsg:∀ e∈tabN1,zae Tryz.prog e:=zaa zkj (zaa znQ (zaa znP (zaa zdh (zaa zke zad))))
theorem zug (n:Node) (hn:SmallN n):FnC Tryz.prog 53 [dNode.can n] (.agg (n.osvs [1] 2 3 4 5)) (zxr n):=by
 refine FnG.of_vc (zah zsg fun _=>none) Tryz.func53 rfl (by decide) rfl 300 (p:=fun (V:List PE→Prop)=>True∧(zaw n.kept.snap.config∧True)∧(zbS n.kept.entries∧True)∧(n.yes.length≤1000000∧n.peers.length≤1000000∧n.reads.length≤1000000∧True)∧True∧qN0 n n (qN1 n n (n.reads=n.reads∧True))) (by kernel_rfl) ?_
 simp only [qN0,qN1,imp_self,implies_true,true_and,and_true,zaf,zag]
 exact ⟨hn.k.2,hn.k.1,hn.yes,hn.peers,hn.reads⟩
def zwb:Ent:=ent1 53 dNode fun n=>([SmallN n],.agg (n.osvs [1] 2 3 4 5),zxr n)
theorem zbE:SmallN default:=⟨zdA,by decide,by decide,by decide⟩
theorem zmB:zae Tryz.prog zwb:=zan (zug default zbE).1 fun l h=>zug l (h _ (by simp))
def dRpInt:Dec Int where
 dec:=fun s=>match s with | .rp _ 3 [.int .i64 n] 0=>some n | _=>none
 can:=fun x=> .rp [0] 3 [.int .i64 x] 0
 Okp:=fun x=>True
 okp:=fun x E w v _=>trivial
 ok:=by
  intro s x h E w v hz hd
  split at h
  case h_2=>simp at h
  rename_i ls n
  simp only [Option.some.injEq] at h
  subst h
  obtain ⟨b,xs,hv,hb,hh,hl⟩:=hd
  exact ⟨b,xs,hv,hz.set hb,hh,hl⟩
def dCloW:Dec Int where
 dec:=fun s=>match s with | .clo 130 [t]=>dRpInt.dec t | _=>none
 can:=fun x=> .clo 130 [dRpInt.can x]
 Okp:=fun x=>True
 okp:=fun x E w v h=>trivial
 ok:=by
  intro s x h E w v hz hd
  split at h
  case h_2=>simp at h
  obtain ⟨xs,hv,hd⟩:=hd
  match xs,hd with
  | [u],hd=>exact ⟨[u],hv,dRpInt.ok _ _ h E w u hz hd.1,trivial⟩
def offB (most x:Int):Bool:=decide (x<0)||decide (x>most)
theorem zg8 (x most:Int):FnC Tryz.prog 130 [dInt.can x,dRpInt.can most] (.bool (offB most x)) D2:=by
 refine FnG.of_vc (zah zad fun _=>none) Tryz.func130 rfl (by decide) rfl 300 (p:=fun (V:List PE→Prop)=>let v0:=decide (x<0);True∧(((!v0)=true→(!v0)=true)∧((!v0)=true→(!v0)=true)∧(v0=false→(!v0)=true)∧True)∧zac v0 true (decide (x>most))=offB most x∧True) (by kernel_rfl) ?_
 simp only [offB]
 cases h:decide (x<0)<;>simp [zac]
def eWi1:Ent:=ent2 130 dInt dRpInt fun x m=>([],.bool (offB m x),D2)
theorem zqk:zae Tryz.prog eWi1:=zar (zg8 0 0).1 fun x m _=>zg8 x m
theorem zj6 (l:List Int) (m:Int):FnC Tryz.prog 180 [dInts.can l,dCloW.can m] (.int .i64 (zaB (offB m) l)) D2:=by
 refine FnC.g2 dInts dCloW l m (fnB Tryz.func180 (by decide) rfl) fun hl _=>?_
 refine FnG.of_vc (zah (zaa zqk zad) fun _=>none) Tryz.func180 rfl (by decide) rfl 300 (p:=fun (V:List PE→Prop)=>True∧True∧V []) (by kernel_rfl) ?_
 simp only [true_and,and_true]
 refine LoopG.head (zah (zaa zqk zad) fun _=>none) 0 (A:=Nat) (fun j=>j≤l.length∧∀ i,i<j→offB m (l.getD i 0)=false) (fun j=>[(8,.int .i64 j)]) (fun _=>[]) (fun j=>l.length-j) 0 ⟨Nat.zero_le _,fun i h=>absurd h (by omega)⟩ (p0:=let v0:=(↑(l.length):Int);(0:Int)=(↑(0:Nat):Int)∧v0=v0∧l=l∧m=m∧True) (by kernel_rfl) ?_ 300 (p:=fun (x:Nat) (V:List PE→Prop)=>let v0:=zaB (offB m) l;let v1:=(↑x:Int);let v2:=(↑(l.length):Int);let v3:=offB m (List.getD l x (0:Int));let v4:=decide (v1<v2);True∧True∧(v4=true→True∧((0:Int)≤v1∧v1<v2∧True)∧True∧(v3=true→True∧v1=v0∧True)∧(v3=false→True∧V [PE.a,PE.b]))∧(v4=false→True∧(-1:Int)=v0∧True)) (by intro x;kernel_rfl) ?_
 ·simp
 ·rintro j ⟨hj,h0⟩
  have hl44:=hl.1
  simp only [true_and,and_true,decide_eq_true_eq,decide_eq_false_iff_not]
  refine ⟨fun h1=>⟨by omega,fun h2=>?_,fun h2=>?_⟩,fun h1=>?_⟩
  ·exact (zds (by omega) h0 h2).symm
  ·refine Back.mk (j+1) ⟨by omega,fun i hi=>?_⟩ (by omega) (p0:=let v0:=(↑(l.length):Int);IntKind.wrap IntKind.i64 ((↑j:Int)+(1:Int))=(↑(j+(1:Nat)):Int)∧v0=v0∧l=l∧m=m∧True) (by kernel_rfl) ?_
   ·by_cases h:i=j
    ·subst h;exact h2
    ·exact h0 i (by omega)
   ·simp [za8 (i:=j) (by omega)]
  ·exact (zcD fun i hi=>h0 i (by omega)).symm
def eIdxW:Ent:=ent2 180 dInts dCloW fun l m=>([],.int .i64 (zaB (offB m) l),D2)
theorem zty:zae Tryz.prog eIdxW:=zar (zj6 [] 0).1 fun l m _=>zj6 l m
theorem zmN (l:List Int) (m:Int):FnC Tryz.prog 129 [dInts.can l,dCloW.can m] (.bool (l.any (offB m))) D2:=by
 refine FnG.of_vc (zah (zaa zty zad) fun _=>none) Tryz.func129 rfl (by decide) rfl 300 (p:=fun (V:List PE→Prop)=>True∧True∧decide ((zaB (offB m) l)≥0)=List.any l (offB m)∧True) (by kernel_rfl) ?_
 simp only [true_and,and_true]
 exact zjH l
def zyd:Ent:=ent2 129 dInts dCloW fun l m=>([],.bool (l.any (offB m)),D2)
theorem zri:zae Tryz.prog zyd:=zar (zmN [] 0).1 fun l m _=>zmN l m
theorem ziA (m:Int) (l:List Int):FnC Tryz.prog 56 [dInt.can m,dInts.can l] (.bool (!l.any (offB m))) D2:=by
 refine FnG.of_vc (zah (zaa zri zad) fun _=>none) Tryz.func56 rfl (by decide) rfl 300 (p:=fun (V:List PE→Prop)=>let v0:=!List.any l (offB m);True∧True∧v0=v0∧True) (by kernel_rfl) ?_
 simp
def zkN:Ent:=ent2 56 dInt dInts fun m l=>([],.bool (!l.any (offB m)),D2)
theorem zhj:zae Tryz.prog zkN:=zar (ziA 0 []).1 fun m l _=>ziA m l
def zav (n:Node):Config:=(za9 n.kept (zaq n.kept).1).1
theorem znX {k:Kept} (h:zaC k) (i:Int):zaw (cfgR k i).1:=by
 unfold cfgR
 split
 ·rename_i e he
  exact h.1.2 e (by have:=List.mem_of_find?_eq_some he;simpa using this)
 ·exact h.2
theorem zi5 {k:Kept} (h:zaC k) (i:Int):zaw (za9 k i).1:=by
 unfold za9
 split
 ·exact znX h i
 ·exact ⟨Nat.zero_le _,Nat.zero_le _⟩
theorem zcG {n:Node} (h:SmallN n):zaw (zav n):=zi5 h.k _
def tabN2:List Ent:=[zkg,zye,zcF,zuB]
theorem zl9:∀ e∈tabN2,zae Tryz.prog e:=zaa zej (zaa zt2 (zaa zbc (zaa zqK zad)))
theorem zkm (n:Node) (hn:SmallN n):FnC Tryz.prog 77 [dNode.can n] (.agg ((zav n).svs [1])) D2:=by
 refine FnG.of_vc (zah zl9 fun _=>none) Tryz.func77 rfl (by decide) rfl 300 (p:=fun (V:List PE→Prop)=>let v1:=Prod.fst (za9 n.kept (Prod.fst (zaq n.kept)));True∧True∧(zaC n.kept∧True)∧True∧v1.voters=Config.voters (zav n)∧v1.learners=Config.learners (zav n)∧True) (by kernel_rfl) ?_
 simp only [imp_self,implies_true,true_and,and_true,zaf,zag]
 exact ⟨hn.k,rfl,rfl⟩
theorem zfL (n:Node) (hn:SmallN n):FnC Tryz.prog 143 [dNode.can n] (.agg ((zav n).svs [1])) D2:=by
 refine FnG.of_vc (zah zl9 fun _=>none) Tryz.func143 rfl (by decide) rfl 300 (p:=fun (V:List PE→Prop)=>let v1:=Prod.fst (za9 n.kept (Prod.fst (zaq n.kept)));True∧True∧(zaC n.kept∧True)∧True∧v1.voters=Config.voters (zav n)∧v1.learners=Config.learners (zav n)∧True) (by kernel_rfl) ?_
 simp only [imp_self,implies_true,true_and,and_true,zaf,zag]
 exact ⟨hn.k,rfl,rfl⟩
def zhu:Ent:=ent1 77 dNode fun n=>([SmallN n],.agg ((zav n).svs [1]),D2)
theorem zdi:zae Tryz.prog zhu:=zan (zkm default zbE).1 fun l h=>zkm l (h _ (by simp))
def zit:Ent:=ent1 143 dNode fun n=>([SmallN n],.agg ((zav n).svs [1]),D2)
theorem zcd:zae Tryz.prog zit:=zan (zfL default zbE).1 fun l h=>zfL l (h _ (by simp))
def za7 (n:Node):List Int:=zbh (allC (zav n)) n.id
theorem zcp (c:Config):Asc (allC c)∧(allC c).length≤16:=by
 unfold allC
 split
 ·rename_i h
  have h2:=h
  unfold mayC at h2
  simp only [Bool.and_eq_true] at h2
  refine ⟨ze2 (isC_iff.1 h2.1.1.1.1).1,?_⟩
  have:=zmn h
  unfold zcM at this
  split at this
  ·split at this
   ·assumption
   ·simp at this
  ·simp at this
 ·exact ⟨List.Pairwise.nil,by simp⟩
theorem zsU (c:Config):isC (allC c)=true:=isC_iff.2 (zcp c)
noncomputable def tabN3:List Ent:=[zhu,zit,eAll,zxP,zij,zyb]
theorem zl8:∀ e∈tabN3,zae Tryz.prog e:=zaa zdi (zaa zcd (zaa zwp (zaa ztr (zaa zgi (zaa ziz zad)))))
theorem zjq (n:Node) (hn:SmallN n):FnC Tryz.prog 61 [dNode.can n] (.sl [1] (.rInts (za7 n))) D2:=by
 refine FnG.of_vc (zah zl8 fun _=>none) Tryz.func61 rfl (by decide) rfl 300 (p:=fun (V:List PE→Prop)=>True∧(SmallN n∧zaw (zav n)∧List.length (allC (zav n))≤1000000∧True)∧True∧zcl (allC (zav n)) n.id=za7 n∧True) (by kernel_rfl) ?_
 simp only [imp_self,implies_true,true_and,and_true,zaf,zag]
 have:=(zcp (zav n)).2
 refine ⟨⟨hn,zcG hn,by omega⟩,?_⟩
 rw [zcl,zsU];rfl
theorem zgP (n:Node) (hn:SmallN n):FnC Tryz.prog 119 [dNode.can n] (.sl [1] (.rInts (za7 n))) D2:=by
 refine FnG.of_vc (zah zl8 fun _=>none) Tryz.func119 rfl (by decide) rfl 300 (p:=fun (V:List PE→Prop)=>True∧(SmallN n∧zaw (zav n)∧List.length (allC (zav n))≤1000000∧True)∧zbh (allC (zav n)) n.id=za7 n∧True) (by kernel_rfl) ?_
 simp only [imp_self,implies_true,true_and,and_true,zaf,zag]
 have:=(zcp (zav n)).2
 exact ⟨⟨hn,zcG hn,by omega⟩,rfl⟩
def eOth:Ent:=ent1 61 dNode fun n=>([SmallN n],.sl [1] (.rInts (za7 n)),D2)
theorem zqR:zae Tryz.prog eOth:=zan (zjq default zbE).1 fun l h=>zjq l (h _ (by simp))
def zvV:Ent:=ent1 119 dNode fun n=>([SmallN n],.sl [1] (.rInts (za7 n)),D2)
theorem zm7:zae Tryz.prog zvV:=zan (zgP default zbE).1 fun l h=>zgP l (h _ (by simp))
end Go.Proofs.YteabcgkjbnecaaaGreat
